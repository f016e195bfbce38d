/- Merged texts: the pure machine and what the walks show. Conditions: as each statement says. -/
import Derived.Test.YtnabpdadlgofoaaQ3
set_option linter.unusedSimpArgs false
set_option linter.unusedVariables false
namespace Go.Proofs
open Go Go.Pe Go.Pm
set_option maxRecDepth 100000
set_option linter.unusedVariables false
theorem wt8 {x : Int} (h0 : 0 ≤ x) (h1 : x < 1000000) : IntKind.i64.wrap (x.tdiv 8) = x / 8 := by
 rw [Int.tdiv_eq_ediv_of_nonneg h0]
 exact Ab rfl (by omega) (by omega)
def qD (n a b k : Nat) (wb wp : Bool) (l : List Int) : DS := ⟨[(0, .ref 0 [] 1 0 n), (1, .int .i64 a), (2, .int .i64 b), (3, .int .i64 k), (8, .bool wb), (9, .bool wp)], [(0, Ac n l)]⟩
theorem W_z0 {n a b k : Nat} {wb wp : Bool} {l m : Liz} (hn : n < 65536) (hb : b ≤ n) (hab : a ≤ b) (h : b ≤ a + 12) (c1 : Pt 89 [(0, Ac n l)] [.ref 0 [] 1 0 n, .int .i64 a, .int .i64 b] [(0, Ac n m)] (.tup [])) : Wt Try.f78 [0] [(0, Ac n m)] (.tup []) (Aa Try.f78 0) (qD n a b k wb wp l) := by
 refine W.rtA [(2, aV (I6 ((b:Int) - (a:Int)))), (5, aT), (9, cC true [(0, 0)] c1)] [(0, 0)] [I6 (IntKind.wrap .i64 ((b:Int) - (a:Int))) = I6 ((b:Int) - (a:Int)), decide ((b:Int) - (a:Int) ≤ 12) = true, _] (ac (wj (by omega)) (ac (dT (by omega)) (ao (c1))))
theorem W_z1 {n a b : Nat} {wb wp : Bool} {l m : Liz} (hn : n < 65536) (hb : b ≤ n) (h : a + 12 < b) (c1 : Pt 90 [(0, Ac n l)] [.ref 0 [] 1 0 n, .int .i64 a, .int .i64 b] [(0, Ac n m)] (.tup [])) : Wt Try.f78 [0] [(0, Ac n m)] (.tup []) (Aa Try.f78 0) (qD n a b 0 wb wp l) := by
 refine W.rtA [(2, aV (I6 ((b:Int) - (a:Int)))), (5, aF), (6, aV (I6 0)), (11, cC true [(0, 0)] c1)] [(0, 0)] [I6 (IntKind.wrap .i64 ((b:Int) - (a:Int))) = I6 ((b:Int) - (a:Int)), decide ((b:Int) - (a:Int) ≤ 12) = false, I6 ↑(0 : Nat) = I6 0, _] (ac (wj (by omega)) (ac (dF (by omega)) (ac (cg (by omega)) (ao (c1)))))
theorem W_zt2tT {n a k mid q t : Nat} {wp ap : Bool} {l l1 l2 l3 l4 l5 m : Liz} (hn : n < 65536) (hb : (q + t + 1) ≤ n) (h : a + 12 < (q + t + 1)) (hk : k < 1000) (hp1 : a ≤ a + t) (hp2 : a + t < (q + t + 1)) (hq : a ≤ q) (c2 : Pt 92 [(0, Ac n l)] [.ref 0 [] 1 0 n, .int .i64 a, .int .i64 (((q + t + 1) : Nat) : Int)] [(0, Ac n l)] (.tup [.int .i64 (((a + t) : Nat) : Int), .int .i64 2])) (c3 : Pt 93 [(0, Ac n l)] [.ref 0 [] 1 0 n, .int .i64 a, .int .i64 (((q + t + 1) : Nat) : Int)] [(0, Ac n l2)] (.tup [])) (c4 : Pt 94 [(0, Ac n l2)] [.ref 0 [] 1 0 n, .int .i64 a, .int .i64 (((q + t + 1) : Nat) : Int)] [(0, Ac n m)] (.bool true)) : Wt Try.f78 [0] [(0, Ac n m)] (.tup []) (Aa Try.f78 0) (qD n a (q + t + 1) (k + 1) true true l) := by
 refine W.rtA [(2, aV (I6 ((q:Int) + (t:Int) + 1 - (a:Int)))), (5, aF), (13, cC true [(0, 0)] c2), (24, cC true [(0, 0)] c3), (26, aV (I6 ↑(q + t))), (29, aV (I6 t)), (30, aV (I6 q)), (44, cC true [(0, 0)] c4)] [(0, 0)] [I6 (IntKind.wrap .i64 ((↑(q + t + 1) : Int) - (a:Int))) = I6 ((q:Int) + (t:Int) + 1 - (a:Int)), decide ((q:Int) + (t:Int) + 1 - (a:Int) ≤ 12) = false, _, _, I6 (IntKind.wrap .i64 ((↑(q + t + 1) : Int) - 1)) = I6 ↑(q + t), I6 (IntKind.wrap .i64 ((↑(a + t) : Int) - (a:Int))) = I6 t, I6 (IntKind.wrap .i64 ((↑(q + t) : Int) - (t:Int))) = I6 q, _] (ac (wj (by omega)) (ac (dF (by omega)) (ac (c2) (ac (c3) (ac (cg (Ab (by omega) (by omega) (by omega))) (ac (cg (Ab (by omega) (by omega) (by omega))) (ac (cg (Ab (by omega) (by omega) (by omega))) (ao (c4)))))))))
theorem W_zt2tE {n a k mid q t : Nat} {wp ap : Bool} {l l1 l2 l3 l4 l5 m : Liz} (hn : n < 65536) (hb : (q + t + 1) ≤ n) (h : (a + 1) + 12 < (q + t + 1)) (hk : k < 1000) (hp1 : (a + 1) ≤ (a + 1) + t) (hp2 : (a + 1) + t < (q + t + 1)) (hq : (a + 1) ≤ q) (c2 : Pt 92 [(0, Ac n l)] [.ref 0 [] 1 0 n, .int .i64 (((a + 1) : Nat) : Int), .int .i64 (((q + t + 1) : Nat) : Int)] [(0, Ac n l)] (.tup [.int .i64 ((((a + 1) + t) : Nat) : Int), .int .i64 2])) (c3 : Pt 93 [(0, Ac n l)] [.ref 0 [] 1 0 n, .int .i64 (((a + 1) : Nat) : Int), .int .i64 (((q + t + 1) : Nat) : Int)] [(0, Ac n l2)] (.tup [])) (c4 : Pt 94 [(0, Ac n l2)] [.ref 0 [] 1 0 n, .int .i64 (((a + 1) : Nat) : Int), .int .i64 (((q + t + 1) : Nat) : Int)] [(0, Ac n l3)] (.bool false)) (hl : ¬ l3.getD a 0 < l3.getD q 0) (c5 : Pt 95 [(0, Ac n l3)] [.ref 0 [] 1 0 n, .int .i64 (((a + 1) : Nat) : Int), .int .i64 (((q + t + 1) : Nat) : Int), .int .i64 q] [(0, Ac n l4)] (.int .i64 mid)) (hw : Wt Try.f78 [0] [(0, Ac n m)] (.tup []) (Aa Try.f78 0) (qD n mid (q + t + 1) (k + 1) true true l4)) : Wt Try.f78 [0] [(0, Ac n m)] (.tup []) (Aa Try.f78 0) (qD n (a + 1) (q + t + 1) (k + 1) true true l) := by
 refine W.sgA 0 [(2, aV (I6 ((q:Int) + (t:Int) - (a:Int)))), (5, aF), (13, cC true [(0, 0)] c2), (15, aV (I6 ↑(a + t + 1))), (24, cC true [(0, 0)] c3), (26, aV (I6 ↑(q + t))), (29, aV (I6 t)), (30, aV (I6 q)), (44, cC true [(0, 0)] c4), (46, aT), (50, aV (I6 a)), (51, aV (PV.at 0 [Stp.idx a 1])), (55, aV (PV.at 0 [Stp.idx q 1])), (57, aK (PV.bool false)), (64, cC true [(0, 0)] c5)] [(0, 0)] (qD n mid (q + t + 1) (k + 1) true true l4) [I6 (IntKind.wrap .i64 ((↑(q + t + 1) : Int) - (↑(a + 1) : Int))) = I6 ((q:Int) + (t:Int) - (a:Int)), decide ((q:Int) + (t:Int) - (a:Int) ≤ 12) = false, _, I6 ↑(a + 1 + t) = I6 ↑(a + t + 1), _, I6 (IntKind.wrap .i64 ((↑(q + t + 1) : Int) - 1)) = I6 ↑(q + t), I6 (IntKind.wrap .i64 ((↑(a + t + 1) : Int) - (↑(a + 1) : Int))) = I6 t, I6 (IntKind.wrap .i64 ((↑(q + t) : Int) - (t:Int))) = I6 q, _, decide ((↑(a + 1) : Int) > 0) = true, I6 (IntKind.wrap .i64 ((↑(a + 1) : Int) - 1)) = I6 a, PV.at 0 [Stp.idx (0 + a) 1] = PV.at 0 [Stp.idx a 1], 0 ≤ (a:Int), (a:Int) < (n:Int), a < n, PV.at 0 [Stp.idx (0 + q) 1] = PV.at 0 [Stp.idx q 1], 0 ≤ (q:Int), (q:Int) < (n:Int), q < n, Pt 71 [] [U6 (List.getD l3 a (0 : Int)), U6 (List.getD l3 q (0 : Int))] [] (PV.bool false), _] (ac (cg (Ab (by omega) (by omega) (by omega))) (ac (dF (by omega)) (ac (c2) (ac (cg (by omega)) (ac (c3) (ac (cg (Ab (by omega) (by omega) (by omega))) (ac (cg (Ab (by omega) (by omega) (by omega))) (ac (cg (Ab (by omega) (by omega) (by omega))) (ac (c4) (ac (dT (by omega)) (ac (cg (Ab (by omega) (by omega) (by omega))) (ac (by simp only [Nat.zero_add]) (ob3 (by omega) (ac (by simp only [Nat.zero_add]) (ob3 (by omega) (ac (Bn _ _ (by first | omega | decide)) (ao (c5)))))))))))))))))) ?_
 exact hw
theorem W_zt2tL {n a k mid q t : Nat} {wp ap : Bool} {l l1 l2 l3 l4 l5 m : Liz} (hn : n < 65536) (hb : (q + t + 1) ≤ n) (h : a + 12 < (q + t + 1)) (hk : k < 1000) (hp1 : a ≤ a + t) (hp2 : a + t < (q + t + 1)) (hq : a ≤ q) (c2 : Pt 92 [(0, Ac n l)] [.ref 0 [] 1 0 n, .int .i64 a, .int .i64 (((q + t + 1) : Nat) : Int)] [(0, Ac n l)] (.tup [.int .i64 (((a + t) : Nat) : Int), .int .i64 2])) (c3 : Pt 93 [(0, Ac n l)] [.ref 0 [] 1 0 n, .int .i64 a, .int .i64 (((q + t + 1) : Nat) : Int)] [(0, Ac n l2)] (.tup [])) (c4 : Pt 94 [(0, Ac n l2)] [.ref 0 [] 1 0 n, .int .i64 a, .int .i64 (((q + t + 1) : Nat) : Int)] [(0, Ac n l3)] (.bool false)) (hl : a = 0 ∨ ∃ j, a = j + 1 ∧ l3.getD j 0 < l3.getD q 0) (c6 : Pt 96 [(0, Ac n l3)] [.ref 0 [] 1 0 n, .int .i64 a, .int .i64 (((q + t + 1) : Nat) : Int), .int .i64 q] [(0, Ac n l4)] (.tup [.int .i64 mid, .bool ap])) (hm1 : a ≤ mid) (hm2 : mid < (q + t + 1)) (hs : mid - a < (q + t + 1) - mid) (c7 : Pt 78 [(0, Ac n l4)] [.ref 0 [] 1 0 n, .int .i64 a, .int .i64 mid, .int .i64 (((k + 1) : Nat) : Int)] [(0, Ac n l5)] (.tup [])) {w : Bool} (hg : w = decide (((q + t + 1) - a) / 8 ≤ mid - a)) (hw : Wt Try.f78 [0] [(0, Ac n m)] (.tup []) (Aa Try.f78 0) (qD n (mid + 1) (q + t + 1) (k + 1) w ap l5)) : Wt Try.f78 [0] [(0, Ac n m)] (.tup []) (Aa Try.f78 0) (qD n a (q + t + 1) (k + 1) true true l) := by
 rcases hl with rfl | ⟨j, rfl, hl⟩
 ·refine W.seg [(1, aV (I6 0)), (2, aV (I6 (↑(q + t + 1) : Int))), (5, aF), (11, aV (I6 0)), (13, cC true [(0, 0)] c2), (14, aV (PV.tup [I6 (t:Int), I6 2])), (22, aV (I6 0)), (24, cC true [(0, 0)] c3), (26, aV (I6 (↑(q + t) : Int))), (28, aV (I6 0)), (29, aV (I6 (t:Int))), (30, aV (I6 (q:Int))), (42, aV (I6 0)), (44, cC true [(0, 0)] c4), (45, aV (I6 0)), (61, aV (I6 0)), (64, cC true [(0, 0)] c6), (73, aV (I6 0)), (74, aV (I6 (mid:Int))), (77, aV (I6 ((q:Int) + (t:Int) + 1 - (mid:Int)))), (81, aV (I6 (↑((q + t + 1) / 8) : Int))), (85, aT), (91, aV (I6 0)), (94, cC true [(0, 0)] c7), (96, aV (I6 (↑(mid + 1) : Int)))] [(0, 0)] (qD n (mid + 1) (q + t + 1) (k + 1) w ap l5) (todo' := Aa Try.f78 0) [I6 (↑(0 : Nat) : Int) = I6 0, I6 (IntKind.wrap .i64 ((↑(q + t + 1) : Int) - 0)) = I6 (↑(q + t + 1) : Int), decide ((↑(q + t + 1) : Int) ≤ 12) = false, I6 (↑(0 : Nat) : Int) = I6 0, _, PV.tup [I6 (↑(0 + t) : Int), I6 2] = PV.tup [I6 (t:Int), I6 2], I6 (↑(0 : Nat) : Int) = I6 0, _, I6 (IntKind.wrap .i64 ((↑(q + t + 1) : Int) - 1)) = I6 (↑(q + t) : Int), I6 (↑(0 : Nat) : Int) = I6 0, I6 (IntKind.wrap .i64 ((t:Int) - 0)) = I6 (t:Int), I6 (IntKind.wrap .i64 ((↑(q + t) : Int) - (t:Int))) = I6 (q:Int), I6 (↑(0 : Nat) : Int) = I6 0, _, I6 (↑(0 : Nat) : Int) = I6 0, I6 (↑(0 : Nat) : Int) = I6 0, _, I6 (↑(0 : Nat) : Int) = I6 0, I6 (IntKind.wrap .i64 ((mid:Int) - 0)) = I6 (mid:Int), I6 (IntKind.wrap .i64 ((↑(q + t + 1) : Int) - (mid:Int))) = I6 ((q:Int) + (t:Int) + 1 - (mid:Int)), I6 (IntKind.wrap .i64 (Int.tdiv (↑(q + t + 1) : Int) (8 : Int))) = I6 (↑((q + t + 1) / 8) : Int), (8 : Int) ≠ (0 : Int), decide ((mid:Int) < (q:Int) + (t:Int) + 1 - (mid:Int)) = true, I6 (↑(0 : Nat) : Int) = I6 0, _, I6 (IntKind.wrap .i64 ((mid:Int) + 1)) = I6 (↑(mid + 1) : Int), rr (PV.ref 0 [] 1 0 n), rr (I6 (↑(mid + 1) : Int)), rr (I6 (↑(q + t + 1) : Int)), rr (I6 (↑(k + 1) : Int)), PV.bool (decide ((mid:Int) ≥ (↑((q + t + 1) / 8) : Int))) = PV.bool w, rr (PV.bool ap), rr (B6 n l5)] (by kernel_rfl) (ac (cg (by omega)) (ac (cg (Ab rfl (by omega) (by omega))) (ac (dF (by omega)) (ac (cg (by omega)) (ac (c2) (ac (by simp only [Nat.zero_add]) (ac (cg (by omega)) (ac (c3) (ac (cg (Ab (by omega) (by omega) (by omega))) (ac (cg (by omega)) (ac (cg (Ab rfl (by omega) (by omega))) (ac (cg (Ab (by omega) (by omega) (by omega))) (ac (cg (by omega)) (ac (c4) (ac (cg (by omega)) (ac (cg (by omega)) (ac (c6) (ac (cg (by omega)) (ac (cg (Ab rfl (by omega) (by omega))) (ac (cg (Ab rfl (by omega) (by omega))) (ac (cg (Ab rfl (by omega) (by omega))) (ac (by omega) (ac (dT (by omega)) (ac (cg (by omega)) (ac (c7) (ac (cg (Ab rfl (by omega) (by omega))) (ac rfl (ac rfl (ac rfl (ac rfl (ac ?_ (ac rfl (ao rfl))))))))))))))))))))))))))))))))) ?_
  ·refine congrArg PV.bool ?_
   rw [hg, decide_eq_decide]
   first | omega | (rw [wt8 (by omega) (by omega)]; omega)
  ·exact hw
 ·refine W.seg [(2, aV (I6 ((q:Int) + (t:Int) - (j:Int)))), (5, aF), (13, cC true [(0, 0)] c2), (15, aV (I6 (↑(j + t + 1) : Int))), (24, cC true [(0, 0)] c3), (26, aV (I6 (↑(q + t) : Int))), (29, aV (I6 (t:Int))), (30, aV (I6 (q:Int))), (44, cC true [(0, 0)] c4), (46, aT), (50, aV (I6 (j:Int))), (51, aV (PV.at 0 [Stp.idx j 1])), (55, aV (PV.at 0 [Stp.idx q 1])), (57, aK (PV.bool true)), (64, cC true [(0, 0)] c6), (74, aV (I6 ((mid:Int) - (j:Int) - 1))), (77, aV (I6 ((q:Int) + (t:Int) + 1 - (mid:Int)))), (85, aT), (94, cC true [(0, 0)] c7), (96, aV (I6 (↑(mid + 1) : Int)))] [(0, 0)] (qD n (mid + 1) (q + t + 1) (k + 1) w ap l5) (todo' := Aa Try.f78 0) [I6 (IntKind.wrap .i64 ((↑(q + t + 1) : Int) - (↑(j + 1) : Int))) = I6 ((q:Int) + (t:Int) - (j:Int)), decide ((q:Int) + (t:Int) - (j:Int) ≤ 12) = false, _, I6 (↑(j + 1 + t) : Int) = I6 (↑(j + t + 1) : Int), _, I6 (IntKind.wrap .i64 ((↑(q + t + 1) : Int) - 1)) = I6 (↑(q + t) : Int), I6 (IntKind.wrap .i64 ((↑(j + t + 1) : Int) - (↑(j + 1) : Int))) = I6 (t:Int), I6 (IntKind.wrap .i64 ((↑(q + t) : Int) - (t:Int))) = I6 (q:Int), _, decide ((↑(j + 1) : Int) > 0) = true, I6 (IntKind.wrap .i64 ((↑(j + 1) : Int) - 1)) = I6 (j:Int), PV.at 0 [Stp.idx (0 + j) 1] = PV.at 0 [Stp.idx j 1], 0 ≤ (j:Int), (j:Int) < (n:Int), j < n, PV.at 0 [Stp.idx (0 + q) 1] = PV.at 0 [Stp.idx q 1], 0 ≤ (q:Int), (q:Int) < (n:Int), q < n, Pt 71 [] [U6 (List.getD l3 j (0 : Int)), U6 (List.getD l3 q (0 : Int))] [] (PV.bool true), _, I6 (IntKind.wrap .i64 ((mid:Int) - (↑(j + 1) : Int))) = I6 ((mid:Int) - (j:Int) - 1), I6 (IntKind.wrap .i64 ((↑(q + t + 1) : Int) - (mid:Int))) = I6 ((q:Int) + (t:Int) + 1 - (mid:Int)), (8 : Int) ≠ (0 : Int), decide ((mid:Int) - (j:Int) - 1 < (q:Int) + (t:Int) + 1 - (mid:Int)) = true, _, I6 (IntKind.wrap .i64 ((mid:Int) + 1)) = I6 (↑(mid + 1) : Int), rr (PV.ref 0 [] 1 0 n), rr (I6 (↑(mid + 1) : Int)), rr (I6 (↑(q + t + 1) : Int)), rr (I6 (↑(k + 1) : Int)), PV.bool (decide ((mid:Int) - (j:Int) - 1 ≥ IntKind.wrap .i64 (Int.tdiv ((q:Int) + (t:Int) - (j:Int)) (8 : Int)))) = PV.bool w, rr (PV.bool ap), rr (B6 n l5)] (by kernel_rfl) (ac (cg (Ab (by omega) (by omega) (by omega))) (ac (dF (by omega)) (ac (c2) (ac (cg (by omega)) (ac (c3) (ac (cg (Ab (by omega) (by omega) (by omega))) (ac (cg (Ab (by omega) (by omega) (by omega))) (ac (cg (Ab (by omega) (by omega) (by omega))) (ac (c4) (ac (dT (by omega)) (ac (cg (Ab (by omega) (by omega) (by omega))) (ac (by simp only [Nat.zero_add]) (ac (by omega) (ac (by omega) (ac (by omega) (ac (by simp only [Nat.zero_add]) (ac (by omega) (ac (by omega) (ac (by omega) (ac (AU _ _ (by first | omega | decide)) (ac (c6) (ac (cg (Ab (by omega) (by omega) (by omega))) (ac (cg (Ab rfl (by omega) (by omega))) (ac (by omega) (ac (dT (by omega)) (ac (c7) (ac (cg (Ab rfl (by omega) (by omega))) (ac rfl (ac rfl (ac rfl (ac rfl (ac ?_ (ac rfl (ao rfl)))))))))))))))))))))))))))))))))) ?_
  ·refine congrArg PV.bool ?_
   rw [hg, decide_eq_decide]
   first | omega | (rw [wt8 (by omega) (by omega)]; omega)
  ·exact hw
theorem W_zt2tR {n a k mid q t : Nat} {wp ap : Bool} {l l1 l2 l3 l4 l5 m : Liz} (hn : n < 65536) (hb : (q + t + 1) ≤ n) (h : a + 12 < (q + t + 1)) (hk : k < 1000) (hp1 : a ≤ a + t) (hp2 : a + t < (q + t + 1)) (hq : a ≤ q) (c2 : Pt 92 [(0, Ac n l)] [.ref 0 [] 1 0 n, .int .i64 a, .int .i64 (((q + t + 1) : Nat) : Int)] [(0, Ac n l)] (.tup [.int .i64 (((a + t) : Nat) : Int), .int .i64 2])) (c3 : Pt 93 [(0, Ac n l)] [.ref 0 [] 1 0 n, .int .i64 a, .int .i64 (((q + t + 1) : Nat) : Int)] [(0, Ac n l2)] (.tup [])) (c4 : Pt 94 [(0, Ac n l2)] [.ref 0 [] 1 0 n, .int .i64 a, .int .i64 (((q + t + 1) : Nat) : Int)] [(0, Ac n l3)] (.bool false)) (hl : a = 0 ∨ ∃ j, a = j + 1 ∧ l3.getD j 0 < l3.getD q 0) (c6 : Pt 96 [(0, Ac n l3)] [.ref 0 [] 1 0 n, .int .i64 a, .int .i64 (((q + t + 1) : Nat) : Int), .int .i64 q] [(0, Ac n l4)] (.tup [.int .i64 mid, .bool ap])) (hm1 : a ≤ mid) (hm2 : mid < (q + t + 1)) (hs : ¬ mid - a < (q + t + 1) - mid) (c7 : Pt 78 [(0, Ac n l4)] [.ref 0 [] 1 0 n, .int .i64 (((mid + 1) : Nat) : Int), .int .i64 (((q + t + 1) : Nat) : Int), .int .i64 (((k + 1) : Nat) : Int)] [(0, Ac n l5)] (.tup [])) {w : Bool} (hg : w = decide (((q + t + 1) - a) / 8 ≤ (q + t + 1) - mid)) (hw : Wt Try.f78 [0] [(0, Ac n m)] (.tup []) (Aa Try.f78 0) (qD n a mid (k + 1) w ap l5)) : Wt Try.f78 [0] [(0, Ac n m)] (.tup []) (Aa Try.f78 0) (qD n a (q + t + 1) (k + 1) true true l) := by
 rcases hl with rfl | ⟨j, rfl, hl⟩
 ·refine W.seg [(1, aV (I6 0)), (2, aV (I6 (↑(q + t + 1) : Int))), (5, aF), (11, aV (I6 0)), (13, cC true [(0, 0)] c2), (14, aV (PV.tup [I6 (t:Int), I6 2])), (22, aV (I6 0)), (24, cC true [(0, 0)] c3), (26, aV (I6 (↑(q + t) : Int))), (28, aV (I6 0)), (29, aV (I6 (t:Int))), (30, aV (I6 (q:Int))), (42, aV (I6 0)), (44, cC true [(0, 0)] c4), (45, aV (I6 0)), (61, aV (I6 0)), (64, cC true [(0, 0)] c6), (73, aV (I6 0)), (74, aV (I6 (mid:Int))), (77, aV (I6 ((q:Int) + (t:Int) + 1 - (mid:Int)))), (81, aV (I6 (↑((q + t + 1) / 8) : Int))), (85, aF), (92, aV (I6 (↑(mid + 1) : Int))), (95, cC true [(0, 0)] c7)] [(0, 0)] (qD n 0 mid (k + 1) w ap l5) (todo' := Aa Try.f78 0) [I6 (↑(0 : Nat) : Int) = I6 0, I6 (IntKind.wrap .i64 ((↑(q + t + 1) : Int) - 0)) = I6 (↑(q + t + 1) : Int), decide ((↑(q + t + 1) : Int) ≤ 12) = false, I6 (↑(0 : Nat) : Int) = I6 0, _, PV.tup [I6 (↑(0 + t) : Int), I6 2] = PV.tup [I6 (t:Int), I6 2], I6 (↑(0 : Nat) : Int) = I6 0, _, I6 (IntKind.wrap .i64 ((↑(q + t + 1) : Int) - 1)) = I6 (↑(q + t) : Int), I6 (↑(0 : Nat) : Int) = I6 0, I6 (IntKind.wrap .i64 ((t:Int) - 0)) = I6 (t:Int), I6 (IntKind.wrap .i64 ((↑(q + t) : Int) - (t:Int))) = I6 (q:Int), I6 (↑(0 : Nat) : Int) = I6 0, _, I6 (↑(0 : Nat) : Int) = I6 0, I6 (↑(0 : Nat) : Int) = I6 0, _, I6 (↑(0 : Nat) : Int) = I6 0, I6 (IntKind.wrap .i64 ((mid:Int) - 0)) = I6 (mid:Int), I6 (IntKind.wrap .i64 ((↑(q + t + 1) : Int) - (mid:Int))) = I6 ((q:Int) + (t:Int) + 1 - (mid:Int)), I6 (IntKind.wrap .i64 (Int.tdiv (↑(q + t + 1) : Int) (8 : Int))) = I6 (↑((q + t + 1) / 8) : Int), (8 : Int) ≠ (0 : Int), decide ((mid:Int) < (q:Int) + (t:Int) + 1 - (mid:Int)) = false, I6 (IntKind.wrap .i64 ((mid:Int) + 1)) = I6 (↑(mid + 1) : Int), _, rr (PV.ref 0 [] 1 0 n), rr (I6 (↑(0 : Nat) : Int)), rr (I6 (mid:Int)), rr (I6 (↑(k + 1) : Int)), PV.bool (decide ((q:Int) + (t:Int) + 1 - (mid:Int) ≥ (↑((q + t + 1) / 8) : Int))) = PV.bool w, rr (PV.bool ap), rr (B6 n l5)] (by kernel_rfl) (ac (cg (by omega)) (ac (cg (Ab rfl (by omega) (by omega))) (ac (dF (by omega)) (ac (cg (by omega)) (ac (c2) (ac (by simp only [Nat.zero_add]) (ac (cg (by omega)) (ac (c3) (ac (cg (Ab (by omega) (by omega) (by omega))) (ac (cg (by omega)) (ac (cg (Ab rfl (by omega) (by omega))) (ac (cg (Ab (by omega) (by omega) (by omega))) (ac (cg (by omega)) (ac (c4) (ac (cg (by omega)) (ac (cg (by omega)) (ac (c6) (ac (cg (by omega)) (ac (cg (Ab rfl (by omega) (by omega))) (ac (cg (Ab rfl (by omega) (by omega))) (ac (cg (Ab rfl (by omega) (by omega))) (ac (by omega) (ac (dF (by omega)) (ac (cg (Ab rfl (by omega) (by omega))) (ac (c7) (ac rfl (ac rfl (ac rfl (ac rfl (ac ?_ (ac rfl (ao rfl)))))))))))))))))))))))))))))))) ?_
  ·refine congrArg PV.bool ?_
   rw [hg, decide_eq_decide]
   first | omega | (rw [wt8 (by omega) (by omega)]; omega)
  ·exact hw
 ·refine W.seg [(2, aV (I6 ((q:Int) + (t:Int) - (j:Int)))), (5, aF), (13, cC true [(0, 0)] c2), (15, aV (I6 (↑(j + t + 1) : Int))), (24, cC true [(0, 0)] c3), (26, aV (I6 (↑(q + t) : Int))), (29, aV (I6 (t:Int))), (30, aV (I6 (q:Int))), (44, cC true [(0, 0)] c4), (46, aT), (50, aV (I6 (j:Int))), (51, aV (PV.at 0 [Stp.idx j 1])), (55, aV (PV.at 0 [Stp.idx q 1])), (57, aK (PV.bool true)), (64, cC true [(0, 0)] c6), (74, aV (I6 ((mid:Int) - (j:Int) - 1))), (77, aV (I6 ((q:Int) + (t:Int) + 1 - (mid:Int)))), (85, aF), (92, aV (I6 (↑(mid + 1) : Int))), (95, cC true [(0, 0)] c7)] [(0, 0)] (qD n (j + 1) mid (k + 1) w ap l5) (todo' := Aa Try.f78 0) [I6 (IntKind.wrap .i64 ((↑(q + t + 1) : Int) - (↑(j + 1) : Int))) = I6 ((q:Int) + (t:Int) - (j:Int)), decide ((q:Int) + (t:Int) - (j:Int) ≤ 12) = false, _, I6 (↑(j + 1 + t) : Int) = I6 (↑(j + t + 1) : Int), _, I6 (IntKind.wrap .i64 ((↑(q + t + 1) : Int) - 1)) = I6 (↑(q + t) : Int), I6 (IntKind.wrap .i64 ((↑(j + t + 1) : Int) - (↑(j + 1) : Int))) = I6 (t:Int), I6 (IntKind.wrap .i64 ((↑(q + t) : Int) - (t:Int))) = I6 (q:Int), _, decide ((↑(j + 1) : Int) > 0) = true, I6 (IntKind.wrap .i64 ((↑(j + 1) : Int) - 1)) = I6 (j:Int), PV.at 0 [Stp.idx (0 + j) 1] = PV.at 0 [Stp.idx j 1], 0 ≤ (j:Int), (j:Int) < (n:Int), j < n, PV.at 0 [Stp.idx (0 + q) 1] = PV.at 0 [Stp.idx q 1], 0 ≤ (q:Int), (q:Int) < (n:Int), q < n, Pt 71 [] [U6 (List.getD l3 j (0 : Int)), U6 (List.getD l3 q (0 : Int))] [] (PV.bool true), _, I6 (IntKind.wrap .i64 ((mid:Int) - (↑(j + 1) : Int))) = I6 ((mid:Int) - (j:Int) - 1), I6 (IntKind.wrap .i64 ((↑(q + t + 1) : Int) - (mid:Int))) = I6 ((q:Int) + (t:Int) + 1 - (mid:Int)), (8 : Int) ≠ (0 : Int), decide ((mid:Int) - (j:Int) - 1 < (q:Int) + (t:Int) + 1 - (mid:Int)) = false, I6 (IntKind.wrap .i64 ((mid:Int) + 1)) = I6 (↑(mid + 1) : Int), _, rr (PV.ref 0 [] 1 0 n), rr (I6 (↑(j + 1) : Int)), rr (I6 (mid:Int)), rr (I6 (↑(k + 1) : Int)), PV.bool (decide ((q:Int) + (t:Int) + 1 - (mid:Int) ≥ IntKind.wrap .i64 (Int.tdiv ((q:Int) + (t:Int) - (j:Int)) (8 : Int)))) = PV.bool w, rr (PV.bool ap), rr (B6 n l5)] (by kernel_rfl) (ac (cg (Ab (by omega) (by omega) (by omega))) (ac (dF (by omega)) (ac (c2) (ac (cg (by omega)) (ac (c3) (ac (cg (Ab (by omega) (by omega) (by omega))) (ac (cg (Ab (by omega) (by omega) (by omega))) (ac (cg (Ab (by omega) (by omega) (by omega))) (ac (c4) (ac (dT (by omega)) (ac (cg (Ab (by omega) (by omega) (by omega))) (ac (by simp only [Nat.zero_add]) (ac (by omega) (ac (by omega) (ac (by omega) (ac (by simp only [Nat.zero_add]) (ac (by omega) (ac (by omega) (ac (by omega) (ac (AU _ _ (by first | omega | decide)) (ac (c6) (ac (cg (Ab (by omega) (by omega) (by omega))) (ac (cg (Ab rfl (by omega) (by omega))) (ac (by omega) (ac (dF (by omega)) (ac (cg (Ab rfl (by omega) (by omega))) (ac (c7) (ac rfl (ac rfl (ac rfl (ac rfl (ac ?_ (ac rfl (ao rfl)))))))))))))))))))))))))))))))))) ?_
  ·refine congrArg PV.bool ?_
   rw [hg, decide_eq_decide]
   first | omega | (rw [wt8 (by omega) (by omega)]; omega)
  ·exact hw
theorem W_zt2fE {n a k mid q t : Nat} {wp ap : Bool} {l l1 l2 l3 l4 l5 m : Liz} (hn : n < 65536) (hb : (q + t + 1) ≤ n) (h : (a + 1) + 12 < (q + t + 1)) (hk : k < 1000) (hp1 : (a + 1) ≤ (a + 1) + t) (hp2 : (a + 1) + t < (q + t + 1)) (hq : (a + 1) ≤ q) (c2 : Pt 92 [(0, Ac n l)] [.ref 0 [] 1 0 n, .int .i64 (((a + 1) : Nat) : Int), .int .i64 (((q + t + 1) : Nat) : Int)] [(0, Ac n l)] (.tup [.int .i64 ((((a + 1) + t) : Nat) : Int), .int .i64 2])) (c3 : Pt 93 [(0, Ac n l)] [.ref 0 [] 1 0 n, .int .i64 (((a + 1) : Nat) : Int), .int .i64 (((q + t + 1) : Nat) : Int)] [(0, Ac n l2)] (.tup [])) (hl : ¬ l2.getD a 0 < l2.getD q 0) (c5 : Pt 95 [(0, Ac n l2)] [.ref 0 [] 1 0 n, .int .i64 (((a + 1) : Nat) : Int), .int .i64 (((q + t + 1) : Nat) : Int), .int .i64 q] [(0, Ac n l4)] (.int .i64 mid)) (hw : Wt Try.f78 [0] [(0, Ac n m)] (.tup []) (Aa Try.f78 0) (qD n mid (q + t + 1) (k + 1) true false l4)) : Wt Try.f78 [0] [(0, Ac n m)] (.tup []) (Aa Try.f78 0) (qD n (a + 1) (q + t + 1) (k + 1) true false l) := by
 refine W.sgA 0 [(2, aV (I6 ((q:Int) + (t:Int) - (a:Int)))), (5, aF), (13, cC true [(0, 0)] c2), (15, aV (I6 ↑(a + t + 1))), (24, cC true [(0, 0)] c3), (26, aV (I6 ↑(q + t))), (29, aV (I6 t)), (30, aV (I6 q)), (42, aT), (46, aV (I6 a)), (47, aV (PV.at 0 [Stp.idx a 1])), (51, aV (PV.at 0 [Stp.idx q 1])), (53, aK (PV.bool false)), (60, cC true [(0, 0)] c5)] [(0, 0)] (qD n mid (q + t + 1) (k + 1) true false l4) [I6 (IntKind.wrap .i64 ((↑(q + t + 1) : Int) - (↑(a + 1) : Int))) = I6 ((q:Int) + (t:Int) - (a:Int)), decide ((q:Int) + (t:Int) - (a:Int) ≤ 12) = false, _, I6 ↑(a + 1 + t) = I6 ↑(a + t + 1), _, I6 (IntKind.wrap .i64 ((↑(q + t + 1) : Int) - 1)) = I6 ↑(q + t), I6 (IntKind.wrap .i64 ((↑(a + t + 1) : Int) - (↑(a + 1) : Int))) = I6 t, I6 (IntKind.wrap .i64 ((↑(q + t) : Int) - (t:Int))) = I6 q, decide ((↑(a + 1) : Int) > 0) = true, I6 (IntKind.wrap .i64 ((↑(a + 1) : Int) - 1)) = I6 a, PV.at 0 [Stp.idx (0 + a) 1] = PV.at 0 [Stp.idx a 1], 0 ≤ (a:Int), (a:Int) < (n:Int), a < n, PV.at 0 [Stp.idx (0 + q) 1] = PV.at 0 [Stp.idx q 1], 0 ≤ (q:Int), (q:Int) < (n:Int), q < n, Pt 71 [] [U6 (List.getD l2 a (0 : Int)), U6 (List.getD l2 q (0 : Int))] [] (PV.bool false), _] (ac (cg (Ab (by omega) (by omega) (by omega))) (ac (dF (by omega)) (ac (c2) (ac (cg (by omega)) (ac (c3) (ac (cg (Ab (by omega) (by omega) (by omega))) (ac (cg (Ab (by omega) (by omega) (by omega))) (ac (cg (Ab (by omega) (by omega) (by omega))) (ac (dT (by omega)) (ac (cg (Ab (by omega) (by omega) (by omega))) (ac (by simp only [Nat.zero_add]) (ob3 (by omega) (ac (by simp only [Nat.zero_add]) (ob3 (by omega) (ac (Bn _ _ (by first | omega | decide)) (ao (c5))))))))))))))))) ?_
 exact hw
theorem W_zt2fL {n a k mid q t : Nat} {wp ap : Bool} {l l1 l2 l3 l4 l5 m : Liz} (hn : n < 65536) (hb : (q + t + 1) ≤ n) (h : a + 12 < (q + t + 1)) (hk : k < 1000) (hp1 : a ≤ a + t) (hp2 : a + t < (q + t + 1)) (hq : a ≤ q) (c2 : Pt 92 [(0, Ac n l)] [.ref 0 [] 1 0 n, .int .i64 a, .int .i64 (((q + t + 1) : Nat) : Int)] [(0, Ac n l)] (.tup [.int .i64 (((a + t) : Nat) : Int), .int .i64 2])) (c3 : Pt 93 [(0, Ac n l)] [.ref 0 [] 1 0 n, .int .i64 a, .int .i64 (((q + t + 1) : Nat) : Int)] [(0, Ac n l2)] (.tup [])) (hl : a = 0 ∨ ∃ j, a = j + 1 ∧ l2.getD j 0 < l2.getD q 0) (c6 : Pt 96 [(0, Ac n l2)] [.ref 0 [] 1 0 n, .int .i64 a, .int .i64 (((q + t + 1) : Nat) : Int), .int .i64 q] [(0, Ac n l4)] (.tup [.int .i64 mid, .bool ap])) (hm1 : a ≤ mid) (hm2 : mid < (q + t + 1)) (hs : mid - a < (q + t + 1) - mid) (c7 : Pt 78 [(0, Ac n l4)] [.ref 0 [] 1 0 n, .int .i64 a, .int .i64 mid, .int .i64 (((k + 1) : Nat) : Int)] [(0, Ac n l5)] (.tup [])) {w : Bool} (hg : w = decide (((q + t + 1) - a) / 8 ≤ mid - a)) (hw : Wt Try.f78 [0] [(0, Ac n m)] (.tup []) (Aa Try.f78 0) (qD n (mid + 1) (q + t + 1) (k + 1) w ap l5)) : Wt Try.f78 [0] [(0, Ac n m)] (.tup []) (Aa Try.f78 0) (qD n a (q + t + 1) (k + 1) true false l) := by
 rcases hl with rfl | ⟨j, rfl, hl⟩
 ·refine W.seg [(1, aV (I6 0)), (2, aV (I6 (↑(q + t + 1) : Int))), (5, aF), (11, aV (I6 0)), (13, cC true [(0, 0)] c2), (14, aV (PV.tup [I6 (t:Int), I6 2])), (22, aV (I6 0)), (24, cC true [(0, 0)] c3), (26, aV (I6 (↑(q + t) : Int))), (28, aV (I6 0)), (29, aV (I6 (t:Int))), (30, aV (I6 (q:Int))), (41, aV (I6 0)), (57, aV (I6 0)), (60, cC true [(0, 0)] c6), (69, aV (I6 0)), (70, aV (I6 (mid:Int))), (73, aV (I6 ((q:Int) + (t:Int) + 1 - (mid:Int)))), (77, aV (I6 (↑((q + t + 1) / 8) : Int))), (81, aT), (87, aV (I6 0)), (90, cC true [(0, 0)] c7), (92, aV (I6 (↑(mid + 1) : Int)))] [(0, 0)] (qD n (mid + 1) (q + t + 1) (k + 1) w ap l5) (todo' := Aa Try.f78 0) [I6 (↑(0 : Nat) : Int) = I6 0, I6 (IntKind.wrap .i64 ((↑(q + t + 1) : Int) - 0)) = I6 (↑(q + t + 1) : Int), decide ((↑(q + t + 1) : Int) ≤ 12) = false, I6 (↑(0 : Nat) : Int) = I6 0, _, PV.tup [I6 (↑(0 + t) : Int), I6 2] = PV.tup [I6 (t:Int), I6 2], I6 (↑(0 : Nat) : Int) = I6 0, _, I6 (IntKind.wrap .i64 ((↑(q + t + 1) : Int) - 1)) = I6 (↑(q + t) : Int), I6 (↑(0 : Nat) : Int) = I6 0, I6 (IntKind.wrap .i64 ((t:Int) - 0)) = I6 (t:Int), I6 (IntKind.wrap .i64 ((↑(q + t) : Int) - (t:Int))) = I6 (q:Int), I6 (↑(0 : Nat) : Int) = I6 0, I6 (↑(0 : Nat) : Int) = I6 0, _, I6 (↑(0 : Nat) : Int) = I6 0, I6 (IntKind.wrap .i64 ((mid:Int) - 0)) = I6 (mid:Int), I6 (IntKind.wrap .i64 ((↑(q + t + 1) : Int) - (mid:Int))) = I6 ((q:Int) + (t:Int) + 1 - (mid:Int)), I6 (IntKind.wrap .i64 (Int.tdiv (↑(q + t + 1) : Int) (8 : Int))) = I6 (↑((q + t + 1) / 8) : Int), (8 : Int) ≠ (0 : Int), decide ((mid:Int) < (q:Int) + (t:Int) + 1 - (mid:Int)) = true, I6 (↑(0 : Nat) : Int) = I6 0, _, I6 (IntKind.wrap .i64 ((mid:Int) + 1)) = I6 (↑(mid + 1) : Int), rr (PV.ref 0 [] 1 0 n), rr (I6 (↑(mid + 1) : Int)), rr (I6 (↑(q + t + 1) : Int)), rr (I6 (↑(k + 1) : Int)), PV.bool (decide ((mid:Int) ≥ (↑((q + t + 1) / 8) : Int))) = PV.bool w, rr (PV.bool ap), rr (B6 n l5)] (by kernel_rfl) (ac (cg (by omega)) (ac (cg (Ab rfl (by omega) (by omega))) (ac (dF (by omega)) (ac (cg (by omega)) (ac (c2) (ac (by simp only [Nat.zero_add]) (ac (cg (by omega)) (ac (c3) (ac (cg (Ab (by omega) (by omega) (by omega))) (ac (cg (by omega)) (ac (cg (Ab rfl (by omega) (by omega))) (ac (cg (Ab (by omega) (by omega) (by omega))) (ac (cg (by omega)) (ac (cg (by omega)) (ac (c6) (ac (cg (by omega)) (ac (cg (Ab rfl (by omega) (by omega))) (ac (cg (Ab rfl (by omega) (by omega))) (ac (cg (Ab rfl (by omega) (by omega))) (ac (by omega) (ac (dT (by omega)) (ac (cg (by omega)) (ac (c7) (ac (cg (Ab rfl (by omega) (by omega))) (ac rfl (ac rfl (ac rfl (ac rfl (ac ?_ (ac rfl (ao rfl))))))))))))))))))))))))))))))) ?_
  ·refine congrArg PV.bool ?_
   rw [hg, decide_eq_decide]
   first | omega | (rw [wt8 (by omega) (by omega)]; omega)
  ·exact hw
 ·refine W.seg [(2, aV (I6 ((q:Int) + (t:Int) - (j:Int)))), (5, aF), (13, cC true [(0, 0)] c2), (15, aV (I6 (↑(j + t + 1) : Int))), (24, cC true [(0, 0)] c3), (26, aV (I6 (↑(q + t) : Int))), (29, aV (I6 (t:Int))), (30, aV (I6 (q:Int))), (42, aT), (46, aV (I6 (j:Int))), (47, aV (PV.at 0 [Stp.idx j 1])), (51, aV (PV.at 0 [Stp.idx q 1])), (53, aK (PV.bool true)), (60, cC true [(0, 0)] c6), (70, aV (I6 ((mid:Int) - (j:Int) - 1))), (73, aV (I6 ((q:Int) + (t:Int) + 1 - (mid:Int)))), (81, aT), (90, cC true [(0, 0)] c7), (92, aV (I6 (↑(mid + 1) : Int)))] [(0, 0)] (qD n (mid + 1) (q + t + 1) (k + 1) w ap l5) (todo' := Aa Try.f78 0) [I6 (IntKind.wrap .i64 ((↑(q + t + 1) : Int) - (↑(j + 1) : Int))) = I6 ((q:Int) + (t:Int) - (j:Int)), decide ((q:Int) + (t:Int) - (j:Int) ≤ 12) = false, _, I6 (↑(j + 1 + t) : Int) = I6 (↑(j + t + 1) : Int), _, I6 (IntKind.wrap .i64 ((↑(q + t + 1) : Int) - 1)) = I6 (↑(q + t) : Int), I6 (IntKind.wrap .i64 ((↑(j + t + 1) : Int) - (↑(j + 1) : Int))) = I6 (t:Int), I6 (IntKind.wrap .i64 ((↑(q + t) : Int) - (t:Int))) = I6 (q:Int), decide ((↑(j + 1) : Int) > 0) = true, I6 (IntKind.wrap .i64 ((↑(j + 1) : Int) - 1)) = I6 (j:Int), PV.at 0 [Stp.idx (0 + j) 1] = PV.at 0 [Stp.idx j 1], 0 ≤ (j:Int), (j:Int) < (n:Int), j < n, PV.at 0 [Stp.idx (0 + q) 1] = PV.at 0 [Stp.idx q 1], 0 ≤ (q:Int), (q:Int) < (n:Int), q < n, Pt 71 [] [U6 (List.getD l2 j (0 : Int)), U6 (List.getD l2 q (0 : Int))] [] (PV.bool true), _, I6 (IntKind.wrap .i64 ((mid:Int) - (↑(j + 1) : Int))) = I6 ((mid:Int) - (j:Int) - 1), I6 (IntKind.wrap .i64 ((↑(q + t + 1) : Int) - (mid:Int))) = I6 ((q:Int) + (t:Int) + 1 - (mid:Int)), (8 : Int) ≠ (0 : Int), decide ((mid:Int) - (j:Int) - 1 < (q:Int) + (t:Int) + 1 - (mid:Int)) = true, _, I6 (IntKind.wrap .i64 ((mid:Int) + 1)) = I6 (↑(mid + 1) : Int), rr (PV.ref 0 [] 1 0 n), rr (I6 (↑(mid + 1) : Int)), rr (I6 (↑(q + t + 1) : Int)), rr (I6 (↑(k + 1) : Int)), PV.bool (decide ((mid:Int) - (j:Int) - 1 ≥ IntKind.wrap .i64 (Int.tdiv ((q:Int) + (t:Int) - (j:Int)) (8 : Int)))) = PV.bool w, rr (PV.bool ap), rr (B6 n l5)] (by kernel_rfl) (ac (cg (Ab (by omega) (by omega) (by omega))) (ac (dF (by omega)) (ac (c2) (ac (cg (by omega)) (ac (c3) (ac (cg (Ab (by omega) (by omega) (by omega))) (ac (cg (Ab (by omega) (by omega) (by omega))) (ac (cg (Ab (by omega) (by omega) (by omega))) (ac (dT (by omega)) (ac (cg (Ab (by omega) (by omega) (by omega))) (ac (by simp only [Nat.zero_add]) (ac (by omega) (ac (by omega) (ac (by omega) (ac (by simp only [Nat.zero_add]) (ac (by omega) (ac (by omega) (ac (by omega) (ac (AU _ _ (by first | omega | decide)) (ac (c6) (ac (cg (Ab (by omega) (by omega) (by omega))) (ac (cg (Ab rfl (by omega) (by omega))) (ac (by omega) (ac (dT (by omega)) (ac (c7) (ac (cg (Ab rfl (by omega) (by omega))) (ac rfl (ac rfl (ac rfl (ac rfl (ac ?_ (ac rfl (ao rfl))))))))))))))))))))))))))))))))) ?_
  ·refine congrArg PV.bool ?_
   rw [hg, decide_eq_decide]
   first | omega | (rw [wt8 (by omega) (by omega)]; omega)
  ·exact hw
theorem W_zt2fR {n a k mid q t : Nat} {wp ap : Bool} {l l1 l2 l3 l4 l5 m : Liz} (hn : n < 65536) (hb : (q + t + 1) ≤ n) (h : a + 12 < (q + t + 1)) (hk : k < 1000) (hp1 : a ≤ a + t) (hp2 : a + t < (q + t + 1)) (hq : a ≤ q) (c2 : Pt 92 [(0, Ac n l)] [.ref 0 [] 1 0 n, .int .i64 a, .int .i64 (((q + t + 1) : Nat) : Int)] [(0, Ac n l)] (.tup [.int .i64 (((a + t) : Nat) : Int), .int .i64 2])) (c3 : Pt 93 [(0, Ac n l)] [.ref 0 [] 1 0 n, .int .i64 a, .int .i64 (((q + t + 1) : Nat) : Int)] [(0, Ac n l2)] (.tup [])) (hl : a = 0 ∨ ∃ j, a = j + 1 ∧ l2.getD j 0 < l2.getD q 0) (c6 : Pt 96 [(0, Ac n l2)] [.ref 0 [] 1 0 n, .int .i64 a, .int .i64 (((q + t + 1) : Nat) : Int), .int .i64 q] [(0, Ac n l4)] (.tup [.int .i64 mid, .bool ap])) (hm1 : a ≤ mid) (hm2 : mid < (q + t + 1)) (hs : ¬ mid - a < (q + t + 1) - mid) (c7 : Pt 78 [(0, Ac n l4)] [.ref 0 [] 1 0 n, .int .i64 (((mid + 1) : Nat) : Int), .int .i64 (((q + t + 1) : Nat) : Int), .int .i64 (((k + 1) : Nat) : Int)] [(0, Ac n l5)] (.tup [])) {w : Bool} (hg : w = decide (((q + t + 1) - a) / 8 ≤ (q + t + 1) - mid)) (hw : Wt Try.f78 [0] [(0, Ac n m)] (.tup []) (Aa Try.f78 0) (qD n a mid (k + 1) w ap l5)) : Wt Try.f78 [0] [(0, Ac n m)] (.tup []) (Aa Try.f78 0) (qD n a (q + t + 1) (k + 1) true false l) := by
 rcases hl with rfl | ⟨j, rfl, hl⟩
 ·refine W.seg [(1, aV (I6 0)), (2, aV (I6 (↑(q + t + 1) : Int))), (5, aF), (11, aV (I6 0)), (13, cC true [(0, 0)] c2), (14, aV (PV.tup [I6 (t:Int), I6 2])), (22, aV (I6 0)), (24, cC true [(0, 0)] c3), (26, aV (I6 (↑(q + t) : Int))), (28, aV (I6 0)), (29, aV (I6 (t:Int))), (30, aV (I6 (q:Int))), (41, aV (I6 0)), (57, aV (I6 0)), (60, cC true [(0, 0)] c6), (69, aV (I6 0)), (70, aV (I6 (mid:Int))), (73, aV (I6 ((q:Int) + (t:Int) + 1 - (mid:Int)))), (77, aV (I6 (↑((q + t + 1) / 8) : Int))), (81, aF), (88, aV (I6 (↑(mid + 1) : Int))), (91, cC true [(0, 0)] c7)] [(0, 0)] (qD n 0 mid (k + 1) w ap l5) (todo' := Aa Try.f78 0) [I6 (↑(0 : Nat) : Int) = I6 0, I6 (IntKind.wrap .i64 ((↑(q + t + 1) : Int) - 0)) = I6 (↑(q + t + 1) : Int), decide ((↑(q + t + 1) : Int) ≤ 12) = false, I6 (↑(0 : Nat) : Int) = I6 0, _, PV.tup [I6 (↑(0 + t) : Int), I6 2] = PV.tup [I6 (t:Int), I6 2], I6 (↑(0 : Nat) : Int) = I6 0, _, I6 (IntKind.wrap .i64 ((↑(q + t + 1) : Int) - 1)) = I6 (↑(q + t) : Int), I6 (↑(0 : Nat) : Int) = I6 0, I6 (IntKind.wrap .i64 ((t:Int) - 0)) = I6 (t:Int), I6 (IntKind.wrap .i64 ((↑(q + t) : Int) - (t:Int))) = I6 (q:Int), I6 (↑(0 : Nat) : Int) = I6 0, I6 (↑(0 : Nat) : Int) = I6 0, _, I6 (↑(0 : Nat) : Int) = I6 0, I6 (IntKind.wrap .i64 ((mid:Int) - 0)) = I6 (mid:Int), I6 (IntKind.wrap .i64 ((↑(q + t + 1) : Int) - (mid:Int))) = I6 ((q:Int) + (t:Int) + 1 - (mid:Int)), I6 (IntKind.wrap .i64 (Int.tdiv (↑(q + t + 1) : Int) (8 : Int))) = I6 (↑((q + t + 1) / 8) : Int), (8 : Int) ≠ (0 : Int), decide ((mid:Int) < (q:Int) + (t:Int) + 1 - (mid:Int)) = false, I6 (IntKind.wrap .i64 ((mid:Int) + 1)) = I6 (↑(mid + 1) : Int), _, rr (PV.ref 0 [] 1 0 n), rr (I6 (↑(0 : Nat) : Int)), rr (I6 (mid:Int)), rr (I6 (↑(k + 1) : Int)), PV.bool (decide ((q:Int) + (t:Int) + 1 - (mid:Int) ≥ (↑((q + t + 1) / 8) : Int))) = PV.bool w, rr (PV.bool ap), rr (B6 n l5)] (by kernel_rfl) (ac (cg (by omega)) (ac (cg (Ab rfl (by omega) (by omega))) (ac (dF (by omega)) (ac (cg (by omega)) (ac (c2) (ac (by simp only [Nat.zero_add]) (ac (cg (by omega)) (ac (c3) (ac (cg (Ab (by omega) (by omega) (by omega))) (ac (cg (by omega)) (ac (cg (Ab rfl (by omega) (by omega))) (ac (cg (Ab (by omega) (by omega) (by omega))) (ac (cg (by omega)) (ac (cg (by omega)) (ac (c6) (ac (cg (by omega)) (ac (cg (Ab rfl (by omega) (by omega))) (ac (cg (Ab rfl (by omega) (by omega))) (ac (cg (Ab rfl (by omega) (by omega))) (ac (by omega) (ac (dF (by omega)) (ac (cg (Ab rfl (by omega) (by omega))) (ac (c7) (ac rfl (ac rfl (ac rfl (ac rfl (ac ?_ (ac rfl (ao rfl)))))))))))))))))))))))))))))) ?_
  ·refine congrArg PV.bool ?_
   rw [hg, decide_eq_decide]
   first | omega | (rw [wt8 (by omega) (by omega)]; omega)
  ·exact hw
 ·refine W.seg [(2, aV (I6 ((q:Int) + (t:Int) - (j:Int)))), (5, aF), (13, cC true [(0, 0)] c2), (15, aV (I6 (↑(j + t + 1) : Int))), (24, cC true [(0, 0)] c3), (26, aV (I6 (↑(q + t) : Int))), (29, aV (I6 (t:Int))), (30, aV (I6 (q:Int))), (42, aT), (46, aV (I6 (j:Int))), (47, aV (PV.at 0 [Stp.idx j 1])), (51, aV (PV.at 0 [Stp.idx q 1])), (53, aK (PV.bool true)), (60, cC true [(0, 0)] c6), (70, aV (I6 ((mid:Int) - (j:Int) - 1))), (73, aV (I6 ((q:Int) + (t:Int) + 1 - (mid:Int)))), (81, aF), (88, aV (I6 (↑(mid + 1) : Int))), (91, cC true [(0, 0)] c7)] [(0, 0)] (qD n (j + 1) mid (k + 1) w ap l5) (todo' := Aa Try.f78 0) [I6 (IntKind.wrap .i64 ((↑(q + t + 1) : Int) - (↑(j + 1) : Int))) = I6 ((q:Int) + (t:Int) - (j:Int)), decide ((q:Int) + (t:Int) - (j:Int) ≤ 12) = false, _, I6 (↑(j + 1 + t) : Int) = I6 (↑(j + t + 1) : Int), _, I6 (IntKind.wrap .i64 ((↑(q + t + 1) : Int) - 1)) = I6 (↑(q + t) : Int), I6 (IntKind.wrap .i64 ((↑(j + t + 1) : Int) - (↑(j + 1) : Int))) = I6 (t:Int), I6 (IntKind.wrap .i64 ((↑(q + t) : Int) - (t:Int))) = I6 (q:Int), decide ((↑(j + 1) : Int) > 0) = true, I6 (IntKind.wrap .i64 ((↑(j + 1) : Int) - 1)) = I6 (j:Int), PV.at 0 [Stp.idx (0 + j) 1] = PV.at 0 [Stp.idx j 1], 0 ≤ (j:Int), (j:Int) < (n:Int), j < n, PV.at 0 [Stp.idx (0 + q) 1] = PV.at 0 [Stp.idx q 1], 0 ≤ (q:Int), (q:Int) < (n:Int), q < n, Pt 71 [] [U6 (List.getD l2 j (0 : Int)), U6 (List.getD l2 q (0 : Int))] [] (PV.bool true), _, I6 (IntKind.wrap .i64 ((mid:Int) - (↑(j + 1) : Int))) = I6 ((mid:Int) - (j:Int) - 1), I6 (IntKind.wrap .i64 ((↑(q + t + 1) : Int) - (mid:Int))) = I6 ((q:Int) + (t:Int) + 1 - (mid:Int)), (8 : Int) ≠ (0 : Int), decide ((mid:Int) - (j:Int) - 1 < (q:Int) + (t:Int) + 1 - (mid:Int)) = false, I6 (IntKind.wrap .i64 ((mid:Int) + 1)) = I6 (↑(mid + 1) : Int), _, rr (PV.ref 0 [] 1 0 n), rr (I6 (↑(j + 1) : Int)), rr (I6 (mid:Int)), rr (I6 (↑(k + 1) : Int)), PV.bool (decide ((q:Int) + (t:Int) + 1 - (mid:Int) ≥ IntKind.wrap .i64 (Int.tdiv ((q:Int) + (t:Int) - (j:Int)) (8 : Int)))) = PV.bool w, rr (PV.bool ap), rr (B6 n l5)] (by kernel_rfl) (ac (cg (Ab (by omega) (by omega) (by omega))) (ac (dF (by omega)) (ac (c2) (ac (cg (by omega)) (ac (c3) (ac (cg (Ab (by omega) (by omega) (by omega))) (ac (cg (Ab (by omega) (by omega) (by omega))) (ac (cg (Ab (by omega) (by omega) (by omega))) (ac (dT (by omega)) (ac (cg (Ab (by omega) (by omega) (by omega))) (ac (by simp only [Nat.zero_add]) (ac (by omega) (ac (by omega) (ac (by omega) (ac (by simp only [Nat.zero_add]) (ac (by omega) (ac (by omega) (ac (by omega) (ac (AU _ _ (by first | omega | decide)) (ac (c6) (ac (cg (Ab (by omega) (by omega) (by omega))) (ac (cg (Ab rfl (by omega) (by omega))) (ac (by omega) (ac (dF (by omega)) (ac (cg (Ab rfl (by omega) (by omega))) (ac (c7) (ac rfl (ac rfl (ac rfl (ac rfl (ac ?_ (ac rfl (ao rfl))))))))))))))))))))))))))))))))) ?_
  ·refine congrArg PV.bool ?_
   rw [hg, decide_eq_decide]
   first | omega | (rw [wt8 (by omega) (by omega)]; omega)
  ·exact hw
theorem W_zt1tT {n a k mid b p : Nat} {wp ap : Bool} {l l1 l2 l3 l4 l5 m : Liz} (hn : n < 65536) (hb : b ≤ n) (h : a + 12 < b) (hk : k < 1000) (hp1 : a ≤ p) (hp2 : p < b) (hq : True) (c2 : Pt 92 [(0, Ac n l)] [.ref 0 [] 1 0 n, .int .i64 a, .int .i64 b] [(0, Ac n l)] (.tup [.int .i64 p, .int .i64 1])) (c4 : Pt 94 [(0, Ac n l)] [.ref 0 [] 1 0 n, .int .i64 a, .int .i64 b] [(0, Ac n m)] (.bool true)) : Wt Try.f78 [0] [(0, Ac n m)] (.tup []) (Aa Try.f78 0) (qD n a b (k + 1) true true l) := by
 refine W.rtA [(2, aV (I6 ((b:Int) - (a:Int)))), (5, aF), (13, cC true [(0, 0)] c2), (32, cC true [(0, 0)] c4)] [(0, 0)] [I6 (IntKind.wrap .i64 ((b:Int) - (a:Int))) = I6 ((b:Int) - (a:Int)), decide ((b:Int) - (a:Int) ≤ 12) = false, _, _] (ac (wj (by omega)) (ac (dF (by omega)) (ac (c2) (ao (c4)))))
theorem W_zt1tE {n a k mid b p : Nat} {wp ap : Bool} {l l1 l2 l3 l4 l5 m : Liz} (hn : n < 65536) (hb : b ≤ n) (h : (a + 1) + 12 < b) (hk : k < 1000) (hp1 : (a + 1) ≤ p) (hp2 : p < b) (hq : True) (c2 : Pt 92 [(0, Ac n l)] [.ref 0 [] 1 0 n, .int .i64 (((a + 1) : Nat) : Int), .int .i64 b] [(0, Ac n l)] (.tup [.int .i64 p, .int .i64 1])) (c4 : Pt 94 [(0, Ac n l)] [.ref 0 [] 1 0 n, .int .i64 (((a + 1) : Nat) : Int), .int .i64 b] [(0, Ac n l3)] (.bool false)) (hl : ¬ l3.getD a 0 < l3.getD p 0) (c5 : Pt 95 [(0, Ac n l3)] [.ref 0 [] 1 0 n, .int .i64 (((a + 1) : Nat) : Int), .int .i64 b, .int .i64 p] [(0, Ac n l4)] (.int .i64 mid)) (hw : Wt Try.f78 [0] [(0, Ac n m)] (.tup []) (Aa Try.f78 0) (qD n mid b (k + 1) true true l4)) : Wt Try.f78 [0] [(0, Ac n m)] (.tup []) (Aa Try.f78 0) (qD n (a + 1) b (k + 1) true true l) := by
 refine W.sgA 0 [(2, aV (I6 ((b:Int) - (a:Int) - 1))), (5, aF), (13, cC true [(0, 0)] c2), (32, cC true [(0, 0)] c4), (34, aT), (38, aV (I6 a)), (39, aV (PV.at 0 [Stp.idx a 1])), (43, aV (PV.at 0 [Stp.idx p 1])), (45, aK (PV.bool false)), (52, cC true [(0, 0)] c5)] [(0, 0)] (qD n mid b (k + 1) true true l4) [I6 (IntKind.wrap .i64 ((b:Int) - (↑(a + 1) : Int))) = I6 ((b:Int) - (a:Int) - 1), decide ((b:Int) - (a:Int) - 1 ≤ (12 : Int)) = false, _, _, decide ((↑(a + 1) : Int) > 0) = true, I6 (IntKind.wrap .i64 ((↑(a + 1) : Int) - 1)) = I6 a, PV.at 0 [Stp.idx (0 + a) 1] = PV.at 0 [Stp.idx a 1], 0 ≤ (a:Int), (a:Int) < (n:Int), a < n, PV.at 0 [Stp.idx (0 + p) 1] = PV.at 0 [Stp.idx p 1], 0 ≤ (p:Int), (p:Int) < (n:Int), p < n, Pt 71 [] [U6 (List.getD l3 a (0 : Int)), U6 (List.getD l3 p (0 : Int))] [] (PV.bool false), _] (ac (cg (Ab (by omega) (by omega) (by omega))) (ac (dF (by omega)) (ac (c2) (ac (c4) (ac (dT (by omega)) (ac (cg (Ab (by omega) (by omega) (by omega))) (ac (by simp only [Nat.zero_add]) (ob3 (by omega) (ac (by simp only [Nat.zero_add]) (ob3 (by omega) (ac (Bn _ _ (by first | omega | decide)) (ao (c5))))))))))))) ?_
 exact hw
theorem W_zt1tL {n a k mid b p : Nat} {wp ap : Bool} {l l1 l2 l3 l4 l5 m : Liz} (hn : n < 65536) (hb : b ≤ n) (h : a + 12 < b) (hk : k < 1000) (hp1 : a ≤ p) (hp2 : p < b) (hq : True) (c2 : Pt 92 [(0, Ac n l)] [.ref 0 [] 1 0 n, .int .i64 a, .int .i64 b] [(0, Ac n l)] (.tup [.int .i64 p, .int .i64 1])) (c4 : Pt 94 [(0, Ac n l)] [.ref 0 [] 1 0 n, .int .i64 a, .int .i64 b] [(0, Ac n l3)] (.bool false)) (hl : a = 0 ∨ ∃ j, a = j + 1 ∧ l3.getD j 0 < l3.getD p 0) (c6 : Pt 96 [(0, Ac n l3)] [.ref 0 [] 1 0 n, .int .i64 a, .int .i64 b, .int .i64 p] [(0, Ac n l4)] (.tup [.int .i64 mid, .bool ap])) (hm1 : a ≤ mid) (hm2 : mid < b) (hs : mid - a < b - mid) (c7 : Pt 78 [(0, Ac n l4)] [.ref 0 [] 1 0 n, .int .i64 a, .int .i64 mid, .int .i64 (((k + 1) : Nat) : Int)] [(0, Ac n l5)] (.tup [])) {w : Bool} (hg : w = decide ((b - a) / 8 ≤ mid - a)) (hw : Wt Try.f78 [0] [(0, Ac n m)] (.tup []) (Aa Try.f78 0) (qD n (mid + 1) b (k + 1) w ap l5)) : Wt Try.f78 [0] [(0, Ac n m)] (.tup []) (Aa Try.f78 0) (qD n a b (k + 1) true true l) := by
 rcases hl with rfl | ⟨j, rfl, hl⟩
 ·refine W.seg [(1, aV (I6 0)), (2, aV (I6 (b:Int))), (5, aF), (11, aV (I6 0)), (13, cC true [(0, 0)] c2), (30, aV (I6 0)), (32, cC true [(0, 0)] c4), (33, aV (I6 0)), (49, aV (I6 0)), (52, cC true [(0, 0)] c6), (61, aV (I6 0)), (62, aV (I6 (mid:Int))), (65, aV (I6 ((b:Int) - (mid:Int)))), (69, aV (I6 (↑(b / 8) : Int))), (73, aT), (79, aV (I6 0)), (82, cC true [(0, 0)] c7), (84, aV (I6 (↑(mid + 1) : Int)))] [(0, 0)] (qD n (mid + 1) b (k + 1) w ap l5) (todo' := Aa Try.f78 0) [I6 (↑(0 : Nat) : Int) = I6 0, I6 (IntKind.wrap .i64 ((b:Int) - 0)) = I6 (b:Int), decide ((b:Int) ≤ 12) = false, I6 (↑(0 : Nat) : Int) = I6 0, _, I6 (↑(0 : Nat) : Int) = I6 0, _, I6 (↑(0 : Nat) : Int) = I6 0, I6 (↑(0 : Nat) : Int) = I6 0, _, I6 (↑(0 : Nat) : Int) = I6 0, I6 (IntKind.wrap .i64 ((mid:Int) - 0)) = I6 (mid:Int), I6 (IntKind.wrap .i64 ((b:Int) - (mid:Int))) = I6 ((b:Int) - (mid:Int)), I6 (IntKind.wrap .i64 (Int.tdiv (b:Int) (8 : Int))) = I6 (↑(b / 8) : Int), (8 : Int) ≠ (0 : Int), decide ((mid:Int) < (b:Int) - (mid:Int)) = true, I6 (↑(0 : Nat) : Int) = I6 0, _, I6 (IntKind.wrap .i64 ((mid:Int) + 1)) = I6 (↑(mid + 1) : Int), rr (PV.ref 0 [] 1 0 n), rr (I6 (↑(mid + 1) : Int)), rr (I6 (b:Int)), rr (I6 (↑(k + 1) : Int)), PV.bool (decide ((mid:Int) ≥ (↑(b / 8) : Int))) = PV.bool w, rr (PV.bool ap), rr (B6 n l5)] (by kernel_rfl) (ac (cg (by omega)) (ac (cg (Ab rfl (by omega) (by omega))) (ac (dF (by omega)) (ac (cg (by omega)) (ac (c2) (ac (cg (by omega)) (ac (c4) (ac (cg (by omega)) (ac (cg (by omega)) (ac (c6) (ac (cg (by omega)) (ac (cg (Ab rfl (by omega) (by omega))) (ac (cg (Ab rfl (by omega) (by omega))) (ac (cg (Ab rfl (by omega) (by omega))) (ac (by omega) (ac (dT (by omega)) (ac (cg (by omega)) (ac (c7) (ac (cg (Ab rfl (by omega) (by omega))) (ac rfl (ac rfl (ac rfl (ac rfl (ac ?_ (ac rfl (ao rfl)))))))))))))))))))))))))) ?_
  ·refine congrArg PV.bool ?_
   rw [hg, decide_eq_decide]
   first | omega | (rw [wt8 (by omega) (by omega)]; omega)
  ·exact hw
 ·refine W.seg [(2, aV (I6 ((b:Int) - (j:Int) - 1))), (5, aF), (13, cC true [(0, 0)] c2), (32, cC true [(0, 0)] c4), (34, aT), (38, aV (I6 (j:Int))), (39, aV (PV.at 0 [Stp.idx j 1])), (43, aV (PV.at 0 [Stp.idx p 1])), (45, aK (PV.bool true)), (52, cC true [(0, 0)] c6), (62, aV (I6 ((mid:Int) - (j:Int) - 1))), (65, aV (I6 ((b:Int) - (mid:Int)))), (73, aT), (82, cC true [(0, 0)] c7), (84, aV (I6 (↑(mid + 1) : Int)))] [(0, 0)] (qD n (mid + 1) b (k + 1) w ap l5) (todo' := Aa Try.f78 0) [I6 (IntKind.wrap .i64 ((b:Int) - (↑(j + 1) : Int))) = I6 ((b:Int) - (j:Int) - 1), decide ((b:Int) - (j:Int) - 1 ≤ (12 : Int)) = false, _, _, decide ((↑(j + 1) : Int) > 0) = true, I6 (IntKind.wrap .i64 ((↑(j + 1) : Int) - 1)) = I6 (j:Int), PV.at 0 [Stp.idx (0 + j) 1] = PV.at 0 [Stp.idx j 1], 0 ≤ (j:Int), (j:Int) < (n:Int), j < n, PV.at 0 [Stp.idx (0 + p) 1] = PV.at 0 [Stp.idx p 1], 0 ≤ (p:Int), (p:Int) < (n:Int), p < n, Pt 71 [] [U6 (List.getD l3 j (0 : Int)), U6 (List.getD l3 p (0 : Int))] [] (PV.bool true), _, I6 (IntKind.wrap .i64 ((mid:Int) - (↑(j + 1) : Int))) = I6 ((mid:Int) - (j:Int) - 1), I6 (IntKind.wrap .i64 ((b:Int) - (mid:Int))) = I6 ((b:Int) - (mid:Int)), (8 : Int) ≠ (0 : Int), decide ((mid:Int) - (j:Int) - 1 < (b:Int) - (mid:Int)) = true, _, I6 (IntKind.wrap .i64 ((mid:Int) + 1)) = I6 (↑(mid + 1) : Int), rr (PV.ref 0 [] 1 0 n), rr (I6 (↑(mid + 1) : Int)), rr (I6 (b:Int)), rr (I6 (↑(k + 1) : Int)), PV.bool (decide ((mid:Int) - (j:Int) - 1 ≥ IntKind.wrap .i64 (Int.tdiv ((b:Int) - (j:Int) - 1) (8 : Int)))) = PV.bool w, rr (PV.bool ap), rr (B6 n l5)] (by kernel_rfl) (ac (cg (Ab (by omega) (by omega) (by omega))) (ac (dF (by omega)) (ac (c2) (ac (c4) (ac (dT (by omega)) (ac (cg (Ab (by omega) (by omega) (by omega))) (ac (by simp only [Nat.zero_add]) (ac (by omega) (ac (by omega) (ac (by omega) (ac (by simp only [Nat.zero_add]) (ac (by omega) (ac (by omega) (ac (by omega) (ac (AU _ _ (by first | omega | decide)) (ac (c6) (ac (cg (Ab (by omega) (by omega) (by omega))) (ac (cg (Ab rfl (by omega) (by omega))) (ac (by omega) (ac (dT (by omega)) (ac (c7) (ac (cg (Ab rfl (by omega) (by omega))) (ac rfl (ac rfl (ac rfl (ac rfl (ac ?_ (ac rfl (ao rfl))))))))))))))))))))))))))))) ?_
  ·refine congrArg PV.bool ?_
   rw [hg, decide_eq_decide]
   first | omega | (rw [wt8 (by omega) (by omega)]; omega)
  ·exact hw
theorem W_zt1tR {n a k mid b p : Nat} {wp ap : Bool} {l l1 l2 l3 l4 l5 m : Liz} (hn : n < 65536) (hb : b ≤ n) (h : a + 12 < b) (hk : k < 1000) (hp1 : a ≤ p) (hp2 : p < b) (hq : True) (c2 : Pt 92 [(0, Ac n l)] [.ref 0 [] 1 0 n, .int .i64 a, .int .i64 b] [(0, Ac n l)] (.tup [.int .i64 p, .int .i64 1])) (c4 : Pt 94 [(0, Ac n l)] [.ref 0 [] 1 0 n, .int .i64 a, .int .i64 b] [(0, Ac n l3)] (.bool false)) (hl : a = 0 ∨ ∃ j, a = j + 1 ∧ l3.getD j 0 < l3.getD p 0) (c6 : Pt 96 [(0, Ac n l3)] [.ref 0 [] 1 0 n, .int .i64 a, .int .i64 b, .int .i64 p] [(0, Ac n l4)] (.tup [.int .i64 mid, .bool ap])) (hm1 : a ≤ mid) (hm2 : mid < b) (hs : ¬ mid - a < b - mid) (c7 : Pt 78 [(0, Ac n l4)] [.ref 0 [] 1 0 n, .int .i64 (((mid + 1) : Nat) : Int), .int .i64 b, .int .i64 (((k + 1) : Nat) : Int)] [(0, Ac n l5)] (.tup [])) {w : Bool} (hg : w = decide ((b - a) / 8 ≤ b - mid)) (hw : Wt Try.f78 [0] [(0, Ac n m)] (.tup []) (Aa Try.f78 0) (qD n a mid (k + 1) w ap l5)) : Wt Try.f78 [0] [(0, Ac n m)] (.tup []) (Aa Try.f78 0) (qD n a b (k + 1) true true l) := by
 rcases hl with rfl | ⟨j, rfl, hl⟩
 ·refine W.seg [(1, aV (I6 0)), (2, aV (I6 (b:Int))), (5, aF), (11, aV (I6 0)), (13, cC true [(0, 0)] c2), (30, aV (I6 0)), (32, cC true [(0, 0)] c4), (33, aV (I6 0)), (49, aV (I6 0)), (52, cC true [(0, 0)] c6), (61, aV (I6 0)), (62, aV (I6 (mid:Int))), (65, aV (I6 ((b:Int) - (mid:Int)))), (69, aV (I6 (↑(b / 8) : Int))), (73, aF), (80, aV (I6 (↑(mid + 1) : Int))), (83, cC true [(0, 0)] c7)] [(0, 0)] (qD n 0 mid (k + 1) w ap l5) (todo' := Aa Try.f78 0) [I6 (↑(0 : Nat) : Int) = I6 0, I6 (IntKind.wrap .i64 ((b:Int) - 0)) = I6 (b:Int), decide ((b:Int) ≤ 12) = false, I6 (↑(0 : Nat) : Int) = I6 0, _, I6 (↑(0 : Nat) : Int) = I6 0, _, I6 (↑(0 : Nat) : Int) = I6 0, I6 (↑(0 : Nat) : Int) = I6 0, _, I6 (↑(0 : Nat) : Int) = I6 0, I6 (IntKind.wrap .i64 ((mid:Int) - 0)) = I6 (mid:Int), I6 (IntKind.wrap .i64 ((b:Int) - (mid:Int))) = I6 ((b:Int) - (mid:Int)), I6 (IntKind.wrap .i64 (Int.tdiv (b:Int) (8 : Int))) = I6 (↑(b / 8) : Int), (8 : Int) ≠ (0 : Int), decide ((mid:Int) < (b:Int) - (mid:Int)) = false, I6 (IntKind.wrap .i64 ((mid:Int) + 1)) = I6 (↑(mid + 1) : Int), _, rr (PV.ref 0 [] 1 0 n), rr (I6 (↑(0 : Nat) : Int)), rr (I6 (mid:Int)), rr (I6 (↑(k + 1) : Int)), PV.bool (decide ((b:Int) - (mid:Int) ≥ (↑(b / 8) : Int))) = PV.bool w, rr (PV.bool ap), rr (B6 n l5)] (by kernel_rfl) (ac (cg (by omega)) (ac (cg (Ab rfl (by omega) (by omega))) (ac (dF (by omega)) (ac (cg (by omega)) (ac (c2) (ac (cg (by omega)) (ac (c4) (ac (cg (by omega)) (ac (cg (by omega)) (ac (c6) (ac (cg (by omega)) (ac (cg (Ab rfl (by omega) (by omega))) (ac (cg (Ab rfl (by omega) (by omega))) (ac (cg (Ab rfl (by omega) (by omega))) (ac (by omega) (ac (dF (by omega)) (ac (cg (Ab rfl (by omega) (by omega))) (ac (c7) (ac rfl (ac rfl (ac rfl (ac rfl (ac ?_ (ac rfl (ao rfl))))))))))))))))))))))))) ?_
  ·refine congrArg PV.bool ?_
   rw [hg, decide_eq_decide]
   first | omega | (rw [wt8 (by omega) (by omega)]; omega)
  ·exact hw
 ·refine W.seg [(2, aV (I6 ((b:Int) - (j:Int) - 1))), (5, aF), (13, cC true [(0, 0)] c2), (32, cC true [(0, 0)] c4), (34, aT), (38, aV (I6 (j:Int))), (39, aV (PV.at 0 [Stp.idx j 1])), (43, aV (PV.at 0 [Stp.idx p 1])), (45, aK (PV.bool true)), (52, cC true [(0, 0)] c6), (62, aV (I6 ((mid:Int) - (j:Int) - 1))), (65, aV (I6 ((b:Int) - (mid:Int)))), (73, aF), (80, aV (I6 (↑(mid + 1) : Int))), (83, cC true [(0, 0)] c7)] [(0, 0)] (qD n (j + 1) mid (k + 1) w ap l5) (todo' := Aa Try.f78 0) [I6 (IntKind.wrap .i64 ((b:Int) - (↑(j + 1) : Int))) = I6 ((b:Int) - (j:Int) - 1), decide ((b:Int) - (j:Int) - 1 ≤ (12 : Int)) = false, _, _, decide ((↑(j + 1) : Int) > 0) = true, I6 (IntKind.wrap .i64 ((↑(j + 1) : Int) - 1)) = I6 (j:Int), PV.at 0 [Stp.idx (0 + j) 1] = PV.at 0 [Stp.idx j 1], 0 ≤ (j:Int), (j:Int) < (n:Int), j < n, PV.at 0 [Stp.idx (0 + p) 1] = PV.at 0 [Stp.idx p 1], 0 ≤ (p:Int), (p:Int) < (n:Int), p < n, Pt 71 [] [U6 (List.getD l3 j (0 : Int)), U6 (List.getD l3 p (0 : Int))] [] (PV.bool true), _, I6 (IntKind.wrap .i64 ((mid:Int) - (↑(j + 1) : Int))) = I6 ((mid:Int) - (j:Int) - 1), I6 (IntKind.wrap .i64 ((b:Int) - (mid:Int))) = I6 ((b:Int) - (mid:Int)), (8 : Int) ≠ (0 : Int), decide ((mid:Int) - (j:Int) - 1 < (b:Int) - (mid:Int)) = false, I6 (IntKind.wrap .i64 ((mid:Int) + 1)) = I6 (↑(mid + 1) : Int), _, rr (PV.ref 0 [] 1 0 n), rr (I6 (↑(j + 1) : Int)), rr (I6 (mid:Int)), rr (I6 (↑(k + 1) : Int)), PV.bool (decide ((b:Int) - (mid:Int) ≥ IntKind.wrap .i64 (Int.tdiv ((b:Int) - (j:Int) - 1) (8 : Int)))) = PV.bool w, rr (PV.bool ap), rr (B6 n l5)] (by kernel_rfl) (ac (cg (Ab (by omega) (by omega) (by omega))) (ac (dF (by omega)) (ac (c2) (ac (c4) (ac (dT (by omega)) (ac (cg (Ab (by omega) (by omega) (by omega))) (ac (by simp only [Nat.zero_add]) (ac (by omega) (ac (by omega) (ac (by omega) (ac (by simp only [Nat.zero_add]) (ac (by omega) (ac (by omega) (ac (by omega) (ac (AU _ _ (by first | omega | decide)) (ac (c6) (ac (cg (Ab (by omega) (by omega) (by omega))) (ac (cg (Ab rfl (by omega) (by omega))) (ac (by omega) (ac (dF (by omega)) (ac (cg (Ab rfl (by omega) (by omega))) (ac (c7) (ac rfl (ac rfl (ac rfl (ac rfl (ac ?_ (ac rfl (ao rfl))))))))))))))))))))))))))))) ?_
  ·refine congrArg PV.bool ?_
   rw [hg, decide_eq_decide]
   first | omega | (rw [wt8 (by omega) (by omega)]; omega)
  ·exact hw
theorem W_zt1fE {n a k mid b p : Nat} {wp ap : Bool} {l l1 l2 l3 l4 l5 m : Liz} (hn : n < 65536) (hb : b ≤ n) (h : (a + 1) + 12 < b) (hk : k < 1000) (hp1 : (a + 1) ≤ p) (hp2 : p < b) (hq : True) (c2 : Pt 92 [(0, Ac n l)] [.ref 0 [] 1 0 n, .int .i64 (((a + 1) : Nat) : Int), .int .i64 b] [(0, Ac n l)] (.tup [.int .i64 p, .int .i64 1])) (hl : ¬ l.getD a 0 < l.getD p 0) (c5 : Pt 95 [(0, Ac n l)] [.ref 0 [] 1 0 n, .int .i64 (((a + 1) : Nat) : Int), .int .i64 b, .int .i64 p] [(0, Ac n l4)] (.int .i64 mid)) (hw : Wt Try.f78 [0] [(0, Ac n m)] (.tup []) (Aa Try.f78 0) (qD n mid b (k + 1) true false l4)) : Wt Try.f78 [0] [(0, Ac n m)] (.tup []) (Aa Try.f78 0) (qD n (a + 1) b (k + 1) true false l) := by
 refine W.sgA 0 [(2, aV (I6 ((b:Int) - (a:Int) - 1))), (5, aF), (13, cC true [(0, 0)] c2), (30, aT), (34, aV (I6 a)), (35, aV (PV.at 0 [Stp.idx a 1])), (39, aV (PV.at 0 [Stp.idx p 1])), (41, aK (PV.bool false)), (48, cC true [(0, 0)] c5)] [(0, 0)] (qD n mid b (k + 1) true false l4) [I6 (IntKind.wrap .i64 ((b:Int) - (↑(a + 1) : Int))) = I6 ((b:Int) - (a:Int) - 1), decide ((b:Int) - (a:Int) - 1 ≤ (12 : Int)) = false, _, decide ((↑(a + 1) : Int) > 0) = true, I6 (IntKind.wrap .i64 ((↑(a + 1) : Int) - 1)) = I6 a, PV.at 0 [Stp.idx (0 + a) 1] = PV.at 0 [Stp.idx a 1], 0 ≤ (a:Int), (a:Int) < (n:Int), a < n, PV.at 0 [Stp.idx (0 + p) 1] = PV.at 0 [Stp.idx p 1], 0 ≤ (p:Int), (p:Int) < (n:Int), p < n, Pt 71 [] [U6 (List.getD l a (0 : Int)), U6 (List.getD l p (0 : Int))] [] (PV.bool false), _] (ac (cg (Ab (by omega) (by omega) (by omega))) (ac (dF (by omega)) (ac (c2) (ac (dT (by omega)) (ac (cg (Ab (by omega) (by omega) (by omega))) (ac (by simp only [Nat.zero_add]) (ob3 (by omega) (ac (by simp only [Nat.zero_add]) (ob3 (by omega) (ac (Bn _ _ (by first | omega | decide)) (ao (c5)))))))))))) ?_
 exact hw
theorem W_zt1fL {n a k mid b p : Nat} {wp ap : Bool} {l l1 l2 l3 l4 l5 m : Liz} (hn : n < 65536) (hb : b ≤ n) (h : a + 12 < b) (hk : k < 1000) (hp1 : a ≤ p) (hp2 : p < b) (hq : True) (c2 : Pt 92 [(0, Ac n l)] [.ref 0 [] 1 0 n, .int .i64 a, .int .i64 b] [(0, Ac n l)] (.tup [.int .i64 p, .int .i64 1])) (hl : a = 0 ∨ ∃ j, a = j + 1 ∧ l.getD j 0 < l.getD p 0) (c6 : Pt 96 [(0, Ac n l)] [.ref 0 [] 1 0 n, .int .i64 a, .int .i64 b, .int .i64 p] [(0, Ac n l4)] (.tup [.int .i64 mid, .bool ap])) (hm1 : a ≤ mid) (hm2 : mid < b) (hs : mid - a < b - mid) (c7 : Pt 78 [(0, Ac n l4)] [.ref 0 [] 1 0 n, .int .i64 a, .int .i64 mid, .int .i64 (((k + 1) : Nat) : Int)] [(0, Ac n l5)] (.tup [])) {w : Bool} (hg : w = decide ((b - a) / 8 ≤ mid - a)) (hw : Wt Try.f78 [0] [(0, Ac n m)] (.tup []) (Aa Try.f78 0) (qD n (mid + 1) b (k + 1) w ap l5)) : Wt Try.f78 [0] [(0, Ac n m)] (.tup []) (Aa Try.f78 0) (qD n a b (k + 1) true false l) := by
 rcases hl with rfl | ⟨j, rfl, hl⟩
 ·refine W.seg [(1, aV (I6 0)), (2, aV (I6 (b:Int))), (5, aF), (11, aV (I6 0)), (13, cC true [(0, 0)] c2), (29, aV (I6 0)), (45, aV (I6 0)), (48, cC true [(0, 0)] c6), (57, aV (I6 0)), (58, aV (I6 (mid:Int))), (61, aV (I6 ((b:Int) - (mid:Int)))), (65, aV (I6 (↑(b / 8) : Int))), (69, aT), (75, aV (I6 0)), (78, cC true [(0, 0)] c7), (80, aV (I6 (↑(mid + 1) : Int)))] [(0, 0)] (qD n (mid + 1) b (k + 1) w ap l5) (todo' := Aa Try.f78 0) [I6 (↑(0 : Nat) : Int) = I6 0, I6 (IntKind.wrap .i64 ((b:Int) - 0)) = I6 (b:Int), decide ((b:Int) ≤ 12) = false, I6 (↑(0 : Nat) : Int) = I6 0, _, I6 (↑(0 : Nat) : Int) = I6 0, I6 (↑(0 : Nat) : Int) = I6 0, _, I6 (↑(0 : Nat) : Int) = I6 0, I6 (IntKind.wrap .i64 ((mid:Int) - 0)) = I6 (mid:Int), I6 (IntKind.wrap .i64 ((b:Int) - (mid:Int))) = I6 ((b:Int) - (mid:Int)), I6 (IntKind.wrap .i64 (Int.tdiv (b:Int) (8 : Int))) = I6 (↑(b / 8) : Int), (8 : Int) ≠ (0 : Int), decide ((mid:Int) < (b:Int) - (mid:Int)) = true, I6 (↑(0 : Nat) : Int) = I6 0, _, I6 (IntKind.wrap .i64 ((mid:Int) + 1)) = I6 (↑(mid + 1) : Int), rr (PV.ref 0 [] 1 0 n), rr (I6 (↑(mid + 1) : Int)), rr (I6 (b:Int)), rr (I6 (↑(k + 1) : Int)), PV.bool (decide ((mid:Int) ≥ (↑(b / 8) : Int))) = PV.bool w, rr (PV.bool ap), rr (B6 n l5)] (by kernel_rfl) (ac (cg (by omega)) (ac (cg (Ab rfl (by omega) (by omega))) (ac (dF (by omega)) (ac (cg (by omega)) (ac (c2) (ac (cg (by omega)) (ac (cg (by omega)) (ac (c6) (ac (cg (by omega)) (ac (cg (Ab rfl (by omega) (by omega))) (ac (cg (Ab rfl (by omega) (by omega))) (ac (cg (Ab rfl (by omega) (by omega))) (ac (by omega) (ac (dT (by omega)) (ac (cg (by omega)) (ac (c7) (ac (cg (Ab rfl (by omega) (by omega))) (ac rfl (ac rfl (ac rfl (ac rfl (ac ?_ (ac rfl (ao rfl)))))))))))))))))))))))) ?_
  ·refine congrArg PV.bool ?_
   rw [hg, decide_eq_decide]
   first | omega | (rw [wt8 (by omega) (by omega)]; omega)
  ·exact hw
 ·refine W.seg [(2, aV (I6 ((b:Int) - (j:Int) - 1))), (5, aF), (13, cC true [(0, 0)] c2), (30, aT), (34, aV (I6 (j:Int))), (35, aV (PV.at 0 [Stp.idx j 1])), (39, aV (PV.at 0 [Stp.idx p 1])), (41, aK (PV.bool true)), (48, cC true [(0, 0)] c6), (58, aV (I6 ((mid:Int) - (j:Int) - 1))), (61, aV (I6 ((b:Int) - (mid:Int)))), (69, aT), (78, cC true [(0, 0)] c7), (80, aV (I6 (↑(mid + 1) : Int)))] [(0, 0)] (qD n (mid + 1) b (k + 1) w ap l5) (todo' := Aa Try.f78 0) [I6 (IntKind.wrap .i64 ((b:Int) - (↑(j + 1) : Int))) = I6 ((b:Int) - (j:Int) - 1), decide ((b:Int) - (j:Int) - 1 ≤ (12 : Int)) = false, _, decide ((↑(j + 1) : Int) > 0) = true, I6 (IntKind.wrap .i64 ((↑(j + 1) : Int) - 1)) = I6 (j:Int), PV.at 0 [Stp.idx (0 + j) 1] = PV.at 0 [Stp.idx j 1], 0 ≤ (j:Int), (j:Int) < (n:Int), j < n, PV.at 0 [Stp.idx (0 + p) 1] = PV.at 0 [Stp.idx p 1], 0 ≤ (p:Int), (p:Int) < (n:Int), p < n, Pt 71 [] [U6 (List.getD l j (0 : Int)), U6 (List.getD l p (0 : Int))] [] (PV.bool true), _, I6 (IntKind.wrap .i64 ((mid:Int) - (↑(j + 1) : Int))) = I6 ((mid:Int) - (j:Int) - 1), I6 (IntKind.wrap .i64 ((b:Int) - (mid:Int))) = I6 ((b:Int) - (mid:Int)), (8 : Int) ≠ (0 : Int), decide ((mid:Int) - (j:Int) - 1 < (b:Int) - (mid:Int)) = true, _, I6 (IntKind.wrap .i64 ((mid:Int) + 1)) = I6 (↑(mid + 1) : Int), rr (PV.ref 0 [] 1 0 n), rr (I6 (↑(mid + 1) : Int)), rr (I6 (b:Int)), rr (I6 (↑(k + 1) : Int)), PV.bool (decide ((mid:Int) - (j:Int) - 1 ≥ IntKind.wrap .i64 (Int.tdiv ((b:Int) - (j:Int) - 1) (8 : Int)))) = PV.bool w, rr (PV.bool ap), rr (B6 n l5)] (by kernel_rfl) (ac (cg (Ab (by omega) (by omega) (by omega))) (ac (dF (by omega)) (ac (c2) (ac (dT (by omega)) (ac (cg (Ab (by omega) (by omega) (by omega))) (ac (by simp only [Nat.zero_add]) (ac (by omega) (ac (by omega) (ac (by omega) (ac (by simp only [Nat.zero_add]) (ac (by omega) (ac (by omega) (ac (by omega) (ac (AU _ _ (by first | omega | decide)) (ac (c6) (ac (cg (Ab (by omega) (by omega) (by omega))) (ac (cg (Ab rfl (by omega) (by omega))) (ac (by omega) (ac (dT (by omega)) (ac (c7) (ac (cg (Ab rfl (by omega) (by omega))) (ac rfl (ac rfl (ac rfl (ac rfl (ac ?_ (ac rfl (ao rfl)))))))))))))))))))))))))))) ?_
  ·refine congrArg PV.bool ?_
   rw [hg, decide_eq_decide]
   first | omega | (rw [wt8 (by omega) (by omega)]; omega)
  ·exact hw
theorem W_zt1fR {n a k mid b p : Nat} {wp ap : Bool} {l l1 l2 l3 l4 l5 m : Liz} (hn : n < 65536) (hb : b ≤ n) (h : a + 12 < b) (hk : k < 1000) (hp1 : a ≤ p) (hp2 : p < b) (hq : True) (c2 : Pt 92 [(0, Ac n l)] [.ref 0 [] 1 0 n, .int .i64 a, .int .i64 b] [(0, Ac n l)] (.tup [.int .i64 p, .int .i64 1])) (hl : a = 0 ∨ ∃ j, a = j + 1 ∧ l.getD j 0 < l.getD p 0) (c6 : Pt 96 [(0, Ac n l)] [.ref 0 [] 1 0 n, .int .i64 a, .int .i64 b, .int .i64 p] [(0, Ac n l4)] (.tup [.int .i64 mid, .bool ap])) (hm1 : a ≤ mid) (hm2 : mid < b) (hs : ¬ mid - a < b - mid) (c7 : Pt 78 [(0, Ac n l4)] [.ref 0 [] 1 0 n, .int .i64 (((mid + 1) : Nat) : Int), .int .i64 b, .int .i64 (((k + 1) : Nat) : Int)] [(0, Ac n l5)] (.tup [])) {w : Bool} (hg : w = decide ((b - a) / 8 ≤ b - mid)) (hw : Wt Try.f78 [0] [(0, Ac n m)] (.tup []) (Aa Try.f78 0) (qD n a mid (k + 1) w ap l5)) : Wt Try.f78 [0] [(0, Ac n m)] (.tup []) (Aa Try.f78 0) (qD n a b (k + 1) true false l) := by
 rcases hl with rfl | ⟨j, rfl, hl⟩
 ·refine W.seg [(1, aV (I6 0)), (2, aV (I6 (b:Int))), (5, aF), (11, aV (I6 0)), (13, cC true [(0, 0)] c2), (29, aV (I6 0)), (45, aV (I6 0)), (48, cC true [(0, 0)] c6), (57, aV (I6 0)), (58, aV (I6 (mid:Int))), (61, aV (I6 ((b:Int) - (mid:Int)))), (65, aV (I6 (↑(b / 8) : Int))), (69, aF), (76, aV (I6 (↑(mid + 1) : Int))), (79, cC true [(0, 0)] c7)] [(0, 0)] (qD n 0 mid (k + 1) w ap l5) (todo' := Aa Try.f78 0) [I6 (↑(0 : Nat) : Int) = I6 0, I6 (IntKind.wrap .i64 ((b:Int) - 0)) = I6 (b:Int), decide ((b:Int) ≤ 12) = false, I6 (↑(0 : Nat) : Int) = I6 0, _, I6 (↑(0 : Nat) : Int) = I6 0, I6 (↑(0 : Nat) : Int) = I6 0, _, I6 (↑(0 : Nat) : Int) = I6 0, I6 (IntKind.wrap .i64 ((mid:Int) - 0)) = I6 (mid:Int), I6 (IntKind.wrap .i64 ((b:Int) - (mid:Int))) = I6 ((b:Int) - (mid:Int)), I6 (IntKind.wrap .i64 (Int.tdiv (b:Int) (8 : Int))) = I6 (↑(b / 8) : Int), (8 : Int) ≠ (0 : Int), decide ((mid:Int) < (b:Int) - (mid:Int)) = false, I6 (IntKind.wrap .i64 ((mid:Int) + 1)) = I6 (↑(mid + 1) : Int), _, rr (PV.ref 0 [] 1 0 n), rr (I6 (↑(0 : Nat) : Int)), rr (I6 (mid:Int)), rr (I6 (↑(k + 1) : Int)), PV.bool (decide ((b:Int) - (mid:Int) ≥ (↑(b / 8) : Int))) = PV.bool w, rr (PV.bool ap), rr (B6 n l5)] (by kernel_rfl) (ac (cg (by omega)) (ac (cg (Ab rfl (by omega) (by omega))) (ac (dF (by omega)) (ac (cg (by omega)) (ac (c2) (ac (cg (by omega)) (ac (cg (by omega)) (ac (c6) (ac (cg (by omega)) (ac (cg (Ab rfl (by omega) (by omega))) (ac (cg (Ab rfl (by omega) (by omega))) (ac (cg (Ab rfl (by omega) (by omega))) (ac (by omega) (ac (dF (by omega)) (ac (cg (Ab rfl (by omega) (by omega))) (ac (c7) (ac rfl (ac rfl (ac rfl (ac rfl (ac ?_ (ac rfl (ao rfl))))))))))))))))))))))) ?_
  ·refine congrArg PV.bool ?_
   rw [hg, decide_eq_decide]
   first | omega | (rw [wt8 (by omega) (by omega)]; omega)
  ·exact hw
 ·refine W.seg [(2, aV (I6 ((b:Int) - (j:Int) - 1))), (5, aF), (13, cC true [(0, 0)] c2), (30, aT), (34, aV (I6 (j:Int))), (35, aV (PV.at 0 [Stp.idx j 1])), (39, aV (PV.at 0 [Stp.idx p 1])), (41, aK (PV.bool true)), (48, cC true [(0, 0)] c6), (58, aV (I6 ((mid:Int) - (j:Int) - 1))), (61, aV (I6 ((b:Int) - (mid:Int)))), (69, aF), (76, aV (I6 (↑(mid + 1) : Int))), (79, cC true [(0, 0)] c7)] [(0, 0)] (qD n (j + 1) mid (k + 1) w ap l5) (todo' := Aa Try.f78 0) [I6 (IntKind.wrap .i64 ((b:Int) - (↑(j + 1) : Int))) = I6 ((b:Int) - (j:Int) - 1), decide ((b:Int) - (j:Int) - 1 ≤ (12 : Int)) = false, _, decide ((↑(j + 1) : Int) > 0) = true, I6 (IntKind.wrap .i64 ((↑(j + 1) : Int) - 1)) = I6 (j:Int), PV.at 0 [Stp.idx (0 + j) 1] = PV.at 0 [Stp.idx j 1], 0 ≤ (j:Int), (j:Int) < (n:Int), j < n, PV.at 0 [Stp.idx (0 + p) 1] = PV.at 0 [Stp.idx p 1], 0 ≤ (p:Int), (p:Int) < (n:Int), p < n, Pt 71 [] [U6 (List.getD l j (0 : Int)), U6 (List.getD l p (0 : Int))] [] (PV.bool true), _, I6 (IntKind.wrap .i64 ((mid:Int) - (↑(j + 1) : Int))) = I6 ((mid:Int) - (j:Int) - 1), I6 (IntKind.wrap .i64 ((b:Int) - (mid:Int))) = I6 ((b:Int) - (mid:Int)), (8 : Int) ≠ (0 : Int), decide ((mid:Int) - (j:Int) - 1 < (b:Int) - (mid:Int)) = false, I6 (IntKind.wrap .i64 ((mid:Int) + 1)) = I6 (↑(mid + 1) : Int), _, rr (PV.ref 0 [] 1 0 n), rr (I6 (↑(j + 1) : Int)), rr (I6 (mid:Int)), rr (I6 (↑(k + 1) : Int)), PV.bool (decide ((b:Int) - (mid:Int) ≥ IntKind.wrap .i64 (Int.tdiv ((b:Int) - (j:Int) - 1) (8 : Int)))) = PV.bool w, rr (PV.bool ap), rr (B6 n l5)] (by kernel_rfl) (ac (cg (Ab (by omega) (by omega) (by omega))) (ac (dF (by omega)) (ac (c2) (ac (dT (by omega)) (ac (cg (Ab (by omega) (by omega) (by omega))) (ac (by simp only [Nat.zero_add]) (ac (by omega) (ac (by omega) (ac (by omega) (ac (by simp only [Nat.zero_add]) (ac (by omega) (ac (by omega) (ac (by omega) (ac (AU _ _ (by first | omega | decide)) (ac (c6) (ac (cg (Ab (by omega) (by omega) (by omega))) (ac (cg (Ab rfl (by omega) (by omega))) (ac (by omega) (ac (dF (by omega)) (ac (cg (Ab rfl (by omega) (by omega))) (ac (c7) (ac rfl (ac rfl (ac rfl (ac rfl (ac ?_ (ac rfl (ao rfl)))))))))))))))))))))))))))) ?_
  ·refine congrArg PV.bool ?_
   rw [hg, decide_eq_decide]
   first | omega | (rw [wt8 (by omega) (by omega)]; omega)
  ·exact hw
theorem W_zt0tE {n a k mid b p : Nat} {wp ap : Bool} {l l1 l2 l3 l4 l5 m : Liz} (hn : n < 65536) (hb : b ≤ n) (h : (a + 1) + 12 < b) (hk : k < 1000) (hp1 : (a + 1) ≤ p) (hp2 : p < b) (hq : True) (c2 : Pt 92 [(0, Ac n l)] [.ref 0 [] 1 0 n, .int .i64 (((a + 1) : Nat) : Int), .int .i64 b] [(0, Ac n l)] (.tup [.int .i64 p, .int .i64 0])) (hl : ¬ l.getD a 0 < l.getD p 0) (c5 : Pt 95 [(0, Ac n l)] [.ref 0 [] 1 0 n, .int .i64 (((a + 1) : Nat) : Int), .int .i64 b, .int .i64 p] [(0, Ac n l4)] (.int .i64 mid)) (hw : Wt Try.f78 [0] [(0, Ac n m)] (.tup []) (Aa Try.f78 0) (qD n mid b (k + 1) true true l4)) : Wt Try.f78 [0] [(0, Ac n m)] (.tup []) (Aa Try.f78 0) (qD n (a + 1) b (k + 1) true true l) := by
 refine W.sgA 0 [(2, aV (I6 ((b:Int) - (a:Int) - 1))), (5, aF), (13, cC true [(0, 0)] c2), (30, aT), (34, aV (I6 a)), (35, aV (PV.at 0 [Stp.idx a 1])), (39, aV (PV.at 0 [Stp.idx p 1])), (41, aK (PV.bool false)), (48, cC true [(0, 0)] c5)] [(0, 0)] (qD n mid b (k + 1) true true l4) [I6 (IntKind.wrap .i64 ((b:Int) - (↑(a + 1) : Int))) = I6 ((b:Int) - (a:Int) - 1), decide ((b:Int) - (a:Int) - 1 ≤ (12 : Int)) = false, _, decide ((↑(a + 1) : Int) > 0) = true, I6 (IntKind.wrap .i64 ((↑(a + 1) : Int) - 1)) = I6 a, PV.at 0 [Stp.idx (0 + a) 1] = PV.at 0 [Stp.idx a 1], 0 ≤ (a:Int), (a:Int) < (n:Int), a < n, PV.at 0 [Stp.idx (0 + p) 1] = PV.at 0 [Stp.idx p 1], 0 ≤ (p:Int), (p:Int) < (n:Int), p < n, Pt 71 [] [U6 (List.getD l a (0 : Int)), U6 (List.getD l p (0 : Int))] [] (PV.bool false), _] (ac (cg (Ab (by omega) (by omega) (by omega))) (ac (dF (by omega)) (ac (c2) (ac (dT (by omega)) (ac (cg (Ab (by omega) (by omega) (by omega))) (ac (by simp only [Nat.zero_add]) (ob3 (by omega) (ac (by simp only [Nat.zero_add]) (ob3 (by omega) (ac (Bn _ _ (by first | omega | decide)) (ao (c5)))))))))))) ?_
 exact hw
theorem W_zt0tL {n a k mid b p : Nat} {wp ap : Bool} {l l1 l2 l3 l4 l5 m : Liz} (hn : n < 65536) (hb : b ≤ n) (h : a + 12 < b) (hk : k < 1000) (hp1 : a ≤ p) (hp2 : p < b) (hq : True) (c2 : Pt 92 [(0, Ac n l)] [.ref 0 [] 1 0 n, .int .i64 a, .int .i64 b] [(0, Ac n l)] (.tup [.int .i64 p, .int .i64 0])) (hl : a = 0 ∨ ∃ j, a = j + 1 ∧ l.getD j 0 < l.getD p 0) (c6 : Pt 96 [(0, Ac n l)] [.ref 0 [] 1 0 n, .int .i64 a, .int .i64 b, .int .i64 p] [(0, Ac n l4)] (.tup [.int .i64 mid, .bool ap])) (hm1 : a ≤ mid) (hm2 : mid < b) (hs : mid - a < b - mid) (c7 : Pt 78 [(0, Ac n l4)] [.ref 0 [] 1 0 n, .int .i64 a, .int .i64 mid, .int .i64 (((k + 1) : Nat) : Int)] [(0, Ac n l5)] (.tup [])) {w : Bool} (hg : w = decide ((b - a) / 8 ≤ mid - a)) (hw : Wt Try.f78 [0] [(0, Ac n m)] (.tup []) (Aa Try.f78 0) (qD n (mid + 1) b (k + 1) w ap l5)) : Wt Try.f78 [0] [(0, Ac n m)] (.tup []) (Aa Try.f78 0) (qD n a b (k + 1) true true l) := by
 rcases hl with rfl | ⟨j, rfl, hl⟩
 ·refine W.seg [(1, aV (I6 0)), (2, aV (I6 (b:Int))), (5, aF), (11, aV (I6 0)), (13, cC true [(0, 0)] c2), (29, aV (I6 0)), (45, aV (I6 0)), (48, cC true [(0, 0)] c6), (57, aV (I6 0)), (58, aV (I6 (mid:Int))), (61, aV (I6 ((b:Int) - (mid:Int)))), (65, aV (I6 (↑(b / 8) : Int))), (69, aT), (75, aV (I6 0)), (78, cC true [(0, 0)] c7), (80, aV (I6 (↑(mid + 1) : Int)))] [(0, 0)] (qD n (mid + 1) b (k + 1) w ap l5) (todo' := Aa Try.f78 0) [I6 (↑(0 : Nat) : Int) = I6 0, I6 (IntKind.wrap .i64 ((b:Int) - 0)) = I6 (b:Int), decide ((b:Int) ≤ 12) = false, I6 (↑(0 : Nat) : Int) = I6 0, _, I6 (↑(0 : Nat) : Int) = I6 0, I6 (↑(0 : Nat) : Int) = I6 0, _, I6 (↑(0 : Nat) : Int) = I6 0, I6 (IntKind.wrap .i64 ((mid:Int) - 0)) = I6 (mid:Int), I6 (IntKind.wrap .i64 ((b:Int) - (mid:Int))) = I6 ((b:Int) - (mid:Int)), I6 (IntKind.wrap .i64 (Int.tdiv (b:Int) (8 : Int))) = I6 (↑(b / 8) : Int), (8 : Int) ≠ (0 : Int), decide ((mid:Int) < (b:Int) - (mid:Int)) = true, I6 (↑(0 : Nat) : Int) = I6 0, _, I6 (IntKind.wrap .i64 ((mid:Int) + 1)) = I6 (↑(mid + 1) : Int), rr (PV.ref 0 [] 1 0 n), rr (I6 (↑(mid + 1) : Int)), rr (I6 (b:Int)), rr (I6 (↑(k + 1) : Int)), PV.bool (decide ((mid:Int) ≥ (↑(b / 8) : Int))) = PV.bool w, rr (PV.bool ap), rr (B6 n l5)] (by kernel_rfl) (ac (cg (by omega)) (ac (cg (Ab rfl (by omega) (by omega))) (ac (dF (by omega)) (ac (cg (by omega)) (ac (c2) (ac (cg (by omega)) (ac (cg (by omega)) (ac (c6) (ac (cg (by omega)) (ac (cg (Ab rfl (by omega) (by omega))) (ac (cg (Ab rfl (by omega) (by omega))) (ac (cg (Ab rfl (by omega) (by omega))) (ac (by omega) (ac (dT (by omega)) (ac (cg (by omega)) (ac (c7) (ac (cg (Ab rfl (by omega) (by omega))) (ac rfl (ac rfl (ac rfl (ac rfl (ac ?_ (ac rfl (ao rfl)))))))))))))))))))))))) ?_
  ·refine congrArg PV.bool ?_
   rw [hg, decide_eq_decide]
   first | omega | (rw [wt8 (by omega) (by omega)]; omega)
  ·exact hw
 ·refine W.seg [(2, aV (I6 ((b:Int) - (j:Int) - 1))), (5, aF), (13, cC true [(0, 0)] c2), (30, aT), (34, aV (I6 (j:Int))), (35, aV (PV.at 0 [Stp.idx j 1])), (39, aV (PV.at 0 [Stp.idx p 1])), (41, aK (PV.bool true)), (48, cC true [(0, 0)] c6), (58, aV (I6 ((mid:Int) - (j:Int) - 1))), (61, aV (I6 ((b:Int) - (mid:Int)))), (69, aT), (78, cC true [(0, 0)] c7), (80, aV (I6 (↑(mid + 1) : Int)))] [(0, 0)] (qD n (mid + 1) b (k + 1) w ap l5) (todo' := Aa Try.f78 0) [I6 (IntKind.wrap .i64 ((b:Int) - (↑(j + 1) : Int))) = I6 ((b:Int) - (j:Int) - 1), decide ((b:Int) - (j:Int) - 1 ≤ (12 : Int)) = false, _, decide ((↑(j + 1) : Int) > 0) = true, I6 (IntKind.wrap .i64 ((↑(j + 1) : Int) - 1)) = I6 (j:Int), PV.at 0 [Stp.idx (0 + j) 1] = PV.at 0 [Stp.idx j 1], 0 ≤ (j:Int), (j:Int) < (n:Int), j < n, PV.at 0 [Stp.idx (0 + p) 1] = PV.at 0 [Stp.idx p 1], 0 ≤ (p:Int), (p:Int) < (n:Int), p < n, Pt 71 [] [U6 (List.getD l j (0 : Int)), U6 (List.getD l p (0 : Int))] [] (PV.bool true), _, I6 (IntKind.wrap .i64 ((mid:Int) - (↑(j + 1) : Int))) = I6 ((mid:Int) - (j:Int) - 1), I6 (IntKind.wrap .i64 ((b:Int) - (mid:Int))) = I6 ((b:Int) - (mid:Int)), (8 : Int) ≠ (0 : Int), decide ((mid:Int) - (j:Int) - 1 < (b:Int) - (mid:Int)) = true, _, I6 (IntKind.wrap .i64 ((mid:Int) + 1)) = I6 (↑(mid + 1) : Int), rr (PV.ref 0 [] 1 0 n), rr (I6 (↑(mid + 1) : Int)), rr (I6 (b:Int)), rr (I6 (↑(k + 1) : Int)), PV.bool (decide ((mid:Int) - (j:Int) - 1 ≥ IntKind.wrap .i64 (Int.tdiv ((b:Int) - (j:Int) - 1) (8 : Int)))) = PV.bool w, rr (PV.bool ap), rr (B6 n l5)] (by kernel_rfl) (ac (cg (Ab (by omega) (by omega) (by omega))) (ac (dF (by omega)) (ac (c2) (ac (dT (by omega)) (ac (cg (Ab (by omega) (by omega) (by omega))) (ac (by simp only [Nat.zero_add]) (ac (by omega) (ac (by omega) (ac (by omega) (ac (by simp only [Nat.zero_add]) (ac (by omega) (ac (by omega) (ac (by omega) (ac (AU _ _ (by first | omega | decide)) (ac (c6) (ac (cg (Ab (by omega) (by omega) (by omega))) (ac (cg (Ab rfl (by omega) (by omega))) (ac (by omega) (ac (dT (by omega)) (ac (c7) (ac (cg (Ab rfl (by omega) (by omega))) (ac rfl (ac rfl (ac rfl (ac rfl (ac ?_ (ac rfl (ao rfl)))))))))))))))))))))))))))) ?_
  ·refine congrArg PV.bool ?_
   rw [hg, decide_eq_decide]
   first | omega | (rw [wt8 (by omega) (by omega)]; omega)
  ·exact hw
theorem W_zt0tR {n a k mid b p : Nat} {wp ap : Bool} {l l1 l2 l3 l4 l5 m : Liz} (hn : n < 65536) (hb : b ≤ n) (h : a + 12 < b) (hk : k < 1000) (hp1 : a ≤ p) (hp2 : p < b) (hq : True) (c2 : Pt 92 [(0, Ac n l)] [.ref 0 [] 1 0 n, .int .i64 a, .int .i64 b] [(0, Ac n l)] (.tup [.int .i64 p, .int .i64 0])) (hl : a = 0 ∨ ∃ j, a = j + 1 ∧ l.getD j 0 < l.getD p 0) (c6 : Pt 96 [(0, Ac n l)] [.ref 0 [] 1 0 n, .int .i64 a, .int .i64 b, .int .i64 p] [(0, Ac n l4)] (.tup [.int .i64 mid, .bool ap])) (hm1 : a ≤ mid) (hm2 : mid < b) (hs : ¬ mid - a < b - mid) (c7 : Pt 78 [(0, Ac n l4)] [.ref 0 [] 1 0 n, .int .i64 (((mid + 1) : Nat) : Int), .int .i64 b, .int .i64 (((k + 1) : Nat) : Int)] [(0, Ac n l5)] (.tup [])) {w : Bool} (hg : w = decide ((b - a) / 8 ≤ b - mid)) (hw : Wt Try.f78 [0] [(0, Ac n m)] (.tup []) (Aa Try.f78 0) (qD n a mid (k + 1) w ap l5)) : Wt Try.f78 [0] [(0, Ac n m)] (.tup []) (Aa Try.f78 0) (qD n a b (k + 1) true true l) := by
 rcases hl with rfl | ⟨j, rfl, hl⟩
 ·refine W.seg [(1, aV (I6 0)), (2, aV (I6 (b:Int))), (5, aF), (11, aV (I6 0)), (13, cC true [(0, 0)] c2), (29, aV (I6 0)), (45, aV (I6 0)), (48, cC true [(0, 0)] c6), (57, aV (I6 0)), (58, aV (I6 (mid:Int))), (61, aV (I6 ((b:Int) - (mid:Int)))), (65, aV (I6 (↑(b / 8) : Int))), (69, aF), (76, aV (I6 (↑(mid + 1) : Int))), (79, cC true [(0, 0)] c7)] [(0, 0)] (qD n 0 mid (k + 1) w ap l5) (todo' := Aa Try.f78 0) [I6 (↑(0 : Nat) : Int) = I6 0, I6 (IntKind.wrap .i64 ((b:Int) - 0)) = I6 (b:Int), decide ((b:Int) ≤ 12) = false, I6 (↑(0 : Nat) : Int) = I6 0, _, I6 (↑(0 : Nat) : Int) = I6 0, I6 (↑(0 : Nat) : Int) = I6 0, _, I6 (↑(0 : Nat) : Int) = I6 0, I6 (IntKind.wrap .i64 ((mid:Int) - 0)) = I6 (mid:Int), I6 (IntKind.wrap .i64 ((b:Int) - (mid:Int))) = I6 ((b:Int) - (mid:Int)), I6 (IntKind.wrap .i64 (Int.tdiv (b:Int) (8 : Int))) = I6 (↑(b / 8) : Int), (8 : Int) ≠ (0 : Int), decide ((mid:Int) < (b:Int) - (mid:Int)) = false, I6 (IntKind.wrap .i64 ((mid:Int) + 1)) = I6 (↑(mid + 1) : Int), _, rr (PV.ref 0 [] 1 0 n), rr (I6 (↑(0 : Nat) : Int)), rr (I6 (mid:Int)), rr (I6 (↑(k + 1) : Int)), PV.bool (decide ((b:Int) - (mid:Int) ≥ (↑(b / 8) : Int))) = PV.bool w, rr (PV.bool ap), rr (B6 n l5)] (by kernel_rfl) (ac (cg (by omega)) (ac (cg (Ab rfl (by omega) (by omega))) (ac (dF (by omega)) (ac (cg (by omega)) (ac (c2) (ac (cg (by omega)) (ac (cg (by omega)) (ac (c6) (ac (cg (by omega)) (ac (cg (Ab rfl (by omega) (by omega))) (ac (cg (Ab rfl (by omega) (by omega))) (ac (cg (Ab rfl (by omega) (by omega))) (ac (by omega) (ac (dF (by omega)) (ac (cg (Ab rfl (by omega) (by omega))) (ac (c7) (ac rfl (ac rfl (ac rfl (ac rfl (ac ?_ (ac rfl (ao rfl))))))))))))))))))))))) ?_
  ·refine congrArg PV.bool ?_
   rw [hg, decide_eq_decide]
   first | omega | (rw [wt8 (by omega) (by omega)]; omega)
  ·exact hw
 ·refine W.seg [(2, aV (I6 ((b:Int) - (j:Int) - 1))), (5, aF), (13, cC true [(0, 0)] c2), (30, aT), (34, aV (I6 (j:Int))), (35, aV (PV.at 0 [Stp.idx j 1])), (39, aV (PV.at 0 [Stp.idx p 1])), (41, aK (PV.bool true)), (48, cC true [(0, 0)] c6), (58, aV (I6 ((mid:Int) - (j:Int) - 1))), (61, aV (I6 ((b:Int) - (mid:Int)))), (69, aF), (76, aV (I6 (↑(mid + 1) : Int))), (79, cC true [(0, 0)] c7)] [(0, 0)] (qD n (j + 1) mid (k + 1) w ap l5) (todo' := Aa Try.f78 0) [I6 (IntKind.wrap .i64 ((b:Int) - (↑(j + 1) : Int))) = I6 ((b:Int) - (j:Int) - 1), decide ((b:Int) - (j:Int) - 1 ≤ (12 : Int)) = false, _, decide ((↑(j + 1) : Int) > 0) = true, I6 (IntKind.wrap .i64 ((↑(j + 1) : Int) - 1)) = I6 (j:Int), PV.at 0 [Stp.idx (0 + j) 1] = PV.at 0 [Stp.idx j 1], 0 ≤ (j:Int), (j:Int) < (n:Int), j < n, PV.at 0 [Stp.idx (0 + p) 1] = PV.at 0 [Stp.idx p 1], 0 ≤ (p:Int), (p:Int) < (n:Int), p < n, Pt 71 [] [U6 (List.getD l j (0 : Int)), U6 (List.getD l p (0 : Int))] [] (PV.bool true), _, I6 (IntKind.wrap .i64 ((mid:Int) - (↑(j + 1) : Int))) = I6 ((mid:Int) - (j:Int) - 1), I6 (IntKind.wrap .i64 ((b:Int) - (mid:Int))) = I6 ((b:Int) - (mid:Int)), (8 : Int) ≠ (0 : Int), decide ((mid:Int) - (j:Int) - 1 < (b:Int) - (mid:Int)) = false, I6 (IntKind.wrap .i64 ((mid:Int) + 1)) = I6 (↑(mid + 1) : Int), _, rr (PV.ref 0 [] 1 0 n), rr (I6 (↑(j + 1) : Int)), rr (I6 (mid:Int)), rr (I6 (↑(k + 1) : Int)), PV.bool (decide ((b:Int) - (mid:Int) ≥ IntKind.wrap .i64 (Int.tdiv ((b:Int) - (j:Int) - 1) (8 : Int)))) = PV.bool w, rr (PV.bool ap), rr (B6 n l5)] (by kernel_rfl) (ac (cg (Ab (by omega) (by omega) (by omega))) (ac (dF (by omega)) (ac (c2) (ac (dT (by omega)) (ac (cg (Ab (by omega) (by omega) (by omega))) (ac (by simp only [Nat.zero_add]) (ac (by omega) (ac (by omega) (ac (by omega) (ac (by simp only [Nat.zero_add]) (ac (by omega) (ac (by omega) (ac (by omega) (ac (AU _ _ (by first | omega | decide)) (ac (c6) (ac (cg (Ab (by omega) (by omega) (by omega))) (ac (cg (Ab rfl (by omega) (by omega))) (ac (by omega) (ac (dF (by omega)) (ac (cg (Ab rfl (by omega) (by omega))) (ac (c7) (ac rfl (ac rfl (ac rfl (ac rfl (ac ?_ (ac rfl (ao rfl)))))))))))))))))))))))))))) ?_
  ·refine congrArg PV.bool ?_
   rw [hg, decide_eq_decide]
   first | omega | (rw [wt8 (by omega) (by omega)]; omega)
  ·exact hw
theorem W_zt0fE {n a k mid b p : Nat} {wp ap : Bool} {l l1 l2 l3 l4 l5 m : Liz} (hn : n < 65536) (hb : b ≤ n) (h : (a + 1) + 12 < b) (hk : k < 1000) (hp1 : (a + 1) ≤ p) (hp2 : p < b) (hq : True) (c2 : Pt 92 [(0, Ac n l)] [.ref 0 [] 1 0 n, .int .i64 (((a + 1) : Nat) : Int), .int .i64 b] [(0, Ac n l)] (.tup [.int .i64 p, .int .i64 0])) (hl : ¬ l.getD a 0 < l.getD p 0) (c5 : Pt 95 [(0, Ac n l)] [.ref 0 [] 1 0 n, .int .i64 (((a + 1) : Nat) : Int), .int .i64 b, .int .i64 p] [(0, Ac n l4)] (.int .i64 mid)) (hw : Wt Try.f78 [0] [(0, Ac n m)] (.tup []) (Aa Try.f78 0) (qD n mid b (k + 1) true false l4)) : Wt Try.f78 [0] [(0, Ac n m)] (.tup []) (Aa Try.f78 0) (qD n (a + 1) b (k + 1) true false l) := by
 refine W.sgA 0 [(2, aV (I6 ((b:Int) - (a:Int) - 1))), (5, aF), (13, cC true [(0, 0)] c2), (30, aT), (34, aV (I6 a)), (35, aV (PV.at 0 [Stp.idx a 1])), (39, aV (PV.at 0 [Stp.idx p 1])), (41, aK (PV.bool false)), (48, cC true [(0, 0)] c5)] [(0, 0)] (qD n mid b (k + 1) true false l4) [I6 (IntKind.wrap .i64 ((b:Int) - (↑(a + 1) : Int))) = I6 ((b:Int) - (a:Int) - 1), decide ((b:Int) - (a:Int) - 1 ≤ (12 : Int)) = false, _, decide ((↑(a + 1) : Int) > 0) = true, I6 (IntKind.wrap .i64 ((↑(a + 1) : Int) - 1)) = I6 a, PV.at 0 [Stp.idx (0 + a) 1] = PV.at 0 [Stp.idx a 1], 0 ≤ (a:Int), (a:Int) < (n:Int), a < n, PV.at 0 [Stp.idx (0 + p) 1] = PV.at 0 [Stp.idx p 1], 0 ≤ (p:Int), (p:Int) < (n:Int), p < n, Pt 71 [] [U6 (List.getD l a (0 : Int)), U6 (List.getD l p (0 : Int))] [] (PV.bool false), _] (ac (cg (Ab (by omega) (by omega) (by omega))) (ac (dF (by omega)) (ac (c2) (ac (dT (by omega)) (ac (cg (Ab (by omega) (by omega) (by omega))) (ac (by simp only [Nat.zero_add]) (ob3 (by omega) (ac (by simp only [Nat.zero_add]) (ob3 (by omega) (ac (Bn _ _ (by first | omega | decide)) (ao (c5)))))))))))) ?_
 exact hw
theorem W_zt0fL {n a k mid b p : Nat} {wp ap : Bool} {l l1 l2 l3 l4 l5 m : Liz} (hn : n < 65536) (hb : b ≤ n) (h : a + 12 < b) (hk : k < 1000) (hp1 : a ≤ p) (hp2 : p < b) (hq : True) (c2 : Pt 92 [(0, Ac n l)] [.ref 0 [] 1 0 n, .int .i64 a, .int .i64 b] [(0, Ac n l)] (.tup [.int .i64 p, .int .i64 0])) (hl : a = 0 ∨ ∃ j, a = j + 1 ∧ l.getD j 0 < l.getD p 0) (c6 : Pt 96 [(0, Ac n l)] [.ref 0 [] 1 0 n, .int .i64 a, .int .i64 b, .int .i64 p] [(0, Ac n l4)] (.tup [.int .i64 mid, .bool ap])) (hm1 : a ≤ mid) (hm2 : mid < b) (hs : mid - a < b - mid) (c7 : Pt 78 [(0, Ac n l4)] [.ref 0 [] 1 0 n, .int .i64 a, .int .i64 mid, .int .i64 (((k + 1) : Nat) : Int)] [(0, Ac n l5)] (.tup [])) {w : Bool} (hg : w = decide ((b - a) / 8 ≤ mid - a)) (hw : Wt Try.f78 [0] [(0, Ac n m)] (.tup []) (Aa Try.f78 0) (qD n (mid + 1) b (k + 1) w ap l5)) : Wt Try.f78 [0] [(0, Ac n m)] (.tup []) (Aa Try.f78 0) (qD n a b (k + 1) true false l) := by
 rcases hl with rfl | ⟨j, rfl, hl⟩
 ·refine W.seg [(1, aV (I6 0)), (2, aV (I6 (b:Int))), (5, aF), (11, aV (I6 0)), (13, cC true [(0, 0)] c2), (29, aV (I6 0)), (45, aV (I6 0)), (48, cC true [(0, 0)] c6), (57, aV (I6 0)), (58, aV (I6 (mid:Int))), (61, aV (I6 ((b:Int) - (mid:Int)))), (65, aV (I6 (↑(b / 8) : Int))), (69, aT), (75, aV (I6 0)), (78, cC true [(0, 0)] c7), (80, aV (I6 (↑(mid + 1) : Int)))] [(0, 0)] (qD n (mid + 1) b (k + 1) w ap l5) (todo' := Aa Try.f78 0) [I6 (↑(0 : Nat) : Int) = I6 0, I6 (IntKind.wrap .i64 ((b:Int) - 0)) = I6 (b:Int), decide ((b:Int) ≤ 12) = false, I6 (↑(0 : Nat) : Int) = I6 0, _, I6 (↑(0 : Nat) : Int) = I6 0, I6 (↑(0 : Nat) : Int) = I6 0, _, I6 (↑(0 : Nat) : Int) = I6 0, I6 (IntKind.wrap .i64 ((mid:Int) - 0)) = I6 (mid:Int), I6 (IntKind.wrap .i64 ((b:Int) - (mid:Int))) = I6 ((b:Int) - (mid:Int)), I6 (IntKind.wrap .i64 (Int.tdiv (b:Int) (8 : Int))) = I6 (↑(b / 8) : Int), (8 : Int) ≠ (0 : Int), decide ((mid:Int) < (b:Int) - (mid:Int)) = true, I6 (↑(0 : Nat) : Int) = I6 0, _, I6 (IntKind.wrap .i64 ((mid:Int) + 1)) = I6 (↑(mid + 1) : Int), rr (PV.ref 0 [] 1 0 n), rr (I6 (↑(mid + 1) : Int)), rr (I6 (b:Int)), rr (I6 (↑(k + 1) : Int)), PV.bool (decide ((mid:Int) ≥ (↑(b / 8) : Int))) = PV.bool w, rr (PV.bool ap), rr (B6 n l5)] (by kernel_rfl) (ac (cg (by omega)) (ac (cg (Ab rfl (by omega) (by omega))) (ac (dF (by omega)) (ac (cg (by omega)) (ac (c2) (ac (cg (by omega)) (ac (cg (by omega)) (ac (c6) (ac (cg (by omega)) (ac (cg (Ab rfl (by omega) (by omega))) (ac (cg (Ab rfl (by omega) (by omega))) (ac (cg (Ab rfl (by omega) (by omega))) (ac (by omega) (ac (dT (by omega)) (ac (cg (by omega)) (ac (c7) (ac (cg (Ab rfl (by omega) (by omega))) (ac rfl (ac rfl (ac rfl (ac rfl (ac ?_ (ac rfl (ao rfl)))))))))))))))))))))))) ?_
  ·refine congrArg PV.bool ?_
   rw [hg, decide_eq_decide]
   first | omega | (rw [wt8 (by omega) (by omega)]; omega)
  ·exact hw
 ·refine W.seg [(2, aV (I6 ((b:Int) - (j:Int) - 1))), (5, aF), (13, cC true [(0, 0)] c2), (30, aT), (34, aV (I6 (j:Int))), (35, aV (PV.at 0 [Stp.idx j 1])), (39, aV (PV.at 0 [Stp.idx p 1])), (41, aK (PV.bool true)), (48, cC true [(0, 0)] c6), (58, aV (I6 ((mid:Int) - (j:Int) - 1))), (61, aV (I6 ((b:Int) - (mid:Int)))), (69, aT), (78, cC true [(0, 0)] c7), (80, aV (I6 (↑(mid + 1) : Int)))] [(0, 0)] (qD n (mid + 1) b (k + 1) w ap l5) (todo' := Aa Try.f78 0) [I6 (IntKind.wrap .i64 ((b:Int) - (↑(j + 1) : Int))) = I6 ((b:Int) - (j:Int) - 1), decide ((b:Int) - (j:Int) - 1 ≤ (12 : Int)) = false, _, decide ((↑(j + 1) : Int) > 0) = true, I6 (IntKind.wrap .i64 ((↑(j + 1) : Int) - 1)) = I6 (j:Int), PV.at 0 [Stp.idx (0 + j) 1] = PV.at 0 [Stp.idx j 1], 0 ≤ (j:Int), (j:Int) < (n:Int), j < n, PV.at 0 [Stp.idx (0 + p) 1] = PV.at 0 [Stp.idx p 1], 0 ≤ (p:Int), (p:Int) < (n:Int), p < n, Pt 71 [] [U6 (List.getD l j (0 : Int)), U6 (List.getD l p (0 : Int))] [] (PV.bool true), _, I6 (IntKind.wrap .i64 ((mid:Int) - (↑(j + 1) : Int))) = I6 ((mid:Int) - (j:Int) - 1), I6 (IntKind.wrap .i64 ((b:Int) - (mid:Int))) = I6 ((b:Int) - (mid:Int)), (8 : Int) ≠ (0 : Int), decide ((mid:Int) - (j:Int) - 1 < (b:Int) - (mid:Int)) = true, _, I6 (IntKind.wrap .i64 ((mid:Int) + 1)) = I6 (↑(mid + 1) : Int), rr (PV.ref 0 [] 1 0 n), rr (I6 (↑(mid + 1) : Int)), rr (I6 (b:Int)), rr (I6 (↑(k + 1) : Int)), PV.bool (decide ((mid:Int) - (j:Int) - 1 ≥ IntKind.wrap .i64 (Int.tdiv ((b:Int) - (j:Int) - 1) (8 : Int)))) = PV.bool w, rr (PV.bool ap), rr (B6 n l5)] (by kernel_rfl) (ac (cg (Ab (by omega) (by omega) (by omega))) (ac (dF (by omega)) (ac (c2) (ac (dT (by omega)) (ac (cg (Ab (by omega) (by omega) (by omega))) (ac (by simp only [Nat.zero_add]) (ac (by omega) (ac (by omega) (ac (by omega) (ac (by simp only [Nat.zero_add]) (ac (by omega) (ac (by omega) (ac (by omega) (ac (AU _ _ (by first | omega | decide)) (ac (c6) (ac (cg (Ab (by omega) (by omega) (by omega))) (ac (cg (Ab rfl (by omega) (by omega))) (ac (by omega) (ac (dT (by omega)) (ac (c7) (ac (cg (Ab rfl (by omega) (by omega))) (ac rfl (ac rfl (ac rfl (ac rfl (ac ?_ (ac rfl (ao rfl)))))))))))))))))))))))))))) ?_
  ·refine congrArg PV.bool ?_
   rw [hg, decide_eq_decide]
   first | omega | (rw [wt8 (by omega) (by omega)]; omega)
  ·exact hw
theorem W_zt0fR {n a k mid b p : Nat} {wp ap : Bool} {l l1 l2 l3 l4 l5 m : Liz} (hn : n < 65536) (hb : b ≤ n) (h : a + 12 < b) (hk : k < 1000) (hp1 : a ≤ p) (hp2 : p < b) (hq : True) (c2 : Pt 92 [(0, Ac n l)] [.ref 0 [] 1 0 n, .int .i64 a, .int .i64 b] [(0, Ac n l)] (.tup [.int .i64 p, .int .i64 0])) (hl : a = 0 ∨ ∃ j, a = j + 1 ∧ l.getD j 0 < l.getD p 0) (c6 : Pt 96 [(0, Ac n l)] [.ref 0 [] 1 0 n, .int .i64 a, .int .i64 b, .int .i64 p] [(0, Ac n l4)] (.tup [.int .i64 mid, .bool ap])) (hm1 : a ≤ mid) (hm2 : mid < b) (hs : ¬ mid - a < b - mid) (c7 : Pt 78 [(0, Ac n l4)] [.ref 0 [] 1 0 n, .int .i64 (((mid + 1) : Nat) : Int), .int .i64 b, .int .i64 (((k + 1) : Nat) : Int)] [(0, Ac n l5)] (.tup [])) {w : Bool} (hg : w = decide ((b - a) / 8 ≤ b - mid)) (hw : Wt Try.f78 [0] [(0, Ac n m)] (.tup []) (Aa Try.f78 0) (qD n a mid (k + 1) w ap l5)) : Wt Try.f78 [0] [(0, Ac n m)] (.tup []) (Aa Try.f78 0) (qD n a b (k + 1) true false l) := by
 rcases hl with rfl | ⟨j, rfl, hl⟩
 ·refine W.seg [(1, aV (I6 0)), (2, aV (I6 (b:Int))), (5, aF), (11, aV (I6 0)), (13, cC true [(0, 0)] c2), (29, aV (I6 0)), (45, aV (I6 0)), (48, cC true [(0, 0)] c6), (57, aV (I6 0)), (58, aV (I6 (mid:Int))), (61, aV (I6 ((b:Int) - (mid:Int)))), (65, aV (I6 (↑(b / 8) : Int))), (69, aF), (76, aV (I6 (↑(mid + 1) : Int))), (79, cC true [(0, 0)] c7)] [(0, 0)] (qD n 0 mid (k + 1) w ap l5) (todo' := Aa Try.f78 0) [I6 (↑(0 : Nat) : Int) = I6 0, I6 (IntKind.wrap .i64 ((b:Int) - 0)) = I6 (b:Int), decide ((b:Int) ≤ 12) = false, I6 (↑(0 : Nat) : Int) = I6 0, _, I6 (↑(0 : Nat) : Int) = I6 0, I6 (↑(0 : Nat) : Int) = I6 0, _, I6 (↑(0 : Nat) : Int) = I6 0, I6 (IntKind.wrap .i64 ((mid:Int) - 0)) = I6 (mid:Int), I6 (IntKind.wrap .i64 ((b:Int) - (mid:Int))) = I6 ((b:Int) - (mid:Int)), I6 (IntKind.wrap .i64 (Int.tdiv (b:Int) (8 : Int))) = I6 (↑(b / 8) : Int), (8 : Int) ≠ (0 : Int), decide ((mid:Int) < (b:Int) - (mid:Int)) = false, I6 (IntKind.wrap .i64 ((mid:Int) + 1)) = I6 (↑(mid + 1) : Int), _, rr (PV.ref 0 [] 1 0 n), rr (I6 (↑(0 : Nat) : Int)), rr (I6 (mid:Int)), rr (I6 (↑(k + 1) : Int)), PV.bool (decide ((b:Int) - (mid:Int) ≥ (↑(b / 8) : Int))) = PV.bool w, rr (PV.bool ap), rr (B6 n l5)] (by kernel_rfl) (ac (cg (by omega)) (ac (cg (Ab rfl (by omega) (by omega))) (ac (dF (by omega)) (ac (cg (by omega)) (ac (c2) (ac (cg (by omega)) (ac (cg (by omega)) (ac (c6) (ac (cg (by omega)) (ac (cg (Ab rfl (by omega) (by omega))) (ac (cg (Ab rfl (by omega) (by omega))) (ac (cg (Ab rfl (by omega) (by omega))) (ac (by omega) (ac (dF (by omega)) (ac (cg (Ab rfl (by omega) (by omega))) (ac (c7) (ac rfl (ac rfl (ac rfl (ac rfl (ac ?_ (ac rfl (ao rfl))))))))))))))))))))))) ?_
  ·refine congrArg PV.bool ?_
   rw [hg, decide_eq_decide]
   first | omega | (rw [wt8 (by omega) (by omega)]; omega)
  ·exact hw
 ·refine W.seg [(2, aV (I6 ((b:Int) - (j:Int) - 1))), (5, aF), (13, cC true [(0, 0)] c2), (30, aT), (34, aV (I6 (j:Int))), (35, aV (PV.at 0 [Stp.idx j 1])), (39, aV (PV.at 0 [Stp.idx p 1])), (41, aK (PV.bool true)), (48, cC true [(0, 0)] c6), (58, aV (I6 ((mid:Int) - (j:Int) - 1))), (61, aV (I6 ((b:Int) - (mid:Int)))), (69, aF), (76, aV (I6 (↑(mid + 1) : Int))), (79, cC true [(0, 0)] c7)] [(0, 0)] (qD n (j + 1) mid (k + 1) w ap l5) (todo' := Aa Try.f78 0) [I6 (IntKind.wrap .i64 ((b:Int) - (↑(j + 1) : Int))) = I6 ((b:Int) - (j:Int) - 1), decide ((b:Int) - (j:Int) - 1 ≤ (12 : Int)) = false, _, decide ((↑(j + 1) : Int) > 0) = true, I6 (IntKind.wrap .i64 ((↑(j + 1) : Int) - 1)) = I6 (j:Int), PV.at 0 [Stp.idx (0 + j) 1] = PV.at 0 [Stp.idx j 1], 0 ≤ (j:Int), (j:Int) < (n:Int), j < n, PV.at 0 [Stp.idx (0 + p) 1] = PV.at 0 [Stp.idx p 1], 0 ≤ (p:Int), (p:Int) < (n:Int), p < n, Pt 71 [] [U6 (List.getD l j (0 : Int)), U6 (List.getD l p (0 : Int))] [] (PV.bool true), _, I6 (IntKind.wrap .i64 ((mid:Int) - (↑(j + 1) : Int))) = I6 ((mid:Int) - (j:Int) - 1), I6 (IntKind.wrap .i64 ((b:Int) - (mid:Int))) = I6 ((b:Int) - (mid:Int)), (8 : Int) ≠ (0 : Int), decide ((mid:Int) - (j:Int) - 1 < (b:Int) - (mid:Int)) = false, I6 (IntKind.wrap .i64 ((mid:Int) + 1)) = I6 (↑(mid + 1) : Int), _, rr (PV.ref 0 [] 1 0 n), rr (I6 (↑(j + 1) : Int)), rr (I6 (mid:Int)), rr (I6 (↑(k + 1) : Int)), PV.bool (decide ((b:Int) - (mid:Int) ≥ IntKind.wrap .i64 (Int.tdiv ((b:Int) - (j:Int) - 1) (8 : Int)))) = PV.bool w, rr (PV.bool ap), rr (B6 n l5)] (by kernel_rfl) (ac (cg (Ab (by omega) (by omega) (by omega))) (ac (dF (by omega)) (ac (c2) (ac (dT (by omega)) (ac (cg (Ab (by omega) (by omega) (by omega))) (ac (by simp only [Nat.zero_add]) (ac (by omega) (ac (by omega) (ac (by omega) (ac (by simp only [Nat.zero_add]) (ac (by omega) (ac (by omega) (ac (by omega) (ac (AU _ _ (by first | omega | decide)) (ac (c6) (ac (cg (Ab (by omega) (by omega) (by omega))) (ac (cg (Ab rfl (by omega) (by omega))) (ac (by omega) (ac (dF (by omega)) (ac (cg (Ab rfl (by omega) (by omega))) (ac (c7) (ac rfl (ac rfl (ac rfl (ac rfl (ac ?_ (ac rfl (ao rfl)))))))))))))))))))))))))))) ?_
  ·refine congrArg PV.bool ?_
   rw [hg, decide_eq_decide]
   first | omega | (rw [wt8 (by omega) (by omega)]; omega)
  ·exact hw
theorem W_zf2xE {n a k mid q t : Nat} {wp ap : Bool} {l l1 l2 l3 l4 l5 m : Liz} (hn : n < 65536) (hb : (q + t + 1) ≤ n) (h : (a + 1) + 12 < (q + t + 1)) (hk : k < 1000) (hp1 : (a + 1) ≤ (a + 1) + t) (hp2 : (a + 1) + t < (q + t + 1)) (hq : (a + 1) ≤ q) (c1 : Pt 91 [(0, Ac n l)] [.ref 0 [] 1 0 n, .int .i64 (((a + 1) : Nat) : Int), .int .i64 (((q + t + 1) : Nat) : Int)] [(0, Ac n l1)] (.tup [])) (c2 : Pt 92 [(0, Ac n l1)] [.ref 0 [] 1 0 n, .int .i64 (((a + 1) : Nat) : Int), .int .i64 (((q + t + 1) : Nat) : Int)] [(0, Ac n l1)] (.tup [.int .i64 ((((a + 1) + t) : Nat) : Int), .int .i64 2])) (c3 : Pt 93 [(0, Ac n l1)] [.ref 0 [] 1 0 n, .int .i64 (((a + 1) : Nat) : Int), .int .i64 (((q + t + 1) : Nat) : Int)] [(0, Ac n l2)] (.tup [])) (hl : ¬ l2.getD a 0 < l2.getD q 0) (c5 : Pt 95 [(0, Ac n l2)] [.ref 0 [] 1 0 n, .int .i64 (((a + 1) : Nat) : Int), .int .i64 (((q + t + 1) : Nat) : Int), .int .i64 q] [(0, Ac n l4)] (.int .i64 mid)) (hw : Wt Try.f78 [0] [(0, Ac n m)] (.tup []) (Aa Try.f78 0) (qD n mid (q + t + 1) k false wp l4)) : Wt Try.f78 [0] [(0, Ac n m)] (.tup []) (Aa Try.f78 0) (qD n (a + 1) (q + t + 1) (k + 1) false wp l) := by
 refine W.sgA 0 [(2, aV (I6 ((q:Int) + (t:Int) - (a:Int)))), (5, aF), (13, cC true [(0, 0)] c1), (15, aV (I6 k)), (20, cC true [(0, 0)] c2), (22, aV (I6 ↑(a + t + 1))), (31, cC true [(0, 0)] c3), (33, aV (I6 ↑(q + t))), (36, aV (I6 t)), (37, aV (I6 q)), (49, aT), (53, aV (I6 a)), (54, aV (PV.at 0 [Stp.idx a 1])), (58, aV (PV.at 0 [Stp.idx q 1])), (60, aK (PV.bool false)), (67, cC true [(0, 0)] c5)] [(0, 0)] (qD n mid (q + t + 1) k false wp l4) [I6 (IntKind.wrap .i64 ((↑(q + t + 1) : Int) - (↑(a + 1) : Int))) = I6 ((q:Int) + (t:Int) - (a:Int)), decide ((q:Int) + (t:Int) - (a:Int) ≤ 12) = false, _, I6 (IntKind.wrap .i64 ((↑(k + 1) : Int) - 1)) = I6 k, _, I6 ↑(a + 1 + t) = I6 ↑(a + t + 1), _, I6 (IntKind.wrap .i64 ((↑(q + t + 1) : Int) - 1)) = I6 ↑(q + t), I6 (IntKind.wrap .i64 ((↑(a + t + 1) : Int) - (↑(a + 1) : Int))) = I6 t, I6 (IntKind.wrap .i64 ((↑(q + t) : Int) - (t:Int))) = I6 q, decide ((↑(a + 1) : Int) > 0) = true, I6 (IntKind.wrap .i64 ((↑(a + 1) : Int) - 1)) = I6 a, PV.at 0 [Stp.idx (0 + a) 1] = PV.at 0 [Stp.idx a 1], 0 ≤ (a:Int), (a:Int) < (n:Int), a < n, PV.at 0 [Stp.idx (0 + q) 1] = PV.at 0 [Stp.idx q 1], 0 ≤ (q:Int), (q:Int) < (n:Int), q < n, Pt 71 [] [U6 (List.getD l2 a (0 : Int)), U6 (List.getD l2 q (0 : Int))] [] (PV.bool false), _] (ac (cg (Ab (by omega) (by omega) (by omega))) (ac (dF (by omega)) (ac (c1) (ac (cg (Ab (by omega) (by omega) (by omega))) (ac (c2) (ac (cg (by omega)) (ac (c3) (ac (cg (Ab (by omega) (by omega) (by omega))) (ac (cg (Ab (by omega) (by omega) (by omega))) (ac (cg (Ab (by omega) (by omega) (by omega))) (ac (dT (by omega)) (ac (cg (Ab (by omega) (by omega) (by omega))) (ac (by simp only [Nat.zero_add]) (ob3 (by omega) (ac (by simp only [Nat.zero_add]) (ob3 (by omega) (ac (Bn _ _ (by first | omega | decide)) (ao (c5))))))))))))))))))) ?_
 exact hw
theorem W_zf2xL {n a k mid q t : Nat} {wp ap : Bool} {l l1 l2 l3 l4 l5 m : Liz} (hn : n < 65536) (hb : (q + t + 1) ≤ n) (h : a + 12 < (q + t + 1)) (hk : k < 1000) (hp1 : a ≤ a + t) (hp2 : a + t < (q + t + 1)) (hq : a ≤ q) (c1 : Pt 91 [(0, Ac n l)] [.ref 0 [] 1 0 n, .int .i64 a, .int .i64 (((q + t + 1) : Nat) : Int)] [(0, Ac n l1)] (.tup [])) (c2 : Pt 92 [(0, Ac n l1)] [.ref 0 [] 1 0 n, .int .i64 a, .int .i64 (((q + t + 1) : Nat) : Int)] [(0, Ac n l1)] (.tup [.int .i64 (((a + t) : Nat) : Int), .int .i64 2])) (c3 : Pt 93 [(0, Ac n l1)] [.ref 0 [] 1 0 n, .int .i64 a, .int .i64 (((q + t + 1) : Nat) : Int)] [(0, Ac n l2)] (.tup [])) (hl : a = 0 ∨ ∃ j, a = j + 1 ∧ l2.getD j 0 < l2.getD q 0) (c6 : Pt 96 [(0, Ac n l2)] [.ref 0 [] 1 0 n, .int .i64 a, .int .i64 (((q + t + 1) : Nat) : Int), .int .i64 q] [(0, Ac n l4)] (.tup [.int .i64 mid, .bool ap])) (hm1 : a ≤ mid) (hm2 : mid < (q + t + 1)) (hs : mid - a < (q + t + 1) - mid) (c7 : Pt 78 [(0, Ac n l4)] [.ref 0 [] 1 0 n, .int .i64 a, .int .i64 mid, .int .i64 k] [(0, Ac n l5)] (.tup [])) {w : Bool} (hg : w = decide (((q + t + 1) - a) / 8 ≤ mid - a)) (hw : Wt Try.f78 [0] [(0, Ac n m)] (.tup []) (Aa Try.f78 0) (qD n (mid + 1) (q + t + 1) k w ap l5)) : Wt Try.f78 [0] [(0, Ac n m)] (.tup []) (Aa Try.f78 0) (qD n a (q + t + 1) (k + 1) false wp l) := by
 rcases hl with rfl | ⟨j, rfl, hl⟩
 ·refine W.seg [(1, aV (I6 0)), (2, aV (I6 (↑(q + t + 1) : Int))), (5, aF), (11, aV (I6 0)), (13, cC true [(0, 0)] c1), (15, aV (I6 (k:Int))), (18, aV (I6 0)), (20, cC true [(0, 0)] c2), (21, aV (PV.tup [I6 (t:Int), I6 2])), (29, aV (I6 0)), (31, cC true [(0, 0)] c3), (33, aV (I6 (↑(q + t) : Int))), (35, aV (I6 0)), (36, aV (I6 (t:Int))), (37, aV (I6 (q:Int))), (48, aV (I6 0)), (64, aV (I6 0)), (67, cC true [(0, 0)] c6), (76, aV (I6 0)), (77, aV (I6 (mid:Int))), (80, aV (I6 ((q:Int) + (t:Int) + 1 - (mid:Int)))), (84, aV (I6 (↑((q + t + 1) / 8) : Int))), (88, aT), (94, aV (I6 0)), (97, cC true [(0, 0)] c7), (99, aV (I6 (↑(mid + 1) : Int)))] [(0, 0)] (qD n (mid + 1) (q + t + 1) k w ap l5) (todo' := Aa Try.f78 0) [I6 (↑(0 : Nat) : Int) = I6 0, I6 (IntKind.wrap .i64 ((↑(q + t + 1) : Int) - 0)) = I6 (↑(q + t + 1) : Int), decide ((↑(q + t + 1) : Int) ≤ 12) = false, I6 (↑(0 : Nat) : Int) = I6 0, _, I6 (IntKind.wrap .i64 ((↑(k + 1) : Int) - 1)) = I6 (k:Int), I6 (↑(0 : Nat) : Int) = I6 0, _, PV.tup [I6 (↑(0 + t) : Int), I6 2] = PV.tup [I6 (t:Int), I6 2], I6 (↑(0 : Nat) : Int) = I6 0, _, I6 (IntKind.wrap .i64 ((↑(q + t + 1) : Int) - 1)) = I6 (↑(q + t) : Int), I6 (↑(0 : Nat) : Int) = I6 0, I6 (IntKind.wrap .i64 ((t:Int) - 0)) = I6 (t:Int), I6 (IntKind.wrap .i64 ((↑(q + t) : Int) - (t:Int))) = I6 (q:Int), I6 (↑(0 : Nat) : Int) = I6 0, I6 (↑(0 : Nat) : Int) = I6 0, _, I6 (↑(0 : Nat) : Int) = I6 0, I6 (IntKind.wrap .i64 ((mid:Int) - 0)) = I6 (mid:Int), I6 (IntKind.wrap .i64 ((↑(q + t + 1) : Int) - (mid:Int))) = I6 ((q:Int) + (t:Int) + 1 - (mid:Int)), I6 (IntKind.wrap .i64 (Int.tdiv (↑(q + t + 1) : Int) (8 : Int))) = I6 (↑((q + t + 1) / 8) : Int), (8 : Int) ≠ (0 : Int), decide ((mid:Int) < (q:Int) + (t:Int) + 1 - (mid:Int)) = true, I6 (↑(0 : Nat) : Int) = I6 0, _, I6 (IntKind.wrap .i64 ((mid:Int) + 1)) = I6 (↑(mid + 1) : Int), rr (PV.ref 0 [] 1 0 n), rr (I6 (↑(mid + 1) : Int)), rr (I6 (↑(q + t + 1) : Int)), rr (I6 (k:Int)), PV.bool (decide ((mid:Int) ≥ (↑((q + t + 1) / 8) : Int))) = PV.bool w, rr (PV.bool ap), rr (B6 n l5)] (by kernel_rfl) (ac (cg (by omega)) (ac (cg (Ab rfl (by omega) (by omega))) (ac (dF (by omega)) (ac (cg (by omega)) (ac (c1) (ac (cg (Ab (by omega) (by omega) (by omega))) (ac (cg (by omega)) (ac (c2) (ac (by simp only [Nat.zero_add]) (ac (cg (by omega)) (ac (c3) (ac (cg (Ab (by omega) (by omega) (by omega))) (ac (cg (by omega)) (ac (cg (Ab rfl (by omega) (by omega))) (ac (cg (Ab (by omega) (by omega) (by omega))) (ac (cg (by omega)) (ac (cg (by omega)) (ac (c6) (ac (cg (by omega)) (ac (cg (Ab rfl (by omega) (by omega))) (ac (cg (Ab rfl (by omega) (by omega))) (ac (cg (Ab rfl (by omega) (by omega))) (ac (by omega) (ac (dT (by omega)) (ac (cg (by omega)) (ac (c7) (ac (cg (Ab rfl (by omega) (by omega))) (ac rfl (ac rfl (ac rfl (ac rfl (ac ?_ (ac rfl (ao rfl)))))))))))))))))))))))))))))))))) ?_
  ·refine congrArg PV.bool ?_
   rw [hg, decide_eq_decide]
   first | omega | (rw [wt8 (by omega) (by omega)]; omega)
  ·exact hw
 ·refine W.seg [(2, aV (I6 ((q:Int) + (t:Int) - (j:Int)))), (5, aF), (13, cC true [(0, 0)] c1), (15, aV (I6 (k:Int))), (20, cC true [(0, 0)] c2), (22, aV (I6 (↑(j + t + 1) : Int))), (31, cC true [(0, 0)] c3), (33, aV (I6 (↑(q + t) : Int))), (36, aV (I6 (t:Int))), (37, aV (I6 (q:Int))), (49, aT), (53, aV (I6 (j:Int))), (54, aV (PV.at 0 [Stp.idx j 1])), (58, aV (PV.at 0 [Stp.idx q 1])), (60, aK (PV.bool true)), (67, cC true [(0, 0)] c6), (77, aV (I6 ((mid:Int) - (j:Int) - 1))), (80, aV (I6 ((q:Int) + (t:Int) + 1 - (mid:Int)))), (88, aT), (97, cC true [(0, 0)] c7), (99, aV (I6 (↑(mid + 1) : Int)))] [(0, 0)] (qD n (mid + 1) (q + t + 1) k w ap l5) (todo' := Aa Try.f78 0) [I6 (IntKind.wrap .i64 ((↑(q + t + 1) : Int) - (↑(j + 1) : Int))) = I6 ((q:Int) + (t:Int) - (j:Int)), decide ((q:Int) + (t:Int) - (j:Int) ≤ 12) = false, _, I6 (IntKind.wrap .i64 ((↑(k + 1) : Int) - 1)) = I6 (k:Int), _, I6 (↑(j + 1 + t) : Int) = I6 (↑(j + t + 1) : Int), _, I6 (IntKind.wrap .i64 ((↑(q + t + 1) : Int) - 1)) = I6 (↑(q + t) : Int), I6 (IntKind.wrap .i64 ((↑(j + t + 1) : Int) - (↑(j + 1) : Int))) = I6 (t:Int), I6 (IntKind.wrap .i64 ((↑(q + t) : Int) - (t:Int))) = I6 (q:Int), decide ((↑(j + 1) : Int) > 0) = true, I6 (IntKind.wrap .i64 ((↑(j + 1) : Int) - 1)) = I6 (j:Int), PV.at 0 [Stp.idx (0 + j) 1] = PV.at 0 [Stp.idx j 1], 0 ≤ (j:Int), (j:Int) < (n:Int), j < n, PV.at 0 [Stp.idx (0 + q) 1] = PV.at 0 [Stp.idx q 1], 0 ≤ (q:Int), (q:Int) < (n:Int), q < n, Pt 71 [] [U6 (List.getD l2 j (0 : Int)), U6 (List.getD l2 q (0 : Int))] [] (PV.bool true), _, I6 (IntKind.wrap .i64 ((mid:Int) - (↑(j + 1) : Int))) = I6 ((mid:Int) - (j:Int) - 1), I6 (IntKind.wrap .i64 ((↑(q + t + 1) : Int) - (mid:Int))) = I6 ((q:Int) + (t:Int) + 1 - (mid:Int)), (8 : Int) ≠ (0 : Int), decide ((mid:Int) - (j:Int) - 1 < (q:Int) + (t:Int) + 1 - (mid:Int)) = true, _, I6 (IntKind.wrap .i64 ((mid:Int) + 1)) = I6 (↑(mid + 1) : Int), rr (PV.ref 0 [] 1 0 n), rr (I6 (↑(mid + 1) : Int)), rr (I6 (↑(q + t + 1) : Int)), rr (I6 (k:Int)), PV.bool (decide ((mid:Int) - (j:Int) - 1 ≥ IntKind.wrap .i64 (Int.tdiv ((q:Int) + (t:Int) - (j:Int)) (8 : Int)))) = PV.bool w, rr (PV.bool ap), rr (B6 n l5)] (by kernel_rfl) (ac (cg (Ab (by omega) (by omega) (by omega))) (ac (dF (by omega)) (ac (c1) (ac (cg (Ab (by omega) (by omega) (by omega))) (ac (c2) (ac (cg (by omega)) (ac (c3) (ac (cg (Ab (by omega) (by omega) (by omega))) (ac (cg (Ab (by omega) (by omega) (by omega))) (ac (cg (Ab (by omega) (by omega) (by omega))) (ac (dT (by omega)) (ac (cg (Ab (by omega) (by omega) (by omega))) (ac (by simp only [Nat.zero_add]) (ac (by omega) (ac (by omega) (ac (by omega) (ac (by simp only [Nat.zero_add]) (ac (by omega) (ac (by omega) (ac (by omega) (ac (AU _ _ (by first | omega | decide)) (ac (c6) (ac (cg (Ab (by omega) (by omega) (by omega))) (ac (cg (Ab rfl (by omega) (by omega))) (ac (by omega) (ac (dT (by omega)) (ac (c7) (ac (cg (Ab rfl (by omega) (by omega))) (ac rfl (ac rfl (ac rfl (ac rfl (ac ?_ (ac rfl (ao rfl))))))))))))))))))))))))))))))))))) ?_
  ·refine congrArg PV.bool ?_
   rw [hg, decide_eq_decide]
   first | omega | (rw [wt8 (by omega) (by omega)]; omega)
  ·exact hw
theorem W_zf2xR {n a k mid q t : Nat} {wp ap : Bool} {l l1 l2 l3 l4 l5 m : Liz} (hn : n < 65536) (hb : (q + t + 1) ≤ n) (h : a + 12 < (q + t + 1)) (hk : k < 1000) (hp1 : a ≤ a + t) (hp2 : a + t < (q + t + 1)) (hq : a ≤ q) (c1 : Pt 91 [(0, Ac n l)] [.ref 0 [] 1 0 n, .int .i64 a, .int .i64 (((q + t + 1) : Nat) : Int)] [(0, Ac n l1)] (.tup [])) (c2 : Pt 92 [(0, Ac n l1)] [.ref 0 [] 1 0 n, .int .i64 a, .int .i64 (((q + t + 1) : Nat) : Int)] [(0, Ac n l1)] (.tup [.int .i64 (((a + t) : Nat) : Int), .int .i64 2])) (c3 : Pt 93 [(0, Ac n l1)] [.ref 0 [] 1 0 n, .int .i64 a, .int .i64 (((q + t + 1) : Nat) : Int)] [(0, Ac n l2)] (.tup [])) (hl : a = 0 ∨ ∃ j, a = j + 1 ∧ l2.getD j 0 < l2.getD q 0) (c6 : Pt 96 [(0, Ac n l2)] [.ref 0 [] 1 0 n, .int .i64 a, .int .i64 (((q + t + 1) : Nat) : Int), .int .i64 q] [(0, Ac n l4)] (.tup [.int .i64 mid, .bool ap])) (hm1 : a ≤ mid) (hm2 : mid < (q + t + 1)) (hs : ¬ mid - a < (q + t + 1) - mid) (c7 : Pt 78 [(0, Ac n l4)] [.ref 0 [] 1 0 n, .int .i64 (((mid + 1) : Nat) : Int), .int .i64 (((q + t + 1) : Nat) : Int), .int .i64 k] [(0, Ac n l5)] (.tup [])) {w : Bool} (hg : w = decide (((q + t + 1) - a) / 8 ≤ (q + t + 1) - mid)) (hw : Wt Try.f78 [0] [(0, Ac n m)] (.tup []) (Aa Try.f78 0) (qD n a mid k w ap l5)) : Wt Try.f78 [0] [(0, Ac n m)] (.tup []) (Aa Try.f78 0) (qD n a (q + t + 1) (k + 1) false wp l) := by
 rcases hl with rfl | ⟨j, rfl, hl⟩
 ·refine W.seg [(1, aV (I6 0)), (2, aV (I6 (↑(q + t + 1) : Int))), (5, aF), (11, aV (I6 0)), (13, cC true [(0, 0)] c1), (15, aV (I6 (k:Int))), (18, aV (I6 0)), (20, cC true [(0, 0)] c2), (21, aV (PV.tup [I6 (t:Int), I6 2])), (29, aV (I6 0)), (31, cC true [(0, 0)] c3), (33, aV (I6 (↑(q + t) : Int))), (35, aV (I6 0)), (36, aV (I6 (t:Int))), (37, aV (I6 (q:Int))), (48, aV (I6 0)), (64, aV (I6 0)), (67, cC true [(0, 0)] c6), (76, aV (I6 0)), (77, aV (I6 (mid:Int))), (80, aV (I6 ((q:Int) + (t:Int) + 1 - (mid:Int)))), (84, aV (I6 (↑((q + t + 1) / 8) : Int))), (88, aF), (95, aV (I6 (↑(mid + 1) : Int))), (98, cC true [(0, 0)] c7)] [(0, 0)] (qD n 0 mid k w ap l5) (todo' := Aa Try.f78 0) [I6 (↑(0 : Nat) : Int) = I6 0, I6 (IntKind.wrap .i64 ((↑(q + t + 1) : Int) - 0)) = I6 (↑(q + t + 1) : Int), decide ((↑(q + t + 1) : Int) ≤ 12) = false, I6 (↑(0 : Nat) : Int) = I6 0, _, I6 (IntKind.wrap .i64 ((↑(k + 1) : Int) - 1)) = I6 (k:Int), I6 (↑(0 : Nat) : Int) = I6 0, _, PV.tup [I6 (↑(0 + t) : Int), I6 2] = PV.tup [I6 (t:Int), I6 2], I6 (↑(0 : Nat) : Int) = I6 0, _, I6 (IntKind.wrap .i64 ((↑(q + t + 1) : Int) - 1)) = I6 (↑(q + t) : Int), I6 (↑(0 : Nat) : Int) = I6 0, I6 (IntKind.wrap .i64 ((t:Int) - 0)) = I6 (t:Int), I6 (IntKind.wrap .i64 ((↑(q + t) : Int) - (t:Int))) = I6 (q:Int), I6 (↑(0 : Nat) : Int) = I6 0, I6 (↑(0 : Nat) : Int) = I6 0, _, I6 (↑(0 : Nat) : Int) = I6 0, I6 (IntKind.wrap .i64 ((mid:Int) - 0)) = I6 (mid:Int), I6 (IntKind.wrap .i64 ((↑(q + t + 1) : Int) - (mid:Int))) = I6 ((q:Int) + (t:Int) + 1 - (mid:Int)), I6 (IntKind.wrap .i64 (Int.tdiv (↑(q + t + 1) : Int) (8 : Int))) = I6 (↑((q + t + 1) / 8) : Int), (8 : Int) ≠ (0 : Int), decide ((mid:Int) < (q:Int) + (t:Int) + 1 - (mid:Int)) = false, I6 (IntKind.wrap .i64 ((mid:Int) + 1)) = I6 (↑(mid + 1) : Int), _, rr (PV.ref 0 [] 1 0 n), rr (I6 (↑(0 : Nat) : Int)), rr (I6 (mid:Int)), rr (I6 (k:Int)), PV.bool (decide ((q:Int) + (t:Int) + 1 - (mid:Int) ≥ (↑((q + t + 1) / 8) : Int))) = PV.bool w, rr (PV.bool ap), rr (B6 n l5)] (by kernel_rfl) (ac (cg (by omega)) (ac (cg (Ab rfl (by omega) (by omega))) (ac (dF (by omega)) (ac (cg (by omega)) (ac (c1) (ac (cg (Ab (by omega) (by omega) (by omega))) (ac (cg (by omega)) (ac (c2) (ac (by simp only [Nat.zero_add]) (ac (cg (by omega)) (ac (c3) (ac (cg (Ab (by omega) (by omega) (by omega))) (ac (cg (by omega)) (ac (cg (Ab rfl (by omega) (by omega))) (ac (cg (Ab (by omega) (by omega) (by omega))) (ac (cg (by omega)) (ac (cg (by omega)) (ac (c6) (ac (cg (by omega)) (ac (cg (Ab rfl (by omega) (by omega))) (ac (cg (Ab rfl (by omega) (by omega))) (ac (cg (Ab rfl (by omega) (by omega))) (ac (by omega) (ac (dF (by omega)) (ac (cg (Ab rfl (by omega) (by omega))) (ac (c7) (ac rfl (ac rfl (ac rfl (ac rfl (ac ?_ (ac rfl (ao rfl))))))))))))))))))))))))))))))))) ?_
  ·refine congrArg PV.bool ?_
   rw [hg, decide_eq_decide]
   first | omega | (rw [wt8 (by omega) (by omega)]; omega)
  ·exact hw
 ·refine W.seg [(2, aV (I6 ((q:Int) + (t:Int) - (j:Int)))), (5, aF), (13, cC true [(0, 0)] c1), (15, aV (I6 (k:Int))), (20, cC true [(0, 0)] c2), (22, aV (I6 (↑(j + t + 1) : Int))), (31, cC true [(0, 0)] c3), (33, aV (I6 (↑(q + t) : Int))), (36, aV (I6 (t:Int))), (37, aV (I6 (q:Int))), (49, aT), (53, aV (I6 (j:Int))), (54, aV (PV.at 0 [Stp.idx j 1])), (58, aV (PV.at 0 [Stp.idx q 1])), (60, aK (PV.bool true)), (67, cC true [(0, 0)] c6), (77, aV (I6 ((mid:Int) - (j:Int) - 1))), (80, aV (I6 ((q:Int) + (t:Int) + 1 - (mid:Int)))), (88, aF), (95, aV (I6 (↑(mid + 1) : Int))), (98, cC true [(0, 0)] c7)] [(0, 0)] (qD n (j + 1) mid k w ap l5) (todo' := Aa Try.f78 0) [I6 (IntKind.wrap .i64 ((↑(q + t + 1) : Int) - (↑(j + 1) : Int))) = I6 ((q:Int) + (t:Int) - (j:Int)), decide ((q:Int) + (t:Int) - (j:Int) ≤ 12) = false, _, I6 (IntKind.wrap .i64 ((↑(k + 1) : Int) - 1)) = I6 (k:Int), _, I6 (↑(j + 1 + t) : Int) = I6 (↑(j + t + 1) : Int), _, I6 (IntKind.wrap .i64 ((↑(q + t + 1) : Int) - 1)) = I6 (↑(q + t) : Int), I6 (IntKind.wrap .i64 ((↑(j + t + 1) : Int) - (↑(j + 1) : Int))) = I6 (t:Int), I6 (IntKind.wrap .i64 ((↑(q + t) : Int) - (t:Int))) = I6 (q:Int), decide ((↑(j + 1) : Int) > 0) = true, I6 (IntKind.wrap .i64 ((↑(j + 1) : Int) - 1)) = I6 (j:Int), PV.at 0 [Stp.idx (0 + j) 1] = PV.at 0 [Stp.idx j 1], 0 ≤ (j:Int), (j:Int) < (n:Int), j < n, PV.at 0 [Stp.idx (0 + q) 1] = PV.at 0 [Stp.idx q 1], 0 ≤ (q:Int), (q:Int) < (n:Int), q < n, Pt 71 [] [U6 (List.getD l2 j (0 : Int)), U6 (List.getD l2 q (0 : Int))] [] (PV.bool true), _, I6 (IntKind.wrap .i64 ((mid:Int) - (↑(j + 1) : Int))) = I6 ((mid:Int) - (j:Int) - 1), I6 (IntKind.wrap .i64 ((↑(q + t + 1) : Int) - (mid:Int))) = I6 ((q:Int) + (t:Int) + 1 - (mid:Int)), (8 : Int) ≠ (0 : Int), decide ((mid:Int) - (j:Int) - 1 < (q:Int) + (t:Int) + 1 - (mid:Int)) = false, I6 (IntKind.wrap .i64 ((mid:Int) + 1)) = I6 (↑(mid + 1) : Int), _, rr (PV.ref 0 [] 1 0 n), rr (I6 (↑(j + 1) : Int)), rr (I6 (mid:Int)), rr (I6 (k:Int)), PV.bool (decide ((q:Int) + (t:Int) + 1 - (mid:Int) ≥ IntKind.wrap .i64 (Int.tdiv ((q:Int) + (t:Int) - (j:Int)) (8 : Int)))) = PV.bool w, rr (PV.bool ap), rr (B6 n l5)] (by kernel_rfl) (ac (cg (Ab (by omega) (by omega) (by omega))) (ac (dF (by omega)) (ac (c1) (ac (cg (Ab (by omega) (by omega) (by omega))) (ac (c2) (ac (cg (by omega)) (ac (c3) (ac (cg (Ab (by omega) (by omega) (by omega))) (ac (cg (Ab (by omega) (by omega) (by omega))) (ac (cg (Ab (by omega) (by omega) (by omega))) (ac (dT (by omega)) (ac (cg (Ab (by omega) (by omega) (by omega))) (ac (by simp only [Nat.zero_add]) (ac (by omega) (ac (by omega) (ac (by omega) (ac (by simp only [Nat.zero_add]) (ac (by omega) (ac (by omega) (ac (by omega) (ac (AU _ _ (by first | omega | decide)) (ac (c6) (ac (cg (Ab (by omega) (by omega) (by omega))) (ac (cg (Ab rfl (by omega) (by omega))) (ac (by omega) (ac (dF (by omega)) (ac (cg (Ab rfl (by omega) (by omega))) (ac (c7) (ac rfl (ac rfl (ac rfl (ac rfl (ac ?_ (ac rfl (ao rfl))))))))))))))))))))))))))))))))))) ?_
  ·refine congrArg PV.bool ?_
   rw [hg, decide_eq_decide]
   first | omega | (rw [wt8 (by omega) (by omega)]; omega)
  ·exact hw
theorem W_zf1xE {n a k mid b p : Nat} {wp ap : Bool} {l l1 l2 l3 l4 l5 m : Liz} (hn : n < 65536) (hb : b ≤ n) (h : (a + 1) + 12 < b) (hk : k < 1000) (hp1 : (a + 1) ≤ p) (hp2 : p < b) (hq : True) (c1 : Pt 91 [(0, Ac n l)] [.ref 0 [] 1 0 n, .int .i64 (((a + 1) : Nat) : Int), .int .i64 b] [(0, Ac n l1)] (.tup [])) (c2 : Pt 92 [(0, Ac n l1)] [.ref 0 [] 1 0 n, .int .i64 (((a + 1) : Nat) : Int), .int .i64 b] [(0, Ac n l1)] (.tup [.int .i64 p, .int .i64 1])) (hl : ¬ l1.getD a 0 < l1.getD p 0) (c5 : Pt 95 [(0, Ac n l1)] [.ref 0 [] 1 0 n, .int .i64 (((a + 1) : Nat) : Int), .int .i64 b, .int .i64 p] [(0, Ac n l4)] (.int .i64 mid)) (hw : Wt Try.f78 [0] [(0, Ac n m)] (.tup []) (Aa Try.f78 0) (qD n mid b k false wp l4)) : Wt Try.f78 [0] [(0, Ac n m)] (.tup []) (Aa Try.f78 0) (qD n (a + 1) b (k + 1) false wp l) := by
 refine W.sgA 0 [(2, aV (I6 ((b:Int) - (a:Int) - 1))), (5, aF), (13, cC true [(0, 0)] c1), (15, aV (I6 k)), (20, cC true [(0, 0)] c2), (37, aT), (41, aV (I6 a)), (42, aV (PV.at 0 [Stp.idx a 1])), (46, aV (PV.at 0 [Stp.idx p 1])), (48, aK (PV.bool false)), (55, cC true [(0, 0)] c5)] [(0, 0)] (qD n mid b k false wp l4) [I6 (IntKind.wrap .i64 ((b:Int) - (↑(a + 1) : Int))) = I6 ((b:Int) - (a:Int) - 1), decide ((b:Int) - (a:Int) - 1 ≤ (12 : Int)) = false, _, I6 (IntKind.wrap .i64 ((↑(k + 1) : Int) - 1)) = I6 k, _, decide ((↑(a + 1) : Int) > 0) = true, I6 (IntKind.wrap .i64 ((↑(a + 1) : Int) - 1)) = I6 a, PV.at 0 [Stp.idx (0 + a) 1] = PV.at 0 [Stp.idx a 1], 0 ≤ (a:Int), (a:Int) < (n:Int), a < n, PV.at 0 [Stp.idx (0 + p) 1] = PV.at 0 [Stp.idx p 1], 0 ≤ (p:Int), (p:Int) < (n:Int), p < n, Pt 71 [] [U6 (List.getD l1 a (0 : Int)), U6 (List.getD l1 p (0 : Int))] [] (PV.bool false), _] (ac (cg (Ab (by omega) (by omega) (by omega))) (ac (dF (by omega)) (ac (c1) (ac (cg (Ab (by omega) (by omega) (by omega))) (ac (c2) (ac (dT (by omega)) (ac (cg (Ab (by omega) (by omega) (by omega))) (ac (by simp only [Nat.zero_add]) (ob3 (by omega) (ac (by simp only [Nat.zero_add]) (ob3 (by omega) (ac (Bn _ _ (by first | omega | decide)) (ao (c5)))))))))))))) ?_
 exact hw
theorem W_zf1xL {n a k mid b p : Nat} {wp ap : Bool} {l l1 l2 l3 l4 l5 m : Liz} (hn : n < 65536) (hb : b ≤ n) (h : a + 12 < b) (hk : k < 1000) (hp1 : a ≤ p) (hp2 : p < b) (hq : True) (c1 : Pt 91 [(0, Ac n l)] [.ref 0 [] 1 0 n, .int .i64 a, .int .i64 b] [(0, Ac n l1)] (.tup [])) (c2 : Pt 92 [(0, Ac n l1)] [.ref 0 [] 1 0 n, .int .i64 a, .int .i64 b] [(0, Ac n l1)] (.tup [.int .i64 p, .int .i64 1])) (hl : a = 0 ∨ ∃ j, a = j + 1 ∧ l1.getD j 0 < l1.getD p 0) (c6 : Pt 96 [(0, Ac n l1)] [.ref 0 [] 1 0 n, .int .i64 a, .int .i64 b, .int .i64 p] [(0, Ac n l4)] (.tup [.int .i64 mid, .bool ap])) (hm1 : a ≤ mid) (hm2 : mid < b) (hs : mid - a < b - mid) (c7 : Pt 78 [(0, Ac n l4)] [.ref 0 [] 1 0 n, .int .i64 a, .int .i64 mid, .int .i64 k] [(0, Ac n l5)] (.tup [])) {w : Bool} (hg : w = decide ((b - a) / 8 ≤ mid - a)) (hw : Wt Try.f78 [0] [(0, Ac n m)] (.tup []) (Aa Try.f78 0) (qD n (mid + 1) b k w ap l5)) : Wt Try.f78 [0] [(0, Ac n m)] (.tup []) (Aa Try.f78 0) (qD n a b (k + 1) false wp l) := by
 rcases hl with rfl | ⟨j, rfl, hl⟩
 ·refine W.seg [(1, aV (I6 0)), (2, aV (I6 (b:Int))), (5, aF), (11, aV (I6 0)), (13, cC true [(0, 0)] c1), (15, aV (I6 (k:Int))), (18, aV (I6 0)), (20, cC true [(0, 0)] c2), (36, aV (I6 0)), (52, aV (I6 0)), (55, cC true [(0, 0)] c6), (64, aV (I6 0)), (65, aV (I6 (mid:Int))), (68, aV (I6 ((b:Int) - (mid:Int)))), (72, aV (I6 (↑(b / 8) : Int))), (76, aT), (82, aV (I6 0)), (85, cC true [(0, 0)] c7), (87, aV (I6 (↑(mid + 1) : Int)))] [(0, 0)] (qD n (mid + 1) b k w ap l5) (todo' := Aa Try.f78 0) [I6 (↑(0 : Nat) : Int) = I6 0, I6 (IntKind.wrap .i64 ((b:Int) - 0)) = I6 (b:Int), decide ((b:Int) ≤ 12) = false, I6 (↑(0 : Nat) : Int) = I6 0, _, I6 (IntKind.wrap .i64 ((↑(k + 1) : Int) - 1)) = I6 (k:Int), I6 (↑(0 : Nat) : Int) = I6 0, _, I6 (↑(0 : Nat) : Int) = I6 0, I6 (↑(0 : Nat) : Int) = I6 0, _, I6 (↑(0 : Nat) : Int) = I6 0, I6 (IntKind.wrap .i64 ((mid:Int) - 0)) = I6 (mid:Int), I6 (IntKind.wrap .i64 ((b:Int) - (mid:Int))) = I6 ((b:Int) - (mid:Int)), I6 (IntKind.wrap .i64 (Int.tdiv (b:Int) (8 : Int))) = I6 (↑(b / 8) : Int), (8 : Int) ≠ (0 : Int), decide ((mid:Int) < (b:Int) - (mid:Int)) = true, I6 (↑(0 : Nat) : Int) = I6 0, _, I6 (IntKind.wrap .i64 ((mid:Int) + 1)) = I6 (↑(mid + 1) : Int), rr (PV.ref 0 [] 1 0 n), rr (I6 (↑(mid + 1) : Int)), rr (I6 (b:Int)), rr (I6 (k:Int)), PV.bool (decide ((mid:Int) ≥ (↑(b / 8) : Int))) = PV.bool w, rr (PV.bool ap), rr (B6 n l5)] (by kernel_rfl) (ac (cg (by omega)) (ac (cg (Ab rfl (by omega) (by omega))) (ac (dF (by omega)) (ac (cg (by omega)) (ac (c1) (ac (cg (Ab (by omega) (by omega) (by omega))) (ac (cg (by omega)) (ac (c2) (ac (cg (by omega)) (ac (cg (by omega)) (ac (c6) (ac (cg (by omega)) (ac (cg (Ab rfl (by omega) (by omega))) (ac (cg (Ab rfl (by omega) (by omega))) (ac (cg (Ab rfl (by omega) (by omega))) (ac (by omega) (ac (dT (by omega)) (ac (cg (by omega)) (ac (c7) (ac (cg (Ab rfl (by omega) (by omega))) (ac rfl (ac rfl (ac rfl (ac rfl (ac ?_ (ac rfl (ao rfl))))))))))))))))))))))))))) ?_
  ·refine congrArg PV.bool ?_
   rw [hg, decide_eq_decide]
   first | omega | (rw [wt8 (by omega) (by omega)]; omega)
  ·exact hw
 ·refine W.seg [(2, aV (I6 ((b:Int) - (j:Int) - 1))), (5, aF), (13, cC true [(0, 0)] c1), (15, aV (I6 (k:Int))), (20, cC true [(0, 0)] c2), (37, aT), (41, aV (I6 (j:Int))), (42, aV (PV.at 0 [Stp.idx j 1])), (46, aV (PV.at 0 [Stp.idx p 1])), (48, aK (PV.bool true)), (55, cC true [(0, 0)] c6), (65, aV (I6 ((mid:Int) - (j:Int) - 1))), (68, aV (I6 ((b:Int) - (mid:Int)))), (76, aT), (85, cC true [(0, 0)] c7), (87, aV (I6 (↑(mid + 1) : Int)))] [(0, 0)] (qD n (mid + 1) b k w ap l5) (todo' := Aa Try.f78 0) [I6 (IntKind.wrap .i64 ((b:Int) - (↑(j + 1) : Int))) = I6 ((b:Int) - (j:Int) - 1), decide ((b:Int) - (j:Int) - 1 ≤ (12 : Int)) = false, _, I6 (IntKind.wrap .i64 ((↑(k + 1) : Int) - 1)) = I6 (k:Int), _, decide ((↑(j + 1) : Int) > 0) = true, I6 (IntKind.wrap .i64 ((↑(j + 1) : Int) - 1)) = I6 (j:Int), PV.at 0 [Stp.idx (0 + j) 1] = PV.at 0 [Stp.idx j 1], 0 ≤ (j:Int), (j:Int) < (n:Int), j < n, PV.at 0 [Stp.idx (0 + p) 1] = PV.at 0 [Stp.idx p 1], 0 ≤ (p:Int), (p:Int) < (n:Int), p < n, Pt 71 [] [U6 (List.getD l1 j (0 : Int)), U6 (List.getD l1 p (0 : Int))] [] (PV.bool true), _, I6 (IntKind.wrap .i64 ((mid:Int) - (↑(j + 1) : Int))) = I6 ((mid:Int) - (j:Int) - 1), I6 (IntKind.wrap .i64 ((b:Int) - (mid:Int))) = I6 ((b:Int) - (mid:Int)), (8 : Int) ≠ (0 : Int), decide ((mid:Int) - (j:Int) - 1 < (b:Int) - (mid:Int)) = true, _, I6 (IntKind.wrap .i64 ((mid:Int) + 1)) = I6 (↑(mid + 1) : Int), rr (PV.ref 0 [] 1 0 n), rr (I6 (↑(mid + 1) : Int)), rr (I6 (b:Int)), rr (I6 (k:Int)), PV.bool (decide ((mid:Int) - (j:Int) - 1 ≥ IntKind.wrap .i64 (Int.tdiv ((b:Int) - (j:Int) - 1) (8 : Int)))) = PV.bool w, rr (PV.bool ap), rr (B6 n l5)] (by kernel_rfl) (ac (cg (Ab (by omega) (by omega) (by omega))) (ac (dF (by omega)) (ac (c1) (ac (cg (Ab (by omega) (by omega) (by omega))) (ac (c2) (ac (dT (by omega)) (ac (cg (Ab (by omega) (by omega) (by omega))) (ac (by simp only [Nat.zero_add]) (ac (by omega) (ac (by omega) (ac (by omega) (ac (by simp only [Nat.zero_add]) (ac (by omega) (ac (by omega) (ac (by omega) (ac (AU _ _ (by first | omega | decide)) (ac (c6) (ac (cg (Ab (by omega) (by omega) (by omega))) (ac (cg (Ab rfl (by omega) (by omega))) (ac (by omega) (ac (dT (by omega)) (ac (c7) (ac (cg (Ab rfl (by omega) (by omega))) (ac rfl (ac rfl (ac rfl (ac rfl (ac ?_ (ac rfl (ao rfl)))))))))))))))))))))))))))))) ?_
  ·refine congrArg PV.bool ?_
   rw [hg, decide_eq_decide]
   first | omega | (rw [wt8 (by omega) (by omega)]; omega)
  ·exact hw
theorem W_zf1xR {n a k mid b p : Nat} {wp ap : Bool} {l l1 l2 l3 l4 l5 m : Liz} (hn : n < 65536) (hb : b ≤ n) (h : a + 12 < b) (hk : k < 1000) (hp1 : a ≤ p) (hp2 : p < b) (hq : True) (c1 : Pt 91 [(0, Ac n l)] [.ref 0 [] 1 0 n, .int .i64 a, .int .i64 b] [(0, Ac n l1)] (.tup [])) (c2 : Pt 92 [(0, Ac n l1)] [.ref 0 [] 1 0 n, .int .i64 a, .int .i64 b] [(0, Ac n l1)] (.tup [.int .i64 p, .int .i64 1])) (hl : a = 0 ∨ ∃ j, a = j + 1 ∧ l1.getD j 0 < l1.getD p 0) (c6 : Pt 96 [(0, Ac n l1)] [.ref 0 [] 1 0 n, .int .i64 a, .int .i64 b, .int .i64 p] [(0, Ac n l4)] (.tup [.int .i64 mid, .bool ap])) (hm1 : a ≤ mid) (hm2 : mid < b) (hs : ¬ mid - a < b - mid) (c7 : Pt 78 [(0, Ac n l4)] [.ref 0 [] 1 0 n, .int .i64 (((mid + 1) : Nat) : Int), .int .i64 b, .int .i64 k] [(0, Ac n l5)] (.tup [])) {w : Bool} (hg : w = decide ((b - a) / 8 ≤ b - mid)) (hw : Wt Try.f78 [0] [(0, Ac n m)] (.tup []) (Aa Try.f78 0) (qD n a mid k w ap l5)) : Wt Try.f78 [0] [(0, Ac n m)] (.tup []) (Aa Try.f78 0) (qD n a b (k + 1) false wp l) := by
 rcases hl with rfl | ⟨j, rfl, hl⟩
 ·refine W.seg [(1, aV (I6 0)), (2, aV (I6 (b:Int))), (5, aF), (11, aV (I6 0)), (13, cC true [(0, 0)] c1), (15, aV (I6 (k:Int))), (18, aV (I6 0)), (20, cC true [(0, 0)] c2), (36, aV (I6 0)), (52, aV (I6 0)), (55, cC true [(0, 0)] c6), (64, aV (I6 0)), (65, aV (I6 (mid:Int))), (68, aV (I6 ((b:Int) - (mid:Int)))), (72, aV (I6 (↑(b / 8) : Int))), (76, aF), (83, aV (I6 (↑(mid + 1) : Int))), (86, cC true [(0, 0)] c7)] [(0, 0)] (qD n 0 mid k w ap l5) (todo' := Aa Try.f78 0) [I6 (↑(0 : Nat) : Int) = I6 0, I6 (IntKind.wrap .i64 ((b:Int) - 0)) = I6 (b:Int), decide ((b:Int) ≤ 12) = false, I6 (↑(0 : Nat) : Int) = I6 0, _, I6 (IntKind.wrap .i64 ((↑(k + 1) : Int) - 1)) = I6 (k:Int), I6 (↑(0 : Nat) : Int) = I6 0, _, I6 (↑(0 : Nat) : Int) = I6 0, I6 (↑(0 : Nat) : Int) = I6 0, _, I6 (↑(0 : Nat) : Int) = I6 0, I6 (IntKind.wrap .i64 ((mid:Int) - 0)) = I6 (mid:Int), I6 (IntKind.wrap .i64 ((b:Int) - (mid:Int))) = I6 ((b:Int) - (mid:Int)), I6 (IntKind.wrap .i64 (Int.tdiv (b:Int) (8 : Int))) = I6 (↑(b / 8) : Int), (8 : Int) ≠ (0 : Int), decide ((mid:Int) < (b:Int) - (mid:Int)) = false, I6 (IntKind.wrap .i64 ((mid:Int) + 1)) = I6 (↑(mid + 1) : Int), _, rr (PV.ref 0 [] 1 0 n), rr (I6 (↑(0 : Nat) : Int)), rr (I6 (mid:Int)), rr (I6 (k:Int)), PV.bool (decide ((b:Int) - (mid:Int) ≥ (↑(b / 8) : Int))) = PV.bool w, rr (PV.bool ap), rr (B6 n l5)] (by kernel_rfl) (ac (cg (by omega)) (ac (cg (Ab rfl (by omega) (by omega))) (ac (dF (by omega)) (ac (cg (by omega)) (ac (c1) (ac (cg (Ab (by omega) (by omega) (by omega))) (ac (cg (by omega)) (ac (c2) (ac (cg (by omega)) (ac (cg (by omega)) (ac (c6) (ac (cg (by omega)) (ac (cg (Ab rfl (by omega) (by omega))) (ac (cg (Ab rfl (by omega) (by omega))) (ac (cg (Ab rfl (by omega) (by omega))) (ac (by omega) (ac (dF (by omega)) (ac (cg (Ab rfl (by omega) (by omega))) (ac (c7) (ac rfl (ac rfl (ac rfl (ac rfl (ac ?_ (ac rfl (ao rfl)))))))))))))))))))))))))) ?_
  ·refine congrArg PV.bool ?_
   rw [hg, decide_eq_decide]
   first | omega | (rw [wt8 (by omega) (by omega)]; omega)
  ·exact hw
 ·refine W.seg [(2, aV (I6 ((b:Int) - (j:Int) - 1))), (5, aF), (13, cC true [(0, 0)] c1), (15, aV (I6 (k:Int))), (20, cC true [(0, 0)] c2), (37, aT), (41, aV (I6 (j:Int))), (42, aV (PV.at 0 [Stp.idx j 1])), (46, aV (PV.at 0 [Stp.idx p 1])), (48, aK (PV.bool true)), (55, cC true [(0, 0)] c6), (65, aV (I6 ((mid:Int) - (j:Int) - 1))), (68, aV (I6 ((b:Int) - (mid:Int)))), (76, aF), (83, aV (I6 (↑(mid + 1) : Int))), (86, cC true [(0, 0)] c7)] [(0, 0)] (qD n (j + 1) mid k w ap l5) (todo' := Aa Try.f78 0) [I6 (IntKind.wrap .i64 ((b:Int) - (↑(j + 1) : Int))) = I6 ((b:Int) - (j:Int) - 1), decide ((b:Int) - (j:Int) - 1 ≤ (12 : Int)) = false, _, I6 (IntKind.wrap .i64 ((↑(k + 1) : Int) - 1)) = I6 (k:Int), _, decide ((↑(j + 1) : Int) > 0) = true, I6 (IntKind.wrap .i64 ((↑(j + 1) : Int) - 1)) = I6 (j:Int), PV.at 0 [Stp.idx (0 + j) 1] = PV.at 0 [Stp.idx j 1], 0 ≤ (j:Int), (j:Int) < (n:Int), j < n, PV.at 0 [Stp.idx (0 + p) 1] = PV.at 0 [Stp.idx p 1], 0 ≤ (p:Int), (p:Int) < (n:Int), p < n, Pt 71 [] [U6 (List.getD l1 j (0 : Int)), U6 (List.getD l1 p (0 : Int))] [] (PV.bool true), _, I6 (IntKind.wrap .i64 ((mid:Int) - (↑(j + 1) : Int))) = I6 ((mid:Int) - (j:Int) - 1), I6 (IntKind.wrap .i64 ((b:Int) - (mid:Int))) = I6 ((b:Int) - (mid:Int)), (8 : Int) ≠ (0 : Int), decide ((mid:Int) - (j:Int) - 1 < (b:Int) - (mid:Int)) = false, I6 (IntKind.wrap .i64 ((mid:Int) + 1)) = I6 (↑(mid + 1) : Int), _, rr (PV.ref 0 [] 1 0 n), rr (I6 (↑(j + 1) : Int)), rr (I6 (mid:Int)), rr (I6 (k:Int)), PV.bool (decide ((b:Int) - (mid:Int) ≥ IntKind.wrap .i64 (Int.tdiv ((b:Int) - (j:Int) - 1) (8 : Int)))) = PV.bool w, rr (PV.bool ap), rr (B6 n l5)] (by kernel_rfl) (ac (cg (Ab (by omega) (by omega) (by omega))) (ac (dF (by omega)) (ac (c1) (ac (cg (Ab (by omega) (by omega) (by omega))) (ac (c2) (ac (dT (by omega)) (ac (cg (Ab (by omega) (by omega) (by omega))) (ac (by simp only [Nat.zero_add]) (ac (by omega) (ac (by omega) (ac (by omega) (ac (by simp only [Nat.zero_add]) (ac (by omega) (ac (by omega) (ac (by omega) (ac (AU _ _ (by first | omega | decide)) (ac (c6) (ac (cg (Ab (by omega) (by omega) (by omega))) (ac (cg (Ab rfl (by omega) (by omega))) (ac (by omega) (ac (dF (by omega)) (ac (cg (Ab rfl (by omega) (by omega))) (ac (c7) (ac rfl (ac rfl (ac rfl (ac rfl (ac ?_ (ac rfl (ao rfl)))))))))))))))))))))))))))))) ?_
  ·refine congrArg PV.bool ?_
   rw [hg, decide_eq_decide]
   first | omega | (rw [wt8 (by omega) (by omega)]; omega)
  ·exact hw
theorem W_zf0xE {n a k mid b p : Nat} {wp ap : Bool} {l l1 l2 l3 l4 l5 m : Liz} (hn : n < 65536) (hb : b ≤ n) (h : (a + 1) + 12 < b) (hk : k < 1000) (hp1 : (a + 1) ≤ p) (hp2 : p < b) (hq : True) (c1 : Pt 91 [(0, Ac n l)] [.ref 0 [] 1 0 n, .int .i64 (((a + 1) : Nat) : Int), .int .i64 b] [(0, Ac n l1)] (.tup [])) (c2 : Pt 92 [(0, Ac n l1)] [.ref 0 [] 1 0 n, .int .i64 (((a + 1) : Nat) : Int), .int .i64 b] [(0, Ac n l1)] (.tup [.int .i64 p, .int .i64 0])) (hl : ¬ l1.getD a 0 < l1.getD p 0) (c5 : Pt 95 [(0, Ac n l1)] [.ref 0 [] 1 0 n, .int .i64 (((a + 1) : Nat) : Int), .int .i64 b, .int .i64 p] [(0, Ac n l4)] (.int .i64 mid)) (hw : Wt Try.f78 [0] [(0, Ac n m)] (.tup []) (Aa Try.f78 0) (qD n mid b k false wp l4)) : Wt Try.f78 [0] [(0, Ac n m)] (.tup []) (Aa Try.f78 0) (qD n (a + 1) b (k + 1) false wp l) := by
 refine W.sgA 0 [(2, aV (I6 ((b:Int) - (a:Int) - 1))), (5, aF), (13, cC true [(0, 0)] c1), (15, aV (I6 k)), (20, cC true [(0, 0)] c2), (37, aT), (41, aV (I6 a)), (42, aV (PV.at 0 [Stp.idx a 1])), (46, aV (PV.at 0 [Stp.idx p 1])), (48, aK (PV.bool false)), (55, cC true [(0, 0)] c5)] [(0, 0)] (qD n mid b k false wp l4) [I6 (IntKind.wrap .i64 ((b:Int) - (↑(a + 1) : Int))) = I6 ((b:Int) - (a:Int) - 1), decide ((b:Int) - (a:Int) - 1 ≤ (12 : Int)) = false, _, I6 (IntKind.wrap .i64 ((↑(k + 1) : Int) - 1)) = I6 k, _, decide ((↑(a + 1) : Int) > 0) = true, I6 (IntKind.wrap .i64 ((↑(a + 1) : Int) - 1)) = I6 a, PV.at 0 [Stp.idx (0 + a) 1] = PV.at 0 [Stp.idx a 1], 0 ≤ (a:Int), (a:Int) < (n:Int), a < n, PV.at 0 [Stp.idx (0 + p) 1] = PV.at 0 [Stp.idx p 1], 0 ≤ (p:Int), (p:Int) < (n:Int), p < n, Pt 71 [] [U6 (List.getD l1 a (0 : Int)), U6 (List.getD l1 p (0 : Int))] [] (PV.bool false), _] (ac (cg (Ab (by omega) (by omega) (by omega))) (ac (dF (by omega)) (ac (c1) (ac (cg (Ab (by omega) (by omega) (by omega))) (ac (c2) (ac (dT (by omega)) (ac (cg (Ab (by omega) (by omega) (by omega))) (ac (by simp only [Nat.zero_add]) (ob3 (by omega) (ac (by simp only [Nat.zero_add]) (ob3 (by omega) (ac (Bn _ _ (by first | omega | decide)) (ao (c5)))))))))))))) ?_
 exact hw
theorem W_zf0xL {n a k mid b p : Nat} {wp ap : Bool} {l l1 l2 l3 l4 l5 m : Liz} (hn : n < 65536) (hb : b ≤ n) (h : a + 12 < b) (hk : k < 1000) (hp1 : a ≤ p) (hp2 : p < b) (hq : True) (c1 : Pt 91 [(0, Ac n l)] [.ref 0 [] 1 0 n, .int .i64 a, .int .i64 b] [(0, Ac n l1)] (.tup [])) (c2 : Pt 92 [(0, Ac n l1)] [.ref 0 [] 1 0 n, .int .i64 a, .int .i64 b] [(0, Ac n l1)] (.tup [.int .i64 p, .int .i64 0])) (hl : a = 0 ∨ ∃ j, a = j + 1 ∧ l1.getD j 0 < l1.getD p 0) (c6 : Pt 96 [(0, Ac n l1)] [.ref 0 [] 1 0 n, .int .i64 a, .int .i64 b, .int .i64 p] [(0, Ac n l4)] (.tup [.int .i64 mid, .bool ap])) (hm1 : a ≤ mid) (hm2 : mid < b) (hs : mid - a < b - mid) (c7 : Pt 78 [(0, Ac n l4)] [.ref 0 [] 1 0 n, .int .i64 a, .int .i64 mid, .int .i64 k] [(0, Ac n l5)] (.tup [])) {w : Bool} (hg : w = decide ((b - a) / 8 ≤ mid - a)) (hw : Wt Try.f78 [0] [(0, Ac n m)] (.tup []) (Aa Try.f78 0) (qD n (mid + 1) b k w ap l5)) : Wt Try.f78 [0] [(0, Ac n m)] (.tup []) (Aa Try.f78 0) (qD n a b (k + 1) false wp l) := by
 rcases hl with rfl | ⟨j, rfl, hl⟩
 ·refine W.seg [(1, aV (I6 0)), (2, aV (I6 (b:Int))), (5, aF), (11, aV (I6 0)), (13, cC true [(0, 0)] c1), (15, aV (I6 (k:Int))), (18, aV (I6 0)), (20, cC true [(0, 0)] c2), (36, aV (I6 0)), (52, aV (I6 0)), (55, cC true [(0, 0)] c6), (64, aV (I6 0)), (65, aV (I6 (mid:Int))), (68, aV (I6 ((b:Int) - (mid:Int)))), (72, aV (I6 (↑(b / 8) : Int))), (76, aT), (82, aV (I6 0)), (85, cC true [(0, 0)] c7), (87, aV (I6 (↑(mid + 1) : Int)))] [(0, 0)] (qD n (mid + 1) b k w ap l5) (todo' := Aa Try.f78 0) [I6 (↑(0 : Nat) : Int) = I6 0, I6 (IntKind.wrap .i64 ((b:Int) - 0)) = I6 (b:Int), decide ((b:Int) ≤ 12) = false, I6 (↑(0 : Nat) : Int) = I6 0, _, I6 (IntKind.wrap .i64 ((↑(k + 1) : Int) - 1)) = I6 (k:Int), I6 (↑(0 : Nat) : Int) = I6 0, _, I6 (↑(0 : Nat) : Int) = I6 0, I6 (↑(0 : Nat) : Int) = I6 0, _, I6 (↑(0 : Nat) : Int) = I6 0, I6 (IntKind.wrap .i64 ((mid:Int) - 0)) = I6 (mid:Int), I6 (IntKind.wrap .i64 ((b:Int) - (mid:Int))) = I6 ((b:Int) - (mid:Int)), I6 (IntKind.wrap .i64 (Int.tdiv (b:Int) (8 : Int))) = I6 (↑(b / 8) : Int), (8 : Int) ≠ (0 : Int), decide ((mid:Int) < (b:Int) - (mid:Int)) = true, I6 (↑(0 : Nat) : Int) = I6 0, _, I6 (IntKind.wrap .i64 ((mid:Int) + 1)) = I6 (↑(mid + 1) : Int), rr (PV.ref 0 [] 1 0 n), rr (I6 (↑(mid + 1) : Int)), rr (I6 (b:Int)), rr (I6 (k:Int)), PV.bool (decide ((mid:Int) ≥ (↑(b / 8) : Int))) = PV.bool w, rr (PV.bool ap), rr (B6 n l5)] (by kernel_rfl) (ac (cg (by omega)) (ac (cg (Ab rfl (by omega) (by omega))) (ac (dF (by omega)) (ac (cg (by omega)) (ac (c1) (ac (cg (Ab (by omega) (by omega) (by omega))) (ac (cg (by omega)) (ac (c2) (ac (cg (by omega)) (ac (cg (by omega)) (ac (c6) (ac (cg (by omega)) (ac (cg (Ab rfl (by omega) (by omega))) (ac (cg (Ab rfl (by omega) (by omega))) (ac (cg (Ab rfl (by omega) (by omega))) (ac (by omega) (ac (dT (by omega)) (ac (cg (by omega)) (ac (c7) (ac (cg (Ab rfl (by omega) (by omega))) (ac rfl (ac rfl (ac rfl (ac rfl (ac ?_ (ac rfl (ao rfl))))))))))))))))))))))))))) ?_
  ·refine congrArg PV.bool ?_
   rw [hg, decide_eq_decide]
   first | omega | (rw [wt8 (by omega) (by omega)]; omega)
  ·exact hw
 ·refine W.seg [(2, aV (I6 ((b:Int) - (j:Int) - 1))), (5, aF), (13, cC true [(0, 0)] c1), (15, aV (I6 (k:Int))), (20, cC true [(0, 0)] c2), (37, aT), (41, aV (I6 (j:Int))), (42, aV (PV.at 0 [Stp.idx j 1])), (46, aV (PV.at 0 [Stp.idx p 1])), (48, aK (PV.bool true)), (55, cC true [(0, 0)] c6), (65, aV (I6 ((mid:Int) - (j:Int) - 1))), (68, aV (I6 ((b:Int) - (mid:Int)))), (76, aT), (85, cC true [(0, 0)] c7), (87, aV (I6 (↑(mid + 1) : Int)))] [(0, 0)] (qD n (mid + 1) b k w ap l5) (todo' := Aa Try.f78 0) [I6 (IntKind.wrap .i64 ((b:Int) - (↑(j + 1) : Int))) = I6 ((b:Int) - (j:Int) - 1), decide ((b:Int) - (j:Int) - 1 ≤ (12 : Int)) = false, _, I6 (IntKind.wrap .i64 ((↑(k + 1) : Int) - 1)) = I6 (k:Int), _, decide ((↑(j + 1) : Int) > 0) = true, I6 (IntKind.wrap .i64 ((↑(j + 1) : Int) - 1)) = I6 (j:Int), PV.at 0 [Stp.idx (0 + j) 1] = PV.at 0 [Stp.idx j 1], 0 ≤ (j:Int), (j:Int) < (n:Int), j < n, PV.at 0 [Stp.idx (0 + p) 1] = PV.at 0 [Stp.idx p 1], 0 ≤ (p:Int), (p:Int) < (n:Int), p < n, Pt 71 [] [U6 (List.getD l1 j (0 : Int)), U6 (List.getD l1 p (0 : Int))] [] (PV.bool true), _, I6 (IntKind.wrap .i64 ((mid:Int) - (↑(j + 1) : Int))) = I6 ((mid:Int) - (j:Int) - 1), I6 (IntKind.wrap .i64 ((b:Int) - (mid:Int))) = I6 ((b:Int) - (mid:Int)), (8 : Int) ≠ (0 : Int), decide ((mid:Int) - (j:Int) - 1 < (b:Int) - (mid:Int)) = true, _, I6 (IntKind.wrap .i64 ((mid:Int) + 1)) = I6 (↑(mid + 1) : Int), rr (PV.ref 0 [] 1 0 n), rr (I6 (↑(mid + 1) : Int)), rr (I6 (b:Int)), rr (I6 (k:Int)), PV.bool (decide ((mid:Int) - (j:Int) - 1 ≥ IntKind.wrap .i64 (Int.tdiv ((b:Int) - (j:Int) - 1) (8 : Int)))) = PV.bool w, rr (PV.bool ap), rr (B6 n l5)] (by kernel_rfl) (ac (cg (Ab (by omega) (by omega) (by omega))) (ac (dF (by omega)) (ac (c1) (ac (cg (Ab (by omega) (by omega) (by omega))) (ac (c2) (ac (dT (by omega)) (ac (cg (Ab (by omega) (by omega) (by omega))) (ac (by simp only [Nat.zero_add]) (ac (by omega) (ac (by omega) (ac (by omega) (ac (by simp only [Nat.zero_add]) (ac (by omega) (ac (by omega) (ac (by omega) (ac (AU _ _ (by first | omega | decide)) (ac (c6) (ac (cg (Ab (by omega) (by omega) (by omega))) (ac (cg (Ab rfl (by omega) (by omega))) (ac (by omega) (ac (dT (by omega)) (ac (c7) (ac (cg (Ab rfl (by omega) (by omega))) (ac rfl (ac rfl (ac rfl (ac rfl (ac ?_ (ac rfl (ao rfl)))))))))))))))))))))))))))))) ?_
  ·refine congrArg PV.bool ?_
   rw [hg, decide_eq_decide]
   first | omega | (rw [wt8 (by omega) (by omega)]; omega)
  ·exact hw
theorem W_zf0xR {n a k mid b p : Nat} {wp ap : Bool} {l l1 l2 l3 l4 l5 m : Liz} (hn : n < 65536) (hb : b ≤ n) (h : a + 12 < b) (hk : k < 1000) (hp1 : a ≤ p) (hp2 : p < b) (hq : True) (c1 : Pt 91 [(0, Ac n l)] [.ref 0 [] 1 0 n, .int .i64 a, .int .i64 b] [(0, Ac n l1)] (.tup [])) (c2 : Pt 92 [(0, Ac n l1)] [.ref 0 [] 1 0 n, .int .i64 a, .int .i64 b] [(0, Ac n l1)] (.tup [.int .i64 p, .int .i64 0])) (hl : a = 0 ∨ ∃ j, a = j + 1 ∧ l1.getD j 0 < l1.getD p 0) (c6 : Pt 96 [(0, Ac n l1)] [.ref 0 [] 1 0 n, .int .i64 a, .int .i64 b, .int .i64 p] [(0, Ac n l4)] (.tup [.int .i64 mid, .bool ap])) (hm1 : a ≤ mid) (hm2 : mid < b) (hs : ¬ mid - a < b - mid) (c7 : Pt 78 [(0, Ac n l4)] [.ref 0 [] 1 0 n, .int .i64 (((mid + 1) : Nat) : Int), .int .i64 b, .int .i64 k] [(0, Ac n l5)] (.tup [])) {w : Bool} (hg : w = decide ((b - a) / 8 ≤ b - mid)) (hw : Wt Try.f78 [0] [(0, Ac n m)] (.tup []) (Aa Try.f78 0) (qD n a mid k w ap l5)) : Wt Try.f78 [0] [(0, Ac n m)] (.tup []) (Aa Try.f78 0) (qD n a b (k + 1) false wp l) := by
 rcases hl with rfl | ⟨j, rfl, hl⟩
 ·refine W.seg [(1, aV (I6 0)), (2, aV (I6 (b:Int))), (5, aF), (11, aV (I6 0)), (13, cC true [(0, 0)] c1), (15, aV (I6 (k:Int))), (18, aV (I6 0)), (20, cC true [(0, 0)] c2), (36, aV (I6 0)), (52, aV (I6 0)), (55, cC true [(0, 0)] c6), (64, aV (I6 0)), (65, aV (I6 (mid:Int))), (68, aV (I6 ((b:Int) - (mid:Int)))), (72, aV (I6 (↑(b / 8) : Int))), (76, aF), (83, aV (I6 (↑(mid + 1) : Int))), (86, cC true [(0, 0)] c7)] [(0, 0)] (qD n 0 mid k w ap l5) (todo' := Aa Try.f78 0) [I6 (↑(0 : Nat) : Int) = I6 0, I6 (IntKind.wrap .i64 ((b:Int) - 0)) = I6 (b:Int), decide ((b:Int) ≤ 12) = false, I6 (↑(0 : Nat) : Int) = I6 0, _, I6 (IntKind.wrap .i64 ((↑(k + 1) : Int) - 1)) = I6 (k:Int), I6 (↑(0 : Nat) : Int) = I6 0, _, I6 (↑(0 : Nat) : Int) = I6 0, I6 (↑(0 : Nat) : Int) = I6 0, _, I6 (↑(0 : Nat) : Int) = I6 0, I6 (IntKind.wrap .i64 ((mid:Int) - 0)) = I6 (mid:Int), I6 (IntKind.wrap .i64 ((b:Int) - (mid:Int))) = I6 ((b:Int) - (mid:Int)), I6 (IntKind.wrap .i64 (Int.tdiv (b:Int) (8 : Int))) = I6 (↑(b / 8) : Int), (8 : Int) ≠ (0 : Int), decide ((mid:Int) < (b:Int) - (mid:Int)) = false, I6 (IntKind.wrap .i64 ((mid:Int) + 1)) = I6 (↑(mid + 1) : Int), _, rr (PV.ref 0 [] 1 0 n), rr (I6 (↑(0 : Nat) : Int)), rr (I6 (mid:Int)), rr (I6 (k:Int)), PV.bool (decide ((b:Int) - (mid:Int) ≥ (↑(b / 8) : Int))) = PV.bool w, rr (PV.bool ap), rr (B6 n l5)] (by kernel_rfl) (ac (cg (by omega)) (ac (cg (Ab rfl (by omega) (by omega))) (ac (dF (by omega)) (ac (cg (by omega)) (ac (c1) (ac (cg (Ab (by omega) (by omega) (by omega))) (ac (cg (by omega)) (ac (c2) (ac (cg (by omega)) (ac (cg (by omega)) (ac (c6) (ac (cg (by omega)) (ac (cg (Ab rfl (by omega) (by omega))) (ac (cg (Ab rfl (by omega) (by omega))) (ac (cg (Ab rfl (by omega) (by omega))) (ac (by omega) (ac (dF (by omega)) (ac (cg (Ab rfl (by omega) (by omega))) (ac (c7) (ac rfl (ac rfl (ac rfl (ac rfl (ac ?_ (ac rfl (ao rfl)))))))))))))))))))))))))) ?_
  ·refine congrArg PV.bool ?_
   rw [hg, decide_eq_decide]
   first | omega | (rw [wt8 (by omega) (by omega)]; omega)
  ·exact hw
 ·refine W.seg [(2, aV (I6 ((b:Int) - (j:Int) - 1))), (5, aF), (13, cC true [(0, 0)] c1), (15, aV (I6 (k:Int))), (20, cC true [(0, 0)] c2), (37, aT), (41, aV (I6 (j:Int))), (42, aV (PV.at 0 [Stp.idx j 1])), (46, aV (PV.at 0 [Stp.idx p 1])), (48, aK (PV.bool true)), (55, cC true [(0, 0)] c6), (65, aV (I6 ((mid:Int) - (j:Int) - 1))), (68, aV (I6 ((b:Int) - (mid:Int)))), (76, aF), (83, aV (I6 (↑(mid + 1) : Int))), (86, cC true [(0, 0)] c7)] [(0, 0)] (qD n (j + 1) mid k w ap l5) (todo' := Aa Try.f78 0) [I6 (IntKind.wrap .i64 ((b:Int) - (↑(j + 1) : Int))) = I6 ((b:Int) - (j:Int) - 1), decide ((b:Int) - (j:Int) - 1 ≤ (12 : Int)) = false, _, I6 (IntKind.wrap .i64 ((↑(k + 1) : Int) - 1)) = I6 (k:Int), _, decide ((↑(j + 1) : Int) > 0) = true, I6 (IntKind.wrap .i64 ((↑(j + 1) : Int) - 1)) = I6 (j:Int), PV.at 0 [Stp.idx (0 + j) 1] = PV.at 0 [Stp.idx j 1], 0 ≤ (j:Int), (j:Int) < (n:Int), j < n, PV.at 0 [Stp.idx (0 + p) 1] = PV.at 0 [Stp.idx p 1], 0 ≤ (p:Int), (p:Int) < (n:Int), p < n, Pt 71 [] [U6 (List.getD l1 j (0 : Int)), U6 (List.getD l1 p (0 : Int))] [] (PV.bool true), _, I6 (IntKind.wrap .i64 ((mid:Int) - (↑(j + 1) : Int))) = I6 ((mid:Int) - (j:Int) - 1), I6 (IntKind.wrap .i64 ((b:Int) - (mid:Int))) = I6 ((b:Int) - (mid:Int)), (8 : Int) ≠ (0 : Int), decide ((mid:Int) - (j:Int) - 1 < (b:Int) - (mid:Int)) = false, I6 (IntKind.wrap .i64 ((mid:Int) + 1)) = I6 (↑(mid + 1) : Int), _, rr (PV.ref 0 [] 1 0 n), rr (I6 (↑(j + 1) : Int)), rr (I6 (mid:Int)), rr (I6 (k:Int)), PV.bool (decide ((b:Int) - (mid:Int) ≥ IntKind.wrap .i64 (Int.tdiv ((b:Int) - (j:Int) - 1) (8 : Int)))) = PV.bool w, rr (PV.bool ap), rr (B6 n l5)] (by kernel_rfl) (ac (cg (Ab (by omega) (by omega) (by omega))) (ac (dF (by omega)) (ac (c1) (ac (cg (Ab (by omega) (by omega) (by omega))) (ac (c2) (ac (dT (by omega)) (ac (cg (Ab (by omega) (by omega) (by omega))) (ac (by simp only [Nat.zero_add]) (ac (by omega) (ac (by omega) (ac (by omega) (ac (by simp only [Nat.zero_add]) (ac (by omega) (ac (by omega) (ac (by omega) (ac (AU _ _ (by first | omega | decide)) (ac (c6) (ac (cg (Ab (by omega) (by omega) (by omega))) (ac (cg (Ab rfl (by omega) (by omega))) (ac (by omega) (ac (dF (by omega)) (ac (cg (Ab rfl (by omega) (by omega))) (ac (c7) (ac rfl (ac rfl (ac rfl (ac rfl (ac ?_ (ac rfl (ao rfl)))))))))))))))))))))))))))))) ?_
  ·refine congrArg PV.bool ?_
   rw [hg, decide_eq_decide]
   first | omega | (rw [wt8 (by omega) (by omega)]; omega)
  ·exact hw
end Go.Proofs
namespace Go.Proofs
open Go Go.Pe Go.Pm
set_option maxRecDepth 100000
set_option linter.unusedVariables false
abbrev Wq (n a b k : Nat) (wb wp : Bool) (l m : List Int) : Prop := Wt Try.f78 [0] [(0, Ac n m)] (.tup []) (Aa Try.f78 0) (qD n a b k wb wp l)
theorem Lm {n a b k : Nat} {l m : Liz} (hw : Wq n a b k true true l m) : Pt 78 [(0, Ac n l)] [.ref 0 [] 1 0 n, .int .i64 a, .int .i64 b, .int .i64 k] [(0, Ac n m)] (.tup []) := by
 refine pO Try.func78 (by kernel_rfl) ?_
 refine W.sgA 0 [] [(0, 0)] (qD n a b k true true l) [] trivial ?_
 exact hw
theorem LM {n a b pv k : Nat} {wb wp : Bool} {l : Liz} (hn : n < 65536) (hab : a + 12 < b) (hb : b ≤ n) (hp1 : a ≤ pv) (hp2 : pv < b) (hk : k < 900) (IH : ∀ (a' b' k' : Nat) (wb' wp' : Bool) (l' : List Int), b' - a' < b - a → a' ≤ b' → b' ≤ n → k' < 900 → Wq n a' b' k' wb' wp' l' (pdL l' a' b' k' wb' wp')) {G : List Int → Prop}
  (fE : ∀ (j mid : Nat) (l4 m : List Int), a = j + 1 → ¬ l.getD j 0 < l.getD pv 0 → Pt 95 [(0, Ac n l)] [.ref 0 [] 1 0 n, .int .i64 a, .int .i64 b, .int .i64 pv] [(0, Ac n l4)] (.int .i64 mid) → Wq n mid b k wb wp l4 m → G m)
  (fL : ∀ (mid : Nat) (ap w : Bool) (l4 l5 m : List Int), (a = 0 ∨ ∃ j, a = j + 1 ∧ l.getD j 0 < l.getD pv 0) → Pt 96 [(0, Ac n l)] [.ref 0 [] 1 0 n, .int .i64 a, .int .i64 b, .int .i64 pv] [(0, Ac n l4)] (.tup [.int .i64 mid, .bool ap]) → a ≤ mid → mid < b → mid - a < b - mid → Pt 78 [(0, Ac n l4)] [.ref 0 [] 1 0 n, .int .i64 a, .int .i64 mid, .int .i64 k] [(0, Ac n l5)] (.tup []) → w = decide ((b - a) / 8 ≤ mid - a) → Wq n (mid + 1) b k w ap l5 m → G m)
  (fR : ∀ (mid : Nat) (ap w : Bool) (l4 l5 m : List Int), (a = 0 ∨ ∃ j, a = j + 1 ∧ l.getD j 0 < l.getD pv 0) → Pt 96 [(0, Ac n l)] [.ref 0 [] 1 0 n, .int .i64 a, .int .i64 b, .int .i64 pv] [(0, Ac n l4)] (.tup [.int .i64 mid, .bool ap]) → a ≤ mid → mid < b → ¬ mid - a < b - mid → Pt 78 [(0, Ac n l4)] [.ref 0 [] 1 0 n, .int .i64 ((mid + 1 : Nat) : Int), .int .i64 b, .int .i64 k] [(0, Ac n l5)] (.tup []) → w = decide ((b - a) / 8 ≤ b - mid) → Wq n a mid k w ap l5 m → G m) :
  G (tlL l a b pv k wb wp) := by
 have h1 := RF l (pv := pv) (show a < b by omega)
 have h2 := QW l (pv := pv) (show a < b by omega)
 obtain ⟨c, rfl⟩ : ∃ c, b = c + 1 := ⟨b - 1, by omega⟩
 unfold tlL
 by_cases hc : 0 < a ∧ ¬ l.getD (a - 1) 0 < l.getD pv 0
 ·rw [if_pos hc]
  exact fE (a - 1) _ _ _ (by omega) hc.2 (PG (n := n) (by omega) hp1 hp2 (by omega) (by omega) l) (IH _ _ _ _ _ _ (by omega) (by omega) (by omega) hk)
 ·rw [if_neg hc]
  have hd : a = 0 ∨ ∃ j, a = j + 1 ∧ l.getD j 0 < l.getD pv 0 := by
   rcases Nat.eq_zero_or_pos a with h | h
   ·exact .inl h
   ·refine .inr ⟨a - 1, by omega, ?_⟩
    exact Classical.byContradiction fun x => hc ⟨h, x⟩
  have c6 := pc_part (n := n) (by omega) hp1 hp2 (by omega) (by omega) l
  by_cases hs : (ptL l a (c + 1) pv).1 - a < c + 1 - (ptL l a (c + 1) pv).1
  ·rw [if_pos hs]
   exact fL _ _ _ _ _ _ hd c6 h2.1 h2.2 hs (Lm (IH _ _ _ _ _ _ (by omega) (by omega) (by omega) hk)) rfl (IH _ _ _ _ _ _ (by omega) (by omega) (by omega) hk)
  ·rw [if_neg hs]
   exact fR _ _ _ _ _ _ hd c6 h2.1 h2.2 hs (Lm (IH _ _ _ _ _ _ (by omega) (by omega) (by omega) hk)) rfl (IH _ _ _ _ _ _ (by omega) (by omega) (by omega) hk)
theorem W_pd {n : Nat} (hn : n < 65536) : ∀ (s a b k : Nat) (wb wp : Bool) (l : List Int), b ≤ a + s → a ≤ b → b ≤ n → k < 900 → Wq n a b k wb wp l (pdL l a b k wb wp)
 | 0, a, b, k, wb, wp, l, hs, hab, hb, hk => by
  rw [Pf l (by omega)]
  exact W_z0 hn hb hab (by omega) (Pg (by omega) hb (by omega) l)
 | s + 1, a, b, k, wb, wp, l, hs, hab, hb, hk => by
  have IH : ∀ (a' b' k' : Nat) (wb' wp' : Bool) (l' : List Int), b' - a' < b - a → a' ≤ b' → b' ≤ n → k' < 900 → Wq n a' b' k' wb' wp' l' (pdL l' a' b' k' wb' wp') :=
   fun a' b' k' wb' wp' l' h1 h2 h3 h4 => W_pd hn s a' b' k' wb' wp' l' (by omega) h2 h3 h4
  by_cases h12 : b ≤ a + 12
  ·rw [Pf l h12]
   exact W_z0 hn hb hab h12 (Pg (by omega) hb (by omega) l)
  have h : a + 12 < b := by omega
  cases k with
  | zero =>
   rw [Ri l h]
   exact W_z1 hn hb h (pc_heap (by omega) hb (by omega) l)
  | succ k =>
   rw [PO l h]
   cases wb with
   | true =>
    have e1 : pd1 l a b true = l := if_pos rfl
    unfold pd2 pdp
    rw [e1]
    have cb := Qq l (show a < b by omega)
    have c2 := pc_cp (by omega) hb h l
    have e2 : (cp1 l a b).1 = (cpL l a b).1 := by rw [NQ]
    rw [e2] at cb
    generalize cpL l a b = cr at *
    obtain ⟨p, hint⟩ := cr
    dsimp only at cb c2 ⊢
    clear e1 e2
    cases hint with
    | unknown =>
     simp only [reduceCtorEq, eq_self, ne_eq, not_true_eq_false, not_false_eq_true, and_self, and_false, and_true, true_and, false_and, Bool.false_eq_true, if_true, if_false]
     cases wp with
     | true =>
      refine LM (G := fun m => Wq n a (b) (k + 1) true true l m) hn (by omega) hb (by omega) (by omega) (by omega) IH (fun j mid l4 m e g c5 hw => ?_) (fun mid ap w l4 l5 m hl c6 m1 m2 hs c7 hg hw => ?_) (fun mid ap w l4 l5 m hl c6 m1 m2 hs c7 hg hw => ?_)
      ·subst e
       exact W_zt0tE (wp := true) (ap := true) (l1 := []) (l2 := []) (l3 := []) (l5 := []) hn hb (by omega) (by omega) (by omega) (by omega) trivial c2  g c5 hw
      ·exact W_zt0tL (wp := true) (l1 := []) (l2 := []) (l3 := []) hn hb (by omega) (by omega) (by omega) (by omega) trivial c2  hl c6 m1 m2 hs c7 hg hw
      ·exact W_zt0tR (wp := true) (l1 := []) (l2 := []) (l3 := []) hn hb (by omega) (by omega) (by omega) (by omega) trivial c2  hl c6 m1 m2 hs c7 hg hw
     | false =>
      refine LM (G := fun m => Wq n a (b) (k + 1) true false l m) hn (by omega) hb (by omega) (by omega) (by omega) IH (fun j mid l4 m e g c5 hw => ?_) (fun mid ap w l4 l5 m hl c6 m1 m2 hs c7 hg hw => ?_) (fun mid ap w l4 l5 m hl c6 m1 m2 hs c7 hg hw => ?_)
      ·subst e
       exact W_zt0fE (wp := true) (ap := true) (l1 := []) (l2 := []) (l3 := []) (l5 := []) hn hb (by omega) (by omega) (by omega) (by omega) trivial c2  g c5 hw
      ·exact W_zt0fL (wp := true) (l1 := []) (l2 := []) (l3 := []) hn hb (by omega) (by omega) (by omega) (by omega) trivial c2  hl c6 m1 m2 hs c7 hg hw
      ·exact W_zt0fR (wp := true) (l1 := []) (l2 := []) (l3 := []) hn hb (by omega) (by omega) (by omega) (by omega) trivial c2  hl c6 m1 m2 hs c7 hg hw
    | increasing =>
     simp only [reduceCtorEq, eq_self, ne_eq, not_true_eq_false, not_false_eq_true, and_self, and_false, and_true, true_and, false_and, Bool.false_eq_true, if_true, if_false]
     cases wp with
     | false =>
      simp only [reduceCtorEq, eq_self, ne_eq, not_true_eq_false, not_false_eq_true, and_self, and_false, and_true, true_and, false_and, Bool.false_eq_true, if_true, if_false]
      refine LM (G := fun m => Wq n a (b) (k + 1) true false l m) hn (by omega) hb (by omega) (by omega) (by omega) IH (fun j mid l4 m e g c5 hw => ?_) (fun mid ap w l4 l5 m hl c6 m1 m2 hs c7 hg hw => ?_) (fun mid ap w l4 l5 m hl c6 m1 m2 hs c7 hg hw => ?_)
      ·subst e
       exact W_zt1fE (wp := true) (ap := true) (l1 := []) (l2 := []) (l3 := []) (l5 := []) hn hb (by omega) (by omega) (by omega) (by omega) trivial c2  g c5 hw
      ·exact W_zt1fL (wp := true) (l1 := []) (l2 := []) (l3 := []) hn hb (by omega) (by omega) (by omega) (by omega) trivial c2  hl c6 m1 m2 hs c7 hg hw
      ·exact W_zt1fR (wp := true) (l1 := []) (l2 := []) (l3 := []) hn hb (by omega) (by omega) (by omega) (by omega) trivial c2  hl c6 m1 m2 hs c7 hg hw
     | true =>
      simp only [reduceCtorEq, eq_self, ne_eq, not_true_eq_false, not_false_eq_true, and_self, and_false, and_true, true_and, false_and, Bool.false_eq_true, if_true, if_false]
      have c4 := pc_pi (a := a) (b := b) (by omega) hb (by omega) l
      generalize piL a (b) 5 (a + 1) l = r at *
      obtain ⟨l3, d⟩ := r
      dsimp only at c4 ⊢
      cases d with
      | true =>
       simp only [reduceCtorEq, eq_self, ne_eq, not_true_eq_false, not_false_eq_true, and_self, and_false, and_true, true_and, false_and, Bool.false_eq_true, if_true, if_false]
       exact W_zt1tT (mid := 0) (wp := true) (ap := true) (l1 := []) (l2 := []) (l3 := []) (l4 := []) (l5 := []) hn hb (by omega) (by omega) (by omega) (by omega) trivial c2 c4
      | false =>
       simp only [reduceCtorEq, eq_self, ne_eq, not_true_eq_false, not_false_eq_true, and_self, and_false, and_true, true_and, false_and, Bool.false_eq_true, if_true, if_false]
       refine LM (G := fun m => Wq n a (b) (k + 1) true true l m) hn (by omega) hb (by omega) (by omega) (by omega) IH (fun j mid l4 m e g c5 hw => ?_) (fun mid ap w l4 l5 m hl c6 m1 m2 hs c7 hg hw => ?_) (fun mid ap w l4 l5 m hl c6 m1 m2 hs c7 hg hw => ?_)
       ·subst e
        exact W_zt1tE (wp := true) (ap := true) (l1 := []) (l2 := []) (l5 := []) hn hb (by omega) (by omega) (by omega) (by omega) trivial c2 c4 g c5 hw
       ·exact W_zt1tL (wp := true) (l1 := []) (l2 := []) hn hb (by omega) (by omega) (by omega) (by omega) trivial c2 c4 hl c6 m1 m2 hs c7 hg hw
       ·exact W_zt1tR (wp := true) (l1 := []) (l2 := []) hn hb (by omega) (by omega) (by omega) (by omega) trivial c2 c4 hl c6 m1 m2 hs c7 hg hw
    | decreasing =>
     simp only [reduceCtorEq, eq_self, ne_eq, not_true_eq_false, not_false_eq_true, and_self, and_false, and_true, true_and, false_and, Bool.false_eq_true, if_true, if_false]
     obtain ⟨t, rfl⟩ : ∃ t, p = a + t := ⟨p - a, by omega⟩
     obtain ⟨q, rfl⟩ : ∃ q, b = q + t + 1 := ⟨b - 1 - t, by omega⟩
     rw [Nat.add_sub_cancel, Nat.add_sub_cancel_left, Nat.add_sub_cancel]
     have c3 := OJ (a := a) (by omega) (show q + t < n by omega) l
     generalize rvL a (q + t) l = l2 at *
     cases wp with
     | false =>
      simp only [reduceCtorEq, eq_self, ne_eq, not_true_eq_false, not_false_eq_true, and_self, and_false, and_true, true_and, false_and, Bool.false_eq_true, if_true, if_false]
      refine LM (G := fun m => Wq n a (q + t + 1) (k + 1) true false l m) hn (by omega) hb (by omega) (by omega) (by omega) IH (fun j mid l4 m e g c5 hw => ?_) (fun mid ap w l4 l5 m hl c6 m1 m2 hs c7 hg hw => ?_) (fun mid ap w l4 l5 m hl c6 m1 m2 hs c7 hg hw => ?_)
      ·subst e
       exact W_zt2fE (wp := true) (ap := true) (l1 := []) (l3 := []) (l5 := []) hn hb (by omega) (by omega) (by omega) (by omega) (by omega) c2 c3  g c5 hw
      ·exact W_zt2fL (wp := true) (l1 := []) (l3 := []) hn hb (by omega) (by omega) (by omega) (by omega) (by omega) c2 c3  hl c6 m1 m2 hs c7 hg hw
      ·exact W_zt2fR (wp := true) (l1 := []) (l3 := []) hn hb (by omega) (by omega) (by omega) (by omega) (by omega) c2 c3  hl c6 m1 m2 hs c7 hg hw
     | true =>
      simp only [reduceCtorEq, eq_self, ne_eq, not_true_eq_false, not_false_eq_true, and_self, and_false, and_true, true_and, false_and, Bool.false_eq_true, if_true, if_false]
      have c4 := pc_pi (a := a) (b := q + t + 1) (by omega) hb (by omega) l2
      generalize piL a (q + t + 1) 5 (a + 1) l2 = r at *
      obtain ⟨l3, d⟩ := r
      dsimp only at c4 ⊢
      cases d with
      | true =>
       simp only [reduceCtorEq, eq_self, ne_eq, not_true_eq_false, not_false_eq_true, and_self, and_false, and_true, true_and, false_and, Bool.false_eq_true, if_true, if_false]
       exact W_zt2tT (mid := 0) (wp := true) (ap := true) (l1 := []) (l3 := []) (l4 := []) (l5 := []) hn hb (by omega) (by omega) (by omega) (by omega) (by omega) c2 c3 c4
      | false =>
       simp only [reduceCtorEq, eq_self, ne_eq, not_true_eq_false, not_false_eq_true, and_self, and_false, and_true, true_and, false_and, Bool.false_eq_true, if_true, if_false]
       refine LM (G := fun m => Wq n a (q + t + 1) (k + 1) true true l m) hn (by omega) hb (by omega) (by omega) (by omega) IH (fun j mid l4 m e g c5 hw => ?_) (fun mid ap w l4 l5 m hl c6 m1 m2 hs c7 hg hw => ?_) (fun mid ap w l4 l5 m hl c6 m1 m2 hs c7 hg hw => ?_)
       ·subst e
        exact W_zt2tE (wp := true) (ap := true) (l1 := []) (l5 := []) hn hb (by omega) (by omega) (by omega) (by omega) (by omega) c2 c3 c4 g c5 hw
       ·exact W_zt2tL (wp := true) (l1 := []) hn hb (by omega) (by omega) (by omega) (by omega) (by omega) c2 c3 c4 hl c6 m1 m2 hs c7 hg hw
       ·exact W_zt2tR (wp := true) (l1 := []) hn hb (by omega) (by omega) (by omega) (by omega) (by omega) c2 c3 c4 hl c6 m1 m2 hs c7 hg hw
   | false =>
    have e1 : pd1 l a b false = (bpL l a b) := if_neg (by decide)
    unfold pd2 pdp
    rw [e1]
    have c1 := pc_bp (a := a) hn hb (by omega) l
    generalize bpL l a b = l1 at *
    have cb := Qq l1 (show a < b by omega)
    have c2 := pc_cp (by omega) hb h l1
    have e2 : (cp1 l1 a b).1 = (cpL l1 a b).1 := by rw [NQ]
    rw [e2] at cb
    generalize cpL l1 a b = cr at *
    obtain ⟨p, hint⟩ := cr
    dsimp only at cb c2 ⊢
    clear e1 e2
    cases hint with
    | unknown =>
     simp only [reduceCtorEq, eq_self, ne_eq, not_true_eq_false, not_false_eq_true, and_self, and_false, and_true, true_and, false_and, Bool.false_eq_true, if_true, if_false]
     refine LM (G := fun m => Wq n a (b) (k + 1) false wp l m) hn (by omega) hb (by omega) (by omega) (by omega) IH (fun j mid l4 m e g c5 hw => ?_) (fun mid ap w l4 l5 m hl c6 m1 m2 hs c7 hg hw => ?_) (fun mid ap w l4 l5 m hl c6 m1 m2 hs c7 hg hw => ?_)
     ·subst e
      exact W_zf0xE (ap := true) (l2 := []) (l3 := []) (l5 := []) hn hb (by omega) (by omega) (by omega) (by omega) trivial c1 c2  g c5 hw
     ·exact W_zf0xL (l2 := []) (l3 := []) hn hb (by omega) (by omega) (by omega) (by omega) trivial c1 c2  hl c6 m1 m2 hs c7 hg hw
     ·exact W_zf0xR (l2 := []) (l3 := []) hn hb (by omega) (by omega) (by omega) (by omega) trivial c1 c2  hl c6 m1 m2 hs c7 hg hw
    | increasing =>
     simp only [reduceCtorEq, eq_self, ne_eq, not_true_eq_false, not_false_eq_true, and_self, and_false, and_true, true_and, false_and, Bool.false_eq_true, if_true, if_false]
     refine LM (G := fun m => Wq n a (b) (k + 1) false wp l m) hn (by omega) hb (by omega) (by omega) (by omega) IH (fun j mid l4 m e g c5 hw => ?_) (fun mid ap w l4 l5 m hl c6 m1 m2 hs c7 hg hw => ?_) (fun mid ap w l4 l5 m hl c6 m1 m2 hs c7 hg hw => ?_)
     ·subst e
      exact W_zf1xE (ap := true) (l2 := []) (l3 := []) (l5 := []) hn hb (by omega) (by omega) (by omega) (by omega) trivial c1 c2  g c5 hw
     ·exact W_zf1xL (l2 := []) (l3 := []) hn hb (by omega) (by omega) (by omega) (by omega) trivial c1 c2  hl c6 m1 m2 hs c7 hg hw
     ·exact W_zf1xR (l2 := []) (l3 := []) hn hb (by omega) (by omega) (by omega) (by omega) trivial c1 c2  hl c6 m1 m2 hs c7 hg hw
    | decreasing =>
     simp only [reduceCtorEq, eq_self, ne_eq, not_true_eq_false, not_false_eq_true, and_self, and_false, and_true, true_and, false_and, Bool.false_eq_true, if_true, if_false]
     obtain ⟨t, rfl⟩ : ∃ t, p = a + t := ⟨p - a, by omega⟩
     obtain ⟨q, rfl⟩ : ∃ q, b = q + t + 1 := ⟨b - 1 - t, by omega⟩
     rw [Nat.add_sub_cancel, Nat.add_sub_cancel_left, Nat.add_sub_cancel]
     have c3 := OJ (a := a) (by omega) (show q + t < n by omega) l1
     generalize rvL a (q + t) l1 = l2 at *
     refine LM (G := fun m => Wq n a (q + t + 1) (k + 1) false wp l m) hn (by omega) hb (by omega) (by omega) (by omega) IH (fun j mid l4 m e g c5 hw => ?_) (fun mid ap w l4 l5 m hl c6 m1 m2 hs c7 hg hw => ?_) (fun mid ap w l4 l5 m hl c6 m1 m2 hs c7 hg hw => ?_)
     ·subst e
      exact W_zf2xE (ap := true) (l3 := []) (l5 := []) hn hb (by omega) (by omega) (by omega) (by omega) (by omega) c1 c2 c3  g c5 hw
     ·exact W_zf2xL (l3 := []) hn hb (by omega) (by omega) (by omega) (by omega) (by omega) c1 c2 c3  hl c6 m1 m2 hs c7 hg hw
     ·exact W_zf2xR (l3 := []) hn hb (by omega) (by omega) (by omega) (by omega) (by omega) c1 c2 c3  hl c6 m1 m2 hs c7 hg hw
theorem Qg {l : Liz} {n : Nat} (hn : n < 65536) (hl : l.length = n) : Pt 50 [(0, Ac n l)] [.ref 0 [] 1 0 n] [(0, Ac n (l.mergeSort (fun x y => decide (x ≤ y))))] (.tup []) := by
 refine pO Try.func50 (by kernel_rfl) ?_
 have hk := GM (k := 16) (show n < 2 ^ 16 by omega)
 have c1 := OP hn
 have c2 := Lm (W_pd hn n 0 n (Bq n) true true l (by omega) (by omega) (Nat.le_refl n) (by omega))
 have e := R5 l
 rw [hl] at e
 rw [e] at c2
 generalize l.mergeSort (fun x y => decide (x ≤ y)) = m at *
 generalize Bq n = k at *
 refine W.rtA [(6, aV (U6 n)), (7, c9 c1), (8, cC true [(0, 0)] c2)] [(0, 0)] [U6 (IntKind.wrap .u64 (n:Int)) = U6 n, _, _] (ac (cg (Au rfl (by omega) (by omega))) (ac (c1) (ao (c2))))
end Go.Proofs
namespace Go.Pm
structure Rd where
 s : List Int
 e : Nat
def Rd.tk (r : Rd) (n : Nat) : Rd := if r.e = 0 then (if n ≤ r.s.length then ⟨r.s.drop n, 0⟩ else ⟨r.s, 2⟩) else r
def Rd.nv (r : Rd) (n : Nat) : Nat := if r.e = 0 ∧ n ≤ r.s.length then lv r.s n else 0
def wdt (x : Nat) : Nat := if x = 253 then 2 else if x = 254 then 4 else if x = 255 then 8 else 0
def lst (x : Nat) : Nat := if x = 253 then 253 else if x = 254 then 65536 else if x = 255 then 4294967296 else 0
def ET (s : List Int) : Nat := if wdt (at0 s 0) = 0 then at0 s 0 else lv (s.drop 1) (wdt (at0 s 0))
def Rd.ve (r : Rd) (m : Nat) : Nat := if r.e = 0 then (if r.s.length < 1 + wdt (at0 r.s 0) then 2 else if ET r.s < lst (at0 r.s 0) then 3 else if m < ET r.s then 4 else 0) else r.e
def Rd.var (r : Rd) (m : Nat) : Rd := if r.ve m = 0 then ⟨r.s.drop (1 + wdt (at0 r.s 0)), 0⟩ else ⟨r.s, r.ve m⟩
def Rd.vn (r : Rd) (m : Nat) : Nat := if r.ve m = 0 then ET r.s else 0
def Rd.we (r : Rd) (m : Nat) : Nat := if r.ve m = 0 then (if r.vn m ≤ (r.var m).s.length then 0 else 2) else r.ve m
def Rd.wd (r : Rd) (m : Nat) : Rd := if r.we m = 0 then ⟨(r.var m).s.drop (r.vn m), 0⟩ else ⟨r.s, r.we m⟩
structure Rd.In (r : Rd) (bs : List Int) (N : Nat) : Prop where
 len : bs.length = N
 le : r.s.length ≤ N
 eq : r.s = bs.drop (N - r.s.length)
 by' : Bytes bs
theorem drop_in {bs s : List Int} {N n : Nat} (h : s = bs.drop (N - s.length)) (hle : s.length ≤ N) (hn : n ≤ s.length) : s.drop n = bs.drop (N - (s.drop n).length) := by
 rw [List.length_drop]
 conv => lhs; rw [h]
 rw [List.drop_drop]
 congr 1
 omega
theorem Rd.In.drop {r : Rd} {bs : List Int} {N n e : Nat} (h : r.In bs N) (hn : n ≤ r.s.length) : (Rd.mk (r.s.drop n) e).In bs N :=
 ⟨h.len, by simp only [List.length_drop]; have := h.le; omega, drop_in h.eq h.le hn, h.by'⟩
theorem Rd.In.err {r : Rd} {bs : List Int} {N e : Nat} (h : r.In bs N) : (Rd.mk r.s e).In bs N := ⟨h.len, h.le, h.eq, h.by'⟩
theorem Rd.In.tk {r : Rd} {bs : List Int} {N : Nat} (h : r.In bs N) (n : Nat) : (r.tk n).In bs N := by
 unfold Rd.tk
 split
 ·split
  ·rename_i hn; exact h.drop hn
  ·exact h.err
 ·exact h
theorem Rd.In.bytes {r : Rd} {bs : List Int} {N : Nat} (h : r.In bs N) : Bytes r.s := by rw [h.eq]; exact h.by'.drop _
theorem Rd.ve_len {r : Rd} {m : Nat} (h : r.ve m = 0) : 1 + wdt (at0 r.s 0) ≤ r.s.length := by
 unfold Rd.ve at h
 split at h
 ·split at h
  ·cases h
  ·omega
 ·rename_i hne; exact absurd h hne
theorem Rd.In.var {r : Rd} {bs : List Int} {N : Nat} (h : r.In bs N) (m : Nat) : (r.var m).In bs N := by
 unfold Rd.var
 split
 ·rename_i hv; exact h.drop (Rd.ve_len hv)
 ·exact h.err
theorem Rd.In.wd {r : Rd} {bs : List Int} {N : Nat} (h : r.In bs N) (m : Nat) : (r.wd m).In bs N := by
 unfold Rd.wd
 split
 ·rename_i hw
  refine (h.var m).drop ?_
  unfold Rd.we at hw
  split at hw
  ·split at hw
   ·assumption
   ·cases hw
  ·rename_i hne; exact absurd hw hne
 ·exact h.err
theorem wdt_le (x : Nat) : wdt x ≤ 8 := by
 unfold wdt
 split; · omega
 split; · omega
 split <;> omega
theorem Rq {l : List Int} (h : Bytes l) (i : Nat) : at0 l i < 256 := by
 unfold at0
 rw [List.getD_eq_getElem?_getD]
 cases hx : l[i]? with
 | none => simp
 | some x =>
  have := h x (List.mem_of_getElem? hx)
  simp only [Option.getD_some]
  omega
theorem Ll {s : List Int} (h : Bytes s) : ET s < 18446744073709551616 := by
 unfold ET
 have h1 := Rq h 0
 have h2 := Im (h.drop 1) (wdt (at0 s 0))
 have h3 := wdt_le (at0 s 0)
 split
 ·omega
 ·exact Nat.lt_of_lt_of_le h2 (Nat.le_trans (Nat.pow_le_pow_right (by omega) (show 8 * wdt (at0 s 0) ≤ 64 by omega)) (by decide))
theorem Rd.vn_le (r : Rd) (m : Nat) : r.vn m ≤ m := by
 unfold Rd.vn
 split
 ·rename_i h
  unfold Rd.ve at h
  split at h
  ·split at h
   ·cases h
   ·split at h
    ·cases h
    ·split at h
     ·cases h
     ·omega
  ·rename_i hne; exact absurd h hne
 ·exact Nat.zero_le _
structure OutM where
 v : Nat
 nl : Bool
 b : List Int
def txR1 (b : List Int) : Rd := (Rd.mk b 0).tk 1
def OZ (b : List Int) : Prop := b.length = 64 ∨ ((txR1 b).e = 0 ∧ (Rd.mk b 0).nv 1 ≠ 1)
instance (b : List Int) : Decidable (OZ b) := by unfold OZ; infer_instance
end Go.Pm
namespace Go.Proofs
open Go Go.Pe Go.Pm
set_option maxRecDepth 100000
set_option linter.unusedVariables false
theorem Eh {nl : Bool} {n : Nat} (hn : n ≤ 1000000000) {l : Liz} (hl : l.length = n) (hnl : nl = true → n = 0) : Pt 51 [] [.vec nl (.iarr .u8 n l)] [] (.vec nl (.iarr .u8 n l)) := by
 refine pO Try.func51 (by kernel_rfl) ?_
 have hT : l.take n = l := List.take_of_length_le (by omega)
 cases nl with
 | true =>
  have h0 := hnl rfl
  subst h0
  have : l = [] := List.eq_nil_of_length_eq_zero hl
  subst this
  refine W.rtA [] [] [] trivial
 | false => refine W.ret [(5, Ans.vu (PV.ref 144 [] 1 0 n) [(112, none), (144, some (Row.mk (B8 n l) false))])] [] [([(112, none), (144, some (Row.mk (B8 (0 + n) l) false))] : List (Nat × Option Row)) = [(112, none), (144, some (Row.mk (B8 n l) false))], PV.ref 144 [] 1 0 (0 + n) = PV.ref 144 [] 1 0 n, rr (0), (0 + n) * 1 ≤ 140737488355328, 0 + n ≤ 9223372036854775807, 0 + n ≤ n, PV.vec false (B8 n (List.take n l)) = PV.vec false (B8 n l)] (by kernel_rfl) (ac (by simp only [Nat.zero_add]) (ac (by simp only [Nat.zero_add]) (ac rfl (ac (by omega) (ac (by omega) (ac (by omega) (ao (by (simp [I6, U6, U3, U8]; omega)))))))))
def rdq (nl : Bool) (N : Nat) (bs : List Int) (a e : Nat) : Row := ⟨.st 3 [.vec nl (.iarr .u8 N bs), .int .i64 a, .int .i64 e], false⟩
theorem pc_rdOf {nl : Bool} {n : Nat} (hn : n ≤ 1000000) {l : Liz} (hl : l.length = n) (hnl : nl = true → n = 0) : Pt 29 [] [.vec nl (.iarr .u8 n l)] [(1, rdq nl n l 0 0)] (.at 1 []) := by
 refine pO Try.func29 (by kernel_rfl) ?_
 have c1 := Eh (by omega) hl hnl
 unfold rdq
 refine W.rtA [(2, c0 c1)] [(128, 1)] [_] (ao (c1))
theorem Ch {nl : Bool} {N : Nat} {bs : Liz} {a e a' e' : Nat} (hl : bs.length = N) (ha : a ≤ 1000000) (ha' : a' ≤ 1000000) (he : e ≤ 100) (he' : e' ≤ 100) : Pt 57 [(0, rdq nl N bs a e)] [.at 0 [], .int .i64 a', .int .i64 e'] [(0, rdq nl N bs a' (if e = 0 then e' else e))] (.tup []) := by
 refine pO Try.func57 (by kernel_rfl) ?_
 unfold rdq
 by_cases h : e = 0
 ·rw [if_pos h]
  subst h
  refine W.rtA [(3, aV (I6 0))] [(0, 0)] [I6 ↑(0 : Nat) = I6 0] (ao (cg (by omega)))
 ·rw [if_neg h]
  have h1 : ¬ ((e : Int) = 0) := by omega
  refine W.rtA [(4, aF)] [(0, 0)] [((e:Int) == 0) = false] (ao (dF (by omega)))
def nilB : PV := .vec true (.iarr .u8 0 [])
theorem NG {nl : Bool} {N : Nat} {bs : Liz} {a e w : Nat} (hl : bs.length = N) (hw : w ≤ 1000000) (he : e ≤ 100) (h0 : e ≠ 0) : Pt 33 [(0, rdq nl N bs a e)] [.at 0 [], .int .i64 w] [(0, rdq nl N bs a e)] nilB := by
 refine pO Try.func33 (by kernel_rfl) ?_
 unfold rdq nilB
 have h1 : ¬ ((e : Int) = 0) := by omega
 have h2 : mx (w : Int) 0 = (w : Int) := by unfold mx; split <;> omega
 refine W.rtA [(2, aV (I6 w)), (8, aT)] [(0, 0)] [I6 (mx (w:Int) (0 : Int)) = I6 w, ((e:Int) != 0) = true] (ac (cg (h2)) (ao (bne_iff_ne.2 (by omega))))
theorem Ny {nl : Bool} {N : Nat} {bs : Liz} {a w : Nat} (hl : bs.length = N) (hN : N ≤ 1000000) (hw : w ≤ 1000000) (ha : a ≤ N) (h0 : N < a + w) : Pt 33 [(0, rdq nl N bs a 0)] [.at 0 [], .int .i64 w] [(0, rdq nl N bs a 2)] nilB := by
 refine pO Try.func33 (by kernel_rfl) ?_
 have c1 := Ch (nl := nl) (e := 0) (a := a) (a' := a) (e' := 2) hl (by omega) (by omega) (by omega) (by omega)
 rw [if_pos rfl] at c1
 unfold rdq nilB at *
 have h2 : mx (w : Int) 0 = (w : Int) := by unfold mx; split <;> omega
 refine W.rtA [(2, aV (I6 w)), (7, aV (I6 0)), (19, aV (I6 ((N:Int) - (a:Int)))), (20, aT), (26, cC false [(0, 0)] c1)] [(0, 0)] [I6 (mx (w:Int) (0 : Int)) = I6 w, I6 ↑(0 : Nat) = I6 0, I6 (IntKind.wrap .i64 ((N:Int) - (a:Int))) = I6 ((N:Int) - (a:Int)), decide ((w:Int) > (N:Int) - (a:Int)) = true, _] (ac (cg (h2)) (ac (cg (by omega)) (ac (wj (by omega)) (ac (dT (by omega)) (ao (c1))))))
theorem Jy {nl : Bool} {N : Nat} {bs : Liz} {a w : Nat} (hl : bs.length = N) (hN : N ≤ 1000000) (ha : a + w ≤ N) (hnl : nl = true → N = 0) : Pt 33 [(0, rdq nl N bs a 0)] [.at 0 [], .int .i64 w] [(0, rdq nl N bs (a + w) 0)] (.vec nl (.iarr .u8 w ((bs.drop a).take w))) := by
 refine pO Try.func33 (by kernel_rfl) ?_
 have c1 := Eh (nl := nl) (n := w) (l := (bs.drop a).take w) (by omega) (by rw [List.length_take, List.length_drop]; omega) (by intro h; have := hnl h; omega)
 unfold rdq at *
 have h2 : mx (w : Int) 0 = (w : Int) := by unfold mx; split <;> omega
 have h3 : ((a : Int) + (w : Int)) - (w : Int) = (a : Int) := by omega
 rw [← GH] at c1 ⊢
 refine W.rtA [(2, aV (I6 w)), (7, aV (I6 0)), (19, aV (I6 ((N:Int) - (a:Int)))), (20, aF), (26, aV (I6 ↑(a + w))), (39, aV (I6 a)), (44, aV (PV.vec nl (B8 w (List.take w (F3 bs a))))), (45, c0 c1)] [(0, 0)] [I6 (mx (w:Int) (0 : Int)) = I6 w, I6 ↑(0 : Nat) = I6 0, I6 (IntKind.wrap .i64 ((N:Int) - (a:Int))) = I6 ((N:Int) - (a:Int)), decide ((w:Int) > (N:Int) - (a:Int)) = false, I6 (IntKind.wrap .i64 ((a:Int) + (w:Int))) = I6 ↑(a + w), I6 (IntKind.wrap .i64 ((↑(a + w) : Int) - (w:Int))) = I6 a, PV.vec nl (B8 (Int.toNat ((↑(a + w) : Int) - (a:Int))) (List.take (Int.toNat ((↑(a + w) : Int) - (a:Int))) (F3 bs a))) = PV.vec nl (B8 w (List.take w (F3 bs a))), 0 ≤ (a:Int), (a:Int) ≤ (↑(a + w) : Int), (↑(a + w) : Int) ≤ (N:Int), _] (ac (cg (h2)) (ac (cg (by omega)) (ac (wj (by omega)) (ac (dF (by omega)) (ac (wj (by omega)) (ac (cg (Ab (by omega) (by omega) (by omega))) (ac (by rw [show Int.toNat ((↑(a + w) : Int) - (a:Int)) = w by omega]) (ob3 (by omega) (ao (c1))))))))))
theorem Cv {nl : Bool} {N : Nat} {bs : Liz} {r : Rd} {w : Nat} (hr : r.In bs N) (hN : N ≤ 1000000) (he : r.e ≤ 100) (hw : w ≤ 8) (hw0 : 0 < w) (hnl : nl = true → N = 0) : Pt 56 [(0, rdq nl N bs (N - r.s.length) r.e)] [.at 0 [], .int .i64 w] [(0, rdq nl N bs (N - (r.tk w).s.length) (r.tk w).e)] (.int .u64 ((r.nv w : Nat) : Int)) := by
 refine pO Try.func56 (by kernel_rfl) ?_
 have hle := hr.le
 have h2 : mx (w : Int) 0 = (w : Int) := by unfold mx; split <;> omega
 have h3 : mn (w : Int) 8 = (w : Int) := by unfold mn; split <;> omega
 have c0 := Je (nl := true) (n := 0) (l := []) rfl (by intro x hx; cases hx)
 have e0 : lv [] (min 0 8) = 0 := rfl
 rw [e0] at c0
 by_cases h0 : r.e = 0
 ·by_cases hl : w ≤ r.s.length
  ·have e1 : (r.tk w).s.length = r.s.length - w := by unfold Rd.tk; rw [if_pos h0, if_pos hl, List.length_drop]
   have e2 : (r.tk w).e = 0 := by unfold Rd.tk; rw [if_pos h0, if_pos hl]
   have e3 : r.nv w = lv r.s w := by unfold Rd.nv; rw [if_pos ⟨h0, hl⟩]
   have c1 := Jy (nl := nl) (a := N - r.s.length) (w := w) hr.len hN (by omega) hnl
   rw [← hr.eq] at c1
   have c2 := Je (nl := nl) (n := w) (l := r.s.take w) (by rw [List.length_take]; omega) (hr.bytes.take w)
   rw [Nat.min_eq_left hw, Oy (Nat.le_refl w)] at c2
   have e4 : N - (r.s.length - w) = N - r.s.length + w := by omega
   rw [e1, e2, e3, h0, e4]
   generalize lv r.s w = v at *
   generalize r.s.take w = tk at *
   generalize N - r.s.length = a at *
   unfold rdq at *
   refine W.rtA [(3, aV (I6 w)), (4, aV (I6 w)), (5, cC false [(0, 0)] c1), (6, c9 c2)] [(0, 0)] [I6 (mx (w:Int) (0 : Int)) = I6 w, I6 (mn (w:Int) (8 : Int)) = I6 w, _, _] (ac (cg (h2)) (ac (cg (h3)) (ac (c1) (ao (c2)))))
  ·have e1 : (r.tk w).s = r.s := by unfold Rd.tk; rw [if_pos h0, if_neg hl]
   have e2 : (r.tk w).e = 2 := by unfold Rd.tk; rw [if_pos h0, if_neg hl]
   have e3 : r.nv w = 0 := by unfold Rd.nv; rw [if_neg (fun h => hl h.2)]
   have c1 := Ny (nl := nl) (a := N - r.s.length) (w := w) hr.len hN (by omega) (by omega) (by omega)
   rw [e1, e2, e3, h0]
   generalize N - r.s.length = a at *
   unfold rdq nilB at *
   refine W.rtA [(3, aV (I6 w)), (4, aV (I6 w)), (5, cC false [(0, 0)] c1), (6, c9 c0), (7, aV (U6 0))] [(0, 0)] [I6 (mx (w:Int) (0 : Int)) = I6 w, I6 (mn (w:Int) (8 : Int)) = I6 w, _, _, U6 ↑(0 : Nat) = U6 0] (ac (cg (h2)) (ac (cg (h3)) (ac (c1) (ac (c0) (ao (cg (by omega)))))))
 ·have e1 : r.tk w = r := by unfold Rd.tk; rw [if_neg h0]
  have e3 : r.nv w = 0 := by unfold Rd.nv; rw [if_neg (fun h => h0 h.1)]
  have c1 := NG (nl := nl) (a := N - r.s.length) (w := w) hr.len (by omega) he h0
  rw [e1, e3]
  generalize N - r.s.length = a at *
  generalize r.e = e at *
  unfold rdq nilB at *
  refine W.rtA [(3, aV (I6 w)), (4, aV (I6 w)), (5, cC false [(0, 0)] c1), (6, c9 c0), (7, aV (U6 0))] [(0, 0)] [I6 (mx (w:Int) (0 : Int)) = I6 w, I6 (mn (w:Int) (8 : Int)) = I6 w, _, _, U6 ↑(0 : Nat) = U6 0] (ac (cg (h2)) (ac (cg (h3)) (ac (c1) (ac (c0) (ao (cg (by omega)))))))
theorem QO {nl : Bool} {N a e : Nat} {bs : Liz} (hl : bs.length = N) (he : e ≤ 100) : Pt 31 [(0, rdq nl N bs a e)] [.at 0 []] [(0, rdq nl N bs a e)] (.int .i64 e) := by
 refine pO Try.func31 (by kernel_rfl) ?_
 unfold rdq at *
 refine W.rtA [] [(0, 0)] [] trivial
theorem PM {nl : Bool} {N a e : Nat} {bs : Liz} (hl : bs.length = N) (hN : N ≤ 1000000) (ha : a ≤ N) : Pt 34 [(0, rdq nl N bs a e)] [.at 0 []] [(0, rdq nl N bs a e)] (.int .i64 ((N - a : Nat) : Int)) := by
 refine pO Try.func34 (by kernel_rfl) ?_
 have h : (N : Int) - (a : Int) = ((N - a : Nat) : Int) := by omega
 have hb : N - a ≤ 1000000 := by omega
 generalize N - a = m at *
 unfold rdq at *
 refine W.rtA [(10, aV (I6 m))] [(0, 0)] [I6 (IntKind.wrap .i64 ((N:Int) - (a:Int))) = I6 m] (ao (cg (Ab h (by omega) (by omega))))
end Go.Proofs
namespace Go.Proofs
open Go Go.Pe Go.Pm
set_option maxRecDepth 100000
set_option linter.unusedVariables false
theorem K7 (s : List Int) : lv s 1 = at0 s 0 := by simp [lv]
theorem Rd.Da {r : Rd} {m x : Nat} (h : r.ve m = x) (hx : x ≠ 0) : r.var m = ⟨r.s, x⟩ ∧ r.vn m = 0 := by
 unfold Rd.var Rd.vn
 rw [h, if_neg hx, if_neg hx]
 exact ⟨rfl, rfl⟩
theorem Rd.K5 {r : Rd} {m : Nat} (h : r.ve m = 0) : r.var m = ⟨r.s.drop (1 + wdt (at0 r.s 0)), 0⟩ ∧ r.vn m = ET r.s := by
 unfold Rd.var Rd.vn
 rw [if_pos h, if_pos h]
 exact ⟨rfl, rfl⟩
theorem Po {nl : Bool} {N m : Nat} {bs : Liz} {r : Rd} (hr : r.In bs N) (hN : N ≤ 1000000) (he : r.e ≤ 100) (hm : m < 18446744073709551616) (hnl : nl = true → N = 0) (h0 : r.e ≠ 0) : Pt 30 [(0, rdq nl N bs (N - r.s.length) r.e)] [.at 0 [], .int .u64 m] [(0, rdq nl N bs (N - r.s.length) r.e)] (.int .u64 0) := by
 refine pO Try.func30 (by kernel_rfl) ?_
 have hle := hr.le
 have hbl := hr.len
 have c1 := Cv (nl := nl) (w := 1) hr hN he (by omega) (by omega) hnl
 have e1 : r.tk 1 = r := by unfold Rd.tk; rw [if_neg h0]
 have e3 : r.nv 1 = 0 := by unfold Rd.nv; rw [if_neg (fun h => h0 h.1)]
 rw [e1, e3] at c1
 have h1 : ¬ ((r.e : Int) = 0) := by omega
 have hb : N - r.s.length ≤ 1000000 := by omega
 generalize N - r.s.length = a at *
 generalize r.e = e at *
 unfold rdq at *
 refine W.rtA [(7, cC false [(0, 0)] c1), (8, aV (U6 0)), (21, aT)] [(0, 0)] [_, U6 ↑(0 : Nat) = U6 0, ((e:Int) != 0) = true] (ac (c1) (ac (cg (by omega)) (ao (bne_iff_ne.2 (by omega)))))
theorem Pw {nl : Bool} {N m : Nat} {bs : Liz} {r : Rd} (hr : r.In bs N) (hN : N ≤ 1000000) (hm : m < 18446744073709551616) (hnl : nl = true → N = 0) (h0 : r.e = 0) (hs : r.s.length = 0) : Pt 30 [(0, rdq nl N bs (N - r.s.length) 0)] [.at 0 [], .int .u64 m] [(0, rdq nl N bs (N - r.s.length) 2)] (.int .u64 0) := by
 refine pO Try.func30 (by kernel_rfl) ?_
 have hle := hr.le
 have hbl := hr.len
 have c1 := Cv (nl := nl) (w := 1) hr hN (by omega) (by omega) (by omega) hnl
 have e1 : r.tk 1 = ⟨r.s, 2⟩ := by unfold Rd.tk; rw [if_pos h0, if_neg (by omega)]
 have e3 : r.nv 1 = 0 := by unfold Rd.nv; rw [if_neg (fun h => by have := h.2; omega)]
 rw [e1, e3, h0] at c1
 have hb : N - r.s.length ≤ 1000000 := by omega
 generalize N - r.s.length = a at *
 unfold rdq at *
 refine W.rtA [(7, cC false [(0, 0)] c1), (8, aV (U6 0)), (20, aV (I6 2))] [(0, 0)] [_, U6 ↑(0 : Nat) = U6 0, I6 ↑(2 : Nat) = I6 2] (ac (c1) (ac (cg (by omega)) (ao (cg (by omega)))))
theorem PR {nl : Bool} {N m : Nat} {bs : Liz} {r : Rd} (hr : r.In bs N) (hN : N ≤ 1000000) (hm : m < 18446744073709551616) (hnl : nl = true → N = 0) (h0 : r.e = 0) (hs : 0 < r.s.length) (hw : at0 r.s 0 ≠ 253 ∧ at0 r.s 0 ≠ 254 ∧ at0 r.s 0 ≠ 255) :
  Pt 30 [(0, rdq nl N bs (N - r.s.length) 0)] [.at 0 [], .int .u64 m] [(0, rdq nl N bs (N - (r.var m).s.length) (r.var m).e)] (.int .u64 ((r.vn m : Nat) : Int)) := by
 refine pO Try.func30 (by kernel_rfl) ?_
 have hle := hr.le
 have hbl := hr.len
 have hx := Rq hr.bytes 0
 have c1 := Cv (nl := nl) (w := 1) hr hN (by omega) (by omega) (by omega) hnl
 have e1 : r.tk 1 = ⟨r.s.drop 1, 0⟩ := by unfold Rd.tk; rw [if_pos h0, if_pos (by omega)]
 have e3 : r.nv 1 = at0 r.s 0 := by unfold Rd.nv; rw [if_pos ⟨h0, by omega⟩, K7]
 rw [e1, e3, h0] at c1
 have w0 : wdt (at0 r.s 0) = 0 := by unfold wdt; rw [if_neg hw.1, if_neg hw.2.1, if_neg hw.2.2]
 have l0 : lst (at0 r.s 0) = 0 := by unfold lst; rw [if_neg hw.1, if_neg hw.2.1, if_neg hw.2.2]
 have v0 : ET r.s = at0 r.s 0 := by unfold ET; rw [if_pos w0]
 have hve : r.ve m = if m < at0 r.s 0 then 4 else 0 := by unfold Rd.ve; rw [if_pos h0, w0, if_neg (by omega), l0, if_neg (by omega), v0]
 obtain ⟨n1, n2, n3⟩ := hw
 have b1 : ¬ ((at0 r.s 0 : Int) = 253) := by omega
 have b2 : ¬ ((at0 r.s 0 : Int) = 254) := by omega
 have b3 : ¬ ((at0 r.s 0 : Int) = 255) := by omega
 by_cases hlt : m < at0 r.s 0
 ·rw [if_pos hlt] at hve
  obtain ⟨q1, q2⟩ := Rd.Da hve (by omega)
  rw [q1, q2]
  have c2 := Ch (nl := nl) (e := 0) (a := N - (r.s.drop 1).length) (a' := N - r.s.length) (e' := 4) hbl (by omega) (by omega) (by omega) (by omega)
  rw [if_pos rfl] at c2
  dsimp only at *
  have hb : N - r.s.length ≤ 1000000 := by omega
  have hb2 : N - (r.s.drop 1).length ≤ 1000000 := by omega
  clear hve q1 q2 e1 e3 w0 l0 v0 hle
  generalize at0 r.s 0 = x at *
  generalize N - (r.s.drop 1).length = a1 at *
  generalize N - r.s.length = a at *
  unfold rdq at *
  refine W.rtA [(7, cC false [(0, 0)] c1), (11, aF), (13, aF), (15, aF), (20, aV (I6 0)), (29, aT), (33, cC false [(0, 0)] c2)] [(0, 0)] [_, ((x:Int) == 253) = false, ((x:Int) == 254) = false, ((x:Int) == 255) = false, I6 ↑(0 : Nat) = I6 0, decide ((x:Int) > (m:Int)) = true, _] (ac (c1) (ac (dF (by omega)) (ac (dF (by omega)) (ac (dF (by omega)) (ac (cg (by omega)) (ac (dT (by omega)) (ao (c2))))))))
 ·rw [if_neg hlt] at hve
  obtain ⟨q1, q2⟩ := Rd.K5 hve
  rw [w0] at q1
  rw [q1, q2, v0]
  dsimp only at *
  have hb : N - r.s.length ≤ 1000000 := by omega
  have hb2 : N - (r.s.drop 1).length ≤ 1000000 := by omega
  clear hve q1 q2 e1 e3 w0 l0 v0 hle
  rw [Nat.add_zero] at *
  generalize at0 r.s 0 = x at *
  generalize N - (r.s.drop 1).length = a1 at *
  generalize N - r.s.length = a at *
  unfold rdq at *
  refine W.rtA [(7, cC false [(0, 0)] c1), (11, aF), (13, aF), (15, aF), (20, aV (I6 0)), (29, aF)] [(0, 0)] [_, ((x:Int) == 253) = false, ((x:Int) == 254) = false, ((x:Int) == 255) = false, I6 ↑(0 : Nat) = I6 0, decide ((x:Int) > (m:Int)) = false] (ac (c1) (ac (dF (by omega)) (ac (dF (by omega)) (ac (dF (by omega)) (ac (cg (by omega)) (ao (dF (by omega))))))))
set_option maxHeartbeats 4000000 in
theorem Pv {nl : Bool} {N m : Nat} {bs : Liz} {r : Rd} (hr : r.In bs N) (hN : N ≤ 1000000) (hm : m < 18446744073709551616) (hnl : nl = true → N = 0) (h0 : r.e = 0) (hs : 0 < r.s.length) (hw : at0 r.s 0 = 253) :
  Pt 30 [(0, rdq nl N bs (N - r.s.length) 0)] [.at 0 [], .int .u64 m] [(0, rdq nl N bs (N - (r.var m).s.length) (r.var m).e)] (.int .u64 ((r.vn m : Nat) : Int)) := by
 refine pO Try.func30 (by kernel_rfl) ?_
 have hle := hr.le
 have hbl := hr.len
 have c1 := Cv (nl := nl) (w := 1) hr hN (by omega) (by omega) (by omega) hnl
 have e1 : r.tk 1 = ⟨r.s.drop 1, 0⟩ := by unfold Rd.tk; rw [if_pos h0, if_pos (by omega)]
 have e3 : r.nv 1 = 253 := by unfold Rd.nv; rw [if_pos ⟨h0, by omega⟩, K7, hw]
 rw [e1, e3, h0] at c1
 have hr1 : (Rd.mk (r.s.drop 1) 0).In bs N := by rw [← e1]; exact hr.tk 1
 have c2 := Cv (nl := nl) (w := 2) hr1 hN (by show 0 ≤ 100; omega) (by omega) (by omega) hnl
 have w0 : wdt (at0 r.s 0) = 2 := by rw [hw]; rfl
 have l0 : lst (at0 r.s 0) = 253 := by rw [hw]; rfl
 have v0 : ET r.s = lv (r.s.drop 1) 2 := by unfold ET; rw [w0, if_neg (by omega)]
 have hl1 : (r.s.drop 1).length = r.s.length - 1 := List.length_drop
 by_cases hsh : r.s.length < 1 + 2
 ·have hve : r.ve m = 2 := by unfold Rd.ve; rw [if_pos h0, w0, if_pos hsh]
  obtain ⟨q1, q2⟩ := Rd.Da hve (by omega)
  have t1 : (Rd.mk (r.s.drop 1) 0).tk 2 = ⟨r.s.drop 1, 2⟩ := by unfold Rd.tk; rw [if_pos rfl, if_neg (by show ¬ _ ≤ (r.s.drop 1).length; omega)]
  have t2 : (Rd.mk (r.s.drop 1) 0).nv 2 = 0 := by unfold Rd.nv; rw [if_neg (fun h => by have := h.2; simp only at this; omega)]
  rw [t1, t2] at c2
  rw [q1, q2]
  dsimp only at *
  have hb : N - r.s.length ≤ 1000000 := by omega
  have hb2 : N - (r.s.drop 1).length ≤ 1000000 := by omega
  clear hve q1 q2 e1 e3 w0 l0 v0 hle t1 t2 hl1
  generalize N - (r.s.drop 1).length = a1 at *
  generalize N - r.s.length = a at *
  unfold rdq at *
  refine W.rtA [(7, cC false [(0, 0)] c1), (8, aV (U6 253)), (14, cC false [(0, 0)] c2), (15, aV (U6 0)), (20, aV (I6 2))] [(0, 0)] [_, U6 ↑(253 : Nat) = U6 253, _, U6 ↑(0 : Nat) = U6 0, I6 ↑(2 : Nat) = I6 2] (ac (c1) (ac (cg (by omega)) (ac (c2) (ac (cg (by omega)) (ao (cg (by omega)))))))
 ·have t1 : (Rd.mk (r.s.drop 1) 0).tk 2 = ⟨r.s.drop (1 + 2), 0⟩ := by unfold Rd.tk; rw [if_pos rfl, if_pos (by show _ ≤ (r.s.drop 1).length; omega), List.drop_drop]
  have t2 : (Rd.mk (r.s.drop 1) 0).nv 2 = lv (r.s.drop 1) 2 := by unfold Rd.nv; rw [if_pos ⟨rfl, by show _ ≤ (r.s.drop 1).length; omega⟩]
  rw [t1, t2] at c2
  have hvl := Ll hr.bytes
  rw [v0] at hvl
  have hve : r.ve m = if lv (r.s.drop 1) 2 < 253 then 3 else if m < lv (r.s.drop 1) 2 then 4 else 0 := by unfold Rd.ve; rw [if_pos h0, w0, if_neg hsh, l0, v0]
  have hb : N - r.s.length ≤ 1000000 := by omega
  have hb2 : N - (r.s.drop 1).length ≤ 1000000 := by omega
  have hb3 : N - (r.s.drop (1 + 2)).length ≤ 1000000 := by omega
  by_cases hlt : lv (r.s.drop 1) 2 < 253
  ·rw [if_pos hlt] at hve
   obtain ⟨q1, q2⟩ := Rd.Da hve (by omega)
   rw [q1, q2]
   have c3 := Ch (nl := nl) (e := 0) (a := N - (r.s.drop (1 + 2)).length) (a' := N - r.s.length) (e' := 3) hbl (by omega) (by omega) (by omega) (by omega)
   rw [if_pos rfl] at c3
   dsimp only at *
   clear hve q1 q2 e1 e3 w0 l0 v0 hle t1 t2 hl1
   generalize lv (r.s.drop 1) 2 = v at *
   generalize N - (r.s.drop (1 + 2)).length = a2 at *
   generalize N - (r.s.drop 1).length = a1 at *
   generalize N - r.s.length = a at *
   unfold rdq at *
   refine W.rtA [(7, cC false [(0, 0)] c1), (8, aV (U6 253)), (14, cC false [(0, 0)] c2), (20, aV (I6 0)), (25, aT), (29, cC false [(0, 0)] c3)] [(0, 0)] [_, U6 ↑(253 : Nat) = U6 253, _, I6 ↑(0 : Nat) = I6 0, decide ((v:Int) < 253) = true, _] (ac (c1) (ac (cg (by omega)) (ac (c2) (ac (cg (by omega)) (ac (dT (by omega)) (ao (c3)))))))
  ·rw [if_neg hlt] at hve
   by_cases hgt : m < lv (r.s.drop 1) 2
   ·rw [if_pos hgt] at hve
    obtain ⟨q1, q2⟩ := Rd.Da hve (by omega)
    rw [q1, q2]
    have c3 := Ch (nl := nl) (e := 0) (a := N - (r.s.drop (1 + 2)).length) (a' := N - r.s.length) (e' := 4) hbl (by omega) (by omega) (by omega) (by omega)
    rw [if_pos rfl] at c3
    dsimp only at *
    clear hve q1 q2 e1 e3 w0 l0 v0 hle t1 t2 hl1
    generalize lv (r.s.drop 1) 2 = v at *
    generalize N - (r.s.drop (1 + 2)).length = a2 at *
    generalize N - (r.s.drop 1).length = a1 at *
    generalize N - r.s.length = a at *
    unfold rdq at *
    refine W.rtA [(7, cC false [(0, 0)] c1), (8, aV (U6 253)), (14, cC false [(0, 0)] c2), (20, aV (I6 0)), (25, aF), (29, aT), (33, cC false [(0, 0)] c3)] [(0, 0)] [_, U6 ↑(253 : Nat) = U6 253, _, I6 ↑(0 : Nat) = I6 0, decide ((v:Int) < 253) = false, decide ((v:Int) > (m:Int)) = true, _] (ac (c1) (ac (cg (by omega)) (ac (c2) (ac (cg (by omega)) (ac (dF (by omega)) (ac (dT (by omega)) (ao (c3))))))))
   ·rw [if_neg hgt] at hve
    obtain ⟨q1, q2⟩ := Rd.K5 hve
    rw [w0] at q1
    rw [q1, q2, v0]
    dsimp only at *
    clear hve q1 q2 e1 e3 w0 l0 v0 hle t1 t2 hl1
    generalize lv (r.s.drop 1) 2 = v at *
    generalize N - (r.s.drop (1 + 2)).length = a2 at *
    generalize N - (r.s.drop 1).length = a1 at *
    generalize N - r.s.length = a at *
    unfold rdq at *
    refine W.rtA [(7, cC false [(0, 0)] c1), (8, aV (U6 253)), (14, cC false [(0, 0)] c2), (20, aV (I6 0)), (25, aF), (29, aF)] [(0, 0)] [_, U6 ↑(253 : Nat) = U6 253, _, I6 ↑(0 : Nat) = I6 0, decide ((v:Int) < 253) = false, decide ((v:Int) > (m:Int)) = false] (ac (c1) (ac (cg (by omega)) (ac (c2) (ac (cg (by omega)) (ac (dF (by omega)) (ao (dF (by omega))))))))
set_option maxHeartbeats 4000000 in
theorem PZ {nl : Bool} {N m : Nat} {bs : Liz} {r : Rd} (hr : r.In bs N) (hN : N ≤ 1000000) (hm : m < 18446744073709551616) (hnl : nl = true → N = 0) (h0 : r.e = 0) (hs : 0 < r.s.length) (hw : at0 r.s 0 = 254) :
  Pt 30 [(0, rdq nl N bs (N - r.s.length) 0)] [.at 0 [], .int .u64 m] [(0, rdq nl N bs (N - (r.var m).s.length) (r.var m).e)] (.int .u64 ((r.vn m : Nat) : Int)) := by
 refine pO Try.func30 (by kernel_rfl) ?_
 have hle := hr.le
 have hbl := hr.len
 have c1 := Cv (nl := nl) (w := 1) hr hN (by omega) (by omega) (by omega) hnl
 have e1 : r.tk 1 = ⟨r.s.drop 1, 0⟩ := by unfold Rd.tk; rw [if_pos h0, if_pos (by omega)]
 have e3 : r.nv 1 = 254 := by unfold Rd.nv; rw [if_pos ⟨h0, by omega⟩, K7, hw]
 rw [e1, e3, h0] at c1
 have hr1 : (Rd.mk (r.s.drop 1) 0).In bs N := by rw [← e1]; exact hr.tk 1
 have c2 := Cv (nl := nl) (w := 4) hr1 hN (by show 0 ≤ 100; omega) (by omega) (by omega) hnl
 have w0 : wdt (at0 r.s 0) = 4 := by rw [hw]; rfl
 have l0 : lst (at0 r.s 0) = 65536 := by rw [hw]; rfl
 have v0 : ET r.s = lv (r.s.drop 1) 4 := by unfold ET; rw [w0, if_neg (by omega)]
 have hl1 : (r.s.drop 1).length = r.s.length - 1 := List.length_drop
 by_cases hsh : r.s.length < 1 + 4
 ·have hve : r.ve m = 2 := by unfold Rd.ve; rw [if_pos h0, w0, if_pos hsh]
  obtain ⟨q1, q2⟩ := Rd.Da hve (by omega)
  have t1 : (Rd.mk (r.s.drop 1) 0).tk 4 = ⟨r.s.drop 1, 2⟩ := by unfold Rd.tk; rw [if_pos rfl, if_neg (by show ¬ _ ≤ (r.s.drop 1).length; omega)]
  have t2 : (Rd.mk (r.s.drop 1) 0).nv 4 = 0 := by unfold Rd.nv; rw [if_neg (fun h => by have := h.2; simp only at this; omega)]
  rw [t1, t2] at c2
  rw [q1, q2]
  dsimp only at *
  have hb : N - r.s.length ≤ 1000000 := by omega
  have hb2 : N - (r.s.drop 1).length ≤ 1000000 := by omega
  clear hve q1 q2 e1 e3 w0 l0 v0 hle t1 t2 hl1
  generalize N - (r.s.drop 1).length = a1 at *
  generalize N - r.s.length = a at *
  unfold rdq at *
  refine W.rtA [(7, cC false [(0, 0)] c1), (8, aV (U6 254)), (16, cC false [(0, 0)] c2), (17, aV (U6 0)), (22, aV (I6 2))] [(0, 0)] [_, U6 ↑(254 : Nat) = U6 254, _, U6 ↑(0 : Nat) = U6 0, I6 ↑(2 : Nat) = I6 2] (ac (c1) (ac (cg (by omega)) (ac (c2) (ac (cg (by omega)) (ao (cg (by omega)))))))
 ·have t1 : (Rd.mk (r.s.drop 1) 0).tk 4 = ⟨r.s.drop (1 + 4), 0⟩ := by unfold Rd.tk; rw [if_pos rfl, if_pos (by show _ ≤ (r.s.drop 1).length; omega), List.drop_drop]
  have t2 : (Rd.mk (r.s.drop 1) 0).nv 4 = lv (r.s.drop 1) 4 := by unfold Rd.nv; rw [if_pos ⟨rfl, by show _ ≤ (r.s.drop 1).length; omega⟩]
  rw [t1, t2] at c2
  have hvl := Ll hr.bytes
  rw [v0] at hvl
  have hve : r.ve m = if lv (r.s.drop 1) 4 < 65536 then 3 else if m < lv (r.s.drop 1) 4 then 4 else 0 := by unfold Rd.ve; rw [if_pos h0, w0, if_neg hsh, l0, v0]
  have hb : N - r.s.length ≤ 1000000 := by omega
  have hb2 : N - (r.s.drop 1).length ≤ 1000000 := by omega
  have hb3 : N - (r.s.drop (1 + 4)).length ≤ 1000000 := by omega
  by_cases hlt : lv (r.s.drop 1) 4 < 65536
  ·rw [if_pos hlt] at hve
   obtain ⟨q1, q2⟩ := Rd.Da hve (by omega)
   rw [q1, q2]
   have c3 := Ch (nl := nl) (e := 0) (a := N - (r.s.drop (1 + 4)).length) (a' := N - r.s.length) (e' := 3) hbl (by omega) (by omega) (by omega) (by omega)
   rw [if_pos rfl] at c3
   dsimp only at *
   clear hve q1 q2 e1 e3 w0 l0 v0 hle t1 t2 hl1
   generalize lv (r.s.drop 1) 4 = v at *
   generalize N - (r.s.drop (1 + 4)).length = a2 at *
   generalize N - (r.s.drop 1).length = a1 at *
   generalize N - r.s.length = a at *
   unfold rdq at *
   refine W.rtA [(7, cC false [(0, 0)] c1), (8, aV (U6 254)), (16, cC false [(0, 0)] c2), (22, aV (I6 0)), (27, aT), (31, cC false [(0, 0)] c3)] [(0, 0)] [_, U6 ↑(254 : Nat) = U6 254, _, I6 ↑(0 : Nat) = I6 0, decide ((v:Int) < 65536) = true, _] (ac (c1) (ac (cg (by omega)) (ac (c2) (ac (cg (by omega)) (ac (dT (by omega)) (ao (c3)))))))
  ·rw [if_neg hlt] at hve
   by_cases hgt : m < lv (r.s.drop 1) 4
   ·rw [if_pos hgt] at hve
    obtain ⟨q1, q2⟩ := Rd.Da hve (by omega)
    rw [q1, q2]
    have c3 := Ch (nl := nl) (e := 0) (a := N - (r.s.drop (1 + 4)).length) (a' := N - r.s.length) (e' := 4) hbl (by omega) (by omega) (by omega) (by omega)
    rw [if_pos rfl] at c3
    dsimp only at *
    clear hve q1 q2 e1 e3 w0 l0 v0 hle t1 t2 hl1
    generalize lv (r.s.drop 1) 4 = v at *
    generalize N - (r.s.drop (1 + 4)).length = a2 at *
    generalize N - (r.s.drop 1).length = a1 at *
    generalize N - r.s.length = a at *
    unfold rdq at *
    refine W.rtA [(7, cC false [(0, 0)] c1), (8, aV (U6 254)), (16, cC false [(0, 0)] c2), (22, aV (I6 0)), (27, aF), (31, aT), (35, cC false [(0, 0)] c3)] [(0, 0)] [_, U6 ↑(254 : Nat) = U6 254, _, I6 ↑(0 : Nat) = I6 0, decide ((v:Int) < 65536) = false, decide ((v:Int) > (m:Int)) = true, _] (ac (c1) (ac (cg (by omega)) (ac (c2) (ac (cg (by omega)) (ac (dF (by omega)) (ac (dT (by omega)) (ao (c3))))))))
   ·rw [if_neg hgt] at hve
    obtain ⟨q1, q2⟩ := Rd.K5 hve
    rw [w0] at q1
    rw [q1, q2, v0]
    dsimp only at *
    clear hve q1 q2 e1 e3 w0 l0 v0 hle t1 t2 hl1
    generalize lv (r.s.drop 1) 4 = v at *
    generalize N - (r.s.drop (1 + 4)).length = a2 at *
    generalize N - (r.s.drop 1).length = a1 at *
    generalize N - r.s.length = a at *
    unfold rdq at *
    refine W.rtA [(7, cC false [(0, 0)] c1), (8, aV (U6 254)), (16, cC false [(0, 0)] c2), (22, aV (I6 0)), (27, aF), (31, aF)] [(0, 0)] [_, U6 ↑(254 : Nat) = U6 254, _, I6 ↑(0 : Nat) = I6 0, decide ((v:Int) < 65536) = false, decide ((v:Int) > (m:Int)) = false] (ac (c1) (ac (cg (by omega)) (ac (c2) (ac (cg (by omega)) (ac (dF (by omega)) (ao (dF (by omega))))))))
set_option maxHeartbeats 4000000 in
theorem PU {nl : Bool} {N m : Nat} {bs : Liz} {r : Rd} (hr : r.In bs N) (hN : N ≤ 1000000) (hm : m < 18446744073709551616) (hnl : nl = true → N = 0) (h0 : r.e = 0) (hs : 0 < r.s.length) (hw : at0 r.s 0 = 255) :
  Pt 30 [(0, rdq nl N bs (N - r.s.length) 0)] [.at 0 [], .int .u64 m] [(0, rdq nl N bs (N - (r.var m).s.length) (r.var m).e)] (.int .u64 ((r.vn m : Nat) : Int)) := by
 refine pO Try.func30 (by kernel_rfl) ?_
 have hle := hr.le
 have hbl := hr.len
 have c1 := Cv (nl := nl) (w := 1) hr hN (by omega) (by omega) (by omega) hnl
 have e1 : r.tk 1 = ⟨r.s.drop 1, 0⟩ := by unfold Rd.tk; rw [if_pos h0, if_pos (by omega)]
 have e3 : r.nv 1 = 255 := by unfold Rd.nv; rw [if_pos ⟨h0, by omega⟩, K7, hw]
 rw [e1, e3, h0] at c1
 have hr1 : (Rd.mk (r.s.drop 1) 0).In bs N := by rw [← e1]; exact hr.tk 1
 have c2 := Cv (nl := nl) (w := 8) hr1 hN (by show 0 ≤ 100; omega) (by omega) (by omega) hnl
 have w0 : wdt (at0 r.s 0) = 8 := by rw [hw]; rfl
 have l0 : lst (at0 r.s 0) = 4294967296 := by rw [hw]; rfl
 have v0 : ET r.s = lv (r.s.drop 1) 8 := by unfold ET; rw [w0, if_neg (by omega)]
 have hl1 : (r.s.drop 1).length = r.s.length - 1 := List.length_drop
 by_cases hsh : r.s.length < 1 + 8
 ·have hve : r.ve m = 2 := by unfold Rd.ve; rw [if_pos h0, w0, if_pos hsh]
  obtain ⟨q1, q2⟩ := Rd.Da hve (by omega)
  have t1 : (Rd.mk (r.s.drop 1) 0).tk 8 = ⟨r.s.drop 1, 2⟩ := by unfold Rd.tk; rw [if_pos rfl, if_neg (by show ¬ _ ≤ (r.s.drop 1).length; omega)]
  have t2 : (Rd.mk (r.s.drop 1) 0).nv 8 = 0 := by unfold Rd.nv; rw [if_neg (fun h => by have := h.2; simp only at this; omega)]
  rw [t1, t2] at c2
  rw [q1, q2]
  dsimp only at *
  have hb : N - r.s.length ≤ 1000000 := by omega
  have hb2 : N - (r.s.drop 1).length ≤ 1000000 := by omega
  clear hve q1 q2 e1 e3 w0 l0 v0 hle t1 t2 hl1
  generalize N - (r.s.drop 1).length = a1 at *
  generalize N - r.s.length = a at *
  unfold rdq at *
  refine W.rtA [(7, cC false [(0, 0)] c1), (8, aV (U6 255)), (18, cC false [(0, 0)] c2), (19, aV (U6 0)), (24, aV (I6 2))] [(0, 0)] [_, U6 ↑(255 : Nat) = U6 255, _, U6 ↑(0 : Nat) = U6 0, I6 ↑(2 : Nat) = I6 2] (ac (c1) (ac (cg (by omega)) (ac (c2) (ac (cg (by omega)) (ao (cg (by omega)))))))
 ·have t1 : (Rd.mk (r.s.drop 1) 0).tk 8 = ⟨r.s.drop (1 + 8), 0⟩ := by unfold Rd.tk; rw [if_pos rfl, if_pos (by show _ ≤ (r.s.drop 1).length; omega), List.drop_drop]
  have t2 : (Rd.mk (r.s.drop 1) 0).nv 8 = lv (r.s.drop 1) 8 := by unfold Rd.nv; rw [if_pos ⟨rfl, by show _ ≤ (r.s.drop 1).length; omega⟩]
  rw [t1, t2] at c2
  have hvl := Ll hr.bytes
  rw [v0] at hvl
  have hve : r.ve m = if lv (r.s.drop 1) 8 < 4294967296 then 3 else if m < lv (r.s.drop 1) 8 then 4 else 0 := by unfold Rd.ve; rw [if_pos h0, w0, if_neg hsh, l0, v0]
  have hb : N - r.s.length ≤ 1000000 := by omega
  have hb2 : N - (r.s.drop 1).length ≤ 1000000 := by omega
  have hb3 : N - (r.s.drop (1 + 8)).length ≤ 1000000 := by omega
  by_cases hlt : lv (r.s.drop 1) 8 < 4294967296
  ·rw [if_pos hlt] at hve
   obtain ⟨q1, q2⟩ := Rd.Da hve (by omega)
   rw [q1, q2]
   have c3 := Ch (nl := nl) (e := 0) (a := N - (r.s.drop (1 + 8)).length) (a' := N - r.s.length) (e' := 3) hbl (by omega) (by omega) (by omega) (by omega)
   rw [if_pos rfl] at c3
   dsimp only at *
   clear hve q1 q2 e1 e3 w0 l0 v0 hle t1 t2 hl1
   generalize lv (r.s.drop 1) 8 = v at *
   generalize N - (r.s.drop (1 + 8)).length = a2 at *
   generalize N - (r.s.drop 1).length = a1 at *
   generalize N - r.s.length = a at *
   unfold rdq at *
   refine W.rtA [(7, cC false [(0, 0)] c1), (8, aV (U6 255)), (18, cC false [(0, 0)] c2), (24, aV (I6 0)), (29, aT), (33, cC false [(0, 0)] c3)] [(0, 0)] [_, U6 ↑(255 : Nat) = U6 255, _, I6 ↑(0 : Nat) = I6 0, decide ((v:Int) < 4294967296) = true, _] (ac (c1) (ac (cg (by omega)) (ac (c2) (ac (cg (by omega)) (ac (dT (by omega)) (ao (c3)))))))
  ·rw [if_neg hlt] at hve
   by_cases hgt : m < lv (r.s.drop 1) 8
   ·rw [if_pos hgt] at hve
    obtain ⟨q1, q2⟩ := Rd.Da hve (by omega)
    rw [q1, q2]
    have c3 := Ch (nl := nl) (e := 0) (a := N - (r.s.drop (1 + 8)).length) (a' := N - r.s.length) (e' := 4) hbl (by omega) (by omega) (by omega) (by omega)
    rw [if_pos rfl] at c3
    dsimp only at *
    clear hve q1 q2 e1 e3 w0 l0 v0 hle t1 t2 hl1
    generalize lv (r.s.drop 1) 8 = v at *
    generalize N - (r.s.drop (1 + 8)).length = a2 at *
    generalize N - (r.s.drop 1).length = a1 at *
    generalize N - r.s.length = a at *
    unfold rdq at *
    refine W.rtA [(7, cC false [(0, 0)] c1), (8, aV (U6 255)), (18, cC false [(0, 0)] c2), (24, aV (I6 0)), (29, aF), (33, aT), (37, cC false [(0, 0)] c3)] [(0, 0)] [_, U6 ↑(255 : Nat) = U6 255, _, I6 ↑(0 : Nat) = I6 0, decide ((v:Int) < 4294967296) = false, decide ((v:Int) > (m:Int)) = true, _] (ac (c1) (ac (cg (by omega)) (ac (c2) (ac (cg (by omega)) (ac (dF (by omega)) (ac (dT (by omega)) (ao (c3))))))))
   ·rw [if_neg hgt] at hve
    obtain ⟨q1, q2⟩ := Rd.K5 hve
    rw [w0] at q1
    rw [q1, q2, v0]
    dsimp only at *
    clear hve q1 q2 e1 e3 w0 l0 v0 hle t1 t2 hl1
    generalize lv (r.s.drop 1) 8 = v at *
    generalize N - (r.s.drop (1 + 8)).length = a2 at *
    generalize N - (r.s.drop 1).length = a1 at *
    generalize N - r.s.length = a at *
    unfold rdq at *
    refine W.rtA [(7, cC false [(0, 0)] c1), (8, aV (U6 255)), (18, cC false [(0, 0)] c2), (24, aV (I6 0)), (29, aF), (33, aF)] [(0, 0)] [_, U6 ↑(255 : Nat) = U6 255, _, I6 ↑(0 : Nat) = I6 0, decide ((v:Int) < 4294967296) = false, decide ((v:Int) > (m:Int)) = false] (ac (c1) (ac (cg (by omega)) (ac (c2) (ac (cg (by omega)) (ac (dF (by omega)) (ao (dF (by omega))))))))
theorem QR {nl : Bool} {N m : Nat} {bs : Liz} {r : Rd} (hr : r.In bs N) (hN : N ≤ 1000000) (he : r.e ≤ 100) (hm : m < 18446744073709551616) (hnl : nl = true → N = 0) :
  Pt 30 [(0, rdq nl N bs (N - r.s.length) r.e)] [.at 0 [], .int .u64 m] [(0, rdq nl N bs (N - (r.var m).s.length) (r.var m).e)] (.int .u64 ((r.vn m : Nat) : Int)) := by
 by_cases h0 : r.e = 0
 ·rw [h0]
  by_cases hs : r.s.length = 0
  ·have a0 : at0 r.s 0 = 0 := by rw [List.eq_nil_of_length_eq_zero hs]; rfl
   have hve : r.ve m = 2 := by unfold Rd.ve; rw [if_pos h0, a0]; exact if_pos (by show r.s.length < 1 + 0; omega)
   obtain ⟨q1, q2⟩ := Rd.Da hve (by omega)
   rw [q1, q2]
   exact Pw hr hN hm hnl h0 hs
  ·by_cases h2 : at0 r.s 0 = 253
   ·exact Pv hr hN hm hnl h0 (by omega) h2
   ·by_cases h4 : at0 r.s 0 = 254
    ·exact PZ hr hN hm hnl h0 (by omega) h4
    ·by_cases h8 : at0 r.s 0 = 255
     ·exact PU hr hN hm hnl h0 (by omega) h8
     ·exact PR hr hN hm hnl h0 (by omega) ⟨h2, h4, h8⟩
 ·have hve : r.ve m = r.e := by unfold Rd.ve; rw [if_neg h0]
  obtain ⟨q1, q2⟩ := Rd.Da hve h0
  rw [q1, q2]
  exact Po hr hN he hm hnl h0
end Go.Proofs
namespace Go.Proofs
open Go Go.Pe Go.Pm
set_option maxRecDepth 100000
set_option linter.unusedVariables false
theorem Rd.In.size {r : Rd} {bs : List Int} {N : Nat} (h : r.In bs N) : (strOf r.s).size = r.s.length := Gx _
end Go.Proofs
namespace Go.Pm
def vb (n : Nat) : List Int := if n < 253 then le n 1 else if n < 65536 then 253 :: le n 2 else if n < 4294967296 then 254 :: le n 4 else 255 :: le n 8
end Go.Pm
namespace Go.Proofs
open Go Go.Pe Go.Pm
set_option maxRecDepth 100000
set_option linter.unusedVariables false
theorem PE {a b : List Int} (ha : Bytes a) (hb : Bytes b) (h : strOf a = strOf b) : a = b := by
 rw [← FW ha, ← FW hb, h]
end Go.Proofs
namespace Go.Proofs
open Go Go.Pe Go.Pm
set_option maxRecDepth 100000
set_option linter.unusedVariables false
attribute [local irreducible] lv
abbrev ish : Sh := .vec 1 (.int .u8)
abbrev It := Bool × List Int
def itB (x : It) : PV := .vec x.1 (.iarr .u8 x.2.length x.2)
def ksI (U : List It) : List PV := U.map fun x => .str (strOf x.2)
def mpR (k : Nat) (K : List PV) (V : List Int) : Row := ⟨.tup [.tup [.parr 1 k .str K, .iarr .i64 k V]], false⟩
def dU0 (nl : Bool) (n i : Nat) (M : List PV) : DS := ⟨[(3, .fn 1000000 0), (4, .vec true (.parr 1 0 ish [])), (8, .vec nl (.parr 1 n ish M)), (9, .int .i64 n), (10, .int .i64 i)], [(0, mpR 0 [] [])]⟩
def dU (nl : Bool) (n i k : Nat) (M K : List PV) (V : List Int) (U : List PV) : DS := ⟨[(3, .fn 1000000 0), (4, .ref 1 [] 1 0 k), (8, .vec nl (.parr 1 n ish M)), (9, .int .i64 n), (10, .int .i64 i)], [(0, mpR k K V), (1, ⟨.parr 1 k ish U, false⟩)]⟩
theorem W_ul0 {nl b : Bool} {n m : Nat} {M : Lpz} {l : Liz} {hout : Lrz} {res : PV} (hi : 0 < n) (hn : n ≤ 1000000) (g : M.getD 0 .undef = .vec b (.iarr .u8 m l)) (hl : l.length = m)
  (hw : Wt Try.f19 [] hout res (Aa Try.f19 0) (dU nl n 1 1 M [.str (strOf l)] [1] [.vec b (.iarr .u8 m l)])) :
  Wt Try.f19 [] hout res (Aa Try.f19 0) (dU0 nl n 0 M) := by
 have h1 : Cy [] (.str (strOf l)) = false := rfl
 have h2 : Az [] [] (.str (strOf l)) = 0 := rfl
 have h3 : Az ([] ++ [.str (strOf l)]) ([] ++ [(1 : Int)]) (.str (strOf l)) = 1 := by simp [Az, DK]
 refine W.sgA 0 [(0, aT), (2, aE g), (7, aV (I6 0)), (8, aV (I6 1)), (14, aT), (20, aV (I6 1))] [(0, 0), (352, 1)] (dU nl n 1 1 M [.str (strOf l)] [1] [.vec b (.iarr .u8 m l)]) [decide ((↑(0 : Nat) : Int) < (n:Int)) = true, 0 ≤ (↑(0 : Nat) : Int), (↑(0 : Nat) : Int) < (n:Int), _, 0 < n, I6 (Az [] [] (PV.str (strOf l))) = I6 0, I6 (IntKind.wrap .i64 ((0 : Int) + (1 : Int))) = I6 1, rr (false), (Az [PV.str (strOf l)] [1] (PV.str (strOf l)) == (1 : Int)) = true, 1 ≤ 1, 0 < 1, 24 ≤ 140737488355328, 1 ≤ 9223372036854775807, I6 (IntKind.wrap .i64 ((↑(0 : Nat) : Int) + 1)) = I6 1] (ac (dT (by omega)) (ob2 (by omega) (ac (ex g) (ac (by omega) (ac (cg (h2)) (ac (wj (by omega)) (ac rfl (ac (decide_eq_true (by assumption)) (ob4 (by omega) (ao (wj (by omega)))))))))))) ?_
 exact hw
theorem W_uN {nl b : Bool} {n m i k : Nat} {M K U : Lpz} {V l : Liz} {hout : Lrz} {res : PV} (hi : i < n) (hn : n ≤ 1000000) (hk : k ≤ i) (hU : U.length = k) (g : M.getD i .undef = .vec b (.iarr .u8 m l)) (hl : l.length = m)
  (h1 : Cy K (.str (strOf l)) = false) (h2 : Az K V (.str (strOf l)) = 0) (h3 : Az (K ++ [.str (strOf l)]) (V ++ [(1 : Int)]) (.str (strOf l)) = 1)
  (hw : Wt Try.f19 [] hout res (Aa Try.f19 0) (dU nl n (i + 1) (k + 1) M (K ++ [.str (strOf l)]) (V ++ [1]) (U ++ [.vec b (.iarr .u8 m l)]))) :
  Wt Try.f19 [] hout res (Aa Try.f19 0) (dU nl n i k M K V U) := by
 refine W.sgA 0 [(0, aT), (2, aE g), (7, aV (I6 0)), (8, aV (I6 1)), (13, aV (I6 1)), (18, Ans.ups [(1, none), (352, some (Row.mk (PV.parr 1 (k + 1) (Sh.vec 1 (Sh.int .u8)) (U ++ [PV.vec b (B8 m l)])) false))]), (20, aV (I6 ↑(i + 1)))] [(0, 0), (352, 1)] (dU nl n (i + 1) (k + 1) M (K ++ [.str (strOf l)]) (V ++ [1]) (U ++ [.vec b (.iarr .u8 m l)])) [decide ((i:Int) < (n:Int)) = true, 0 ≤ (i:Int), (i:Int) < (n:Int), _, i < n, I6 (Az K V (PV.str (strOf l))) = I6 0, I6 (IntKind.wrap .i64 ((0 : Int) + (1 : Int))) = I6 1, Cy K (PV.str (strOf l)) = false, I6 (Az (K ++ [PV.str (strOf l)]) (V ++ [1]) (PV.str (strOf l))) = I6 1, ([(1, none), (352, some (Row.mk (PV.parr 1 (k + 1) (Sh.vec 1 (Sh.int .u8)) (List.take k U ++ [PV.vec b (B8 m l)])) false))] : List (Nat × Option Row)) = [(1, none), (352, some (Row.mk (PV.parr 1 (k + 1) (Sh.vec 1 (Sh.int .u8)) (U ++ [PV.vec b (B8 m l)])) false))], 1 ≤ 1, 0 + k = k, (k + 1) * 24 ≤ 140737488355328, k + 1 ≤ 9223372036854775807, I6 (IntKind.wrap .i64 ((i:Int) + 1)) = I6 ↑(i + 1)] (ac (dT (by omega)) (ob2 (by omega) (ac (ex g) (ac (by omega) (ac (cg (h2)) (ac (wj (by omega)) (ac (by omega) (ac (cg (h3)) (ac (by rw [List.take_of_length_le (show List.length U ≤ k by omega)]) (ac (by omega) (ac (by omega) (ob2 (by omega) (ao (wj (by omega))))))))))))))) ?_
 exact hw
theorem W_uO {nl b : Bool} {n m i k : Nat} {M K U : Lpz} {V l : Liz} {v : Int} {hout : Lrz} {res : PV} (hi : i < n) (hn : n ≤ 1000000) (g : M.getD i .undef = .vec b (.iarr .u8 m l)) (hl : l.length = m) (hv : 1 ≤ v) (hv2 : v ≤ 1000000)
  (h1 : Cy K (.str (strOf l)) = true) (h2 : Az K V (.str (strOf l)) = v) (h3 : Az K (CV K V (.str (strOf l)) (v + 1)) (.str (strOf l)) = v + 1)
  (hw : Wt Try.f19 [] hout res (Aa Try.f19 0) (dU nl n (i + 1) k M K (CV K V (.str (strOf l)) (v + 1)) U)) :
  Wt Try.f19 [] hout res (Aa Try.f19 0) (dU nl n i k M K V U) := by
 refine W.sgA 0 [(0, aT), (2, aE g), (7, aV (I6 v)), (8, aV (I6 (v + (1 : Int)))), (9, Ans.emp), (13, aV (I6 (v + (1 : Int)))), (14, aF), (15, aV (I6 ↑(i + 1)))] [(0, 0), (1, 1)] (dU nl n (i + 1) k M K (CV K V (.str (strOf l)) (v + 1)) U) [decide ((i:Int) < (n:Int)) = true, 0 ≤ (i:Int), (i:Int) < (n:Int), _, i < n, I6 (Az K V (PV.str (strOf l))) = I6 v, I6 (IntKind.wrap .i64 (v + (1 : Int))) = I6 (v + (1 : Int)), Cy K (PV.str (strOf l)) = true, I6 (Az K (CV K V (PV.str (strOf l)) (v + (1 : Int))) (PV.str (strOf l))) = I6 (v + (1 : Int)), (v + (1 : Int) == (1 : Int)) = false, I6 (IntKind.wrap .i64 ((i:Int) + 1)) = I6 ↑(i + 1)] (ac (dT (by omega)) (ob2 (by omega) (ac (ex g) (ac (by omega) (ac (cg (h2)) (ac (wj (by omega)) (ac (by omega) (ac (cg (h3)) (ac (dF (by omega)) (ao (wj (by omega)))))))))))) ?_
 exact hw
theorem W_uE {nl : Bool} {n k : Nat} {M K U : Lpz} {V : Liz} : Wt Try.f19 [] [(1, ⟨.parr 1 k ish U, false⟩)] (.ref 1 [] 1 0 k) (Aa Try.f19 0) (dU nl n n k M K V U) := by
 refine W.rtA [(0, aF)] (rI 1) [decide ((n:Int) < (n:Int)) = false] (ao (dF (by omega)))
theorem W_uIn {nl : Bool} {n : Nat} {M : Lpz} {hout : Lrz} {res : PV} (hw : Wt Try.f19 [] hout res (Aa Try.f19 0) (dU0 nl n 0 M)) : Pt 19 [] [.vec nl (.parr 1 n ish M)] hout res := by
 refine pO Try.func19 (by kernel_rfl) ?_
 refine W.sgA 0 [] [(80, 0)] (dU0 nl n 0 M) [] trivial ?_
 exact hw
theorem NS {nl : Bool} : Pt 19 [] [.vec nl (.parr 1 0 ish [])] [] (.vec true (.parr 1 0 ish [])) := by
 refine W_uIn ?_
 refine W.rtA [] [] [] trivial
def dN0 (nl : Bool) (n i t : Nat) (k0 k1 : Int) (M : List PV) (o : List Int) : DS := ⟨[(2, .int .u64 t), (3, .at 0 []), (7, .ref 1 [] 1 0 i), (13, .vec nl (.parr 1 n ish M)), (14, .int .i64 n), (15, .int .i64 i)], [(0, ⟨.iarr .u64 2 [k0, k1], false⟩), (1, Ac i o)]⟩
theorem W_nIn {nl : Bool} {n t : Nat} {k0 k1 : Int} {M : Lpz} {hout : Lrz} {res : PV} (hn : n ≤ 1000000) (hw : Wt Try.f23 [] hout res (Aa Try.f23 0) (dN0 nl n 0 t k0 k1 M [])) : Pt 23 [] [.iarr .u64 2 [k0, k1], .vec nl (.parr 1 n ish M), .int .u64 t] hout res := by
 refine pO Try.func23 (by kernel_rfl) ?_
 refine W.sgA 0 [] [(64, 0), (128, 1)] (dN0 nl n 0 t k0 k1 M []) [(0 : Int) ≤ 0, 0 ≤ (n:Int), (n:Int) ≤ 9223372036854775807, (↑(8 : Nat) : Int) * (n:Int) ≤ 140737488355328] (ob3 (by omega) (ao (by omega))) ?_
 exact hw
theorem W_nS {nl b : Bool} {n t i m s x : Nat} {k0 k1 : Int} {M : Lpz} {l o : Liz} {hout : Lrz} {res : PV} (hi : i < n) (hn : n ≤ 1000000) (ho : o.length = i) (g : M.getD i .undef = .vec b (.iarr .u8 m l)) (hl : l.length = m)
  (c1 : Pt 43 [] [.iarr .u64 2 [k0, k1], .vec b (.iarr .u8 m l)] [] (.int .u64 s)) (c2 : Pt 42 [] [.int .u64 s, .int .u64 t] [] (.int .u64 x))
  (hw : Wt Try.f23 [] hout res (Aa Try.f23 0) (dN0 nl n (i + 1) t k0 k1 M (o ++ [(x : Int)]))) : Wt Try.f23 [] hout res (Aa Try.f23 0) (dN0 nl n i t k0 k1 M o) := by
 refine W.sgA 0 [(0, aT), (2, aE g), (7, c9 c1), (9, c9 c2), (11, Ans.ups [(1, none), (240, some (Row.mk (B6 (i + 1) (o ++ [(x:Int)])) false))]), (13, aV (I6 ↑(i + 1)))] [(0, 0), (240, 1)] (dN0 nl n (i + 1) t k0 k1 M (o ++ [(x : Int)])) [decide ((i:Int) < (n:Int)) = true, 0 ≤ (i:Int), (i:Int) < (n:Int), _, i < n, _, _, ([(1, none), (240, some (Row.mk (B6 (i + 1) (List.take i o ++ [(x:Int)])) false))] : List (Nat × Option Row)) = [(1, none), (240, some (Row.mk (B6 (i + 1) (o ++ [(x:Int)])) false))], 1 ≤ 1, 0 + i = i, (i + 1) * 8 ≤ 140737488355328, i + 1 ≤ 9223372036854775807, I6 (IntKind.wrap .i64 ((i:Int) + 1)) = I6 ↑(i + 1)] (ac (dT (by omega)) (ob2 (by omega) (ac (ex g) (ac (by omega) (ac (c1) (ac (c2) (ac (by rw [List.take_of_length_le (show List.length o ≤ i by omega)]) (ac (by omega) (ac (by omega) (ob2 (by omega) (ao (wj (by omega))))))))))))) ?_
 exact hw
theorem W_nE {nl : Bool} {n t : Nat} {k0 k1 : Int} {M : Lpz} {o o2 : Liz} (c1 : Pt 50 [(0, Ac n o)] [.ref 0 [] 1 0 n] [(0, Ac n o2)] (.tup [])) : Wt Try.f23 [] [(1, Ac n o2)] (.ref 1 [] 1 0 n) (Aa Try.f23 0) (dN0 nl n n t k0 k1 M o) := by
 refine W.rtA [(0, aF), (2, cC true [(1, 0)] c1)] (rI 1) [decide ((n:Int) < (n:Int)) = false, _] (ac (dF (by omega)) (ao (c1)))
end Go.Proofs
namespace Go.Pm
open Go
def bt (l : List Int) (i : Nat) : Nat := at0 l (i / 8) / 2 ^ (7 - i % 8) % 2
theorem Na (l : List Int) (i : Nat) : bt l i < 2 := Nat.mod_lt _ (by decide)
def Cr (l : List Int) (a : Nat) : Nat → Nat
 | 0 => 0
 | k + 1 => if bt l a = 1 then Cr l (a + 1) k + 1 else 0
theorem M3 (l : List Int) : ∀ (k a : Nat), Cr l a k ≤ k
 | 0, _ => Nat.le_refl 0
 | k + 1, a => by
  unfold Cr
  split
  ·have := M3 l k (a + 1); omega
  ·omega
def Lr (l : List Int) : Nat → Nat → Nat → Nat
 | 0, _, x => x
 | w + 1, a, x => Lr l w (a + 1) (2 * x + bt l a)
theorem Lg (l : List Int) : ∀ (w a x y : Nat), x < 2 ^ y → Lr l w a x < 2 ^ (y + w)
 | 0, _, x, y, h => h
 | w + 1, a, x, y, h => by
  unfold Lr
  have := Lg l w (a + 1) (2 * x + bt l a) (y + 1) (by have := Na l a; rw [Nat.pow_succ]; omega)
  rwa [show y + (w + 1) = y + 1 + w by omega]
def CE (k o most : Nat) : Nat := if most < o then 4 else if o = k then 2 else 0
def CF (l : List Int) (a : Nat) : Nat → Bool
 | 0 => true
 | k + 1 => if bt l a = 0 then CF l (a + 1) k else false
def gO (l : List Int) (n a : Nat) : Nat := Cr l a (8 * n - a)
def gE (l : List Int) (n a : Nat) : Nat := if CE (8 * n - a) (gO l n a) 65536 ≠ 0 then CE (8 * n - a) (gO l n a) 65536 else if 8 * n < a + gO l n a + 1 + 19 then 2 else 0
def gV (l : List Int) (n a : Nat) : Nat := gO l n a * 524288 + Lr l 19 (a + gO l n a + 1) 0
def gA (l : List Int) (n a : Nat) : Nat := a + gO l n a + 1 + 19
theorem gE_ok {l : List Int} {n a : Nat} (ha : a ≤ 8 * n) (h : gE l n a = 0) : gA l n a ≤ 8 * n ∧ gO l n a ≤ 65536 := by
 unfold gE at h
 split at h
 ·rename_i g; exact absurd h g
 ·rename_i g
  split at h
  ·cases h
  ·unfold gA
   have g := Classical.not_not.1 g
   unfold CE at g
   split at g
   ·cases g
   ·omega
theorem gV_lt {l : List Int} {n a : Nat} (h : gO l n a ≤ 65536) : gV l n a < 68719476736 := by
 unfold gV
 have := Lg l 19 (a + gO l n a + 1) 0 0 (by decide)
 rw [Nat.zero_add] at this
 omega
def vlF (l : List Int) (n lim : Nat) : Nat → Nat → Nat → List Int → List Int × Nat × Nat
 | 0, a, s, o => (o, a, 0)
 | k + 1, a, s, o => if gE l n a ≠ 0 then ([], a, gE l n a) else if lim ≤ s + gV l n a then ([], a, 5) else vlF l n lim k (gA l n a) (s + gV l n a) (o ++ [((s + gV l n a : Nat) : Int)])
def vlE (l : List Int) (n c : Nat) (r : List Int × Nat × Nat) : Nat := if r.2.2 ≠ 0 then r.2.2 else if c = 0 ∧ 0 < n then 3 else if 8 * n - r.2.1 < 8 ∧ CF l r.2.1 (8 * n - r.2.1) = true then 0 else 3
end Go.Pm
namespace Go.Proofs
open Go Go.Pe Go.Pm
set_option maxRecDepth 100000
set_option linter.unusedVariables false
attribute [local irreducible] lv
def btR (nl : Bool) (N : Nat) (l : List Int) (a : Nat) : Row := ⟨.st 2 [.vec nl (.iarr .u8 N l), .int .i64 a], false⟩
theorem pc_btOf {nl : Bool} {n : Nat} (hn : n ≤ 1000000) {l : Liz} (hl : l.length = n) (hnl : nl = true → n = 0) : Pt 32 [] [.vec nl (.iarr .u8 n l)] [(1, btR nl n l 0)] (.at 1 []) := by
 refine pO Try.func32 (by kernel_rfl) ?_
 have c1 := Eh (show n ≤ 1000000000 by omega) hl hnl
 refine W.rtA [(2, c0 c1)] [(128, 1)] [_] (ao (c1))
theorem Ck {nl : Bool} {n a : Nat} {l : Liz} (hn : n ≤ 1000000) (ha : a ≤ 8 * n) : Pt 36 [(0, btR nl n l a)] [.at 0 []] [(0, btR nl n l a)] (.int .i64 ((8 * n - a : Nat) : Int)) := by
 refine pO Try.func36 (by kernel_rfl) ?_
 have he : (8 : Int) * (n : Int) - (a : Int) = ((8 * n - a : Nat) : Int) := by omega
 have he2 : ((8 * n : Nat) : Int) - (a : Int) = ((8 * n - a : Nat) : Int) := by omega
 have hb : 8 * n - a ≤ 8000000 := by omega
 generalize 8 * n - a = k at *
 refine W.rtA [(6, aV (I6 ↑(8 * n))), (11, aV (I6 k))] [(0, 0)] [I6 (IntKind.wrap .i64 (8 * (n:Int))) = I6 ↑(8 * n), I6 (IntKind.wrap .i64 ((↑(8 * n) : Int) - (a:Int))) = I6 k] (ac (wj (by omega)) (ao (cg (Ab he (by omega) (by omega)))))
theorem Et {nl : Bool} {n a i : Nat} {l : Liz} (hn : n ≤ 1000000) (hb : Bytes l) (hi : i < 8 * n) : Pt 61 [(0, btR nl n l a)] [.at 0 [], .int .i64 i] [(0, btR nl n l a)] (.int .u64 ((bt l i : Nat) : Int)) := by
 refine pO Try.func61 (by kernel_rfl) ?_
 obtain ⟨e, h1⟩ := hb.get (i / 8)
 have he : (7 : Int) - ((i % 8 : Nat) : Int) = ((7 - i % 8 : Nat) : Int) := by omega
 have h2 : at0 l (i / 8) / 2 ^ (7 - i % 8) < 256 := Nat.lt_of_le_of_lt (Nat.div_le_self _ _) h1
 have hi2 : i / 8 < n := by omega
 have h7 : i % 8 < 8 := by omega
 have hm : ((at0 l (i / 8) / 2 ^ (7 - i % 8) % 18446744073709551616 % 2 : Nat) : Int) = ((bt l i : Nat) : Int) := by
  rw [Nat.mod_eq_of_lt (show at0 l (i / 8) / 2 ^ (7 - i % 8) < 18446744073709551616 by omega)]
  rfl
 generalize bt l i = r at *
 generalize 7 - i % 8 = j at *
 generalize at0 l (i / 8) = b at *
 refine W.rtA [(6, aV (I6 ↑(i / 8))), (7, aV (PV.cptr (B8 n l) [Stp.idx (i / 8) 1])), (8, aV (U8 b)), (10, aV (I6 ↑(i % 8))), (11, aV (I6 j)), (12, aV (U8 ↑(b / 2 ^ j))), (13, aV (U6 ↑(b / 2 ^ j % 18446744073709551616))), (14, aV (U6 ↑(b / 2 ^ j % 18446744073709551616 % 2))), (15, aV (U6 r))] [(0, 0)] [I6 (IntKind.wrap .i64 (Int.tdiv (i:Int) (8 : Int))) = I6 ↑(i / 8), (8 : Int) ≠ 0, PV.cptr (B8 n l) [Stp.idx (Int.toNat (↑(i / 8) : Int)) 1] = PV.cptr (B8 n l) [Stp.idx (i / 8) 1], 0 ≤ (↑(i / 8) : Int), (↑(i / 8) : Int) < (n:Int), U8 (List.getD l (i / 8) (0 : Int)) = U8 b, i / 8 < n, I6 (Int.tmod (i:Int) (8 : Int)) = I6 ↑(i % 8), (8 : Int) ≠ 0, I6 (IntKind.wrap .i64 (7 - (↑(i % 8) : Int))) = I6 j, U8 (Int.fdiv (b:Int) ((2 : Int) ^ min j 8)) = U8 ↑(b / 2 ^ j), 0 ≤ (j:Int), U6 (IntKind.wrap .u64 (↑(b / 2 ^ j) : Int)) = U6 ↑(b / 2 ^ j % 18446744073709551616), U6 (bits BinOp.and .u64 (↑(b / 2 ^ j % 18446744073709551616) : Int) (1 : Int)) = U6 ↑(b / 2 ^ j % 18446744073709551616 % 2), U6 ↑(b / 2 ^ j % 18446744073709551616 % 2) = U6 r] (ac (wj (by omega)) (ac (by omega) (ac (by rw [show Int.toNat (↑(i / 8) : Int) = i / 8 by omega]) (ob2 (by omega) (ac (cg (e)) (ac (by omega) (ac (cg rfl) (ac (by omega) (ac (cg (Ab he (by omega) (by omega))) (ac (cg (shr_u8 rfl rfl (by omega))) (ac (by omega) (ac (cg (GA rfl)) (ac (cg (Du 1 rfl rfl (by omega) (by decide))) (ao (cg (hm))))))))))))))))
def dRu (nl : Bool) (n a : Nat) (l : List Int) (m k : Nat) : DS := ⟨[(0, .at 0 []), (1, .int .i64 m), (6, .int .i64 k)], [(0, btR nl n l a)]⟩
theorem W_runS {nl : Bool} {n a m k : Nat} {l : Liz} {hout : Lrz} {res : PV} (hn : n ≤ 1000000) (hb : Bytes l) (ha : a + k < 8 * n) (hm : k < m) (h1 : bt l (a + k) = 1)
  (hw : Wt Try.f59 [0] hout res (Aa Try.f59 0) (dRu nl n a l m (k + 1))) : Wt Try.f59 [0] hout res (Aa Try.f59 0) (dRu nl n a l m k) := by
 have c1 := Ck (nl := nl) (l := l) hn (show a ≤ 8 * n by omega)
 have c2 := Et (nl := nl) (a := a) hn hb ha
 rw [h1] at c2
 generalize hq : 8 * n - a = q at *
 have hq2 : k < q := by omega
 refine W.sgA 0 [(2, cC false [(0, 0)] c1), (3, aT), (10, aV (I6 ↑(a + k))), (11, cC false [(0, 0)] c2), (15, aF), (17, aV (I6 ↑(k + 1)))] [(0, 0)] (dRu nl n a l m (k + 1)) [_, decide ((k:Int) < (q:Int)) = true, I6 (IntKind.wrap .i64 ((a:Int) + (k:Int))) = I6 ↑(a + k), _, ((k:Int) == (m:Int)) = false, I6 (IntKind.wrap .i64 ((k:Int) + 1)) = I6 ↑(k + 1)] (ac (c1) (ac (dT (by omega)) (ac (wj (by omega)) (ac (c2) (ac (dF (by omega)) (ao (wj (by omega)))))))) ?_
 exact hw
theorem W_runB {nl : Bool} {n a m : Nat} {l : Liz} (hn : n ≤ 1000000) (hb : Bytes l) (ha : a + m < 8 * n) (h1 : bt l (a + m) = 1) : Wt Try.f59 [0] [(0, btR nl n l a)] (.tup [.int .i64 0, .int .i64 4]) (Aa Try.f59 0) (dRu nl n a l m m) := by
 have c1 := Ck (nl := nl) (l := l) hn (show a ≤ 8 * n by omega)
 have c2 := Et (nl := nl) (a := a) hn hb ha
 rw [h1] at c2
 generalize hq : 8 * n - a = q at *
 have hq2 : m < q := by omega
 refine W.rtA [(2, cC false [(0, 0)] c1), (3, aT), (10, aV (I6 ↑(a + m))), (11, cC false [(0, 0)] c2), (15, aT)] [(0, 0)] [_, decide ((m:Int) < (q:Int)) = true, I6 (IntKind.wrap .i64 ((a:Int) + (m:Int))) = I6 ↑(a + m), _, ((m:Int) == (m:Int)) = true] (ac (c1) (ac (dT (by omega)) (ac (wj (by omega)) (ac (c2) (ao (dT (by omega)))))))
theorem W_runY {nl : Bool} {n a m k : Nat} {l : Liz} (hn : n ≤ 1000000) (hb : Bytes l) (ha : a + k < 8 * n) (h1 : bt l (a + k) = 0) : Wt Try.f59 [0] [(0, btR nl n l (a + k + 1))] (.tup [.int .i64 k, .int .i64 0]) (Aa Try.f59 0) (dRu nl n a l m k) := by
 have c1 := Ck (nl := nl) (l := l) hn (show a ≤ 8 * n by omega)
 have c2 := Et (nl := nl) (a := a) hn hb ha
 rw [h1] at c2
 generalize hq : 8 * n - a = q at *
 have hq2 : k < q := by omega
 refine W.rtA [(2, cC false [(0, 0)] c1), (3, aT), (10, aV (I6 ↑(a + k))), (11, cC false [(0, 0)] c2), (18, aV (I6 ↑(k + 1))), (19, aV (I6 ↑(a + k + 1)))] [(0, 0)] [_, decide ((k:Int) < (q:Int)) = true, I6 (IntKind.wrap .i64 ((a:Int) + (k:Int))) = I6 ↑(a + k), _, I6 (IntKind.wrap .i64 ((k:Int) + 1)) = I6 ↑(k + 1), I6 (IntKind.wrap .i64 ((a:Int) + (↑(k + 1) : Int))) = I6 ↑(a + k + 1)] (ac (c1) (ac (dT (by omega)) (ac (wj (by omega)) (ac (c2) (ac (wj (by omega)) (ao (wj (by omega))))))))
theorem W_runE {nl : Bool} {n a m k : Nat} {l : Liz} (hn : n ≤ 1000000) (ha : a + k = 8 * n) : Wt Try.f59 [0] [(0, btR nl n l a)] (.tup [.int .i64 0, .int .i64 2]) (Aa Try.f59 0) (dRu nl n a l m k) := by
 have c1 := Ck (nl := nl) (l := l) hn (show a ≤ 8 * n by omega)
 rw [show 8 * n - a = k by omega] at c1
 refine W.rtA [(2, cC false [(0, 0)] c1), (3, aF)] [(0, 0)] [_, decide ((k:Int) < (k:Int)) = false] (ac (c1) (ao (dF (by omega))))
theorem W_run {nl : Bool} {n a m : Nat} {l : Liz} (hn : n ≤ 1000000) (hb : Bytes l) : ∀ (q k : Nat), a + k + q = 8 * n → k ≤ m →
  Wt Try.f59 [0] [(0, btR nl n l (if CE (k + q) (k + Cr l (a + k) q) m = 0 then a + (k + Cr l (a + k) q) + 1 else a))] (.tup [.int .i64 ((if CE (k + q) (k + Cr l (a + k) q) m = 0 then k + Cr l (a + k) q else 0 : Nat) : Int), .int .i64 (CE (k + q) (k + Cr l (a + k) q) m)]) (Aa Try.f59 0) (dRu nl n a l m k)
 | 0, k, hq, hk => by
  have e : CE (k + 0) (k + Cr l (a + k) 0) m = 2 := by unfold CE Cr; rw [if_neg (by omega), if_pos rfl]
  rw [e, if_neg (by decide), if_neg (by decide)]
  exact W_runE hn hq
 | q + 1, k, hq, hk => by
  unfold Cr
  by_cases h1 : bt l (a + k) = 1
  ·rw [if_pos h1]
   by_cases hm : k < m
   ·have ih := W_run (nl := nl) (a := a) (m := m) hn hb q (k + 1) (by omega) (by omega)
    rw [show a + (k + 1) = a + k + 1 by omega, show k + 1 + q = k + (q + 1) by omega, show k + 1 + Cr l (a + k + 1) q = k + (Cr l (a + k + 1) q + 1) by omega] at ih
    exact W_runS (a := a) (k := k) hn hb (by omega) hm h1 ih
   ·obtain rfl : k = m := by omega
    have e : CE (k + (q + 1)) (k + (Cr l (a + k + 1) q + 1)) k = 4 := by unfold CE; rw [if_pos (by omega)]
    rw [e, if_neg (by decide), if_neg (by decide)]
    exact W_runB hn hb (by omega) h1
  ·rw [if_neg h1]
   have h0 : bt l (a + k) = 0 := by have := Na l (a + k); omega
   have e : CE (k + (q + 1)) (k + 0) m = 0 := by unfold CE; rw [if_neg (by omega), if_neg (by omega)]
   rw [e, if_pos rfl, if_pos rfl, Nat.add_zero]
   exact W_runY hn hb (by omega) h0
theorem QG {nl : Bool} {n a m o : Nat} {l : Liz} (hn : n ≤ 1000000) (hb : Bytes l) (ha : a ≤ 8 * n) (hm : m ≤ 1000000) (ho : o = Cr l a (8 * n - a)) : Pt 59 [(0, btR nl n l a)] [.at 0 [], .int .i64 m] [(0, btR nl n l (if CE (8 * n - a) o m = 0 then a + o + 1 else a))] (.tup [.int .i64 ((if CE (8 * n - a) o m = 0 then o else 0 : Nat) : Int), .int .i64 (CE (8 * n - a) o m)]) := by
 refine pO Try.func59 (by kernel_rfl) ?_
 have hw := W_run (nl := nl) (m := m) (a := a) hn hb (8 * n - a) 0 (by omega) (by omega)
 rw [Nat.zero_add, Nat.zero_add, Nat.add_zero, ← ho] at hw
 have hx : mx (m : Int) 0 = (m : Int) := by unfold mx; split <;> omega
 generalize (if CE (8 * n - a) o m = 0 then a + o + 1 else a) = r1 at *
 generalize (if CE (8 * n - a) o m = 0 then o else 0 : Nat) = r2 at *
 generalize CE (8 * n - a) o m = r3 at *
 refine W.sgA 0 [(3, aV (I6 m))] [(0, 0)] (dRu nl n a l m 0) [I6 (mx (m:Int) (0 : Int)) = I6 m] (ao (cg (hx))) ?_
 exact hw
def dTk (nl : Bool) (n a : Nat) (l : List Int) (w i x : Nat) : DS := ⟨[(0, .at 0 []), (6, .int .u64 x), (14, .int .i64 w), (15, .int .i64 i)], [(0, btR nl n l a)]⟩
theorem W_tkS {nl : Bool} {n a w i x : Nat} {l : Liz} {hout : Lrz} {res : PV} (hn : n ≤ 1000000) (hb : Bytes l) (ha : a < 8 * n) (hi : i < w) (hw1 : w ≤ 64) (hx : 2 * x + 1 < 18446744073709551616)
  (hw : Wt Try.f60 [0] hout res (Aa Try.f60 0) (dTk nl n (a + 1) l w (i + 1) (2 * x + bt l a))) : Wt Try.f60 [0] hout res (Aa Try.f60 0) (dTk nl n a l w i x) := by
 have c2 := Et (nl := nl) (a := a) hn hb ha
 have hlt := Na l a
 generalize bt l a = b at *
 have h3 : bits .or .u64 ((x : Int) * 2 ^ 1) (b : Int) = ((2 * x + b : Nat) : Int) := by
  rw [GJ (a := 2 ^ 1 * x) (b := b) (by omega) rfl (by omega) (by omega), ← Nat.two_pow_add_eq_or_of_lt (i := 1) (by omega) x]
 generalize 2 * x + b = y at *
 refine W.sgA 0 [(0, aT), (2, aV (U6 ((x:Int) * (2 : Int) ^ 1))), (8, cC false [(0, 0)] c2), (9, aV (U6 y)), (15, aV (I6 ↑(a + 1))), (19, aV (I6 ↑(i + 1)))] [(0, 0)] (dTk nl n (a + 1) l w (i + 1) y) [decide ((i:Int) < (w:Int)) = true, U6 (IntKind.wrap .u64 ((x:Int) * (2 : Int) ^ 1)) = U6 ((x:Int) * (2 : Int) ^ 1), (0 : Int) ≤ 1, _, U6 (bits BinOp.or .u64 ((x:Int) * (2 : Int) ^ 1) (b:Int)) = U6 y, I6 (IntKind.wrap .i64 ((a:Int) + 1)) = I6 ↑(a + 1), I6 (IntKind.wrap .i64 ((i:Int) + 1)) = I6 ↑(i + 1)] (ac (dT (by omega)) (ac (cg (Au rfl (by omega) (by omega))) (ac (by omega) (ac (c2) (ac (cg (h3)) (ac (wj (by omega)) (ao (wj (by omega))))))))) ?_
 exact hw
theorem W_tkE {nl : Bool} {n a w x : Nat} {l : Liz} : Wt Try.f60 [0] [(0, btR nl n l a)] (.tup [.int .u64 x, .int .i64 0]) (Aa Try.f60 0) (dTk nl n a l w w x) := by
 refine W.rtA [(0, aF)] [(0, 0)] [decide ((w:Int) < (w:Int)) = false] (ao (dF (by omega)))
theorem W_tk {nl : Bool} {n w : Nat} {l : Liz} (hn : n ≤ 1000000) (hb : Bytes l) (hw1 : w ≤ 63) : ∀ (k a i x : Nat), i + k = w → a + k ≤ 8 * n → x < 2 ^ i →
  Wt Try.f60 [0] [(0, btR nl n l (a + k))] (.tup [.int .u64 ((Lr l k a x : Nat) : Int), .int .i64 0]) (Aa Try.f60 0) (dTk nl n a l w i x)
 | 0, a, i, x, hk, ha, hx => by
  obtain rfl : i = w := by omega
  exact W_tkE
 | k + 1, a, i, x, hk, ha, hx => by
  have hp : 2 ^ (i + 1) ≤ 2 ^ 63 := Nat.pow_le_pow_right (by omega) (by omega)
  have hp2 : 2 ^ (i + 1) = 2 * 2 ^ i := by rw [Nat.pow_succ]; omega
  have hlt := Na l a
  have ih := W_tk (nl := nl) hn hb hw1 k (a + 1) (i + 1) (2 * x + bt l a) (by omega) (by omega) (by omega)
  rw [show a + 1 + k = a + (k + 1) by omega] at ih
  exact W_tkS hn hb (by omega) (by omega) (by omega) (by omega) ih
theorem NB {nl : Bool} {n a w : Nat} {l : Liz} (hn : n ≤ 1000000) (hb : Bytes l) (hw : w ≤ 63) (ha : a + w ≤ 8 * n) : Pt 60 [(0, btR nl n l a)] [.at 0 [], .int .i64 w] [(0, btR nl n l (a + w))] (.tup [.int .u64 ((Lr l w a 0 : Nat) : Int), .int .i64 0]) := by
 refine pO Try.func60 (by kernel_rfl) ?_
 have h := W_tk (nl := nl) hn hb hw w a 0 0 (by omega) ha (by omega)
 have c1 := Ck (nl := nl) (l := l) hn (show a ≤ 8 * n by omega)
 have hx : mx (w : Int) 0 = (w : Int) := by unfold mx; split <;> omega
 have hy : mn (w : Int) 64 = (w : Int) := by unfold mn; split <;> omega
 have hq : w ≤ 8 * n - a := by omega
 generalize 8 * n - a = q at *
 refine W.sgA 0 [(3, aV (I6 w)), (4, aV (I6 w)), (8, cC false [(0, 0)] c1), (9, aF)] [(0, 0)] (dTk nl n a l w 0 0) [I6 (mx (w:Int) (0 : Int)) = I6 w, I6 (mn (w:Int) (64 : Int)) = I6 w, _, decide ((w:Int) > (q:Int)) = false] (ac (cg (hx)) (ac (cg (hy)) (ac (c1) (ao (dF (by omega)))))) ?_
 exact h
theorem Nu {nl : Bool} {n a w : Nat} {l : Liz} (hn : n ≤ 1000000) (hw : w ≤ 63) (ha : a ≤ 8 * n) (h : 8 * n < a + w) : Pt 60 [(0, btR nl n l a)] [.at 0 [], .int .i64 w] [(0, btR nl n l a)] (.tup [.int .u64 0, .int .i64 2]) := by
 refine pO Try.func60 (by kernel_rfl) ?_
 have c1 := Ck (nl := nl) (l := l) hn ha
 have hx : mx (w : Int) 0 = (w : Int) := by unfold mx; split <;> omega
 have hy : mn (w : Int) 64 = (w : Int) := by unfold mn; split <;> omega
 have hq : 8 * n - a < w := by omega
 generalize 8 * n - a = q at *
 refine W.rtA [(3, aV (I6 w)), (4, aV (I6 w)), (8, cC false [(0, 0)] c1), (9, aT)] [(0, 0)] [I6 (mx (w:Int) (0 : Int)) = I6 w, I6 (mn (w:Int) (64 : Int)) = I6 w, _, decide ((w:Int) > (q:Int)) = true] (ac (cg (hx)) (ac (cg (hy)) (ac (c1) (ao (dT (by omega))))))
end Go.Proofs
namespace Go.Proofs
open Go Go.Pe Go.Pm
set_option maxRecDepth 100000
set_option linter.unusedVariables false
attribute [local irreducible] lv
def bwR (id k n : Nat) : Row := ⟨.st 2 [.ref id [] 1 0 k, .int .i64 n], false⟩
def bwE : Row := ⟨.st 2 [.vec true (.iarr .u8 0 []), .int .i64 0], false⟩
def bwB (k : Nat) (l : List Int) : Row := ⟨.iarr .u8 k l, false⟩
def bwS (n x : Nat) (l : List Int) : List Int := l.set (n / 8) (((at0 l (n / 8) ||| x % 2 * 2 ^ (7 - n % 8) % 256 : Nat) : Nat) : Int)
theorem R3 : Pt 47 [] [] [(0, bwE)] (.at 0 []) := by
 refine pO Try.func47 (by kernel_rfl) ?_
 refine W.rtA [] [(96, 0)] [] trivial
theorem pc_oneC {n k x : Nat} {l : Liz} (hb : Bytes l) (hl : l.length = k) (hn : n ≤ 10000000) (h8 : n % 8 ≠ 0) (hk : n / 8 < k) (hx : x < 18446744073709551616) :
  Pt 88 [(0, bwR 1 k n), (1, bwB k l)] [.at 0 [], .int .u64 x] [(0, bwR 1 k (n + 1)), (1, bwB k (bwS n x l))] (.tup []) := by
 refine pO Try.func88 (by kernel_rfl) ?_
 obtain ⟨e, h1⟩ := hb.get (n / 8)
 have he : (7 : Int) - ((n % 8 : Nat) : Int) = ((7 - n % 8 : Nat) : Int) := by omega
 have h2 : x % 2 * 2 ^ (7 - n % 8) % 256 < 256 := Nat.mod_lt _ (by decide)
 have h7 : n % 8 < 8 := Nat.mod_lt _ (by decide)
 have h3 : at0 l (n / 8) ||| x % 2 * 2 ^ (7 - n % 8) % 256 < 256 := Nat.or_lt_two_pow (n := 8) h1 h2
 unfold bwS
 generalize 7 - n % 8 = j at *
 generalize at0 l (n / 8) = b at *
 refine W.rtA [(4, aV (I6 ↑(n % 8))), (5, aF), (14, aV (I6 ↑(n / 8))), (15, aV (PV.at 1 [Stp.idx (n / 8) 1])), (16, aV (U8 b)), (18, aV (U6 ↑(x % 2))), (19, aV (U8 ↑(x % 2))), (24, aV (I6 ↑(n % 8))), (25, aV (I6 j)), (26, aV (U8 ↑(x % 2 * 2 ^ j % 256))), (27, aV (U8 ↑(b ||| x % 2 * 2 ^ j % 256))), (28, aV (PV.at 1 [Stp.idx (n / 8) 1])), (34, aV (I6 ↑(n + 1)))] [(0, 0), (1, 1)] [I6 (Int.tmod (n:Int) (8 : Int)) = I6 ↑(n % 8), (8 : Int) ≠ 0, ((↑(n % 8) : Int) == 0) = false, I6 (IntKind.wrap .i64 (Int.tdiv (n:Int) (8 : Int))) = I6 ↑(n / 8), (8 : Int) ≠ 0, PV.at 1 [Stp.idx (0 + Int.toNat (↑(n / 8) : Int)) 1] = PV.at 1 [Stp.idx (n / 8) 1], 0 ≤ (↑(n / 8) : Int), (↑(n / 8) : Int) < (k:Int), U8 (List.getD l (n / 8) (0 : Int)) = U8 b, n / 8 < k, U6 (bits BinOp.and .u64 (x:Int) (1 : Int)) = U6 ↑(x % 2), U8 (IntKind.wrap .u8 (↑(x % 2) : Int)) = U8 ↑(x % 2), I6 (Int.tmod (n:Int) (8 : Int)) = I6 ↑(n % 8), (8 : Int) ≠ 0, I6 (IntKind.wrap .i64 (7 - (↑(n % 8) : Int))) = I6 j, U8 (IntKind.wrap .u8 ((↑(x % 2) : Int) * (2 : Int) ^ min j 8)) = U8 ↑(x % 2 * 2 ^ j % 256), 0 ≤ (j:Int), U8 (bits BinOp.or .u8 (b:Int) (↑(x % 2 * 2 ^ j % 256) : Int)) = U8 ↑(b ||| x % 2 * 2 ^ j % 256), PV.at 1 [Stp.idx (0 + Int.toNat (↑(n / 8) : Int)) 1] = PV.at 1 [Stp.idx (n / 8) 1], 0 ≤ (↑(n / 8) : Int), (↑(n / 8) : Int) < (k:Int), n / 8 < k, I6 (IntKind.wrap .i64 ((n:Int) + 1)) = I6 ↑(n + 1)] (ac (cg rfl) (ac (by omega) (ac (dF (by omega)) (ac (wj (by omega)) (ac (by omega) (ac (by (rw [show Int.toNat (↑(n / 8) : Int) = n / 8 by omega]; simp only [Nat.zero_add])) (ob2 (by omega) (ac (cg (e)) (ac (by omega) (ac (cg (Du 1 rfl rfl (by omega) (by decide))) (ac (cg (w_u8 rfl (by omega) (by omega))) (ac (cg rfl) (ac (by omega) (ac (cg (Ab he (by omega) (by omega))) (ac (cg (shl_u8 (y := ((j : Nat) : Int)) rfl rfl)) (ac (by omega) (ac (cg (Ol rfl rfl (by omega) (by omega))) (ac (by (rw [show Int.toNat (↑(n / 8) : Int) = n / 8 by omega]; simp only [Nat.zero_add])) (ob3 (by omega) (ao (wj (by omega))))))))))))))))))))))
theorem pc_oneA {x : Nat} (hx : x < 18446744073709551616) :
  Pt 88 [(0, bwE)] [.at 0 [], .int .u64 x] [(0, bwR 1 1 1), (1, bwB 1 [((x % 2 * 128 : Nat) : Int)])] (.tup []) := by
 refine pO Try.func88 (by kernel_rfl) ?_
 have h0 : bits .or .u8 0 (((x % 2 : Nat) : Int) * 2 ^ 7) = ((x % 2 * 128 : Nat) : Int) := by
  have := Ol (x := 0) (y := ((x % 2 : Nat) : Int) * 2 ^ 7) (a := 0) (b := x % 2 * 128) rfl (by omega) (by omega) (by omega)
  rw [Nat.zero_or] at this
  exact this
 refine W.rtA [(4, aV (I6 ↑(0 % 8))), (24, aV (I6 ↑(0 / 8 : Nat))), (28, aV (U6 ↑(x % 2))), (29, aV (U8 ↑(x % 2))), (34, aV (I6 ↑(0 % 8))), (35, aV (I6 7)), (36, aV (U8 ((↑(x % 2) : Int) * (2 : Int) ^ 7))), (37, aV (U8 ↑(x % 2 * 128))), (44, aV (I6 1))] [(0, 0), (256, 1)] [I6 (Int.tmod (0 : Int) (8 : Int)) = I6 ↑(0 : Nat), (8 : Int) ≠ 0, 1 ≤ 1, 0 < 1, 1 ≤ 140737488355328, 1 ≤ 9223372036854775807, I6 (IntKind.wrap .i64 (Int.tdiv (0 : Int) (8 : Int))) = I6 ↑(0 : Nat), (8 : Int) ≠ 0, 0 ≤ (↑(0 : Nat) : Int), (↑(0 : Nat) : Int) < (↑(1 : Nat) : Int), 0 < 1, U6 (bits BinOp.and .u64 (x:Int) (1 : Int)) = U6 ↑(x % 2), U8 (IntKind.wrap .u8 (↑(x % 2) : Int)) = U8 ↑(x % 2), I6 (Int.tmod (0 : Int) (8 : Int)) = I6 ↑(0 : Nat), (8 : Int) ≠ 0, I6 (IntKind.wrap .i64 (7 - (↑(0 : Nat) : Int))) = I6 7, U8 (IntKind.wrap .u8 ((↑(x % 2) : Int) * (2 : Int) ^ 7)) = U8 ((↑(x % 2) : Int) * (2 : Int) ^ 7), (0 : Int) ≤ 7, U8 (bits BinOp.or .u8 (0 : Int) ((↑(x % 2) : Int) * (2 : Int) ^ 7)) = U8 ↑(x % 2 * 128), 0 ≤ (↑(0 : Nat) : Int), (↑(0 : Nat) : Int) < (↑(1 : Nat) : Int), 0 < 1, I6 (IntKind.wrap .i64 ((0 : Int) + (1 : Int))) = I6 1] (ac rfl (ob4 (by omega) (ac (by omega) (ac rfl (ob4 (by omega) (ac (cg (Du 1 rfl rfl (by omega) (by decide))) (ac (cg (w_u8 rfl (by omega) (by omega))) (ac rfl (ac (by omega) (ac (wj (by omega)) (ac (cg (w_u8 rfl (by omega) (by omega))) (ac (by omega) (ac (cg (h0)) (ob3 (by omega) (ao (wj (by omega)))))))))))))))))
theorem pc_oneB {n k x : Nat} {l : Liz} (hb : Bytes l) (hl : l.length = k) (hn : k ≤ 1000000) (h8 : n = 8 * k) (hk : 0 < k) (hx : x < 18446744073709551616) :
  Pt 88 [(0, bwR 1 k n), (1, bwB k l)] [.at 0 [], .int .u64 x] [(0, bwR 2 (k + 1) (n + 1)), (2, bwB (k + 1) (l ++ [((x % 2 * 128 : Nat) : Int)]))] (.tup []) := by
 refine pO Try.func88 (by kernel_rfl) ?_
 have h0 : bits .or .u8 0 (((x % 2 : Nat) : Int) * 2 ^ 7) = ((x % 2 * 128 : Nat) : Int) := by
  have := Ol (x := 0) (y := ((x % 2 : Nat) : Int) * 2 ^ 7) (a := 0) (b := x % 2 * 128) rfl (by omega) (by omega) (by omega)
  rw [Nat.zero_or] at this
  exact this
 have e1 : ((n % 8 : Nat) : Int) = 0 := by omega
 have e2 : ((n / 8 : Nat) : Int) = (k : Int) := by omega
 have e3 : (l ++ [(0 : Int)]).getD k 0 = 0 := by simp [List.getD_eq_getElem?_getD, ← hl]
 have e4 : (l ++ [(0 : Int)]).set k ((x % 2 * 128 : Nat) : Int) = l ++ [((x % 2 * 128 : Nat) : Int)] := by rw [← hl]; simp
 refine W.ret [(4, aV (I6 0)), (12, Ans.ups [(1, none), (256, some (Row.mk (B8 (k + 1) (l ++ [0])) false))]), (24, aV (I6 k)), (25, aV (PV.at 256 [Stp.idx k 1])), (26, aV (U8 0)), (28, aV (U6 ↑(x % 2))), (29, aV (U8 ↑(x % 2))), (34, aV (I6 0)), (35, aV (I6 7)), (36, aV (U8 ((↑(x % 2) : Int) * (2 : Int) ^ 7))), (37, aV (U8 ↑(x % 2 * 128))), (38, aV (PV.at 256 [Stp.idx k 1])), (44, aV (I6 ↑(n + 1)))] [(0, 0), (1, 1), (256, 2)] [I6 (Int.tmod (n:Int) (8 : Int)) = I6 0, (8 : Int) ≠ 0, ([(1, none), (256, some (Row.mk (B8 (k + 1) (List.take k l ++ [0])) false))] : List (Nat × Option Row)) = [(1, none), (256, some (Row.mk (B8 (k + 1) (l ++ [0])) false))], 1 ≤ 1, 0 + k = k, (k + 1) * 1 ≤ 140737488355328, k + 1 ≤ 9223372036854775807, I6 (IntKind.wrap .i64 (Int.tdiv (n:Int) (8 : Int))) = I6 k, (8 : Int) ≠ 0, PV.at 256 [Stp.idx (0 + k) 1] = PV.at 256 [Stp.idx k 1], 0 ≤ (k:Int), (k:Int) < (↑(k + 1) : Int), U8 (List.getD (l ++ [0]) k (0 : Int)) = U8 0, k < k + 1, U6 (bits BinOp.and .u64 (x:Int) (1 : Int)) = U6 ↑(x % 2), U8 (IntKind.wrap .u8 (↑(x % 2) : Int)) = U8 ↑(x % 2), I6 (Int.tmod (n:Int) (8 : Int)) = I6 0, (8 : Int) ≠ 0, I6 (IntKind.wrap .i64 ((7 : Int) - (0 : Int))) = I6 7, U8 (IntKind.wrap .u8 ((↑(x % 2) : Int) * (2 : Int) ^ 7)) = U8 ((↑(x % 2) : Int) * (2 : Int) ^ 7), (0 : Int) ≤ 7, U8 (bits BinOp.or .u8 (0 : Int) ((↑(x % 2) : Int) * (2 : Int) ^ 7)) = U8 ↑(x % 2 * 128), PV.at 256 [Stp.idx (0 + k) 1] = PV.at 256 [Stp.idx k 1], 0 ≤ (k:Int), (k:Int) < (↑(k + 1) : Int), k < k + 1, I6 (IntKind.wrap .i64 ((n:Int) + 1)) = I6 ↑(n + 1), rr (PV.st 2 [PV.ref 2 [] 1 0 (k + 1), I6 ↑(n + 1)]), B8 (k + 1) (List.set (l ++ [0]) k (↑(x % 2 * 128) : Int)) = B8 (k + 1) (l ++ [(↑(x % 2 * 128) : Int)]), rr (PV.tup [])] (by kernel_rfl) (ac (cg (e1)) (ac (by omega) (ac (by rw [List.take_of_length_le (show List.length l ≤ k by omega)]) (ac (by omega) (ac (by omega) (ob2 (by omega) (ac (cg (Ab e2 (by omega) (by omega))) (ac (by omega) (ac (by simp only [Nat.zero_add]) (ob2 (by omega) (ac (cg (e3)) (ac (by omega) (ac (cg (Du 1 rfl rfl (by omega) (by decide))) (ac (cg (w_u8 rfl (by omega) (by omega))) (ac (cg (e1)) (ac (by omega) (ac (wj (by omega)) (ac (cg (w_u8 rfl (by omega) (by omega))) (ac (by omega) (ac (cg (h0)) (ac (by simp only [Nat.zero_add]) (ob3 (by omega) (ac (wj (by omega)) (ac rfl (ac (by (simp [*]; done)) (ao rfl))))))))))))))))))))))))))
 all_goals rw [e4]
end Go.Proofs
namespace Go.Proofs
open Go Go.Pe Go.Pm
set_option maxRecDepth 100000
set_option linter.unusedVariables false
attribute [local irreducible] lv
theorem Qf {q i : Nat} {n k n2 k2 : Nat} {l l2 : Liz} {hout : Lrz} (hi : i < q) (hq : q ≤ 65536) (hn : n ≤ 10000000) (hn2 : n2 ≤ 10000000) (c1 : Pt 88 [(0, bwE)] [.at 0 [], .int .u64 1] [(0, bwR 1 k2 n2), (1, bwB k2 l2)] (.tup [])) (hw : Wt Try.f76 [0] hout (.tup []) (Aa Try.f76 0) (⟨[(0, .at 0 []), (6, .int .i64 q), (7, .int .i64 ((i + 1 : Nat) : Int))], [(0, bwR 1 k2 n2), (1, bwB k2 l2)]⟩ : DS)) : Wt Try.f76 [0] hout (.tup []) (Aa Try.f76 0) (⟨[(0, .at 0 []), (6, .int .i64 q), (7, .int .i64 (i : Int))], [(0, bwE)]⟩ : DS) := by
 refine W.sgA 0 [(0, aT), (2, cC true [(0, 0)] c1), (3, aV (I6 ↑(i + 1)))] [(0, 0), (97, 1)] (⟨[(0, .at 0 []), (6, .int .i64 q), (7, .int .i64 ((i + 1 : Nat) : Int))], [(0, bwR 1 k2 n2), (1, bwB k2 l2)]⟩ : DS) [decide ((i:Int) < (q:Int)) = true, _, I6 (IntKind.wrap .i64 ((i:Int) + 1)) = I6 ↑(i + 1)] (ac (dT (by omega)) (ac (c1) (ao (wj (by omega))))) ?_
 exact hw
theorem QA {q i : Nat} {n k n2 k2 : Nat} {l l2 : Liz} {hout : Lrz} (hi : i < q) (hq : q ≤ 65536) (hn : n ≤ 10000000) (hn2 : n2 ≤ 10000000) (c1 : Pt 88 [(0, bwR 1 k n), (1, bwB k l)] [.at 0 [], .int .u64 1] [(0, bwR 1 k2 n2), (1, bwB k2 l2)] (.tup [])) (hw : Wt Try.f76 [0] hout (.tup []) (Aa Try.f76 0) (⟨[(0, .at 0 []), (6, .int .i64 q), (7, .int .i64 ((i + 1 : Nat) : Int))], [(0, bwR 1 k2 n2), (1, bwB k2 l2)]⟩ : DS)) : Wt Try.f76 [0] hout (.tup []) (Aa Try.f76 0) (⟨[(0, .at 0 []), (6, .int .i64 q), (7, .int .i64 (i : Int))], [(0, bwR 1 k n), (1, bwB k l)]⟩ : DS) := by
 refine W.sgA 0 [(0, aT), (2, cC true [(0, 0), (1, 1)] c1), (3, aV (I6 ↑(i + 1)))] [(0, 0), (1, 1)] (⟨[(0, .at 0 []), (6, .int .i64 q), (7, .int .i64 ((i + 1 : Nat) : Int))], [(0, bwR 1 k2 n2), (1, bwB k2 l2)]⟩ : DS) [decide ((i:Int) < (q:Int)) = true, _, I6 (IntKind.wrap .i64 ((i:Int) + 1)) = I6 ↑(i + 1)] (ac (dT (by omega)) (ac (c1) (ao (wj (by omega))))) ?_
 exact hw
theorem Rz {q i : Nat} {n k n2 k2 : Nat} {l l2 : Liz} {hout : Lrz} (hi : i < q) (hq : q ≤ 65536) (hn : n ≤ 10000000) (hn2 : n2 ≤ 10000000) (c1 : Pt 88 [(0, bwR 1 k n), (1, bwB k l)] [.at 0 [], .int .u64 1] [(0, bwR 2 k2 n2), (2, bwB k2 l2)] (.tup [])) (hw : Wt Try.f76 [0] hout (.tup []) (Aa Try.f76 0) (⟨[(0, .at 0 []), (6, .int .i64 q), (7, .int .i64 ((i + 1 : Nat) : Int))], [(0, bwR 1 k2 n2), (1, bwB k2 l2)]⟩ : DS)) : Wt Try.f76 [0] hout (.tup []) (Aa Try.f76 0) (⟨[(0, .at 0 []), (6, .int .i64 q), (7, .int .i64 (i : Int))], [(0, bwR 1 k n), (1, bwB k l)]⟩ : DS) := by
 refine W.sgA 0 [(0, aT), (2, cC true [(0, 0), (1, 1)] c1), (3, aV (I6 ↑(i + 1)))] [(0, 0), (98, 1)] (⟨[(0, .at 0 []), (6, .int .i64 q), (7, .int .i64 ((i + 1 : Nat) : Int))], [(0, bwR 1 k2 n2), (1, bwB k2 l2)]⟩ : DS) [decide ((i:Int) < (q:Int)) = true, _, I6 (IntKind.wrap .i64 ((i:Int) + 1)) = I6 ↑(i + 1)] (ac (dT (by omega)) (ac (c1) (ao (wj (by omega))))) ?_
 exact hw
theorem M6 {q i : Nat} {n k n2 k2 : Nat} {l l2 : Liz} {hout : Lrz} (hi : i < q) (hq : q ≤ 65536) (hn : n ≤ 10000000) (hn2 : n2 ≤ 10000000) (c1 : Pt 88 [(0, bwR 1 k n), (1, bwB k l)] [.at 0 [], .int .u64 1] [(0, bwR 1 k2 n2), (1, bwB k2 l2)] (.tup [])) (hw : Wt Try.f76 [0, 1] hout (.tup []) (Aa Try.f76 0) (⟨[(0, .at 0 []), (6, .int .i64 q), (7, .int .i64 ((i + 1 : Nat) : Int))], [(0, bwR 1 k2 n2), (1, bwB k2 l2)]⟩ : DS)) : Wt Try.f76 [0, 1] hout (.tup []) (Aa Try.f76 0) (⟨[(0, .at 0 []), (6, .int .i64 q), (7, .int .i64 (i : Int))], [(0, bwR 1 k n), (1, bwB k l)]⟩ : DS) := by
 refine W.sgA 0 [(0, aT), (2, cC true [(0, 0), (1, 1)] c1), (3, aV (I6 ↑(i + 1)))] [(0, 0), (1, 1)] (⟨[(0, .at 0 []), (6, .int .i64 q), (7, .int .i64 ((i + 1 : Nat) : Int))], [(0, bwR 1 k2 n2), (1, bwB k2 l2)]⟩ : DS) [decide ((i:Int) < (q:Int)) = true, _, I6 (IntKind.wrap .i64 ((i:Int) + 1)) = I6 ↑(i + 1)] (ac (dT (by omega)) (ac (c1) (ao (wj (by omega))))) ?_
 exact hw
theorem QK {q i : Nat} {n k n2 k2 : Nat} {l l2 : Liz} {hout : Lrz} (hi : i < q) (hq : q ≤ 65536) (hn : n ≤ 10000000) (hn2 : n2 ≤ 10000000) (c1 : Pt 88 [(0, bwR 1 k n), (1, bwB k l)] [.at 0 [], .int .u64 1] [(0, bwR 2 k2 n2), (2, bwB k2 l2)] (.tup [])) (hw : Wt Try.f76 [0, 1] hout (.tup []) (Aa Try.f76 0) (⟨[(0, .at 0 []), (6, .int .i64 q), (7, .int .i64 ((i + 1 : Nat) : Int))], [(0, bwR 2 k2 n2), (2, bwB k2 l2)]⟩ : DS)) : Wt Try.f76 [0, 1] hout (.tup []) (Aa Try.f76 0) (⟨[(0, .at 0 []), (6, .int .i64 q), (7, .int .i64 (i : Int))], [(0, bwR 1 k n), (1, bwB k l)]⟩ : DS) := by
 refine W.sgA 0 [(0, aT), (2, cC true [(0, 0), (1, 1)] c1), (3, aV (I6 ↑(i + 1)))] [(0, 0), (1, 1), (98, 2)] (⟨[(0, .at 0 []), (6, .int .i64 q), (7, .int .i64 ((i + 1 : Nat) : Int))], [(0, bwR 2 k2 n2), (2, bwB k2 l2)]⟩ : DS) [decide ((i:Int) < (q:Int)) = true, _, I6 (IntKind.wrap .i64 ((i:Int) + 1)) = I6 ↑(i + 1)] (ac (dT (by omega)) (ac (c1) (ao (wj (by omega))))) ?_
 exact hw
theorem Q4 {q i : Nat} {n k n2 k2 : Nat} {l l2 : Liz} {hout : Lrz} (hi : i < q) (hq : q ≤ 65536) (hn : n ≤ 10000000) (hn2 : n2 ≤ 10000000) (c1 : Pt 88 [(0, bwR 1 k n), (1, bwB k l)] [.at 0 [], .int .u64 1] [(0, bwR 1 k2 n2), (1, bwB k2 l2)] (.tup [])) (hw : Wt Try.f76 [0, 1] hout (.tup []) (Aa Try.f76 0) (⟨[(0, .at 0 []), (6, .int .i64 q), (7, .int .i64 ((i + 1 : Nat) : Int))], [(0, bwR 2 k2 n2), (2, bwB k2 l2)]⟩ : DS)) : Wt Try.f76 [0, 1] hout (.tup []) (Aa Try.f76 0) (⟨[(0, .at 0 []), (6, .int .i64 q), (7, .int .i64 (i : Int))], [(0, bwR 2 k n), (2, bwB k l)]⟩ : DS) := by
 refine W.sgA 0 [(0, aT), (2, cC true [(0, 0), (2, 1)] c1), (3, aV (I6 ↑(i + 1)))] [(0, 0), (1, 1), (2, 2)] (⟨[(0, .at 0 []), (6, .int .i64 q), (7, .int .i64 ((i + 1 : Nat) : Int))], [(0, bwR 2 k2 n2), (2, bwB k2 l2)]⟩ : DS) [decide ((i:Int) < (q:Int)) = true, _, I6 (IntKind.wrap .i64 ((i:Int) + 1)) = I6 ↑(i + 1)] (ac (dT (by omega)) (ac (c1) (ao (wj (by omega))))) ?_
 exact hw
theorem QX {q i : Nat} {n k n2 k2 : Nat} {l l2 : Liz} {hout : Lrz} (hi : i < q) (hq : q ≤ 65536) (hn : n ≤ 10000000) (hn2 : n2 ≤ 10000000) (c1 : Pt 88 [(0, bwR 1 k n), (1, bwB k l)] [.at 0 [], .int .u64 1] [(0, bwR 2 k2 n2), (2, bwB k2 l2)] (.tup [])) (hw : Wt Try.f76 [0, 1] hout (.tup []) (Aa Try.f76 0) (⟨[(0, .at 0 []), (6, .int .i64 q), (7, .int .i64 ((i + 1 : Nat) : Int))], [(0, bwR 2 k2 n2), (2, bwB k2 l2)]⟩ : DS)) : Wt Try.f76 [0, 1] hout (.tup []) (Aa Try.f76 0) (⟨[(0, .at 0 []), (6, .int .i64 q), (7, .int .i64 (i : Int))], [(0, bwR 2 k n), (2, bwB k l)]⟩ : DS) := by
 refine W.sgA 0 [(0, aT), (2, cC true [(0, 0), (2, 1)] c1), (3, aV (I6 ↑(i + 1)))] [(0, 0), (1, 1), (98, 2)] (⟨[(0, .at 0 []), (6, .int .i64 q), (7, .int .i64 ((i + 1 : Nat) : Int))], [(0, bwR 2 k2 n2), (2, bwB k2 l2)]⟩ : DS) [decide ((i:Int) < (q:Int)) = true, _, I6 (IntKind.wrap .i64 ((i:Int) + 1)) = I6 ↑(i + 1)] (ac (dT (by omega)) (ac (c1) (ao (wj (by omega))))) ?_
 exact hw
theorem W_bwOXE {q : Nat} {n k : Nat} {l : Liz} : Wt Try.f76 [0] [(0, bwE)] (.tup []) (Aa Try.f76 0) (⟨[(0, .at 0 []), (6, .int .i64 q), (7, .int .i64 (q : Int))], [(0, bwE)]⟩ : DS) := by
 refine W.rtA [(0, aF)] [(0, 0)] [decide ((q:Int) < (q:Int)) = false] (ao (dF (by omega)))
theorem W_bwOX0 {q : Nat} {n k : Nat} {l : Liz} : Wt Try.f76 [0] [(0, bwR 1 k n), (1, bwB k l)] (.tup []) (Aa Try.f76 0) (⟨[(0, .at 0 []), (6, .int .i64 q), (7, .int .i64 (q : Int))], [(0, bwR 1 k n), (1, bwB k l)]⟩ : DS) := by
 refine W.rtA [(0, aF)] [(0, 0), (1, 1)] [decide ((q:Int) < (q:Int)) = false] (ao (dF (by omega)))
theorem W_bwOX1 {q : Nat} {n k : Nat} {l : Liz} : Wt Try.f76 [0, 1] [(0, bwR 1 k n), (1, bwB k l)] (.tup []) (Aa Try.f76 0) (⟨[(0, .at 0 []), (6, .int .i64 q), (7, .int .i64 (q : Int))], [(0, bwR 1 k n), (1, bwB k l)]⟩ : DS) := by
 refine W.rtA [(0, aF)] [(0, 0), (1, 1)] [decide ((q:Int) < (q:Int)) = false] (ao (dF (by omega)))
theorem W_bwOX2 {q : Nat} {n k : Nat} {l : Liz} : Wt Try.f76 [0, 1] [(0, bwR 2 k n), (2, bwB k l)] (.tup []) (Aa Try.f76 0) (⟨[(0, .at 0 []), (6, .int .i64 q), (7, .int .i64 (q : Int))], [(0, bwR 2 k n), (2, bwB k l)]⟩ : DS) := by
 refine W.rtA [(0, aF)] [(0, 0), (1, 1), (2, 2)] [decide ((q:Int) < (q:Int)) = false] (ao (dF (by omega)))
theorem KM {q n k : Nat} {l : Liz} {hout : Lrz} (hq : q ≤ 65536) (hw : Wt Try.f76 [0] hout (.tup []) (Aa Try.f76 0) (⟨[(0, .at 0 []), (6, .int .i64 q), (7, .int .i64 0)], [(0, bwE)]⟩ : DS)) : Pt 76 [(0, bwE)] [.at 0 [], .int .i64 q] hout (.tup []) := by
 refine pO Try.func76 (by kernel_rfl) ?_
 have hx : mx (q : Int) 0 = (q : Int) := by unfold mx; split <;> omega
 have hy : mn (q : Int) 65536 = (q : Int) := by unfold mn; split <;> omega
 refine W.sgA 0 [(1, aV (I6 q)), (2, aV (I6 q))] [(0, 0)] (⟨[(0, .at 0 []), (6, .int .i64 q), (7, .int .i64 0)], [(0, bwE)]⟩ : DS) [I6 (mx (q:Int) (0 : Int)) = I6 q, I6 (mn (q:Int) (65536 : Int)) = I6 q] (ac (cg (hx)) (ao (cg (hy)))) ?_
 exact hw
theorem Kv {q n k : Nat} {l : Liz} {hout : Lrz} (hq : q ≤ 65536) (hw : Wt Try.f76 [0, 1] hout (.tup []) (Aa Try.f76 0) (⟨[(0, .at 0 []), (6, .int .i64 q), (7, .int .i64 0)], [(0, bwR 1 k n), (1, bwB k l)]⟩ : DS)) : Pt 76 [(0, bwR 1 k n), (1, bwB k l)] [.at 0 [], .int .i64 q] hout (.tup []) := by
 refine pO Try.func76 (by kernel_rfl) ?_
 have hx : mx (q : Int) 0 = (q : Int) := by unfold mx; split <;> omega
 have hy : mn (q : Int) 65536 = (q : Int) := by unfold mn; split <;> omega
 refine W.sgA 0 [(1, aV (I6 q)), (2, aV (I6 q))] [(0, 0), (1, 1)] (⟨[(0, .at 0 []), (6, .int .i64 q), (7, .int .i64 0)], [(0, bwR 1 k n), (1, bwB k l)]⟩ : DS) [I6 (mx (q:Int) (0 : Int)) = I6 q, I6 (mn (q:Int) (65536 : Int)) = I6 q] (ac (cg (hx)) (ao (cg (hy)))) ?_
 exact hw
theorem Q0 {v i : Nat} {n k n2 k2 : Nat} {l l2 : Liz} {hout : Lrz} (hi : i < 64) (hv : v < 18446744073709551616) (hn : n ≤ 10000000) (hn2 : n2 ≤ 10000000) (c1 : Pt 88 [(0, bwE)] [.at 0 [], .int .u64 ((v / 2 ^ i : Nat) : Int)] [(0, bwR 1 k2 n2), (1, bwB k2 l2)] (.tup [])) (hw : Wt Try.f77 [0] hout (.tup []) (Aa Try.f77 0) (⟨[(0, .at 0 []), (1, .int .u64 v), (6, .int .i64 ((i : Int) - 1))], [(0, bwR 1 k2 n2), (1, bwB k2 l2)]⟩ : DS)) : Wt Try.f77 [0] hout (.tup []) (Aa Try.f77 0) (⟨[(0, .at 0 []), (1, .int .u64 v), (6, .int .i64 (i : Int))], [(0, bwE)]⟩ : DS) := by
 have hx : v / 2 ^ i < 18446744073709551616 := Nat.lt_of_le_of_lt (Nat.div_le_self _ _) hv
 refine W.sgA 0 [(5, aV (U6 ↑(v / 2 ^ i))), (6, cC true [(0, 0)] c1), (8, aV (I6 ((i:Int) - 1)))] [(0, 0), (161, 1)] (⟨[(0, .at 0 []), (1, .int .u64 v), (6, .int .i64 ((i : Int) - 1))], [(0, bwR 1 k2 n2), (1, bwB k2 l2)]⟩ : DS) [U6 (Int.fdiv (v:Int) ((2 : Int) ^ min i 64)) = U6 ↑(v / 2 ^ i), 0 ≤ (i:Int), _, I6 (IntKind.wrap .i64 ((i:Int) - 1)) = I6 ((i:Int) - 1)] (ac (cg (CK rfl rfl (by omega))) (ac (by omega) (ac (c1) (ao (wj (by omega)))))) ?_
 exact hw
theorem R4 {v i : Nat} {n k n2 k2 : Nat} {l l2 : Liz} {hout : Lrz} (hi : i < 64) (hv : v < 18446744073709551616) (hn : n ≤ 10000000) (hn2 : n2 ≤ 10000000) (c1 : Pt 88 [(0, bwR 1 k n), (1, bwB k l)] [.at 0 [], .int .u64 ((v / 2 ^ i : Nat) : Int)] [(0, bwR 1 k2 n2), (1, bwB k2 l2)] (.tup [])) (hw : Wt Try.f77 [0] hout (.tup []) (Aa Try.f77 0) (⟨[(0, .at 0 []), (1, .int .u64 v), (6, .int .i64 ((i : Int) - 1))], [(0, bwR 1 k2 n2), (1, bwB k2 l2)]⟩ : DS)) : Wt Try.f77 [0] hout (.tup []) (Aa Try.f77 0) (⟨[(0, .at 0 []), (1, .int .u64 v), (6, .int .i64 (i : Int))], [(0, bwR 1 k n), (1, bwB k l)]⟩ : DS) := by
 have hx : v / 2 ^ i < 18446744073709551616 := Nat.lt_of_le_of_lt (Nat.div_le_self _ _) hv
 refine W.sgA 0 [(5, aV (U6 ↑(v / 2 ^ i))), (6, cC true [(0, 0), (1, 1)] c1), (8, aV (I6 ((i:Int) - 1)))] [(0, 0), (1, 1)] (⟨[(0, .at 0 []), (1, .int .u64 v), (6, .int .i64 ((i : Int) - 1))], [(0, bwR 1 k2 n2), (1, bwB k2 l2)]⟩ : DS) [U6 (Int.fdiv (v:Int) ((2 : Int) ^ min i 64)) = U6 ↑(v / 2 ^ i), 0 ≤ (i:Int), _, I6 (IntKind.wrap .i64 ((i:Int) - 1)) = I6 ((i:Int) - 1)] (ac (cg (CK rfl rfl (by omega))) (ac (by omega) (ac (c1) (ao (wj (by omega)))))) ?_
 exact hw
theorem Rx {v i : Nat} {n k n2 k2 : Nat} {l l2 : Liz} {hout : Lrz} (hi : i < 64) (hv : v < 18446744073709551616) (hn : n ≤ 10000000) (hn2 : n2 ≤ 10000000) (c1 : Pt 88 [(0, bwR 1 k n), (1, bwB k l)] [.at 0 [], .int .u64 ((v / 2 ^ i : Nat) : Int)] [(0, bwR 2 k2 n2), (2, bwB k2 l2)] (.tup [])) (hw : Wt Try.f77 [0] hout (.tup []) (Aa Try.f77 0) (⟨[(0, .at 0 []), (1, .int .u64 v), (6, .int .i64 ((i : Int) - 1))], [(0, bwR 1 k2 n2), (1, bwB k2 l2)]⟩ : DS)) : Wt Try.f77 [0] hout (.tup []) (Aa Try.f77 0) (⟨[(0, .at 0 []), (1, .int .u64 v), (6, .int .i64 (i : Int))], [(0, bwR 1 k n), (1, bwB k l)]⟩ : DS) := by
 have hx : v / 2 ^ i < 18446744073709551616 := Nat.lt_of_le_of_lt (Nat.div_le_self _ _) hv
 refine W.sgA 0 [(5, aV (U6 ↑(v / 2 ^ i))), (6, cC true [(0, 0), (1, 1)] c1), (8, aV (I6 ((i:Int) - 1)))] [(0, 0), (162, 1)] (⟨[(0, .at 0 []), (1, .int .u64 v), (6, .int .i64 ((i : Int) - 1))], [(0, bwR 1 k2 n2), (1, bwB k2 l2)]⟩ : DS) [U6 (Int.fdiv (v:Int) ((2 : Int) ^ min i 64)) = U6 ↑(v / 2 ^ i), 0 ≤ (i:Int), _, I6 (IntKind.wrap .i64 ((i:Int) - 1)) = I6 ((i:Int) - 1)] (ac (cg (CK rfl rfl (by omega))) (ac (by omega) (ac (c1) (ao (wj (by omega)))))) ?_
 exact hw
theorem LY {v i : Nat} {n k n2 k2 : Nat} {l l2 : Liz} {hout : Lrz} (hi : i < 64) (hv : v < 18446744073709551616) (hn : n ≤ 10000000) (hn2 : n2 ≤ 10000000) (c1 : Pt 88 [(0, bwR 1 k n), (1, bwB k l)] [.at 0 [], .int .u64 ((v / 2 ^ i : Nat) : Int)] [(0, bwR 1 k2 n2), (1, bwB k2 l2)] (.tup [])) (hw : Wt Try.f77 [0, 1] hout (.tup []) (Aa Try.f77 0) (⟨[(0, .at 0 []), (1, .int .u64 v), (6, .int .i64 ((i : Int) - 1))], [(0, bwR 1 k2 n2), (1, bwB k2 l2)]⟩ : DS)) : Wt Try.f77 [0, 1] hout (.tup []) (Aa Try.f77 0) (⟨[(0, .at 0 []), (1, .int .u64 v), (6, .int .i64 (i : Int))], [(0, bwR 1 k n), (1, bwB k l)]⟩ : DS) := by
 have hx : v / 2 ^ i < 18446744073709551616 := Nat.lt_of_le_of_lt (Nat.div_le_self _ _) hv
 refine W.sgA 0 [(5, aV (U6 ↑(v / 2 ^ i))), (6, cC true [(0, 0), (1, 1)] c1), (8, aV (I6 ((i:Int) - 1)))] [(0, 0), (1, 1)] (⟨[(0, .at 0 []), (1, .int .u64 v), (6, .int .i64 ((i : Int) - 1))], [(0, bwR 1 k2 n2), (1, bwB k2 l2)]⟩ : DS) [U6 (Int.fdiv (v:Int) ((2 : Int) ^ min i 64)) = U6 ↑(v / 2 ^ i), 0 ≤ (i:Int), _, I6 (IntKind.wrap .i64 ((i:Int) - 1)) = I6 ((i:Int) - 1)] (ac (cg (CK rfl rfl (by omega))) (ac (by omega) (ac (c1) (ao (wj (by omega)))))) ?_
 exact hw
theorem Q3 {v i : Nat} {n k n2 k2 : Nat} {l l2 : Liz} {hout : Lrz} (hi : i < 64) (hv : v < 18446744073709551616) (hn : n ≤ 10000000) (hn2 : n2 ≤ 10000000) (c1 : Pt 88 [(0, bwR 1 k n), (1, bwB k l)] [.at 0 [], .int .u64 ((v / 2 ^ i : Nat) : Int)] [(0, bwR 2 k2 n2), (2, bwB k2 l2)] (.tup [])) (hw : Wt Try.f77 [0, 1] hout (.tup []) (Aa Try.f77 0) (⟨[(0, .at 0 []), (1, .int .u64 v), (6, .int .i64 ((i : Int) - 1))], [(0, bwR 2 k2 n2), (2, bwB k2 l2)]⟩ : DS)) : Wt Try.f77 [0, 1] hout (.tup []) (Aa Try.f77 0) (⟨[(0, .at 0 []), (1, .int .u64 v), (6, .int .i64 (i : Int))], [(0, bwR 1 k n), (1, bwB k l)]⟩ : DS) := by
 have hx : v / 2 ^ i < 18446744073709551616 := Nat.lt_of_le_of_lt (Nat.div_le_self _ _) hv
 refine W.sgA 0 [(5, aV (U6 ↑(v / 2 ^ i))), (6, cC true [(0, 0), (1, 1)] c1), (8, aV (I6 ((i:Int) - 1)))] [(0, 0), (1, 1), (162, 2)] (⟨[(0, .at 0 []), (1, .int .u64 v), (6, .int .i64 ((i : Int) - 1))], [(0, bwR 2 k2 n2), (2, bwB k2 l2)]⟩ : DS) [U6 (Int.fdiv (v:Int) ((2 : Int) ^ min i 64)) = U6 ↑(v / 2 ^ i), 0 ≤ (i:Int), _, I6 (IntKind.wrap .i64 ((i:Int) - 1)) = I6 ((i:Int) - 1)] (ac (cg (CK rfl rfl (by omega))) (ac (by omega) (ac (c1) (ao (wj (by omega)))))) ?_
 exact hw
theorem QS {v i : Nat} {n k n2 k2 : Nat} {l l2 : Liz} {hout : Lrz} (hi : i < 64) (hv : v < 18446744073709551616) (hn : n ≤ 10000000) (hn2 : n2 ≤ 10000000) (c1 : Pt 88 [(0, bwR 1 k n), (1, bwB k l)] [.at 0 [], .int .u64 ((v / 2 ^ i : Nat) : Int)] [(0, bwR 1 k2 n2), (1, bwB k2 l2)] (.tup [])) (hw : Wt Try.f77 [0, 1] hout (.tup []) (Aa Try.f77 0) (⟨[(0, .at 0 []), (1, .int .u64 v), (6, .int .i64 ((i : Int) - 1))], [(0, bwR 2 k2 n2), (2, bwB k2 l2)]⟩ : DS)) : Wt Try.f77 [0, 1] hout (.tup []) (Aa Try.f77 0) (⟨[(0, .at 0 []), (1, .int .u64 v), (6, .int .i64 (i : Int))], [(0, bwR 2 k n), (2, bwB k l)]⟩ : DS) := by
 have hx : v / 2 ^ i < 18446744073709551616 := Nat.lt_of_le_of_lt (Nat.div_le_self _ _) hv
 refine W.sgA 0 [(5, aV (U6 ↑(v / 2 ^ i))), (6, cC true [(0, 0), (2, 1)] c1), (8, aV (I6 ((i:Int) - 1)))] [(0, 0), (1, 1), (2, 2)] (⟨[(0, .at 0 []), (1, .int .u64 v), (6, .int .i64 ((i : Int) - 1))], [(0, bwR 2 k2 n2), (2, bwB k2 l2)]⟩ : DS) [U6 (Int.fdiv (v:Int) ((2 : Int) ^ min i 64)) = U6 ↑(v / 2 ^ i), 0 ≤ (i:Int), _, I6 (IntKind.wrap .i64 ((i:Int) - 1)) = I6 ((i:Int) - 1)] (ac (cg (CK rfl rfl (by omega))) (ac (by omega) (ac (c1) (ao (wj (by omega)))))) ?_
 exact hw
theorem Rs {v i : Nat} {n k n2 k2 : Nat} {l l2 : Liz} {hout : Lrz} (hi : i < 64) (hv : v < 18446744073709551616) (hn : n ≤ 10000000) (hn2 : n2 ≤ 10000000) (c1 : Pt 88 [(0, bwR 1 k n), (1, bwB k l)] [.at 0 [], .int .u64 ((v / 2 ^ i : Nat) : Int)] [(0, bwR 2 k2 n2), (2, bwB k2 l2)] (.tup [])) (hw : Wt Try.f77 [0, 1] hout (.tup []) (Aa Try.f77 0) (⟨[(0, .at 0 []), (1, .int .u64 v), (6, .int .i64 ((i : Int) - 1))], [(0, bwR 2 k2 n2), (2, bwB k2 l2)]⟩ : DS)) : Wt Try.f77 [0, 1] hout (.tup []) (Aa Try.f77 0) (⟨[(0, .at 0 []), (1, .int .u64 v), (6, .int .i64 (i : Int))], [(0, bwR 2 k n), (2, bwB k l)]⟩ : DS) := by
 have hx : v / 2 ^ i < 18446744073709551616 := Nat.lt_of_le_of_lt (Nat.div_le_self _ _) hv
 refine W.sgA 0 [(5, aV (U6 ↑(v / 2 ^ i))), (6, cC true [(0, 0), (2, 1)] c1), (8, aV (I6 ((i:Int) - 1)))] [(0, 0), (1, 1), (162, 2)] (⟨[(0, .at 0 []), (1, .int .u64 v), (6, .int .i64 ((i : Int) - 1))], [(0, bwR 2 k2 n2), (2, bwB k2 l2)]⟩ : DS) [U6 (Int.fdiv (v:Int) ((2 : Int) ^ min i 64)) = U6 ↑(v / 2 ^ i), 0 ≤ (i:Int), _, I6 (IntKind.wrap .i64 ((i:Int) - 1)) = I6 ((i:Int) - 1)] (ac (cg (CK rfl rfl (by omega))) (ac (by omega) (ac (c1) (ao (wj (by omega)))))) ?_
 exact hw
theorem W_bwPX0 {v : Nat} {n k : Nat} {l : Liz} : Wt Try.f77 [0] [(0, bwR 1 k n), (1, bwB k l)] (.tup []) (Aa Try.f77 0) (⟨[(0, .at 0 []), (1, .int .u64 v), (6, .int .i64 (-1))], [(0, bwR 1 k n), (1, bwB k l)]⟩ : DS) := by
 refine W.rtA [] [(0, 0), (1, 1)] [] trivial
theorem W_bwPX1 {v : Nat} {n k : Nat} {l : Liz} : Wt Try.f77 [0, 1] [(0, bwR 1 k n), (1, bwB k l)] (.tup []) (Aa Try.f77 0) (⟨[(0, .at 0 []), (1, .int .u64 v), (6, .int .i64 (-1))], [(0, bwR 1 k n), (1, bwB k l)]⟩ : DS) := by
 refine W.rtA [] [(0, 0), (1, 1)] [] trivial
theorem W_bwPX2 {v : Nat} {n k : Nat} {l : Liz} : Wt Try.f77 [0, 1] [(0, bwR 2 k n), (2, bwB k l)] (.tup []) (Aa Try.f77 0) (⟨[(0, .at 0 []), (1, .int .u64 v), (6, .int .i64 (-1))], [(0, bwR 2 k n), (2, bwB k l)]⟩ : DS) := by
 refine W.rtA [] [(0, 0), (1, 1), (2, 2)] [] trivial
theorem Pq {v w n k : Nat} {l : Liz} {hout : Lrz} (hw0 : w + 1 ≤ 64) (hw : Wt Try.f77 [0] hout (.tup []) (Aa Try.f77 0) (⟨[(0, .at 0 []), (1, .int .u64 v), (6, .int .i64 (w : Int))], [(0, bwE)]⟩ : DS)) : Pt 77 [(0, bwE)] [.at 0 [], .int .u64 v, .int .i64 ((w + 1 : Nat) : Int)] hout (.tup []) := by
 refine pO Try.func77 (by kernel_rfl) ?_
 have hx : mx ((w + 1 : Nat) : Int) 0 = ((w + 1 : Nat) : Int) := by unfold mx; split <;> omega
 have hy : mn ((w + 1 : Nat) : Int) 64 = ((w + 1 : Nat) : Int) := by unfold mn; split <;> omega
 refine W.sgA 0 [(1, aV (I6 ↑(w + 1))), (2, aV (I6 ↑(w + 1))), (3, aV (I6 w))] [(0, 0)] (⟨[(0, .at 0 []), (1, .int .u64 v), (6, .int .i64 (w : Int))], [(0, bwE)]⟩ : DS) [I6 (mx (↑(w + 1) : Int) (0 : Int)) = I6 ↑(w + 1), I6 (mn (↑(w + 1) : Int) (64 : Int)) = I6 ↑(w + 1), I6 (IntKind.wrap .i64 ((↑(w + 1) : Int) - 1)) = I6 w] (ac (cg (hx)) (ac (cg (hy)) (ao (cg (Ab (by omega) (by omega) (by omega)))))) ?_
 exact hw
theorem H6 {v w n k : Nat} {l : Liz} {hout : Lrz} (hw0 : w + 1 ≤ 64) (hw : Wt Try.f77 [0, 1] hout (.tup []) (Aa Try.f77 0) (⟨[(0, .at 0 []), (1, .int .u64 v), (6, .int .i64 (w : Int))], [(0, bwR 1 k n), (1, bwB k l)]⟩ : DS)) : Pt 77 [(0, bwR 1 k n), (1, bwB k l)] [.at 0 [], .int .u64 v, .int .i64 ((w + 1 : Nat) : Int)] hout (.tup []) := by
 refine pO Try.func77 (by kernel_rfl) ?_
 have hx : mx ((w + 1 : Nat) : Int) 0 = ((w + 1 : Nat) : Int) := by unfold mx; split <;> omega
 have hy : mn ((w + 1 : Nat) : Int) 64 = ((w + 1 : Nat) : Int) := by unfold mn; split <;> omega
 refine W.sgA 0 [(1, aV (I6 ↑(w + 1))), (2, aV (I6 ↑(w + 1))), (3, aV (I6 w))] [(0, 0), (1, 1)] (⟨[(0, .at 0 []), (1, .int .u64 v), (6, .int .i64 (w : Int))], [(0, bwR 1 k n), (1, bwB k l)]⟩ : DS) [I6 (mx (↑(w + 1) : Int) (0 : Int)) = I6 ↑(w + 1), I6 (mn (↑(w + 1) : Int) (64 : Int)) = I6 ↑(w + 1), I6 (IntKind.wrap .i64 ((↑(w + 1) : Int) - 1)) = I6 w] (ac (cg (hx)) (ac (cg (hy)) (ao (cg (Ab (by omega) (by omega) (by omega)))))) ?_
 exact hw
end Go.Proofs
namespace Go.Proofs
open Go Go.Pe Go.Pm
set_option linter.unusedVariables false
def byt (g : Nat → Nat) : Nat := g 0 * 128 + g 1 * 64 + g 2 * 32 + g 3 * 16 + g 4 * 8 + g 5 * 4 + g 6 * 2 + g 7
def pk (B : List Nat) : List Int := (List.range ((B.length + 7) / 8)).map fun i => ((byt fun j => B.getD (8 * i + j) 0 : Nat) : Int)
def Bits (B : List Nat) : Prop := ∀ i, B.getD i 0 < 2
theorem Bits.nil : Bits [] := fun i => by simp
theorem Bits.append {A B : List Nat} (hA : Bits A) (hB : Bits B) : Bits (A ++ B) := fun i => by
 rcases Nat.lt_or_ge i A.length with h | h
 ·rw [List.getD_eq_getElem?_getD, List.getElem?_append_left h, ← List.getD_eq_getElem?_getD]; exact hA i
 ·rw [List.getD_eq_getElem?_getD, List.getElem?_append_right h, ← List.getD_eq_getElem?_getD]; exact hB _
theorem Bits.one (x : Nat) : Bits [x % 2] := fun i => by
 cases i with
 | zero => exact Nat.mod_lt _ (by decide)
 | succ i => simp
theorem Bc (B : List Nat) : (pk B).length = (B.length + 7) / 8 := by simp [pk]
theorem byt_lt {g : Nat → Nat} (h : ∀ j, g j < 2) : byt g < 256 := by
 have h0 := h 0; have h1 := h 1; have h2 := h 2; have h3 := h 3; have h4 := h 4; have h5 := h 5; have h6 := h 6; have h7 := h 7
 unfold byt
 omega
theorem G6 {B : List Nat} (h : Bits B) : Bytes (pk B) := fun x hx => by
 unfold pk at hx
 obtain ⟨i, -, rfl⟩ := List.mem_map.1 hx
 have := byt_lt fun j => h (8 * i + j)
 omega
theorem Gi (B : List Nat) {i : Nat} (hi : i < (B.length + 7) / 8) : (pk B)[i]? = some ((byt fun j => B.getD (8 * i + j) 0 : Nat) : Int) := by
 simp [pk, hi]
theorem FL (B : List Nat) (b i : Nat) : (B ++ [b]).getD i 0 = if i = B.length then b else B.getD i 0 := by
 rcases Nat.lt_trichotomy i B.length with h | h | h
 ·rw [if_neg (by omega), List.getD_eq_getElem?_getD, List.getElem?_append_left h, ← List.getD_eq_getElem?_getD]
 ·subst h; simp
 ·rw [if_neg (by omega)]
  rw [List.getD_eq_getElem?_getD, List.getD_eq_getElem?_getD, List.getElem?_eq_none (by simp; omega), List.getElem?_eq_none (by omega)]
theorem Ii {f g : Nat → Nat} (h : ∀ j, j < 8 → f j = g j) : byt f = byt g := by
 unfold byt
 rw [h 0 (by omega), h 1 (by omega), h 2 (by omega), h 3 (by omega), h 4 (by omega), h 5 (by omega), h 6 (by omega), h 7 (by omega)]
theorem De {B : List Nat} {i : Nat} (h : B.length ≤ i) : B.getD i 0 = 0 := by
 rw [List.getD_eq_getElem?_getD, List.getElem?_eq_none h]
 rfl
theorem Mf {B : List Nat} (b : Nat) (h : B.length % 8 = 0) : pk (B ++ [b]) = pk B ++ [((b * 128 : Nat) : Int)] := by
 apply List.ext_getElem?
 intro i
 have hl := Bc B
 have hl2 := Bc (B ++ [b])
 rw [List.length_append, List.length_singleton] at hl2
 rcases Nat.lt_trichotomy i ((B.length + 7) / 8) with hi | hi | hi
 ·rw [List.getElem?_append_left (by omega), Gi B hi, Gi _ (by rw [List.length_append, List.length_singleton]; omega)]
  congr 2
  refine Ii fun j hj => ?_
  rw [FL, if_neg (by omega)]
 ·rw [List.getElem?_append_right (by omega), show i - (pk B).length = 0 by omega, Gi _ (by rw [List.length_append, List.length_singleton]; omega)]
  show some _ = some _
  congr 2
  unfold byt
  simp only [FL]
  rw [if_pos (by omega), if_neg (by omega), if_neg (by omega), if_neg (by omega), if_neg (by omega), if_neg (by omega), if_neg (by omega), if_neg (by omega)]
  rw [De (by omega), De (by omega), De (by omega), De (by omega), De (by omega), De (by omega), De (by omega)]
  omega
 ·rw [List.getElem?_eq_none (by omega), List.getElem?_eq_none (by rw [List.length_append, List.length_singleton]; omega)]
theorem Gr {i a b : Nat} (h : b < 2 ^ i) : 2 ^ i * a ||| b = 2 ^ i * a + b := (Nat.two_pow_add_eq_or_of_lt h a).symm
theorem byt_or {g : Nat → Nat} {r b : Nat} (hr : r < 8) (hg : ∀ j, r ≤ j → g j = 0) (hb : b < 2) : byt (fun j => if j = r then b else g j) = byt g ||| b * 2 ^ (7 - r) % 256 := by
 unfold byt
 dsimp only
 match r, hr with
 | 0, _ =>
  rw [hg 0 (by omega), hg 1 (by omega), hg 2 (by omega), hg 3 (by omega), hg 4 (by omega), hg 5 (by omega), hg 6 (by omega), hg 7 (by omega)]
  simp only [if_true, show ¬ (1 : Nat) = 0 by omega, show ¬ (2 : Nat) = 0 by omega, show ¬ (3 : Nat) = 0 by omega, show ¬ (4 : Nat) = 0 by omega, show ¬ (5 : Nat) = 0 by omega, show ¬ (6 : Nat) = 0 by omega, show ¬ (7 : Nat) = 0 by omega, if_false]
  have : b = 0 ∨ b = 1 := by omega
  rcases this with rfl | rfl <;> rfl
 | 1, _ =>
  rw [hg 1 (by omega), hg 2 (by omega), hg 3 (by omega), hg 4 (by omega), hg 5 (by omega), hg 6 (by omega), hg 7 (by omega)]
  have e := Gr (i := 7) (a := g 0) (b := b * 2 ^ (7 - 1) % 256) (by omega)
  simp only [if_true, show ¬ (0 : Nat) = 1 by omega, show ¬ (2 : Nat) = 1 by omega, show ¬ (3 : Nat) = 1 by omega, show ¬ (4 : Nat) = 1 by omega, show ¬ (5 : Nat) = 1 by omega, show ¬ (6 : Nat) = 1 by omega, show ¬ (7 : Nat) = 1 by omega, if_false]
  rw [show g 0 * 128 + 0 * 64 + 0 * 32 + 0 * 16 + 0 * 8 + 0 * 4 + 0 * 2 + 0 = 2 ^ 7 * g 0 by omega, e]
  omega
 | 2, _ =>
  rw [hg 2 (by omega), hg 3 (by omega), hg 4 (by omega), hg 5 (by omega), hg 6 (by omega), hg 7 (by omega)]
  have e := Gr (i := 6) (a := g 0 * 2 + g 1) (b := b * 2 ^ (7 - 2) % 256) (by omega)
  simp only [if_true, show ¬ (0 : Nat) = 2 by omega, show ¬ (1 : Nat) = 2 by omega, show ¬ (3 : Nat) = 2 by omega, show ¬ (4 : Nat) = 2 by omega, show ¬ (5 : Nat) = 2 by omega, show ¬ (6 : Nat) = 2 by omega, show ¬ (7 : Nat) = 2 by omega, if_false]
  rw [show g 0 * 128 + g 1 * 64 + 0 * 32 + 0 * 16 + 0 * 8 + 0 * 4 + 0 * 2 + 0 = 2 ^ 6 * (g 0 * 2 + g 1) by omega, e]
  omega
 | 3, _ =>
  rw [hg 3 (by omega), hg 4 (by omega), hg 5 (by omega), hg 6 (by omega), hg 7 (by omega)]
  have e := Gr (i := 5) (a := g 0 * 4 + g 1 * 2 + g 2) (b := b * 2 ^ (7 - 3) % 256) (by omega)
  simp only [if_true, show ¬ (0 : Nat) = 3 by omega, show ¬ (1 : Nat) = 3 by omega, show ¬ (2 : Nat) = 3 by omega, show ¬ (4 : Nat) = 3 by omega, show ¬ (5 : Nat) = 3 by omega, show ¬ (6 : Nat) = 3 by omega, show ¬ (7 : Nat) = 3 by omega, if_false]
  rw [show g 0 * 128 + g 1 * 64 + g 2 * 32 + 0 * 16 + 0 * 8 + 0 * 4 + 0 * 2 + 0 = 2 ^ 5 * (g 0 * 4 + g 1 * 2 + g 2) by omega, e]
  omega
 | 4, _ =>
  rw [hg 4 (by omega), hg 5 (by omega), hg 6 (by omega), hg 7 (by omega)]
  have e := Gr (i := 4) (a := g 0 * 8 + g 1 * 4 + g 2 * 2 + g 3) (b := b * 2 ^ (7 - 4) % 256) (by omega)
  simp only [if_true, show ¬ (0 : Nat) = 4 by omega, show ¬ (1 : Nat) = 4 by omega, show ¬ (2 : Nat) = 4 by omega, show ¬ (3 : Nat) = 4 by omega, show ¬ (5 : Nat) = 4 by omega, show ¬ (6 : Nat) = 4 by omega, show ¬ (7 : Nat) = 4 by omega, if_false]
  rw [show g 0 * 128 + g 1 * 64 + g 2 * 32 + g 3 * 16 + 0 * 8 + 0 * 4 + 0 * 2 + 0 = 2 ^ 4 * (g 0 * 8 + g 1 * 4 + g 2 * 2 + g 3) by omega, e]
  omega
 | 5, _ =>
  rw [hg 5 (by omega), hg 6 (by omega), hg 7 (by omega)]
  have e := Gr (i := 3) (a := g 0 * 16 + g 1 * 8 + g 2 * 4 + g 3 * 2 + g 4) (b := b * 2 ^ (7 - 5) % 256) (by omega)
  simp only [if_true, show ¬ (0 : Nat) = 5 by omega, show ¬ (1 : Nat) = 5 by omega, show ¬ (2 : Nat) = 5 by omega, show ¬ (3 : Nat) = 5 by omega, show ¬ (4 : Nat) = 5 by omega, show ¬ (6 : Nat) = 5 by omega, show ¬ (7 : Nat) = 5 by omega, if_false]
  rw [show g 0 * 128 + g 1 * 64 + g 2 * 32 + g 3 * 16 + g 4 * 8 + 0 * 4 + 0 * 2 + 0 = 2 ^ 3 * (g 0 * 16 + g 1 * 8 + g 2 * 4 + g 3 * 2 + g 4) by omega, e]
  omega
 | 6, _ =>
  rw [hg 6 (by omega), hg 7 (by omega)]
  have e := Gr (i := 2) (a := g 0 * 32 + g 1 * 16 + g 2 * 8 + g 3 * 4 + g 4 * 2 + g 5) (b := b * 2 ^ (7 - 6) % 256) (by omega)
  simp only [if_true, show ¬ (0 : Nat) = 6 by omega, show ¬ (1 : Nat) = 6 by omega, show ¬ (2 : Nat) = 6 by omega, show ¬ (3 : Nat) = 6 by omega, show ¬ (4 : Nat) = 6 by omega, show ¬ (5 : Nat) = 6 by omega, show ¬ (7 : Nat) = 6 by omega, if_false]
  rw [show g 0 * 128 + g 1 * 64 + g 2 * 32 + g 3 * 16 + g 4 * 8 + g 5 * 4 + 0 * 2 + 0 = 2 ^ 2 * (g 0 * 32 + g 1 * 16 + g 2 * 8 + g 3 * 4 + g 4 * 2 + g 5) by omega, e]
  omega
 | 7, _ =>
  rw [hg 7 (by omega)]
  have e := Gr (i := 1) (a := g 0 * 64 + g 1 * 32 + g 2 * 16 + g 3 * 8 + g 4 * 4 + g 5 * 2 + g 6) (b := b * 2 ^ (7 - 7) % 256) (by omega)
  simp only [if_true, show ¬ (0 : Nat) = 7 by omega, show ¬ (1 : Nat) = 7 by omega, show ¬ (2 : Nat) = 7 by omega, show ¬ (3 : Nat) = 7 by omega, show ¬ (4 : Nat) = 7 by omega, show ¬ (5 : Nat) = 7 by omega, show ¬ (6 : Nat) = 7 by omega, if_false]
  rw [show g 0 * 128 + g 1 * 64 + g 2 * 32 + g 3 * 16 + g 4 * 8 + g 5 * 4 + g 6 * 2 + 0 = 2 ^ 1 * (g 0 * 64 + g 1 * 32 + g 2 * 16 + g 3 * 8 + g 4 * 4 + g 5 * 2 + g 6) by omega, e]
  omega
theorem QH {B : List Nat} {i : Nat} (hi : i < (B.length + 7) / 8) : at0 (pk B) i = byt fun j => B.getD (8 * i + j) 0 := by
 unfold at0
 rw [List.getD_eq_getElem?_getD, Gi B hi]
 rfl
theorem Qj {B : List Nat} (x : Nat) (h : B.length % 8 ≠ 0) : pk (B ++ [x % 2]) = bwS B.length x (pk B) := by
 have hl := Bc B
 have hl2 := Bc (B ++ [x % 2])
 rw [List.length_append, List.length_singleton] at hl2
 apply List.ext_getElem?
 intro i
 unfold bwS
 rw [List.getElem?_set]
 rcases Nat.lt_trichotomy i (B.length / 8) with hi | hi | hi
 ·rw [if_neg (by omega), Gi B (by omega), Gi _ (by rw [List.length_append, List.length_singleton]; omega)]
  congr 2
  refine Ii fun j hj => ?_
  rw [FL, if_neg (by omega)]
 ·rw [if_pos hi.symm, if_pos (by omega), Gi _ (by rw [List.length_append, List.length_singleton]; omega), QH (by omega)]
  congr 2
  rw [← byt_or (g := fun j => B.getD (8 * (B.length / 8) + j) 0) (r := B.length % 8) (b := x % 2) (Nat.mod_lt _ (by decide)) (fun j hj => De (by omega)) (Nat.mod_lt _ (by decide))]
  refine Ii fun j hj => ?_
  rw [FL, hi]
  by_cases hjr : j = B.length % 8
  ·rw [if_pos (by omega), if_pos hjr]
  ·rw [if_neg (by omega), if_neg hjr]
 ·rw [if_neg (by omega), List.getElem?_eq_none (by omega), List.getElem?_eq_none (by omega)]
theorem pk_one (x : Nat) : pk [x % 2] = [((x % 2 * 128 : Nat) : Int)] := by
 have := Mf (B := []) (x % 2) rfl
 exact this
def Ba (v : Nat) : Nat → List Nat
 | 0 => []
 | w + 1 => v / 2 ^ w % 2 :: Ba v w
theorem Dy (v : Nat) : ∀ w, Bits (Ba v w)
 | 0 => Bits.nil
 | w + 1 => Bits.append (Bits.one (v / 2 ^ w)) (Dy v w)
theorem Bg (v : Nat) : ∀ w, (Ba v w).length = w
 | 0 => rfl
 | w + 1 => by rw [Ba, List.length_cons, Bg]
theorem FJ : ∀ q, Bits (List.replicate q 1)
 | 0 => Bits.nil
 | q + 1 => Bits.append (A := [1 % 2]) (Bits.one 1) (FJ q)
end Go.Proofs
namespace Go.Proofs
open Go Go.Pe Go.Pm
set_option maxRecDepth 100000
set_option linter.unusedVariables false
def bwF (id : Nat) (B : List Nat) : List (Nat × Row) := [(0, bwR id (pk B).length B.length), (id, bwB (pk B).length (pk B))]
theorem pk_ne {B : List Nat} (h : B ≠ []) : 0 < (pk B).length := by
 have := Bc B
 have := List.length_pos_iff.2 h
 omega
theorem one_E {x : Nat} (hx : x < 18446744073709551616) : Pt 88 [(0, bwE)] [.at 0 [], .int .u64 x] (bwF 1 [x % 2]) (.tup []) := by
 unfold bwF
 rw [pk_one]
 exact pc_oneA hx
theorem Iq {x : Nat} {B : List Nat} (hx : x < 18446744073709551616) (hB : Bits B) (hl : B.length ≤ 1000000) (h : B.length % 8 ≠ 0) : Pt 88 (bwF 1 B) [.at 0 [], .int .u64 x] (bwF 1 (B ++ [x % 2])) (.tup []) := by
 have h1 := Bc B
 have e : (bwS B.length x (pk B)).length = (pk B).length := by unfold bwS; rw [List.length_set]
 unfold bwF
 rw [Qj x h, e, List.length_append, List.length_singleton]
 exact pc_oneC (G6 hB) rfl (by omega) h (by omega) hx
theorem KL {x : Nat} {B : List Nat} (hx : x < 18446744073709551616) (hB : Bits B) (hl : B.length ≤ 1000000) (h : B.length % 8 = 0) (h0 : B ≠ []) : Pt 88 (bwF 1 B) [.at 0 [], .int .u64 x] (bwF 2 (B ++ [x % 2])) (.tup []) := by
 have h1 := Bc B
 unfold bwF
 rw [Mf (x % 2) h, List.length_append, List.length_append, List.length_singleton, List.length_singleton]
 exact pc_oneB (G6 hB) rfl (by omega) (by omega) (pk_ne h0) hx
abbrev Wo (pins : List Nat) (q i : Nat) (id : Nat) (B B' : List Nat) (id' : Nat) : Prop := Wt Try.f76 pins (bwF id' B') (.tup []) (Aa Try.f76 0) ⟨[(0, .at 0 []), (6, .int .i64 q), (7, .int .i64 i)], bwF id B⟩
theorem JU (B : List Nat) (r : Nat) : B ++ List.replicate (r + 1) 1 = (B ++ [1 % 2]) ++ List.replicate r 1 := by rw [List.replicate_succ, List.append_assoc]; rfl
theorem W_bo0 {q : Nat} (hq : q ≤ 65536) : ∀ (r i : Nat) (B : List Nat), i + r = q → Bits B → B ≠ [] → B.length + r ≤ 1000000 → Wo [0] q i 1 B (B ++ List.replicate r 1) 1
 | 0, i, B, hk, hB, h0, hl => by
  obtain rfl : i = q := by omega
  rw [List.replicate_zero, List.append_nil]
  exact W_bwOX0
 | r + 1, i, B, hk, hB, h0, hl => by
  have hl2 : (B ++ [1 % 2]).length = B.length + 1 := by simp
  rw [JU]
  have ih := W_bo0 hq r (i + 1) (B ++ [1 % 2]) (by omega) (hB.append (Bits.one 1)) (by simp) (by omega)
  by_cases h : B.length % 8 = 0
  ·exact Rz (by omega) hq (by omega) (by omega) (KL (x := 1) (by decide) hB (by omega) h h0) ih
  ·exact QA (by omega) hq (by omega) (by omega) (Iq (x := 1) (by decide) hB (by omega) h) ih
theorem W_bo2 {q : Nat} (hq : q ≤ 65536) : ∀ (r i : Nat) (B : List Nat), i + r = q → Bits B → B ≠ [] → B.length + r ≤ 1000000 → Wo [0, 1] q i 2 B (B ++ List.replicate r 1) 2
 | 0, i, B, hk, hB, h0, hl => by
  obtain rfl : i = q := by omega
  rw [List.replicate_zero, List.append_nil]
  exact W_bwOX2
 | r + 1, i, B, hk, hB, h0, hl => by
  have hl2 : (B ++ [1 % 2]).length = B.length + 1 := by simp
  rw [JU]
  have ih := W_bo2 hq r (i + 1) (B ++ [1 % 2]) (by omega) (hB.append (Bits.one 1)) (by simp) (by omega)
  by_cases h : B.length % 8 = 0
  ·exact QX (by omega) hq (by omega) (by omega) (KL (x := 1) (by decide) hB (by omega) h h0) ih
  ·exact Q4 (by omega) hq (by omega) (by omega) (Iq (x := 1) (by decide) hB (by omega) h) ih
theorem W_bo1 {q : Nat} (hq : q ≤ 65536) : ∀ (r i : Nat) (B : List Nat), i + r = q → Bits B → B ≠ [] → B.length + r ≤ 1000000 → Wo [0, 1] q i 1 B (B ++ List.replicate r 1) 1 ∨ Wo [0, 1] q i 1 B (B ++ List.replicate r 1) 2
 | 0, i, B, hk, hB, h0, hl => by
  obtain rfl : i = q := by omega
  rw [List.replicate_zero, List.append_nil]
  exact .inl W_bwOX1
 | r + 1, i, B, hk, hB, h0, hl => by
  have hl2 : (B ++ [1 % 2]).length = B.length + 1 := by simp
  rw [JU]
  by_cases h : B.length % 8 = 0
  ·exact .inr (QK (by omega) hq (by omega) (by omega) (KL (x := 1) (by decide) hB (by omega) h h0) (W_bo2 hq r (i + 1) (B ++ [1 % 2]) (by omega) (hB.append (Bits.one 1)) (by simp) (by omega)))
  ·rcases W_bo1 hq r (i + 1) (B ++ [1 % 2]) (by omega) (hB.append (Bits.one 1)) (by simp) (by omega) with ih | ih
   ·exact .inl (M6 (by omega) hq (by omega) (by omega) (Iq (x := 1) (by decide) hB (by omega) h) ih)
   ·exact .inr (M6 (by omega) hq (by omega) (by omega) (Iq (x := 1) (by decide) hB (by omega) h) ih)
theorem Rk {q : Nat} {B : List Nat} (hq : q ≤ 65536) (hB : Bits B) (h0 : B ≠ []) (hl : B.length + q ≤ 1000000) : Pt 76 (bwF 1 B) [.at 0 [], .int .i64 q] (bwF 1 (B ++ List.replicate q 1)) (.tup []) ∨ Pt 76 (bwF 1 B) [.at 0 [], .int .i64 q] (bwF 2 (B ++ List.replicate q 1)) (.tup []) := by
 rcases W_bo1 hq q 0 B (by omega) hB h0 hl with h | h
 ·exact .inl (Kv hq h)
 ·exact .inr (Kv hq h)
theorem PI : Pt 76 [(0, bwE)] [.at 0 [], .int .i64 0] [(0, bwE)] (.tup []) := KM (q := 0) (n := 0) (k := 0) (l := []) (by omega) (W_bwOXE (q := 0) (n := 0) (k := 0) (l := []))
theorem ML {q : Nat} (hq : q + 1 ≤ 65536) : Pt 76 [(0, bwE)] [.at 0 [], .int .i64 ((q + 1 : Nat) : Int)] (bwF 1 (List.replicate (q + 1) 1)) (.tup []) := by
 refine KM (n := 0) (k := 0) (l := []) hq ?_
 have hw := W_bo0 hq q 1 [1 % 2] (by omega) (Bits.one 1) (by simp) (by simp; omega)
 exact Qf (i := 0) (n := 0) (k := 0) (l := []) (by omega) hq (by omega) (n2 := 1) (by omega) (one_E (x := 1) (by decide)) hw
abbrev Wp (pins : List Nat) (v : Nat) (i : Int) (id : Nat) (B B' : List Nat) (id' : Nat) : Prop := Wt Try.f77 pins (bwF id' B') (.tup []) (Aa Try.f77 0) ⟨[(0, .at 0 []), (1, .int .u64 v), (6, .int .i64 i)], bwF id B⟩
theorem Hm (B : List Nat) (v r : Nat) : B ++ Ba v (r + 1) = (B ++ [v / 2 ^ r % 2]) ++ Ba v r := by rw [Ba, List.append_assoc]; rfl
theorem CW {v : Nat} (hv : v < 18446744073709551616) (r : Nat) : v / 2 ^ r < 18446744073709551616 := Nat.lt_of_le_of_lt (Nat.div_le_self _ _) hv
theorem W_bq0 {v : Nat} (hv : v < 18446744073709551616) : ∀ (r : Nat) (B : List Nat), r ≤ 64 → Bits B → B ≠ [] → B.length + r ≤ 1000000 → Wp [0] v ((r : Int) - 1) 1 B (B ++ Ba v r) 1
 | 0, B, hr, hB, h0, hl => by
  rw [Ba, List.append_nil]
  exact W_bwPX0 (v := v)
 | r + 1, B, hr, hB, h0, hl => by
  have hl2 : (B ++ [v / 2 ^ r % 2]).length = B.length + 1 := by simp
  rw [Hm, show (((r + 1 : Nat) : Int) - 1) = (r : Int) by omega]
  have ih := W_bq0 hv r (B ++ [v / 2 ^ r % 2]) (by omega) (hB.append (Bits.one _)) (by simp) (by omega)
  by_cases h : B.length % 8 = 0
  ·exact Rx (by omega) hv (by omega) (by omega) (KL (CW hv r) hB (by omega) h h0) ih
  ·exact R4 (by omega) hv (by omega) (by omega) (Iq (CW hv r) hB (by omega) h) ih
theorem W_bq2 {v : Nat} (hv : v < 18446744073709551616) : ∀ (r : Nat) (B : List Nat), r ≤ 64 → Bits B → B ≠ [] → B.length + r ≤ 1000000 → Wp [0, 1] v ((r : Int) - 1) 2 B (B ++ Ba v r) 2
 | 0, B, hr, hB, h0, hl => by
  rw [Ba, List.append_nil]
  exact W_bwPX2 (v := v)
 | r + 1, B, hr, hB, h0, hl => by
  have hl2 : (B ++ [v / 2 ^ r % 2]).length = B.length + 1 := by simp
  rw [Hm, show (((r + 1 : Nat) : Int) - 1) = (r : Int) by omega]
  have ih := W_bq2 hv r (B ++ [v / 2 ^ r % 2]) (by omega) (hB.append (Bits.one _)) (by simp) (by omega)
  by_cases h : B.length % 8 = 0
  ·exact Rs (by omega) hv (by omega) (by omega) (KL (CW hv r) hB (by omega) h h0) ih
  ·exact QS (by omega) hv (by omega) (by omega) (Iq (CW hv r) hB (by omega) h) ih
theorem W_bq1 {v : Nat} (hv : v < 18446744073709551616) : ∀ (r : Nat) (B : List Nat), r ≤ 64 → Bits B → B ≠ [] → B.length + r ≤ 1000000 → ((B.length % 8 ≠ 0 → r < 8 - B.length % 8 + 1) ∧ (B.length % 8 = 0 → r = 0)) ∧ Wp [0, 1] v ((r : Int) - 1) 1 B (B ++ Ba v r) 1 ∨ Wp [0, 1] v ((r : Int) - 1) 1 B (B ++ Ba v r) 2
 | 0, B, hr, hB, h0, hl => by
  rw [Ba, List.append_nil]
  exact .inl ⟨⟨fun _ => by omega, fun _ => rfl⟩, W_bwPX1 (v := v)⟩
 | r + 1, B, hr, hB, h0, hl => by
  have hl2 : (B ++ [v / 2 ^ r % 2]).length = B.length + 1 := by simp
  rw [Hm, show (((r + 1 : Nat) : Int) - 1) = (r : Int) by omega]
  by_cases h : B.length % 8 = 0
  ·exact .inr (Q3 (by omega) hv (by omega) (by omega) (KL (CW hv r) hB (by omega) h h0) (W_bq2 hv r (B ++ [v / 2 ^ r % 2]) (by omega) (hB.append (Bits.one _)) (by simp) (by omega)))
  ·rcases W_bq1 hv r (B ++ [v / 2 ^ r % 2]) (by omega) (hB.append (Bits.one _)) (by simp) (by omega) with ⟨hc, ih⟩ | ih
   ·refine .inl ⟨⟨fun _ => ?_, fun x => absurd x h⟩, LY (by omega) hv (by omega) (by omega) (Iq (CW hv r) hB (by omega) h) ih⟩
    by_cases h9 : (B.length + 1) % 8 = 0
    ·have := hc.2 (by rw [hl2]; exact h9)
     omega
    ·have := hc.1 (by rw [hl2]; exact h9)
     rw [hl2] at this
     omega
   ·exact .inr (LY (by omega) hv (by omega) (by omega) (Iq (CW hv r) hB (by omega) h) ih)
theorem pc_putE {v w : Nat} (hv : v < 18446744073709551616) (hw : w + 1 ≤ 64) : Pt 77 [(0, bwE)] [.at 0 [], .int .u64 v, .int .i64 ((w + 1 : Nat) : Int)] (bwF 1 (Ba v (w + 1))) (.tup []) := by
 refine Pq (n := 0) (k := 0) (l := []) hw ?_
 have h := W_bq0 hv w [v / 2 ^ w % 2] (by omega) (Bits.one _) (by simp) (by simp; omega)
 exact Q0 (i := w) (n := 0) (k := 0) (l := []) (by omega) hv (by omega) (n2 := 1) (by omega) (one_E (CW hv w)) h
theorem O5 {v w : Nat} {B : List Nat} (hv : v < 18446744073709551616) (hw : w + 1 ≤ 64) (hB : Bits B) (h0 : B ≠ []) (hl : B.length + (w + 1) ≤ 1000000) : Pt 77 (bwF 1 B) [.at 0 [], .int .u64 v, .int .i64 ((w + 1 : Nat) : Int)] (bwF 1 (B ++ Ba v (w + 1))) (.tup []) ∨ Pt 77 (bwF 1 B) [.at 0 [], .int .u64 v, .int .i64 ((w + 1 : Nat) : Int)] (bwF 2 (B ++ Ba v (w + 1))) (.tup []) := by
 rcases W_bq1 hv (w + 1) B hw hB h0 hl with ⟨-, h⟩ | h
 ·rw [show (((w + 1 : Nat) : Int) - 1) = (w : Int) by omega] at h
  exact .inl (H6 hw h)
 ·rw [show (((w + 1 : Nat) : Int) - 1) = (w : Int) by omega] at h
  exact .inr (H6 hw h)
theorem Lb {v w : Nat} {B : List Nat} (hv : v < 18446744073709551616) (hw : w + 1 ≤ 64) (h8 : 8 ≤ w + 1) (hB : Bits B) (h0 : B ≠ []) (hl : B.length + (w + 1) ≤ 1000000) : Pt 77 (bwF 1 B) [.at 0 [], .int .u64 v, .int .i64 ((w + 1 : Nat) : Int)] (bwF 2 (B ++ Ba v (w + 1))) (.tup []) := by
 rcases W_bq1 hv (w + 1) B hw hB h0 hl with ⟨h, -⟩ | h
 ·by_cases g : B.length % 8 = 0
  ·have := h.2 g; omega
  ·have := h.1 g; omega
 ·rw [show (((w + 1 : Nat) : Int) - 1) = (w : Int) by omega] at h
  exact H6 hw h
end Go.Proofs
namespace Go.Proofs
open Go Go.Pe Go.Pm
set_option maxRecDepth 100000
set_option linter.unusedVariables false
attribute [local irreducible] lv
theorem W_clS {nl : Bool} {n a q i : Nat} {l : Liz} {hout : Lrz} {res : PV} (hn : n ≤ 1000000) (hb : Bytes l) (ha : a + i < 8 * n) (hi : i < q) (hq : q < 8) (h1 : bt l (a + i) = 0)
  (hw : Wt Try.f37 [0] hout res (Aa Try.f37 0) ⟨[(0, .at 0 []), (8, .int .i64 q), (9, .int .i64 ((i + 1 : Nat) : Int))], [(0, btR nl n l a)]⟩) :
  Wt Try.f37 [0] hout res (Aa Try.f37 0) ⟨[(0, .at 0 []), (8, .int .i64 q), (9, .int .i64 i)], [(0, btR nl n l a)]⟩ := by
 have c2 := Et (nl := nl) (a := a) hn hb ha
 rw [h1] at c2
 refine W.sgA 0 [(0, aT), (9, aV (I6 ↑(a + i))), (10, cC false [(0, 0)] c2), (12, aV (I6 ↑(i + 1)))] [(0, 0)] (⟨[(0, .at 0 []), (8, .int .i64 q), (9, .int .i64 ((i + 1 : Nat) : Int))], [(0, btR nl n l a)]⟩) [decide ((i:Int) < (q:Int)) = true, I6 (IntKind.wrap .i64 ((a:Int) + (i:Int))) = I6 ↑(a + i), _, I6 (IntKind.wrap .i64 ((i:Int) + 1)) = I6 ↑(i + 1)] (ac (dT (by omega)) (ac (wj (by omega)) (ac (c2) (ao (wj (by omega)))))) ?_
 exact hw
theorem W_clN {nl : Bool} {n a q i : Nat} {l : Liz} (hn : n ≤ 1000000) (hb : Bytes l) (ha : a + i < 8 * n) (hi : i < q) (hq : q < 8) (h1 : bt l (a + i) = 1) :
  Wt Try.f37 [0] [(0, btR nl n l a)] (.bool false) (Aa Try.f37 0) ⟨[(0, .at 0 []), (8, .int .i64 q), (9, .int .i64 i)], [(0, btR nl n l a)]⟩ := by
 have c2 := Et (nl := nl) (a := a) hn hb ha
 rw [h1] at c2
 refine W.rtA [(0, aT), (9, aV (I6 ↑(a + i))), (10, cC false [(0, 0)] c2)] [(0, 0)] [decide ((i:Int) < (q:Int)) = true, I6 (IntKind.wrap .i64 ((a:Int) + (i:Int))) = I6 ↑(a + i), _] (ac (dT (by omega)) (ac (wj (by omega)) (ao (c2))))
theorem W_clE {nl : Bool} {n a q : Nat} {l : Liz} :
  Wt Try.f37 [0] [(0, btR nl n l a)] (.bool true) (Aa Try.f37 0) ⟨[(0, .at 0 []), (8, .int .i64 q), (9, .int .i64 q)], [(0, btR nl n l a)]⟩ := by
 refine W.rtA [(0, aF)] [(0, 0)] [decide ((q:Int) < (q:Int)) = false] (ao (dF (by omega)))
theorem W_cl {nl : Bool} {n a q : Nat} {l : Liz} (hn : n ≤ 1000000) (hb : Bytes l) (ha : a + q = 8 * n) (hq : q < 8) : ∀ (k i : Nat), i + k = q →
  Wt Try.f37 [0] [(0, btR nl n l a)] (.bool (CF l (a + i) k)) (Aa Try.f37 0) ⟨[(0, .at 0 []), (8, .int .i64 q), (9, .int .i64 i)], [(0, btR nl n l a)]⟩
 | 0, i, hk => by
  obtain rfl : i = q := by omega
  exact W_clE
 | k + 1, i, hk => by
  unfold CF
  by_cases h : bt l (a + i) = 0
  ·rw [if_pos h]
   exact W_clS hn hb (by omega) (by omega) hq h (W_cl hn hb ha hq k (i + 1) (by omega))
  ·rw [if_neg h]
   have h1 : bt l (a + i) = 1 := by have := Na l (a + i); omega
   exact W_clN hn hb (by omega) (by omega) hq h1
theorem Jp {nl : Bool} {n a : Nat} {l : Liz} (hn : n ≤ 1000000) (hb : Bytes l) (ha : a ≤ 8 * n) : Pt 37 [(0, btR nl n l a)] [.at 0 []] [(0, btR nl n l a)] (.bool (decide (8 * n - a < 8 ∧ CF l a (8 * n - a) = true))) := by
 refine pO Try.func37 (by kernel_rfl) ?_
 have c1 := Ck (nl := nl) (l := l) hn ha
 by_cases h : 8 * n - a < 8
 ·have hw := W_cl (nl := nl) (a := a) hn hb (show a + (8 * n - a) = 8 * n by omega) h (8 * n - a) 0 (by omega)
  rw [Nat.add_zero] at hw
  have e : decide (8 * n - a < 8 ∧ CF l a (8 * n - a) = true) = CF l a (8 * n - a) := by
   cases CF l a (8 * n - a)
   ·exact decide_eq_false (fun x => Bool.noConfusion x.2)
   ·exact decide_eq_true ⟨h, rfl⟩
  rw [e]
  generalize CF l a (8 * n - a) = r at *
  generalize 8 * n - a = q at *
  refine W.sgA 0 [(2, cC false [(0, 0)] c1), (3, aF), (5, cC false [(0, 0)] c1)] [(0, 0)] (⟨[(0, .at 0 []), (8, .int .i64 q), (9, .int .i64 0)], [(0, btR nl n l a)]⟩) [_, decide ((q:Int) ≥ 8) = false, _] (ac (c1) (ac (dF (by omega)) (ao (c1)))) ?_
  exact hw
 ·rw [decide_eq_false (fun x => h x.1)]
  generalize hq : 8 * n - a = q at *
  have hq2 : 8 ≤ q := by omega
  have hq3 : q ≤ 8000000 := by omega
  refine W.rtA [(2, cC false [(0, 0)] c1), (3, aT)] [(0, 0)] [_, decide ((q:Int) ≥ 8) = true] (ac (c1) (ao (dT (by omega))))
theorem Cb {p : Nat} (hp : p ≤ 32) : Pt 58 [] [.int .i64 p] [] (.int .i64 p) := by
 refine pO Try.func58 (by kernel_rfl) ?_
 have hx : mx (p : Int) 0 = (p : Int) := by unfold mx; split <;> omega
 have hy : mn (p : Int) 32 = (p : Int) := by unfold mn; split <;> omega
 refine W.rtA [(2, aV (I6 p)), (3, aV (I6 p))] [] [I6 (mx (p:Int) (0 : Int)) = I6 p, I6 (mn (p:Int) (32 : Int)) = I6 p] (ac (cg (hx)) (ao (cg (hy))))
theorem RP {nl : Bool} {n a e : Nat} {l : Liz} (he : e ≠ 0) (he2 : e < 100) (c1 : Pt 59 [(0, btR nl n l a)] [.at 0 [], .int .i64 65536] [(0, btR nl n l a)] (.tup [.int .i64 0, .int .i64 e])) :
  Pt 35 [(0, btR nl n l a)] [.at 0 [], .int .i64 19, .int .i64 65536] [(0, btR nl n l a)] (.tup [.int .u64 0, .int .i64 e]) := by
 refine pO Try.func35 (by kernel_rfl) ?_
 have c0 := Cb (p := 19) (by omega)
 have hm : mn 65536 65536 = 65536 := by decide
 refine W.rtA [(3, c9 c0), (4, aV (I6 19)), (11, aV (I6 65536)), (12, cC false [(192, 0)] c1), (19, aT)] [(0, 0)] [_, I6 ↑(19 : Nat) = I6 19, I6 (mn (65536 : Int) (65536 : Int)) = I6 65536, _, ((e:Int) != 0) = true] (ac (c0) (ac (cg (by omega)) (ac (cg (hm)) (ac (c1) (ao (bne_iff_ne.2 (by omega)))))))
theorem Qv {nl : Bool} {n a o : Nat} {l : Liz} (ho : o ≤ 65536) (c1 : Pt 59 [(0, btR nl n l a)] [.at 0 [], .int .i64 65536] [(0, btR nl n l (a + o + 1))] (.tup [.int .i64 o, .int .i64 0])) (c2 : Pt 60 [(0, btR nl n l (a + o + 1))] [.at 0 [], .int .i64 19] [(0, btR nl n l (a + o + 1))] (.tup [.int .u64 0, .int .i64 2])) :
  Pt 35 [(0, btR nl n l a)] [.at 0 [], .int .i64 19, .int .i64 65536] [(0, btR nl n l a)] (.tup [.int .u64 0, .int .i64 2]) := by
 refine pO Try.func35 (by kernel_rfl) ?_
 have c0 := Cb (p := 19) (by omega)
 have hm : mn 65536 65536 = 65536 := by decide
 refine W.rtA [(3, c9 c0), (4, aV (I6 19)), (11, aV (I6 65536)), (12, cC false [(192, 0)] c1), (21, cC false [(192, 0)] c2)] [(0, 0)] [_, I6 ↑(19 : Nat) = I6 19, I6 (mn (65536 : Int) (65536 : Int)) = I6 65536, _, _] (ac (c0) (ac (cg (by omega)) (ac (cg (hm)) (ac (c1) (ao (c2))))))
theorem Rp {nl : Bool} {n a o v : Nat} {l : Liz} (ho : o ≤ 65536) (hv : v < 524288) (c1 : Pt 59 [(0, btR nl n l a)] [.at 0 [], .int .i64 65536] [(0, btR nl n l (a + o + 1))] (.tup [.int .i64 o, .int .i64 0])) (c2 : Pt 60 [(0, btR nl n l (a + o + 1))] [.at 0 [], .int .i64 19] [(0, btR nl n l (a + o + 1 + 19))] (.tup [.int .u64 v, .int .i64 0])) :
  Pt 35 [(0, btR nl n l a)] [.at 0 [], .int .i64 19, .int .i64 65536] [(0, btR nl n l (a + o + 1 + 19))] (.tup [.int .u64 ((o * 524288 + v : Nat) : Int), .int .i64 0]) := by
 refine pO Try.func35 (by kernel_rfl) ?_
 have c0 := Cb (p := 19) (by omega)
 have hm : mn 65536 65536 = 65536 := by decide
 have h3 : bits .or .u64 ((o : Int) * 2 ^ 19) (v : Int) = ((o * 524288 + v : Nat) : Int) := by
  rw [GJ (a := 2 ^ 19 * o) (b := v) (by omega) rfl (by omega) (by omega), ← Nat.two_pow_add_eq_or_of_lt (i := 19) (by omega) o]
  congr 1
  omega
 have h4 : o * 524288 + v < 18446744073709551616 := by omega
 generalize o * 524288 + v = y at *
 refine W.rtA [(3, c9 c0), (4, aV (I6 19)), (11, aV (I6 65536)), (12, cC false [(192, 0)] c1), (21, cC false [(192, 0)] c2), (34, aV (U6 o)), (36, aV (U6 ((o:Int) * (2 : Int) ^ 19))), (38, aV (U6 y))] [(0, 0)] [_, I6 ↑(19 : Nat) = I6 19, I6 (mn (65536 : Int) (65536 : Int)) = I6 65536, _, _, U6 (IntKind.wrap .u64 (o:Int)) = U6 o, U6 (IntKind.wrap .u64 ((o:Int) * (2 : Int) ^ 19)) = U6 ((o:Int) * (2 : Int) ^ 19), (0 : Int) ≤ 19, U6 (bits BinOp.or .u64 ((o:Int) * (2 : Int) ^ 19) (v:Int)) = U6 y] (ac (c0) (ac (cg (by omega)) (ac (cg (hm)) (ac (c1) (ac (c2) (ac (cg (Au rfl (by omega) (by omega))) (ac (cg (Au rfl (by omega) (by omega))) (ac (by omega) (ao (cg (h3)))))))))))
theorem OI {nl : Bool} {n a : Nat} {l : Liz} (hn : n ≤ 1000000) (hb : Bytes l) (ha : a ≤ 8 * n) : Pt 35 [(0, btR nl n l a)] [.at 0 [], .int .i64 19, .int .i64 65536] [(0, btR nl n l (if gE l n a = 0 then gA l n a else a))] (.tup [.int .u64 ((if gE l n a = 0 then gV l n a else 0 : Nat) : Int), .int .i64 (gE l n a)]) := by
 have c1 := QG (nl := nl) (m := 65536) hn hb ha (by omega) (show gO l n a = _ from rfl)
 by_cases h1 : CE (8 * n - a) (gO l n a) 65536 = 0
 ·rw [h1, if_pos rfl, if_pos rfl] at c1
  have ho : gO l n a ≤ 65536 ∧ gO l n a ≠ 8 * n - a := by
   unfold CE at h1
   split at h1
   ·cases h1
   ·split at h1
    ·cases h1
    ·omega
  have hol := M3 l (8 * n - a) a
  have hol : gO l n a ≤ 8 * n - a := hol
  by_cases h2 : 8 * n < a + gO l n a + 1 + 19
  ·have e : gE l n a = 2 := by unfold gE; rw [if_neg (not_not_intro h1), if_pos h2]
   rw [e, if_neg (by decide), if_neg (by decide)]
   exact Qv ho.1 c1 (Nu (w := 19) hn (by omega) (by omega) h2)
  ·have e : gE l n a = 0 := by unfold gE; rw [if_neg (not_not_intro h1), if_neg h2]
   rw [e, if_pos rfl, if_pos rfl]
   have hv := Lg l 19 (a + gO l n a + 1) 0 0 (by decide)
   exact Rp ho.1 (by simpa using hv) c1 (NB (w := 19) hn hb (by omega) (by omega))
 ·rw [if_neg h1, if_neg h1] at c1
  have e : gE l n a = CE (8 * n - a) (gO l n a) 65536 := by unfold gE; rw [if_pos h1]
  have hlt : CE (8 * n - a) (gO l n a) 65536 < 100 := by unfold CE; split <;> (try split) <;> omega
  rw [e, if_neg h1, if_neg h1]
  exact RP h1 hlt c1
end Go.Proofs
