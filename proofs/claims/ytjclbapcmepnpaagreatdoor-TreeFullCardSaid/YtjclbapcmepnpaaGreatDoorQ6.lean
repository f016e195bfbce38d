/- Merged texts: the pure machine and what the walks show. Conditions: as each statement says. -/
import Derived.Carry
import Derived.ChangeArms
import Derived.ChangeSame
import Derived.ChangeCalls
import Derived.JoinedOf
import Derived.Handed
import Derived.OpenShut
import Derived.RowKit
import Derived.ProofKit
import Derived.LaidLaws
import Derived.LaidHandle
import Derived.FnData
import GoSem.ClaimSeven
import Derived.Test.YtjclbapcmepnpaaGreatDoorQ5
namespace Go.Proofs
open Go Go.Pe Go.Pm
set_option maxRecDepth 100000
set_option linter.unusedVariables false
attribute [local irreducible] Au lv FW
def dFu (p : Prm) (n : Nat) (L H : List PV) (V : List Int) (m : Nat) (B : List Int) (nl : Bool) (k : Nat) (I : List PV) (i : Nat) : DS := ⟨[(1, .at 5 []), (3, .at 1 []), (29, .vec nl (.parr 69 k Oy I)), (30, .int .i64 k), (31, .int .i64 i)], trR p n L H V m B ++ [(5, ⟨.st 78 [p.pv, .vec nl (.parr 69 k Oy I)], false⟩)]⟩
theorem U9 {p : Prm} {nl : Bool} {k : Nat} {I : Lpz} (cf : Pt 9 [] [Jp p nl k I] [] (.bool false)) : Pt 4 [] [Jp p nl k I] [] (.bool true) := by
 refine pO Tryz.func4 (by kernel_rfl) ?_
 have ca := Tq
 unfold Jp at *
 refine W.rtA [(3, c9 cf), (5, c9 ca)] [] [_, _] (ac (cf) (ao (ca)))
theorem W_fuIn {p : Prm} {nl : Bool} {k : Nat} {I : Lpz} {L H : Lpz} {R : Lpz} (hk : k ≤ 24) (cf : Pt 9 [] [Jp p nl k I] [] (.bool true)) (c1 : Pt 11 [] [p.pv] (trR p 1 L H [0] 1 [0]) (.tup [.at 1 [], .int .i64 ((0 : Nat) : Int)]))
  (hw : Wt Tryz.f4 [] [] (.bool true) (Af Tryz.f4 0) (dFu p 1 L H [0] 1 [0] nl k I 0)) :
  Pt 4 [] [Jp p nl k I] [] (.bool true) := by
 refine pO Tryz.func4 (by kernel_rfl) ?_
 unfold Jp trR at *
 refine W.sgA 0 [(3, c9 cf), (7, c9 c1), (10, aV (I6 0))] [(64, 5), (177, 1), (178, 2), (179, 3), (180, 4)] (dFu p 1 L H [0] 1 [0] nl k I 0) [_, _, I6 ↑(0 : Nat) = I6 0] (ac (cf) (ac (c1) (ao (cg (by omega))))) ?_
 exact hw
theorem W_fuEnd {p : Prm} {n : Nat} {L H : Lpz} {V : Liz} {m : Nat} {B : Liz} {nl : Bool} {k : Nat} {I : Lpz} : Wt Tryz.f4 [] [] (.bool true) (Af Tryz.f4 0) (dFu p n L H V m B nl k I k) := by
 have ca := Tq
 refine W.rtA [(0, aF), (1, c9 ca)] [] [decide ((k:Int) < (k:Int)) = false, _] (ac (dF (by omega)) (ao (ca)))
theorem Ua {p : Prm} {n : Nat} {L H : Lpz} {V : Liz} {q t : Nat} {B : Liz} {nl : Bool} {k : Nat} {I : Lpz} {i : Nat} {h : Hd} {x y : Liz} {now : Int} (hi : i < k) (hk : k ≤ 24) (hn : n ≤ 100) (hcap : (n : Int) ≤ p.cap) (g : I.getD i .undef = .st 69 [.st 68 [.int .u32 h.ver, .iarr .u8 32 h.prev, .iarr .u8 32 h.root, .int .u32 h.time, .int .u32 h.bits, .int .u32 h.nonce], .int .i64 now]) (hx : x.length = 32)
  (c3 : Pt 21 [] [h.pv] [] (.iarr .u8 32 y)) (hm : Br H (.iarr .u8 32 y) = true) (c1 : Pt 19 (trR p n L H V (q + 1) B) [.at 1 []] (trR p n L H V (q + 1) B) (.iarr .u8 32 x))
  (cA : Pt 16 (trR p n L H V (q + 1) B) [.at 1 [], h.pv, .int .i64 now] (trX 2 4 p n L H V (q + 1) B) (.int .i64 7))
  (hw : Wt Tryz.f4 [] [] (.bool true) (Af Tryz.f4 0) (dFu p n L H V (q + 1) B nl k I (i + 1))) : Wt Tryz.f4 [] [] (.bool true) (Af Tryz.f4 0) (dFu p n L H V (q + 1) B nl k I i) := by
 have c2 := EE (p := p) (n := n) (L := L) (H := H) (V := V) (m := q + 1) (B := B)
 have c4 := Ja (p := p) (n := n) (L := L) (H := H) (V := V) (m := q + 1) (B := B) (y := y)
 rw [hm] at c4
 unfold trR trX at *
 by_cases hf : p.cap ≤ (n : Int)
 ·refine W.sg 0 [(0, aT), (2, aE g), (6, cS [1, 2, 3, 4] true [(1, 1), (2, 2), (3, 3), (4, 4)] c2), (8, cS [1, 2, 3, 4] true [(1, 1), (2, 2), (3, 3), (4, 4)] c1), (12, c9 c3), (13, cS [1, 2, 3, 4] true [(1, 1), (2, 2), (3, 3), (4, 4)] c4), (23, cC true [(1, 1), (2, 2), (3, 3), (4, 4)] cA), (29, aT), (32, cS [1, 2, 3, 4] true [(1, 1), (2, 2), (3, 3), (4, 4)] c2), (36, aF), (57, cS [1, 2, 3, 4] true [(1, 1), (2, 2), (3, 3), (4, 4)] c2), (59, aF), (62, cS [1, 2, 3, 4] true [(1, 1), (2, 2), (3, 3), (4, 4)] c1), (64, aF), (78, aV (I6 (↑(i + 1) : Int)))] [(5, 5), (1, 1), (2, 2), (3, 3), (4, 4)] (dFu p n L H V (q + 1) B nl k I (i + 1)) [decide ((i:Int) < (k:Int)) = true, 0 ≤ (i:Int), (i:Int) < (k:Int), _, i < k, rO c2 1, rO c2 2, rO c2 3, rO c2 4, _, rO c2 1, rO c2 2, rO c2 3, rO c2 4, _, _, rO c2 1, rO c2 2, rO c2 3, rO c2 4, _, _, decide ((n:Int) ≥ Prm.cap p) = true, rO c2 1, rO c2 2, rO c2 3, rO c2 4, _, decide ((n:Int) > Prm.cap p) = false, rO c2 1, rO c2 2, rO c2 3, rO c2 4, _, ((n:Int) != (n:Int)) = false, rO c2 1, rO c2 2, rO c2 3, rO c2 4, _, (!decide (x = x)) = false, I6 (IntKind.wrap .i64 ((i:Int) + 1)) = I6 (↑(i + 1) : Int)] (by kernel_rfl) (ac (dT (by omega)) (ac (by omega) (ac (by omega) (ac (ex g) (ac (by omega) (ac rfl (ac rfl (ac rfl (ac rfl (ac (c2) (ac rfl (ac rfl (ac rfl (ac rfl (ac (c1) (ac (c3) (ac rfl (ac rfl (ac rfl (ac rfl (ac (c4) (ac (cA) (ac (dT (by omega)) (ac rfl (ac rfl (ac rfl (ac rfl (ac (c2) (ac (dF (by omega)) (ac rfl (ac rfl (ac rfl (ac rfl (ac (c2) (ac (bne_eq_false_iff_eq.2 (by omega)) (ac rfl (ac rfl (ac rfl (ac rfl (ac (c1) (ac (by (simp [*]; done)) (ao (cg (Ac rfl (by omega) (by omega))))))))))))))))))))))))))))))))))))))))))))) ?_
  exact hw
 ·refine W.sg 0 [(0, aT), (2, aE g), (6, cS [1, 2, 3, 4] true [(1, 1), (2, 2), (3, 3), (4, 4)] c2), (8, cS [1, 2, 3, 4] true [(1, 1), (2, 2), (3, 3), (4, 4)] c1), (12, c9 c3), (13, cS [1, 2, 3, 4] true [(1, 1), (2, 2), (3, 3), (4, 4)] c4), (23, cC true [(1, 1), (2, 2), (3, 3), (4, 4)] cA), (29, aF), (32, cS [1, 2, 3, 4] true [(1, 1), (2, 2), (3, 3), (4, 4)] c2), (36, aF), (57, cS [1, 2, 3, 4] true [(1, 1), (2, 2), (3, 3), (4, 4)] c2), (59, aF), (62, cS [1, 2, 3, 4] true [(1, 1), (2, 2), (3, 3), (4, 4)] c1), (64, aF), (78, aV (I6 (↑(i + 1) : Int)))] [(5, 5), (1, 1), (2, 2), (3, 3), (4, 4)] (dFu p n L H V (q + 1) B nl k I (i + 1)) [decide ((i:Int) < (k:Int)) = true, 0 ≤ (i:Int), (i:Int) < (k:Int), _, i < k, rO c2 1, rO c2 2, rO c2 3, rO c2 4, _, rO c2 1, rO c2 2, rO c2 3, rO c2 4, _, _, rO c2 1, rO c2 2, rO c2 3, rO c2 4, _, _, decide ((n:Int) ≥ Prm.cap p) = false, rO c2 1, rO c2 2, rO c2 3, rO c2 4, _, decide ((n:Int) > Prm.cap p) = false, rO c2 1, rO c2 2, rO c2 3, rO c2 4, _, ((n:Int) != (n:Int)) = false, rO c2 1, rO c2 2, rO c2 3, rO c2 4, _, (!decide (x = x)) = false, I6 (IntKind.wrap .i64 ((i:Int) + 1)) = I6 (↑(i + 1) : Int)] (by kernel_rfl) (ac (dT (by omega)) (ac (by omega) (ac (by omega) (ac (ex g) (ac (by omega) (ac rfl (ac rfl (ac rfl (ac rfl (ac (c2) (ac rfl (ac rfl (ac rfl (ac rfl (ac (c1) (ac (c3) (ac rfl (ac rfl (ac rfl (ac rfl (ac (c4) (ac (cA) (ac (dF (by omega)) (ac rfl (ac rfl (ac rfl (ac rfl (ac (c2) (ac (dF (by omega)) (ac rfl (ac rfl (ac rfl (ac rfl (ac (c2) (ac (bne_eq_false_iff_eq.2 (by omega)) (ac rfl (ac rfl (ac rfl (ac rfl (ac (c1) (ac (by (simp [*]; done)) (ao (cg (Ac rfl (by omega) (by omega))))))))))))))))))))))))))))))))))))))))))))) ?_
  exact hw
theorem VI {p : Prm} {n : Nat} {L H : Lpz} {V : Liz} {q t : Nat} {B : Liz} {nl : Bool} {k : Nat} {I : Lpz} {i : Nat} {h : Hd} {x y : Liz} {now : Int} (hi : i < k) (hk : k ≤ 24) (hn : n ≤ 100) (hcap : (n : Int) ≤ p.cap) (g : I.getD i .undef = .st 69 [.st 68 [.int .u32 h.ver, .iarr .u8 32 h.prev, .iarr .u8 32 h.root, .int .u32 h.time, .int .u32 h.bits, .int .u32 h.nonce], .int .i64 now]) (hx : x.length = 32)
  (c3 : Pt 21 [] [h.pv] [] (.iarr .u8 32 y)) (hm : Br H (.iarr .u8 32 y) = false) (hf : p.cap ≤ (n : Int)) (c1 : Pt 19 (trR p n L H V (q + 1) B) [.at 1 []] (trR p n L H V (q + 1) B) (.iarr .u8 32 x))
  (cA : Pt 16 (trR p n L H V (q + 1) B) [.at 1 [], h.pv, .int .i64 now] (trX 2 4 p n L H V (q + 1) B) (.int .i64 8))
  (hw : Wt Tryz.f4 [] [] (.bool true) (Af Tryz.f4 0) (dFu p n L H V (q + 1) B nl k I (i + 1))) : Wt Tryz.f4 [] [] (.bool true) (Af Tryz.f4 0) (dFu p n L H V (q + 1) B nl k I i) := by
 have c2 := EE (p := p) (n := n) (L := L) (H := H) (V := V) (m := q + 1) (B := B)
 have c4 := Ja (p := p) (n := n) (L := L) (H := H) (V := V) (m := q + 1) (B := B) (y := y)
 rw [hm] at c4
 unfold trR trX at *
 refine W.sgA 0 [(0, aT), (2, aE g), (6, cS [1, 2, 3, 4] true [(1, 1), (2, 2), (3, 3), (4, 4)] c2), (8, cS [1, 2, 3, 4] true [(1, 1), (2, 2), (3, 3), (4, 4)] c1), (12, c9 c3), (13, cS [1, 2, 3, 4] true [(1, 1), (2, 2), (3, 3), (4, 4)] c4), (23, cC true [(1, 1), (2, 2), (3, 3), (4, 4)] cA), (29, aT), (32, cS [1, 2, 3, 4] true [(1, 1), (2, 2), (3, 3), (4, 4)] c2), (36, aF), (57, cS [1, 2, 3, 4] true [(1, 1), (2, 2), (3, 3), (4, 4)] c2), (59, aF), (62, cS [1, 2, 3, 4] true [(1, 1), (2, 2), (3, 3), (4, 4)] c1), (64, aF), (78, aV (I6 ↑(i + 1)))] [(5, 5), (1, 1), (2, 2), (3, 3), (4, 4)] (dFu p n L H V (q + 1) B nl k I (i + 1)) [decide ((i:Int) < (k:Int)) = true, 0 ≤ (i:Int), (i:Int) < (k:Int), _, i < k, rO c2 1, rO c2 2, rO c2 3, rO c2 4, _, rO c2 1, rO c2 2, rO c2 3, rO c2 4, _, _, rO c2 1, rO c2 2, rO c2 3, rO c2 4, _, _, decide ((n:Int) ≥ Prm.cap p) = true, rO c2 1, rO c2 2, rO c2 3, rO c2 4, _, decide ((n:Int) > Prm.cap p) = false, rO c2 1, rO c2 2, rO c2 3, rO c2 4, _, ((n:Int) != (n:Int)) = false, rO c2 1, rO c2 2, rO c2 3, rO c2 4, _, (!decide (x = x)) = false, I6 (IntKind.wrap .i64 ((i:Int) + 1)) = I6 ↑(i + 1)] (ac (dT (by omega)) (ob2 (by omega) (ac (ex g) (ac (by omega) (ac rfl (ac rfl (ac rfl (ac rfl (ac (c2) (ac rfl (ac rfl (ac rfl (ac rfl (ac (c1) (ac (c3) (ac rfl (ac rfl (ac rfl (ac rfl (ac (c4) (ac (cA) (ac (dT (by omega)) (ac rfl (ac rfl (ac rfl (ac rfl (ac (c2) (ac (dF (by omega)) (ac rfl (ac rfl (ac rfl (ac rfl (ac (c2) (ac (bne_eq_false_iff_eq.2 (by omega)) (ac rfl (ac rfl (ac rfl (ac rfl (ac (c1) (ac (by (simp [*]; done)) (ao (wj (by omega))))))))))))))))))))))))))))))))))))))))))) ?_
 exact hw
theorem VV {p : Prm} {n : Nat} {L H : Lpz} {V : Liz} {q t : Nat} {B : Liz} {nl : Bool} {k : Nat} {I : Lpz} {i : Nat} {h : Hd} {x y : Liz} {now : Int} (hi : i < k) (hk : k ≤ 24) (hn : n ≤ 100) (hcap : (n : Int) ≤ p.cap) (g : I.getD i .undef = .st 69 [.st 68 [.int .u32 h.ver, .iarr .u8 32 h.prev, .iarr .u8 32 h.root, .int .u32 h.time, .int .u32 h.bits, .int .u32 h.nonce], .int .i64 now]) (hx : x.length = 32)
  (c3 : Pt 21 [] [h.pv] [] (.iarr .u8 32 y)) (hm : Br H (.iarr .u8 32 y) = false) (hf : ¬ p.cap ≤ (n : Int)) {e : Int} (e0 : ¬ e = 0) (e7 : ¬ e = 7) (e8 : ¬ e = 8) (c1 : Pt 19 (trR p n L H V (q + 1) B) [.at 1 []] (trR p n L H V (q + 1) B) (.iarr .u8 32 x))
  (cA : Pt 16 (trR p n L H V (q + 1) B) [.at 1 [], h.pv, .int .i64 now] (trX 2 4 p n L H V (q + 1) B) (.int .i64 e))
  (hw : Wt Tryz.f4 [] [] (.bool true) (Af Tryz.f4 0) (dFu p n L H V (q + 1) B nl k I (i + 1))) : Wt Tryz.f4 [] [] (.bool true) (Af Tryz.f4 0) (dFu p n L H V (q + 1) B nl k I i) := by
 have c2 := EE (p := p) (n := n) (L := L) (H := H) (V := V) (m := q + 1) (B := B)
 have c4 := Ja (p := p) (n := n) (L := L) (H := H) (V := V) (m := q + 1) (B := B) (y := y)
 rw [hm] at c4
 unfold trR trX at *
 refine W.sgA 0 [(0, aT), (2, aE g), (6, cS [1, 2, 3, 4] true [(1, 1), (2, 2), (3, 3), (4, 4)] c2), (8, cS [1, 2, 3, 4] true [(1, 1), (2, 2), (3, 3), (4, 4)] c1), (12, c9 c3), (13, cS [1, 2, 3, 4] true [(1, 1), (2, 2), (3, 3), (4, 4)] c4), (23, cC true [(1, 1), (2, 2), (3, 3), (4, 4)] cA), (29, aF), (32, cS [1, 2, 3, 4] true [(1, 1), (2, 2), (3, 3), (4, 4)] c2), (36, aF), (39, aF), (50, aF), (54, aT), (57, cS [1, 2, 3, 4] true [(1, 1), (2, 2), (3, 3), (4, 4)] c2), (59, aF), (62, cS [1, 2, 3, 4] true [(1, 1), (2, 2), (3, 3), (4, 4)] c1), (64, aF), (69, aF), (78, aV (I6 ↑(i + 1)))] [(5, 5), (1, 1), (2, 2), (3, 3), (4, 4)] (dFu p n L H V (q + 1) B nl k I (i + 1)) [decide ((i:Int) < (k:Int)) = true, 0 ≤ (i:Int), (i:Int) < (k:Int), _, i < k, rO c2 1, rO c2 2, rO c2 3, rO c2 4, _, rO c2 1, rO c2 2, rO c2 3, rO c2 4, _, _, rO c2 1, rO c2 2, rO c2 3, rO c2 4, _, _, decide ((n:Int) ≥ Prm.cap p) = false, rO c2 1, rO c2 2, rO c2 3, rO c2 4, _, decide ((n:Int) > Prm.cap p) = false, (e == (8 : Int)) = false, (e == (7 : Int)) = false, (e != (0 : Int)) = true, rO c2 1, rO c2 2, rO c2 3, rO c2 4, _, ((n:Int) != (n:Int)) = false, rO c2 1, rO c2 2, rO c2 3, rO c2 4, _, (!decide (x = x)) = false, (e == (0 : Int)) = false, I6 (IntKind.wrap .i64 ((i:Int) + 1)) = I6 ↑(i + 1)] (ac (dT (by omega)) (ob2 (by omega) (ac (ex g) (ac (by omega) (ac rfl (ac rfl (ac rfl (ac rfl (ac (c2) (ac rfl (ac rfl (ac rfl (ac rfl (ac (c1) (ac (c3) (ac rfl (ac rfl (ac rfl (ac rfl (ac (c4) (ac (cA) (ac (dF (by omega)) (ac rfl (ac rfl (ac rfl (ac rfl (ac (c2) (ac (dF (by omega)) (ac (dF (by omega)) (ac (dF (by omega)) (ac (bne_iff_ne.2 (by omega)) (ac rfl (ac rfl (ac rfl (ac rfl (ac (c2) (ac (bne_eq_false_iff_eq.2 (by omega)) (ac rfl (ac rfl (ac rfl (ac rfl (ac (c1) (ac (by (simp [*]; done)) (ac (dF (by omega)) (ao (wj (by omega))))))))))))))))))))))))))))))))))))))))))))))) ?_
 exact hw
theorem W_fuB {p : Prm} {n : Nat} {L H : Lpz} {V : Liz} {q t : Nat} {B : Liz} {nl : Bool} {k : Nat} {I : Lpz} {i : Nat} {h : Hd} {x y : Liz} {now : Int} {L' H' : Lpz} {V' B' : Liz} {m' : Nat} (hi : i < k) (hk : k ≤ 24) (hn : n ≤ 100) (hcap : (n : Int) ≤ p.cap) (g : I.getD i .undef = .st 69 [.st 68 [.int .u32 h.ver, .iarr .u8 32 h.prev, .iarr .u8 32 h.root, .int .u32 h.time, .int .u32 h.bits, .int .u32 h.nonce], .int .i64 now]) (hx : x.length = 32)
  (c3 : Pt 21 [] [h.pv] [] (.iarr .u8 32 y)) (hm : Br H (.iarr .u8 32 y) = false) (hf : ¬ p.cap ≤ (n : Int)) (c1 : Pt 19 (trR p n L H V (q + 1) B) [.at 1 []] (trR p n L H V (q + 1) B) (.iarr .u8 32 x))
  (cA : Pt 16 (trR p n L H V (q + 1) B) [.at 1 [], h.pv, .int .i64 now] (trX 6 4 p (n + 1) L' H' V' m' B') (.int .i64 ((0 : Nat) : Int)))
  (hw : Wt Tryz.f4 [] [] (.bool true) (Af Tryz.f4 0) (dFu p (n + 1) L' H' V' m' B' nl k I (i + 1))) : Wt Tryz.f4 [] [] (.bool true) (Af Tryz.f4 0) (dFu p n L H V (q + 1) B nl k I i) := by
 have c2 := EE (p := p) (n := n) (L := L) (H := H) (V := V) (m := q + 1) (B := B)
 have c5 := EE (p := p) (n := n + 1) (L := L') (H := H') (V := V') (m := m') (B := B')
 have c4 := Ja (p := p) (n := n) (L := L) (H := H) (V := V) (m := q + 1) (B := B) (y := y)
 rw [hm] at c4
 unfold trR trX at *
 refine W.sgA 0 [(0, aT), (2, aE g), (6, cS [1, 2, 3, 4] true [(1, 1), (2, 2), (3, 3), (4, 4)] c2), (8, cS [1, 2, 3, 4] true [(1, 1), (2, 2), (3, 3), (4, 4)] c1), (12, c9 c3), (13, cS [1, 2, 3, 4] true [(1, 1), (2, 2), (3, 3), (4, 4)] c4), (23, cC true [(1, 1), (2, 2), (3, 3), (4, 4)] cA), (24, aV (I6 0)), (29, aF), (32, cS [1, 438, 3, 4] true [(1, 1), (438, 2), (3, 3), (4, 4)] c5), (36, aF), (72, cS [1, 438, 3, 4] true [(1, 1), (438, 2), (3, 3), (4, 4)] c5), (74, aV (I6 ↑(n + 1))), (75, aF), (78, aV (I6 ↑(i + 1)))] [(5, 5), (1, 1), (438, 2), (3, 3), (4, 4)] (dFu p (n + 1) L' H' V' m' B' nl k I (i + 1)) [decide ((i:Int) < (k:Int)) = true, 0 ≤ (i:Int), (i:Int) < (k:Int), _, i < k, rO c2 1, rO c2 2, rO c2 3, rO c2 4, _, rO c2 1, rO c2 2, rO c2 3, rO c2 4, _, _, rO c2 1, rO c2 2, rO c2 3, rO c2 4, _, _, I6 ↑(0 : Nat) = I6 0, decide ((n:Int) ≥ Prm.cap p) = false, rX [(1, 1), (438, 2), (3, 3), (4, 4)] c5 1, rX [(1, 1), (438, 2), (3, 3), (4, 4)] c5 2, rX [(1, 1), (438, 2), (3, 3), (4, 4)] c5 3, rX [(1, 1), (438, 2), (3, 3), (4, 4)] c5 4, _, decide ((↑(n + 1) : Int) > Prm.cap p) = false, rX [(1, 1), (438, 2), (3, 3), (4, 4)] c5 1, rX [(1, 1), (438, 2), (3, 3), (4, 4)] c5 2, rX [(1, 1), (438, 2), (3, 3), (4, 4)] c5 3, rX [(1, 1), (438, 2), (3, 3), (4, 4)] c5 4, _, I6 (IntKind.wrap .i64 ((n:Int) + 1)) = I6 ↑(n + 1), ((↑(n + 1) : Int) != (↑(n + 1) : Int)) = false, I6 (IntKind.wrap .i64 ((i:Int) + 1)) = I6 ↑(i + 1)] (ac (dT (by omega)) (ob2 (by omega) (ac (ex g) (ac (by omega) (ac rfl (ac rfl (ac rfl (ac rfl (ac (c2) (ac rfl (ac rfl (ac rfl (ac rfl (ac (c1) (ac (c3) (ac rfl (ac rfl (ac rfl (ac rfl (ac (c4) (ac (cA) (ac (cg (by omega)) (ac (dF (by omega)) (ac rfl (ac rfl (ac rfl (ac rfl (ac (c5) (ac (dF (by omega)) (ac rfl (ac rfl (ac rfl (ac rfl (ac (c5) (ac (wj (by omega)) (ac (bne_eq_false_iff_eq.2 (by omega)) (ao (wj (by omega))))))))))))))))))))))))))))))))))))))) ?_
 exact hw
theorem W_fuC {p : Prm} {n : Nat} {L H : Lpz} {V : Liz} {q t : Nat} {B : Liz} {nl : Bool} {k : Nat} {I : Lpz} {i : Nat} {h : Hd} {x y : Liz} {now : Int} {L' H' : Lpz} {V' B' : Liz} {m' : Nat} (hi : i < k) (hk : k ≤ 24) (hn : n ≤ 100) (hcap : (n : Int) ≤ p.cap) (g : I.getD i .undef = .st 69 [.st 68 [.int .u32 h.ver, .iarr .u8 32 h.prev, .iarr .u8 32 h.root, .int .u32 h.time, .int .u32 h.bits, .int .u32 h.nonce], .int .i64 now]) (hx : x.length = 32)
  (c3 : Pt 21 [] [h.pv] [] (.iarr .u8 32 y)) (hm : Br H (.iarr .u8 32 y) = false) (hf : ¬ p.cap ≤ (n : Int)) (c1 : Pt 19 (trR p n L H V (q + 1) B) [.at 1 []] (trR p n L H V (q + 1) B) (.iarr .u8 32 x))
  (cA : Pt 16 (trR p n L H V (q + 1) B) [.at 1 [], h.pv, .int .i64 now] (trX 6 5 p (n + 1) L' H' V' m' B') (.int .i64 ((0 : Nat) : Int)))
  (hw : Wt Tryz.f4 [] [] (.bool true) (Af Tryz.f4 0) (dFu p (n + 1) L' H' V' m' B' nl k I (i + 1))) : Wt Tryz.f4 [] [] (.bool true) (Af Tryz.f4 0) (dFu p n L H V (q + 1) B nl k I i) := by
 have c2 := EE (p := p) (n := n) (L := L) (H := H) (V := V) (m := q + 1) (B := B)
 have c5 := EE (p := p) (n := n + 1) (L := L') (H := H') (V := V') (m := m') (B := B')
 have c4 := Ja (p := p) (n := n) (L := L) (H := H) (V := V) (m := q + 1) (B := B) (y := y)
 rw [hm] at c4
 unfold trR trX at *
 refine W.sgA 0 [(0, aT), (2, aE g), (6, cS [1, 2, 3, 4] true [(1, 1), (2, 2), (3, 3), (4, 4)] c2), (8, cS [1, 2, 3, 4] true [(1, 1), (2, 2), (3, 3), (4, 4)] c1), (12, c9 c3), (13, cS [1, 2, 3, 4] true [(1, 1), (2, 2), (3, 3), (4, 4)] c4), (23, cC true [(1, 1), (2, 2), (3, 3), (4, 4)] cA), (24, aV (I6 0)), (29, aF), (32, cS [1, 438, 3, 437] true [(1, 1), (438, 2), (3, 3), (437, 4)] c5), (36, aF), (72, cS [1, 438, 3, 437] true [(1, 1), (438, 2), (3, 3), (437, 4)] c5), (74, aV (I6 ↑(n + 1))), (75, aF), (78, aV (I6 ↑(i + 1)))] [(5, 5), (1, 1), (438, 2), (3, 3), (437, 4)] (dFu p (n + 1) L' H' V' m' B' nl k I (i + 1)) [decide ((i:Int) < (k:Int)) = true, 0 ≤ (i:Int), (i:Int) < (k:Int), _, i < k, rO c2 1, rO c2 2, rO c2 3, rO c2 4, _, rO c2 1, rO c2 2, rO c2 3, rO c2 4, _, _, rO c2 1, rO c2 2, rO c2 3, rO c2 4, _, _, I6 ↑(0 : Nat) = I6 0, decide ((n:Int) ≥ Prm.cap p) = false, rX [(1, 1), (438, 2), (3, 3), (437, 4)] c5 1, rX [(1, 1), (438, 2), (3, 3), (437, 4)] c5 2, rX [(1, 1), (438, 2), (3, 3), (437, 4)] c5 3, rX [(1, 1), (438, 2), (3, 3), (437, 4)] c5 4, _, decide ((↑(n + 1) : Int) > Prm.cap p) = false, rX [(1, 1), (438, 2), (3, 3), (437, 4)] c5 1, rX [(1, 1), (438, 2), (3, 3), (437, 4)] c5 2, rX [(1, 1), (438, 2), (3, 3), (437, 4)] c5 3, rX [(1, 1), (438, 2), (3, 3), (437, 4)] c5 4, _, I6 (IntKind.wrap .i64 ((n:Int) + 1)) = I6 ↑(n + 1), ((↑(n + 1) : Int) != (↑(n + 1) : Int)) = false, I6 (IntKind.wrap .i64 ((i:Int) + 1)) = I6 ↑(i + 1)] (ac (dT (by omega)) (ob2 (by omega) (ac (ex g) (ac (by omega) (ac rfl (ac rfl (ac rfl (ac rfl (ac (c2) (ac rfl (ac rfl (ac rfl (ac rfl (ac (c1) (ac (c3) (ac rfl (ac rfl (ac rfl (ac rfl (ac (c4) (ac (cA) (ac (cg (by omega)) (ac (dF (by omega)) (ac rfl (ac rfl (ac rfl (ac rfl (ac (c5) (ac (dF (by omega)) (ac rfl (ac rfl (ac rfl (ac rfl (ac (c5) (ac (wj (by omega)) (ac (bne_eq_false_iff_eq.2 (by omega)) (ao (wj (by omega))))))))))))))))))))))))))))))))))))))) ?_
 exact hw
def dFuN (p : Prm) (N : List Nd) (nl : Bool) (I : List (Hd × Int)) (i : Nat) : DS := dFu p N.length (N.map DL) (JB N) (JP N.length) (BN N).length (ints (BN N)) nl I.length (I.map Ps) i
theorem VA {p : Prm} (hp : p.Ok) (hm : p.May) {nl : Bool} {I : List (Hd × Int)} (hI : I.length ≤ 24) (ho : ∀ x ∈ I, x.1.Ok) : ∀ (r i : Nat) (N : List Nd), i + r = I.length → TW p N → N.length ≤ i + 1 → (N.length : Int) ≤ p.cap →
  Wt Tryz.f4 [] [] (.bool true) (Af Tryz.f4 0) (dFuN p N nl I i)
 | 0, i, N, hk, hT, hN, hc => by
  obtain rfl : i = I.length := by omega
  exact W_fuEnd
 | r + 1, i, N, hk, hT, hN, hc => by
  have hi : i < I.length := by omega
  have g := it_get hi
  have hh := it_ok ho hi
  obtain ⟨hA, -⟩ := Wq hp hm hT (by omega) hh (now := (I.getD i default).2)
  have hT' := hT.add hh (I.getD i default).2
  have hl' := PW p N (I.getD i default).1 (I.getD i default).2
  have ih := VA hp hm (nl := nl) hI ho r (i + 1) _ (by omega) hT' (by omega)
  obtain ⟨q, hb, hqn⟩ := hT.best
  have htp := Jq hT.pos
  have hlen := hb.len
  have gB : (ints (BN N)).getD q 0 = ((EN N : Nat) : Int) := by rw [G6 (by omega), hb.last]
  have gn := Kb htp
  unfold DL ndV Hd.pv at gn
  have c1 := SK (p := p) (n := N.length) (L := N.map DL) (H := JB N) (V := JP N.length) (by omega) gB htp gn
  have c3 := Dz hh
  have hs := OB N (Au (I.getD i default).1)
  have hx := Bq (N.getD (EN N) default).h
  unfold dFuN PI ND at *
  cases Uo p N (I.getD i default).1 (I.getD i default).2 with
  | there a e =>
   rw [e] at hA ih
   rw [decide_eq_true a] at hs
   replace ih := ih hc
   rw [hlen] at hA ih ⊢
   rcases hA with ⟨-, hA⟩ | ⟨e1, -⟩ | ⟨e1, -⟩
   ·exact Ua (t := 0) hi hI (by omega) hc g hx c3 hs c1 hA ih
   ·cases e1
   ·cases e1
  | full a b e =>
   rw [e] at hA ih
   rw [decide_eq_false a] at hs
   replace ih := ih hc
   rw [hlen] at hA ih ⊢
   rcases hA with ⟨-, hA⟩ | ⟨e1, -⟩ | ⟨e1, -⟩
   ·exact VI (t := 0) hi hI (by omega) hc g hx c3 hs b c1 hA ih
   ·cases e1
   ·cases e1
  | no z a b e0 e7 e8 e =>
   rw [e] at hA ih
   rw [decide_eq_false a] at hs
   replace ih := ih hc
   rw [hlen] at hA ih ⊢
   rcases hA with ⟨-, hA⟩ | ⟨e1, -⟩ | ⟨e1, -⟩
   ·exact VV (t := 0) hi hI (by omega) hc g hx c3 hs b e0 e7 e8 c1 hA ih
   ·exact absurd e1 e0
   ·exact absurd e1 e0
  | ok x a b e =>
   rw [e] at hA ih
   rw [decide_eq_false a] at hs
   have hl : (N ++ [x]).length = N.length + 1 := by simp
   dsimp only at hA ih
   replace ih := ih (by rw [hl]; omega)
   rw [hl] at hA ih
   rw [hlen] at hA ⊢
   rcases hA with ⟨e1, -⟩ | ⟨-, hA⟩ | ⟨-, hA⟩
   ·exact absurd (congrArg List.length e1) (by rw [hl]; omega)
   ·exact W_fuB (t := 0) hi hI (by omega) hc g hx c3 hs b c1 hA ih
   ·exact W_fuC (t := 0) hi hI (by omega) hc g hx c3 hs b c1 hA ih
theorem pc_treeFull {p : Prm} (hp : p.Ok) {nl : Bool} {I : List (Hd × Int)} (ho : ∀ x ∈ I, x.1.Ok) : Pt 4 [] [Jp p nl I.length (I.map Ps)] [] (.bool true) := by
 by_cases hI : I.length ≤ 24
 ·by_cases hm : p.May
  ·have hT : TW p [⟨p.gen, [0], p.sum⟩] := TW.new hp.gen hp.sum
   have hw := VA hp hm (nl := nl) hI ho I.length 0 _ (by omega) hT (by simp) (by simpa using hm.cap.1)
   have c1 := KJ (NR hp hm) (Dz hp.gen)
   refine W_fuIn (R := []) hI (V4 (TL hp.sum) (pc_mayY hp hm) hI) c1 ?_
   have e : dFuN p [⟨p.gen, [0], p.sum⟩] nl I 0 = dFu p 1 [ndV p.gen (Au p.gen) (-1) 0 (uw p.sum)] [.iarr .u8 32 (Au p.gen)] [0] 1 [0] nl I.length (I.map Ps) 0 := by
    unfold dFuN BN
    rw [Xe]
    rfl
   rw [← e]
   exact hw
  ·exact U9 (Vi (TL hp.sum) (pc_mayN hp hm) hI)
 ·exact U9 (Ww hI)
end Go.Proofs
namespace Go.Proofs
open Go Go.Pe Go.Pm
set_option maxRecDepth 100000
theorem it_of {p : PV} (hc : conf Oy p = true) (hw : WF p) : ∃ x : Hd × Int, p = Ps x ∧ x.1.Ok ∧ IntKind.i64.wrap x.2 = x.2 := by
 obtain ⟨a, b, rfl, ha, hb⟩ : ∃ a b, p = .st 69 [a, b] ∧ conf hsh a = true ∧ conf (.int .i64) b = true := by
  have e := Bu _ _ hc
  obtain ⟨a, b, rfl⟩ : ∃ a b, p = .st 69 [a, b] := ⟨_, _, e.symm⟩
  have h2 : (Nat.beq 69 69 && (conf hsh a && (conf (.int .i64) b && true))) = true := hc
  simp only [Bool.and_eq_true] at h2
  exact ⟨a, b, rfl, h2.2.1, h2.2.2.1⟩
 simp only [WF, WFL] at hw
 obtain ⟨h, rfl, hh⟩ := hd_of ha hw.2.1
 obtain ⟨x, rfl⟩ : ∃ x, b = .int .i64 x := ⟨_, (Bu _ _ hb).symm⟩
 exact ⟨(h, x), rfl, hh, hw.2.2.1⟩
theorem VO : ∀ {l : List PV}, WFL l → (∀ q ∈ l, size q = 69 ∧ conf Oy q = true ∧ noref q = true) → ∃ I : List (Hd × Int), l = I.map Ps ∧ ∀ x ∈ I, x.1.Ok ∧ IntKind.i64.wrap x.2 = x.2
 | [], _, _ => ⟨[], rfl, fun x hx => by cases hx⟩
 | p :: l, hw, hq => by
  simp only [WFL] at hw
  obtain ⟨x, rfl, hh⟩ := it_of (hq p (by simp)).2.1 hw.1
  obtain ⟨I, rfl, hI⟩ := VO hw.2 fun q hh => hq q (by simp [hh])
  refine ⟨x :: I, rfl, fun y hy => ?_⟩
  rcases List.mem_cons.1 hy with rfl | hy
  ·exact hh
  ·exact hI y hy
def tcsh : Sh := .st 78 [psh, .vec 69 Oy]
theorem tc_of {p : PV} (hc : conf tcsh p = true) (hw : WF p) : ∃ (q : Prm) (nl : Bool) (I : List (Hd × Int)), p = Jp q nl I.length (I.map Ps) ∧ q.Ok ∧ ∀ x ∈ I, x.1.Ok ∧ IntKind.i64.wrap x.2 = x.2 := by
 obtain ⟨a, b, rfl, ha, hb⟩ : ∃ a b, p = .st 78 [a, b] ∧ conf psh a = true ∧ conf (.vec 69 Oy) b = true := by
  have e := Bu _ _ hc
  obtain ⟨a, b, rfl⟩ : ∃ a b, p = .st 78 [a, b] := ⟨_, _, e.symm⟩
  have h2 : (Nat.beq 78 78 && (conf psh a && (conf (.vec 69 Oy) b && true))) = true := hc
  simp only [Bool.and_eq_true] at h2
  exact ⟨a, b, rfl, h2.2.1, h2.2.2.1⟩
 simp only [WF, WFL] at hw
 obtain ⟨q, rfl, hq⟩ := prm_of ha hw.2.1
 obtain ⟨nl, n, m, rfl⟩ : ∃ nl n m, b = .vec nl (.parr 69 n Oy m) := ⟨_, _, _, (Bu _ _ hb).symm⟩
 obtain ⟨_, _, ⟨⟨h1, h2, h3⟩, _, _⟩, _⟩ := hw
 obtain ⟨I, rfl, hI⟩ := VO h2 h3
 rw [List.length_map] at h1
 subst h1
 exact ⟨q, nl, I, rfl, hq, hI⟩
theorem one_ofT {sh : Sh} {ps : List PV} (h : DX [sh] ps = true) : ∃ a, ps = [a] ∧ conf sh a = true := by
 cases ps with
 | nil => simp [DX] at h
 | cons a t => cases t with
  | nil => simp only [DX, Bool.and_true] at h; exact ⟨a, rfl, h⟩
  | cons b t => simp [DX] at h
end Go.Proofs
namespace Go.Pe
def Qi (P : Program) (tot : Nat) : Nat → List Field → Bool
 | o, [] => Nat.beq o tot
 | o, f :: l => Nat.beq f.offset o && Qi P tot (o + P.cellsOf f.type) l
def okT (P : Program) : Nat → TypeId → Bool
 | 0, _ => false
 | d + 1, t => match P.underlying t with
  | some .bool | some (.int _) | some .string => Nat.beq (P.cellsOf t) 1
  | some (.struct fs) => Qi P (P.cellsOf t) 0 fs.toList && fs.toList.all fun f => okT P d f.type
  | some (.array n e) => Nat.beq (P.cellsOf t) (n * P.cellsOf e) && EY P e && okT P d e
  | some (.slice e) => Nat.beq (P.cellsOf t) 1 && EY P e && okT P d e
  | _ => false
theorem C8 (k : IntKind) : IntKind.same k k = true := by cases k <;> rfl
theorem beq_refl (s : Sh) : Sh.beq s s = true :=
 Sh.rec (motive_1 := fun s => Sh.beq s s = true) (motive_2 := fun l => Sh.OC l l = true) rfl C8 rfl rfl (fun _ _ ih => by simp only [Sh.beq, Bool.and_eq_true]; exact ⟨Nat.beq_refl _, ih⟩)
  (fun k _ => by simp only [Sh.beq, Bool.and_eq_true]; exact ⟨C8 k, Nat.beq_refl _⟩) (fun _ _ _ ih => by simp only [Sh.beq, Bool.and_eq_true]; exact ⟨⟨Nat.beq_refl _, Nat.beq_refl _⟩, ih⟩)
  (fun _ _ ih => by simp only [Sh.beq, Bool.and_eq_true]; exact ⟨Nat.beq_refl _, ih⟩) rfl (fun _ _ h1 h2 => by simp only [Sh.OC, Bool.and_eq_true]; exact ⟨h1, h2⟩) s
structure KT (P : Program) (w : World) (T : T2) (d : Nat) (t : TypeId) (cs : List Value) (p : PV) : Prop where
 conf : conf (CF P d t) p = true
 wf : WF p
 noref : noref p = true
 untup : untup p = true
 size : size p = P.cellsOf t
 len : cs.length = P.cellsOf t
 agg : Pe.isAgg p = Cg P t
 rel : ∀ (j : Nat) (q : PV) (u : Value), (flat p)[j]? = some q → cs[j]? = some u → RC w T u q
theorem MJ {α β : Type} {g : α → Option β} : ∀ {l : List α} {xs : List β}, l.mapM g = some xs → ∀ i ∈ l, ∃ y, g i = some y
 | [], _, _, i, hi => by cases hi
 | a :: l, xs, h, i, hi => by
  rw [List.mapM_cons] at h
  simp only [Option.bind_eq_bind, Option.bind_eq_some_iff] at h
  obtain ⟨y, hy, ys, hys, _⟩ := h
  rcases List.mem_cons.1 hi with rfl | hi
  ·exact ⟨y, hy⟩
  ·exact MJ hys i hi
theorem J3 {s : Nat} (hs : 0 < s) : ∀ {l : List PV}, WFL l → (∀ q ∈ l, Pe.size q = s) → ∀ {j : Nat} {q : PV}, (Ak l)[j]? = some q → ∃ p, l[j / s]? = some p ∧ (flat p)[j % s]? = some q
 | [], _, _, j, q, h => by simp [Ak] at h
 | p :: l, hw, hz, j, q, h => by
  simp only [WFL] at hw
  have hl : (flat p).length = s := by rw [Ai p hw.1, hz p (by simp)]
  simp only [Ak] at h
  by_cases hj : j < s
  ·rw [List.getElem?_append_left (by omega)] at h
   refine ⟨p, by rw [Nat.div_eq_of_lt hj]; rfl, by rw [Nat.mod_eq_of_lt hj]; exact h⟩
  ·rw [List.getElem?_append_right (by omega), hl] at h
   obtain ⟨p', h1, h2⟩ := J3 hs hw.2 (fun q hq => hz q (by simp [hq])) h
   have e : j = (j - s) + s := by omega
   refine ⟨p', ?_, ?_⟩
   ·rw [e, Nat.add_div_right _ hs]
    simpa using h1
   ·rw [e, Nat.add_mod_right]; exact h2
def CL (P : Program) (d : Nat) (e : TypeId) (l : List PV) : PV := match P.underlying e with
 | some (.int k) => .iarr k l.length (l.map PV.num)
 | _ => .parr (P.cellsOf e) l.length (CF P d e) l
section
variable {P : Program} {w : World} {T : T2}
theorem P7 {d : Nat} {e : TypeId} {k : IntKind} (h : P.underlying e = some (.int k)) : CF P (d + 1) e = .int k := by simp only [CF, h]
theorem Q6 {d : Nat} {t e : TypeId} (h : P.underlying t = some (.slice e)) : CF P (d + 1) t = .vec (P.cellsOf e) (CF P d e) := by simp only [CF, h]
theorem IR {d : Nat} {e : TypeId} {l : List PV} (hok : okT P d e = true) (hl : ∀ q ∈ l, Pe.conf (CF P d e) q = true ∧ WF q ∧ Pe.noref q = true ∧ Pe.untup q = true ∧ Pe.size q = P.cellsOf e) :
  WF (CL P d e l) ∧ Cc (CL P d e l) = true ∧ Ae (CL P d e l) = l.length ∧ Az (CL P d e l) = P.cellsOf e ∧ Pe.untup (CL P d e l) = true ∧ flat (CL P d e l) = Ak l ∧ Pe.size (CL P d e l) = l.length * P.cellsOf e := by
 have hut : Ca l = true := by
  clear hok
  induction l with
  | nil => rfl
  | cons p l ih =>
   simp only [Ca, Bool.and_eq_true]
   exact ⟨(hl p (by simp)).2.2.2.1, ih fun q hq => hl q (by simp [hq])⟩
 unfold CL
 split
 ·rename_i k hu
  obtain ⟨d', rfl⟩ : ∃ d', d = d' + 1 := by cases d with
   | zero => simp [okT] at hok
   | succ d => exact ⟨d, rfl⟩
  have h1 : P.cellsOf e = 1 := by
   simp only [okT, hu] at hok
   exact Nat.eq_of_beq_eq_true hok
  have hq : ∀ q ∈ l, ∃ x, q = .int k x ∧ k.wrap x = x := by
   intro q hq
   have := hl q hq
   rw [P7 hu] at this
   cases q <;> simp only [Pe.conf, reduceCtorEq, false_and] at this
   rename_i k' x
   have hk := IntKind.same_eq this.1
   subst hk
   exact ⟨x, rfl, by simpa only [WF] using this.2.1⟩
  have hf : (l.map PV.num).map (PV.int k) = l := by
   rw [List.map_map]
   conv => rhs; rw [← List.map_id l]
   refine List.map_congr_left fun q hql => ?_
   obtain ⟨x, rfl, _⟩ := hq q hql
   rfl
  have hfl : Ak l = l := by
   clear hok hf
   induction l with
   | nil => rfl
   | cons p l ih =>
    obtain ⟨x, rfl, _⟩ := hq p (by simp)
    simp only [Ak, flat]
    rw [ih (by simp only [Ca, Bool.and_eq_true] at hut; exact hut.2) (fun q hq' => hl q (by simp [hq'])) (fun q hq' => hq q (by simp [hq']))]
    rfl
  refine ⟨?_, rfl, rfl, by simp only [Az]; omega, rfl, by simp only [flat]; rw [hf, hfl], by simp only [Pe.size]; rw [h1, Nat.mul_one]⟩
  simp only [WF, List.length_map, List.mem_map, true_and]
  rintro x ⟨q, hql, rfl⟩
  obtain ⟨x, rfl, hx⟩ := hq q hql
  exact hx
 ·refine ⟨?_, rfl, rfl, rfl, by simpa only [Pe.untup] using hut, rfl, rfl⟩
  simp only [WF]
  exact ⟨trivial, Cs fun q hq => (hl q hq).2.1, fun q hq => ⟨(hl q hq).2.2.2.2, (hl q hq).1, (hl q hq).2.2.1⟩⟩
theorem QQ {d n : Nat} {t e : TypeId} {cs : List Value} (hu : P.underlying t = some (.array n e)) (hc : P.cellsOf t = n * P.cellsOf e) (hok : okT P d e = true) (hs : 0 < P.cellsOf e) (hl : cs.length = P.cellsOf t)
  (h : ∀ i, i < n → ∃ p, KT P w T d e ((cs.drop (i * P.cellsOf e)).take (P.cellsOf e)) p) : ∃ p, KT P w T (d + 1) t cs p := by
 have hex : ∀ i, ∃ p, i < n → KT P w T d e ((cs.drop (i * P.cellsOf e)).take (P.cellsOf e)) p := fun i => by
  by_cases hi : i < n
  ·obtain ⟨p, hp⟩ := h i hi; exact ⟨p, fun _ => hp⟩
  ·exact ⟨.undef, fun h => absurd h hi⟩
 obtain ⟨f, hf⟩ := Classical.axiomOfChoice hex
 have hmem : ∀ q ∈ (List.range n).map f, Pe.conf (CF P d e) q = true ∧ WF q ∧ Pe.noref q = true ∧ Pe.untup q = true ∧ Pe.size q = P.cellsOf e := by
  intro q hq
  obtain ⟨i, hi, rfl⟩ := List.mem_map.1 hq
  have := hf i (by simpa using hi)
  exact ⟨this.conf, this.wf, this.noref, this.untup, this.size⟩
 obtain ⟨a1, a2, a3, a4, a5, a6, a7⟩ := IR hok hmem
 have hlen : ((List.range n).map f).length = n := by simp
 refine ⟨CL P d e ((List.range n).map f), ?_, a1, Kg a2, a5, by rw [a7, hlen, hc], hl, ?_, fun j q u hq hu' => ?_⟩
 ·unfold CL
  simp only [CF, hu]
  cases hk : P.underlying e with
  | none =>
   simp only [Pe.conf, Bool.and_eq_true, hlen]
   exact ⟨⟨Nat.beq_refl _, Nat.beq_refl _⟩, beq_refl _⟩
  | some dsc => cases dsc with
  | int k =>
   simp only [Pe.conf, Bool.and_eq_true, hlen]
   exact ⟨C8 k, Nat.beq_refl _⟩
  | _ =>
   simp only [Pe.conf, Bool.and_eq_true, hlen]
   exact ⟨⟨Nat.beq_refl _, Nat.beq_refl _⟩, beq_refl _⟩
 ·have : Pe.isAgg (CL P d e ((List.range n).map f)) = true := by unfold CL; split <;> rfl
  rw [this]
  simp only [Cg, hu]
 ·rw [a6] at hq
  have hwl : WFL ((List.range n).map f) := Cs fun q hq => (hmem q hq).2.1
  obtain ⟨p, h1, h2⟩ := J3 hs hwl (fun q hq => (hmem q hq).2.2.2.2) hq
  have hjn : j / P.cellsOf e < n := by have := (List.getElem?_eq_some_iff.1 h1).1; simpa using this
  have hp : p = f (j / P.cellsOf e) := by simp [hjn] at h1; exact h1.symm
  subst hp
  refine (hf _ hjn).rel (j % P.cellsOf e) q u h2 ?_
  rw [List.getElem?_take, if_pos (Nat.mod_lt _ hs), List.getElem?_drop, ← hu']
  congr 1
  rw [Nat.mul_comm]
  exact Nat.div_add_mod j (P.cellsOf e)
theorem JC {d tot : Nat} {cs : List Value} (hl : cs.length = tot) : ∀ {fs : List Field} {o : Nat}, Qi P tot o fs = true → (∀ f ∈ fs, okT P d f.type = true ∧ ∃ p, KT P w T d f.type ((cs.drop f.offset).take (P.cellsOf f.type)) p) →
  ∃ ps, DX (fs.map fun f => CF P d f.type) ps = true ∧ WFL ps ∧ CW ps = true ∧ Ca ps = true ∧ o + AO ps = tot ∧ ∀ (j : Nat) (q : PV) (u : Value), (Ak ps)[j]? = some q → cs[o + j]? = some u → RC w T u q
 | [], o, h, _ => by
  simp only [Qi] at h
  exact ⟨[], rfl, by simp [WFL], rfl, rfl, by simp only [AO]; exact Nat.eq_of_beq_eq_true h, fun j q u hq => by simp [Ak] at hq⟩
 | f :: fs, o, h, hf => by
  simp only [Qi, Bool.and_eq_true] at h
  obtain ⟨h1, h2⟩ := h
  have ho := Nat.eq_of_beq_eq_true h1
  obtain ⟨_, p, hp⟩ := hf f (by simp)
  obtain ⟨ps, g1, g2, g3, g4, g5, g6⟩ := JC hl h2 fun x hx => hf x (by simp [hx])
  refine ⟨p :: ps, by simp only [List.map_cons, DX, Bool.and_eq_true]; exact ⟨hp.conf, g1⟩, by simp only [WFL]; exact ⟨hp.wf, g2⟩, by simp only [CW, Bool.and_eq_true]; exact ⟨hp.noref, g3⟩, by simp only [Ca, Bool.and_eq_true]; exact ⟨hp.untup, g4⟩, by simp only [AO, hp.size]; omega, fun j q u hq hu => ?_⟩
  simp only [Ak] at hq
  have hlp : (flat p).length = P.cellsOf f.type := by rw [Ai p hp.wf, hp.size]
  by_cases hj : j < P.cellsOf f.type
  ·rw [List.getElem?_append_left (by omega)] at hq
   refine hp.rel j q u hq ?_
   rw [List.getElem?_take, if_pos hj, List.getElem?_drop, ho]
   exact hu
  ·rw [List.getElem?_append_right (by omega), hlp] at hq
   refine g6 _ q u hq ?_
   rw [← hu]
   congr 1
   omega
end
section
variable {H : Type} {enc : TypeId × Value → H} {P : Program} {w : World} {base : Nat} {spare : Nat → Bool} {held : Bool}
theorem Kw {a : Addr} {n : Nat} {cs : List Value} (h : w.cells? base a n = some cs) : cs.length = n ∧ ∀ j u, cs[j]? = some u → w.cell? (a.add j) = some u := by
 unfold World.cells? at h
 split at h
 ·have : ∀ {l : List Nat} {xs : List Value}, l.mapM (fun i => w.cell? (a.add i)) = some xs → xs.length = l.length ∧ ∀ (j : Nat) (i : Nat) (u : Value), l[j]? = some i → xs[j]? = some u → w.cell? (a.add i) = some u := by
   intro l
   induction l with
   | nil => intro xs h; simp at h; subst h; exact ⟨rfl, fun j i u hi => by simp at hi⟩
   | cons b l ih =>
    intro xs h
    rw [List.mapM_cons] at h
    simp only [Option.bind_eq_bind, Option.bind_eq_some_iff, Option.pure_def, Option.some.injEq] at h
    obtain ⟨y, hy, ys, hys, rfl⟩ := h
    obtain ⟨e1, e2⟩ := ih hys
    refine ⟨by simp [e1], fun j i u hi hu => ?_⟩
    cases j with
    | zero => simp at hi hu; subst hi; subst hu; exact hy
    | succ j => simp at hi hu; exact e2 j i u hi hu
  obtain ⟨e1, e2⟩ := this h
  refine ⟨by simpa using e1, fun j u hu => ?_⟩
  have hj : j < n := by have := (List.getElem?_eq_some_iff.1 hu).1; simp at e1; omega
  exact e2 j j u (by simp [hj]) hu
 ·cases h
theorem F6 : ∀ (d : Nat) (t : TypeId) (fuel : Nat) (cs : List Value) (x : DataW H × List MemPlace), okT P d t = true → DataW.trod enc P w base spare held fuel t cs = some x → ∃ p, KT P w (fun b _ => b < w.heap.size) d t cs p
 | 0, _, _, _, _, h, _ => by simp [okT] at h
 | d + 1, t, 0, cs, x, _, h => by simp [DataW.trod] at h
 | d + 1, t, fuel + 1, cs, x, hok, h => by
  have hsz : ∀ e, EY P e = true → 0 < P.cellsOf e := fun e he => Nat.pos_of_ne_zero (BS he)
  simp only [okT] at hok
  split at hok
  ·rename_i hu
   have hc := Nat.eq_of_beq_eq_true hok
   obtain ⟨b, rfl, _⟩ := DataW.trod_bool hu h
   refine ⟨.bool b, by simp only [CF, hu]; rfl, trivial, rfl, rfl, hc.symm, by rw [hc]; rfl, by simp only [Cg, hu]; rfl, fun j q u hq hu' => ?_⟩
   cases j with
   | zero => simp [flat] at hq hu'; subst hq; subst hu'; exact .bool b
   | succ j => simp [flat] at hq
  ·rename_i k hu
   have hc := Nat.eq_of_beq_eq_true hok
   obtain ⟨n, rfl, _, hwf⟩ := DataW.trod_int hu h
   have hw : k.wrap n = n := by
    rw [Ap]
    simpa [Lit.wf, IntKind.has] using hwf
   refine ⟨.int k n, by simp only [CF, hu, conf]; cases k <;> rfl, by simp only [WF]; exact hw, rfl, rfl, hc.symm, by rw [hc]; rfl, by simp only [Cg, hu]; rfl, fun j q u hq hu' => ?_⟩
   cases j with
   | zero => simp [flat] at hq hu'; subst hq; subst hu'; exact .int k n
   | succ j => simp [flat] at hq
  ·rename_i hu
   have hc := Nat.eq_of_beq_eq_true hok
   obtain ⟨s, rfl, _, hs⟩ := DataW.trod_string hu h
   refine ⟨.str s, by simp only [CF, hu]; rfl, trivial, rfl, rfl, hc.symm, by rw [hc]; rfl, by simp only [Cg, hu]; rfl, fun j q u hq hu' => ?_⟩
   cases j with
   | zero => simp [flat] at hq hu'; subst hq; subst hu'; exact .str s hs
   | succ j => simp [flat] at hq
  ·rename_i fs hu
   simp only [Bool.and_eq_true, List.all_eq_true] at hok
   simp only [DataW.trod, hu] at h
   split at h
   ·rename_i hl
    simp only [Option.map_eq_some_iff] at h
    obtain ⟨xs, hxs, _⟩ := h
    obtain ⟨ps, g1, g2, g3, g4, g5, g6⟩ := JC (P := P) (w := w) (T := fun b _ => b < w.heap.size) (d := d) hl hok.1 (fun f hf => ⟨hok.2 f hf, by
     obtain ⟨y, hy⟩ := MJ hxs f hf
     exact F6 d f.type fuel _ y (hok.2 f hf) hy⟩)
    refine ⟨.st (P.cellsOf t) ps, by simp only [CF, hu, conf, Bool.and_eq_true]; exact ⟨Nat.beq_refl _, g1⟩, by simp only [WF]; exact ⟨by omega, g2⟩, by simp only [noref]; exact g3, by simp only [untup]; exact g4, rfl, hl, by simp only [Cg, hu]; rfl, fun j q u hq hu' => ?_⟩
    simp only [flat] at hq
    exact g6 j q u hq (by rw [Nat.zero_add]; exact hu')
   ·cases h
  ·rename_i n e hu
   simp only [Bool.and_eq_true] at hok
   have hc := Nat.eq_of_beq_eq_true hok.1.1
   simp only [DataW.trod, hu] at h
   split at h
   ·rename_i hl
    simp only [Option.map_eq_some_iff] at h
    obtain ⟨xs, hxs, _⟩ := h
    exact QQ hu hc hok.2 (hsz e hok.1.2) hl fun i hi => by
     obtain ⟨y, hy⟩ := MJ hxs i (by simpa using hi)
     exact F6 d e fuel _ y hok.2 hy
   ·cases h
  ·rename_i e hu
   simp only [Bool.and_eq_true] at hok
   have hc := Nat.eq_of_beq_eq_true hok.1.1
   have hpos := hsz e hok.1.2
   have hone : ∀ (v : Value) (c : PV) (nl : Bool), cs = [v] → WF (.vec nl c) → Pe.conf (CF P (d + 1) t) (.vec nl c) = true → RC w (fun b _ => b < w.heap.size) v (.vec nl c) → ∃ p, KT P w (fun b _ => b < w.heap.size) (d + 1) t cs p := by
    rintro v c nl rfl h1 h2 h3
    refine ⟨.vec nl c, h2, h1, rfl, rfl, hc.symm, by rw [hc]; rfl, by simp only [Cg, hu]; rfl, fun j q u hq hu' => ?_⟩
    cases j with
    | zero => simp [flat] at hq hu'; subst hq; subst hu'; exact h3
    | succ j => simp [flat] at hq
   have hshape : ∀ l : List PV, ∀ nl, Pe.conf (CF P (d + 1) t) (.vec nl (CL P d e l)) = true := by
    intro l nl
    obtain ⟨d', rfl⟩ : ∃ d', d = d' + 1 := by cases d with
     | zero => simp [okT] at hok
     | succ d => exact ⟨d, rfl⟩
    have hsh : CF P (d' + 1 + 1) t = .vec (P.cellsOf e) (CF P (d' + 1) e) := Q6 hu
    rw [hsh]
    by_cases hk : ∃ k, P.underlying e = some (.int k)
    ·obtain ⟨k, hk⟩ := hk
     have : CL P (d' + 1) e l = .iarr k l.length (l.map PV.num) := by simp only [CL, hk]
     rw [this, P7 hk]
     simp only [Pe.conf]
     exact C8 k
    ·have : CL P (d' + 1) e l = .parr (P.cellsOf e) l.length (CF P (d' + 1) e) l := by
      unfold CL
      split
      ·rename_i k hk'; exact absurd ⟨k, hk'⟩ hk
      ·rfl
     rw [this]
     have hni : Sh.isInt (CF P (d' + 1) e) = false := by
      cases he : P.underlying e with
      | none => simp only [CF, he, Sh.isInt]
      | some dsc => cases dsc with
       | int k => exact absurd ⟨k, he⟩ hk
       | array n e' =>
        simp only [CF, he]
        split <;> rfl
       | _ => simp only [CF, he, Sh.isInt]
     cases hs2 : CF P (d' + 1) e with
     | int k => rw [hs2] at hni; simp [Sh.isInt] at hni
     | _ => simp only [Pe.conf, Bool.and_eq_true, Sh.isInt, Bool.not_false, true_and]; exact ⟨Nat.beq_refl _, beq_refl _⟩
   rcases DataW.trod_slice hu h with ⟨hx, _⟩ | ⟨a, len, cap, elems, rest, n, hf, hx, _, _, h1, h2, h3, h4, _⟩
   ·obtain ⟨a1, a2, a3, _⟩ := IR (P := P) (d := d) (e := e) (l := []) hok.2 (fun q hq => by cases hq)
    exact hone _ (CL P d e []) true hx (by simp only [WF]; exact ⟨a1, a2, fun _ => a3⟩) (hshape [] true) (.vec0 _ _ _ _ a3 rfl (fun _ => rfl))
   ·have hfu : n = fuel := by omega
    subst hfu
    have hex : ∀ i, ∃ p, i < len → ∃ cs', w.cells? base (a.add (i * P.cellsOf e)) (P.cellsOf e) = some cs' ∧ KT P w (fun b _ => b < w.heap.size) d e cs' p := fun i => by
     by_cases hi : i < len
     ·have := h4 i hi
      rw [List.getElem?_eq_getElem (by omega), Option.bind_eq_some_iff] at this
      obtain ⟨cs', c1, c2⟩ := this
      obtain ⟨p, hp⟩ := F6 d e n cs' _ hok.2 c2
      exact ⟨p, fun _ => ⟨cs', c1, hp⟩⟩
     ·exact ⟨.undef, fun h => absurd h hi⟩
    obtain ⟨f, hf⟩ := Classical.axiomOfChoice hex
    have hmem : ∀ q ∈ (List.range len).map f, Pe.conf (CF P d e) q = true ∧ WF q ∧ Pe.noref q = true ∧ Pe.untup q = true ∧ Pe.size q = P.cellsOf e := by
     intro q hq
     obtain ⟨i, hi, rfl⟩ := List.mem_map.1 hq
     obtain ⟨cs', _, hp⟩ := hf i (by simpa using hi)
     exact ⟨hp.conf, hp.wf, hp.noref, hp.untup, hp.size⟩
    obtain ⟨a1, a2, a3, a4, a5, a6, a7⟩ := IR hok.2 hmem
    have hlen : ((List.range len).map f).length = len := by simp
    rw [hlen] at a3
    rcases Nat.eq_zero_or_pos len with h0 | h0
    ·subst h0
     exact hone _ (CL P d e ((List.range 0).map f)) false hx (by simp only [WF]; exact ⟨a1, a2, fun e => by cases e⟩) (hshape _ false) (.vec0 _ _ _ _ a3 rfl (fun e => by cases e))
    ·have hsp : a.spot = none := by
      obtain ⟨cs', c1, hp⟩ := hf 0 h0
      obtain ⟨e1, e2⟩ := Kw c1
      have := e2 0 cs'[0] (List.getElem?_eq_getElem (by omega))
      unfold World.cell? at this
      split at this
      ·split at this
       ·cases this
       ·rename_i hs
        simpa [Addr.add] using hs
      ·cases this
     obtain ⟨bk, o, sp⟩ := a
     simp only at hsp
     subst hsp
     have hcell : ∀ j, ∃ u, ∀ q, (flat (CL P d e ((List.range len).map f)))[j]? = some q → w.cell? ⟨bk, o + j, none⟩ = some u ∧ RC w (fun b _ => b < w.heap.size) u q := by
      intro j
      cases hj : (flat (CL P d e ((List.range len).map f)))[j]? with
      | none => exact ⟨Go.undef, fun q hq => by cases hq⟩
      | some q =>
       rw [a6] at hj
       obtain ⟨p, p1, p2⟩ := J3 hpos (Cs fun q hq => (hmem q hq).2.1) (fun q hq => (hmem q hq).2.2.2.2) hj
       have hjn : j / P.cellsOf e < len := by have := (List.getElem?_eq_some_iff.1 p1).1; simpa using this
       have hp : p = f (j / P.cellsOf e) := by simp [hjn] at p1; exact p1.symm
       subst hp
       obtain ⟨cs', c1, hp⟩ := hf _ hjn
       obtain ⟨e1, e2⟩ := Kw c1
       have hm : j % P.cellsOf e < cs'.length := by rw [e1]; exact Nat.mod_lt _ hpos
       refine ⟨cs'[j % P.cellsOf e], fun q' hq' => ?_⟩
       cases hq'
       refine ⟨?_, hp.rel _ q _ p2 (List.getElem?_eq_getElem hm)⟩
       have := e2 _ _ (List.getElem?_eq_getElem hm)
       rw [BQ, BQ] at this
       rw [← this]
       congr 2
       rw [Nat.add_assoc, Nat.mul_comm, Nat.div_add_mod]
     obtain ⟨us, hus⟩ := Classical.axiomOfChoice hcell
     exact hone _ (CL P d e ((List.range len).map f)) false hx (by simp only [WF]; exact ⟨a1, a2, fun e => by cases e⟩) (hshape _ false)
      (.vec1 _ _ _ _ _ us a3 h1 h2 (fun j q hq => ⟨EF (hus j q hq).1, (hus j q hq).1⟩) (fun j q hq => (hus j q hq).2))
  ·cases hok
end
end Go.Pe
namespace Go.Pe
open Go.ChangeShapes Go.WideShapes Go.ChangeAt Go.RowKit
section
variable {H : Type} {enc : TypeId × Value → H} {P : Program}
theorem Sl {f : Func} {s : ChangeSpec} {apart fresh handsOn again : Bool} {W W' : World} {args : Array Value} {v : Value} {ds gs : List (DataW H)} {before pa pv : List MemPlace}
  (hW : DataW.Whole enc P f.params.toList s.vars apart W args.toList ds gs before)
  (hres : ∀ (b : Nat) (sp : Nat → Bool) (hd : Bool), DataW.TrodAll enc P W' b sp hd f.resultTypes.toList (v.resultList f.resultTypes.size) (s.fn H (ds ++ gs)).results [])
  (hargs : ∀ sp : Nat → Bool, (∀ p ∈ before, sp p.block = true) → DataW.TrodAll enc P W' 0 sp true f.params.toList args.toList (s.fn H (ds ++ gs)).args pa)
  (hvars : ∀ sp : Nat → Bool, (∀ p ∈ before, sp p.block = true) → DataW.TrodVars enc P W' sp s.vars (s.fn H (ds ++ gs)).vars pv)
  (hps : before = pa ++ pv) (hb : Below W.heap.size W W')
  (hok : ∀ (j : Nat) (t : TypeId) (r : Value), f.resultTypes[j]? = some t → (v.resultList f.resultTypes.size)[j]? = some r → Value.okWide P W' .any 0 t r) :
  s.post enc P f apart fresh handsOn again W args v W' := by
 have hlt : ∀ p ∈ before, p.block < W.heap.size := fun p hp => hW.lt p hp
 have hold : ∀ p ∈ before, (fun b => decide (b < W.heap.size)) p.block = true := fun p hp => by simpa using hlt p hp
 refine ⟨ds, gs, before, [], pa, pv, hW, hres _ _ _, hargs _ hold, hvars _ hold, World.keptBut_mono (fun p hp => ⟨hp, ?_⟩) (hb.frame (· ∈ before)), fun _ => ?_⟩
 ·rw [hps, List.mem_append] at hp
  exact Or.inr hp
 ·obtain ⟨_, _, _, _, _, hz, hn⟩ := hW
  refine ⟨hok, _, _, ([] ++ pa) ++ pv, ⟨[] ++ pa, pv, trodAll_append (hargs _ (fun _ _ => rfl)) (hres _ _ _), hvars _ (fun _ _ => rfl), rfl, ?_, ?_⟩, ?_⟩
  ·intro b off hp
   have hin : MemPlace.cell b off ∈ before := by rw [hps]; simpa using hp
   rw [hb.frozen (hlt _ hin)]
   exact hz b off hin
  ·intro ha
   have := hn ha
   rw [hps] at this
   simpa using this
  ·intro p hp _
   rw [hps]
   simpa using hp
theorem H5 (hl : laidOutB P = true) {W W' : World} (hb : Below W.heap.size W W') {sp : Nat → Bool} : ∀ {ts : List TypeId} {vs : List Value} {ds : List (DataW H)} {ps : List MemPlace}, (∀ t ∈ ts, P.readableRec t = true ∧ t < P.types.size) →
  DataW.TrodAll enc P W 0 (fun _ => true) true ts vs ds ps → (∀ p ∈ ps, sp p.block = true) → DataW.TrodAll enc P W' 0 sp true ts vs ds ps
 | [], [], [], _, _, h, _ => h
 | t :: ts, v :: vs, d :: ds, ps, ht, h, hs => by
  have hlt := h.lt
  obtain ⟨p, q, h1, h2, rfl⟩ := h
  exact ⟨p, q, WideElems.Trod_stays hl (ht t (by simp)).1 (ht t (by simp)).2 h1 (fun x hx => hb.same (hlt x (by simp [hx]))) (fun x hx => hs x (by simp [hx])),
   H5 hl hb (fun t ht' => ht t (by simp [ht'])) h2 (fun x hx => hs x (by simp [hx])), rfl⟩
 | [], _ :: _, _, _, _, h, _ => by simp [DataW.TrodAll] at h
 | [], [], _ :: _, _, _, h, _ => by simp [DataW.TrodAll] at h
 | _ :: _, [], _, _, _, h, _ => by simp [DataW.TrodAll] at h
 | _ :: _, _ :: _, [], _, _, h, _ => by simp [DataW.TrodAll] at h
structure Ins (P : Program) (ts : List TypeId) (ps : List PV) : Prop where
 conf : DX (ts.map (CF P 9)) ps = true
 wf : WFL ps
 untup : Ca ps = true
theorem Xx {W : World} {base : Nat} {t : TypeId} {v : Value} {p : PV} (hv : Value.okWide P W .any base t v) (h : KT P W (fun b _ => b < W.heap.size) 9 t v.cells.toList p) : RV W (fun b _ => b < W.heap.size) (fun _ => none) v p := by
 have hnt : ∀ vs, p ≠ .tup vs := fun vs e => by have := h.untup; subst e; simp [Pe.untup] at this
 cases ha : Pe.isAgg p with
 | true =>
  have hat : Cg P t = true := by rw [← h.agg]; exact ha
  have : ∃ cs, v = .agg cs := by
   unfold Cg at hat
   unfold Value.okWide at hv
   split at hat
   ·rename_i fs hu
    rw [hu] at hv
    obtain ⟨cs, hc, _⟩ := hv
    exact ⟨cs, hc⟩
   ·rename_i n e hu
    rw [hu] at hv
    obtain ⟨cs, hc, _⟩ := hv
    exact ⟨cs, hc⟩
   ·cases hat
  obtain ⟨cs, rfl⟩ := this
  refine RV.JS ha h.wf ⟨cs, rfl, ?_, fun j q u hq hu => RO.BV (h.rel j q u hq ?_)⟩
  ·have := h.len
   simp only [Value.cells, Array.length_toList] at this
   rw [this, h.size]
  ·simpa [Value.cells] using hu
 | false =>
  have hl : Pe.leaf p = true := by rw [Pe.leaf_agg, ha]; rfl
  have hone : v.cells = #[v] := by
   have hnagg : ∀ cs, v ≠ .agg cs := by
    rintro cs rfl
    have hat : Cg P t = false := by rw [← h.agg]; exact ha
    unfold Value.okWide at hv
    unfold Cg at hat
    split at hv
    ·rename_i fs hu; rw [hu] at hat; cases hat
    ·rename_i n e hu; rw [hu] at hat; cases hat
    ·unfold Cell.okWide at hv
     split at hv <;> simp_all [Cell.ok]
   cases v <;> first | rfl | exact absurd rfl (hnagg _)
  refine RV.AC hl hnt h.wf (RO.BV (h.rel 0 p v (by rw [Fx hl]; rfl) (by rw [hone]; rfl)))
theorem VD {W : World} {base : Nat} : ∀ {ts : List TypeId} {vs : List Value} {ds : List (DataW H)} {ps : List MemPlace}, (∀ t ∈ ts, okT P 9 t = true) → (∀ (j : Nat) t v, ts[j]? = some t → vs[j]? = some v → Value.okWide P W .any base t v) →
  DataW.TrodAll enc P W 0 (fun _ => true) true ts vs ds ps → ∃ qs, Ins P ts qs ∧ qs.length = vs.length ∧ ∀ (j : Nat) (p : PV) (v : Value), qs[j]? = some p → vs[j]? = some v → RV W (fun b _ => b < W.heap.size) (fun _ => none) v p
 | [], [], [], _, _, _, _ => ⟨[], ⟨rfl, by simp [WFL], rfl⟩, rfl, fun j p v hp => by simp at hp⟩
 | t :: ts, v :: vs, d :: ds, ps, ht, hv, h => by
  obtain ⟨p, q, ⟨fuel, h1⟩, h2, rfl⟩ := h
  obtain ⟨x, hx⟩ := F6 9 t fuel _ _ (ht t (by simp)) h1
  obtain ⟨qs, g1, g2, g3⟩ := VD (fun t' h' => ht t' (by simp [h'])) (fun j t' v' hj hj' => hv (j + 1) t' v' (by simpa using hj) (by simpa using hj')) h2
  refine ⟨x :: qs, ⟨by simp only [List.map_cons, DX, Bool.and_eq_true]; exact ⟨hx.conf, g1.conf⟩, by simp only [WFL]; exact ⟨hx.wf, g1.wf⟩, by simp only [Ca, Bool.and_eq_true]; exact ⟨hx.untup, g1.untup⟩⟩, by simp [g2], fun j p' v' hp hv' => ?_⟩
  cases j with
  | zero =>
   simp at hp hv'
   subst hp; subst hv'
   exact Xx (hv 0 t v rfl rfl) hx
  | succ j => simp at hp hv'; exact g3 j p' v' hp hv'
 | [], _ :: _, _, _, _, _, h => by simp [DataW.TrodAll] at h
 | [], [], _ :: _, _, _, _, h => by simp [DataW.TrodAll] at h
 | _ :: _, [], _, _, _, _, h => by simp [DataW.TrodAll] at h
 | _ :: _, _ :: _, [], _, _, _, h => by simp [DataW.TrodAll] at h
theorem Pv {w w' : World} {M : T2} (hM : ∀ b o, ¬ M b o) (h : FR M w w') : Below w.heap.size w w' := by
 refine ⟨h.os, h.tape, h.output, h.size, fun k hk => ?_⟩
 rcases h.block k hk with e | ⟨_, _, _, _, _, _, m3⟩ | ⟨cs, cs', t, fz, e1, e2, e3, e4⟩
 ·exact e.symm
 ·exact absurd m3 (hM k 0)
 ·rw [e1, e2]
  have : cs' = cs := by
   apply Array.ext_getElem?
   intro i
   exact e4 i (hM k i)
  rw [this]
end
end Go.Pe
namespace Go.Pe
open Go.ChangeShapes Go.WideShapes Go.ChangeAt Go.RowKit
section
variable {H : Type} {enc : TypeId × Value → H} {P : Program}
theorem QM {α β : Type} {g : α → Option β} : ∀ {l : List α} {xs : List β}, l.mapM g = some xs → ∀ (i : Nat) (a : α), l[i]? = some a → ∃ y, xs[i]? = some y ∧ g a = some y
 | [], _, _, i, a, hi => by simp at hi
 | b :: l, xs, h, i, a, hi => by
  rw [List.mapM_cons] at h
  simp only [Option.bind_eq_bind, Option.bind_eq_some_iff] at h
  obtain ⟨y, hy, ys, hys, hx⟩ := h
  obtain rfl := Option.some.inj hx
  cases i with
  | zero => simp at hi; subst hi; exact ⟨y, rfl, hy⟩
  | succ i => exact QM hys i a (by simpa using hi)
theorem QP {w : World} : ∀ {l : List (String × DataW Unit)} {ps : List MemPlace}, DataW.LaidVars P w l ps → ∀ x ∈ l, ∃ g t cs fuel p, P.globalNamed x.1 = some g ∧ (P.globals[g]?).map (·.type) = some t ∧ w.var? P x.1 = some cs ∧ DataW.trod (fun _ => ()) P w 0 (fun _ => true) false fuel t cs.toList = some (x.2, p)
 | [], _, _, x, hx => by cases hx
 | (n, d) :: l, ps, h, x, hx => by
  simp only [DataW.LaidVars] at h
  obtain ⟨g, t, cs, fuel, p, q, h1, h2, h3, h4, h5, _⟩ := h
  rcases List.mem_cons.1 hx with rfl | hx
  ·exact ⟨g, t, cs, fuel, p, h1, h2, h3, h4⟩
  ·exact QP h5 x hx
theorem trod_int {w : World} {base fuel : Nat} {sp : Nat → Bool} {held : Bool} {t : TypeId} {k k' : IntKind} {n : Int} {cs : List Value} {p : List MemPlace} (hu : P.underlying t = some (.int k))
  (h : DataW.trod enc P w base sp held fuel t cs = some (.lit (.int k' n), p)) : cs = [.int k n] := by
 cases fuel with
 | zero => simp [DataW.trod] at h
 | succ fuel =>
  simp only [DataW.trod, hu] at h
  split at h <;> simp_all
theorem glob_ints {W : World} {laid : List (String × DataW Unit)} (h : laidMet P laid W) {name : String} {g t e m : Nat} {k : IntKind} {ls : List Int} (hin : (name, .agg (ls.map fun v => .lit (.int k v))) ∈ laid)
  (hg : P.globalNamed name = some g) (ht : (P.globals[g]?).map (·.type) = some t) (hu : P.underlying t = some (.array m e)) (he : P.underlying e = some (.int k)) (hce : P.cellsOf e = 1) (hct : P.cellsOf t = m) (hm : ls.length = m) :
  RC W (fun b _ => b < W.heap.size) (.pointer (some ⟨g, 0, none⟩)) (.cptr (.iarr k m ls) []) := by
 obtain ⟨ps, hL, _, _⟩ := h
 obtain ⟨g', t', cs, fuel, p, h1, h2, h3, h4⟩ := QP hL _ hin
 obtain rfl := Option.some.inj (hg.symm.trans h1)
 obtain rfl := Option.some.inj (ht.symm.trans h2)
 have hcell : ∀ (i : Nat) (v : Int), ls[i]? = some v → cs[i]? = some (Value.int k v) := by
  intro i v hv
  cases fuel with
  | zero => simp [DataW.trod] at h4
  | succ fuel =>
   simp only [DataW.trod, hu] at h4
   split at h4
   ·rename_i hl
    simp only [Option.map_eq_some_iff] at h4
    obtain ⟨xs, hxs, hd⟩ := h4
    simp only [Prod.mk.injEq, DataW.agg.injEq] at hd
    have hi : i < ls.length := by
     rw [List.getElem?_eq_some_iff] at hv
     exact hv.1
    obtain ⟨y, hy1, hy2⟩ := QM hxs i i (by rw [List.getElem?_range (by omega)])
    have hy : (xs.map (·.1))[i]? = some y.1 := by rw [List.getElem?_map, hy1]; rfl
    rw [hd.1, List.getElem?_map, hv] at hy
    obtain ⟨y1, y2⟩ := y
    simp only [Option.map_some, Option.some.injEq] at hy
    subst hy
    have := trod_int he hy2
    rw [hce, Nat.mul_one] at this
    have e : cs.toList[i]? = some (Value.int k v) := by
     have e0 := congrArg (fun l => l[0]?) this
     simpa using e0
    simpa using e
   ·cases h4
 have hcw : ∀ (i : Nat) (v : Int), ls[i]? = some v → W.cell? ⟨g, i, none⟩ = some (Value.int k v) := fun i v hv => by rw [World.var?_cell hg h3, hcell i v hv]
 refine RC.cptr g 0 _ [] (fun j => Value.int k (ls.getD j 0)) ?_ ?_
 ·intro j q hq
  simp only [flat, List.getElem?_map, Option.map_eq_some_iff] at hq
  obtain ⟨v, hv, rfl⟩ := hq
  have hc := hcw j v hv
  rw [Nat.zero_add]
  refine ⟨?_, by rw [hc, List.getD_eq_getElem?_getD, hv]; rfl⟩
  rcases Nat.lt_or_ge g W.heap.size with h | h
  ·exact h
  ·simp [World.cell?, Array.getElem?_eq_none h] at hc
 ·intro j q hq
  simp only [flat, List.getElem?_map, Option.map_eq_some_iff] at hq
  obtain ⟨v, hv, rfl⟩ := hq
  rw [List.getD_eq_getElem?_getD, hv]
  exact .int k v
theorem wants_of {ps : Array TypeId} (h : ps.toList.all (fun t => !P.wantsStandIn t) = true) (j : Nat) (t : TypeId) (ht : ps[j]? = some t) : P.wantsStandIn t = false := by
 have := List.all_eq_true.1 h t (by rw [← Array.getElem?_toList] at ht; exact List.mem_of_getElem? ht)
 simpa using this
noncomputable def laidW (P : Program) (os : Os) (g : Nat) (cs : Array Value) : World :=
 let w0 := World.holding P os ⟨#[], #[], []⟩
 { w0 with heap := w0.heap.modify g fun
   | .cells _ t frozen => .cells cs t frozen
   | o => o }
theorem law_callsG {G : Nat → Option PV} {f : FuncId} {fn : Func} {s : ChangeSpec} {apart fresh handsOn again : Bool} {tb : TypeId} (hl : laidOutB P = true) (hvars : s.vars = []) (hr : fn.resultTypes = #[tb]) (hb : P.underlying tb = some .bool)
  (hbody : O8 P f) (hspec : ∀ ds : List (DataW H), ds.length = fn.params.toList.length → s.fn H ds = { results := [.lit (.bool true)], args := ds })
  (ht : fn.params.toList.all (fun t => okT P 9 t && P.readableRec t && Nat.blt t P.types.size) = true)
  (hpc : ∀ ps, Ins P fn.params.toList ps → PC P G f [] ps [] (.bool true))
  {W : World} (hG : ∀ g c, G g = some c → WF c ∧ noref c = true ∧ RC W (fun b _ => b < W.heap.size) (.pointer (some ⟨g, 0, none⟩)) (.cptr c []))
  {base : Nat} {args : Array Value} {ds gs : List (DataW H)} {before : List MemPlace}
  (hval : ∀ (j : Nat) t v, fn.params[j]? = some t → args[j]? = some v → Value.okWide P W .any base t v)
  (hW : DataW.Whole enc P fn.params.toList s.vars apart W args.toList ds gs before) :
  Calls P f args W fun e W' => ∃ v, e = .returned v ∧ s.post enc P fn apart fresh handsOn again W args v W' := by
 have ht' : ∀ t ∈ fn.params.toList, okT P 9 t = true ∧ P.readableRec t = true ∧ t < P.types.size := by
  intro t h
  have := List.all_eq_true.1 ht t h
  simp only [Bool.and_eq_true] at this
  exact ⟨this.1.1, this.1.2, Nat.blt_eq ▸ this.2⟩
 have hW' := hW
 obtain ⟨p, q, hA, hV, rfl, hz, hn⟩ := hW
 rw [hvars] at hV
 obtain ⟨rfl, rfl⟩ := trodVars_none hV
 obtain ⟨l1, l2⟩ := trodAll_length hA
 obtain ⟨qs, g1, g2, g3⟩ := VD (base := base) (fun t h => (ht' t h).1) (fun j t v h1 h2 => hval j t v (by rw [← Array.getElem?_toList]; exact h1) (by rw [← Array.getElem?_toList]; exact h2)) hA
 have hM : ∀ b o, ¬ Mut (fun _ => none) (Ad ([] : List (Nat × Row))) b o := by
  rintro b o ⟨i, r, pl, h1, _⟩
  simp [Ad] at h1
 have hc := hpc qs g1
 refine Calls.mono (Enters.calls hbody (hc (fun b _ => b < W.heap.size) (fun _ => none) W args (fun b o _ => hM b o) ⟨fun i r hi => by simp [Ad] at hi, fun i i' r r' pl pl' _ h1 => by simp [Ad] at h1⟩ (fun _ _ => rfl) hG
  (by rw [g2]; simp) (fun j p v hp hv _ => g3 j p v hp (by rw [Array.getElem?_toList]; exact hv)))) fun e W' he => ?_
 obtain ⟨v, ρ', rfl, r1, _, _, r4, _⟩ := he
 have hvb : v = .bool true := by
  have := r1.Bb rfl (fun _ e => by cases e)
  simp only [RO] at this
  cases this
  rfl
 subst hvb
 have hbel := Pv hM r4
 have hsp := hspec ds l2
 refine ⟨_, rfl, Sl (pa := p) (pv := []) hW' ?_ ?_ ?_ (by simp) hbel ?_⟩
 ·intro b sp hd
  rw [List.append_nil, hsp, hr]
  exact trodAll_mk1 (shut_bool hb true)
 ·intro sp hs
  rw [List.append_nil, hsp]
  exact H5 hl hbel (fun t h => (ht' t h).2) hA (fun x hx => hs x (by simp [hx]))
 ·intro sp hs
  rw [List.append_nil, hsp, hvars]
  rfl
 ·rw [hr]
  exact ok_one (f := { fn with resultTypes := #[tb] }) rfl rfl (okWide_bool_mk hb true)
end
end Go.Pe
