/- Merged texts: the pure machine and what the walks show. Conditions: as each statement says. -/
import Derived.Carry
import Derived.ChangeArms
import Derived.ChangeSame
import Derived.ChangeCalls
import Derived.JoinedOf
import Derived.Handed
import Derived.OpenShut
import Derived.RowKit
import Derived.ProofKit
import Derived.LaidLaws
import Derived.LaidHandle
import Derived.FnData
import GoSem.ClaimSeven
import Derived.Test.YtbgkecilildohaaDoorQ4
namespace Go.Proofs
open Go Go.Pe Go.Pm
set_option maxRecDepth 100000
set_option linter.unusedVariables false
/-- what is wrong with a branch -/
def rightE (c i : Int) (n : Nat) : Nat := if c < 1 ∨ 65536 < c ∨ i < 0 ∨ c ≤ i then 5 else if n = depM c.toNat then 0 else 3
def brPV (c i : Int) (nl : Bool) (n : Nat) (P : List (List Int)) : PV := .st 3 [.int .i64 c, .int .i64 i, .vec nl (hL n P)]
theorem pc_bright {c i : Int} {nl : Bool} {n : Nat} {P : List (List Int)} (hP : P.length = n) : PC Tryd.prog G0 81 [] [brPV c i nl n P] [] (.int .i64 (rightE c i n)) := by
  refine PC.of (fn := Tryd.f81) (c := bodyOf Tryd.f81) Tryd.func81 (by kernel_rfl) (by kernel_rfl) (by kernel_rfl) (by kernel_rfl) ?_
  unfold brPV hL
  by_cases h : c < 1 ∨ 65536 < c ∨ i < 0 ∨ c ≤ i
  · have e : rightE c i n = 5 := by unfold rightE; rw [if_pos h]
    rw [e]
    generalize P.map hv = M at *
    by_cases h1 : c < 1
    · refine W.ret [(4, aT)] [] [decide (c < (1 : Int)) = true, I6 5 = I6 (↑(5 : Nat) : Int)] (by kernel_rfl) (ac (decide_eq_true (by omega)) (ao (cg (by omega))))
    · by_cases h2 : c > 65536
      · refine W.ret [(4, aF), (8, aT)] [] [decide (c < (1 : Int)) = false, decide (c > (65536 : Int)) = true, I6 5 = I6 (↑(5 : Nat) : Int)] (by kernel_rfl) (ac (decide_eq_false (by omega)) (ac (decide_eq_true (by omega)) (ao (cg (by omega)))))
      · by_cases h3 : i < 0
        · refine W.ret [(4, aF), (8, aF), (13, aT)] [] [decide (c < (1 : Int)) = false, decide (c > (65536 : Int)) = false, decide (i < (0 : Int)) = true, I6 5 = I6 (↑(5 : Nat) : Int)] (by kernel_rfl) (ac (decide_eq_false (by omega)) (ac (decide_eq_false (by omega)) (ac (decide_eq_true (by omega)) (ao (cg (by omega))))))
        · have h4 : i ≥ c := by omega
          refine W.ret [(4, aF), (8, aF), (13, aF), (20, aT)] [] [decide (c < (1 : Int)) = false, decide (c > (65536 : Int)) = false, decide (i < (0 : Int)) = false, decide (i ≥ c) = true, I6 5 = I6 (↑(5 : Nat) : Int)] (by kernel_rfl) (ac (decide_eq_false (by omega)) (ac (decide_eq_false (by omega)) (ac (decide_eq_false (by omega)) (ac (decide_eq_true (by omega)) (ao (cg (by omega)))))))
  · have h1 : ¬ c < 1 := by omega
    have h2 : ¬ c > 65536 := by omega
    have h3 : ¬ i < 0 := by omega
    have h4 : ¬ i ≥ c := by omega
    obtain ⟨m, rfl⟩ : ∃ m : Nat, c = m := ⟨c.toNat, by omega⟩
    have cd := pc_depth (n := m) (by omega)
    have e : rightE (m : Int) i n = if n = depM m then 0 else 3 := by unfold rightE; rw [if_neg h, Int.toNat_natCast]
    rw [e]
    by_cases hd : n = depM m
    · rw [if_pos hd]
      subst hd
      generalize P.map hv = M at *
      generalize depM m = d at *
      clear h e
      refine W.ret [(4, aF), (8, aF), (13, aF), (20, aF), (28, aK (I6 (d:Int))), (29, aF)] [] [decide ((m:Int) < 1) = false, decide ((m:Int) > 65536) = false, decide (i < (0 : Int)) = false, decide (i ≥ (m:Int)) = false, PC Tryd.prog G0 89 [] [I6 (m:Int)] [] (I6 (d:Int)), ((d:Int) != (d:Int)) = false, I6 0 = I6 (↑(0 : Nat) : Int)] (by kernel_rfl) (ac (decide_eq_false (by omega)) (ac (decide_eq_false (by omega)) (ac (decide_eq_false (by omega)) (ac (decide_eq_false (by omega)) (ac (cd) (ac (bne_eq_false_iff_eq.2 (by omega)) (ao (cg (by omega)))))))))
    · rw [if_neg hd]
      have hd' : ¬ ((n : Int) = (depM m : Int)) := by omega
      generalize P.map hv = M at *
      generalize depM m = d at *
      clear h e
      refine W.ret [(4, aF), (8, aF), (13, aF), (20, aF), (28, aK (I6 (d:Int))), (29, aT)] [] [decide ((m:Int) < 1) = false, decide ((m:Int) > 65536) = false, decide (i < (0 : Int)) = false, decide (i ≥ (m:Int)) = false, PC Tryd.prog G0 89 [] [I6 (m:Int)] [] (I6 (d:Int)), ((n:Int) != (d:Int)) = true, I6 3 = I6 (↑(3 : Nat) : Int)] (by kernel_rfl) (ac (decide_eq_false (by omega)) (ac (decide_eq_false (by omega)) (ac (decide_eq_false (by omega)) (ac (decide_eq_false (by omega)) (ac (cd) (ac (bne_iff_ne.2 (by omega)) (ao (cg (by omega)))))))))
/-- the way up: none, where a pair is no pair -/
def upG : List (List Int) → Nat → Nat → List Int → Option (List Int)
  | [], _, _, x => some x
  | h :: P, p, n, x => if (p % 2 = 0 ∧ p + 1 = n) ↔ h = x then upG P (p / 2) ((n + 1) / 2) (if p % 2 = 0 then dsha (x ++ h) else dsha (h ++ x)) else none
def upE (c i : Int) (P : List (List Int)) (x : List Int) : Nat := if rightE c i P.length = 0 then (match upG P i.toNat c.toNat x with | some _ => 0 | none => 15) else rightE c i P.length
def upT (c i : Int) (P : List (List Int)) (x : List Int) : List Int := if rightE c i P.length = 0 then (match upG P i.toNat c.toNat x with | some y => y | none => z32) else z32
def upPV (c i : Int) (P : List (List Int)) (x : List Int) : PV := .tup [.iarr .u8 32 (upT c i P x), .int .i64 (upE c i P x)]
/-- .. of what is left of the path -/
def upL (P : List (List Int)) (p n : Nat) (x : List Int) : PV := match upG P p n x with
  | some y => .tup [.iarr .u8 32 y, .int .i64 0]
  | none => .tup [.iarr .u8 32 z32, .int .i64 15]
theorem hd_getD {P : List (List Int)} {i : Nat} (h : i < P.length) : P.drop i = P.getD i [] :: P.drop (i + 1) := by rw [List.drop_eq_getElem_cons h]; simp [List.getD_eq_getElem?_getD, h]
def dsUp (nl : Bool) (k p n : Nat) (M : List PV) (x : List Int) (j : Nat) : DS := ⟨[(3, .at 2 []), (4, .at 1 []), (7, .int .i64 p), (8, .int .i64 n), (23, .vec nl (.parr 32 k hsE M)), (24, .int .i64 k), (25, .int .i64 j)], [(1, ⟨.iarr .u8 32 z32, false⟩), (2, ⟨.iarr .u8 32 x, false⟩)]⟩
theorem W_up {nl : Bool} {k : Nat} {P : List (List Int)} (ho : HsOk P k) (hk : k ≤ 100) : ∀ (m j p n : Nat) (x : List Int), m + j = k → x.length = 32 → Bytes x → 1 ≤ n → n ≤ 65536 → p < n →
    W Tryd.prog G0 Tryd.f63 [] [] (upL (P.drop j) p n x) (loopAt Tryd.f63 0) (dsUp nl k p n (P.map hv) x j)
  | 0, j, p, n, x, hm, hx, bx, h1, h2, hp => by
    rw [List.drop_of_length_le (by rw [ho.len]; omega)]
    have hj : j = k := by omega
    subst hj
    generalize P.map hv = M at *
    unfold dsUp
    show W _ _ _ _ _ (.tup [.iarr .u8 32 x, .int .i64 0]) _ _
    refine W.ret [(0, aF)] [] [decide ((j:Int) < (j:Int)) = false, rr (PV.tup [B8 32 x, I6 0])] (by kernel_rfl) (ac (decide_eq_false (by omega)) (ao rfl))
  | m + 1, j, p, n, x, hm, hx, bx, h1, h2, hp => by
    have hlt : j < P.length := by rw [ho.len]; omega
    have hjk : j < k := by omega
    have g := hv_get hlt
    obtain ⟨hy, bY⟩ := ho.get hjk
    rw [hd_getD hlt]
    generalize hyd : P.getD j [] = y at *
    have hq : (p : Int).tdiv 2 = ((p / 2 : Nat) : Int) := by rw [Int.tdiv_eq_ediv_of_nonneg (by omega)]; omega
    have hq2 : ((n : Int) + 1).tdiv 2 = (((n + 1) / 2 : Nat) : Int) := by rw [Int.tdiv_eq_ediv_of_nonneg (by omega)]; omega
    have hq3 : (((n + 1 : Nat)) : Int).tdiv 2 = (((n + 1) / 2 : Nat) : Int) := by rw [Int.tdiv_eq_ediv_of_nonneg (by omega)]; omega
    have hn1 : (n : Int) - 1 = ((n - 1 : Nat) : Int) := by omega
    have c1 := pc_pair ⟨hx, bx⟩ ⟨hy, bY⟩
    have c2 := pc_pair ⟨hy, bY⟩ ⟨hx, bx⟩
    by_cases he : p % 2 = 0
    · have hr : (p : Int).tmod 2 = 0 := by rw [Int.tmod_eq_emod_of_nonneg (by omega)]; omega
      by_cases ha : p = n - 1
      · by_cases hxy : y = x
        · -- alone, the same
          have hw := W_up (nl := nl) ho hk m (j + 1) (p / 2) ((n + 1) / 2) (dsha (x ++ y)) (by omega) (sha_length _) (sha_bytes _) (by omega) (by omega) (by omega)
          have e : upL (y :: P.drop (j + 1)) p n x = upL (P.drop (j + 1)) (p / 2) ((n + 1) / 2) (dsha (x ++ y)) := by
            unfold upL
            rw [upG, if_pos ⟨fun _ => hxy, fun _ => ⟨he, by omega⟩⟩, if_pos he]
          rw [e]
          subst hxy
          generalize upL (P.drop (j + 1)) (p / 2) ((n + 1) / 2) (dsha (y ++ y)) = res at *
          generalize dsha (y ++ y) = r at *
          clear e hyd
          have hp2 : p / 2 ≤ 65536 := by omega
          have hn2 : (n + 1) / 2 ≤ 65536 := by omega
          generalize p / 2 = p2 at *
          generalize (n + 1) / 2 = n2 at *
          have hnb : n - 1 ≤ 65536 := by omega
          have hnm : ((n - 1 : Nat) : Int) = (n : Int) - 1 := by omega
          generalize P.map hv = M at *
          unfold hv at *
          unfold dsUp at *
          refine W.seg [(0, aT), (2, aV (B8 32 y)), (6, aV (I6 0)), (11, aV (I6 (↑(n - 1) : Int))), (12, aT), (18, aT), (21, aV (I6 0)), (25, Ans.rfs), (26, Ans.calld [112, 2] true [] [] (B8 32 r) (some ([], [PV.vec false (PV.parr 1 2 bsh [PV.vec false (B8 32 y), PV.vec false (B8 32 y)])]))), (29, aV (I6 (p2:Int))), (31, aV (I6 (↑(n + 1) : Int))), (32, aV (I6 (n2:Int))), (35, aV (I6 (↑(j + 1) : Int)))] [(2, 2), (1, 1)] (DS.mk [(3, PV.at 2 []), (4, PV.at 1 []), (7, I6 (p2:Int)), (8, I6 (n2:Int)), (23, PV.vec nl (PV.parr 32 k hsE M)), (24, I6 (k:Int)), (25, I6 (↑(j + 1) : Int))] [(1, Row.mk (B8 32 z32) false), (2, Row.mk (B8 32 r) false)]) (todo' := loopAt Tryd.f63 0) [decide ((j:Int) < (k:Int)) = true, 0 ≤ (j:Int), (j:Int) < (k:Int), B8 32 (PV.nums (List.getD M j PV.undef)) = B8 32 y, j < k, I6 (Int.tmod (p:Int) (2 : Int)) = I6 0, (2 : Int) ≠ (0 : Int), I6 (IntKind.wrap .i64 ((n:Int) - 1)) = I6 (↑(n - 1) : Int), ((p:Int) == (↑(n - 1) : Int)) = true, decide (y = y) = true, I6 (Int.tmod (p:Int) (2 : Int)) = I6 0, (2 : Int) ≠ (0 : Int), (0 : Int) ≤ (0 : Int), 0 ≤ (↑(32 : Nat) : Int), (↑(32 : Nat) : Int) ≤ (↑(32 : Nat) : Int), (0 : Int) ≤ (0 : Int), 0 ≤ (↑(32 : Nat) : Int), (↑(32 : Nat) : Int) ≤ (↑(32 : Nat) : Int), 32 ≤ 32, 32 ≤ 32, rr ([] : List (Nat × Row)), ([PV.vec false (PV.parr 1 2 (Sh.vec 1 (Sh.int IntKind.u8)) [PV.vec false (B8 32 (List.take 32 y)), PV.vec false (B8 32 (List.take 32 y))])] : List PV) = [PV.vec false (PV.parr 1 2 (Sh.vec 1 (Sh.int IntKind.u8)) [PV.vec false (B8 32 y), PV.vec false (B8 32 y)])], PC Tryd.prog G0 47 [] [PV.vec false (PV.parr 1 2 (Sh.vec 1 (Sh.int IntKind.u8)) [PV.vec false (B8 32 y), PV.vec false (B8 32 y)])] [] (B8 32 r), I6 (IntKind.wrap .i64 (Int.tdiv (p:Int) (2 : Int))) = I6 (p2:Int), (2 : Int) ≠ (0 : Int), I6 (IntKind.wrap .i64 ((n:Int) + 1)) = I6 (↑(n + 1) : Int), I6 (IntKind.wrap .i64 (Int.tdiv (↑(n + 1) : Int) (2 : Int))) = I6 (n2:Int), (2 : Int) ≠ (0 : Int), I6 (IntKind.wrap .i64 ((j:Int) + 1)) = I6 (↑(j + 1) : Int), rr (PV.at 2 []), rr (PV.at 1 []), rr (I6 (p2:Int)), rr (I6 (n2:Int)), rr (PV.vec nl (PV.parr 32 k (Sh.iarr IntKind.u8 32) M)), rr (I6 (k:Int)), rr (I6 (↑(j + 1) : Int)), rr (B8 32 (List.replicate 32 0)), rr (B8 32 r)] (by kernel_rfl) (ac (decide_eq_true (by omega)) (ac (by omega) (ac (by omega) (ac (by (rw [g]; rfl)) (ac (by omega) (ac (cg (hr)) (ac (by omega) (ac (cg (w_i64 hn1 (by omega) (by omega))) (ac (decide_eq_true (by omega)) (ac (by (simp [*]; done)) (ac (cg (hr)) (ac (by omega) (ac (by omega) (ac (by omega) (ac (by omega) (ac (by omega) (ac (by omega) (ac (by omega) (ac (by omega) (ac (by omega) (ac rfl (ac (by rw [List.take_of_length_le (show List.length y ≤ 32 by omega)]) (ac (c1) (ac (cg (w_i64 hq (by omega) (by omega))) (ac (by omega) (ac (cg (w_i64 rfl (by omega) (by omega))) (ac (cg (w_i64 hq3 (by omega) (by omega))) (ac (by omega) (ac (cg (w_i64 rfl (by omega) (by omega))) (ac rfl (ac rfl (ac rfl (ac rfl (ac rfl (ac rfl (ac rfl (ac rfl (ao rfl)))))))))))))))))))))))))))))))))))))) ?_
          exact hw
        · have e : upL (y :: P.drop (j + 1)) p n x = .tup [.iarr .u8 32 z32, .int .i64 15] := by
            unfold upL
            rw [upG, if_neg (fun h => hxy (h.1 ⟨he, by omega⟩))]
          rw [e]
          clear e hyd c1 c2
          generalize P.map hv = M at *
          unfold hv at *
          unfold dsUp at *
          refine W.ret [(0, aT), (2, aV (B8 32 y)), (6, aV (I6 0)), (11, aV (I6 (↑(n - 1) : Int))), (12, aT), (18, aF)] [] [decide ((j:Int) < (k:Int)) = true, 0 ≤ (j:Int), (j:Int) < (k:Int), B8 32 (PV.nums (List.getD M j PV.undef)) = B8 32 y, j < k, I6 (Int.tmod (p:Int) (2 : Int)) = I6 0, (2 : Int) ≠ (0 : Int), I6 (IntKind.wrap .i64 ((n:Int) - 1)) = I6 (↑(n - 1) : Int), ((p:Int) == (↑(n - 1) : Int)) = true, decide (y = x) = false, rr (PV.tup [B8 32 (List.replicate 32 0), I6 15])] (by kernel_rfl) (ac (decide_eq_true (by omega)) (ac (by omega) (ac (by omega) (ac (by (rw [g]; rfl)) (ac (by omega) (ac (cg (hr)) (ac (by omega) (ac (cg (w_i64 hn1 (by omega) (by omega))) (ac (decide_eq_true (by omega)) (ac (decide_eq_false (by omega)) (ao rfl)))))))))))
      · by_cases hxy : y = x
        · have e : upL (y :: P.drop (j + 1)) p n x = .tup [.iarr .u8 32 z32, .int .i64 15] := by
            unfold upL
            rw [upG, if_neg (fun h => ha (by have := (h.2 hxy).2; omega))]
          rw [e]
          subst hxy
          clear e hyd c1 c2
          generalize P.map hv = M at *
          unfold hv at *
          unfold dsUp at *
          refine W.ret [(0, aT), (2, aV (B8 32 y)), (6, aV (I6 0)), (11, aV (I6 (↑(n - 1) : Int))), (12, aF), (18, aT)] [] [decide ((j:Int) < (k:Int)) = true, 0 ≤ (j:Int), (j:Int) < (k:Int), B8 32 (PV.nums (List.getD M j PV.undef)) = B8 32 y, j < k, I6 (Int.tmod (p:Int) (2 : Int)) = I6 0, (2 : Int) ≠ (0 : Int), I6 (IntKind.wrap .i64 ((n:Int) - 1)) = I6 (↑(n - 1) : Int), ((p:Int) == (↑(n - 1) : Int)) = false, decide (y = y) = true, rr (PV.tup [B8 32 (List.replicate 32 0), I6 15])] (by kernel_rfl) (ac (decide_eq_true (by omega)) (ac (by omega) (ac (by omega) (ac (by (rw [g]; rfl)) (ac (by omega) (ac (cg (hr)) (ac (by omega) (ac (cg (w_i64 hn1 (by omega) (by omega))) (ac (decide_eq_false (by omega)) (ac (by (simp [*]; done)) (ao rfl)))))))))))
        · have hw := W_up (nl := nl) ho hk m (j + 1) (p / 2) ((n + 1) / 2) (dsha (x ++ y)) (by omega) (sha_length _) (sha_bytes _) (by omega) (by omega) (by omega)
          have e : upL (y :: P.drop (j + 1)) p n x = upL (P.drop (j + 1)) (p / 2) ((n + 1) / 2) (dsha (x ++ y)) := by
            unfold upL
            rw [upG, if_pos ⟨fun h => absurd (show p = n - 1 by omega) ha, fun h => absurd h hxy⟩, if_pos he]
          rw [e]
          generalize upL (P.drop (j + 1)) (p / 2) ((n + 1) / 2) (dsha (x ++ y)) = res at *
          generalize dsha (x ++ y) = r at *
          clear e hyd
          have hp2 : p / 2 ≤ 65536 := by omega
          have hn2 : (n + 1) / 2 ≤ 65536 := by omega
          generalize p / 2 = p2 at *
          generalize (n + 1) / 2 = n2 at *
          have hnb : n - 1 ≤ 65536 := by omega
          have hnm : ((n - 1 : Nat) : Int) = (n : Int) - 1 := by omega
          generalize P.map hv = M at *
          unfold hv at *
          unfold dsUp at *
          refine W.seg [(0, aT), (2, aV (B8 32 y)), (6, aV (I6 0)), (11, aV (I6 (↑(n - 1) : Int))), (12, aF), (18, aF), (21, aV (I6 0)), (25, Ans.rfs), (26, Ans.calld [112, 2] true [] [] (B8 32 r) (some ([], [PV.vec false (PV.parr 1 2 bsh [PV.vec false (B8 32 x), PV.vec false (B8 32 y)])]))), (29, aV (I6 (p2:Int))), (31, aV (I6 (↑(n + 1) : Int))), (32, aV (I6 (n2:Int))), (35, aV (I6 (↑(j + 1) : Int)))] [(2, 2), (1, 1)] (DS.mk [(3, PV.at 2 []), (4, PV.at 1 []), (7, I6 (p2:Int)), (8, I6 (n2:Int)), (23, PV.vec nl (PV.parr 32 k hsE M)), (24, I6 (k:Int)), (25, I6 (↑(j + 1) : Int))] [(1, Row.mk (B8 32 z32) false), (2, Row.mk (B8 32 r) false)]) (todo' := loopAt Tryd.f63 0) [decide ((j:Int) < (k:Int)) = true, 0 ≤ (j:Int), (j:Int) < (k:Int), B8 32 (PV.nums (List.getD M j PV.undef)) = B8 32 y, j < k, I6 (Int.tmod (p:Int) (2 : Int)) = I6 0, (2 : Int) ≠ (0 : Int), I6 (IntKind.wrap .i64 ((n:Int) - 1)) = I6 (↑(n - 1) : Int), ((p:Int) == (↑(n - 1) : Int)) = false, decide (y = x) = false, I6 (Int.tmod (p:Int) (2 : Int)) = I6 0, (2 : Int) ≠ (0 : Int), (0 : Int) ≤ (0 : Int), 0 ≤ (↑(32 : Nat) : Int), (↑(32 : Nat) : Int) ≤ (↑(32 : Nat) : Int), (0 : Int) ≤ (0 : Int), 0 ≤ (↑(32 : Nat) : Int), (↑(32 : Nat) : Int) ≤ (↑(32 : Nat) : Int), 32 ≤ 32, 32 ≤ 32, rr ([] : List (Nat × Row)), ([PV.vec false (PV.parr 1 2 (Sh.vec 1 (Sh.int IntKind.u8)) [PV.vec false (B8 32 (List.take 32 x)), PV.vec false (B8 32 (List.take 32 y))])] : List PV) = [PV.vec false (PV.parr 1 2 (Sh.vec 1 (Sh.int IntKind.u8)) [PV.vec false (B8 32 x), PV.vec false (B8 32 y)])], PC Tryd.prog G0 47 [] [PV.vec false (PV.parr 1 2 (Sh.vec 1 (Sh.int IntKind.u8)) [PV.vec false (B8 32 x), PV.vec false (B8 32 y)])] [] (B8 32 r), I6 (IntKind.wrap .i64 (Int.tdiv (p:Int) (2 : Int))) = I6 (p2:Int), (2 : Int) ≠ (0 : Int), I6 (IntKind.wrap .i64 ((n:Int) + 1)) = I6 (↑(n + 1) : Int), I6 (IntKind.wrap .i64 (Int.tdiv (↑(n + 1) : Int) (2 : Int))) = I6 (n2:Int), (2 : Int) ≠ (0 : Int), I6 (IntKind.wrap .i64 ((j:Int) + 1)) = I6 (↑(j + 1) : Int), rr (PV.at 2 []), rr (PV.at 1 []), rr (I6 (p2:Int)), rr (I6 (n2:Int)), rr (PV.vec nl (PV.parr 32 k (Sh.iarr IntKind.u8 32) M)), rr (I6 (k:Int)), rr (I6 (↑(j + 1) : Int)), rr (B8 32 (List.replicate 32 0)), rr (B8 32 r)] (by kernel_rfl) (ac (decide_eq_true (by omega)) (ac (by omega) (ac (by omega) (ac (by (rw [g]; rfl)) (ac (by omega) (ac (cg (hr)) (ac (by omega) (ac (cg (w_i64 hn1 (by omega) (by omega))) (ac (decide_eq_false (by omega)) (ac (decide_eq_false (by omega)) (ac (cg (hr)) (ac (by omega) (ac (by omega) (ac (by omega) (ac (by omega) (ac (by omega) (ac (by omega) (ac (by omega) (ac (by omega) (ac (by omega) (ac rfl (ac (by rw [List.take_of_length_le (show List.length x ≤ 32 by omega), List.take_of_length_le (show List.length y ≤ 32 by omega)]) (ac (c1) (ac (cg (w_i64 hq (by omega) (by omega))) (ac (by omega) (ac (cg (w_i64 rfl (by omega) (by omega))) (ac (cg (w_i64 hq3 (by omega) (by omega))) (ac (by omega) (ac (cg (w_i64 rfl (by omega) (by omega))) (ac rfl (ac rfl (ac rfl (ac rfl (ac rfl (ac rfl (ac rfl (ac rfl (ao rfl)))))))))))))))))))))))))))))))))))))) ?_
          exact hw
    · have hr : (p : Int).tmod 2 = 1 := by rw [Int.tmod_eq_emod_of_nonneg (by omega)]; omega
      by_cases hxy : y = x
      · have e : upL (y :: P.drop (j + 1)) p n x = .tup [.iarr .u8 32 z32, .int .i64 15] := by
          unfold upL
          rw [upG, if_neg (fun h => he (h.2 hxy).1)]
        rw [e]
        subst hxy
        clear e hyd c1 c2
        generalize P.map hv = M at *
        unfold hv at *
        unfold dsUp at *
        refine W.ret [(0, aT), (2, aV (B8 32 y)), (6, aV (I6 1)), (18, aT)] [] [decide ((j:Int) < (k:Int)) = true, 0 ≤ (j:Int), (j:Int) < (k:Int), B8 32 (PV.nums (List.getD M j PV.undef)) = B8 32 y, j < k, I6 (Int.tmod (p:Int) (2 : Int)) = I6 1, (2 : Int) ≠ (0 : Int), decide (y = y) = true, rr (PV.tup [B8 32 (List.replicate 32 0), I6 15])] (by kernel_rfl) (ac (decide_eq_true (by omega)) (ac (by omega) (ac (by omega) (ac (by (rw [g]; rfl)) (ac (by omega) (ac (cg (hr)) (ac (by omega) (ac (by (simp [*]; done)) (ao rfl)))))))))
      · have hw := W_up (nl := nl) ho hk m (j + 1) (p / 2) ((n + 1) / 2) (dsha (y ++ x)) (by omega) (sha_length _) (sha_bytes _) (by omega) (by omega) (by omega)
        have e : upL (y :: P.drop (j + 1)) p n x = upL (P.drop (j + 1)) (p / 2) ((n + 1) / 2) (dsha (y ++ x)) := by
          unfold upL
          rw [upG, if_pos ⟨fun h => absurd h.1 he, fun h => absurd h hxy⟩, if_neg he]
        rw [e]
        generalize upL (P.drop (j + 1)) (p / 2) ((n + 1) / 2) (dsha (y ++ x)) = res at *
        generalize dsha (y ++ x) = r at *
        clear e hyd
        have hp2 : p / 2 ≤ 65536 := by omega
        have hn2 : (n + 1) / 2 ≤ 65536 := by omega
        generalize p / 2 = p2 at *
        generalize (n + 1) / 2 = n2 at *
        have hnb : n - 1 ≤ 65536 := by omega
        have hnm : ((n - 1 : Nat) : Int) = (n : Int) - 1 := by omega
        generalize P.map hv = M at *
        unfold hv at *
        unfold dsUp at *
        refine W.seg [(0, aT), (2, aV (B8 32 y)), (6, aV (I6 1)), (18, aF), (21, aV (I6 1)), (25, Ans.rfs), (26, Ans.calld [2, 112] true [] [] (B8 32 r) (some ([], [PV.vec false (PV.parr 1 2 bsh [PV.vec false (B8 32 y), PV.vec false (B8 32 x)])]))), (29, aV (I6 (p2:Int))), (31, aV (I6 (↑(n + 1) : Int))), (32, aV (I6 (n2:Int))), (35, aV (I6 (↑(j + 1) : Int)))] [(2, 2), (1, 1)] (DS.mk [(3, PV.at 2 []), (4, PV.at 1 []), (7, I6 (p2:Int)), (8, I6 (n2:Int)), (23, PV.vec nl (PV.parr 32 k hsE M)), (24, I6 (k:Int)), (25, I6 (↑(j + 1) : Int))] [(1, Row.mk (B8 32 z32) false), (2, Row.mk (B8 32 r) false)]) (todo' := loopAt Tryd.f63 0) [decide ((j:Int) < (k:Int)) = true, 0 ≤ (j:Int), (j:Int) < (k:Int), B8 32 (PV.nums (List.getD M j PV.undef)) = B8 32 y, j < k, I6 (Int.tmod (p:Int) (2 : Int)) = I6 1, (2 : Int) ≠ (0 : Int), decide (y = x) = false, I6 (Int.tmod (p:Int) (2 : Int)) = I6 1, (2 : Int) ≠ (0 : Int), (0 : Int) ≤ (0 : Int), 0 ≤ (↑(32 : Nat) : Int), (↑(32 : Nat) : Int) ≤ (↑(32 : Nat) : Int), (0 : Int) ≤ (0 : Int), 0 ≤ (↑(32 : Nat) : Int), (↑(32 : Nat) : Int) ≤ (↑(32 : Nat) : Int), 32 ≤ 32, 32 ≤ 32, rr ([] : List (Nat × Row)), ([PV.vec false (PV.parr 1 2 (Sh.vec 1 (Sh.int IntKind.u8)) [PV.vec false (B8 32 (List.take 32 y)), PV.vec false (B8 32 (List.take 32 x))])] : List PV) = [PV.vec false (PV.parr 1 2 (Sh.vec 1 (Sh.int IntKind.u8)) [PV.vec false (B8 32 y), PV.vec false (B8 32 x)])], PC Tryd.prog G0 47 [] [PV.vec false (PV.parr 1 2 (Sh.vec 1 (Sh.int IntKind.u8)) [PV.vec false (B8 32 y), PV.vec false (B8 32 x)])] [] (B8 32 r), I6 (IntKind.wrap .i64 (Int.tdiv (p:Int) (2 : Int))) = I6 (p2:Int), (2 : Int) ≠ (0 : Int), I6 (IntKind.wrap .i64 ((n:Int) + 1)) = I6 (↑(n + 1) : Int), I6 (IntKind.wrap .i64 (Int.tdiv (↑(n + 1) : Int) (2 : Int))) = I6 (n2:Int), (2 : Int) ≠ (0 : Int), I6 (IntKind.wrap .i64 ((j:Int) + 1)) = I6 (↑(j + 1) : Int), rr (PV.at 2 []), rr (PV.at 1 []), rr (I6 (p2:Int)), rr (I6 (n2:Int)), rr (PV.vec nl (PV.parr 32 k (Sh.iarr IntKind.u8 32) M)), rr (I6 (k:Int)), rr (I6 (↑(j + 1) : Int)), rr (B8 32 (List.replicate 32 0)), rr (B8 32 r)] (by kernel_rfl) (ac (decide_eq_true (by omega)) (ac (by omega) (ac (by omega) (ac (by (rw [g]; rfl)) (ac (by omega) (ac (cg (hr)) (ac (by omega) (ac (decide_eq_false (by omega)) (ac (cg (hr)) (ac (by omega) (ac (by omega) (ac (by omega) (ac (by omega) (ac (by omega) (ac (by omega) (ac (by omega) (ac (by omega) (ac (by omega) (ac rfl (ac (by rw [List.take_of_length_le (show List.length y ≤ 32 by omega), List.take_of_length_le (show List.length x ≤ 32 by omega)]) (ac (c2) (ac (cg (w_i64 hq (by omega) (by omega))) (ac (by omega) (ac (cg (w_i64 rfl (by omega) (by omega))) (ac (cg (w_i64 hq3 (by omega) (by omega))) (ac (by omega) (ac (cg (w_i64 rfl (by omega) (by omega))) (ac rfl (ac rfl (ac rfl (ac rfl (ac rfl (ac rfl (ac rfl (ac rfl (ao rfl)))))))))))))))))))))))))))))))))))) ?_
        exact hw
theorem pc_bup {c i : Int} {nl : Bool} {n : Nat} {P : List (List Int)} {x : List Int} (ho : HsOk P n) (hn : n ≤ 100) (hx : x.length = 32) (bx : Bytes x) : PC Tryd.prog G0 63 [] [brPV c i nl n P, .iarr .u8 32 x] [] (upPV c i P x) := by
  refine PC.of (fn := Tryd.f63) (c := bodyOf Tryd.f63) Tryd.func63 (by kernel_rfl) (by kernel_rfl) (by kernel_rfl) (by kernel_rfl) ?_
  have c1 := pc_bright (c := c) (i := i) (nl := nl) ho.len
  have hle : rightE c i n ≤ 5 := by unfold rightE; split; omega; split <;> omega
  unfold upPV upE upT
  rw [ho.len]
  by_cases h : rightE c i n = 0
  · rw [if_pos h, if_pos h]
    rw [h] at c1
    have hb : 1 ≤ c ∧ c ≤ 65536 ∧ 0 ≤ i ∧ i < c := by
      unfold rightE at h
      split at h
      · omega
      · omega
    obtain ⟨m, rfl⟩ : ∃ m : Nat, c = m := ⟨c.toNat, by omega⟩
    obtain ⟨p, rfl⟩ : ∃ p : Nat, i = p := ⟨i.toNat, by omega⟩
    have hw := W_up (nl := nl) ho hn n 0 p m x (by omega) hx bx (by omega) (by omega) (by omega)
    rw [List.drop_zero] at hw
    rw [Int.toNat_natCast, Int.toNat_natCast]
    have e : PV.tup [.iarr .u8 32 (match upG P p m x with | some y => y | none => z32), .int .i64 ((match upG P p m x with | some _ => 0 | none => 15 : Nat) : Int)] = upL P p m x := by
      unfold upL
      cases upG P p m x <;> rfl
    rw [e]
    generalize upL P p m x = res at *
    clear h e hle
    unfold brPV hL at *
    generalize P.map hv = M at *
    unfold dsUp at *
    have hm : m ≤ 65536 := by omega
    have hp : p ≤ 65536 := by omega
    refine W.seg [(5, aK (I6 (↑(0 : Nat) : Int))), (6, aV (I6 0))] [(80, 2), (96, 1)] (DS.mk [(3, PV.at 2 []), (4, PV.at 1 []), (7, I6 (p:Int)), (8, I6 (m:Int)), (23, PV.vec nl (PV.parr 32 n hsE M)), (24, I6 (n:Int)), (25, I6 (↑(0 : Nat) : Int))] [(1, Row.mk (B8 32 z32) false), (2, Row.mk (B8 32 x) false)]) (todo' := loopAt Tryd.f63 0) [PC Tryd.prog G0 81 [] [PV.st 3 [I6 (m:Int), I6 (p:Int), PV.vec nl (PV.parr 32 n (Sh.iarr IntKind.u8 32) M)]] [] (I6 (↑(0 : Nat) : Int)), I6 (↑(0 : Nat) : Int) = I6 0, rr (PV.at 2 []), rr (PV.at 1 []), rr (I6 (p:Int)), rr (I6 (m:Int)), rr (PV.vec nl (PV.parr 32 n (Sh.iarr IntKind.u8 32) M)), rr (I6 (n:Int)), I6 0 = I6 (↑(0 : Nat) : Int), rr (B8 32 (List.replicate 32 0)), rr (B8 32 x)] (by kernel_rfl) (ac (c1) (ac (cg (by omega)) (ac rfl (ac rfl (ac rfl (ac rfl (ac rfl (ac rfl (ac (cg (by omega)) (ac rfl (ao rfl))))))))))) ?_
    exact hw
  · rw [if_neg h, if_neg h]
    have h' : ¬ ((rightE c i n : Nat) : Int) = 0 := by omega
    generalize rightE c i n = e at *
    unfold brPV hL at *
    generalize P.map hv = M at *
    refine W.ret [(5, aK (I6 (e:Int))), (8, aT)] [] [PC Tryd.prog G0 81 [] [PV.st 3 [I6 c, I6 i, PV.vec nl (PV.parr 32 n (Sh.iarr IntKind.u8 32) M)]] [] (I6 (e:Int)), ((e:Int) != 0) = true, rr (PV.tup [B8 32 (List.replicate 32 0), I6 (e:Int)])] (by kernel_rfl) (ac (c1) (ac (bne_iff_ne.2 (by omega)) (ao rfl)))
def bchE (c i : Int) (P : List (List Int)) (root x : List Int) : Nat := if upE c i P x = 0 ∧ ¬ upT c i P x = root then 15 else upE c i P x
theorem upE_le (c i : Int) (P : List (List Int)) (x : List Int) : upE c i P x ≤ 15 := by
  have h : rightE c i P.length ≤ 5 := by unfold rightE; split; omega; split <;> omega
  unfold upE
  split
  · cases upG P i.toNat c.toNat x
    · exact Nat.le_refl 15
    · exact Nat.zero_le _
  · omega
theorem upG_len : ∀ (P : List (List Int)) (p n : Nat) (x y : List Int), x.length = 32 → upG P p n x = some y → y.length = 32
  | [], p, n, x, y, hx, h => by unfold upG at h; cases h; exact hx
  | a :: P, p, n, x, y, hx, h => by
    unfold upG at h
    split at h
    · exact upG_len P _ _ _ y (by split <;> exact sha_length _) h
    · cases h
theorem upT_len (c i : Int) (P : List (List Int)) {x : List Int} (hx : x.length = 32) : (upT c i P x).length = 32 := by
  unfold upT
  split
  · split
    · rename_i y hy; exact upG_len P _ _ _ y hx hy
    · rfl
  · rfl
theorem pc_bcheck {c i : Int} {nl : Bool} {n : Nat} {P : List (List Int)} {root x : List Int} (ho : HsOk P n) (hn : n ≤ 100) (hx : x.length = 32) (bx : Bytes x) (hr : root.length = 32) : PC Tryd.prog G0 34 [] [brPV c i nl n P, .iarr .u8 32 root, .iarr .u8 32 x] [] (.int .i64 (bchE c i P root x)) := by
  refine PC.of (fn := Tryd.f34) (c := bodyOf Tryd.f34) Tryd.func34 (by kernel_rfl) (by kernel_rfl) (by kernel_rfl) (by kernel_rfl) ?_
  have c1 := pc_bup (c := c) (i := i) (nl := nl) ho hn hx bx
  have ht := upT_len c i P hx
  have hle := upE_le c i P x
  unfold bchE upPV at *
  unfold brPV hL at *
  generalize P.map hv = M at *
  by_cases h : upE c i P x = 0
  · rw [h] at c1 ⊢
    by_cases hq : upT c i P x = root
    · rw [if_neg (fun h => h.2 hq)]
      rw [hq] at c1
      refine W.ret [(6, aK (PV.tup [B8 32 root, I6 (↑(0 : Nat) : Int)])), (9, aV (I6 0)), (18, aF)] [] [PC Tryd.prog G0 63 [] [PV.st 3 [I6 c, I6 i, PV.vec nl (PV.parr 32 n (Sh.iarr IntKind.u8 32) M)], B8 32 x] [] (PV.tup [B8 32 root, I6 (↑(0 : Nat) : Int)]), I6 (↑(0 : Nat) : Int) = I6 0, (!decide (root = root)) = false, I6 0 = I6 (↑(0 : Nat) : Int)] (by kernel_rfl) (ac (c1) (ac (cg (by omega)) (ac (by (simp [*]; done)) (ao (cg (by omega))))))
    · rw [if_pos ⟨rfl, hq⟩]
      generalize upT c i P x = y at *
      refine W.ret [(6, aK (PV.tup [B8 32 y, I6 (↑(0 : Nat) : Int)])), (9, aV (I6 0)), (18, aT)] [] [PC Tryd.prog G0 63 [] [PV.st 3 [I6 c, I6 i, PV.vec nl (PV.parr 32 n (Sh.iarr IntKind.u8 32) M)], B8 32 x] [] (PV.tup [B8 32 y, I6 (↑(0 : Nat) : Int)]), I6 (↑(0 : Nat) : Int) = I6 0, (!decide (y = root)) = true, I6 15 = I6 (↑(15 : Nat) : Int)] (by kernel_rfl) (ac (c1) (ac (cg (by omega)) (ac (by (simp [*]; done)) (ao (cg (by omega))))))
  · rw [if_neg (fun e => h e.1)]
    have h' : ¬ ((upE c i P x : Nat) : Int) = 0 := by omega
    generalize upE c i P x = e at *
    generalize upT c i P x = y at *
    refine W.ret [(6, aK (PV.tup [B8 32 y, I6 (e:Int)])), (14, aF)] [] [PC Tryd.prog G0 63 [] [PV.st 3 [I6 c, I6 i, PV.vec nl (PV.parr 32 n (Sh.iarr IntKind.u8 32) M)], B8 32 x] [] (PV.tup [B8 32 y, I6 (e:Int)]), ((e:Int) == 0) = false, rr (I6 (e:Int))] (by kernel_rfl) (ac (c1) (ac (decide_eq_false (by omega)) (ao rfl)))
end Go.Proofs
namespace Go.Proofs
open Go Go.Pe Go.Pm
set_option maxRecDepth 100000
set_option linter.unusedVariables false
theorem wid_le (n k : Nat) : wid n k ≤ n + 1 := by
  induction k with
  | zero => rw [wid]; omega
  | succ k ih => rw [wid]; omega
end Go.Proofs
namespace Go.Pm
/-- who stands beside -/
def sib (w i : Nat) : Nat := if i % 2 = 1 then i - 1 else if i + 1 < w then i + 1 else i
theorem sib_lt {w i : Nat} (h : i < w) : sib w i < w := by unfold sib; split; omega; split <;> omega
/-- the k-th of the path -/
def pathE (l : List (List Int)) (i k : Nat) : List Int := (lvl l k).getD (sib (wid l.length k) (i / 2 ^ k)) []
def pathM (l : List (List Int)) (i : Nat) : List (List Int) := (List.range (depM l.length)).map (pathE l i)
theorem pathM_length (l : List (List Int)) (i : Nat) : (pathM l i).length = depM l.length := by unfold pathM; rw [List.length_map, List.length_range]
theorem wid_div {n i : Nat} (h : i < n) : ∀ k, i / 2 ^ k < wid n k
  | 0 => by rw [wid, Nat.pow_zero, Nat.div_one]; exact h
  | k + 1 => by
    have := wid_div h k
    rw [wid, Nat.pow_succ, ← Nat.div_div_eq_div_mul]
    omega
theorem pathM_take (l : List (List Int)) (i k : Nat) (h : k < depM l.length) : (pathM l i).take (k + 1) = (pathM l i).take k ++ [pathE l i k] := by
  unfold pathM
  rw [List.take_add_one, List.getElem?_map, List.getElem?_range h]
  rfl
end Go.Pm
namespace Go.Proofs
open Go Go.Pe Go.Pm
set_option maxRecDepth 100000
set_option linter.unusedVariables false
theorem xor_one : ∀ q : Fin 64, bits .xor .i64 (q.val : Int) 1 = ((if q.val % 2 = 1 then q.val - 1 else q.val + 1 : Nat) : Int) := by decide
theorem xor_nat {q : Nat} (h : q < 64) : bits .xor .i64 (q : Int) 1 = ((if q % 2 = 1 then q - 1 else q + 1 : Nat) : Int) := xor_one ⟨q, h⟩
def zBr : PV := .st 3 [.int .i64 0, .int .i64 0, .vec true (.parr 32 0 hsE [])]
theorem wid_le_succ (n k : Nat) : wid n k ≤ n + 1 := by
  induction k with
  | zero => rw [wid]; omega
  | succ k ih => rw [wid]; omega
theorem dep_small {n : Nat} (h : n ≤ 32) : depM n ≤ 5 := (depM_le n 5).2 h
def dsBm (nl : Bool) (n i w q k : Nat) (L M : List PV) : DS := ⟨[(0, .vec nl (.parr 32 w hsE L)), (1, .int .i64 q), (4, .at 1 []), (6, .at 2 [])], [(1, ⟨zBr, false⟩), (2, ⟨.st 3 [.int .i64 n, .int .i64 i, .ref 3 [] 32 0 k], false⟩), (3, ⟨.parr 32 k hsE M, false⟩)]⟩
theorem W_bmake {n i : Nat} {P : List (List Int)} (ho : HsOk P n) (hn : n ≤ 32) (hi : i < n) : ∀ (j k : Nat) (nl : Bool), k + j = depM n → 0 < k →
    W Tryd.prog G0 Tryd.f39 [] [] (.tup [brPV n i false (depM n) (pathM P i), .int .i64 0]) (loopAt Tryd.f39 0) (dsBm nl n i (wid n k) (i / 2 ^ k) k ((lvl P k).map hv) (((pathM P i).map hv).take k))
  | 0, k, nl, hk, h0 => by
    have hkd : depM n = k := by omega
    have hle := wid_dep n
    rw [hkd] at hle
    have hpl : ((pathM P i).map hv).length = k := by rw [List.length_map, pathM_length, ho.len, hkd]
    have e : ((pathM P i).map hv).take k = (pathM P i).map hv := List.take_of_length_le (by omega)
    rw [hkd, e]
    unfold brPV hL
    generalize (pathM P i).map hv = M at *
    generalize (lvl P k).map hv = L at *
    generalize wid n k = w at *
    generalize i / 2 ^ k = q at *
    unfold dsBm zBr
    refine W.ret [(2, aF)] [] [decide ((w:Int) > 1) = false, 0 + k ≤ k, PV.tup [PV.st 3 [I6 (n:Int), I6 (i:Int), PV.vec false (PV.parr 32 k (Sh.iarr IntKind.u8 32) (List.take k M))], I6 0] = PV.tup [PV.st 3 [I6 (n:Int), I6 (i:Int), PV.vec false (PV.parr 32 k (Sh.iarr IntKind.u8 32) M)], I6 0]] (by kernel_rfl) (ac (decide_eq_false (by omega)) (ac (by omega) (ao (by (simp; omega)))))
  | j + 1, k, nl, hk, h0 => by
    have hkd : k < depM n := by omega
    have hgt := wid_below hkd
    have hkb : k + 1 ≤ 5 := by have := dep_small hn; omega
    have hok := ho.lvl k
    have hq := wid_div hi k
    have hwb : wid n k ≤ 33 := by have := wid_le_succ n k; omega
    have hw := W_bmake ho hn hi j (k + 1) false (by omega) (by omega)
    have hs := pathM_take P i k (by rw [ho.len]; exact hkd)
    have hs' : ((pathM P i).map hv).take (k + 1) = ((pathM P i).map hv).take k ++ [hv (pathE P i k)] := by
      rw [← List.map_take, hs, List.map_append, List.map_take]; rfl
    rw [hs'] at hw
    have hpe : pathE P i k = (lvl P k).getD (sib (wid n k) (i / 2 ^ k)) [] := by unfold pathE; rw [ho.len]
    have hsl := sib_lt hq
    have g := hv_get (l := lvl P k) (i := sib (wid n k) (i / 2 ^ k)) (by rw [hok.len]; exact hsl)
    have hyl := (hok.get hsl).1
    rw [← hpe] at g hyl
    have hl : (((pathM P i).map hv).take k).length = k := by rw [List.length_take, List.length_map, pathM_length, ho.len]; omega
    have c1 := pc_above (nl := nl) hok (by omega)
    rw [wid, lvl, Nat.pow_succ, ← Nat.div_div_eq_div_mul] at hw
    generalize i / 2 ^ k = q at *
    generalize hwd : wid n k = w at *
    have hx := xor_nat (q := q) (by omega)
    have hmn : mn ((if q % 2 = 1 then q - 1 else q + 1 : Nat) : Int) ((w : Int) - 1) = ((sib w q : Nat) : Int) := by
      unfold sib mn
      split
      · split <;> omega
      · split <;> split <;> omega
    have hT : ((above (lvl P k)).map hv).take ((w + 1) / 2) = (above (lvl P k)).map hv := List.take_of_length_le (by rw [List.length_map, above_length, hok.len]; omega)
    have hqd : ((q : Nat) : Int).tdiv 2 = ((q / 2 : Nat) : Int) := by rw [Int.tdiv_eq_ediv_of_nonneg (by omega)]; omega
    have hxb : (if q % 2 = 1 then q - 1 else q + 1) ≤ 100 := by split <;> omega
    generalize PV.tup [brPV n i false (depM n) (pathM P i), .int .i64 0] = res at *
    clear hs hs' hpe ho hok
    generalize pathE P i k = y at *
    generalize hM : ((pathM P i).map hv).take k = M at *
    clear hM
    generalize (if q % 2 = 1 then q - 1 else q + 1) = x at *
    generalize sib w q = s at *
    unfold hL at *
    generalize (above (lvl P k)).map hv = A at *
    generalize (lvl P k).map hv = L at *
    have hq2 : q / 2 ≤ 100 := by omega
    generalize q / 2 = q2 at *
    have hm : (w + 1) / 2 ≤ 100 := by omega
    generalize (w + 1) / 2 = m at *
    unfold hv at *
    unfold dsBm zBr at *
    refine W.seg [(2, aT), (7, aV (I6 (x:Int))), (10, aV (I6 ((w:Int) - 1))), (11, aV (I6 (s:Int))), (13, aV (B8 32 y)), (15, Ans.ups [(3, none), (304, some (Row.mk (PV.parr 32 (k + 1) (Sh.iarr IntKind.u8 32) (M ++ [B8 32 y])) false))]), (19, Ans.call true [] [(1, Row.mk (PV.parr 32 m (Sh.iarr IntKind.u8 32) A) false)] (PV.ref 1 [] 32 0 m)), (21, aV (I6 (q2:Int)))] [(1, 1), (2, 2), (304, 3)] (DS.mk [(0, PV.vec false (PV.parr 32 m hsE A)), (1, I6 (q2:Int)), (4, PV.at 1 []), (6, PV.at 2 [])] [(1, Row.mk (PV.st 3 [I6 0, I6 0, PV.vec true (PV.parr 32 0 hsE [])]) false), (2, Row.mk (PV.st 3 [I6 (n:Int), I6 (i:Int), PV.ref 3 [] 32 0 (k + 1)]) false), (3, Row.mk (PV.parr 32 (k + 1) hsE (M ++ [B8 32 y])) false)]) (todo' := loopAt Tryd.f39 0) [decide ((w:Int) > 1) = true, I6 (bits BinOp.xor IntKind.i64 (q:Int) (1 : Int)) = I6 (x:Int), I6 (IntKind.wrap .i64 ((w:Int) - 1)) = I6 ((w:Int) - 1), I6 (mn (x:Int) ((w:Int) - 1)) = I6 (s:Int), 0 ≤ (s:Int), (s:Int) < (w:Int), B8 32 (PV.nums (List.getD L s PV.undef)) = B8 32 y, s < w, ([(3, none), (304, some (Row.mk (PV.parr 32 (k + 1) (Sh.iarr IntKind.u8 32) (List.take k M ++ [B8 32 y])) false))] : List (Nat × Option Row)) = [(3, none), (304, some (Row.mk (PV.parr 32 (k + 1) (Sh.iarr IntKind.u8 32) (M ++ [B8 32 y])) false))], 1 ≤ 1, 0 + k = k, (k + 1) * 32 ≤ 140737488355328, k + 1 ≤ 9223372036854775807, PC Tryd.prog G0 66 [] [PV.vec nl (PV.parr 32 w (Sh.iarr IntKind.u8 32) L)] [(1, Row.mk (PV.parr 32 m (Sh.iarr IntKind.u8 32) A) false)] (PV.ref 1 [] 32 0 m), I6 (IntKind.wrap .i64 (Int.tdiv (q:Int) (2 : Int))) = I6 (q2:Int), (2 : Int) ≠ (0 : Int), 0 + m ≤ m, PV.vec false (PV.parr 32 m (Sh.iarr IntKind.u8 32) (List.take m A)) = PV.vec false (PV.parr 32 m (Sh.iarr IntKind.u8 32) A), rr (I6 (q2:Int)), rr (PV.at 1 []), rr (PV.at 2 []), rr (PV.st 3 [I6 0, I6 0, PV.vec true (PV.parr 32 0 (Sh.iarr IntKind.u8 32) [])]), rr (PV.st 3 [I6 (n:Int), I6 (i:Int), PV.ref 3 [] 32 0 (k + 1)]), rr (PV.parr 32 (k + 1) (Sh.iarr IntKind.u8 32) (M ++ [B8 32 y]))] (by kernel_rfl) (ac (decide_eq_true (by omega)) (ac (cg (hx)) (ac (cg (w_i64 rfl (by omega) (by omega))) (ac (cg (hmn)) (ac (by omega) (ac (by omega) (ac (by (rw [g]; rfl)) (ac (by omega) (ac (by rw [List.take_of_length_le (show List.length M ≤ k by omega)]) (ac (by omega) (ac (by omega) (ac (by omega) (ac (by omega) (ac (c1) (ac (cg (w_i64 hqd (by omega) (by omega))) (ac (by omega) (ac (by omega) (ac (by (simp; omega)) (ac rfl (ac rfl (ac rfl (ac rfl (ac rfl (ao rfl)))))))))))))))))))))))) ?_
    exact hw
theorem pc_bmake {n i : Nat} {nl : Bool} {P : List (List Int)} (ho : HsOk P n) (hn : n ≤ 32) (hi : i < n) : PC Tryd.prog G0 39 [] [.vec nl (hL n P), .int .i64 i] [] (.tup [brPV n i (decide (depM n = 0)) (depM n) (pathM P i), .int .i64 0]) := by
  refine PC.of (fn := Tryd.f39) (c := bodyOf Tryd.f39) Tryd.func39 (by kernel_rfl) (by kernel_rfl) (by kernel_rfl) (by kernel_rfl) ?_
  by_cases h0 : depM n = 0
  · have hle := (depM_le n 0).1 (by omega)
    have hn1 : n = 1 := by have : (2 : Nat) ^ 0 = 1 := rfl; omega
    subst hn1
    have hi0 : i = 0 := by omega
    subst hi0
    have hp : pathM P 0 = [] := List.eq_nil_of_length_eq_zero (by rw [pathM_length, ho.len]; exact h0)
    rw [h0, hp]
    show W _ _ _ _ _ (.tup [brPV 1 0 true 0 [], .int .i64 0]) _ _
    unfold brPV hL
    rw [List.map_nil]
    generalize P.map hv = L at *
    refine W.seg [(3, aV (I6 1)), (5, aV (I6 0)), (8, aV (I6 0)), (10, aV (I6 1)), (14, aV (I6 1)), (15, aV (I6 0))] [(64, 1), (336, 2)] (DS.mk [(0, PV.vec nl (PV.parr 32 1 hsE L)), (1, I6 0), (4, PV.at 1 []), (6, PV.at 2 [])] [(1, Row.mk (PV.st 3 [I6 0, I6 0, PV.vec true (PV.parr 32 0 hsE [])]) false), (2, Row.mk (PV.st 3 [I6 1, I6 0, PV.vec true (PV.parr 32 0 hsE [])]) false)]) (todo' := loopAt Tryd.f39 0) [I6 (↑(1 : Nat) : Int) = I6 1, I6 (↑(0 : Nat) : Int) = I6 0, I6 (↑(0 : Nat) : Int) = I6 0, I6 (↑(1 : Nat) : Int) = I6 1, I6 (↑(1 : Nat) : Int) = I6 1, I6 (↑(0 : Nat) : Int) = I6 0, rr (PV.vec nl (PV.parr 32 1 (Sh.iarr IntKind.u8 32) L)), I6 (↑(0 : Nat) : Int) = I6 0, rr (PV.at 1 []), rr (PV.at 2 []), rr (PV.st 3 [I6 0, I6 0, PV.vec true (PV.parr 32 0 (Sh.iarr IntKind.u8 32) [])]), rr (PV.st 3 [I6 1, I6 0, PV.vec true (PV.parr 32 0 (Sh.iarr IntKind.u8 32) [])])] (by kernel_rfl) (ac (cg (by omega)) (ac (cg (by omega)) (ac (cg (by omega)) (ac (cg (by omega)) (ac (cg (by omega)) (ac (cg (by omega)) (ac rfl (ac (cg (by omega)) (ac rfl (ac rfl (ac rfl (ao rfl)))))))))))) ?_
    refine W.ret [(1, aV (I6 1))] [] [I6 (↑(1 : Nat) : Int) = I6 1, rr (PV.tup [PV.st 3 [I6 1, I6 0, PV.vec true (PV.parr 32 0 (Sh.iarr IntKind.u8 32) [])], I6 0])] (by kernel_rfl) (ac (cg (by omega)) (ao rfl))
  · have hd : decide (depM n = 0) = false := decide_eq_false h0
    rw [hd]
    have hgt := wid_below (n := n) (k := 0) (by omega)
    rw [wid] at hgt
    have hw := W_bmake ho hn hi (depM n - 1) 1 false (by omega) (by omega)
    have hs := pathM_take P i 0 (by rw [ho.len]; omega)
    have hs' : ((pathM P i).map hv).take 1 = [hv (pathE P i 0)] := by
      rw [← List.map_take, hs, List.take_zero]; rfl
    rw [hs'] at hw
    have hpe : pathE P i 0 = P.getD (sib n i) [] := by unfold pathE; rw [ho.len, wid, lvl, Nat.pow_zero, Nat.div_one]
    have hsl := sib_lt hi
    have g := hv_get (l := P) (i := sib n i) (by rw [ho.len]; exact hsl)
    have hyl := (ho.get hsl).1
    rw [← hpe] at g hyl
    have c1 := pc_above (nl := nl) ho (by omega)
    rw [wid, wid, lvl, lvl, Nat.pow_one] at hw
    have hx := xor_nat (q := i) (by omega)
    have hmn : mn ((if i % 2 = 1 then i - 1 else i + 1 : Nat) : Int) ((n : Int) - 1) = ((sib n i : Nat) : Int) := by
      unfold sib mn
      split
      · split <;> omega
      · split <;> split <;> omega
    have hT : ((above P).map hv).take ((n + 1) / 2) = (above P).map hv := List.take_of_length_le (by rw [List.length_map, above_length, ho.len]; omega)
    have hqd : ((i : Nat) : Int).tdiv 2 = ((i / 2 : Nat) : Int) := by rw [Int.tdiv_eq_ediv_of_nonneg (by omega)]; omega
    have hxb : (if i % 2 = 1 then i - 1 else i + 1) ≤ 100 := by split <;> omega
    generalize PV.tup [brPV n i false (depM n) (pathM P i), .int .i64 0] = res at *
    clear hs hs' hpe ho hd h0
    generalize pathE P i 0 = y at *
    generalize (if i % 2 = 1 then i - 1 else i + 1) = x at *
    generalize sib n i = s at *
    unfold hL at *
    generalize (above P).map hv = A at *
    generalize P.map hv = L at *
    have hq2 : i / 2 ≤ 100 := by omega
    generalize i / 2 = q2 at *
    have hm : (n + 1) / 2 ≤ 100 := by omega
    generalize (n + 1) / 2 = m at *
    unfold hv at *
    unfold dsBm zBr at *
    refine W.seg [(4, aF), (11, aF)] [(64, 1), (336, 2)] (DS.mk [(0, PV.vec nl (PV.parr 32 n hsE L)), (1, I6 (i:Int)), (4, PV.at 1 []), (6, PV.at 2 [])] [(1, Row.mk (PV.st 3 [I6 0, I6 0, PV.vec true (PV.parr 32 0 hsE [])]) false), (2, Row.mk (PV.st 3 [I6 (n:Int), I6 (i:Int), PV.vec true (PV.parr 32 0 hsE [])]) false)]) (todo' := loopAt Tryd.f39 0) [decide ((n:Int) > 65536) = false, decide ((i:Int) ≥ (n:Int)) = false, rr (PV.vec nl (PV.parr 32 n (Sh.iarr IntKind.u8 32) L)), rr (I6 (i:Int)), rr (PV.at 1 []), rr (PV.at 2 []), rr (PV.st 3 [I6 0, I6 0, PV.vec true (PV.parr 32 0 (Sh.iarr IntKind.u8 32) [])]), rr (PV.st 3 [I6 (n:Int), I6 (i:Int), PV.vec true (PV.parr 32 0 (Sh.iarr IntKind.u8 32) [])])] (by kernel_rfl) (ac (decide_eq_false (by omega)) (ac (decide_eq_false (by omega)) (ac rfl (ac rfl (ac rfl (ac rfl (ac rfl (ao rfl)))))))) ?_
    refine W.seg [(2, aT), (7, aV (I6 (x:Int))), (10, aV (I6 ((n:Int) - 1))), (11, aV (I6 (s:Int))), (13, aV (B8 32 y)), (19, Ans.call true [] [(1, Row.mk (PV.parr 32 m (Sh.iarr IntKind.u8 32) A) false)] (PV.ref 1 [] 32 0 m)), (21, aV (I6 (q2:Int)))] [(1, 1), (2, 2), (304, 3)] (DS.mk [(0, PV.vec false (PV.parr 32 m hsE A)), (1, I6 (q2:Int)), (4, PV.at 1 []), (6, PV.at 2 [])] [(1, Row.mk (PV.st 3 [I6 0, I6 0, PV.vec true (PV.parr 32 0 hsE [])]) false), (2, Row.mk (PV.st 3 [I6 (n:Int), I6 (i:Int), PV.ref 3 [] 32 0 1]) false), (3, Row.mk (PV.parr 32 1 hsE [B8 32 y]) false)]) (todo' := loopAt Tryd.f39 0) [decide ((n:Int) > 1) = true, I6 (bits BinOp.xor IntKind.i64 (i:Int) (1 : Int)) = I6 (x:Int), I6 (IntKind.wrap .i64 ((n:Int) - 1)) = I6 ((n:Int) - 1), I6 (mn (x:Int) ((n:Int) - 1)) = I6 (s:Int), 0 ≤ (s:Int), (s:Int) < (n:Int), B8 32 (PV.nums (List.getD L s PV.undef)) = B8 32 y, s < n, 1 ≤ 1, 0 < 1, 32 ≤ 140737488355328, 1 ≤ 9223372036854775807, PC Tryd.prog G0 66 [] [PV.vec nl (PV.parr 32 n (Sh.iarr IntKind.u8 32) L)] [(1, Row.mk (PV.parr 32 m (Sh.iarr IntKind.u8 32) A) false)] (PV.ref 1 [] 32 0 m), I6 (IntKind.wrap .i64 (Int.tdiv (i:Int) (2 : Int))) = I6 (q2:Int), (2 : Int) ≠ (0 : Int), 0 + m ≤ m, PV.vec false (PV.parr 32 m (Sh.iarr IntKind.u8 32) (List.take m A)) = PV.vec false (PV.parr 32 m (Sh.iarr IntKind.u8 32) A), rr (I6 (q2:Int)), rr (PV.at 1 []), rr (PV.at 2 []), rr (PV.st 3 [I6 0, I6 0, PV.vec true (PV.parr 32 0 (Sh.iarr IntKind.u8 32) [])]), rr (PV.st 3 [I6 (n:Int), I6 (i:Int), PV.ref 3 [] 32 0 1]), rr (PV.parr 32 1 (Sh.iarr IntKind.u8 32) [B8 32 y])] (by kernel_rfl) (ac (decide_eq_true (by omega)) (ac (cg (hx)) (ac (cg (w_i64 rfl (by omega) (by omega))) (ac (cg (hmn)) (ac (by omega) (ac (by omega) (ac (by (rw [g]; rfl)) (ac (by omega) (ac (by omega) (ac (by omega) (ac (by omega) (ac (by omega) (ac (c1) (ac (cg (w_i64 hqd (by omega) (by omega))) (ac (by omega) (ac (by omega) (ac (by (simp; omega)) (ac rfl (ac rfl (ac rfl (ac rfl (ac rfl (ao rfl))))))))))))))))))))))) ?_
    exact hw
end Go.Proofs
namespace Go.Proofs
open Go Go.Pe Go.Pm
set_option maxRecDepth 100000
set_option linter.unusedVariables false
def dsRm (nl : Bool) (n i q k : Nat) (L M : List PV) : DS := ⟨[(0, .vec nl (.parr 32 n hsE L)), (1, .int .i64 q), (4, .at 1 []), (5, .at 2 []), (6, .int .i64 k)], [(1, ⟨zBr, false⟩), (2, ⟨.st 3 [.int .i64 n, .int .i64 i, .ref 3 [] 32 0 k], false⟩), (3, ⟨.parr 32 k hsE M, false⟩)]⟩
theorem W_rmake {n i : Nat} {nl : Bool} {P : List (List Int)} (ho : HsOk P n) (hn : n ≤ 32) (hi : i < n) : ∀ (j k : Nat), k + j = depM n → 0 < k →
    W Tryd.prog G0 Tryd.f40 [] [] (brPV n i false (depM n) (pathM P i)) (loopAt Tryd.f40 0) (dsRm nl n i (i / 2 ^ k) k (P.map hv) (((pathM P i).map hv).take k))
  | 0, k, hk, h0 => by
    have hkd : depM n = k := by omega
    have cd := pc_rDepth (n := n) (by omega)
    rw [hkd] at cd
    have hpl : ((pathM P i).map hv).length = k := by rw [List.length_map, pathM_length, ho.len, hkd]
    have e : ((pathM P i).map hv).take k = (pathM P i).map hv := List.take_of_length_le (by omega)
    rw [hkd, e]
    unfold brPV hL
    generalize (pathM P i).map hv = M at *
    generalize P.map hv = L at *
    generalize i / 2 ^ k = q at *
    unfold dsRm zBr
    refine W.ret [(3, aK (I6 (k:Int))), (4, aF)] [] [PC Tryd.prog G0 31 [] [I6 (n:Int)] [] (I6 (k:Int)), decide ((k:Int) < (k:Int)) = false, 0 + k ≤ k, PV.st 3 [I6 (n:Int), I6 (i:Int), PV.vec false (PV.parr 32 k (Sh.iarr IntKind.u8 32) (List.take k M))] = PV.st 3 [I6 (n:Int), I6 (i:Int), PV.vec false (PV.parr 32 k (Sh.iarr IntKind.u8 32) M)]] (by kernel_rfl) (ac (cd) (ac (decide_eq_false (by omega)) (ac (by omega) (ao (by (simp; omega))))))
  | j + 1, k, hk, h0 => by
    have hkd : k < depM n := by omega
    have hkb : k + 1 ≤ 5 := by have := dep_small hn; omega
    have hq := wid_div hi k
    have hwb : wid n k ≤ 33 := by have := wid_le_succ n k; omega
    have hw := W_rmake (nl := nl) ho hn hi j (k + 1) (by omega) (by omega)
    have hs := pathM_take P i k (by rw [ho.len]; exact hkd)
    have hs' : ((pathM P i).map hv).take (k + 1) = ((pathM P i).map hv).take k ++ [hv (pathE P i k)] := by
      rw [← List.map_take, hs, List.map_append, List.map_take]; rfl
    rw [hs'] at hw
    have hpe : pathE P i k = (lvl P k).getD (sib (wid n k) (i / 2 ^ k)) [] := by unfold pathE; rw [ho.len]
    have hsl := sib_lt hq
    have cd := pc_rDepth (n := n) (by omega)
    have cw := pc_rWide (n := n) (k := k) (by omega) (by omega)
    have cn := pc_rNode (nl := nl) ho (by omega) k (sib (wid n k) (i / 2 ^ k)) (by omega) hsl
    rw [← hpe] at cn
    have hl : (((pathM P i).map hv).take k).length = k := by rw [List.length_take, List.length_map, pathM_length, ho.len]; omega
    have hyl : (pathE P i k).length = 32 := by rw [hpe]; exact ((ho.lvl k).get hsl).1
    rw [Nat.pow_succ, ← Nat.div_div_eq_div_mul] at hw
    generalize i / 2 ^ k = q at *
    generalize wid n k = w at *
    have hqd : ((q : Nat) : Int).tdiv 2 = ((q / 2 : Nat) : Int) := by rw [Int.tdiv_eq_ediv_of_nonneg (by omega)]; omega
    generalize brPV n i false (depM n) (pathM P i) = res at *
    clear hs hs' hpe ho
    generalize pathE P i k = y at *
    generalize hM : ((pathM P i).map hv).take k = M at *
    clear hM
    unfold hL at *
    generalize P.map hv = L at *
    generalize depM n = d at *
    have hq2 : q / 2 ≤ 100 := by omega
    generalize q / 2 = q2 at *
    unfold hv at *
    unfold dsRm zBr at *
    by_cases ho1 : q % 2 = 1
    · have hr : (q : Int).tmod 2 = 1 := by rw [Int.tmod_eq_emod_of_nonneg (by omega)]; omega
      have hsb : sib w q = q - 1 := by unfold sib; rw [if_pos ho1]
      have hq1 : ((q - 1 : Nat) : Int) = (q : Int) - 1 := by omega
      rw [hsb, hq1] at cn
      clear hsb hsl
      refine W.seg [(3, aK (I6 (d:Int))), (4, aT), (6, aV (I6 (↑(q + 1) : Int))), (9, aV (I6 1)), (12, aV (I6 ((q:Int) - 1))), (18, aK (I6 (w:Int))), (19, aF), (25, aK (B8 32 y)), (27, Ans.ups [(3, none), (496, some (Row.mk (PV.parr 32 (k + 1) (Sh.iarr IntKind.u8 32) (M ++ [B8 32 y])) false))]), (31, aV (I6 (q2:Int))), (34, aV (I6 (↑(k + 1) : Int)))] [(1, 1), (2, 2), (496, 3)] (DS.mk [(0, PV.vec nl (PV.parr 32 n hsE L)), (1, I6 (q2:Int)), (4, PV.at 1 []), (5, PV.at 2 []), (6, I6 (↑(k + 1) : Int))] [(1, Row.mk (PV.st 3 [I6 0, I6 0, PV.vec true (PV.parr 32 0 hsE [])]) false), (2, Row.mk (PV.st 3 [I6 (n:Int), I6 (i:Int), PV.ref 3 [] 32 0 (k + 1)]) false), (3, Row.mk (PV.parr 32 (k + 1) hsE (M ++ [B8 32 y])) false)]) (todo' := loopAt Tryd.f40 0) [PC Tryd.prog G0 31 [] [I6 (n:Int)] [] (I6 (d:Int)), decide ((k:Int) < (d:Int)) = true, I6 (IntKind.wrap .i64 ((q:Int) + 1)) = I6 (↑(q + 1) : Int), I6 (Int.tmod (q:Int) (2 : Int)) = I6 1, (2 : Int) ≠ (0 : Int), I6 (IntKind.wrap .i64 ((q:Int) - 1)) = I6 ((q:Int) - 1), PC Tryd.prog G0 54 [] [I6 (n:Int), I6 (k:Int)] [] (I6 (w:Int)), decide ((q:Int) - 1 ≥ (w:Int)) = false, PC Tryd.prog G0 30 [] [PV.vec nl (PV.parr 32 n (Sh.iarr IntKind.u8 32) L), I6 (k:Int), I6 ((q:Int) - 1)] [] (B8 32 y), ([(3, none), (496, some (Row.mk (PV.parr 32 (k + 1) (Sh.iarr IntKind.u8 32) (List.take k M ++ [B8 32 y])) false))] : List (Nat × Option Row)) = [(3, none), (496, some (Row.mk (PV.parr 32 (k + 1) (Sh.iarr IntKind.u8 32) (M ++ [B8 32 y])) false))], 1 ≤ 1, 0 + k = k, (k + 1) * 32 ≤ 140737488355328, k + 1 ≤ 9223372036854775807, I6 (IntKind.wrap .i64 (Int.tdiv (q:Int) (2 : Int))) = I6 (q2:Int), (2 : Int) ≠ (0 : Int), I6 (IntKind.wrap .i64 ((k:Int) + 1)) = I6 (↑(k + 1) : Int), rr (PV.vec nl (PV.parr 32 n (Sh.iarr IntKind.u8 32) L)), rr (I6 (q2:Int)), rr (PV.at 1 []), rr (PV.at 2 []), rr (I6 (↑(k + 1) : Int)), rr (PV.st 3 [I6 0, I6 0, PV.vec true (PV.parr 32 0 (Sh.iarr IntKind.u8 32) [])]), rr (PV.st 3 [I6 (n:Int), I6 (i:Int), PV.ref 3 [] 32 0 (k + 1)]), rr (PV.parr 32 (k + 1) (Sh.iarr IntKind.u8 32) (M ++ [B8 32 y]))] (by kernel_rfl) (ac (cd) (ac (decide_eq_true (by omega)) (ac (cg (w_i64 rfl (by omega) (by omega))) (ac (cg (hr)) (ac (by omega) (ac (cg (w_i64 rfl (by omega) (by omega))) (ac (cw) (ac (decide_eq_false (by omega)) (ac (cn) (ac (by rw [List.take_of_length_le (show List.length M ≤ k by omega)]) (ac (by omega) (ac (by omega) (ac (by omega) (ac (by omega) (ac (cg (w_i64 hqd (by omega) (by omega))) (ac (by omega) (ac (cg (w_i64 rfl (by omega) (by omega))) (ac rfl (ac rfl (ac rfl (ac rfl (ac rfl (ac rfl (ac rfl (ao rfl))))))))))))))))))))))))) ?_
      exact hw
    · have hr : (q : Int).tmod 2 = 0 := by rw [Int.tmod_eq_emod_of_nonneg (by omega)]; omega
      by_cases ho2 : q + 1 < w
      · have hsb : sib w q = q + 1 := by unfold sib; rw [if_neg ho1, if_pos ho2]
        rw [hsb] at cn
        clear hsb hsl
        refine W.seg [(3, aK (I6 (d:Int))), (4, aT), (6, aV (I6 (↑(q + 1) : Int))), (9, aV (I6 0)), (15, aK (I6 (w:Int))), (16, aF), (22, aK (B8 32 y)), (24, Ans.ups [(3, none), (448, some (Row.mk (PV.parr 32 (k + 1) (Sh.iarr IntKind.u8 32) (M ++ [B8 32 y])) false))]), (28, aV (I6 (q2:Int))), (31, aV (I6 (↑(k + 1) : Int)))] [(1, 1), (2, 2), (448, 3)] (DS.mk [(0, PV.vec nl (PV.parr 32 n hsE L)), (1, I6 (q2:Int)), (4, PV.at 1 []), (5, PV.at 2 []), (6, I6 (↑(k + 1) : Int))] [(1, Row.mk (PV.st 3 [I6 0, I6 0, PV.vec true (PV.parr 32 0 hsE [])]) false), (2, Row.mk (PV.st 3 [I6 (n:Int), I6 (i:Int), PV.ref 3 [] 32 0 (k + 1)]) false), (3, Row.mk (PV.parr 32 (k + 1) hsE (M ++ [B8 32 y])) false)]) (todo' := loopAt Tryd.f40 0) [PC Tryd.prog G0 31 [] [I6 (n:Int)] [] (I6 (d:Int)), decide ((k:Int) < (d:Int)) = true, I6 (IntKind.wrap .i64 ((q:Int) + 1)) = I6 (↑(q + 1) : Int), I6 (Int.tmod (q:Int) (2 : Int)) = I6 0, (2 : Int) ≠ (0 : Int), PC Tryd.prog G0 54 [] [I6 (n:Int), I6 (k:Int)] [] (I6 (w:Int)), decide ((↑(q + 1) : Int) ≥ (w:Int)) = false, PC Tryd.prog G0 30 [] [PV.vec nl (PV.parr 32 n (Sh.iarr IntKind.u8 32) L), I6 (k:Int), I6 (↑(q + 1) : Int)] [] (B8 32 y), ([(3, none), (448, some (Row.mk (PV.parr 32 (k + 1) (Sh.iarr IntKind.u8 32) (List.take k M ++ [B8 32 y])) false))] : List (Nat × Option Row)) = [(3, none), (448, some (Row.mk (PV.parr 32 (k + 1) (Sh.iarr IntKind.u8 32) (M ++ [B8 32 y])) false))], 1 ≤ 1, 0 + k = k, (k + 1) * 32 ≤ 140737488355328, k + 1 ≤ 9223372036854775807, I6 (IntKind.wrap .i64 (Int.tdiv (q:Int) (2 : Int))) = I6 (q2:Int), (2 : Int) ≠ (0 : Int), I6 (IntKind.wrap .i64 ((k:Int) + 1)) = I6 (↑(k + 1) : Int), rr (PV.vec nl (PV.parr 32 n (Sh.iarr IntKind.u8 32) L)), rr (I6 (q2:Int)), rr (PV.at 1 []), rr (PV.at 2 []), rr (I6 (↑(k + 1) : Int)), rr (PV.st 3 [I6 0, I6 0, PV.vec true (PV.parr 32 0 (Sh.iarr IntKind.u8 32) [])]), rr (PV.st 3 [I6 (n:Int), I6 (i:Int), PV.ref 3 [] 32 0 (k + 1)]), rr (PV.parr 32 (k + 1) (Sh.iarr IntKind.u8 32) (M ++ [B8 32 y]))] (by kernel_rfl) (ac (cd) (ac (decide_eq_true (by omega)) (ac (cg (w_i64 rfl (by omega) (by omega))) (ac (cg (hr)) (ac (by omega) (ac (cw) (ac (decide_eq_false (by omega)) (ac (cn) (ac (by rw [List.take_of_length_le (show List.length M ≤ k by omega)]) (ac (by omega) (ac (by omega) (ac (by omega) (ac (by omega) (ac (cg (w_i64 hqd (by omega) (by omega))) (ac (by omega) (ac (cg (w_i64 rfl (by omega) (by omega))) (ac rfl (ac rfl (ac rfl (ac rfl (ac rfl (ac rfl (ac rfl (ao rfl)))))))))))))))))))))))) ?_
        exact hw
      · have hsb : sib w q = q := by unfold sib; rw [if_neg ho1, if_neg ho2]
        rw [hsb] at cn
        clear hsb hsl
        refine W.seg [(3, aK (I6 (d:Int))), (4, aT), (6, aV (I6 (↑(q + 1) : Int))), (9, aV (I6 0)), (15, aK (I6 (w:Int))), (16, aT), (24, aK (B8 32 y)), (26, Ans.ups [(3, none), (480, some (Row.mk (PV.parr 32 (k + 1) (Sh.iarr IntKind.u8 32) (M ++ [B8 32 y])) false))]), (30, aV (I6 (q2:Int))), (33, aV (I6 (↑(k + 1) : Int)))] [(1, 1), (2, 2), (480, 3)] (DS.mk [(0, PV.vec nl (PV.parr 32 n hsE L)), (1, I6 (q2:Int)), (4, PV.at 1 []), (5, PV.at 2 []), (6, I6 (↑(k + 1) : Int))] [(1, Row.mk (PV.st 3 [I6 0, I6 0, PV.vec true (PV.parr 32 0 hsE [])]) false), (2, Row.mk (PV.st 3 [I6 (n:Int), I6 (i:Int), PV.ref 3 [] 32 0 (k + 1)]) false), (3, Row.mk (PV.parr 32 (k + 1) hsE (M ++ [B8 32 y])) false)]) (todo' := loopAt Tryd.f40 0) [PC Tryd.prog G0 31 [] [I6 (n:Int)] [] (I6 (d:Int)), decide ((k:Int) < (d:Int)) = true, I6 (IntKind.wrap .i64 ((q:Int) + 1)) = I6 (↑(q + 1) : Int), I6 (Int.tmod (q:Int) (2 : Int)) = I6 0, (2 : Int) ≠ (0 : Int), PC Tryd.prog G0 54 [] [I6 (n:Int), I6 (k:Int)] [] (I6 (w:Int)), decide ((↑(q + 1) : Int) ≥ (w:Int)) = true, PC Tryd.prog G0 30 [] [PV.vec nl (PV.parr 32 n (Sh.iarr IntKind.u8 32) L), I6 (k:Int), I6 (q:Int)] [] (B8 32 y), ([(3, none), (480, some (Row.mk (PV.parr 32 (k + 1) (Sh.iarr IntKind.u8 32) (List.take k M ++ [B8 32 y])) false))] : List (Nat × Option Row)) = [(3, none), (480, some (Row.mk (PV.parr 32 (k + 1) (Sh.iarr IntKind.u8 32) (M ++ [B8 32 y])) false))], 1 ≤ 1, 0 + k = k, (k + 1) * 32 ≤ 140737488355328, k + 1 ≤ 9223372036854775807, I6 (IntKind.wrap .i64 (Int.tdiv (q:Int) (2 : Int))) = I6 (q2:Int), (2 : Int) ≠ (0 : Int), I6 (IntKind.wrap .i64 ((k:Int) + 1)) = I6 (↑(k + 1) : Int), rr (PV.vec nl (PV.parr 32 n (Sh.iarr IntKind.u8 32) L)), rr (I6 (q2:Int)), rr (PV.at 1 []), rr (PV.at 2 []), rr (I6 (↑(k + 1) : Int)), rr (PV.st 3 [I6 0, I6 0, PV.vec true (PV.parr 32 0 (Sh.iarr IntKind.u8 32) [])]), rr (PV.st 3 [I6 (n:Int), I6 (i:Int), PV.ref 3 [] 32 0 (k + 1)]), rr (PV.parr 32 (k + 1) (Sh.iarr IntKind.u8 32) (M ++ [B8 32 y]))] (by kernel_rfl) (ac (cd) (ac (decide_eq_true (by omega)) (ac (cg (w_i64 rfl (by omega) (by omega))) (ac (cg (hr)) (ac (by omega) (ac (cw) (ac (decide_eq_true (by omega)) (ac (cn) (ac (by rw [List.take_of_length_le (show List.length M ≤ k by omega)]) (ac (by omega) (ac (by omega) (ac (by omega) (ac (by omega) (ac (cg (w_i64 hqd (by omega) (by omega))) (ac (by omega) (ac (cg (w_i64 rfl (by omega) (by omega))) (ac rfl (ac rfl (ac rfl (ac rfl (ac rfl (ac rfl (ac rfl (ao rfl)))))))))))))))))))))))) ?_
        exact hw
theorem pc_rmake {n i : Nat} {nl : Bool} {P : List (List Int)} (ho : HsOk P n) (hn : n ≤ 32) (hi : i < n) : PC Tryd.prog G0 40 [] [.vec nl (hL n P), .int .i64 i] [] (brPV n i (decide (depM n = 0)) (depM n) (pathM P i)) := by
  refine PC.of (fn := Tryd.f40) (c := bodyOf Tryd.f40) Tryd.func40 (by kernel_rfl) (by kernel_rfl) (by kernel_rfl) (by kernel_rfl) ?_
  have cd := pc_rDepth (n := n) (by omega)
  by_cases h0 : depM n = 0
  · have hp : pathM P i = [] := List.eq_nil_of_length_eq_zero (by rw [pathM_length, ho.len]; exact h0)
    rw [h0] at cd ⊢
    rw [hp]
    show W _ _ _ _ _ (brPV n i true 0 []) _ _
    unfold brPV hL
    rw [List.map_nil]
    generalize P.map hv = L at *
    refine W.seg [] [(64, 1), (144, 2)] (DS.mk [(0, PV.vec nl (PV.parr 32 n hsE L)), (1, I6 (i:Int)), (4, PV.at 1 []), (5, PV.at 2 []), (6, I6 0)] [(1, Row.mk (PV.st 3 [I6 0, I6 0, PV.vec true (PV.parr 32 0 hsE [])]) false), (2, Row.mk (PV.st 3 [I6 (n:Int), I6 (i:Int), PV.vec true (PV.parr 32 0 hsE [])]) false)]) (todo' := loopAt Tryd.f40 0) [rr (PV.vec nl (PV.parr 32 n (Sh.iarr IntKind.u8 32) L)), rr (I6 (i:Int)), rr (PV.at 1 []), rr (PV.at 2 []), rr (I6 0), rr (PV.st 3 [I6 0, I6 0, PV.vec true (PV.parr 32 0 (Sh.iarr IntKind.u8 32) [])]), rr (PV.st 3 [I6 (n:Int), I6 (i:Int), PV.vec true (PV.parr 32 0 (Sh.iarr IntKind.u8 32) [])])] (by kernel_rfl) (ac rfl (ac rfl (ac rfl (ac rfl (ac rfl (ac rfl (ao rfl))))))) ?_
    refine W.ret [(3, aK (I6 (↑(0 : Nat) : Int)))] [] [PC Tryd.prog G0 31 [] [I6 (n:Int)] [] (I6 (↑(0 : Nat) : Int)), rr (PV.st 3 [I6 (n:Int), I6 (i:Int), PV.vec true (PV.parr 32 0 (Sh.iarr IntKind.u8 32) [])])] (by kernel_rfl) (ac (cd) (ao rfl))
  · have hd : decide (depM n = 0) = false := decide_eq_false h0
    rw [hd]
    have hw := W_rmake (nl := nl) ho hn hi (depM n - 1) 1 (by omega) (by omega)
    have hs := pathM_take P i 0 (by rw [ho.len]; omega)
    have hs' : ((pathM P i).map hv).take 1 = [hv (pathE P i 0)] := by
      rw [← List.map_take, hs, List.take_zero]; rfl
    rw [hs'] at hw
    have hpe : pathE P i 0 = (lvl P 0).getD (sib (wid n 0) i) [] := by unfold pathE; rw [ho.len, Nat.pow_zero, Nat.div_one]
    have hq : i < wid n 0 := by rw [wid]; exact hi
    have hwb : wid n 0 ≤ 33 := by rw [wid]; omega
    have hsl := sib_lt hq
    have cw := pc_rWide (n := n) (k := 0) (by omega) (by omega)
    have cn := pc_rNode (nl := nl) ho (by omega) 0 (sib (wid n 0) i) (by omega) hsl
    rw [← hpe] at cn
    have hyl : (pathE P i 0).length = 32 := by rw [hpe]; exact ((ho.lvl 0).get hsl).1
    rw [Nat.pow_one] at hw
    have hdp : 0 < depM n := by omega
    have hdb := dep_small hn
    generalize wid n 0 = w at *
    generalize hqi : i = q at *
    rw [← hqi] at hw ⊢
    have hqd : ((q : Nat) : Int).tdiv 2 = ((q / 2 : Nat) : Int) := by rw [Int.tdiv_eq_ediv_of_nonneg (by omega)]; omega
    rw [hqi] at hw ⊢
    clear hqi
    generalize brPV n q false (depM n) (pathM P q) = res at *
    clear hs hs' hpe ho h0 hd
    generalize pathE P q 0 = y at *
    unfold hL at *
    generalize P.map hv = L at *
    generalize depM n = d at *
    have hq2 : q / 2 ≤ 100 := by omega
    generalize q / 2 = q2 at *
    unfold hv at *
    unfold dsRm zBr at *
    refine W.seg [] [(64, 1), (144, 2)] (DS.mk [(0, PV.vec nl (PV.parr 32 n hsE L)), (1, I6 (q:Int)), (4, PV.at 1 []), (5, PV.at 2 []), (6, I6 (↑(0 : Nat) : Int))] [(1, Row.mk (PV.st 3 [I6 0, I6 0, PV.vec true (PV.parr 32 0 hsE [])]) false), (2, Row.mk (PV.st 3 [I6 (n:Int), I6 (q:Int), PV.vec true (PV.parr 32 0 hsE [])]) false)]) (todo' := loopAt Tryd.f40 0) [rr (PV.vec nl (PV.parr 32 n (Sh.iarr IntKind.u8 32) L)), rr (I6 (q:Int)), rr (PV.at 1 []), rr (PV.at 2 []), I6 0 = I6 (↑(0 : Nat) : Int), rr (PV.st 3 [I6 0, I6 0, PV.vec true (PV.parr 32 0 (Sh.iarr IntKind.u8 32) [])]), rr (PV.st 3 [I6 (n:Int), I6 (q:Int), PV.vec true (PV.parr 32 0 (Sh.iarr IntKind.u8 32) [])])] (by kernel_rfl) (ac rfl (ac rfl (ac rfl (ac rfl (ac (cg (by omega)) (ac rfl (ao rfl))))))) ?_
    by_cases ho1 : q % 2 = 1
    · have hr : (q : Int).tmod 2 = 1 := by rw [Int.tmod_eq_emod_of_nonneg (by omega)]; omega
      have hsb : sib w q = q - 1 := by unfold sib; rw [if_pos ho1]
      have hq1 : ((q - 1 : Nat) : Int) = (q : Int) - 1 := by omega
      rw [hsb, hq1] at cn
      clear hsb hsl
      refine W.seg [(0, aV (I6 0)), (3, aK (I6 (d:Int))), (4, aT), (6, aV (I6 (↑(q + 1) : Int))), (9, aV (I6 1)), (12, aV (I6 ((q:Int) - 1))), (17, aV (I6 0)), (18, aK (I6 (w:Int))), (19, aF), (23, aV (I6 0)), (25, aK (B8 32 y)), (31, aV (I6 (q2:Int))), (33, aV (I6 0)), (34, aV (I6 1))] [(1, 1), (2, 2), (496, 3)] (DS.mk [(0, PV.vec nl (PV.parr 32 n hsE L)), (1, I6 (q2:Int)), (4, PV.at 1 []), (5, PV.at 2 []), (6, I6 (↑(1 : Nat) : Int))] [(1, Row.mk (PV.st 3 [I6 0, I6 0, PV.vec true (PV.parr 32 0 hsE [])]) false), (2, Row.mk (PV.st 3 [I6 (n:Int), I6 (q:Int), PV.ref 3 [] 32 0 1]) false), (3, Row.mk (PV.parr 32 1 hsE [B8 32 y]) false)]) (todo' := loopAt Tryd.f40 0) [I6 (↑(0 : Nat) : Int) = I6 0, PC Tryd.prog G0 31 [] [I6 (n:Int)] [] (I6 (d:Int)), decide (0 < (d:Int)) = true, I6 (IntKind.wrap .i64 ((q:Int) + 1)) = I6 (↑(q + 1) : Int), I6 (Int.tmod (q:Int) (2 : Int)) = I6 1, (2 : Int) ≠ (0 : Int), I6 (IntKind.wrap .i64 ((q:Int) - 1)) = I6 ((q:Int) - 1), I6 (↑(0 : Nat) : Int) = I6 0, PC Tryd.prog G0 54 [] [I6 (n:Int), I6 0] [] (I6 (w:Int)), decide ((q:Int) - 1 ≥ (w:Int)) = false, I6 (↑(0 : Nat) : Int) = I6 0, PC Tryd.prog G0 30 [] [PV.vec nl (PV.parr 32 n (Sh.iarr IntKind.u8 32) L), I6 0, I6 ((q:Int) - 1)] [] (B8 32 y), 1 ≤ 1, 0 < 1, 32 ≤ 140737488355328, 1 ≤ 9223372036854775807, I6 (IntKind.wrap .i64 (Int.tdiv (q:Int) (2 : Int))) = I6 (q2:Int), (2 : Int) ≠ (0 : Int), I6 (↑(0 : Nat) : Int) = I6 0, I6 (IntKind.wrap .i64 ((0 : Int) + (1 : Int))) = I6 1, rr (PV.vec nl (PV.parr 32 n (Sh.iarr IntKind.u8 32) L)), rr (I6 (q2:Int)), rr (PV.at 1 []), rr (PV.at 2 []), I6 1 = I6 (↑(1 : Nat) : Int), rr (PV.st 3 [I6 0, I6 0, PV.vec true (PV.parr 32 0 (Sh.iarr IntKind.u8 32) [])]), rr (PV.st 3 [I6 (n:Int), I6 (q:Int), PV.ref 3 [] 32 0 1]), rr (PV.parr 32 1 (Sh.iarr IntKind.u8 32) [B8 32 y])] (by kernel_rfl) (ac (cg (by omega)) (ac (cd) (ac (decide_eq_true (by omega)) (ac (cg (w_i64 rfl (by omega) (by omega))) (ac (cg (hr)) (ac (by omega) (ac (cg (w_i64 rfl (by omega) (by omega))) (ac (cg (by omega)) (ac (cw) (ac (decide_eq_false (by omega)) (ac (cg (by omega)) (ac (cn) (ac (by omega) (ac (by omega) (ac (by omega) (ac (by omega) (ac (cg (w_i64 hqd (by omega) (by omega))) (ac (by omega) (ac (cg (by omega)) (ac (cg (w_i64 rfl (by omega) (by omega))) (ac rfl (ac rfl (ac rfl (ac rfl (ac (cg (by omega)) (ac rfl (ac rfl (ao rfl)))))))))))))))))))))))))))) ?_
      exact hw
    · have hr : (q : Int).tmod 2 = 0 := by rw [Int.tmod_eq_emod_of_nonneg (by omega)]; omega
      by_cases ho2 : q + 1 < w
      · have hsb : sib w q = q + 1 := by unfold sib; rw [if_neg ho1, if_pos ho2]
        rw [hsb] at cn
        clear hsb hsl
        refine W.seg [(0, aV (I6 0)), (3, aK (I6 (d:Int))), (4, aT), (6, aV (I6 (↑(q + 1) : Int))), (9, aV (I6 0)), (14, aV (I6 0)), (15, aK (I6 (w:Int))), (16, aF), (20, aV (I6 0)), (22, aK (B8 32 y)), (28, aV (I6 (q2:Int))), (30, aV (I6 0)), (31, aV (I6 1))] [(1, 1), (2, 2), (448, 3)] (DS.mk [(0, PV.vec nl (PV.parr 32 n hsE L)), (1, I6 (q2:Int)), (4, PV.at 1 []), (5, PV.at 2 []), (6, I6 (↑(1 : Nat) : Int))] [(1, Row.mk (PV.st 3 [I6 0, I6 0, PV.vec true (PV.parr 32 0 hsE [])]) false), (2, Row.mk (PV.st 3 [I6 (n:Int), I6 (q:Int), PV.ref 3 [] 32 0 1]) false), (3, Row.mk (PV.parr 32 1 hsE [B8 32 y]) false)]) (todo' := loopAt Tryd.f40 0) [I6 (↑(0 : Nat) : Int) = I6 0, PC Tryd.prog G0 31 [] [I6 (n:Int)] [] (I6 (d:Int)), decide (0 < (d:Int)) = true, I6 (IntKind.wrap .i64 ((q:Int) + 1)) = I6 (↑(q + 1) : Int), I6 (Int.tmod (q:Int) (2 : Int)) = I6 0, (2 : Int) ≠ (0 : Int), I6 (↑(0 : Nat) : Int) = I6 0, PC Tryd.prog G0 54 [] [I6 (n:Int), I6 0] [] (I6 (w:Int)), decide ((↑(q + 1) : Int) ≥ (w:Int)) = false, I6 (↑(0 : Nat) : Int) = I6 0, PC Tryd.prog G0 30 [] [PV.vec nl (PV.parr 32 n (Sh.iarr IntKind.u8 32) L), I6 0, I6 (↑(q + 1) : Int)] [] (B8 32 y), 1 ≤ 1, 0 < 1, 32 ≤ 140737488355328, 1 ≤ 9223372036854775807, I6 (IntKind.wrap .i64 (Int.tdiv (q:Int) (2 : Int))) = I6 (q2:Int), (2 : Int) ≠ (0 : Int), I6 (↑(0 : Nat) : Int) = I6 0, I6 (IntKind.wrap .i64 ((0 : Int) + (1 : Int))) = I6 1, rr (PV.vec nl (PV.parr 32 n (Sh.iarr IntKind.u8 32) L)), rr (I6 (q2:Int)), rr (PV.at 1 []), rr (PV.at 2 []), I6 1 = I6 (↑(1 : Nat) : Int), rr (PV.st 3 [I6 0, I6 0, PV.vec true (PV.parr 32 0 (Sh.iarr IntKind.u8 32) [])]), rr (PV.st 3 [I6 (n:Int), I6 (q:Int), PV.ref 3 [] 32 0 1]), rr (PV.parr 32 1 (Sh.iarr IntKind.u8 32) [B8 32 y])] (by kernel_rfl) (ac (cg (by omega)) (ac (cd) (ac (decide_eq_true (by omega)) (ac (cg (w_i64 rfl (by omega) (by omega))) (ac (cg (hr)) (ac (by omega) (ac (cg (by omega)) (ac (cw) (ac (decide_eq_false (by omega)) (ac (cg (by omega)) (ac (cn) (ac (by omega) (ac (by omega) (ac (by omega) (ac (by omega) (ac (cg (w_i64 hqd (by omega) (by omega))) (ac (by omega) (ac (cg (by omega)) (ac (cg (w_i64 rfl (by omega) (by omega))) (ac rfl (ac rfl (ac rfl (ac rfl (ac (cg (by omega)) (ac rfl (ac rfl (ao rfl))))))))))))))))))))))))))) ?_
        exact hw
      · have hsb : sib w q = q := by unfold sib; rw [if_neg ho1, if_neg ho2]
        rw [hsb] at cn
        clear hsb hsl
        refine W.seg [(0, aV (I6 0)), (3, aK (I6 (d:Int))), (4, aT), (6, aV (I6 (↑(q + 1) : Int))), (9, aV (I6 0)), (14, aV (I6 0)), (15, aK (I6 (w:Int))), (16, aT), (22, aV (I6 0)), (24, aK (B8 32 y)), (30, aV (I6 (q2:Int))), (32, aV (I6 0)), (33, aV (I6 1))] [(1, 1), (2, 2), (480, 3)] (DS.mk [(0, PV.vec nl (PV.parr 32 n hsE L)), (1, I6 (q2:Int)), (4, PV.at 1 []), (5, PV.at 2 []), (6, I6 (↑(1 : Nat) : Int))] [(1, Row.mk (PV.st 3 [I6 0, I6 0, PV.vec true (PV.parr 32 0 hsE [])]) false), (2, Row.mk (PV.st 3 [I6 (n:Int), I6 (q:Int), PV.ref 3 [] 32 0 1]) false), (3, Row.mk (PV.parr 32 1 hsE [B8 32 y]) false)]) (todo' := loopAt Tryd.f40 0) [I6 (↑(0 : Nat) : Int) = I6 0, PC Tryd.prog G0 31 [] [I6 (n:Int)] [] (I6 (d:Int)), decide (0 < (d:Int)) = true, I6 (IntKind.wrap .i64 ((q:Int) + 1)) = I6 (↑(q + 1) : Int), I6 (Int.tmod (q:Int) (2 : Int)) = I6 0, (2 : Int) ≠ (0 : Int), I6 (↑(0 : Nat) : Int) = I6 0, PC Tryd.prog G0 54 [] [I6 (n:Int), I6 0] [] (I6 (w:Int)), decide ((↑(q + 1) : Int) ≥ (w:Int)) = true, I6 (↑(0 : Nat) : Int) = I6 0, PC Tryd.prog G0 30 [] [PV.vec nl (PV.parr 32 n (Sh.iarr IntKind.u8 32) L), I6 0, I6 (q:Int)] [] (B8 32 y), 1 ≤ 1, 0 < 1, 32 ≤ 140737488355328, 1 ≤ 9223372036854775807, I6 (IntKind.wrap .i64 (Int.tdiv (q:Int) (2 : Int))) = I6 (q2:Int), (2 : Int) ≠ (0 : Int), I6 (↑(0 : Nat) : Int) = I6 0, I6 (IntKind.wrap .i64 ((0 : Int) + (1 : Int))) = I6 1, rr (PV.vec nl (PV.parr 32 n (Sh.iarr IntKind.u8 32) L)), rr (I6 (q2:Int)), rr (PV.at 1 []), rr (PV.at 2 []), I6 1 = I6 (↑(1 : Nat) : Int), rr (PV.st 3 [I6 0, I6 0, PV.vec true (PV.parr 32 0 (Sh.iarr IntKind.u8 32) [])]), rr (PV.st 3 [I6 (n:Int), I6 (q:Int), PV.ref 3 [] 32 0 1]), rr (PV.parr 32 1 (Sh.iarr IntKind.u8 32) [B8 32 y])] (by kernel_rfl) (ac (cg (by omega)) (ac (cd) (ac (decide_eq_true (by omega)) (ac (cg (w_i64 rfl (by omega) (by omega))) (ac (cg (hr)) (ac (by omega) (ac (cg (by omega)) (ac (cw) (ac (decide_eq_true (by omega)) (ac (cg (by omega)) (ac (cn) (ac (by omega) (ac (by omega) (ac (by omega) (ac (by omega) (ac (cg (w_i64 hqd (by omega) (by omega))) (ac (by omega) (ac (cg (by omega)) (ac (cg (w_i64 rfl (by omega) (by omega))) (ac rfl (ac rfl (ac rfl (ac rfl (ac (cg (by omega)) (ac rfl (ac rfl (ao rfl))))))))))))))))))))))))))) ?_
        exact hw
end Go.Proofs
namespace Go.Proofs
open Go Go.Pe Go.Pm
set_option maxRecDepth 100000
set_option linter.unusedVariables false
/-- the document's branch -/
def dsBr (nl : Bool) (n : Nat) (M M2 : List PV) (i : Nat) : DS := ⟨[(3, .ref 1 [] 32 0 i), (6, .vec nl (.parr 32 n hsE M)), (7, .int .i64 n), (8, .int .i64 i)], [(1, ⟨.parr 32 i hsE M2, false⟩)]⟩
theorem hv_take {P : List (List Int)} {i : Nat} (h : i < P.length) : (P.map hv).take (i + 1) = (P.map hv).take i ++ [hv (P.getD i [])] := by
  rw [List.take_add_one]
  congr 1
  simp [List.getD_eq_getElem?_getD, h]
theorem W_refs {nl : Bool} {n : Nat} {P : List (List Int)} (ho : HsOk P n) (hn : n ≤ 100000) : ∀ (k i : Nat), i + k = n → 0 < i →
    W Tryd.prog G0 Tryd.f65 [] [] (.vec (decide (n = 0)) (hL n P)) (loopAt Tryd.f65 0) (dsBr nl n (P.map hv) ((P.map hv).take i) i)
  | 0, i, hk, h0 => by
    have hi : i = n := by omega
    subst hi
    have e : (P.map hv).take i = P.map hv := List.take_of_length_le (by rw [List.length_map, ho.len]; omega)
    rw [e]
    have hl : (P.map hv).length = i := by rw [List.length_map, ho.len]
    have hd : decide (i = 0) = false := decide_eq_false (by omega)
    unfold hL
    rw [hd]
    generalize P.map hv = M at *
    unfold dsBr
    refine W.ret [(0, aF)] [] [decide ((i:Int) < (i:Int)) = false, 0 + i ≤ i, PV.vec false (PV.parr 32 i (Sh.iarr IntKind.u8 32) (List.take i M)) = PV.vec false (PV.parr 32 i (Sh.iarr IntKind.u8 32) M)] (by kernel_rfl) (ac (decide_eq_false (by omega)) (ac (by omega) (ao (by (simp; omega)))))
  | k + 1, i, hk, h0 => by
    have hi : i < n := by omega
    have hlt : i < P.length := by rw [ho.len]; exact hi
    have g := hv_get hlt
    have hw := W_refs (nl := nl) ho hn k (i + 1) (by omega) (by omega)
    rw [hv_take hlt] at hw
    obtain ⟨hy, bY⟩ := ho.get hi
    have hl : ((P.map hv).take i).length = i := by rw [List.length_take, List.length_map, ho.len]; omega
    generalize P.getD i [] = y at *
    generalize hM2 : (P.map hv).take i = M2 at *
    clear hM2
    generalize PV.vec (decide (n = 0)) (hL n P) = res at *
    generalize P.map hv = M at *
    unfold hv at *
    unfold dsBr at *
    refine W.seg [(0, aT), (2, aV (B8 32 y)), (8, Ans.ups [(1, none), (192, some (Row.mk (PV.parr 32 (i + 1) (Sh.iarr IntKind.u8 32) (M2 ++ [B8 32 y])) false))]), (10, aV (I6 (↑(i + 1) : Int)))] [(192, 1)] (DS.mk [(3, PV.ref 1 [] 32 0 (i + 1)), (6, PV.vec nl (PV.parr 32 n hsE M)), (7, I6 (n:Int)), (8, I6 (↑(i + 1) : Int))] [(1, Row.mk (PV.parr 32 (i + 1) hsE (M2 ++ [B8 32 y])) false)]) (todo' := loopAt Tryd.f65 0) [decide ((i:Int) < (n:Int)) = true, 0 ≤ (i:Int), (i:Int) < (n:Int), B8 32 (PV.nums (List.getD M i PV.undef)) = B8 32 y, i < n, ([(1, none), (192, some (Row.mk (PV.parr 32 (i + 1) (Sh.iarr IntKind.u8 32) (List.take i M2 ++ [B8 32 y])) false))] : List (Nat × Option Row)) = [(1, none), (192, some (Row.mk (PV.parr 32 (i + 1) (Sh.iarr IntKind.u8 32) (M2 ++ [B8 32 y])) false))], 1 ≤ 1, 0 + i = i, (i + 1) * 32 ≤ 140737488355328, i + 1 ≤ 9223372036854775807, I6 (IntKind.wrap .i64 ((i:Int) + 1)) = I6 (↑(i + 1) : Int), rr (PV.ref 1 [] 32 0 (i + 1)), rr (PV.vec nl (PV.parr 32 n (Sh.iarr IntKind.u8 32) M)), rr (I6 (n:Int)), rr (I6 (↑(i + 1) : Int)), rr (PV.parr 32 (i + 1) (Sh.iarr IntKind.u8 32) (M2 ++ [B8 32 y]))] (by kernel_rfl) (ac (decide_eq_true (by omega)) (ac (by omega) (ac (by omega) (ac (by (rw [g]; rfl)) (ac (by omega) (ac (by rw [List.take_of_length_le (show List.length M2 ≤ i by omega)]) (ac (by omega) (ac (by omega) (ac (by omega) (ac (by omega) (ac (cg (w_i64 rfl (by omega) (by omega))) (ac rfl (ac rfl (ac rfl (ac rfl (ao rfl)))))))))))))))) ?_
    exact hw
theorem pc_refs {nl : Bool} {n : Nat} {P : List (List Int)} (ho : HsOk P n) (hn : n ≤ 100000) : PC Tryd.prog G0 65 [] [.vec nl (hL n P)] [] (.vec (decide (n = 0)) (hL n P)) := by
  refine PC.of (fn := Tryd.f65) (c := bodyOf Tryd.f65) Tryd.func65 (by kernel_rfl) (by kernel_rfl) (by kernel_rfl) (by kernel_rfl) ?_
  by_cases h0 : n = 0
  · subst h0
    have hP : P = [] := List.eq_nil_of_length_eq_zero ho.len
    subst hP
    show W _ _ _ _ _ (.vec true (.parr 32 0 hsE [])) _ _
    unfold hL
    rw [List.map_nil]
    refine W.seg [(3, aV (I6 0))] [] (DS.mk [(3, PV.vec true (PV.parr 32 0 hsE [])), (6, PV.vec nl (PV.parr 32 0 hsE [])), (7, I6 0), (8, I6 0)] []) (todo' := loopAt Tryd.f65 0) [I6 (↑(0 : Nat) : Int) = I6 0, rr (PV.vec true (PV.parr 32 0 (Sh.iarr IntKind.u8 32) [])), rr (PV.vec nl (PV.parr 32 0 (Sh.iarr IntKind.u8 32) [])), rr (I6 0), rr (I6 0)] (by kernel_rfl) (ac (cg (by omega)) (ac rfl (ac rfl (ac rfl (ao rfl))))) ?_
    refine W.ret [] [] [rr (PV.vec true (PV.parr 32 0 (Sh.iarr IntKind.u8 32) []))] (by kernel_rfl) (ao rfl)
  · have hlt : 0 < P.length := by rw [ho.len]; omega
    have g := hv_get hlt
    obtain ⟨hy, bY⟩ := ho.get (i := 0) (by omega)
    have hw := W_refs (nl := nl) ho hn (n - 1) 1 (by omega) (by omega)
    have hs := hv_take hlt
    rw [List.take_zero, List.nil_append] at hs
    rw [hs] at hw
    have hn0 : 0 < n := by omega
    clear hs h0
    generalize PV.vec (decide (n = 0)) (hL n P) = res at *
    unfold hL at *
    generalize P.getD 0 [] = y at *
    generalize P.map hv = M at *
    unfold hv at *
    unfold dsBr at *
    refine W.seg [] [] (DS.mk [(3, PV.vec true (PV.parr 32 0 hsE [])), (6, PV.vec nl (PV.parr 32 n hsE M)), (7, I6 (n:Int)), (8, I6 0)] []) (todo' := loopAt Tryd.f65 0) [rr (PV.vec true (PV.parr 32 0 (Sh.iarr IntKind.u8 32) [])), rr (PV.vec nl (PV.parr 32 n (Sh.iarr IntKind.u8 32) M)), rr (I6 (n:Int)), rr (I6 0)] (by kernel_rfl) (ac rfl (ac rfl (ac rfl (ao rfl)))) ?_
    refine W.seg [(0, aT), (2, aV (B8 32 y)), (10, aV (I6 1))] [(192, 1)] (DS.mk [(3, PV.ref 1 [] 32 0 1), (6, PV.vec nl (PV.parr 32 n hsE M)), (7, I6 (n:Int)), (8, I6 (↑(1 : Nat) : Int))] [(1, Row.mk (PV.parr 32 1 hsE [B8 32 y]) false)]) (todo' := loopAt Tryd.f65 0) [decide (0 < (n:Int)) = true, (0 : Int) ≤ (0 : Int), 0 < (n:Int), B8 32 (PV.nums (List.getD M 0 PV.undef)) = B8 32 y, 0 < n, 1 ≤ 1, 0 < 1, 32 ≤ 140737488355328, 1 ≤ 9223372036854775807, I6 (IntKind.wrap .i64 ((0 : Int) + (1 : Int))) = I6 1, rr (PV.ref 1 [] 32 0 1), rr (PV.vec nl (PV.parr 32 n (Sh.iarr IntKind.u8 32) M)), rr (I6 (n:Int)), I6 1 = I6 (↑(1 : Nat) : Int), rr (PV.parr 32 1 (Sh.iarr IntKind.u8 32) [B8 32 y])] (by kernel_rfl) (ac (decide_eq_true (by omega)) (ac (by omega) (ac (by omega) (ac (by (rw [g]; rfl)) (ac (by omega) (ac (by omega) (ac (by omega) (ac (by omega) (ac (by omega) (ac (cg (w_i64 rfl (by omega) (by omega))) (ac rfl (ac rfl (ac rfl (ac (cg (by omega)) (ao rfl))))))))))))))) ?_
    exact hw
theorem pc_lawBranch {c i : Int} {nl : Bool} {n : Nat} {P : List (List Int)} (ho : HsOk P n) (hn : n ≤ 100000) : PC Tryd.prog G0 37 [] [brPV c i nl n P] [] (brPV c i (decide (n = 0)) n P) := by
  refine PC.of (fn := Tryd.f37) (c := bodyOf Tryd.f37) Tryd.func37 (by kernel_rfl) (by kernel_rfl) (by kernel_rfl) (by kernel_rfl) ?_
  have c1 := pc_refs (nl := nl) ho hn
  unfold brPV hL at *
  generalize P.map hv = M at *
  generalize decide (n = 0) = nn at *
  refine W.ret [(8, Ans.call false [] [] (PV.vec nn (PV.parr 32 n (Sh.iarr IntKind.u8 32) M)))] [] [PC Tryd.prog G0 65 [] [PV.vec nl (PV.parr 32 n (Sh.iarr IntKind.u8 32) M)] [] (PV.vec nn (PV.parr 32 n (Sh.iarr IntKind.u8 32) M)), rr (PV.st 3 [I6 c, I6 i, PV.vec nn (PV.parr 32 n (Sh.iarr IntKind.u8 32) M)])] (by kernel_rfl) (ac (c1) (ao rfl))
/-- an entry -/
def enPV (tn : Bool) (N : Nat) (b : List Int) (c i : Int) (nl : Bool) (n : Nat) (P : List (List Int)) : PV := .st 4 [.vec tn (.iarr .u8 N b), brPV c i nl n P]
def renPV (b : List Int) (c i : Int) (nl : Bool) (n : Nat) (P : List (List Int)) : PV := .st 4 [.str (strOf b), brPV c i nl n P]
theorem pc_lawEntry {tn : Bool} {N : Nat} {b : List Int} {c i : Int} {nl : Bool} {n : Nat} {P : List (List Int)} (hb : b.length = N) (hN : N ≤ 1000000) (ho : HsOk P n) (hn : n ≤ 100000) : PC Tryd.prog G0 19 [] [enPV tn N b c i nl n P] [] (renPV b c i (decide (n = 0)) n P) := by
  refine PC.of (fn := Tryd.f19) (c := bodyOf Tryd.f19) Tryd.func19 (by kernel_rfl) (by kernel_rfl) (by kernel_rfl) (by kernel_rfl) ?_
  have c1 := pc_lawBranch (c := c) (i := i) (nl := nl) ho hn
  unfold enPV renPV
  unfold brPV hL at *
  generalize P.map hv = M at *
  generalize decide (n = 0) = nn at *
  refine W.ret [(7, Ans.call false [] [] (PV.st 3 [I6 c, I6 i, PV.vec nn (PV.parr 32 n (Sh.iarr IntKind.u8 32) M)]))] [] [PC Tryd.prog G0 37 [] [PV.st 3 [I6 c, I6 i, PV.vec nl (PV.parr 32 n (Sh.iarr IntKind.u8 32) M)]] [] (PV.st 3 [I6 c, I6 i, PV.vec nn (PV.parr 32 n (Sh.iarr IntKind.u8 32) M)]), rr (PV.st 4 [PV.str (strOf b), PV.st 3 [I6 c, I6 i, PV.vec nn (PV.parr 32 n (Sh.iarr IntKind.u8 32) M)]])] (by kernel_rfl) (ac (c1) (ao rfl))
/-- what is wrong with an entry -/
def enE (b : List Int) (c i : Int) (P : List (List Int)) (root it : List Int) : Nat := if txE b = 0 then (if paysB (txOuts b) it then bchE c i P root (dsha b) else 6) else txE b
theorem txOuts_facts {N : Nat} {b : List Int} (hl : b.length = N) (hb : Bytes b) (hN : N ≤ 1000000) : (txOuts b).length ≤ 1000000 ∧ OutsOk (txOuts b) := by
  have hr : (txR3 b).In b N := (((⟨hl, by show b.length ≤ N; omega, by show b = b.drop (N - b.length); rw [hl, Nat.sub_self]; rfl, hb⟩ : (Rd.mk b 0).In b N).tk 1).tk 8).var 8
  exact ⟨by unfold txOuts; rw [outsM_length]; have := Rd.vn_le (txR2 b) 8; unfold txN; omega, outsM_ok _ _ hr⟩
theorem pc_proves {tn il : Bool} {N m : Nat} {b it : List Int} {c i : Int} {nl : Bool} {n : Nat} {P : List (List Int)} {h : Hd} (hb : BsOk (tn, N, b)) (hN : N ≤ 1000000) (htn : tn = true → N = 0) (ho : HsOk P n) (hn : n ≤ 100) (hr : h.root.length = 32) (hit : it.length = m) (bit : Bytes it) :
    PC Tryd.prog G0 17 [] [enPV tn N b c i nl n P, h.pv, .vec il (.iarr .u8 m it)] [] (.int .i64 (enE b c i P h.root it)) := by
  refine PC.of (fn := Tryd.f17) (c := bodyOf Tryd.f17) Tryd.func17 (by kernel_rfl) (by kernel_rfl) (by kernel_rfl) (by kernel_rfl) ?_
  have c1 := pc_parse (nl := tn) hb.1 hb.2 hN htn
  have c2 := pc_txId hb hN
  have c3 := pc_bcheck (c := c) (i := i) (nl := nl) (root := h.root) (x := dsha b) ho hn (sha_length _) (sha_bytes _) hr
  unfold enE enPV Hd.pv
  have hle := txE_le b
  by_cases h0 : txE b = 0
  · rw [if_pos h0]
    obtain ⟨f1, f2⟩ := txOuts_facts hb.1 hb.2 hN
    have c4 := pc_pays (nl := (txOuts b).isEmpty) (il := il) (s := txSalt b) (L := txOuts b) (n := (txOuts b).length) rfl f1 f2 hit bit
    unfold txP txRes at c1
    rw [if_pos h0, h0, outsPV_eq] at c1
    unfold brPV hL at *
    generalize P.map hv = M at *
    generalize (txOuts b).map outPV = M2 at *
    generalize (txOuts b).isEmpty = oe at *
    generalize (txOuts b).length = on at *
    generalize txSalt b = salt at *
    generalize dsha b = id at *
    by_cases hp : paysB (txOuts b) it = true
    · rw [if_pos hp]
      rw [hp] at c4
      generalize bchE c i P h.root id = e at *
      refine W.ret [(5, Ans.call false [] [] (PV.tup [PV.st 2 [U6 (salt:Int), PV.vec oe (PV.parr 2 on (Sh.st 2 [Sh.int IntKind.u64, Sh.vec 1 (Sh.int IntKind.u8)]) M2)], I6 (↑(0 : Nat) : Int)])), (8, aV (I6 0)), (17, aK (PV.bool true)), (26, aK (B8 32 id)), (27, aK (I6 (e:Int)))] [] [PC Tryd.prog G0 32 [] [PV.vec tn (B8 N b)] [] (PV.tup [PV.st 2 [U6 (salt:Int), PV.vec oe (PV.parr 2 on (Sh.st 2 [Sh.int IntKind.u64, Sh.vec 1 (Sh.int IntKind.u8)]) M2)], I6 (↑(0 : Nat) : Int)]), I6 (↑(0 : Nat) : Int) = I6 0, PC Tryd.prog G0 33 [] [PV.st 2 [U6 (salt:Int), PV.vec oe (PV.parr 2 on (Sh.st 2 [Sh.int IntKind.u64, Sh.vec 1 (Sh.int IntKind.u8)]) M2)], PV.vec il (B8 m it)] [] (PV.bool true), PC Tryd.prog G0 23 [] [PV.vec tn (B8 N b)] [] (B8 32 id), PC Tryd.prog G0 34 [] [PV.st 3 [I6 c, I6 i, PV.vec nl (PV.parr 32 n (Sh.iarr IntKind.u8 32) M)], B8 32 (Hd.root h), B8 32 id] [] (I6 (e:Int)), rr (I6 (e:Int))] (by kernel_rfl) (ac (c1) (ac (cg (by omega)) (ac (c4) (ac (c2) (ac (c3) (ao rfl))))))
    · rw [if_neg hp]
      have hp' : paysB (txOuts b) it = false := by simpa using hp
      rw [hp'] at c4
      refine W.ret [(5, Ans.call false [] [] (PV.tup [PV.st 2 [U6 (salt:Int), PV.vec oe (PV.parr 2 on (Sh.st 2 [Sh.int IntKind.u64, Sh.vec 1 (Sh.int IntKind.u8)]) M2)], I6 (↑(0 : Nat) : Int)])), (8, aV (I6 0)), (17, aK (PV.bool false))] [] [PC Tryd.prog G0 32 [] [PV.vec tn (B8 N b)] [] (PV.tup [PV.st 2 [U6 (salt:Int), PV.vec oe (PV.parr 2 on (Sh.st 2 [Sh.int IntKind.u64, Sh.vec 1 (Sh.int IntKind.u8)]) M2)], I6 (↑(0 : Nat) : Int)]), I6 (↑(0 : Nat) : Int) = I6 0, PC Tryd.prog G0 33 [] [PV.st 2 [U6 (salt:Int), PV.vec oe (PV.parr 2 on (Sh.st 2 [Sh.int IntKind.u64, Sh.vec 1 (Sh.int IntKind.u8)]) M2)], PV.vec il (B8 m it)] [] (PV.bool false), I6 6 = I6 (↑(6 : Nat) : Int)] (by kernel_rfl) (ac (c1) (ac (cg (by omega)) (ac (c4) (ao (cg (by omega))))))
  · rw [if_neg h0]
    obtain ⟨s, o, mm, M, hf⟩ := txP_form b
    rw [hf] at c1
    have hne : ¬ ((txE b : Int) = 0) := by omega
    generalize txE b = e at *
    unfold brPV hL at *
    generalize P.map hv = M3 at *
    refine W.ret [(5, Ans.call false [] [] (PV.tup [PV.st 2 [U6 (s:Int), PV.vec o (PV.parr 2 mm (Sh.st 2 [Sh.int IntKind.u64, Sh.vec 1 (Sh.int IntKind.u8)]) M)], I6 (e:Int)])), (13, aT)] [] [PC Tryd.prog G0 32 [] [PV.vec tn (B8 N b)] [] (PV.tup [PV.st 2 [U6 (s:Int), PV.vec o (PV.parr 2 mm (Sh.st 2 [Sh.int IntKind.u64, Sh.vec 1 (Sh.int IntKind.u8)]) M)], I6 (e:Int)]), ((e:Int) != 0) = true, rr (I6 (e:Int))] (by kernel_rfl) (ac (c1) (ac (bne_iff_ne.2 (by omega)) (ao rfl)))
end Go.Proofs
namespace Go.Proofs
open Go Go.Pe Go.Pm
set_option maxRecDepth 100000
set_option linter.unusedVariables false
def brsh : Sh := .st 3 [.int .i64, .int .i64, .vec 32 hsE]
def ensh : Sh := .st 4 [.vec 1 (.int .u8), brsh]
end Go.Proofs
namespace Go.Pe
def skipB (_P : Program) (nt : Nat) (t : List Item) (d : DS) : Bool := match (rgOps t)[rgJ t]? with
  | some o => (match wantP (rgOps t) o d.st.fr with
    | some false => dstB nt (rgOps t)
    | _ => false)
  | none => false
theorem WH.skipAt {P : Program} {G : Nat → Option PV} {fn : Func} {pins : List Nat} {H : Host} {n : Nat} {d : DS} (ht : stopIn fn n = .inRegion (rgOps (stopIn fn n)) (rgJ (stopIn fn n) :: rgRest (stopIn fn n)) :: rgK (stopIn fn n)) (hs : skipB P fn.ntmps (stopIn fn n) d = true)
    (hw : WH P G fn pins H (.inRegion (rgOps (stopIn fn n)) (rgRest (stopIn fn n)) :: rgK (stopIn fn n)) ⟨putF d.fr (rgDst (stopIn fn n)) (.tup []), d.hp⟩) : WH P G fn pins H (stopIn fn n) d := by
  rw [ht]
  unfold skipB at hs
  split at hs
  · rename_i o ho
    split at hs
    · rename_i hwant
      refine WH.skip ho hwant hs ?_
      have e : rgDst (stopIn fn n) = o.dst := by simp [rgDst, ho]
      rw [← e]
      exact hw
    · cases hs
  · cases hs
end Go.Pe
namespace Go.Proofs
open Go Go.Pe Go.Pm
set_option maxRecDepth 100000
set_option linter.unusedVariables false
/-- the transactions that pay to an item, and where they stand -/
def entsM (it : List Int) : Nat → List TxM → List (Nat × TxM)
  | _, [] => []
  | i, x :: l => if paysT x.2.2 it = true then (i, x) :: entsM it (i + 1) l else entsM it (i + 1) l
def entPV (n : Nat) (P : List (List Int)) (e : Nat × TxM) : PV := enPV e.2.1 e.2.2.1 e.2.2.2 n e.1 (decide (depM n = 0)) (depM n) (pathM P e.1)
def resE (M : List PV) : PV := .vec M.isEmpty (.parr 4 M.length ensh M)
def rE0 (h : Hd) (nl : Bool) (n : Nat) (T : List PV) (il : Bool) (m : Nat) (it : List Int) (I : List PV) : List (Nat × Row) := [(1, ⟨.st 69 [.st 68 [.int .u32 h.ver, .iarr .u8 32 h.prev, .iarr .u8 32 h.root, .int .u32 h.time, .int .u32 h.bits, .int .u32 h.nonce], .vec nl (.parr 1 n bsh T)], false⟩), (2, ⟨.vec il (.iarr .u8 m it), false⟩), (3, ⟨.vec false (.parr 32 n hsE I), false⟩), (4, ⟨.vec true (.parr 4 0 ensh []), false⟩)]
def rE1 (h : Hd) (nl : Bool) (n : Nat) (T : List PV) (il : Bool) (m : Nat) (it : List Int) (I : List PV) (k : Nat) (M : List PV) : List (Nat × Row) := [(1, ⟨.st 69 [.st 68 [.int .u32 h.ver, .iarr .u8 32 h.prev, .iarr .u8 32 h.root, .int .u32 h.time, .int .u32 h.bits, .int .u32 h.nonce], .vec nl (.parr 1 n bsh T)], false⟩), (2, ⟨.vec il (.iarr .u8 m it), false⟩), (3, ⟨.vec false (.parr 32 n hsE I), false⟩), (4, ⟨.ref 5 [] 4 0 (k), false⟩), (5, ⟨.parr 4 (k) ensh (M), false⟩)]
def rE (h : Hd) (nl : Bool) (n : Nat) (T : List PV) (il : Bool) (m : Nat) (it : List Int) (I : List PV) (k : Nat) (M : List PV) : List (Nat × Row) := match k with
  | 0 => rE0 h nl n T il m it I
  | k + 1 => rE1 h nl n T il m it I (k + 1) M
def frEnt : List (Nat × PV) := [(2, .at 1 []), (3, .at 2 []), (5, .at 3 []), (6, .at 4 [])]
theorem W_entEnd {h : Hd} {nl : Bool} {n : Nat} {T : List PV} {il : Bool} {m : Nat} {it : List Int} {I : List PV} {k : Nat} {M : List PV} (hM : M.length = k) : WM Tryd.prog G0 Tryd.f20 [] [] (resE M) (rgK (stopIn Tryd.f20 0)) ⟨frEnt, rE h nl n T il m it I k M⟩ := by
  rcases k with _ | k
  · obtain rfl := List.eq_nil_of_length_eq_zero hM
    show WM _ _ _ _ _ (.vec true (.parr 4 0 ensh [])) _ ⟨_, rE0 h nl n T il m it I⟩
    unfold frEnt rE0
    refine WM.ret [] [] [rr (PV.vec true (PV.parr 4 0 (Sh.st 4 [Sh.vec 1 (Sh.int IntKind.u8), Sh.st 3 [Sh.int IntKind.i64, Sh.int IntKind.i64, Sh.vec 32 (Sh.iarr IntKind.u8 32)]]) []))] (by kernel_rfl) (ao rfl)
  · have hE : M.isEmpty = false := by cases M with | nil => simp at hM | cons => rfl
    show WM _ _ _ _ _ (.vec M.isEmpty (.parr 4 M.length ensh M)) _ ⟨_, rE1 h nl n T il m it I (k + 1) M⟩
    rw [hE, hM]
    have ht : M.take (k + 1) = M := List.take_of_length_le (by omega)
    unfold frEnt rE1
    refine WM.ret [] [] [0 + (k + 1) ≤ k + 1, PV.vec false (PV.parr 4 (k + 1) (Sh.st 4 [Sh.vec 1 (Sh.int IntKind.u8), Sh.st 3 [Sh.int IntKind.i64, Sh.int IntKind.i64, Sh.vec 32 (Sh.iarr IntKind.u8 32)]]) (List.take (k + 1) M)) = PV.vec false (PV.parr 4 (k + 1) (Sh.st 4 [Sh.vec 1 (Sh.int IntKind.u8), Sh.st 3 [Sh.int IntKind.i64, Sh.int IntKind.i64, Sh.vec 32 (Sh.iarr IntKind.u8 32)]]) M)] (by kernel_rfl) (ac (by omega) (ao (by (simp; omega))))
theorem W_entRound {y : Nat} {res : PV} {h : Hd} {nl : Bool} {n : Nat} {T : List PV} {il : Bool} {m : Nat} {it : List Int} {P : List (List Int)} {k : Nat} {M : List PV} {i : Nat} {x : TxM} {salt : Nat} {oe : Bool} {O : List OutM}
    (hM : M.length = k) (hk : k ≤ 100) (hi : i < n) (hn : n ≤ 16) (ho : HsOk P n) (hOk : O.length ≤ 1000000 ∧ OutsOk O) (g : T.getD i .undef = bsPV x) (hx : BsOk x) (hnl : x.1 = true → x.2.1 = 0) (hN : x.2.1 ≤ 1000000) (hit : it.length = m) (bit : Bytes it)
    (hw1 : paysB O it = true → WH Tryd.prog G0 Tryd.f38 [1, 2, 3, 4] (HIter (rangeOf Tryd.f20 0 [] res [] frEnt 38) y .ready none) (.inRegion (rgOps (stopIn Tryd.f38 0)) (rgRest (stopIn Tryd.f38 0)) :: rgK (stopIn Tryd.f38 0)) ⟨[(1, yv y), (9, .vec nl (.parr 1 n bsh T)), (10, .int .i64 n), (11, .int .i64 i), (23, .bool true), (27, .bool true)], rE h nl n T il m it (P.map hv) (k + 1) (M ++ [entPV n P (i, x)])⟩)
    (hw2 : paysB O it = false → WH Tryd.prog G0 Tryd.f38 [1, 2, 3, 4] (HIter (rangeOf Tryd.f20 0 [] res [] frEnt 38) y .ready none) (.inRegion (rgOps (stopIn Tryd.f38 0)) (rgRest (stopIn Tryd.f38 0)) :: rgK (stopIn Tryd.f38 0)) ⟨[(1, yv y), (9, .vec nl (.parr 1 n bsh T)), (10, .int .i64 n), (11, .int .i64 i), (23, .bool true), (27, .bool true)], rE h nl n T il m it (P.map hv) k M⟩) :
    WH Tryd.prog G0 Tryd.f38 [1, 2, 3, 4] (HIter (rangeOf Tryd.f20 0 [] res [] frEnt 38) y .ready none) (stopIn Tryd.f38 0) ⟨[(1, yv y), (9, .vec nl (.parr 1 n bsh T)), (10, .int .i64 n), (11, .int .i64 i), (23, .bool true), (24, yv y), (25, .int .i64 i), (26, .st 2 [.int .u64 salt, .vec oe (.parr 2 O.length osh (O.map outPV))])], rE h nl n T il m it (P.map hv) k M⟩ := by
  obtain ⟨xnl, xN, xb⟩ := x
  dsimp only at hN hnl
  have hxl := hx.1
  dsimp only at hxl
  change _ = PV.vec xnl (.iarr .u8 xN xb) at g
  have c1 := pc_pays (nl := oe) (il := il) (s := salt) (L := O) (n := O.length) rfl hOk.1 hOk.2 hit bit
  have c2 := pc_bmake (nl := false) ho (by omega) hi
  have c3 := pc_cloneV (nl := xnl) (n := xN) (by omega) hxl hnl
  change (_ → WH _ _ _ _ _ _ ⟨_, rE h nl n T il m it (P.map hv) (k + 1) (M ++ [PV.st 4 [.vec xnl (.iarr .u8 xN xb), brPV n i (decide (depM n = 0)) (depM n) (pathM P i)]])⟩) at hw1
  unfold brPV hL at *
  generalize (pathM P i).map hv = B at *
  generalize decide (depM n = 0) = bz at *
  generalize depM n = dp at *
  generalize paysB O it = pb at *
  generalize O.map outPV = OM at *
  generalize O.length = on at *
  generalize P.map hv = I at *
  clear hOk ho
  refine WH.yieldAt (args := [.int .i64 i, .st 2 [.int .u64 salt, .vec oe (.parr 2 on osh OM)]]) (pinsR := [1, 2, 3, 4]) (frI := [(1, yv y), (9, .vec nl (.parr 1 n bsh T)), (10, .int .i64 n), (11, .int .i64 i), (23, .bool true)]) (by kernel_rfl) (by kernel_rfl) (by kernel_rfl) (by kernel_rfl) (by kernel_rfl) (SlotsIn.ofL ⟨rfl, rfl, rfl, rfl, rfl, trivial⟩) ?_
  show WH _ _ Tryd.f20 [1, 2, 3, 4] _ _ (⟨[(2, .at 1 []), (3, .at 2 []), (5, .at 3 []), (6, .at 4 []), (19, .int .i64 i), (20, .st 2 [.int .u64 salt, .vec oe (.parr 2 on osh OM)])], rE h nl n T il m it I k M⟩)
  rcases k with _ | k
  · obtain rfl := List.eq_nil_of_length_eq_zero hM
    change (_ → WH _ _ _ _ _ _ ⟨_, rE0 h nl n T il m it I⟩) at hw2
    change (_ → WH _ _ _ _ _ _ ⟨_, rE1 h nl n T il m it I 1 [_]⟩) at hw1
    show WH _ _ _ _ _ _ ⟨_, rE0 h nl n T il m it I⟩
    unfold rE0 rE1 at *
    refine WH.seg [] [(1, 1), (2, 2), (3, 3), (4, 4), (80, 6)] (DS.mk [(2, PV.at 1 []), (3, PV.at 2 []), (5, PV.at 3 []), (6, PV.at 4 []), (7, I6 (i:Int)), (8, PV.at 6 [])] [(1, Row.mk (PV.st 69 [Hd.pv h, PV.vec nl (PV.parr 1 n bsh T)]) false), (2, Row.mk (PV.vec il (B8 m it)) false), (3, Row.mk (PV.vec false (PV.parr 32 n hsE I)) false), (4, Row.mk (PV.vec true (PV.parr 4 0 ensh [])) false), (6, Row.mk (PV.st 2 [U6 (salt:Int), PV.vec oe (PV.parr 2 on osh OM)]) false)]) (todo' := [Item.beginRound, Item.code (rgBody (stopIn Tryd.f20 0))]) [rr (PV.at 1 []), rr (PV.at 2 []), rr (PV.at 3 []), rr (PV.at 4 []), rr (I6 (i:Int)), rr (PV.at 6 []), rr (PV.st 69 [Hd.pv h, PV.vec nl (PV.parr 1 n (Sh.vec 1 (Sh.int IntKind.u8)) T)]), rr (PV.vec il (B8 m it)), rr (PV.vec false (PV.parr 32 n (Sh.iarr IntKind.u8 32) I)), rr (PV.vec true (PV.parr 4 0 (Sh.st 4 [Sh.vec 1 (Sh.int IntKind.u8), Sh.st 3 [Sh.int IntKind.i64, Sh.int IntKind.i64, Sh.vec 32 (Sh.iarr IntKind.u8 32)]]) [])), rr (PV.st 2 [U6 (salt:Int), PV.vec oe (PV.parr 2 on (Sh.st 2 [Sh.int IntKind.u64, Sh.vec 1 (Sh.int IntKind.u8)]) OM)])] (by kernel_rfl) (ac rfl (ac rfl (ac rfl (ac rfl (ac rfl (ac rfl (ac rfl (ac rfl (ac rfl (ac rfl (ao rfl))))))))))) ?_
    refine WH.begin ?_
    rcases pb with _ | _
    · have hw := hw2 rfl
      clear hw1 hw2
      refine WH.seg [(2, aK (PV.bool false))] [(1, 1), (2, 2), (3, 3), (4, 4)] (DS.mk [] [(1, Row.mk (PV.st 69 [Hd.pv h, PV.vec nl (PV.parr 1 n bsh T)]) false), (2, Row.mk (PV.vec il (B8 m it)) false), (3, Row.mk (PV.vec false (PV.parr 32 n hsE I)) false), (4, Row.mk (PV.vec true (PV.parr 4 0 ensh [])) false)]) (todo' := []) [PC Tryd.prog G0 33 [] [PV.st 2 [U6 (salt:Int), PV.vec oe (PV.parr 2 on (Sh.st 2 [Sh.int IntKind.u64, Sh.vec 1 (Sh.int IntKind.u8)]) OM)], PV.vec il (B8 m it)] [] (PV.bool false), rr (PV.st 69 [Hd.pv h, PV.vec nl (PV.parr 1 n (Sh.vec 1 (Sh.int IntKind.u8)) T)]), rr (PV.vec il (B8 m it)), rr (PV.vec false (PV.parr 32 n (Sh.iarr IntKind.u8 32) I)), rr (PV.vec true (PV.parr 4 0 (Sh.st 4 [Sh.vec 1 (Sh.int IntKind.u8), Sh.st 3 [Sh.int IntKind.i64, Sh.int IntKind.i64, Sh.vec 32 (Sh.iarr IntKind.u8 32)]]) []))] (by kernel_rfl) (ac (c1) (ac rfl (ac rfl (ac rfl (ao rfl))))) ?_
      exact WH.roundNormal (by kernel_rfl) hw
    · have hw := hw1 rfl
      clear hw1 hw2
      refine WH.seg [(2, aK (PV.bool true)), (6, Ans.call false [] [] (PV.tup [PV.st 3 [I6 (n:Int), I6 (i:Int), PV.vec bz (PV.parr 32 dp (Sh.iarr IntKind.u8 32) B)], I6 0])), (20, aV (PV.vec xnl (B8 xN xb))), (21, Ans.call false [] [] (PV.vec xnl (B8 xN xb)))] [(1, 1), (2, 2), (3, 3), (4, 4), (464, 5)] (DS.mk [] [(1, Row.mk (PV.st 69 [Hd.pv h, PV.vec nl (PV.parr 1 n bsh T)]) false), (2, Row.mk (PV.vec il (B8 m it)) false), (3, Row.mk (PV.vec false (PV.parr 32 n hsE I)) false), (4, Row.mk (PV.ref 5 [] 4 0 1) false), (5, Row.mk (PV.parr 4 1 ensh [PV.st 4 [PV.vec xnl (B8 xN xb), PV.st 3 [I6 (n:Int), I6 (i:Int), PV.vec bz (PV.parr 32 dp hsE B)]]]) false)]) (todo' := []) [PC Tryd.prog G0 33 [] [PV.st 2 [U6 (salt:Int), PV.vec oe (PV.parr 2 on (Sh.st 2 [Sh.int IntKind.u64, Sh.vec 1 (Sh.int IntKind.u8)]) OM)], PV.vec il (B8 m it)] [] (PV.bool true), PC Tryd.prog G0 39 [] [PV.vec false (PV.parr 32 n (Sh.iarr IntKind.u8 32) I), I6 (i:Int)] [] (PV.tup [PV.st 3 [I6 (n:Int), I6 (i:Int), PV.vec bz (PV.parr 32 dp (Sh.iarr IntKind.u8 32) B)], I6 0]), 0 ≤ (i:Int), (i:Int) < (n:Int), PV.vec (PV.nil? (List.getD T i PV.undef)) (B8 (PV.len (PV.els (List.getD T i PV.undef))) (PV.nums (PV.els (List.getD T i PV.undef)))) = PV.vec xnl (B8 xN xb), i < n, PC Tryd.prog G0 27 [] [PV.vec xnl (B8 xN xb)] [] (PV.vec xnl (B8 xN xb)), 1 ≤ 1, 0 < 1, 64 ≤ 140737488355328, 1 ≤ 9223372036854775807, rr (PV.st 69 [Hd.pv h, PV.vec nl (PV.parr 1 n (Sh.vec 1 (Sh.int IntKind.u8)) T)]), rr (PV.vec il (B8 m it)), rr (PV.vec false (PV.parr 32 n (Sh.iarr IntKind.u8 32) I)), rr (PV.ref 5 [] 4 0 1), rr (PV.parr 4 1 (Sh.st 4 [Sh.vec 1 (Sh.int IntKind.u8), Sh.st 3 [Sh.int IntKind.i64, Sh.int IntKind.i64, Sh.vec 32 (Sh.iarr IntKind.u8 32)]]) [PV.st 4 [PV.vec xnl (B8 xN xb), PV.st 3 [I6 (n:Int), I6 (i:Int), PV.vec bz (PV.parr 32 dp (Sh.iarr IntKind.u8 32) B)]]])] (by kernel_rfl) (ac (c1) (ac (c2) (ac (by omega) (ac (by omega) (ac (by (rw [g]; rfl)) (ac (by omega) (ac (c3) (ac (by omega) (ac (by omega) (ac (by omega) (ac (by omega) (ac rfl (ac rfl (ac rfl (ac rfl (ao rfl)))))))))))))))) ?_
      exact WH.roundNormal (by kernel_rfl) hw
  · change (_ → WH _ _ _ _ _ _ ⟨_, rE1 h nl n T il m it I (k + 1) M⟩) at hw2
    change (_ → WH _ _ _ _ _ _ ⟨_, rE1 h nl n T il m it I (k + 1 + 1) _⟩) at hw1
    show WH _ _ _ _ _ _ ⟨_, rE1 h nl n T il m it I (k + 1) M⟩
    unfold rE1 at *
    refine WH.seg [] [(1, 1), (2, 2), (3, 3), (4, 4), (80, 6), (5, 5)] (DS.mk [(2, PV.at 1 []), (3, PV.at 2 []), (5, PV.at 3 []), (6, PV.at 4 []), (7, I6 (i:Int)), (8, PV.at 6 [])] [(1, Row.mk (PV.st 69 [Hd.pv h, PV.vec nl (PV.parr 1 n bsh T)]) false), (2, Row.mk (PV.vec il (B8 m it)) false), (3, Row.mk (PV.vec false (PV.parr 32 n hsE I)) false), (4, Row.mk (PV.ref 5 [] 4 0 (k + 1)) false), (5, Row.mk (PV.parr 4 (k + 1) ensh M) false), (6, Row.mk (PV.st 2 [U6 (salt:Int), PV.vec oe (PV.parr 2 on osh OM)]) false)]) (todo' := [Item.beginRound, Item.code (rgBody (stopIn Tryd.f20 0))]) [rr (PV.at 1 []), rr (PV.at 2 []), rr (PV.at 3 []), rr (PV.at 4 []), rr (I6 (i:Int)), rr (PV.at 6 []), rr (PV.st 69 [Hd.pv h, PV.vec nl (PV.parr 1 n (Sh.vec 1 (Sh.int IntKind.u8)) T)]), rr (PV.vec il (B8 m it)), rr (PV.vec false (PV.parr 32 n (Sh.iarr IntKind.u8 32) I)), rr (PV.ref 5 [] 4 0 (k + 1)), rr (PV.parr 4 (k + 1) (Sh.st 4 [Sh.vec 1 (Sh.int IntKind.u8), Sh.st 3 [Sh.int IntKind.i64, Sh.int IntKind.i64, Sh.vec 32 (Sh.iarr IntKind.u8 32)]]) M), rr (PV.st 2 [U6 (salt:Int), PV.vec oe (PV.parr 2 on (Sh.st 2 [Sh.int IntKind.u64, Sh.vec 1 (Sh.int IntKind.u8)]) OM)])] (by kernel_rfl) (ac rfl (ac rfl (ac rfl (ac rfl (ac rfl (ac rfl (ac rfl (ac rfl (ac rfl (ac rfl (ac rfl (ao rfl)))))))))))) ?_
    refine WH.begin ?_
    rcases pb with _ | _
    · have hw := hw2 rfl
      clear hw1 hw2
      refine WH.seg [(2, aK (PV.bool false))] [(1, 1), (2, 2), (3, 3), (4, 4), (5, 5)] (DS.mk [] [(1, Row.mk (PV.st 69 [Hd.pv h, PV.vec nl (PV.parr 1 n bsh T)]) false), (2, Row.mk (PV.vec il (B8 m it)) false), (3, Row.mk (PV.vec false (PV.parr 32 n hsE I)) false), (4, Row.mk (PV.ref 5 [] 4 0 (k + 1)) false), (5, Row.mk (PV.parr 4 (k + 1) ensh M) false)]) (todo' := []) [PC Tryd.prog G0 33 [] [PV.st 2 [U6 (salt:Int), PV.vec oe (PV.parr 2 on (Sh.st 2 [Sh.int IntKind.u64, Sh.vec 1 (Sh.int IntKind.u8)]) OM)], PV.vec il (B8 m it)] [] (PV.bool false), rr (PV.st 69 [Hd.pv h, PV.vec nl (PV.parr 1 n (Sh.vec 1 (Sh.int IntKind.u8)) T)]), rr (PV.vec il (B8 m it)), rr (PV.vec false (PV.parr 32 n (Sh.iarr IntKind.u8 32) I)), rr (PV.ref 5 [] 4 0 (k + 1)), rr (PV.parr 4 (k + 1) (Sh.st 4 [Sh.vec 1 (Sh.int IntKind.u8), Sh.st 3 [Sh.int IntKind.i64, Sh.int IntKind.i64, Sh.vec 32 (Sh.iarr IntKind.u8 32)]]) M)] (by kernel_rfl) (ac (c1) (ac rfl (ac rfl (ac rfl (ac rfl (ao rfl)))))) ?_
      exact WH.roundNormal (by kernel_rfl) hw
    · have hw := hw1 rfl
      clear hw1 hw2
      refine WH.seg [(2, aK (PV.bool true)), (6, Ans.call false [] [] (PV.tup [PV.st 3 [I6 (n:Int), I6 (i:Int), PV.vec bz (PV.parr 32 dp (Sh.iarr IntKind.u8 32) B)], I6 0])), (20, aV (PV.vec xnl (B8 xN xb))), (21, Ans.call false [] [] (PV.vec xnl (B8 xN xb))), (25, Ans.ups [(5, none), (464, some (Row.mk (PV.parr 4 (k + 1 + 1) (Sh.st 4 [Sh.vec 1 (Sh.int IntKind.u8), Sh.st 3 [Sh.int IntKind.i64, Sh.int IntKind.i64, Sh.vec 32 (Sh.iarr IntKind.u8 32)]]) (M ++ [PV.st 4 [PV.vec xnl (B8 xN xb), PV.st 3 [I6 (n:Int), I6 (i:Int), PV.vec bz (PV.parr 32 dp (Sh.iarr IntKind.u8 32) B)]]])) false))])] [(1, 1), (2, 2), (3, 3), (4, 4), (464, 5)] (DS.mk [] [(1, Row.mk (PV.st 69 [Hd.pv h, PV.vec nl (PV.parr 1 n bsh T)]) false), (2, Row.mk (PV.vec il (B8 m it)) false), (3, Row.mk (PV.vec false (PV.parr 32 n hsE I)) false), (4, Row.mk (PV.ref 5 [] 4 0 (k + 1 + 1)) false), (5, Row.mk (PV.parr 4 (k + 1 + 1) ensh (M ++ [PV.st 4 [PV.vec xnl (B8 xN xb), PV.st 3 [I6 (n:Int), I6 (i:Int), PV.vec bz (PV.parr 32 dp hsE B)]]])) false)]) (todo' := []) [PC Tryd.prog G0 33 [] [PV.st 2 [U6 (salt:Int), PV.vec oe (PV.parr 2 on (Sh.st 2 [Sh.int IntKind.u64, Sh.vec 1 (Sh.int IntKind.u8)]) OM)], PV.vec il (B8 m it)] [] (PV.bool true), PC Tryd.prog G0 39 [] [PV.vec false (PV.parr 32 n (Sh.iarr IntKind.u8 32) I), I6 (i:Int)] [] (PV.tup [PV.st 3 [I6 (n:Int), I6 (i:Int), PV.vec bz (PV.parr 32 dp (Sh.iarr IntKind.u8 32) B)], I6 0]), 0 ≤ (i:Int), (i:Int) < (n:Int), PV.vec (PV.nil? (List.getD T i PV.undef)) (B8 (PV.len (PV.els (List.getD T i PV.undef))) (PV.nums (PV.els (List.getD T i PV.undef)))) = PV.vec xnl (B8 xN xb), i < n, PC Tryd.prog G0 27 [] [PV.vec xnl (B8 xN xb)] [] (PV.vec xnl (B8 xN xb)), ([(5, none), (464, some (Row.mk (PV.parr 4 (k + 1 + 1) (Sh.st 4 [Sh.vec 1 (Sh.int IntKind.u8), Sh.st 3 [Sh.int IntKind.i64, Sh.int IntKind.i64, Sh.vec 32 (Sh.iarr IntKind.u8 32)]]) (List.take (k + 1) M ++ [PV.st 4 [PV.vec xnl (B8 xN xb), PV.st 3 [I6 (n:Int), I6 (i:Int), PV.vec bz (PV.parr 32 dp (Sh.iarr IntKind.u8 32) B)]]])) false))] : List (Nat × Option Row)) = [(5, none), (464, some (Row.mk (PV.parr 4 (k + 1 + 1) (Sh.st 4 [Sh.vec 1 (Sh.int IntKind.u8), Sh.st 3 [Sh.int IntKind.i64, Sh.int IntKind.i64, Sh.vec 32 (Sh.iarr IntKind.u8 32)]]) (M ++ [PV.st 4 [PV.vec xnl (B8 xN xb), PV.st 3 [I6 (n:Int), I6 (i:Int), PV.vec bz (PV.parr 32 dp (Sh.iarr IntKind.u8 32) B)]]])) false))], 1 ≤ 1, 0 + (k + 1) = k + 1, (k + 1 + 1) * 64 ≤ 140737488355328, k + 1 + 1 ≤ 9223372036854775807, rr (PV.st 69 [Hd.pv h, PV.vec nl (PV.parr 1 n (Sh.vec 1 (Sh.int IntKind.u8)) T)]), rr (PV.vec il (B8 m it)), rr (PV.vec false (PV.parr 32 n (Sh.iarr IntKind.u8 32) I)), rr (PV.ref 5 [] 4 0 (k + 1 + 1)), rr (PV.parr 4 (k + 1 + 1) (Sh.st 4 [Sh.vec 1 (Sh.int IntKind.u8), Sh.st 3 [Sh.int IntKind.i64, Sh.int IntKind.i64, Sh.vec 32 (Sh.iarr IntKind.u8 32)]]) (M ++ [PV.st 4 [PV.vec xnl (B8 xN xb), PV.st 3 [I6 (n:Int), I6 (i:Int), PV.vec bz (PV.parr 32 dp (Sh.iarr IntKind.u8 32) B)]]]))] (by kernel_rfl) (ac (c1) (ac (c2) (ac (by omega) (ac (by omega) (ac (by (rw [g]; rfl)) (ac (by omega) (ac (c3) (ac (by rw [List.take_of_length_le (show List.length M ≤ k + 1 by omega)]) (ac (by omega) (ac (by omega) (ac (by omega) (ac (by omega) (ac rfl (ac rfl (ac rfl (ac rfl (ao rfl))))))))))))))))) ?_
      exact WH.roundNormal (by kernel_rfl) hw
end Go.Proofs
namespace Go.Proofs
open Go Go.Pe Go.Pm
set_option maxRecDepth 100000
set_option linter.unusedVariables false
theorem W_entCont {y : Nat} {res : PV} {h : Hd} {nl : Bool} {n : Nat} {T : List PV} {il : Bool} {m : Nat} {it : List Int} {I : List PV} {k : Nat} {M : List PV} {i : Nat} (hi : i < n) (hn : n ≤ 16)
    (hw : WH Tryd.prog G0 Tryd.f38 [1, 2, 3, 4] (HIter (rangeOf Tryd.f20 0 [] res [] frEnt 38) y .ready none) (loopAt Tryd.f38 0) ⟨[(1, yv y), (9, .vec nl (.parr 1 n bsh T)), (10, .int .i64 n), (11, .int .i64 ((i + 1 : Nat) : Int))], rE h nl n T il m it I k M⟩) :
    WH Tryd.prog G0 Tryd.f38 [1, 2, 3, 4] (HIter (rangeOf Tryd.f20 0 [] res [] frEnt 38) y .ready none) (.inRegion (rgOps (stopIn Tryd.f38 0)) (rgRest (stopIn Tryd.f38 0)) :: rgK (stopIn Tryd.f38 0)) ⟨[(1, yv y), (9, .vec nl (.parr 1 n bsh T)), (10, .int .i64 n), (11, .int .i64 i), (23, .bool true), (27, .bool true)], rE h nl n T il m it I k M⟩ := by
  unfold yv at *
  rcases k with _ | k
  · change WH _ _ _ _ _ _ ⟨_, rE0 h nl n T il m it I⟩ at hw
    show WH _ _ _ _ _ _ ⟨_, rE0 h nl n T il m it I⟩
    unfold rE0 at *
    refine WH.seg [(16, aV (I6 (↑(i + 1) : Int)))] [(1, 1), (2, 2), (3, 3), (4, 4)] (DS.mk [(1, PV.fv (Value.func (Fn.yield y) #[] #[])), (9, PV.vec nl (PV.parr 1 n bsh T)), (10, I6 (n:Int)), (11, I6 (↑(i + 1) : Int))] [(1, Row.mk (PV.st 69 [Hd.pv h, PV.vec nl (PV.parr 1 n bsh T)]) false), (2, Row.mk (PV.vec il (B8 m it)) false), (3, Row.mk (PV.vec false (PV.parr 32 n hsE I)) false), (4, Row.mk (PV.vec true (PV.parr 4 0 ensh [])) false)]) (todo' := loopAt Tryd.f38 0) [I6 (IntKind.wrap .i64 ((i:Int) + 1)) = I6 (↑(i + 1) : Int), rr (PV.fv (Value.func (Fn.yield y) #[] #[])), rr (PV.vec nl (PV.parr 1 n (Sh.vec 1 (Sh.int IntKind.u8)) T)), rr (I6 (n:Int)), rr (I6 (↑(i + 1) : Int)), rr (PV.st 69 [Hd.pv h, PV.vec nl (PV.parr 1 n (Sh.vec 1 (Sh.int IntKind.u8)) T)]), rr (PV.vec il (B8 m it)), rr (PV.vec false (PV.parr 32 n (Sh.iarr IntKind.u8 32) I)), rr (PV.vec true (PV.parr 4 0 (Sh.st 4 [Sh.vec 1 (Sh.int IntKind.u8), Sh.st 3 [Sh.int IntKind.i64, Sh.int IntKind.i64, Sh.vec 32 (Sh.iarr IntKind.u8 32)]]) []))] (by kernel_rfl) (ac (cg (w_i64 rfl (by omega) (by omega))) (ac rfl (ac rfl (ac rfl (ac rfl (ac rfl (ac rfl (ac rfl (ao rfl))))))))) ?_
    exact hw
  · change WH _ _ _ _ _ _ ⟨_, rE1 h nl n T il m it I (k + 1) M⟩ at hw
    show WH _ _ _ _ _ _ ⟨_, rE1 h nl n T il m it I (k + 1) M⟩
    unfold rE1 at *
    refine WH.seg [(16, aV (I6 (↑(i + 1) : Int)))] [(1, 1), (2, 2), (3, 3), (4, 4), (5, 5)] (DS.mk [(1, PV.fv (Value.func (Fn.yield y) #[] #[])), (9, PV.vec nl (PV.parr 1 n bsh T)), (10, I6 (n:Int)), (11, I6 (↑(i + 1) : Int))] [(1, Row.mk (PV.st 69 [Hd.pv h, PV.vec nl (PV.parr 1 n bsh T)]) false), (2, Row.mk (PV.vec il (B8 m it)) false), (3, Row.mk (PV.vec false (PV.parr 32 n hsE I)) false), (4, Row.mk (PV.ref 5 [] 4 0 (k + 1)) false), (5, Row.mk (PV.parr 4 (k + 1) ensh M) false)]) (todo' := loopAt Tryd.f38 0) [I6 (IntKind.wrap .i64 ((i:Int) + 1)) = I6 (↑(i + 1) : Int), rr (PV.fv (Value.func (Fn.yield y) #[] #[])), rr (PV.vec nl (PV.parr 1 n (Sh.vec 1 (Sh.int IntKind.u8)) T)), rr (I6 (n:Int)), rr (I6 (↑(i + 1) : Int)), rr (PV.st 69 [Hd.pv h, PV.vec nl (PV.parr 1 n (Sh.vec 1 (Sh.int IntKind.u8)) T)]), rr (PV.vec il (B8 m it)), rr (PV.vec false (PV.parr 32 n (Sh.iarr IntKind.u8 32) I)), rr (PV.ref 5 [] 4 0 (k + 1)), rr (PV.parr 4 (k + 1) (Sh.st 4 [Sh.vec 1 (Sh.int IntKind.u8), Sh.st 3 [Sh.int IntKind.i64, Sh.int IntKind.i64, Sh.vec 32 (Sh.iarr IntKind.u8 32)]]) M)] (by kernel_rfl) (ac (cg (w_i64 rfl (by omega) (by omega))) (ac rfl (ac rfl (ac rfl (ac rfl (ac rfl (ac rfl (ac rfl (ac rfl (ao rfl)))))))))) ?_
    exact hw
theorem W_entSkip {y : Nat} {res : PV} {h : Hd} {nl : Bool} {n : Nat} {T : List PV} {il : Bool} {m : Nat} {it : List Int} {I : List PV} {k : Nat} {M : List PV} {i : Nat} (hi : i < n) (hn : n ≤ 16)
    (hw : WH Tryd.prog G0 Tryd.f38 [1, 2, 3, 4] (HIter (rangeOf Tryd.f20 0 [] res [] frEnt 38) y .ready none) (loopAt Tryd.f38 0) ⟨[(1, yv y), (9, .vec nl (.parr 1 n bsh T)), (10, .int .i64 n), (11, .int .i64 ((i + 1 : Nat) : Int))], rE h nl n T il m it I k M⟩) :
    WH Tryd.prog G0 Tryd.f38 [1, 2, 3, 4] (HIter (rangeOf Tryd.f20 0 [] res [] frEnt 38) y .ready none) (.inRegion (rgOps (stopIn Tryd.f38 0)) (rgRest (stopIn Tryd.f38 0)) :: rgK (stopIn Tryd.f38 0)) ⟨[(1, yv y), (9, .vec nl (.parr 1 n bsh T)), (10, .int .i64 n), (11, .int .i64 i), (23, .bool false), (27, .tup [])], rE h nl n T il m it I k M⟩ := by
  unfold yv at *
  rcases k with _ | k
  · change WH _ _ _ _ _ _ ⟨_, rE0 h nl n T il m it I⟩ at hw
    show WH _ _ _ _ _ _ ⟨_, rE0 h nl n T il m it I⟩
    unfold rE0 at *
    refine WH.seg [(16, aV (I6 (↑(i + 1) : Int)))] [(1, 1), (2, 2), (3, 3), (4, 4)] (DS.mk [(1, PV.fv (Value.func (Fn.yield y) #[] #[])), (9, PV.vec nl (PV.parr 1 n bsh T)), (10, I6 (n:Int)), (11, I6 (↑(i + 1) : Int))] [(1, Row.mk (PV.st 69 [Hd.pv h, PV.vec nl (PV.parr 1 n bsh T)]) false), (2, Row.mk (PV.vec il (B8 m it)) false), (3, Row.mk (PV.vec false (PV.parr 32 n hsE I)) false), (4, Row.mk (PV.vec true (PV.parr 4 0 ensh [])) false)]) (todo' := loopAt Tryd.f38 0) [I6 (IntKind.wrap .i64 ((i:Int) + 1)) = I6 (↑(i + 1) : Int), rr (PV.fv (Value.func (Fn.yield y) #[] #[])), rr (PV.vec nl (PV.parr 1 n (Sh.vec 1 (Sh.int IntKind.u8)) T)), rr (I6 (n:Int)), rr (I6 (↑(i + 1) : Int)), rr (PV.st 69 [Hd.pv h, PV.vec nl (PV.parr 1 n (Sh.vec 1 (Sh.int IntKind.u8)) T)]), rr (PV.vec il (B8 m it)), rr (PV.vec false (PV.parr 32 n (Sh.iarr IntKind.u8 32) I)), rr (PV.vec true (PV.parr 4 0 (Sh.st 4 [Sh.vec 1 (Sh.int IntKind.u8), Sh.st 3 [Sh.int IntKind.i64, Sh.int IntKind.i64, Sh.vec 32 (Sh.iarr IntKind.u8 32)]]) []))] (by kernel_rfl) (ac (cg (w_i64 rfl (by omega) (by omega))) (ac rfl (ac rfl (ac rfl (ac rfl (ac rfl (ac rfl (ac rfl (ao rfl))))))))) ?_
    exact hw
  · change WH _ _ _ _ _ _ ⟨_, rE1 h nl n T il m it I (k + 1) M⟩ at hw
    show WH _ _ _ _ _ _ ⟨_, rE1 h nl n T il m it I (k + 1) M⟩
    unfold rE1 at *
    refine WH.seg [(16, aV (I6 (↑(i + 1) : Int)))] [(1, 1), (2, 2), (3, 3), (4, 4), (5, 5)] (DS.mk [(1, PV.fv (Value.func (Fn.yield y) #[] #[])), (9, PV.vec nl (PV.parr 1 n bsh T)), (10, I6 (n:Int)), (11, I6 (↑(i + 1) : Int))] [(1, Row.mk (PV.st 69 [Hd.pv h, PV.vec nl (PV.parr 1 n bsh T)]) false), (2, Row.mk (PV.vec il (B8 m it)) false), (3, Row.mk (PV.vec false (PV.parr 32 n hsE I)) false), (4, Row.mk (PV.ref 5 [] 4 0 (k + 1)) false), (5, Row.mk (PV.parr 4 (k + 1) ensh M) false)]) (todo' := loopAt Tryd.f38 0) [I6 (IntKind.wrap .i64 ((i:Int) + 1)) = I6 (↑(i + 1) : Int), rr (PV.fv (Value.func (Fn.yield y) #[] #[])), rr (PV.vec nl (PV.parr 1 n (Sh.vec 1 (Sh.int IntKind.u8)) T)), rr (I6 (n:Int)), rr (I6 (↑(i + 1) : Int)), rr (PV.st 69 [Hd.pv h, PV.vec nl (PV.parr 1 n (Sh.vec 1 (Sh.int IntKind.u8)) T)]), rr (PV.vec il (B8 m it)), rr (PV.vec false (PV.parr 32 n (Sh.iarr IntKind.u8 32) I)), rr (PV.ref 5 [] 4 0 (k + 1)), rr (PV.parr 4 (k + 1) (Sh.st 4 [Sh.vec 1 (Sh.int IntKind.u8), Sh.st 3 [Sh.int IntKind.i64, Sh.int IntKind.i64, Sh.vec 32 (Sh.iarr IntKind.u8 32)]]) M)] (by kernel_rfl) (ac (cg (w_i64 rfl (by omega) (by omega))) (ac rfl (ac rfl (ac rfl (ac rfl (ac rfl (ac rfl (ac rfl (ac rfl (ao rfl)))))))))) ?_
    exact hw
theorem W_entNo {y : Nat} {res : PV} {h : Hd} {nl : Bool} {n : Nat} {T : List PV} {il : Bool} {m : Nat} {it : List Int} {I : List PV} {k : Nat} {M : List PV} {i : Nat} {xnl : Bool} {xN : Nat} {xb : List Int} (hi : i < n) (hn : n ≤ 16) (g : T.getD i .undef = .vec xnl (.iarr .u8 xN xb)) {s : Nat} {o : Bool} {mm : Nat} {MM : List PV} {e : Nat} (he : e ≠ 0) (c1 : PC Tryd.prog G0 32 [] [.vec xnl (.iarr .u8 xN xb)] [] (.tup [.st 2 [.int .u64 s, .vec o (.parr 2 mm osh MM)], .int .i64 e]))
    (hw : WH Tryd.prog G0 Tryd.f38 [1, 2, 3, 4] (HIter (rangeOf Tryd.f20 0 [] res [] frEnt 38) y .ready none) (loopAt Tryd.f38 0) ⟨[(1, yv y), (9, .vec nl (.parr 1 n bsh T)), (10, .int .i64 n), (11, .int .i64 ((i + 1 : Nat) : Int))], rE h nl n T il m it I k M⟩) :
    WH Tryd.prog G0 Tryd.f38 [1, 2, 3, 4] (HIter (rangeOf Tryd.f20 0 [] res [] frEnt 38) y .ready none) (loopAt Tryd.f38 0) ⟨[(1, yv y), (9, .vec nl (.parr 1 n bsh T)), (10, .int .i64 n), (11, .int .i64 i)], rE h nl n T il m it I k M⟩ := by
  have hne : ¬ ((e : Int) = 0) := by omega
  have hs := W_entSkip hi hn hw
  clear hw
  unfold yv at *
  rcases k with _ | k
  · change WH _ _ _ _ _ _ ⟨_, rE0 h nl n T il m it I⟩ at hs
    show WH _ _ _ _ _ _ ⟨_, rE0 h nl n T il m it I⟩
    unfold rE0 at *
    refine WH.seg [(0, aT), (3, aV (PV.vec xnl (B8 xN xb))), (7, Ans.call false [] [] (PV.tup [PV.st 2 [U6 (s:Int), PV.vec o (PV.parr 2 mm (Sh.st 2 [Sh.int IntKind.u64, Sh.vec 1 (Sh.int IntKind.u8)]) MM)], I6 (e:Int)])), (15, aF)] [(1, 1), (2, 2), (3, 3), (4, 4)] (DS.mk [(1, PV.fv (Value.func (Fn.yield y) #[] #[])), (9, PV.vec nl (PV.parr 1 n bsh T)), (10, I6 (n:Int)), (11, I6 (i:Int)), (23, PV.bool false)] [(1, Row.mk (PV.st 69 [Hd.pv h, PV.vec nl (PV.parr 1 n bsh T)]) false), (2, Row.mk (PV.vec il (B8 m it)) false), (3, Row.mk (PV.vec false (PV.parr 32 n hsE I)) false), (4, Row.mk (PV.vec true (PV.parr 4 0 ensh [])) false)]) (todo' := stopIn Tryd.f38 0) [decide ((i:Int) < (n:Int)) = true, 0 ≤ (i:Int), (i:Int) < (n:Int), PV.vec (PV.nil? (List.getD T i PV.undef)) (B8 (PV.len (PV.els (List.getD T i PV.undef))) (PV.nums (PV.els (List.getD T i PV.undef)))) = PV.vec xnl (B8 xN xb), i < n, PC Tryd.prog G0 32 [] [PV.vec xnl (B8 xN xb)] [] (PV.tup [PV.st 2 [U6 (s:Int), PV.vec o (PV.parr 2 mm (Sh.st 2 [Sh.int IntKind.u64, Sh.vec 1 (Sh.int IntKind.u8)]) MM)], I6 (e:Int)]), ((e:Int) == 0) = false, rr (PV.fv (Value.func (Fn.yield y) #[] #[])), rr (PV.vec nl (PV.parr 1 n (Sh.vec 1 (Sh.int IntKind.u8)) T)), rr (I6 (n:Int)), rr (I6 (i:Int)), rr (PV.bool false), rr (PV.st 69 [Hd.pv h, PV.vec nl (PV.parr 1 n (Sh.vec 1 (Sh.int IntKind.u8)) T)]), rr (PV.vec il (B8 m it)), rr (PV.vec false (PV.parr 32 n (Sh.iarr IntKind.u8 32) I)), rr (PV.vec true (PV.parr 4 0 (Sh.st 4 [Sh.vec 1 (Sh.int IntKind.u8), Sh.st 3 [Sh.int IntKind.i64, Sh.int IntKind.i64, Sh.vec 32 (Sh.iarr IntKind.u8 32)]]) []))] (by kernel_rfl) (ac (decide_eq_true (by omega)) (ac (by omega) (ac (by omega) (ac (by (rw [g]; rfl)) (ac (by omega) (ac (c1) (ac (decide_eq_false (by omega)) (ac rfl (ac rfl (ac rfl (ac rfl (ac rfl (ac rfl (ac rfl (ac rfl (ao rfl)))))))))))))))) ?_
    exact WH.skipAt (by kernel_rfl) (by kernel_rfl) hs
  · change WH _ _ _ _ _ _ ⟨_, rE1 h nl n T il m it I (k + 1) M⟩ at hs
    show WH _ _ _ _ _ _ ⟨_, rE1 h nl n T il m it I (k + 1) M⟩
    unfold rE1 at *
    refine WH.seg [(0, aT), (3, aV (PV.vec xnl (B8 xN xb))), (7, Ans.call false [] [] (PV.tup [PV.st 2 [U6 (s:Int), PV.vec o (PV.parr 2 mm (Sh.st 2 [Sh.int IntKind.u64, Sh.vec 1 (Sh.int IntKind.u8)]) MM)], I6 (e:Int)])), (15, aF)] [(1, 1), (2, 2), (3, 3), (4, 4), (5, 5)] (DS.mk [(1, PV.fv (Value.func (Fn.yield y) #[] #[])), (9, PV.vec nl (PV.parr 1 n bsh T)), (10, I6 (n:Int)), (11, I6 (i:Int)), (23, PV.bool false)] [(1, Row.mk (PV.st 69 [Hd.pv h, PV.vec nl (PV.parr 1 n bsh T)]) false), (2, Row.mk (PV.vec il (B8 m it)) false), (3, Row.mk (PV.vec false (PV.parr 32 n hsE I)) false), (4, Row.mk (PV.ref 5 [] 4 0 (k + 1)) false), (5, Row.mk (PV.parr 4 (k + 1) ensh M) false)]) (todo' := stopIn Tryd.f38 0) [decide ((i:Int) < (n:Int)) = true, 0 ≤ (i:Int), (i:Int) < (n:Int), PV.vec (PV.nil? (List.getD T i PV.undef)) (B8 (PV.len (PV.els (List.getD T i PV.undef))) (PV.nums (PV.els (List.getD T i PV.undef)))) = PV.vec xnl (B8 xN xb), i < n, PC Tryd.prog G0 32 [] [PV.vec xnl (B8 xN xb)] [] (PV.tup [PV.st 2 [U6 (s:Int), PV.vec o (PV.parr 2 mm (Sh.st 2 [Sh.int IntKind.u64, Sh.vec 1 (Sh.int IntKind.u8)]) MM)], I6 (e:Int)]), ((e:Int) == 0) = false, rr (PV.fv (Value.func (Fn.yield y) #[] #[])), rr (PV.vec nl (PV.parr 1 n (Sh.vec 1 (Sh.int IntKind.u8)) T)), rr (I6 (n:Int)), rr (I6 (i:Int)), rr (PV.bool false), rr (PV.st 69 [Hd.pv h, PV.vec nl (PV.parr 1 n (Sh.vec 1 (Sh.int IntKind.u8)) T)]), rr (PV.vec il (B8 m it)), rr (PV.vec false (PV.parr 32 n (Sh.iarr IntKind.u8 32) I)), rr (PV.ref 5 [] 4 0 (k + 1)), rr (PV.parr 4 (k + 1) (Sh.st 4 [Sh.vec 1 (Sh.int IntKind.u8), Sh.st 3 [Sh.int IntKind.i64, Sh.int IntKind.i64, Sh.vec 32 (Sh.iarr IntKind.u8 32)]]) M)] (by kernel_rfl) (ac (decide_eq_true (by omega)) (ac (by omega) (ac (by omega) (ac (by (rw [g]; rfl)) (ac (by omega) (ac (c1) (ac (decide_eq_false (by omega)) (ac rfl (ac rfl (ac rfl (ac rfl (ac rfl (ac rfl (ac rfl (ac rfl (ac rfl (ao rfl))))))))))))))))) ?_
    exact WH.skipAt (by kernel_rfl) (by kernel_rfl) hs
theorem W_entYes {y : Nat} {res : PV} {h : Hd} {nl : Bool} {n : Nat} {T : List PV} {il : Bool} {m : Nat} {it : List Int} {I : List PV} {k : Nat} {M : List PV} {i : Nat} {xnl : Bool} {xN : Nat} {xb : List Int} (hi : i < n) (hn : n ≤ 16) (g : T.getD i .undef = .vec xnl (.iarr .u8 xN xb)) {s : Nat} {o : Bool} {mm : Nat} {MM : List PV} (c1 : PC Tryd.prog G0 32 [] [.vec xnl (.iarr .u8 xN xb)] [] (.tup [.st 2 [.int .u64 s, .vec o (.parr 2 mm osh MM)], .int .i64 ((0 : Nat) : Int)]))
    (hw : WH Tryd.prog G0 Tryd.f38 [1, 2, 3, 4] (HIter (rangeOf Tryd.f20 0 [] res [] frEnt 38) y .ready none) (stopIn Tryd.f38 0) ⟨[(1, yv y), (9, .vec nl (.parr 1 n bsh T)), (10, .int .i64 n), (11, .int .i64 i), (23, .bool true), (24, yv y), (25, .int .i64 i), (26, .st 2 [.int .u64 s, .vec o (.parr 2 mm osh MM)])], rE h nl n T il m it I k M⟩) :
    WH Tryd.prog G0 Tryd.f38 [1, 2, 3, 4] (HIter (rangeOf Tryd.f20 0 [] res [] frEnt 38) y .ready none) (loopAt Tryd.f38 0) ⟨[(1, yv y), (9, .vec nl (.parr 1 n bsh T)), (10, .int .i64 n), (11, .int .i64 i)], rE h nl n T il m it I k M⟩ := by
  unfold yv at *
  rcases k with _ | k
  · change WH _ _ _ _ _ _ ⟨_, rE0 h nl n T il m it I⟩ at hw
    show WH _ _ _ _ _ _ ⟨_, rE0 h nl n T il m it I⟩
    unfold rE0 at *
    refine WH.seg [(0, aT), (3, aV (PV.vec xnl (B8 xN xb))), (7, Ans.call false [] [] (PV.tup [PV.st 2 [U6 (s:Int), PV.vec o (PV.parr 2 mm (Sh.st 2 [Sh.int IntKind.u64, Sh.vec 1 (Sh.int IntKind.u8)]) MM)], I6 (↑(0 : Nat) : Int)])), (10, aV (I6 0))] [(1, 1), (2, 2), (3, 3), (4, 4)] (DS.mk [(1, PV.fv (Value.func (Fn.yield y) #[] #[])), (9, PV.vec nl (PV.parr 1 n bsh T)), (10, I6 (n:Int)), (11, I6 (i:Int)), (23, PV.bool true), (24, PV.fv (Value.func (Fn.yield y) #[] #[])), (25, I6 (i:Int)), (26, PV.st 2 [U6 (s:Int), PV.vec o (PV.parr 2 mm osh MM)])] [(1, Row.mk (PV.st 69 [Hd.pv h, PV.vec nl (PV.parr 1 n bsh T)]) false), (2, Row.mk (PV.vec il (B8 m it)) false), (3, Row.mk (PV.vec false (PV.parr 32 n hsE I)) false), (4, Row.mk (PV.vec true (PV.parr 4 0 ensh [])) false)]) (todo' := stopIn Tryd.f38 0) [decide ((i:Int) < (n:Int)) = true, 0 ≤ (i:Int), (i:Int) < (n:Int), PV.vec (PV.nil? (List.getD T i PV.undef)) (B8 (PV.len (PV.els (List.getD T i PV.undef))) (PV.nums (PV.els (List.getD T i PV.undef)))) = PV.vec xnl (B8 xN xb), i < n, PC Tryd.prog G0 32 [] [PV.vec xnl (B8 xN xb)] [] (PV.tup [PV.st 2 [U6 (s:Int), PV.vec o (PV.parr 2 mm (Sh.st 2 [Sh.int IntKind.u64, Sh.vec 1 (Sh.int IntKind.u8)]) MM)], I6 (↑(0 : Nat) : Int)]), I6 (↑(0 : Nat) : Int) = I6 0, rr (PV.fv (Value.func (Fn.yield y) #[] #[])), rr (PV.vec nl (PV.parr 1 n (Sh.vec 1 (Sh.int IntKind.u8)) T)), rr (I6 (n:Int)), rr (I6 (i:Int)), rr (PV.bool true), rr (PV.fv (Value.func (Fn.yield y) #[] #[])), rr (I6 (i:Int)), rr (PV.st 2 [U6 (s:Int), PV.vec o (PV.parr 2 mm (Sh.st 2 [Sh.int IntKind.u64, Sh.vec 1 (Sh.int IntKind.u8)]) MM)]), rr (PV.st 69 [Hd.pv h, PV.vec nl (PV.parr 1 n (Sh.vec 1 (Sh.int IntKind.u8)) T)]), rr (PV.vec il (B8 m it)), rr (PV.vec false (PV.parr 32 n (Sh.iarr IntKind.u8 32) I)), rr (PV.vec true (PV.parr 4 0 (Sh.st 4 [Sh.vec 1 (Sh.int IntKind.u8), Sh.st 3 [Sh.int IntKind.i64, Sh.int IntKind.i64, Sh.vec 32 (Sh.iarr IntKind.u8 32)]]) []))] (by kernel_rfl) (ac (decide_eq_true (by omega)) (ac (by omega) (ac (by omega) (ac (by (rw [g]; rfl)) (ac (by omega) (ac (c1) (ac (cg (by omega)) (ac rfl (ac rfl (ac rfl (ac rfl (ac rfl (ac rfl (ac rfl (ac rfl (ac rfl (ac rfl (ac rfl (ao rfl))))))))))))))))))) ?_
    exact hw
  · change WH _ _ _ _ _ _ ⟨_, rE1 h nl n T il m it I (k + 1) M⟩ at hw
    show WH _ _ _ _ _ _ ⟨_, rE1 h nl n T il m it I (k + 1) M⟩
    unfold rE1 at *
    refine WH.seg [(0, aT), (3, aV (PV.vec xnl (B8 xN xb))), (7, Ans.call false [] [] (PV.tup [PV.st 2 [U6 (s:Int), PV.vec o (PV.parr 2 mm (Sh.st 2 [Sh.int IntKind.u64, Sh.vec 1 (Sh.int IntKind.u8)]) MM)], I6 (↑(0 : Nat) : Int)])), (10, aV (I6 0))] [(1, 1), (2, 2), (3, 3), (4, 4), (5, 5)] (DS.mk [(1, PV.fv (Value.func (Fn.yield y) #[] #[])), (9, PV.vec nl (PV.parr 1 n bsh T)), (10, I6 (n:Int)), (11, I6 (i:Int)), (23, PV.bool true), (24, PV.fv (Value.func (Fn.yield y) #[] #[])), (25, I6 (i:Int)), (26, PV.st 2 [U6 (s:Int), PV.vec o (PV.parr 2 mm osh MM)])] [(1, Row.mk (PV.st 69 [Hd.pv h, PV.vec nl (PV.parr 1 n bsh T)]) false), (2, Row.mk (PV.vec il (B8 m it)) false), (3, Row.mk (PV.vec false (PV.parr 32 n hsE I)) false), (4, Row.mk (PV.ref 5 [] 4 0 (k + 1)) false), (5, Row.mk (PV.parr 4 (k + 1) ensh M) false)]) (todo' := stopIn Tryd.f38 0) [decide ((i:Int) < (n:Int)) = true, 0 ≤ (i:Int), (i:Int) < (n:Int), PV.vec (PV.nil? (List.getD T i PV.undef)) (B8 (PV.len (PV.els (List.getD T i PV.undef))) (PV.nums (PV.els (List.getD T i PV.undef)))) = PV.vec xnl (B8 xN xb), i < n, PC Tryd.prog G0 32 [] [PV.vec xnl (B8 xN xb)] [] (PV.tup [PV.st 2 [U6 (s:Int), PV.vec o (PV.parr 2 mm (Sh.st 2 [Sh.int IntKind.u64, Sh.vec 1 (Sh.int IntKind.u8)]) MM)], I6 (↑(0 : Nat) : Int)]), I6 (↑(0 : Nat) : Int) = I6 0, rr (PV.fv (Value.func (Fn.yield y) #[] #[])), rr (PV.vec nl (PV.parr 1 n (Sh.vec 1 (Sh.int IntKind.u8)) T)), rr (I6 (n:Int)), rr (I6 (i:Int)), rr (PV.bool true), rr (PV.fv (Value.func (Fn.yield y) #[] #[])), rr (I6 (i:Int)), rr (PV.st 2 [U6 (s:Int), PV.vec o (PV.parr 2 mm (Sh.st 2 [Sh.int IntKind.u64, Sh.vec 1 (Sh.int IntKind.u8)]) MM)]), rr (PV.st 69 [Hd.pv h, PV.vec nl (PV.parr 1 n (Sh.vec 1 (Sh.int IntKind.u8)) T)]), rr (PV.vec il (B8 m it)), rr (PV.vec false (PV.parr 32 n (Sh.iarr IntKind.u8 32) I)), rr (PV.ref 5 [] 4 0 (k + 1)), rr (PV.parr 4 (k + 1) (Sh.st 4 [Sh.vec 1 (Sh.int IntKind.u8), Sh.st 3 [Sh.int IntKind.i64, Sh.int IntKind.i64, Sh.vec 32 (Sh.iarr IntKind.u8 32)]]) M)] (by kernel_rfl) (ac (decide_eq_true (by omega)) (ac (by omega) (ac (by omega) (ac (by (rw [g]; rfl)) (ac (by omega) (ac (c1) (ac (cg (by omega)) (ac rfl (ac rfl (ac rfl (ac rfl (ac rfl (ac rfl (ac rfl (ac rfl (ac rfl (ac rfl (ac rfl (ac rfl (ao rfl)))))))))))))))))))) ?_
    exact hw
theorem W_entLast {y : Nat} {res : PV} {h : Hd} {nl : Bool} {n : Nat} {T : List PV} {il : Bool} {m : Nat} {it : List Int} {I : List PV} {k : Nat} {M : List PV} {i : Nat} (hin : i = n) (hM : M.length = k) (hres : res = resE M) :
    WH Tryd.prog G0 Tryd.f38 [1, 2, 3, 4] (HIter (rangeOf Tryd.f20 0 [] res [] frEnt 38) y .ready none) (loopAt Tryd.f38 0) ⟨[(1, yv y), (9, .vec nl (.parr 1 n bsh T)), (10, .int .i64 n), (11, .int .i64 i)], rE h nl n T il m it I k M⟩ := by
  have he := W_entEnd (h := h) (nl := nl) (n := n) (T := T) (il := il) (m := m) (it := it) (I := I) hM
  rw [← hres] at he
  subst hin
  clear hM hres
  unfold yv at *
  rcases k with _ | k
  · change WM _ _ _ _ _ _ _ ⟨_, rE0 h nl i T il m it I⟩ at he
    show WH _ _ _ _ _ _ ⟨_, rE0 h nl i T il m it I⟩
    unfold rE0 at *
    refine WH.seg [(0, aF)] [(1, 1), (2, 2), (3, 3), (4, 4)] (DS.mk [] [(1, Row.mk (PV.st 69 [Hd.pv h, PV.vec nl (PV.parr 1 i bsh T)]) false), (2, Row.mk (PV.vec il (B8 m it)) false), (3, Row.mk (PV.vec false (PV.parr 32 i hsE I)) false), (4, Row.mk (PV.vec true (PV.parr 4 0 ensh [])) false)]) (todo' := []) [decide ((i:Int) < (i:Int)) = false, rr (PV.st 69 [Hd.pv h, PV.vec nl (PV.parr 1 i (Sh.vec 1 (Sh.int IntKind.u8)) T)]), rr (PV.vec il (B8 m it)), rr (PV.vec false (PV.parr 32 i (Sh.iarr IntKind.u8 32) I)), rr (PV.vec true (PV.parr 4 0 (Sh.st 4 [Sh.vec 1 (Sh.int IntKind.u8), Sh.st 3 [Sh.int IntKind.i64, Sh.int IntKind.i64, Sh.vec 32 (Sh.iarr IntKind.u8 32)]]) []))] (by kernel_rfl) (ac (decide_eq_false (by omega)) (ac rfl (ac rfl (ac rfl (ao rfl))))) ?_
    exact WH.iterRet Tryd.func38 (by kernel_rfl) (by intro e; cases e) rfl he
  · change WM _ _ _ _ _ _ _ ⟨_, rE1 h nl i T il m it I (k + 1) M⟩ at he
    show WH _ _ _ _ _ _ ⟨_, rE1 h nl i T il m it I (k + 1) M⟩
    unfold rE1 at *
    refine WH.seg [(0, aF)] [(1, 1), (2, 2), (3, 3), (4, 4), (5, 5)] (DS.mk [] [(1, Row.mk (PV.st 69 [Hd.pv h, PV.vec nl (PV.parr 1 i bsh T)]) false), (2, Row.mk (PV.vec il (B8 m it)) false), (3, Row.mk (PV.vec false (PV.parr 32 i hsE I)) false), (4, Row.mk (PV.ref 5 [] 4 0 (k + 1)) false), (5, Row.mk (PV.parr 4 (k + 1) ensh M) false)]) (todo' := []) [decide ((i:Int) < (i:Int)) = false, rr (PV.st 69 [Hd.pv h, PV.vec nl (PV.parr 1 i (Sh.vec 1 (Sh.int IntKind.u8)) T)]), rr (PV.vec il (B8 m it)), rr (PV.vec false (PV.parr 32 i (Sh.iarr IntKind.u8 32) I)), rr (PV.ref 5 [] 4 0 (k + 1)), rr (PV.parr 4 (k + 1) (Sh.st 4 [Sh.vec 1 (Sh.int IntKind.u8), Sh.st 3 [Sh.int IntKind.i64, Sh.int IntKind.i64, Sh.vec 32 (Sh.iarr IntKind.u8 32)]]) M)] (by kernel_rfl) (ac (decide_eq_false (by omega)) (ac rfl (ac rfl (ac rfl (ac rfl (ao rfl)))))) ?_
    exact WH.iterRet Tryd.func38 (by kernel_rfl) (by intro e; cases e) rfl he
theorem W_entIter {y : Nat} {res : PV} {h : Hd} {nl : Bool} {n : Nat} {L : List TxM} {il : Bool} {m : Nat} {it : List Int} {P : List (List Int)} (ho : TxsOk L n) (hn : n ≤ 16) (hP : HsOk P n) (hit : it.length = m) (bit : Bytes it) : ∀ (j i k : Nat) (M : List PV), i + j = n → M.length = k → k ≤ i → res = resE (M ++ (entsM it i (L.drop i)).map (entPV n P)) →
    WH Tryd.prog G0 Tryd.f38 [1, 2, 3, 4] (HIter (rangeOf Tryd.f20 0 [] res [] frEnt 38) y .ready none) (loopAt Tryd.f38 0) ⟨[(1, yv y), (9, .vec nl (.parr 1 n bsh (L.map bsPV))), (10, .int .i64 n), (11, .int .i64 i)], rE h nl n (L.map bsPV) il m it (P.map hv) k M⟩
  | 0, i, k, M, hj, hM, hk, hres => by
    rw [List.drop_of_length_le (by rw [ho.len]; omega)] at hres
    exact W_entLast (by omega) hM (by rw [hres]; simp [entsM])
  | j + 1, i, k, M, hj, hM, hk, hres => by
    have hi : i < n := by omega
    have hlt : i < L.length := by rw [ho.len]; exact hi
    have g := bs_get hlt
    obtain ⟨hb, hnl, hN⟩ := ho.get hi
    have hdrop : L.drop i = L.getD i default :: L.drop (i + 1) := by rw [List.drop_eq_getElem_cons hlt]; simp [List.getD_eq_getElem?_getD, hlt]
    rw [hdrop, entsM] at hres
    have ih := fun k M => W_entIter (y := y) (res := res) (h := h) (nl := nl) (il := il) ho hn hP hit bit j (i + 1) k M (by omega)
    generalize L.getD i default = x at *
    have c1 := pc_parse (nl := x.1) hb.1 hb.2 hN hnl
    by_cases h0 : txE x.2.2 = 0
    · obtain ⟨f1, f2⟩ := txOuts_facts hb.1 hb.2 hN
      unfold txP txRes at c1
      rw [if_pos h0, h0, outsPV_eq] at c1
      have hp : paysT x.2.2 it = paysB (txOuts x.2.2) it := by unfold paysT; rw [if_pos h0]
      rw [hp] at hres
      refine W_entYes hi hn g c1 (W_entRound (x := x) hM (by omega) hi hn hP ⟨f1, f2⟩ g hb hnl hN hit bit (fun hpb => ?_) (fun hpb => ?_))
      · refine W_entCont hi hn (ih _ _ (by rw [List.length_append, hM]; rfl) (by omega) ?_)
        rw [hres, if_pos hpb]
        simp
      · refine W_entCont hi hn (ih _ _ hM (by omega) ?_)
        rw [hres, if_neg (by rw [hpb]; simp)]
    · obtain ⟨s, o, mm, MM, hf⟩ := txP_form x.2.2
      rw [hf] at c1
      have hp : ¬ paysT x.2.2 it = true := by unfold paysT; rw [if_neg h0]; simp
      rw [if_neg hp] at hres
      exact W_entNo hi hn g h0 c1 (ih _ _ hM (by omega) hres)
theorem pc_entries {h : Hd} {nl : Bool} {n : Nat} {L : List TxM} {il : Bool} {m : Nat} {it : List Int} (ho : TxsOk L n) (hn : n ≤ 16) (hit : it.length = m) (bit : Bytes it) : PC Tryd.prog G0 20 [] [blkPV h nl n L, .vec il (.iarr .u8 m it)] [] (resE ((entsM it 0 L).map (entPV n (idsM L)))) := by
  refine PC.of (fn := Tryd.f20) (c := bodyOf Tryd.f20) Tryd.func20 (by kernel_rfl) (by kernel_rfl) (by kernel_rfl) (by kernel_rfl) ?_
  have hw := fun y => W_entIter (y := y) (res := resE ((entsM it 0 L).map (entPV n (idsM L)))) (h := h) (nl := nl) (il := il) ho hn (idsM_ok ho) hit bit n 0 0 [] (by omega) rfl (by omega) rfl
  have c1 := pc_ids (h := h) (nl := nl) ho (by omega)
  have hT : ((idsM L).map hv).take n = (idsM L).map hv := List.take_of_length_le (by rw [List.length_map, (idsM_ok ho).len]; omega)
  generalize resE ((entsM it 0 L).map (entPV n (idsM L))) = res at *
  unfold blkPV txsPV Hd.pv hL at *
  generalize (idsM L).map hv = I at *
  generalize L.map bsPV = T at *
  change ∀ y, WH _ _ _ _ _ _ ⟨_, rE0 h nl n T il m it I⟩ at hw
  unfold rE0 at hw
  refine W.seg [(6, aF), (8, Ans.call true [] [(1, Row.mk (PV.parr 32 n (Sh.iarr IntKind.u8 32) I) false)] (PV.ref 1 [] 32 0 n)), (10, Ans.frz [193])] [(64, 1), (80, 2), (208, 3), (240, 4)] (DS.mk [(2, PV.at 1 []), (3, PV.at 2 []), (5, PV.at 3 []), (6, PV.at 4 []), (18, PV.fb 38 (PV.st 69 [Hd.pv h, PV.vec nl (PV.parr 1 n bsh T)]))] [(1, Row.mk (PV.st 69 [Hd.pv h, PV.vec nl (PV.parr 1 n bsh T)]) false), (2, Row.mk (PV.vec il (B8 m it)) false), (3, Row.mk (PV.vec false (PV.parr 32 n hsE I)) false), (4, Row.mk (PV.vec true (PV.parr 4 0 ensh [])) false)]) (todo' := stopIn Tryd.f20 0) [decide ((n:Int) > 16) = false, PC Tryd.prog G0 10 [] [PV.st 69 [Hd.pv h, PV.vec nl (PV.parr 1 n (Sh.vec 1 (Sh.int IntKind.u8)) T)]] [(1, Row.mk (PV.parr 32 n (Sh.iarr IntKind.u8 32) I) false)] (PV.ref 1 [] 32 0 n), 0 + n ≤ n, rr (PV.at 1 []), rr (PV.at 2 []), rr (PV.at 3 []), rr (PV.at 4 []), rr (PV.fb 38 (PV.st 69 [Hd.pv h, PV.vec nl (PV.parr 1 n (Sh.vec 1 (Sh.int IntKind.u8)) T)])), rr (PV.st 69 [Hd.pv h, PV.vec nl (PV.parr 1 n (Sh.vec 1 (Sh.int IntKind.u8)) T)]), rr (PV.vec il (B8 m it)), PV.vec false (PV.parr 32 n (Sh.iarr IntKind.u8 32) (List.take n I)) = PV.vec false (PV.parr 32 n (Sh.iarr IntKind.u8 32) I), rr (PV.vec true (PV.parr 4 0 (Sh.st 4 [Sh.vec 1 (Sh.int IntKind.u8), Sh.st 3 [Sh.int IntKind.i64, Sh.int IntKind.i64, Sh.vec 32 (Sh.iarr IntKind.u8 32)]]) []))] (by kernel_rfl) (ac (decide_eq_false (by omega)) (ac (c1) (ac (by omega) (ac rfl (ac rfl (ac rfl (ac rfl (ac rfl (ac rfl (ac rfl (ac (by (simp; omega)) (ao rfl)))))))))))) ?_
  refine W.rangeFbAt (g := 18) (fi := 38) (fI := Tryd.f38) (pinsI := [1, 2, 3, 4]) (by kernel_rfl) frEnt rfl Tryd.func38 (by kernel_rfl) (by kernel_rfl) (by kernel_rfl) (by kernel_rfl) (by kernel_rfl) (SlotsIn.ofL ⟨rfl, rfl, rfl, rfl, trivial⟩) fun y => ?_
  have hw := hw y
  dsimp only
  unfold yv at *
  refine WH.seg [] [(1, 1), (2, 2), (3, 3), (4, 4)] (DS.mk [(1, PV.fv (Value.func (Fn.yield y) #[] #[])), (9, PV.vec nl (PV.parr 1 n bsh T)), (10, I6 (n:Int)), (11, I6 (↑(0 : Nat) : Int))] [(1, Row.mk (PV.st 69 [Hd.pv h, PV.vec nl (PV.parr 1 n bsh T)]) false), (2, Row.mk (PV.vec il (B8 m it)) false), (3, Row.mk (PV.vec false (PV.parr 32 n hsE I)) false), (4, Row.mk (PV.vec true (PV.parr 4 0 ensh [])) false)]) (todo' := loopAt Tryd.f38 0) [rr (PV.fv (Value.func (Fn.yield y) #[] #[])), rr (PV.vec nl (PV.parr 1 n (Sh.vec 1 (Sh.int IntKind.u8)) T)), rr (I6 (n:Int)), I6 0 = I6 (↑(0 : Nat) : Int), rr (PV.st 69 [Hd.pv h, PV.vec nl (PV.parr 1 n (Sh.vec 1 (Sh.int IntKind.u8)) T)]), rr (PV.vec il (B8 m it)), rr (PV.vec false (PV.parr 32 n (Sh.iarr IntKind.u8 32) I)), rr (PV.vec true (PV.parr 4 0 (Sh.st 4 [Sh.vec 1 (Sh.int IntKind.u8), Sh.st 3 [Sh.int IntKind.i64, Sh.int IntKind.i64, Sh.vec 32 (Sh.iarr IntKind.u8 32)]]) []))] (by kernel_rfl) (ac rfl (ac rfl (ac rfl (ac (cg (by omega)) (ac rfl (ac rfl (ac rfl (ao rfl)))))))) ?_
  exact hw
theorem pc_entriesN {h : Hd} {nl : Bool} {n : Nat} {L : List TxM} {il : Bool} {m : Nat} {it : List Int} (hn : 16 < n) : PC Tryd.prog G0 20 [] [blkPV h nl n L, .vec il (.iarr .u8 m it)] [] (resE []) := by
  refine PC.of (fn := Tryd.f20) (c := bodyOf Tryd.f20) Tryd.func20 (by kernel_rfl) (by kernel_rfl) (by kernel_rfl) (by kernel_rfl) ?_
  show W _ _ _ _ _ (.vec true (.parr 4 0 ensh [])) _ _
  unfold blkPV txsPV Hd.pv at *
  generalize L.map bsPV = T at *
  refine W.ret [(6, aT)] [] [decide ((n:Int) > 16) = true, rr (PV.vec true (PV.parr 4 0 (Sh.st 4 [Sh.vec 1 (Sh.int IntKind.u8), Sh.st 3 [Sh.int IntKind.i64, Sh.int IntKind.i64, Sh.vec 32 (Sh.iarr IntKind.u8 32)]]) []))] (by kernel_rfl) (ac (decide_eq_true (by omega)) (ao rfl))
end Go.Proofs
namespace Go.Proofs
open Go Go.Pe Go.Pm
set_option maxRecDepth 100000
set_option linter.unusedVariables false
def rensh : Sh := .st 4 [.str, brsh]
def rentPV (n : Nat) (P : List (List Int)) (e : Nat × TxM) : PV := renPV e.2.2.2 n e.1 (decide (depM n = 0)) (depM n) (pathM P e.1)
def resR (M : List PV) : PV := .vec M.isEmpty (.parr 4 M.length rensh M)
def dR0 (h : Hd) (tn : Bool) (n : Nat) (S : List PV) (s : ByteArray) (i : Nat) : DS := ⟨[(1, .str s), (2, .at 1 []), (5, .vec true (.parr 4 0 rensh [])), (13, .vec tn (.parr 1 n .str S)), (14, .int .i64 n), (15, .int .i64 i)], [(1, ⟨.st 69 [.st 68 [.int .u32 h.ver, .iarr .u8 32 h.prev, .iarr .u8 32 h.root, .int .u32 h.time, .int .u32 h.bits, .int .u32 h.nonce], .vec tn (.parr 1 n .str S)], false⟩)]⟩
def dR1 (h : Hd) (tn : Bool) (n : Nat) (S : List PV) (s : ByteArray) (i k : Nat) (M : List PV) : DS := ⟨[(1, .str s), (2, .at 1 []), (5, .ref 2 [] 4 0 (k)), (13, .vec tn (.parr 1 n .str S)), (14, .int .i64 n), (15, .int .i64 i)], [(1, ⟨.st 69 [.st 68 [.int .u32 h.ver, .iarr .u8 32 h.prev, .iarr .u8 32 h.root, .int .u32 h.time, .int .u32 h.bits, .int .u32 h.nonce], .vec tn (.parr 1 n .str S)], false⟩), (2, ⟨.parr 4 (k) rensh (M), false⟩)]⟩
def dR (h : Hd) (tn : Bool) (n : Nat) (S : List PV) (s : ByteArray) (i k : Nat) (M : List PV) : DS := match k with
  | 0 => dR0 h tn n S s i
  | k + 1 => dR1 h tn n S s i (k + 1) M
theorem W_rentLast {h : Hd} {tn : Bool} {n : Nat} {S : List PV} {s : ByteArray} {k : Nat} {M : List PV} (hM : M.length = k) : W Tryd.prog G0 Tryd.f21 [] [] (resR M) (loopAt Tryd.f21 0) (dR h tn n S s n k M) := by
  rcases k with _ | k
  · obtain rfl := List.eq_nil_of_length_eq_zero hM
    show W _ _ _ _ _ (.vec true (.parr 4 0 rensh [])) _ (dR0 h tn n S s n)
    unfold dR0
    refine W.ret [(0, aF)] [] [decide ((n:Int) < (n:Int)) = false, rr (PV.vec true (PV.parr 4 0 (Sh.st 4 [Sh.str, Sh.st 3 [Sh.int IntKind.i64, Sh.int IntKind.i64, Sh.vec 32 (Sh.iarr IntKind.u8 32)]]) []))] (by kernel_rfl) (ac (decide_eq_false (by omega)) (ao rfl))
  · have hE : M.isEmpty = false := by cases M with | nil => simp at hM | cons => rfl
    show W _ _ _ _ _ (.vec M.isEmpty (.parr 4 M.length rensh M)) _ (dR1 h tn n S s n (k + 1) M)
    rw [hE, hM]
    have ht : M.take (k + 1) = M := List.take_of_length_le (by omega)
    unfold dR1
    refine W.ret [(0, aF)] [] [decide ((n:Int) < (n:Int)) = false, 0 + (k + 1) ≤ k + 1, PV.vec false (PV.parr 4 (k + 1) (Sh.st 4 [Sh.str, Sh.st 3 [Sh.int IntKind.i64, Sh.int IntKind.i64, Sh.vec 32 (Sh.iarr IntKind.u8 32)]]) (List.take (k + 1) M)) = PV.vec false (PV.parr 4 (k + 1) (Sh.st 4 [Sh.str, Sh.st 3 [Sh.int IntKind.i64, Sh.int IntKind.i64, Sh.vec 32 (Sh.iarr IntKind.u8 32)]]) M)] (by kernel_rfl) (ac (decide_eq_false (by omega)) (ac (by omega) (ao (by (simp; omega)))))
theorem W_rentNo {res : PV} {h : Hd} {tn : Bool} {n : Nat} {S : List PV} {s : ByteArray} {i k : Nat} {M : List PV} {t : ByteArray} (hi : i < n) (hn : n ≤ 16) (g : S.getD i .undef = .str t) (c1 : PC Tryd.prog G0 35 [] [.str t, .str s] [] (.bool false)) (hw : W Tryd.prog G0 Tryd.f21 [] [] res (loopAt Tryd.f21 0) (dR h tn n S s (i + 1) k M)) : W Tryd.prog G0 Tryd.f21 [] [] res (loopAt Tryd.f21 0) (dR h tn n S s i k M) := by
  rcases k with _ | k
  · change W _ _ _ _ _ _ _ (dR0 h tn n S s (i + 1)) at hw
    show W _ _ _ _ _ _ _ (dR0 h tn n S s i)
    unfold dR0 at *
    refine W.seg [(0, aT), (3, aV (PV.str t)), (8, aK (PV.bool false)), (9, aV (I6 (↑(i + 1) : Int)))] [(1, 1)] (DS.mk [(1, PV.str s), (2, PV.at 1 []), (5, PV.vec true (PV.parr 4 0 rensh [])), (13, PV.vec tn (PV.parr 1 n Sh.str S)), (14, I6 (n:Int)), (15, I6 (↑(i + 1) : Int))] [(1, Row.mk (PV.st 69 [Hd.pv h, PV.vec tn (PV.parr 1 n Sh.str S)]) false)]) (todo' := loopAt Tryd.f21 0) [decide ((i:Int) < (n:Int)) = true, 0 ≤ (i:Int), (i:Int) < (n:Int), PV.str (PV.text (List.getD S i PV.undef)) = PV.str t, i < n, PC Tryd.prog G0 35 [] [PV.str t, PV.str s] [] (PV.bool false), I6 (IntKind.wrap .i64 ((i:Int) + 1)) = I6 (↑(i + 1) : Int), rr (PV.str s), rr (PV.at 1 []), rr (PV.vec true (PV.parr 4 0 (Sh.st 4 [Sh.str, Sh.st 3 [Sh.int IntKind.i64, Sh.int IntKind.i64, Sh.vec 32 (Sh.iarr IntKind.u8 32)]]) [])), rr (PV.vec tn (PV.parr 1 n Sh.str S)), rr (I6 (n:Int)), rr (I6 (↑(i + 1) : Int)), rr (PV.st 69 [Hd.pv h, PV.vec tn (PV.parr 1 n Sh.str S)])] (by kernel_rfl) (ac (decide_eq_true (by omega)) (ac (by omega) (ac (by omega) (ac (by (rw [g]; rfl)) (ac (by omega) (ac (c1) (ac (cg (w_i64 rfl (by omega) (by omega))) (ac rfl (ac rfl (ac rfl (ac rfl (ac rfl (ac rfl (ao rfl)))))))))))))) ?_
    exact hw
  · change W _ _ _ _ _ _ _ (dR1 h tn n S s (i + 1) (k + 1) M) at hw
    show W _ _ _ _ _ _ _ (dR1 h tn n S s i (k + 1) M)
    unfold dR1 at *
    refine W.seg [(0, aT), (3, aV (PV.str t)), (8, aK (PV.bool false)), (9, aV (I6 (↑(i + 1) : Int)))] [(1, 1), (2, 2)] (DS.mk [(1, PV.str s), (2, PV.at 1 []), (5, PV.ref 2 [] 4 0 (k + 1)), (13, PV.vec tn (PV.parr 1 n Sh.str S)), (14, I6 (n:Int)), (15, I6 (↑(i + 1) : Int))] [(1, Row.mk (PV.st 69 [Hd.pv h, PV.vec tn (PV.parr 1 n Sh.str S)]) false), (2, Row.mk (PV.parr 4 (k + 1) rensh M) false)]) (todo' := loopAt Tryd.f21 0) [decide ((i:Int) < (n:Int)) = true, 0 ≤ (i:Int), (i:Int) < (n:Int), PV.str (PV.text (List.getD S i PV.undef)) = PV.str t, i < n, PC Tryd.prog G0 35 [] [PV.str t, PV.str s] [] (PV.bool false), I6 (IntKind.wrap .i64 ((i:Int) + 1)) = I6 (↑(i + 1) : Int), rr (PV.str s), rr (PV.at 1 []), rr (PV.ref 2 [] 4 0 (k + 1)), rr (PV.vec tn (PV.parr 1 n Sh.str S)), rr (I6 (n:Int)), rr (I6 (↑(i + 1) : Int)), rr (PV.st 69 [Hd.pv h, PV.vec tn (PV.parr 1 n Sh.str S)]), rr (PV.parr 4 (k + 1) (Sh.st 4 [Sh.str, Sh.st 3 [Sh.int IntKind.i64, Sh.int IntKind.i64, Sh.vec 32 (Sh.iarr IntKind.u8 32)]]) M)] (by kernel_rfl) (ac (decide_eq_true (by omega)) (ac (by omega) (ac (by omega) (ac (by (rw [g]; rfl)) (ac (by omega) (ac (c1) (ac (cg (w_i64 rfl (by omega) (by omega))) (ac rfl (ac rfl (ac rfl (ac rfl (ac rfl (ac rfl (ac rfl (ao rfl))))))))))))))) ?_
    exact hw
theorem W_rentYes {res : PV} {h : Hd} {tn : Bool} {n : Nat} {S : List PV} {s : ByteArray} {i k : Nat} {M : List PV} {t : ByteArray} {bz : Bool} {dp : Nat} {B : List PV} {I : PV} (hi : i < n) (hn : n ≤ 16) (hM : M.length = k) (hk : k ≤ 100) (g : S.getD i .undef = .str t) (c1 : PC Tryd.prog G0 35 [] [.str t, .str s] [] (.bool true)) (hI : good I = true)
    (c2 : PC Tryd.prog G0 11 [] [.vec tn (.parr 1 n .str S)] [] (.vec tn I)) (c3 : PC Tryd.prog G0 40 [] [.vec tn I, .int .i64 i] [] (.st 3 [.int .i64 n, .int .i64 i, .vec bz (.parr 32 dp hsE B)]))
    (hw : W Tryd.prog G0 Tryd.f21 [] [] res (loopAt Tryd.f21 0) (dR h tn n S s (i + 1) (k + 1) (M ++ [.st 4 [.str t, .st 3 [.int .i64 n, .int .i64 i, .vec bz (.parr 32 dp hsE B)]]]))) : W Tryd.prog G0 Tryd.f21 [] [] res (loopAt Tryd.f21 0) (dR h tn n S s i k M) := by
  rcases k with _ | k
  · obtain rfl := List.eq_nil_of_length_eq_zero hM
    change W _ _ _ _ _ _ _ (dR1 h tn n S s (i + 1) 1 [_]) at hw
    show W _ _ _ _ _ _ _ (dR0 h tn n S s i)
    unfold dR0
    unfold dR1 at hw
    refine W.seg [(0, aT), (3, aV (PV.str t)), (8, aK (PV.bool true)), (13, Ans.call false [] [] (PV.vec tn I)), (15, Ans.call false [] [] (PV.st 3 [I6 (n:Int), I6 (i:Int), PV.vec bz (PV.parr 32 dp (Sh.iarr IntKind.u8 32) B)])), (20, aV (I6 (↑(i + 1) : Int)))] [(1, 1), (352, 2)] (DS.mk [(1, PV.str s), (2, PV.at 1 []), (5, PV.ref 2 [] 4 0 1), (13, PV.vec tn (PV.parr 1 n Sh.str S)), (14, I6 (n:Int)), (15, I6 (↑(i + 1) : Int))] [(1, Row.mk (PV.st 69 [Hd.pv h, PV.vec tn (PV.parr 1 n Sh.str S)]) false), (2, Row.mk (PV.parr 4 1 rensh [PV.st 4 [PV.str t, PV.st 3 [I6 (n:Int), I6 (i:Int), PV.vec bz (PV.parr 32 dp hsE B)]]]) false)]) (todo' := loopAt Tryd.f21 0) [decide ((i:Int) < (n:Int)) = true, 0 ≤ (i:Int), (i:Int) < (n:Int), PV.str (PV.text (List.getD S i PV.undef)) = PV.str t, i < n, PC Tryd.prog G0 35 [] [PV.str t, PV.str s] [] (PV.bool true), PC Tryd.prog G0 11 [] [PV.vec tn (PV.parr 1 n Sh.str S)] [] (PV.vec tn I), PC Tryd.prog G0 40 [] [PV.vec tn I, I6 (i:Int)] [] (PV.st 3 [I6 (n:Int), I6 (i:Int), PV.vec bz (PV.parr 32 dp (Sh.iarr IntKind.u8 32) B)]), 1 ≤ 1, 0 < 1, 56 ≤ 140737488355328, 1 ≤ 9223372036854775807, I6 (IntKind.wrap .i64 ((i:Int) + 1)) = I6 (↑(i + 1) : Int), rr (PV.str s), rr (PV.at 1 []), rr (PV.ref 2 [] 4 0 1), rr (PV.vec tn (PV.parr 1 n Sh.str S)), rr (I6 (n:Int)), rr (I6 (↑(i + 1) : Int)), rr (PV.st 69 [Hd.pv h, PV.vec tn (PV.parr 1 n Sh.str S)]), rr (PV.parr 4 1 (Sh.st 4 [Sh.str, Sh.st 3 [Sh.int IntKind.i64, Sh.int IntKind.i64, Sh.vec 32 (Sh.iarr IntKind.u8 32)]]) [PV.st 4 [PV.str t, PV.st 3 [I6 (n:Int), I6 (i:Int), PV.vec bz (PV.parr 32 dp (Sh.iarr IntKind.u8 32) B)]]])] (by kernel_rfl) (ac (decide_eq_true (by omega)) (ac (by omega) (ac (by omega) (ac (by (rw [g]; rfl)) (ac (by omega) (ac (c1) (ac (c2) (ac (c3) (ac (by omega) (ac (by omega) (ac (by omega) (ac (by omega) (ac (cg (w_i64 rfl (by omega) (by omega))) (ac rfl (ac rfl (ac rfl (ac rfl (ac rfl (ac rfl (ac rfl (ao rfl))))))))))))))))))))) ?_
    exact hw
  · change W _ _ _ _ _ _ _ (dR1 h tn n S s (i + 1) (k + 1 + 1) _) at hw
    show W _ _ _ _ _ _ _ (dR1 h tn n S s i (k + 1) M)
    unfold dR1 at *
    refine W.seg [(0, aT), (3, aV (PV.str t)), (8, aK (PV.bool true)), (13, Ans.call false [] [] (PV.vec tn I)), (15, Ans.call false [] [] (PV.st 3 [I6 (n:Int), I6 (i:Int), PV.vec bz (PV.parr 32 dp (Sh.iarr IntKind.u8 32) B)])), (18, Ans.ups [(2, none), (352, some (Row.mk (PV.parr 4 (k + 1 + 1) (Sh.st 4 [Sh.str, Sh.st 3 [Sh.int IntKind.i64, Sh.int IntKind.i64, Sh.vec 32 (Sh.iarr IntKind.u8 32)]]) (M ++ [PV.st 4 [PV.str t, PV.st 3 [I6 (n:Int), I6 (i:Int), PV.vec bz (PV.parr 32 dp (Sh.iarr IntKind.u8 32) B)]]])) false))]), (20, aV (I6 (↑(i + 1) : Int)))] [(1, 1), (352, 2)] (DS.mk [(1, PV.str s), (2, PV.at 1 []), (5, PV.ref 2 [] 4 0 (k + 1 + 1)), (13, PV.vec tn (PV.parr 1 n Sh.str S)), (14, I6 (n:Int)), (15, I6 (↑(i + 1) : Int))] [(1, Row.mk (PV.st 69 [Hd.pv h, PV.vec tn (PV.parr 1 n Sh.str S)]) false), (2, Row.mk (PV.parr 4 (k + 1 + 1) rensh (M ++ [PV.st 4 [PV.str t, PV.st 3 [I6 (n:Int), I6 (i:Int), PV.vec bz (PV.parr 32 dp hsE B)]]])) false)]) (todo' := loopAt Tryd.f21 0) [decide ((i:Int) < (n:Int)) = true, 0 ≤ (i:Int), (i:Int) < (n:Int), PV.str (PV.text (List.getD S i PV.undef)) = PV.str t, i < n, PC Tryd.prog G0 35 [] [PV.str t, PV.str s] [] (PV.bool true), PC Tryd.prog G0 11 [] [PV.vec tn (PV.parr 1 n Sh.str S)] [] (PV.vec tn I), PC Tryd.prog G0 40 [] [PV.vec tn I, I6 (i:Int)] [] (PV.st 3 [I6 (n:Int), I6 (i:Int), PV.vec bz (PV.parr 32 dp (Sh.iarr IntKind.u8 32) B)]), ([(2, none), (352, some (Row.mk (PV.parr 4 (k + 1 + 1) (Sh.st 4 [Sh.str, Sh.st 3 [Sh.int IntKind.i64, Sh.int IntKind.i64, Sh.vec 32 (Sh.iarr IntKind.u8 32)]]) (List.take (k + 1) M ++ [PV.st 4 [PV.str t, PV.st 3 [I6 (n:Int), I6 (i:Int), PV.vec bz (PV.parr 32 dp (Sh.iarr IntKind.u8 32) B)]]])) false))] : List (Nat × Option Row)) = [(2, none), (352, some (Row.mk (PV.parr 4 (k + 1 + 1) (Sh.st 4 [Sh.str, Sh.st 3 [Sh.int IntKind.i64, Sh.int IntKind.i64, Sh.vec 32 (Sh.iarr IntKind.u8 32)]]) (M ++ [PV.st 4 [PV.str t, PV.st 3 [I6 (n:Int), I6 (i:Int), PV.vec bz (PV.parr 32 dp (Sh.iarr IntKind.u8 32) B)]]])) false))], 1 ≤ 1, 0 + (k + 1) = k + 1, (k + 1 + 1) * 56 ≤ 140737488355328, k + 1 + 1 ≤ 9223372036854775807, I6 (IntKind.wrap .i64 ((i:Int) + 1)) = I6 (↑(i + 1) : Int), rr (PV.str s), rr (PV.at 1 []), rr (PV.ref 2 [] 4 0 (k + 1 + 1)), rr (PV.vec tn (PV.parr 1 n Sh.str S)), rr (I6 (n:Int)), rr (I6 (↑(i + 1) : Int)), rr (PV.st 69 [Hd.pv h, PV.vec tn (PV.parr 1 n Sh.str S)]), rr (PV.parr 4 (k + 1 + 1) (Sh.st 4 [Sh.str, Sh.st 3 [Sh.int IntKind.i64, Sh.int IntKind.i64, Sh.vec 32 (Sh.iarr IntKind.u8 32)]]) (M ++ [PV.st 4 [PV.str t, PV.st 3 [I6 (n:Int), I6 (i:Int), PV.vec bz (PV.parr 32 dp (Sh.iarr IntKind.u8 32) B)]]]))] (by kernel_rfl) (ac (decide_eq_true (by omega)) (ac (by omega) (ac (by omega) (ac (by (rw [g]; rfl)) (ac (by omega) (ac (c1) (ac (c2) (ac (c3) (ac (by rw [List.take_of_length_le (show List.length M ≤ k + 1 by omega)]) (ac (by omega) (ac (by omega) (ac (by omega) (ac (by omega) (ac (cg (w_i64 rfl (by omega) (by omega))) (ac rfl (ac rfl (ac rfl (ac rfl (ac rfl (ac rfl (ac rfl (ao rfl)))))))))))))))))))))) ?_
    exact hw
theorem W_rentIter {res : PV} {h : Hd} {n : Nat} {L : List TxM} {it : List Int} {P : List (List Int)} (ho : TxsOk L n) (hn : n ≤ 16) (h0 : 0 < n) (hP : P = idsM L) (bit : Bytes it) (hit : it.length ≤ 1000000) : ∀ (j i k : Nat) (M : List PV), i + j = n → M.length = k → k ≤ i → res = resR (M ++ (entsM it i (L.drop i)).map (rentPV n P)) →
    W Tryd.prog G0 Tryd.f21 [] [] res (loopAt Tryd.f21 0) (dR h (decide (n = 0)) n (L.map stPV) (strOf it) i k M)
  | 0, i, k, M, hj, hM, hk, hres => by
    rw [List.drop_of_length_le (by rw [ho.len]; omega)] at hres
    have hin : i = n := by omega
    subst hin
    rw [hres]
    simp only [entsM, List.map_nil, List.append_nil]
    exact W_rentLast hM
  | j + 1, i, k, M, hj, hM, hk, hres => by
    have hi : i < n := by omega
    have hlt : i < L.length := by rw [ho.len]; exact hi
    have g := stx_get hlt
    obtain ⟨hb, hnl, hN⟩ := ho.get hi
    have hdrop : L.drop i = L.getD i default :: L.drop (i + 1) := by rw [List.drop_eq_getElem_cons hlt]; simp [List.getD_eq_getElem?_getD, hlt]
    rw [hdrop, entsM] at hres
    have ih := fun k M => W_rentIter (res := res) (h := h) ho hn h0 hP bit hit j (i + 1) k M (by omega)
    generalize L.getD i default = x at *
    have c1 := pc_rPays hb.1 hb.2 hN bit hit
    by_cases hp : paysT x.2.2 it = true
    · rw [hp] at c1
      rw [if_pos hp] at hres
      have c2 := pc_rIds (nl := decide (n = 0)) ho (by omega)
      have c3 := pc_rmake (nl := decide (n = 0)) (P := P) (by rw [hP]; exact idsM_ok ho) (by omega) hi
      refine W_rentYes (I := hL n (idsM L)) (bz := decide (depM n = 0)) (dp := depM n) (B := (pathM P i).map hv) hi hn hM (by omega) g c1 rfl c2 (by rw [← hP]; exact c3) (ih _ _ (by rw [List.length_append, hM]; rfl) (by omega) ?_)
      rw [hres, List.map_cons]
      show resR (M ++ _ :: _) = resR (M ++ [_] ++ _)
      rw [List.append_assoc]
      rfl
    · have hp' : paysT x.2.2 it = false := by simpa using hp
      rw [hp'] at c1
      rw [if_neg hp] at hres
      exact W_rentNo hi hn g c1 (ih _ _ hM (by omega) hres)
theorem pc_rEntries {h : Hd} {n : Nat} {L : List TxM} {it : List Int} (ho : TxsOk L n) (hn : n ≤ 16) (bit : Bytes it) (hit : it.length ≤ 1000000) : PC Tryd.prog G0 21 [] [rblkPV h n L, .str (strOf it)] [] (resR ((entsM it 0 L).map (rentPV n (idsM L)))) := by
  refine PC.of (fn := Tryd.f21) (c := bodyOf Tryd.f21) Tryd.func21 (by kernel_rfl) (by kernel_rfl) (by kernel_rfl) (by kernel_rfl) ?_
  by_cases h0 : n = 0
  · subst h0
    obtain rfl := List.eq_nil_of_length_eq_zero ho.len
    have hw := W_rentLast (h := h) (tn := true) (n := 0) (S := []) (s := strOf it) (k := 0) (M := []) rfl
    change W _ _ _ _ _ (PV.vec true (PV.parr 4 0 rensh [])) _ (dR0 h true 0 [] (strOf it) 0) at hw
    change W _ _ _ _ _ (PV.vec true (PV.parr 4 0 rensh [])) _ ⟨argF 0 [PV.st 69 [h.pv, .vec true (.parr 1 0 .str [])], _], _⟩
    generalize strOf it = s at *
    unfold Hd.pv
    unfold dR0 at hw
    refine W.seg [(5, aV (I6 0)), (9, aV (I6 0))] [(64, 1)] (DS.mk [(1, PV.str s), (2, PV.at 1 []), (5, PV.vec true (PV.parr 4 0 rensh [])), (13, PV.vec true (PV.parr 1 0 Sh.str [])), (14, I6 (↑(0 : Nat) : Int)), (15, I6 (↑(0 : Nat) : Int))] [(1, Row.mk (PV.st 69 [Hd.pv h, PV.vec true (PV.parr 1 0 Sh.str [])]) false)]) (todo' := loopAt Tryd.f21 0) [I6 (↑(0 : Nat) : Int) = I6 0, I6 (↑(0 : Nat) : Int) = I6 0, rr (PV.str s), rr (PV.at 1 []), rr (PV.vec true (PV.parr 4 0 (Sh.st 4 [Sh.str, Sh.st 3 [Sh.int IntKind.i64, Sh.int IntKind.i64, Sh.vec 32 (Sh.iarr IntKind.u8 32)]]) [])), rr (PV.vec true (PV.parr 1 0 Sh.str [])), I6 0 = I6 (↑(0 : Nat) : Int), I6 0 = I6 (↑(0 : Nat) : Int), rr (PV.st 69 [Hd.pv h, PV.vec true (PV.parr 1 0 Sh.str [])])] (by kernel_rfl) (ac (cg (by omega)) (ac (cg (by omega)) (ac rfl (ac rfl (ac rfl (ac rfl (ac (cg (by omega)) (ac (cg (by omega)) (ao rfl))))))))) ?_
    exact hw
  · have hw := W_rentIter (res := resR ((entsM it 0 L).map (rentPV n (idsM L)))) (h := h) ho hn (by omega) rfl bit hit n 0 0 [] (by omega) rfl (by omega) rfl
    generalize resR ((entsM it 0 L).map (rentPV n (idsM L))) = res at *
    generalize strOf it = s at *
    unfold rblkPV txtsPV Hd.pv at *
    change W _ _ _ _ _ _ _ (dR0 h _ n (L.map stPV) s 0) at hw
    generalize L.map stPV = S at *
    generalize decide (n = 0) = tn at *
    unfold dR0 at hw
    refine W.seg [(6, aF)] [(64, 1)] (DS.mk [(1, PV.str s), (2, PV.at 1 []), (5, PV.vec true (PV.parr 4 0 rensh [])), (13, PV.vec tn (PV.parr 1 n Sh.str S)), (14, I6 (n:Int)), (15, I6 (↑(0 : Nat) : Int))] [(1, Row.mk (PV.st 69 [Hd.pv h, PV.vec tn (PV.parr 1 n Sh.str S)]) false)]) (todo' := loopAt Tryd.f21 0) [decide ((n:Int) > 16) = false, rr (PV.str s), rr (PV.at 1 []), rr (PV.vec true (PV.parr 4 0 (Sh.st 4 [Sh.str, Sh.st 3 [Sh.int IntKind.i64, Sh.int IntKind.i64, Sh.vec 32 (Sh.iarr IntKind.u8 32)]]) [])), rr (PV.vec tn (PV.parr 1 n Sh.str S)), rr (I6 (n:Int)), I6 0 = I6 (↑(0 : Nat) : Int), rr (PV.st 69 [Hd.pv h, PV.vec tn (PV.parr 1 n Sh.str S)])] (by kernel_rfl) (ac (decide_eq_false (by omega)) (ac rfl (ac rfl (ac rfl (ac rfl (ac rfl (ac (cg (by omega)) (ao rfl)))))))) ?_
    exact hw
theorem pc_rEntriesN {h : Hd} {n : Nat} {L : List TxM} {s : ByteArray} (hn : 16 < n) : PC Tryd.prog G0 21 [] [rblkPV h n L, .str s] [] (resR []) := by
  refine PC.of (fn := Tryd.f21) (c := bodyOf Tryd.f21) Tryd.func21 (by kernel_rfl) (by kernel_rfl) (by kernel_rfl) (by kernel_rfl) ?_
  show W _ _ _ _ _ (.vec true (.parr 4 0 rensh [])) _ _
  unfold rblkPV txtsPV Hd.pv at *
  generalize L.map stPV = S at *
  generalize decide (n = 0) = tn at *
  refine W.ret [(6, aT)] [] [decide ((n:Int) > 16) = true, rr (PV.vec true (PV.parr 4 0 (Sh.st 4 [Sh.str, Sh.st 3 [Sh.int IntKind.i64, Sh.int IntKind.i64, Sh.vec 32 (Sh.iarr IntKind.u8 32)]]) []))] (by kernel_rfl) (ac (decide_eq_true (by omega)) (ao rfl))
end Go.Proofs
namespace Go.Proofs
open Go Go.Pe Go.Pm
set_option maxRecDepth 100000
theorem up_step {l : List (List Int)} {n k q : Nat} (hn : l.length = n) (hd : ¬ dblM l) (hq : q < wid n k) :
    ((q % 2 = 0 ∧ q + 1 = wid n k) ↔ (lvl l k).getD (sib (wid n k) q) [] = (lvl l k).getD q []) ∧
    (if q % 2 = 0 then dsha ((lvl l k).getD q [] ++ (lvl l k).getD (sib (wid n k) q) []) else dsha ((lvl l k).getD (sib (wid n k) q) [] ++ (lvl l k).getD q [])) = (lvl l (k + 1)).getD (q / 2) [] := by
  have hll : (lvl l k).length = wid n k := by rw [lvl_length, hn]
  have hab := above_get (l := lvl l k) (i := q / 2) (by rw [hll]; omega)
  have e : lvl l (k + 1) = above (lvl l k) := rfl
  rw [e, hab, hll]
  have hno : ∀ i, 2 * i + 1 < wid n k → (lvl l k).getD (2 * i) [] ≠ (lvl l k).getD (2 * i + 1) [] := fun i hi h => hd ⟨k, i, by rw [hn]; exact hi, h⟩
  by_cases he : q % 2 = 0
  · have h2 : 2 * (q / 2) = q := by omega
    have hs : sib (wid n k) q = if q + 1 < wid n k then q + 1 else q := by unfold sib; rw [if_neg (by omega)]
    rw [if_pos he, h2, hs]
    by_cases ha : q + 1 < wid n k
    · rw [if_pos ha]
      have hne := hno (q / 2) (by omega)
      rw [h2] at hne
      exact ⟨⟨fun h => by omega, fun h => absurd h.symm hne⟩, by rw [show min (q + 1) (wid n k - 1) = q + 1 by omega]⟩
    · rw [if_neg ha]
      exact ⟨⟨fun _ => rfl, fun _ => ⟨he, by omega⟩⟩, by rw [show min (q + 1) (wid n k - 1) = q by omega]⟩
  · have h2 : 2 * (q / 2) = q - 1 := by omega
    have hs : sib (wid n k) q = q - 1 := by unfold sib; rw [if_pos (by omega)]
    rw [if_neg he, h2, hs]
    have hne := hno (q / 2) (by omega)
    rw [show 2 * (q / 2) + 1 = q by omega, h2] at hne
    exact ⟨⟨fun h => absurd h.1 he, fun h => absurd h hne⟩, by rw [show min (q - 1 + 1) (wid n k - 1) = q by omega]⟩
theorem up_root {l : List (List Int)} {n i : Nat} (hn : l.length = n) (hd : ¬ dblM l) (hi : i < n) : ∀ (j k : Nat), k + j = depM n →
    upG ((List.range' k j).map (pathE l i)) (i / 2 ^ k) (wid n k) ((lvl l k).getD (i / 2 ^ k) []) = some (rootM l)
  | 0, k, hk => by
    have hkd : depM n = k := by omega
    have hw := wid_dep n
    rw [hkd] at hw
    have hq := wid_div hi k
    have h0 : i / 2 ^ k = 0 := by generalize i / 2 ^ k = q at *; omega
    have hne : l ≠ [] := by intro e; rw [e] at hn; simp at hn; omega
    rw [h0]
    show some _ = _
    unfold rootM
    rw [if_neg hne, hn, hkd]
  | j + 1, k, hk => by
    have hq := wid_div hi k
    obtain ⟨s1, s2⟩ := up_step (k := k) hn hd hq
    have ih := up_root hn hd hi j (k + 1) (by omega)
    rw [List.range'_succ, List.map_cons, upG]
    have hp : pathE l i k = (lvl l k).getD (sib (wid n k) (i / 2 ^ k)) [] := by unfold pathE; rw [hn]
    rw [hp, if_pos s1, s2]
    have hd2 : i / 2 ^ k / 2 = i / 2 ^ (k + 1) := by rw [Nat.pow_succ, ← Nat.div_div_eq_div_mul]
    rw [hd2]
    exact ih
theorem up_path {l : List (List Int)} {n i : Nat} (hn : l.length = n) (hd : ¬ dblM l) (hi : i < n) : upG (pathM l i) i n (l.getD i []) = some (rootM l) := by
  have h := up_root hn hd hi (depM n) 0 (by omega)
  rw [← List.range_eq_range', Nat.pow_zero, Nat.div_one, wid] at h
  have e : pathM l i = (List.range (depM n)).map (pathE l i) := by unfold pathM; rw [hn]
  rw [e]
  exact h
theorem bch_path {l : List (List Int)} {n i : Nat} (hn : l.length = n) (hd : ¬ dblM l) (hi : i < n) (hm : n ≤ 65536) : bchE n i (pathM l i) (rootM l) (l.getD i []) = 0 := by
  have hr : rightE (n : Int) (i : Int) (pathM l i).length = 0 := by
    unfold rightE
    rw [if_neg (by omega), Int.toNat_natCast, pathM_length, hn, if_pos rfl]
  have hu := up_path hn hd hi
  have h1 : upE n i (pathM l i) (l.getD i []) = 0 := by
    unfold upE
    rw [if_pos hr, Int.toNat_natCast, Int.toNat_natCast, hu]
  have h2 : upT n i (pathM l i) (l.getD i []) = rootM l := by
    unfold upT
    rw [if_pos hr, Int.toNat_natCast, Int.toNat_natCast, hu]
  unfold bchE
  rw [if_neg (fun h => h.2 h2), h1]
theorem ents_get {it : List Int} : ∀ {L : List TxM} {i a : Nat}, a < (entsM it i L).length → ∃ j, ((entsM it i L).getD a default).1 = i + j ∧ j < L.length ∧ L.getD j default = ((entsM it i L).getD a default).2 ∧ paysT ((entsM it i L).getD a default).2.2.2 it = true
  | [], i, a, h => by simp [entsM] at h
  | x :: l, i, a, h => by
    rw [entsM] at h ⊢
    by_cases hp : paysT x.2.2 it = true
    · rw [if_pos hp] at h ⊢
      cases a with
      | zero => exact ⟨0, rfl, by simp, rfl, hp⟩
      | succ a =>
        obtain ⟨j, h1, h2, h3, h4⟩ := ents_get (it := it) (L := l) (i := i + 1) (a := a) (by simpa using h)
        refine ⟨j + 1, ?_, by simp; omega, ?_, ?_⟩
        · show ((entsM it (i + 1) l).getD a default).1 = _
          rw [h1]; omega
        · show l.getD j default = ((entsM it (i + 1) l).getD a default).2
          exact h3
        · exact h4
    · rw [if_neg hp] at h ⊢
      obtain ⟨j, h1, h2, h3, h4⟩ := ents_get (it := it) (L := l) (i := i + 1) (a := a) h
      exact ⟨j + 1, by rw [h1]; omega, by simp; omega, by simpa using h3, h4⟩
theorem ents_len {it : List Int} : ∀ (L : List TxM) (i : Nat), (entsM it i L).length ≤ L.length
  | [], _ => by simp [entsM]
  | x :: l, i => by
    rw [entsM]
    have := ents_len (it := it) l (i + 1)
    split
    · simp; exact this
    · simp; omega
theorem paysT_E {b it : List Int} (h : paysT b it = true) : txE b = 0 ∧ paysB (txOuts b) it = true := by
  unfold paysT at h
  by_cases h0 : txE b = 0
  · rw [if_pos h0] at h; exact ⟨h0, h⟩
  · rw [if_neg h0] at h; cases h
/-- if a block is right, each entry proves. -/
theorem ent_right {h : Hd} {L : List TxM} {it : List Int} {j : Nat} {x : TxM} (hj : j < L.length) (hx : L.getD j default = x) (hp : paysT x.2.2 it = true) (hc : checkE h L = 0) :
    enE x.2.2 L.length j (pathM (idsM L) j) h.root it = 0 := by
  obtain ⟨h0, h1⟩ := paysT_E hp
  unfold enE
  rw [if_pos h0, if_pos h1]
  have hs : soundE L = 0 ∧ rootM (idsM L) = h.root := by
    unfold checkE at hc
    by_cases hs : soundE L = 0
    · rw [if_pos hs] at hc
      refine ⟨hs, ?_⟩
      by_cases hr : rootM (idsM L) = h.root
      · exact hr
      · rw [if_neg hr] at hc; cases hc
    · rw [if_neg hs] at hc; exact absurd hc hs
  have hd : ¬ dblM (idsM L) ∧ L.length ≤ 16 := by
    have h2 := hs.1
    unfold soundE at h2
    split at h2
    · cases h2
    · rename_i hlen
      split at h2
      · split at h2
        · cases h2
        · rename_i hb
          exact ⟨fun hd => hb ((dblB_iff _).2 hd), by omega⟩
      · rename_i hpe; exact absurd h2 hpe
  have hlen : (idsM L).length = L.length := by unfold idsM; rw [List.length_map]
  have hg : (idsM L).getD j [] = dsha x.2.2 := by
    rw [← hx]
    unfold idsM
    simp [List.getD_eq_getElem?_getD, hj]
  have := bch_path hlen hd.1 hj (by omega)
  rw [hg, hs.2] at this
  exact this
end Go.Proofs
namespace Go.Proofs
open Go Go.Pe Go.Pm
set_option maxRecDepth 100000
set_option linter.unusedVariables false
def dBo (h : Hd) (nl : Bool) (n : Nat) (T : List PV) (il : Bool) (m : Nat) (it : List Int) (we ge right : Bool) (K : Nat) (M1 M2 : List PV) (a : Nat) : DS := ⟨[(1, .vec il (.iarr .u8 m it)), (2, .at 1 []), (6, .vec we (.parr 4 K rensh M2)), (7, .bool right), (37, .vec ge (.parr 4 K ensh M1)), (38, .int .i64 K), (39, .int .i64 a)], [(1, ⟨.st 69 [.st 68 [.int .u32 h.ver, .iarr .u8 32 h.prev, .iarr .u8 32 h.root, .int .u32 h.time, .int .u32 h.bits, .int .u32 h.nonce], .vec nl (.parr 1 n bsh T)], false⟩)]⟩
def dBi (h : Hd) (nl : Bool) (n : Nat) (T : List PV) (il : Bool) (m : Nat) (it : List Int) (we ge right : Bool) (K : Nat) (M1 M2 : List PV) (xnl bz nn : Bool) (xN : Nat) (xb : List Int) (e1 d : Nat) (B : List PV) (a j : Nat) : DS := ⟨[(1, .vec il (.iarr .u8 m it)), (2, .at 1 []), (6, .vec we (.parr 4 K rensh M2)), (7, .bool right), (37, .vec ge (.parr 4 K ensh M1)), (38, .int .i64 K), (39, .int .i64 a), (8, .int .i64 a), (9, .at 2 []), (10, .at 3 []), (95, .int .i64 d), (96, .int .i64 j)], [(1, ⟨.st 69 [.st 68 [.int .u32 h.ver, .iarr .u8 32 h.prev, .iarr .u8 32 h.root, .int .u32 h.time, .int .u32 h.bits, .int .u32 h.nonce], .vec nl (.parr 1 n bsh T)], false⟩), (2, ⟨.st 4 [.vec xnl (.iarr .u8 xN xb), .st 3 [.int .i64 n, .int .i64 e1, .vec bz (.parr 32 d hsE B)]], false⟩), (3, ⟨.st 4 [.str (strOf xb), .st 3 [.int .i64 n, .int .i64 e1, .vec nn (.parr 32 d hsE B)]], false⟩)]⟩
theorem W_beIn {h : Hd} {nl : Bool} {n : Nat} {T : List PV} {il : Bool} {m : Nat} {it : List Int} {we ge right : Bool} {K : Nat} {M1 M2 : List PV} {xnl bz nn : Bool} {xN : Nat} {xb : List Int} {e1 d : Nat} {B : List PV} {a : Nat} (ha : a < K) (hK : K ≤ 16) (hd : d ≤ 20) (hM1 : M1.getD a .undef = .st 4 [.vec xnl (.iarr .u8 xN xb), .st 3 [.int .i64 n, .int .i64 e1, .vec bz (.parr 32 d hsE B)]]) (hM2 : M2.getD a .undef = .st 4 [.str (strOf xb), .st 3 [.int .i64 n, .int .i64 e1, .vec bz (.parr 32 d hsE B)]]) (hB : ∀ j, j < d → ∃ y : List Int, B.getD j .undef = .iarr .u8 32 y ∧ y.length = 32)
    (hpr : right = true → PC Tryd.prog G0 17 [] [.st 4 [.vec xnl (.iarr .u8 xN xb), .st 3 [.int .i64 n, .int .i64 e1, .vec bz (.parr 32 d hsE B)]], .st 68 [.int .u32 h.ver, .iarr .u8 32 h.prev, .iarr .u8 32 h.root, .int .u32 h.time, .int .u32 h.bits, .int .u32 h.nonce], .vec il (.iarr .u8 m it)] [] (.int .i64 ((0 : Nat) : Int)))
    (hw : W Tryd.prog G0 Tryd.f6 [] [] (.bool true) (loopAt Tryd.f6 0) (dBo h nl n T il m it we ge right K M1 M2 (a + 1))) : ∀ (r j : Nat), j + r = d → W Tryd.prog G0 Tryd.f6 [] [] (.bool true) (loopAt Tryd.f6 1) (dBi h nl n T il m it we ge right K M1 M2 xnl bz nn xN xb e1 d B a j)
  | 0, j, hj => by
    have hjd : j = d := by omega
    subst hjd
    unfold dBo at hw
    unfold dBi
    rcases right with _ | _
    · refine W.seg [(0, aF), (10, aV (I6 (↑(a + 1) : Int)))] [(1, 1)] (DS.mk [(1, PV.vec il (B8 m it)), (2, PV.at 1 []), (6, PV.vec we (PV.parr 4 K rensh M2)), (7, PV.bool false), (37, PV.vec ge (PV.parr 4 K ensh M1)), (38, I6 (K:Int)), (39, I6 (↑(a + 1) : Int))] [(1, Row.mk (PV.st 69 [Hd.pv h, PV.vec nl (PV.parr 1 n bsh T)]) false)]) (todo' := loopAt Tryd.f6 0) [decide ((j:Int) < (j:Int)) = false, I6 (IntKind.wrap .i64 ((a:Int) + 1)) = I6 (↑(a + 1) : Int), rr (PV.vec il (B8 m it)), rr (PV.at 1 []), rr (PV.vec we (PV.parr 4 K (Sh.st 4 [Sh.str, Sh.st 3 [Sh.int IntKind.i64, Sh.int IntKind.i64, Sh.vec 32 (Sh.iarr IntKind.u8 32)]]) M2)), rr (PV.bool false), rr (PV.vec ge (PV.parr 4 K (Sh.st 4 [Sh.vec 1 (Sh.int IntKind.u8), Sh.st 3 [Sh.int IntKind.i64, Sh.int IntKind.i64, Sh.vec 32 (Sh.iarr IntKind.u8 32)]]) M1)), rr (I6 (K:Int)), rr (I6 (↑(a + 1) : Int)), rr (PV.st 69 [Hd.pv h, PV.vec nl (PV.parr 1 n (Sh.vec 1 (Sh.int IntKind.u8)) T)])] (by kernel_rfl) (ac (decide_eq_false (by omega)) (ac (cg (w_i64 rfl (by omega) (by omega))) (ac rfl (ac rfl (ac rfl (ac rfl (ac rfl (ac rfl (ac rfl (ao rfl)))))))))) ?_
      exact hw
    · have c1 := hpr rfl
      refine W.seg [(0, aF), (7, aK (I6 (↑(0 : Nat) : Int))), (10, aV (I6 (↑(a + 1) : Int)))] [(1, 1)] (DS.mk [(1, PV.vec il (B8 m it)), (2, PV.at 1 []), (6, PV.vec we (PV.parr 4 K rensh M2)), (7, PV.bool true), (37, PV.vec ge (PV.parr 4 K ensh M1)), (38, I6 (K:Int)), (39, I6 (↑(a + 1) : Int))] [(1, Row.mk (PV.st 69 [Hd.pv h, PV.vec nl (PV.parr 1 n bsh T)]) false)]) (todo' := loopAt Tryd.f6 0) [decide ((j:Int) < (j:Int)) = false, PC Tryd.prog G0 17 [] [PV.st 4 [PV.vec xnl (B8 xN xb), PV.st 3 [I6 (n:Int), I6 (e1:Int), PV.vec bz (PV.parr 32 j (Sh.iarr IntKind.u8 32) B)]], Hd.pv h, PV.vec il (B8 m it)] [] (I6 (↑(0 : Nat) : Int)), I6 (IntKind.wrap .i64 ((a:Int) + 1)) = I6 (↑(a + 1) : Int), rr (PV.vec il (B8 m it)), rr (PV.at 1 []), rr (PV.vec we (PV.parr 4 K (Sh.st 4 [Sh.str, Sh.st 3 [Sh.int IntKind.i64, Sh.int IntKind.i64, Sh.vec 32 (Sh.iarr IntKind.u8 32)]]) M2)), rr (PV.bool true), rr (PV.vec ge (PV.parr 4 K (Sh.st 4 [Sh.vec 1 (Sh.int IntKind.u8), Sh.st 3 [Sh.int IntKind.i64, Sh.int IntKind.i64, Sh.vec 32 (Sh.iarr IntKind.u8 32)]]) M1)), rr (I6 (K:Int)), rr (I6 (↑(a + 1) : Int)), rr (PV.st 69 [Hd.pv h, PV.vec nl (PV.parr 1 n (Sh.vec 1 (Sh.int IntKind.u8)) T)])] (by kernel_rfl) (ac (decide_eq_false (by omega)) (ac (hpr rfl) (ac (cg (w_i64 rfl (by omega) (by omega))) (ac rfl (ac rfl (ac rfl (ac rfl (ac rfl (ac rfl (ac rfl (ao rfl))))))))))) ?_
      exact hw
  | r + 1, j, hj => by
    obtain ⟨y, gB, hy⟩ := hB j (by omega)
    have ih := W_beIn (nn := nn) ha hK hd hM1 hM2 hB hpr hw r (j + 1) (by omega)
    have hjd : j < d := by omega
    clear hw hpr hB
    unfold dBi at *
    refine W.seg [(0, aT), (8, aV (B8 32 y)), (14, aV (PV.vec bz (PV.parr 32 d (Sh.iarr IntKind.u8 32) B))), (17, aV (B8 32 y)), (18, aF), (19, aV (I6 (↑(j + 1) : Int)))] [(1, 1), (2, 2), (3, 3)] (DS.mk [(1, PV.vec il (B8 m it)), (2, PV.at 1 []), (6, PV.vec we (PV.parr 4 K rensh M2)), (7, PV.bool right), (37, PV.vec ge (PV.parr 4 K ensh M1)), (38, I6 (K:Int)), (39, I6 (a:Int)), (8, I6 (a:Int)), (9, PV.at 2 []), (10, PV.at 3 []), (95, I6 (d:Int)), (96, I6 (↑(j + 1) : Int))] [(1, Row.mk (PV.st 69 [Hd.pv h, PV.vec nl (PV.parr 1 n bsh T)]) false), (2, Row.mk (PV.st 4 [PV.vec xnl (B8 xN xb), PV.st 3 [I6 (n:Int), I6 (e1:Int), PV.vec bz (PV.parr 32 d hsE B)]]) false), (3, Row.mk (PV.st 4 [PV.str (strOf xb), PV.st 3 [I6 (n:Int), I6 (e1:Int), PV.vec nn (PV.parr 32 d hsE B)]]) false)]) (todo' := loopAt Tryd.f6 1) [decide ((j:Int) < (d:Int)) = true, 0 ≤ (j:Int), (j:Int) < (d:Int), B8 32 (PV.nums (List.getD B j PV.undef)) = B8 32 y, j < d, 0 ≤ (a:Int), (a:Int) < (K:Int), PV.vec (PV.nil? (List.headD (List.tail (List.tail (PV.fs (List.headD (List.tail (PV.fs (List.getD M2 a PV.undef))) PV.undef)))) PV.undef)) (PV.parr 32 (PV.len (PV.els (List.headD (List.tail (List.tail (PV.fs (List.headD (List.tail (PV.fs (List.getD M2 a PV.undef))) PV.undef)))) PV.undef))) (Sh.iarr IntKind.u8 32) (PV.parts (PV.els (List.headD (List.tail (List.tail (PV.fs (List.headD (List.tail (PV.fs (List.getD M2 a PV.undef))) PV.undef)))) PV.undef)))) = PV.vec bz (PV.parr 32 d (Sh.iarr IntKind.u8 32) B), a < K, 0 ≤ (j:Int), (j:Int) < (d:Int), B8 32 (PV.nums (List.getD B j PV.undef)) = B8 32 y, j < d, (!decide (y = y)) = false, I6 (IntKind.wrap .i64 ((j:Int) + 1)) = I6 (↑(j + 1) : Int), rr (PV.vec il (B8 m it)), rr (PV.at 1 []), rr (PV.vec we (PV.parr 4 K (Sh.st 4 [Sh.str, Sh.st 3 [Sh.int IntKind.i64, Sh.int IntKind.i64, Sh.vec 32 (Sh.iarr IntKind.u8 32)]]) M2)), rr (PV.bool right), rr (PV.vec ge (PV.parr 4 K (Sh.st 4 [Sh.vec 1 (Sh.int IntKind.u8), Sh.st 3 [Sh.int IntKind.i64, Sh.int IntKind.i64, Sh.vec 32 (Sh.iarr IntKind.u8 32)]]) M1)), rr (I6 (K:Int)), rr (I6 (a:Int)), rr (I6 (a:Int)), rr (PV.at 2 []), rr (PV.at 3 []), rr (I6 (d:Int)), rr (I6 (↑(j + 1) : Int)), rr (PV.st 69 [Hd.pv h, PV.vec nl (PV.parr 1 n (Sh.vec 1 (Sh.int IntKind.u8)) T)]), rr (PV.st 4 [PV.vec xnl (B8 xN xb), PV.st 3 [I6 (n:Int), I6 (e1:Int), PV.vec bz (PV.parr 32 d (Sh.iarr IntKind.u8 32) B)]]), rr (PV.st 4 [PV.str (strOf xb), PV.st 3 [I6 (n:Int), I6 (e1:Int), PV.vec nn (PV.parr 32 d (Sh.iarr IntKind.u8 32) B)]])] (by kernel_rfl) (ac (decide_eq_true (by omega)) (ac (by omega) (ac (by omega) (ac (by (rw [gB]; rfl)) (ac (by omega) (ac (by omega) (ac (by omega) (ac (by (rw [hM2]; rfl)) (ac (by omega) (ac (by omega) (ac (by omega) (ac (by (rw [gB]; rfl)) (ac (by omega) (ac (by (simp [*]; done)) (ac (cg (w_i64 rfl (by omega) (by omega))) (ac rfl (ac rfl (ac rfl (ac rfl (ac rfl (ac rfl (ac rfl (ac rfl (ac rfl (ac rfl (ac rfl (ac rfl (ac rfl (ac rfl (ao rfl)))))))))))))))))))))))))))))) ?_
    exact ih
theorem W_beStep {h : Hd} {nl : Bool} {n : Nat} {T : List PV} {il : Bool} {m : Nat} {it : List Int} {we ge right : Bool} {K : Nat} {M1 M2 : List PV} {xnl bz nn : Bool} {xN : Nat} {xb : List Int} {e1 d : Nat} {B : List PV} {a : Nat} (hn : n ≤ 16) (ha : a < K) (hK : K ≤ 16) (hd : d ≤ 20) (hxl : xb.length = xN) (hxN : xN ≤ 1000000) (hM1 : M1.getD a .undef = .st 4 [.vec xnl (.iarr .u8 xN xb), .st 3 [.int .i64 n, .int .i64 e1, .vec bz (.parr 32 d hsE B)]]) (hM2 : M2.getD a .undef = .st 4 [.str (strOf xb), .st 3 [.int .i64 n, .int .i64 e1, .vec bz (.parr 32 d hsE B)]]) (hB : ∀ j, j < d → ∃ y : List Int, B.getD j .undef = .iarr .u8 32 y ∧ y.length = 32)
    (cl : PC Tryd.prog G0 19 [] [.st 4 [.vec xnl (.iarr .u8 xN xb), .st 3 [.int .i64 n, .int .i64 e1, .vec bz (.parr 32 d hsE B)]]] [] (.st 4 [.str (strOf xb), .st 3 [.int .i64 n, .int .i64 e1, .vec nn (.parr 32 d hsE B)]])) (hpr : right = true → PC Tryd.prog G0 17 [] [.st 4 [.vec xnl (.iarr .u8 xN xb), .st 3 [.int .i64 n, .int .i64 e1, .vec bz (.parr 32 d hsE B)]], .st 68 [.int .u32 h.ver, .iarr .u8 32 h.prev, .iarr .u8 32 h.root, .int .u32 h.time, .int .u32 h.bits, .int .u32 h.nonce], .vec il (.iarr .u8 m it)] [] (.int .i64 ((0 : Nat) : Int)))
    (hw : W Tryd.prog G0 Tryd.f6 [] [] (.bool true) (loopAt Tryd.f6 0) (dBo h nl n T il m it we ge right K M1 M2 (a + 1))) : W Tryd.prog G0 Tryd.f6 [] [] (.bool true) (loopAt Tryd.f6 0) (dBo h nl n T il m it we ge right K M1 M2 a) := by
  have hi := W_beIn (nn := nn) ha hK hd hM1 hM2 hB hpr hw d 0 (by omega)
  clear hw hpr hB
  have heq := ba_neF (a := strOf xb) (b := strOf xb) rfl
  unfold dBi at hi
  unfold dBo
  generalize strOf xb = s at *
  refine W.seg [(0, aT), (3, aV (PV.st 4 [PV.vec xnl (B8 xN xb), PV.st 3 [I6 (n:Int), I6 (e1:Int), PV.vec bz (PV.parr 32 d (Sh.iarr IntKind.u8 32) B)]])), (8, Ans.call false [] [] (PV.st 4 [PV.str s, PV.st 3 [I6 (n:Int), I6 (e1:Int), PV.vec nn (PV.parr 32 d (Sh.iarr IntKind.u8 32) B)]])), (17, aV (PV.str s)), (18, aF), (28, aV (I6 (n:Int))), (29, aF), (40, aV (I6 (e1:Int))), (41, aF), (53, aV (PV.vec bz (PV.parr 32 d (Sh.iarr IntKind.u8 32) B))), (55, aF)] [(1, 1), (128, 2), (208, 3)] (DS.mk [(1, PV.vec il (B8 m it)), (2, PV.at 1 []), (6, PV.vec we (PV.parr 4 K rensh M2)), (7, PV.bool right), (37, PV.vec ge (PV.parr 4 K ensh M1)), (38, I6 (K:Int)), (39, I6 (a:Int)), (8, I6 (a:Int)), (9, PV.at 2 []), (10, PV.at 3 []), (95, I6 (d:Int)), (96, I6 (↑(0 : Nat) : Int))] [(1, Row.mk (PV.st 69 [Hd.pv h, PV.vec nl (PV.parr 1 n bsh T)]) false), (2, Row.mk (PV.st 4 [PV.vec xnl (B8 xN xb), PV.st 3 [I6 (n:Int), I6 (e1:Int), PV.vec bz (PV.parr 32 d hsE B)]]) false), (3, Row.mk (PV.st 4 [PV.str s, PV.st 3 [I6 (n:Int), I6 (e1:Int), PV.vec nn (PV.parr 32 d hsE B)]]) false)]) (todo' := loopAt Tryd.f6 1) [decide ((a:Int) < (K:Int)) = true, 0 ≤ (a:Int), (a:Int) < (K:Int), PV.st 4 [PV.vec (PV.nil? (List.headD (PV.fs (List.getD M1 a PV.undef)) PV.undef)) (B8 (PV.len (PV.els (List.headD (PV.fs (List.getD M1 a PV.undef)) PV.undef))) (PV.nums (PV.els (List.headD (PV.fs (List.getD M1 a PV.undef)) PV.undef)))), PV.st 3 [I6 (PV.num (List.headD (PV.fs (List.headD (List.tail (PV.fs (List.getD M1 a PV.undef))) PV.undef)) PV.undef)), I6 (PV.num (List.headD (List.tail (PV.fs (List.headD (List.tail (PV.fs (List.getD M1 a PV.undef))) PV.undef))) PV.undef)), PV.vec (PV.nil? (List.headD (List.tail (List.tail (PV.fs (List.headD (List.tail (PV.fs (List.getD M1 a PV.undef))) PV.undef)))) PV.undef)) (PV.parr 32 (PV.len (PV.els (List.headD (List.tail (List.tail (PV.fs (List.headD (List.tail (PV.fs (List.getD M1 a PV.undef))) PV.undef)))) PV.undef))) (Sh.iarr IntKind.u8 32) (PV.parts (PV.els (List.headD (List.tail (List.tail (PV.fs (List.headD (List.tail (PV.fs (List.getD M1 a PV.undef))) PV.undef)))) PV.undef))))]] = PV.st 4 [PV.vec xnl (B8 xN xb), PV.st 3 [I6 (n:Int), I6 (e1:Int), PV.vec bz (PV.parr 32 d (Sh.iarr IntKind.u8 32) B)]], a < K, PC Tryd.prog G0 19 [] [PV.st 4 [PV.vec xnl (B8 xN xb), PV.st 3 [I6 (n:Int), I6 (e1:Int), PV.vec bz (PV.parr 32 d (Sh.iarr IntKind.u8 32) B)]]] [] (PV.st 4 [PV.str s, PV.st 3 [I6 (n:Int), I6 (e1:Int), PV.vec nn (PV.parr 32 d (Sh.iarr IntKind.u8 32) B)]]), 0 ≤ (a:Int), (a:Int) < (K:Int), PV.str (PV.text (List.headD (PV.fs (List.getD M2 a PV.undef)) PV.undef)) = PV.str s, a < K, (!ByteArray.toList s == ByteArray.toList s) = false, 0 ≤ (a:Int), (a:Int) < (K:Int), I6 (PV.num (List.headD (PV.fs (List.headD (List.tail (PV.fs (List.getD M2 a PV.undef))) PV.undef)) PV.undef)) = I6 (n:Int), a < K, ((n:Int) != (n:Int)) = false, 0 ≤ (a:Int), (a:Int) < (K:Int), I6 (PV.num (List.headD (List.tail (PV.fs (List.headD (List.tail (PV.fs (List.getD M2 a PV.undef))) PV.undef))) PV.undef)) = I6 (e1:Int), a < K, ((e1:Int) != (e1:Int)) = false, 0 ≤ (a:Int), (a:Int) < (K:Int), PV.vec (PV.nil? (List.headD (List.tail (List.tail (PV.fs (List.headD (List.tail (PV.fs (List.getD M2 a PV.undef))) PV.undef)))) PV.undef)) (PV.parr 32 (PV.len (PV.els (List.headD (List.tail (List.tail (PV.fs (List.headD (List.tail (PV.fs (List.getD M2 a PV.undef))) PV.undef)))) PV.undef))) (Sh.iarr IntKind.u8 32) (PV.parts (PV.els (List.headD (List.tail (List.tail (PV.fs (List.headD (List.tail (PV.fs (List.getD M2 a PV.undef))) PV.undef)))) PV.undef)))) = PV.vec bz (PV.parr 32 d (Sh.iarr IntKind.u8 32) B), a < K, ((d:Int) != (d:Int)) = false, rr (PV.vec il (B8 m it)), rr (PV.at 1 []), rr (PV.vec we (PV.parr 4 K (Sh.st 4 [Sh.str, Sh.st 3 [Sh.int IntKind.i64, Sh.int IntKind.i64, Sh.vec 32 (Sh.iarr IntKind.u8 32)]]) M2)), rr (PV.bool right), rr (PV.vec ge (PV.parr 4 K (Sh.st 4 [Sh.vec 1 (Sh.int IntKind.u8), Sh.st 3 [Sh.int IntKind.i64, Sh.int IntKind.i64, Sh.vec 32 (Sh.iarr IntKind.u8 32)]]) M1)), rr (I6 (K:Int)), rr (I6 (a:Int)), rr (I6 (a:Int)), rr (PV.at 2 []), rr (PV.at 3 []), rr (I6 (d:Int)), I6 0 = I6 (↑(0 : Nat) : Int), rr (PV.st 69 [Hd.pv h, PV.vec nl (PV.parr 1 n (Sh.vec 1 (Sh.int IntKind.u8)) T)]), rr (PV.st 4 [PV.vec xnl (B8 xN xb), PV.st 3 [I6 (n:Int), I6 (e1:Int), PV.vec bz (PV.parr 32 d (Sh.iarr IntKind.u8 32) B)]]), rr (PV.st 4 [PV.str s, PV.st 3 [I6 (n:Int), I6 (e1:Int), PV.vec nn (PV.parr 32 d (Sh.iarr IntKind.u8 32) B)]])] (by kernel_rfl) (ac (decide_eq_true (by omega)) (ac (by omega) (ac (by omega) (ac (by (rw [hM1]; rfl)) (ac (by omega) (ac (cl) (ac (by omega) (ac (by omega) (ac (by (rw [hM2]; rfl)) (ac (by omega) (ac (by assumption) (ac (by omega) (ac (by omega) (ac (cg (by (rw [hM2]; rfl))) (ac (by omega) (ac (bne_eq_false_iff_eq.2 (by omega)) (ac (by omega) (ac (by omega) (ac (cg (by (rw [hM2]; rfl))) (ac (by omega) (ac (bne_eq_false_iff_eq.2 (by omega)) (ac (by omega) (ac (by omega) (ac (by (rw [hM2]; rfl)) (ac (by omega) (ac (bne_eq_false_iff_eq.2 (by omega)) (ac rfl (ac rfl (ac rfl (ac rfl (ac rfl (ac rfl (ac rfl (ac rfl (ac rfl (ac rfl (ac rfl (ac (cg (by omega)) (ac rfl (ac rfl (ao rfl))))))))))))))))))))))))))))))))))))))))) ?_
  exact hi
theorem hv_ex {P : List (List Int)} {d : Nat} (hP : HsOk P d) : ∀ j, j < d → ∃ y : List Int, (P.map hv).getD j .undef = .iarr .u8 32 y ∧ y.length = 32 := fun j hj =>
  ⟨P.getD j [], hv_get (by rw [hP.len]; exact hj), (hP.get hj).1⟩
theorem path_ok {P : List (List Int)} {n i : Nat} (ho : HsOk P n) (hi : i < n) : HsOk (pathM P i) (depM n) := by
  refine ⟨by rw [pathM_length, ho.len], fun x hx => ?_⟩
  unfold pathM at hx
  obtain ⟨k, hk, rfl⟩ := List.mem_map.1 hx
  unfold pathE
  rw [ho.len]
  exact (ho.lvl k).get (sib_lt (wid_div hi k))
theorem W_be {h : Hd} {nl : Bool} {n : Nat} {L : List TxM} {il : Bool} {m : Nat} {it : List Int} {we ge right : Bool} (hh : h.Ok) (ho : TxsOk L n) (hn : n ≤ 16) (hit : it.length = m) (bit : Bytes it) (hright : right = true → checkE h L = 0) : ∀ (r a : Nat), a + r = (entsM it 0 L).length →
    W Tryd.prog G0 Tryd.f6 [] [] (.bool true) (loopAt Tryd.f6 0) (dBo h nl n (L.map bsPV) il m it we ge right (entsM it 0 L).length ((entsM it 0 L).map (entPV n (idsM L))) ((entsM it 0 L).map (rentPV n (idsM L))) a)
  | 0, a, hr => by
    have ha : a = (entsM it 0 L).length := by omega
    rw [← ha]
    have ca := pc_awake
    generalize (entsM it 0 L).map (entPV n (idsM L)) = M1 at *
    generalize (entsM it 0 L).map (rentPV n (idsM L)) = M2 at *
    generalize L.map bsPV = T at *
    have hK : a ≤ 1000000 := by have := ents_len (it := it) L 0; rw [ho.len] at this; omega
    clear ha hr hright
    unfold dBo
    refine W.ret [(0, aF), (1, aK (PV.bool true))] [] [decide ((a:Int) < (a:Int)) = false, PC Tryd.prog G0 8 [] [] [] (PV.bool true), rr (PV.bool true)] (by kernel_rfl) (ac (decide_eq_false (by omega)) (ac (ca) (ao rfl)))
  | r + 1, a, hr => by
    have hlt : a < (entsM it 0 L).length := by omega
    obtain ⟨j, e1, e2, e3, e4⟩ := ents_get hlt
    have ih := W_be (nl := nl) (il := il) (we := we) (ge := ge) hh ho hn hit bit hright r (a + 1) (by omega)
    have hK := ents_len (it := it) L 0
    rw [ho.len] at hK e2
    have g1 : ((entsM it 0 L).map (entPV n (idsM L))).getD a .undef = entPV n (idsM L) ((entsM it 0 L).getD a default) := by simp [List.getD_eq_getElem?_getD, hlt]
    have g2 : ((entsM it 0 L).map (rentPV n (idsM L))).getD a .undef = rentPV n (idsM L) ((entsM it 0 L).getD a default) := by simp [List.getD_eq_getElem?_getD, hlt]
    generalize (entsM it 0 L).getD a default = e at *
    obtain ⟨p, x⟩ := e
    dsimp only at e1 e3 e4
    have hpj : p = j := by omega
    subst hpj
    obtain ⟨hb, hnl, hN⟩ := ho.get e2
    rw [e3] at hb hnl hN
    have hpo := path_ok (idsM_ok ho) e2
    have hdep := dep_small (n := n) (by omega)
    have cl := pc_lawEntry (tn := x.1) (c := (n : Int)) (i := (p : Int)) (nl := decide (depM n = 0)) hb.1 hN hpo (by omega)
    refine W_beStep (xnl := x.1) (xN := x.2.1) (xb := x.2.2) (e1 := p) (d := depM n) (B := (pathM (idsM L) p).map hv) (bz := decide (depM n = 0)) (nn := decide (depM n = 0)) hn hlt (by omega) (by omega) hb.1 hN g1 g2 (hv_ex hpo) cl (fun hrt => ?_) ih
    have hp := ent_right (h := h) (by rw [ho.len]; exact e2) e3 e4 (hright hrt)
    rw [ho.len] at hp
    have c1 := pc_proves (c := (n : Int)) (i := (p : Int)) (nl := decide (depM n = 0)) (il := il) (h := h) (tn := x.1) (N := x.2.1) (b := x.2.2) hb hN hnl hpo (by omega) hh.root hit bit
    rw [hp] at c1
    exact c1
theorem checkE_le (h : Hd) (L : List TxM) : checkE h L ≤ 100 := by
  unfold checkE
  split
  · split <;> omega
  · exact soundE_le L
theorem pc_blockEntries {h : Hd} {nl il : Bool} {n m : Nat} {L : List TxM} {it : List Int} (hh : h.Ok) (hw : TxsW L n) (hit : it.length = m) (bit : Bytes it) : PC Tryd.prog G0 6 [] [blkPV h nl n L, .vec il (.iarr .u8 m it)] [] (.bool true) := by
  refine PC.of (fn := Tryd.f6) (c := bodyOf Tryd.f6) Tryd.func6 (by kernel_rfl) (by kernel_rfl) (by kernel_rfl) (by kernel_rfl) ?_
  have c0 := pc_smallW (h := h) (nl := nl) hw
  have ca := pc_awake
  by_cases hs : smallB L = true
  · obtain ⟨ho, hn⟩ := hw.ok hs
    rw [hs] at c0
    by_cases hm : m ≤ 100
    · have c1 := pc_lawRef (h := h) (nl := nl) ho (by omega)
      have c2 := pc_bCheck (h := h) (nl := nl) hh ho (by omega)
      by_cases h16 : n ≤ 16
      · have c3 := pc_entries (h := h) (nl := nl) (il := il) ho h16 hit bit
        have c4 := pc_rEntries (h := h) ho h16 bit (by omega)
        have hwk := fun we ge right hr => W_be (nl := nl) (il := il) (we := we) (ge := ge) (right := right) hh ho h16 hit bit hr (entsM it 0 L).length 0 (by omega)
        have hK := ents_len (it := it) L 0
        rw [ho.len] at hK
        unfold resE at c3
        unfold resR at c4
        rw [List.length_map] at c3 c4
        generalize ((entsM it 0 L).map (entPV n (idsM L))).isEmpty = ge at *
        generalize ((entsM it 0 L).map (rentPV n (idsM L))).isEmpty = we at *
        generalize (entsM it 0 L).map (entPV n (idsM L)) = M1 at *
        generalize (entsM it 0 L).map (rentPV n (idsM L)) = M2 at *
        generalize (entsM it 0 L).length = K at *
        have hce := checkE_le h L
        by_cases hc : checkE h L = 0
        · have hk2 := hwk we ge true (fun _ => hc)
          clear hwk
          rw [hc] at c2
          clear hce hc hs
          unfold blkPV txsPV rblkPV txtsPV at *
          generalize L.map bsPV = T at *
          generalize L.map stPV = S at *
          generalize decide (n = 0) = nw at *
          unfold dBo at hk2
          unfold Hd.pv at *
          refine W.seg [(3, aK (PV.bool true)), (8, aF), (12, Ans.call false [] [] (PV.vec ge (PV.parr 4 K (Sh.st 4 [Sh.vec 1 (Sh.int IntKind.u8), Sh.st 3 [Sh.int IntKind.i64, Sh.int IntKind.i64, Sh.vec 32 (Sh.iarr IntKind.u8 32)]]) M1))), (14, Ans.call false [] [] (PV.st 69 [Hd.pv h, PV.vec nw (PV.parr 1 n Sh.str S)])), (17, Ans.call false [] [] (PV.vec we (PV.parr 4 K (Sh.st 4 [Sh.str, Sh.st 3 [Sh.int IntKind.i64, Sh.int IntKind.i64, Sh.vec 32 (Sh.iarr IntKind.u8 32)]]) M2))), (24, aF), (26, aK (I6 (↑(0 : Nat) : Int)))] [(64, 1)] (DS.mk [(1, PV.vec il (B8 m it)), (2, PV.at 1 []), (6, PV.vec we (PV.parr 4 K rensh M2)), (7, PV.bool true), (37, PV.vec ge (PV.parr 4 K ensh M1)), (38, I6 (K:Int)), (39, I6 (↑(0 : Nat) : Int))] [(1, Row.mk (PV.st 69 [Hd.pv h, PV.vec nl (PV.parr 1 n bsh T)]) false)]) (todo' := loopAt Tryd.f6 0) [PC Tryd.prog G0 7 [] [PV.st 69 [Hd.pv h, PV.vec nl (PV.parr 1 n (Sh.vec 1 (Sh.int IntKind.u8)) T)]] [] (PV.bool true), decide ((m:Int) > 100) = false, PC Tryd.prog G0 20 [] [PV.st 69 [Hd.pv h, PV.vec nl (PV.parr 1 n (Sh.vec 1 (Sh.int IntKind.u8)) T)], PV.vec il (B8 m it)] [] (PV.vec ge (PV.parr 4 K (Sh.st 4 [Sh.vec 1 (Sh.int IntKind.u8), Sh.st 3 [Sh.int IntKind.i64, Sh.int IntKind.i64, Sh.vec 32 (Sh.iarr IntKind.u8 32)]]) M1)), PC Tryd.prog G0 9 [] [PV.st 69 [Hd.pv h, PV.vec nl (PV.parr 1 n (Sh.vec 1 (Sh.int IntKind.u8)) T)]] [] (PV.st 69 [Hd.pv h, PV.vec nw (PV.parr 1 n Sh.str S)]), PC Tryd.prog G0 21 [] [PV.st 69 [Hd.pv h, PV.vec nw (PV.parr 1 n Sh.str S)], PV.str (strOf it)] [] (PV.vec we (PV.parr 4 K (Sh.st 4 [Sh.str, Sh.st 3 [Sh.int IntKind.i64, Sh.int IntKind.i64, Sh.vec 32 (Sh.iarr IntKind.u8 32)]]) M2)), ((K:Int) != (K:Int)) = false, PC Tryd.prog G0 12 [] [PV.st 69 [Hd.pv h, PV.vec nl (PV.parr 1 n (Sh.vec 1 (Sh.int IntKind.u8)) T)]] [] (I6 (↑(0 : Nat) : Int)), rr (PV.vec il (B8 m it)), rr (PV.at 1 []), rr (PV.vec we (PV.parr 4 K (Sh.st 4 [Sh.str, Sh.st 3 [Sh.int IntKind.i64, Sh.int IntKind.i64, Sh.vec 32 (Sh.iarr IntKind.u8 32)]]) M2)), rr (PV.bool true), rr (PV.vec ge (PV.parr 4 K (Sh.st 4 [Sh.vec 1 (Sh.int IntKind.u8), Sh.st 3 [Sh.int IntKind.i64, Sh.int IntKind.i64, Sh.vec 32 (Sh.iarr IntKind.u8 32)]]) M1)), rr (I6 (K:Int)), I6 0 = I6 (↑(0 : Nat) : Int), rr (PV.st 69 [Hd.pv h, PV.vec nl (PV.parr 1 n (Sh.vec 1 (Sh.int IntKind.u8)) T)])] (by kernel_rfl) (ac (c0) (ac (decide_eq_false (by omega)) (ac (c3) (ac (c1) (ac (c4) (ac (bne_eq_false_iff_eq.2 (by omega)) (ac (c2) (ac rfl (ac rfl (ac rfl (ac rfl (ac rfl (ac rfl (ac (cg (by omega)) (ao rfl))))))))))))))) ?_
          exact hk2
        · have hk2 := hwk we ge false (fun h => by cases h)
          clear hwk
          have hne : ¬ ((checkE h L : Nat) : Int) = 0 := by omega
          generalize checkE h L = ce at *
          clear hc hs
          unfold blkPV txsPV rblkPV txtsPV at *
          generalize L.map bsPV = T at *
          generalize L.map stPV = S at *
          generalize decide (n = 0) = nw at *
          unfold dBo at hk2
          unfold Hd.pv at *
          refine W.seg [(3, aK (PV.bool true)), (8, aF), (12, Ans.call false [] [] (PV.vec ge (PV.parr 4 K (Sh.st 4 [Sh.vec 1 (Sh.int IntKind.u8), Sh.st 3 [Sh.int IntKind.i64, Sh.int IntKind.i64, Sh.vec 32 (Sh.iarr IntKind.u8 32)]]) M1))), (14, Ans.call false [] [] (PV.st 69 [Hd.pv h, PV.vec nw (PV.parr 1 n Sh.str S)])), (17, Ans.call false [] [] (PV.vec we (PV.parr 4 K (Sh.st 4 [Sh.str, Sh.st 3 [Sh.int IntKind.i64, Sh.int IntKind.i64, Sh.vec 32 (Sh.iarr IntKind.u8 32)]]) M2))), (24, aF), (26, aK (I6 (ce:Int))), (27, aF)] [(64, 1)] (DS.mk [(1, PV.vec il (B8 m it)), (2, PV.at 1 []), (6, PV.vec we (PV.parr 4 K rensh M2)), (7, PV.bool false), (37, PV.vec ge (PV.parr 4 K ensh M1)), (38, I6 (K:Int)), (39, I6 (↑(0 : Nat) : Int))] [(1, Row.mk (PV.st 69 [Hd.pv h, PV.vec nl (PV.parr 1 n bsh T)]) false)]) (todo' := loopAt Tryd.f6 0) [PC Tryd.prog G0 7 [] [PV.st 69 [Hd.pv h, PV.vec nl (PV.parr 1 n (Sh.vec 1 (Sh.int IntKind.u8)) T)]] [] (PV.bool true), decide ((m:Int) > 100) = false, PC Tryd.prog G0 20 [] [PV.st 69 [Hd.pv h, PV.vec nl (PV.parr 1 n (Sh.vec 1 (Sh.int IntKind.u8)) T)], PV.vec il (B8 m it)] [] (PV.vec ge (PV.parr 4 K (Sh.st 4 [Sh.vec 1 (Sh.int IntKind.u8), Sh.st 3 [Sh.int IntKind.i64, Sh.int IntKind.i64, Sh.vec 32 (Sh.iarr IntKind.u8 32)]]) M1)), PC Tryd.prog G0 9 [] [PV.st 69 [Hd.pv h, PV.vec nl (PV.parr 1 n (Sh.vec 1 (Sh.int IntKind.u8)) T)]] [] (PV.st 69 [Hd.pv h, PV.vec nw (PV.parr 1 n Sh.str S)]), PC Tryd.prog G0 21 [] [PV.st 69 [Hd.pv h, PV.vec nw (PV.parr 1 n Sh.str S)], PV.str (strOf it)] [] (PV.vec we (PV.parr 4 K (Sh.st 4 [Sh.str, Sh.st 3 [Sh.int IntKind.i64, Sh.int IntKind.i64, Sh.vec 32 (Sh.iarr IntKind.u8 32)]]) M2)), ((K:Int) != (K:Int)) = false, PC Tryd.prog G0 12 [] [PV.st 69 [Hd.pv h, PV.vec nl (PV.parr 1 n (Sh.vec 1 (Sh.int IntKind.u8)) T)]] [] (I6 (ce:Int)), ((ce:Int) == 0) = false, rr (PV.vec il (B8 m it)), rr (PV.at 1 []), rr (PV.vec we (PV.parr 4 K (Sh.st 4 [Sh.str, Sh.st 3 [Sh.int IntKind.i64, Sh.int IntKind.i64, Sh.vec 32 (Sh.iarr IntKind.u8 32)]]) M2)), rr (PV.bool false), rr (PV.vec ge (PV.parr 4 K (Sh.st 4 [Sh.vec 1 (Sh.int IntKind.u8), Sh.st 3 [Sh.int IntKind.i64, Sh.int IntKind.i64, Sh.vec 32 (Sh.iarr IntKind.u8 32)]]) M1)), rr (I6 (K:Int)), I6 0 = I6 (↑(0 : Nat) : Int), rr (PV.st 69 [Hd.pv h, PV.vec nl (PV.parr 1 n (Sh.vec 1 (Sh.int IntKind.u8)) T)])] (by kernel_rfl) (ac (c0) (ac (decide_eq_false (by omega)) (ac (c3) (ac (c1) (ac (c4) (ac (bne_eq_false_iff_eq.2 (by omega)) (ac (c2) (ac (decide_eq_false (by omega)) (ac rfl (ac rfl (ac rfl (ac rfl (ac rfl (ac rfl (ac (cg (by omega)) (ao rfl)))))))))))))))) ?_
          exact hk2
      · have c3 := pc_entriesN (h := h) (nl := nl) (L := L) (il := il) (m := m) (it := it) (n := n) (by omega)
        have c4 := pc_rEntriesN (h := h) (L := L) (s := strOf it) (n := n) (by omega)
        have hce := checkE_le h L
        change PC _ _ _ _ _ _ (.vec true (.parr 4 0 ensh [])) at c3
        change PC _ _ _ _ _ _ (.vec true (.parr 4 0 rensh [])) at c4
        generalize checkE h L = ce at *
        clear hs
        unfold blkPV txsPV rblkPV txtsPV at *
        generalize L.map bsPV = T at *
        generalize L.map stPV = S at *
        generalize decide (n = 0) = nw at *
        unfold Hd.pv at *
        by_cases hce0 : (ce : Int) = 0
        · refine W.seg [(3, aK (PV.bool true)), (8, aF), (12, aK (PV.vec true (PV.parr 4 0 (Sh.st 4 [Sh.vec 1 (Sh.int IntKind.u8), Sh.st 3 [Sh.int IntKind.i64, Sh.int IntKind.i64, Sh.vec 32 (Sh.iarr IntKind.u8 32)]]) []))), (14, Ans.call false [] [] (PV.st 69 [Hd.pv h, PV.vec nw (PV.parr 1 n Sh.str S)])), (17, aK (PV.vec true (PV.parr 4 0 (Sh.st 4 [Sh.str, Sh.st 3 [Sh.int IntKind.i64, Sh.int IntKind.i64, Sh.vec 32 (Sh.iarr IntKind.u8 32)]]) []))), (21, aV (I6 0)), (23, aV (I6 0)), (26, aK (I6 (ce:Int))), (27, aT), (30, aV (I6 0))] [(64, 1)] (DS.mk [(1, PV.vec il (B8 m it)), (2, PV.at 1 []), (6, PV.vec true (PV.parr 4 0 rensh [])), (7, PV.bool true), (37, PV.vec true (PV.parr 4 0 ensh [])), (38, I6 0), (39, I6 0)] [(1, Row.mk (PV.st 69 [Hd.pv h, PV.vec nl (PV.parr 1 n bsh T)]) false)]) (todo' := loopAt Tryd.f6 0) [PC Tryd.prog G0 7 [] [PV.st 69 [Hd.pv h, PV.vec nl (PV.parr 1 n (Sh.vec 1 (Sh.int IntKind.u8)) T)]] [] (PV.bool true), decide ((m:Int) > 100) = false, PC Tryd.prog G0 20 [] [PV.st 69 [Hd.pv h, PV.vec nl (PV.parr 1 n (Sh.vec 1 (Sh.int IntKind.u8)) T)], PV.vec il (B8 m it)] [] (PV.vec true (PV.parr 4 0 (Sh.st 4 [Sh.vec 1 (Sh.int IntKind.u8), Sh.st 3 [Sh.int IntKind.i64, Sh.int IntKind.i64, Sh.vec 32 (Sh.iarr IntKind.u8 32)]]) [])), PC Tryd.prog G0 9 [] [PV.st 69 [Hd.pv h, PV.vec nl (PV.parr 1 n (Sh.vec 1 (Sh.int IntKind.u8)) T)]] [] (PV.st 69 [Hd.pv h, PV.vec nw (PV.parr 1 n Sh.str S)]), PC Tryd.prog G0 21 [] [PV.st 69 [Hd.pv h, PV.vec nw (PV.parr 1 n Sh.str S)], PV.str (strOf it)] [] (PV.vec true (PV.parr 4 0 (Sh.st 4 [Sh.str, Sh.st 3 [Sh.int IntKind.i64, Sh.int IntKind.i64, Sh.vec 32 (Sh.iarr IntKind.u8 32)]]) [])), I6 (↑(0 : Nat) : Int) = I6 0, I6 (↑(0 : Nat) : Int) = I6 0, PC Tryd.prog G0 12 [] [PV.st 69 [Hd.pv h, PV.vec nl (PV.parr 1 n (Sh.vec 1 (Sh.int IntKind.u8)) T)]] [] (I6 (ce:Int)), ((ce:Int) == 0) = true, I6 (↑(0 : Nat) : Int) = I6 0, rr (PV.vec il (B8 m it)), rr (PV.at 1 []), rr (PV.vec true (PV.parr 4 0 (Sh.st 4 [Sh.str, Sh.st 3 [Sh.int IntKind.i64, Sh.int IntKind.i64, Sh.vec 32 (Sh.iarr IntKind.u8 32)]]) [])), rr (PV.bool true), rr (PV.vec true (PV.parr 4 0 (Sh.st 4 [Sh.vec 1 (Sh.int IntKind.u8), Sh.st 3 [Sh.int IntKind.i64, Sh.int IntKind.i64, Sh.vec 32 (Sh.iarr IntKind.u8 32)]]) [])), rr (I6 0), rr (I6 0), rr (PV.st 69 [Hd.pv h, PV.vec nl (PV.parr 1 n (Sh.vec 1 (Sh.int IntKind.u8)) T)])] (by kernel_rfl) (ac (c0) (ac (decide_eq_false (by omega)) (ac (c3) (ac (c1) (ac (c4) (ac (cg (by omega)) (ac (cg (by omega)) (ac (c2) (ac (decide_eq_true (by omega)) (ac (cg (by omega)) (ac rfl (ac rfl (ac rfl (ac rfl (ac rfl (ac rfl (ac rfl (ao rfl)))))))))))))))))) ?_
          refine W.ret [(1, aK (PV.bool true))] [] [PC Tryd.prog G0 8 [] [] [] (PV.bool true), rr (PV.bool true)] (by kernel_rfl) (ac (ca) (ao rfl))
        · refine W.seg [(3, aK (PV.bool true)), (8, aF), (12, aK (PV.vec true (PV.parr 4 0 (Sh.st 4 [Sh.vec 1 (Sh.int IntKind.u8), Sh.st 3 [Sh.int IntKind.i64, Sh.int IntKind.i64, Sh.vec 32 (Sh.iarr IntKind.u8 32)]]) []))), (14, Ans.call false [] [] (PV.st 69 [Hd.pv h, PV.vec nw (PV.parr 1 n Sh.str S)])), (17, aK (PV.vec true (PV.parr 4 0 (Sh.st 4 [Sh.str, Sh.st 3 [Sh.int IntKind.i64, Sh.int IntKind.i64, Sh.vec 32 (Sh.iarr IntKind.u8 32)]]) []))), (21, aV (I6 0)), (23, aV (I6 0)), (26, aK (I6 (ce:Int))), (27, aF), (30, aV (I6 0))] [(64, 1)] (DS.mk [(1, PV.vec il (B8 m it)), (2, PV.at 1 []), (6, PV.vec true (PV.parr 4 0 rensh [])), (7, PV.bool false), (37, PV.vec true (PV.parr 4 0 ensh [])), (38, I6 0), (39, I6 0)] [(1, Row.mk (PV.st 69 [Hd.pv h, PV.vec nl (PV.parr 1 n bsh T)]) false)]) (todo' := loopAt Tryd.f6 0) [PC Tryd.prog G0 7 [] [PV.st 69 [Hd.pv h, PV.vec nl (PV.parr 1 n (Sh.vec 1 (Sh.int IntKind.u8)) T)]] [] (PV.bool true), decide ((m:Int) > 100) = false, PC Tryd.prog G0 20 [] [PV.st 69 [Hd.pv h, PV.vec nl (PV.parr 1 n (Sh.vec 1 (Sh.int IntKind.u8)) T)], PV.vec il (B8 m it)] [] (PV.vec true (PV.parr 4 0 (Sh.st 4 [Sh.vec 1 (Sh.int IntKind.u8), Sh.st 3 [Sh.int IntKind.i64, Sh.int IntKind.i64, Sh.vec 32 (Sh.iarr IntKind.u8 32)]]) [])), PC Tryd.prog G0 9 [] [PV.st 69 [Hd.pv h, PV.vec nl (PV.parr 1 n (Sh.vec 1 (Sh.int IntKind.u8)) T)]] [] (PV.st 69 [Hd.pv h, PV.vec nw (PV.parr 1 n Sh.str S)]), PC Tryd.prog G0 21 [] [PV.st 69 [Hd.pv h, PV.vec nw (PV.parr 1 n Sh.str S)], PV.str (strOf it)] [] (PV.vec true (PV.parr 4 0 (Sh.st 4 [Sh.str, Sh.st 3 [Sh.int IntKind.i64, Sh.int IntKind.i64, Sh.vec 32 (Sh.iarr IntKind.u8 32)]]) [])), I6 (↑(0 : Nat) : Int) = I6 0, I6 (↑(0 : Nat) : Int) = I6 0, PC Tryd.prog G0 12 [] [PV.st 69 [Hd.pv h, PV.vec nl (PV.parr 1 n (Sh.vec 1 (Sh.int IntKind.u8)) T)]] [] (I6 (ce:Int)), ((ce:Int) == 0) = false, I6 (↑(0 : Nat) : Int) = I6 0, rr (PV.vec il (B8 m it)), rr (PV.at 1 []), rr (PV.vec true (PV.parr 4 0 (Sh.st 4 [Sh.str, Sh.st 3 [Sh.int IntKind.i64, Sh.int IntKind.i64, Sh.vec 32 (Sh.iarr IntKind.u8 32)]]) [])), rr (PV.bool false), rr (PV.vec true (PV.parr 4 0 (Sh.st 4 [Sh.vec 1 (Sh.int IntKind.u8), Sh.st 3 [Sh.int IntKind.i64, Sh.int IntKind.i64, Sh.vec 32 (Sh.iarr IntKind.u8 32)]]) [])), rr (I6 0), rr (I6 0), rr (PV.st 69 [Hd.pv h, PV.vec nl (PV.parr 1 n (Sh.vec 1 (Sh.int IntKind.u8)) T)])] (by kernel_rfl) (ac (c0) (ac (decide_eq_false (by omega)) (ac (c3) (ac (c1) (ac (c4) (ac (cg (by omega)) (ac (cg (by omega)) (ac (c2) (ac (decide_eq_false (by omega)) (ac (cg (by omega)) (ac rfl (ac rfl (ac rfl (ac rfl (ac rfl (ac rfl (ac rfl (ao rfl)))))))))))))))))) ?_
          refine W.ret [(1, aK (PV.bool true))] [] [PC Tryd.prog G0 8 [] [] [] (PV.bool true), rr (PV.bool true)] (by kernel_rfl) (ac (ca) (ao rfl))
    · unfold blkPV txsPV at *
      generalize L.map bsPV = T at *
      unfold Hd.pv at *
      refine W.ret [(3, aK (PV.bool true)), (8, aT), (10, aK (PV.bool true))] [] [PC Tryd.prog G0 7 [] [PV.st 69 [Hd.pv h, PV.vec nl (PV.parr 1 n (Sh.vec 1 (Sh.int IntKind.u8)) T)]] [] (PV.bool true), decide ((m:Int) > 100) = true, PC Tryd.prog G0 8 [] [] [] (PV.bool true), rr (PV.bool true)] (by kernel_rfl) (ac (c0) (ac (decide_eq_true (by omega)) (ac (ca) (ao rfl))))
  · have hs' : smallB L = false := by simpa using hs
    rw [hs'] at c0
    unfold blkPV txsPV at *
    generalize L.map bsPV = T at *
    unfold Hd.pv at *
    refine W.ret [(3, aK (PV.bool false)), (10, aK (PV.bool true))] [] [PC Tryd.prog G0 7 [] [PV.st 69 [Hd.pv h, PV.vec nl (PV.parr 1 n (Sh.vec 1 (Sh.int IntKind.u8)) T)]] [] (PV.bool false), PC Tryd.prog G0 8 [] [] [] (PV.bool true), rr (PV.bool true)] (by kernel_rfl) (ac (c0) (ac (ca) (ao rfl)))
end Go.Proofs
namespace Go.Pe
def laysB (P : Program) (tot : Nat) : Nat → List Field → Bool
  | o, [] => Nat.beq o tot
  | o, f :: l => Nat.beq f.offset o && laysB P tot (o + P.cellsOf f.type) l
def okT (P : Program) : Nat → TypeId → Bool
  | 0, _ => false
  | d + 1, t => match P.underlying t with
    | some .bool | some (.int _) | some .string => Nat.beq (P.cellsOf t) 1
    | some (.struct fs) => laysB P (P.cellsOf t) 0 fs.toList && fs.toList.all fun f => okT P d f.type
    | some (.array n e) => Nat.beq (P.cellsOf t) (n * P.cellsOf e) && szOk P e && okT P d e
    | some (.slice e) => Nat.beq (P.cellsOf t) 1 && szOk P e && okT P d e
    | _ => false
theorem same_refl (k : IntKind) : IntKind.same k k = true := by cases k <;> rfl
theorem beq_refl (s : Sh) : Sh.beq s s = true :=
  Sh.rec (motive_1 := fun s => Sh.beq s s = true) (motive_2 := fun l => Sh.beqL l l = true) rfl same_refl rfl rfl (fun _ _ ih => by simp only [Sh.beq, Bool.and_eq_true]; exact ⟨Nat.beq_refl _, ih⟩)
    (fun k _ => by simp only [Sh.beq, Bool.and_eq_true]; exact ⟨same_refl k, Nat.beq_refl _⟩) (fun _ _ _ ih => by simp only [Sh.beq, Bool.and_eq_true]; exact ⟨⟨Nat.beq_refl _, Nat.beq_refl _⟩, ih⟩)
    (fun _ _ ih => by simp only [Sh.beq, Bool.and_eq_true]; exact ⟨Nat.beq_refl _, ih⟩) rfl (fun _ _ h1 h2 => by simp only [Sh.beqL, Bool.and_eq_true]; exact ⟨h1, h2⟩) s
structure Opens (P : Program) (w : World) (T : T2) (d : Nat) (t : TypeId) (cs : List Value) (p : PV) : Prop where
  conf : conf (shOf P d t) p = true
  wf : WF p
  noref : noref p = true
  untup : untup p = true
  size : size p = P.cellsOf t
  len : cs.length = P.cellsOf t
  agg : Pe.isAgg p = isAggT P t
  rel : ∀ (j : Nat) (q : PV) (u : Value), (flat p)[j]? = some q → cs[j]? = some u → RC w T u q
theorem mapM_get {α β : Type} {g : α → Option β} : ∀ {l : List α} {xs : List β}, l.mapM g = some xs → ∀ i ∈ l, ∃ y, g i = some y
  | [], _, _, i, hi => by cases hi
  | a :: l, xs, h, i, hi => by
    rw [List.mapM_cons] at h
    simp only [Option.bind_eq_bind, Option.bind_eq_some_iff] at h
    obtain ⟨y, hy, ys, hys, _⟩ := h
    rcases List.mem_cons.1 hi with rfl | hi
    · exact ⟨y, hy⟩
    · exact mapM_get hys i hi
theorem flatL_nth {s : Nat} (hs : 0 < s) : ∀ {l : List PV}, WFL l → (∀ q ∈ l, Pe.size q = s) → ∀ {j : Nat} {q : PV}, (flatL l)[j]? = some q → ∃ p, l[j / s]? = some p ∧ (flat p)[j % s]? = some q
  | [], _, _, j, q, h => by simp [flatL] at h
  | p :: l, hw, hz, j, q, h => by
    simp only [WFL] at hw
    have hl : (flat p).length = s := by rw [flat_length p hw.1, hz p (by simp)]
    simp only [flatL] at h
    by_cases hj : j < s
    · rw [List.getElem?_append_left (by omega)] at h
      refine ⟨p, by rw [Nat.div_eq_of_lt hj]; rfl, by rw [Nat.mod_eq_of_lt hj]; exact h⟩
    · rw [List.getElem?_append_right (by omega), hl] at h
      obtain ⟨p', h1, h2⟩ := flatL_nth hs hw.2 (fun q hq => hz q (by simp [hq])) h
      have e : j = (j - s) + s := by omega
      refine ⟨p', ?_, ?_⟩
      · rw [e, Nat.add_div_right _ hs]
        simpa using h1
      · rw [e, Nat.add_mod_right]; exact h2
/-- The row of n elements. -/
def arrOf (P : Program) (d : Nat) (e : TypeId) (l : List PV) : PV := match P.underlying e with
  | some (.int k) => .iarr k l.length (l.map PV.num)
  | _ => .parr (P.cellsOf e) l.length (shOf P d e) l
section
variable {P : Program} {w : World} {T : T2}
theorem shOf_int {d : Nat} {e : TypeId} {k : IntKind} (h : P.underlying e = some (.int k)) : shOf P (d + 1) e = .int k := by simp only [shOf, h]
theorem shOf_slice {d : Nat} {t e : TypeId} (h : P.underlying t = some (.slice e)) : shOf P (d + 1) t = .vec (P.cellsOf e) (shOf P d e) := by simp only [shOf, h]
theorem arrOf_spec {d : Nat} {e : TypeId} {l : List PV} (hok : okT P d e = true) (hl : ∀ q ∈ l, Pe.conf (shOf P d e) q = true ∧ WF q ∧ Pe.noref q = true ∧ Pe.untup q = true ∧ Pe.size q = P.cellsOf e) :
    WF (arrOf P d e l) ∧ isArr (arrOf P d e l) = true ∧ arrLen (arrOf P d e l) = l.length ∧ elSize (arrOf P d e l) = P.cellsOf e ∧ Pe.untup (arrOf P d e l) = true ∧ flat (arrOf P d e l) = flatL l ∧ Pe.size (arrOf P d e l) = l.length * P.cellsOf e := by
  have hut : untupL l = true := by
    clear hok
    induction l with
    | nil => rfl
    | cons p l ih =>
      simp only [untupL, Bool.and_eq_true]
      exact ⟨(hl p (by simp)).2.2.2.1, ih fun q hq => hl q (by simp [hq])⟩
  unfold arrOf
  split
  · rename_i k hu
    obtain ⟨d', rfl⟩ : ∃ d', d = d' + 1 := by cases d with
      | zero => simp [okT] at hok
      | succ d => exact ⟨d, rfl⟩
    have h1 : P.cellsOf e = 1 := by
      simp only [okT, hu] at hok
      exact Nat.eq_of_beq_eq_true hok
    have hq : ∀ q ∈ l, ∃ x, q = .int k x ∧ k.wrap x = x := by
      intro q hq
      have := hl q hq
      rw [shOf_int hu] at this
      cases q <;> simp only [Pe.conf, reduceCtorEq, false_and] at this
      rename_i k' x
      have hk := IntKind.same_eq this.1
      subst hk
      exact ⟨x, rfl, by simpa only [WF] using this.2.1⟩
    have hf : (l.map PV.num).map (PV.int k) = l := by
      rw [List.map_map]
      conv => rhs; rw [← List.map_id l]
      refine List.map_congr_left fun q hql => ?_
      obtain ⟨x, rfl, _⟩ := hq q hql
      rfl
    have hfl : flatL l = l := by
      clear hok hf
      induction l with
      | nil => rfl
      | cons p l ih =>
        obtain ⟨x, rfl, _⟩ := hq p (by simp)
        simp only [flatL, flat]
        rw [ih (by simp only [untupL, Bool.and_eq_true] at hut; exact hut.2) (fun q hq' => hl q (by simp [hq'])) (fun q hq' => hq q (by simp [hq']))]
        rfl
    refine ⟨?_, rfl, rfl, by simp only [elSize]; omega, rfl, by simp only [flat]; rw [hf, hfl], by simp only [Pe.size]; rw [h1, Nat.mul_one]⟩
    simp only [WF, List.length_map, List.mem_map, true_and]
    rintro x ⟨q, hql, rfl⟩
    obtain ⟨x, rfl, hx⟩ := hq q hql
    exact hx
  · refine ⟨?_, rfl, rfl, rfl, by simpa only [Pe.untup] using hut, rfl, rfl⟩
    simp only [WF]
    exact ⟨trivial, WFL_of fun q hq => (hl q hq).2.1, fun q hq => ⟨(hl q hq).2.2.2.2, (hl q hq).1, (hl q hq).2.2.1⟩⟩
theorem opens_array {d n : Nat} {t e : TypeId} {cs : List Value} (hu : P.underlying t = some (.array n e)) (hc : P.cellsOf t = n * P.cellsOf e) (hok : okT P d e = true) (hs : 0 < P.cellsOf e) (hl : cs.length = P.cellsOf t)
    (h : ∀ i, i < n → ∃ p, Opens P w T d e ((cs.drop (i * P.cellsOf e)).take (P.cellsOf e)) p) : ∃ p, Opens P w T (d + 1) t cs p := by
  have hex : ∀ i, ∃ p, i < n → Opens P w T d e ((cs.drop (i * P.cellsOf e)).take (P.cellsOf e)) p := fun i => by
    by_cases hi : i < n
    · obtain ⟨p, hp⟩ := h i hi; exact ⟨p, fun _ => hp⟩
    · exact ⟨.undef, fun h => absurd h hi⟩
  obtain ⟨f, hf⟩ := Classical.axiomOfChoice hex
  have hmem : ∀ q ∈ (List.range n).map f, Pe.conf (shOf P d e) q = true ∧ WF q ∧ Pe.noref q = true ∧ Pe.untup q = true ∧ Pe.size q = P.cellsOf e := by
    intro q hq
    obtain ⟨i, hi, rfl⟩ := List.mem_map.1 hq
    have := hf i (by simpa using hi)
    exact ⟨this.conf, this.wf, this.noref, this.untup, this.size⟩
  obtain ⟨a1, a2, a3, a4, a5, a6, a7⟩ := arrOf_spec hok hmem
  have hlen : ((List.range n).map f).length = n := by simp
  refine ⟨arrOf P d e ((List.range n).map f), ?_, a1, arr_noref a2, a5, by rw [a7, hlen, hc], hl, ?_, fun j q u hq hu' => ?_⟩
  · unfold arrOf
    simp only [shOf, hu]
    cases hk : P.underlying e with
    | none =>
      simp only [Pe.conf, Bool.and_eq_true, hlen]
      exact ⟨⟨Nat.beq_refl _, Nat.beq_refl _⟩, beq_refl _⟩
    | some dsc => cases dsc with
    | int k =>
      simp only [Pe.conf, Bool.and_eq_true, hlen]
      exact ⟨same_refl k, Nat.beq_refl _⟩
    | _ =>
      simp only [Pe.conf, Bool.and_eq_true, hlen]
      exact ⟨⟨Nat.beq_refl _, Nat.beq_refl _⟩, beq_refl _⟩
  · have : Pe.isAgg (arrOf P d e ((List.range n).map f)) = true := by unfold arrOf; split <;> rfl
    rw [this]
    simp only [isAggT, hu]
  · rw [a6] at hq
    have hwl : WFL ((List.range n).map f) := WFL_of fun q hq => (hmem q hq).2.1
    obtain ⟨p, h1, h2⟩ := flatL_nth hs hwl (fun q hq => (hmem q hq).2.2.2.2) hq
    have hjn : j / P.cellsOf e < n := by have := (List.getElem?_eq_some_iff.1 h1).1; simpa using this
    have hp : p = f (j / P.cellsOf e) := by simp [hjn] at h1; exact h1.symm
    subst hp
    refine (hf _ hjn).rel (j % P.cellsOf e) q u h2 ?_
    rw [List.getElem?_take, if_pos (Nat.mod_lt _ hs), List.getElem?_drop, ← hu']
    congr 1
    rw [Nat.mul_comm]
    exact Nat.div_add_mod j (P.cellsOf e)
theorem opens_fields {d tot : Nat} {cs : List Value} (hl : cs.length = tot) : ∀ {fs : List Field} {o : Nat}, laysB P tot o fs = true → (∀ f ∈ fs, okT P d f.type = true ∧ ∃ p, Opens P w T d f.type ((cs.drop f.offset).take (P.cellsOf f.type)) p) →
    ∃ ps, confL (fs.map fun f => shOf P d f.type) ps = true ∧ WFL ps ∧ norefL ps = true ∧ untupL ps = true ∧ o + sizeL ps = tot ∧ ∀ (j : Nat) (q : PV) (u : Value), (flatL ps)[j]? = some q → cs[o + j]? = some u → RC w T u q
  | [], o, h, _ => by
    simp only [laysB] at h
    exact ⟨[], rfl, by simp [WFL], rfl, rfl, by simp only [sizeL]; exact Nat.eq_of_beq_eq_true h, fun j q u hq => by simp [flatL] at hq⟩
  | f :: fs, o, h, hf => by
    simp only [laysB, Bool.and_eq_true] at h
    obtain ⟨h1, h2⟩ := h
    have ho := Nat.eq_of_beq_eq_true h1
    obtain ⟨_, p, hp⟩ := hf f (by simp)
    obtain ⟨ps, g1, g2, g3, g4, g5, g6⟩ := opens_fields hl h2 fun x hx => hf x (by simp [hx])
    refine ⟨p :: ps, by simp only [List.map_cons, confL, Bool.and_eq_true]; exact ⟨hp.conf, g1⟩, by simp only [WFL]; exact ⟨hp.wf, g2⟩, by simp only [norefL, Bool.and_eq_true]; exact ⟨hp.noref, g3⟩, by simp only [untupL, Bool.and_eq_true]; exact ⟨hp.untup, g4⟩, by simp only [sizeL, hp.size]; omega, fun j q u hq hu => ?_⟩
    simp only [flatL] at hq
    have hlp : (flat p).length = P.cellsOf f.type := by rw [flat_length p hp.wf, hp.size]
    by_cases hj : j < P.cellsOf f.type
    · rw [List.getElem?_append_left (by omega)] at hq
      refine hp.rel j q u hq ?_
      rw [List.getElem?_take, if_pos hj, List.getElem?_drop, ho]
      exact hu
    · rw [List.getElem?_append_right (by omega), hlp] at hq
      refine g6 _ q u hq ?_
      rw [← hu]
      congr 1
      omega
end
section
variable {H : Type} {enc : TypeId × Value → H} {P : Program} {w : World} {base : Nat} {spare : Nat → Bool} {held : Bool}
theorem cells?_spec {a : Addr} {n : Nat} {cs : List Value} (h : w.cells? base a n = some cs) : cs.length = n ∧ ∀ j u, cs[j]? = some u → w.cell? (a.add j) = some u := by
  unfold World.cells? at h
  split at h
  · have : ∀ {l : List Nat} {xs : List Value}, l.mapM (fun i => w.cell? (a.add i)) = some xs → xs.length = l.length ∧ ∀ (j : Nat) (i : Nat) (u : Value), l[j]? = some i → xs[j]? = some u → w.cell? (a.add i) = some u := by
      intro l
      induction l with
      | nil => intro xs h; simp at h; subst h; exact ⟨rfl, fun j i u hi => by simp at hi⟩
      | cons b l ih =>
        intro xs h
        rw [List.mapM_cons] at h
        simp only [Option.bind_eq_bind, Option.bind_eq_some_iff, Option.pure_def, Option.some.injEq] at h
        obtain ⟨y, hy, ys, hys, rfl⟩ := h
        obtain ⟨e1, e2⟩ := ih hys
        refine ⟨by simp [e1], fun j i u hi hu => ?_⟩
        cases j with
        | zero => simp at hi hu; subst hi; subst hu; exact hy
        | succ j => simp at hi hu; exact e2 j i u hi hu
    obtain ⟨e1, e2⟩ := this h
    refine ⟨by simpa using e1, fun j u hu => ?_⟩
    have hj : j < n := by have := (List.getElem?_eq_some_iff.1 hu).1; simp at e1; omega
    exact e2 j j u (by simp [hj]) hu
  · cases h
theorem trod_opens : ∀ (d : Nat) (t : TypeId) (fuel : Nat) (cs : List Value) (x : DataW H × List MemPlace), okT P d t = true → DataW.trod enc P w base spare held fuel t cs = some x → ∃ p, Opens P w (fun b _ => b < w.heap.size) d t cs p
  | 0, _, _, _, _, h, _ => by simp [okT] at h
  | d + 1, t, 0, cs, x, _, h => by simp [DataW.trod] at h
  | d + 1, t, fuel + 1, cs, x, hok, h => by
    have hsz : ∀ e, szOk P e = true → 0 < P.cellsOf e := fun e he => Nat.pos_of_ne_zero (szOk_ne he)
    simp only [okT] at hok
    split at hok
    · rename_i hu
      have hc := Nat.eq_of_beq_eq_true hok
      obtain ⟨b, rfl, _⟩ := DataW.trod_bool hu h
      refine ⟨.bool b, by simp only [shOf, hu]; rfl, trivial, rfl, rfl, hc.symm, by rw [hc]; rfl, by simp only [isAggT, hu]; rfl, fun j q u hq hu' => ?_⟩
      cases j with
      | zero => simp [flat] at hq hu'; subst hq; subst hu'; exact .bool b
      | succ j => simp [flat] at hq
    · rename_i k hu
      have hc := Nat.eq_of_beq_eq_true hok
      obtain ⟨n, rfl, _, hwf⟩ := DataW.trod_int hu h
      have hw : k.wrap n = n := by
        rw [wrap_bounds]
        simpa [Lit.wf, IntKind.has] using hwf
      refine ⟨.int k n, by simp only [shOf, hu, conf]; cases k <;> rfl, by simp only [WF]; exact hw, rfl, rfl, hc.symm, by rw [hc]; rfl, by simp only [isAggT, hu]; rfl, fun j q u hq hu' => ?_⟩
      cases j with
      | zero => simp [flat] at hq hu'; subst hq; subst hu'; exact .int k n
      | succ j => simp [flat] at hq
    · rename_i hu
      have hc := Nat.eq_of_beq_eq_true hok
      obtain ⟨s, rfl, _, hs⟩ := DataW.trod_string hu h
      refine ⟨.str s, by simp only [shOf, hu]; rfl, trivial, rfl, rfl, hc.symm, by rw [hc]; rfl, by simp only [isAggT, hu]; rfl, fun j q u hq hu' => ?_⟩
      cases j with
      | zero => simp [flat] at hq hu'; subst hq; subst hu'; exact .str s hs
      | succ j => simp [flat] at hq
    · rename_i fs hu
      simp only [Bool.and_eq_true, List.all_eq_true] at hok
      simp only [DataW.trod, hu] at h
      split at h
      · rename_i hl
        simp only [Option.map_eq_some_iff] at h
        obtain ⟨xs, hxs, _⟩ := h
        obtain ⟨ps, g1, g2, g3, g4, g5, g6⟩ := opens_fields (P := P) (w := w) (T := fun b _ => b < w.heap.size) (d := d) hl hok.1 (fun f hf => ⟨hok.2 f hf, by
          obtain ⟨y, hy⟩ := mapM_get hxs f hf
          exact trod_opens d f.type fuel _ y (hok.2 f hf) hy⟩)
        refine ⟨.st (P.cellsOf t) ps, by simp only [shOf, hu, conf, Bool.and_eq_true]; exact ⟨Nat.beq_refl _, g1⟩, by simp only [WF]; exact ⟨by omega, g2⟩, by simp only [noref]; exact g3, by simp only [untup]; exact g4, rfl, hl, by simp only [isAggT, hu]; rfl, fun j q u hq hu' => ?_⟩
        simp only [flat] at hq
        exact g6 j q u hq (by rw [Nat.zero_add]; exact hu')
      · cases h
    · rename_i n e hu
      simp only [Bool.and_eq_true] at hok
      have hc := Nat.eq_of_beq_eq_true hok.1.1
      simp only [DataW.trod, hu] at h
      split at h
      · rename_i hl
        simp only [Option.map_eq_some_iff] at h
        obtain ⟨xs, hxs, _⟩ := h
        exact opens_array hu hc hok.2 (hsz e hok.1.2) hl fun i hi => by
          obtain ⟨y, hy⟩ := mapM_get hxs i (by simpa using hi)
          exact trod_opens d e fuel _ y hok.2 hy
      · cases h
    · rename_i e hu
      simp only [Bool.and_eq_true] at hok
      have hc := Nat.eq_of_beq_eq_true hok.1.1
      have hpos := hsz e hok.1.2
      have hone : ∀ (v : Value) (c : PV) (nl : Bool), cs = [v] → WF (.vec nl c) → Pe.conf (shOf P (d + 1) t) (.vec nl c) = true → RC w (fun b _ => b < w.heap.size) v (.vec nl c) → ∃ p, Opens P w (fun b _ => b < w.heap.size) (d + 1) t cs p := by
        rintro v c nl rfl h1 h2 h3
        refine ⟨.vec nl c, h2, h1, rfl, rfl, hc.symm, by rw [hc]; rfl, by simp only [isAggT, hu]; rfl, fun j q u hq hu' => ?_⟩
        cases j with
        | zero => simp [flat] at hq hu'; subst hq; subst hu'; exact h3
        | succ j => simp [flat] at hq
      have hshape : ∀ l : List PV, ∀ nl, Pe.conf (shOf P (d + 1) t) (.vec nl (arrOf P d e l)) = true := by
        intro l nl
        obtain ⟨d', rfl⟩ : ∃ d', d = d' + 1 := by cases d with
          | zero => simp [okT] at hok
          | succ d => exact ⟨d, rfl⟩
        have hsh : shOf P (d' + 1 + 1) t = .vec (P.cellsOf e) (shOf P (d' + 1) e) := shOf_slice hu
        rw [hsh]
        by_cases hk : ∃ k, P.underlying e = some (.int k)
        · obtain ⟨k, hk⟩ := hk
          have : arrOf P (d' + 1) e l = .iarr k l.length (l.map PV.num) := by simp only [arrOf, hk]
          rw [this, shOf_int hk]
          simp only [Pe.conf]
          exact same_refl k
        · have : arrOf P (d' + 1) e l = .parr (P.cellsOf e) l.length (shOf P (d' + 1) e) l := by
            unfold arrOf
            split
            · rename_i k hk'; exact absurd ⟨k, hk'⟩ hk
            · rfl
          rw [this]
          have hni : Sh.isInt (shOf P (d' + 1) e) = false := by
            cases he : P.underlying e with
            | none => simp only [shOf, he, Sh.isInt]
            | some dsc => cases dsc with
              | int k => exact absurd ⟨k, he⟩ hk
              | array n e' =>
                simp only [shOf, he]
                split <;> rfl
              | _ => simp only [shOf, he, Sh.isInt]
          cases hs2 : shOf P (d' + 1) e with
          | int k => rw [hs2] at hni; simp [Sh.isInt] at hni
          | _ => simp only [Pe.conf, Bool.and_eq_true, Sh.isInt, Bool.not_false, true_and]; exact ⟨Nat.beq_refl _, beq_refl _⟩
      rcases DataW.trod_slice hu h with ⟨hx, _⟩ | ⟨a, len, cap, elems, rest, n, hf, hx, _, _, h1, h2, h3, h4, _⟩
      · obtain ⟨a1, a2, a3, _⟩ := arrOf_spec (P := P) (d := d) (e := e) (l := []) hok.2 (fun q hq => by cases hq)
        exact hone _ (arrOf P d e []) true hx (by simp only [WF]; exact ⟨a1, a2, fun _ => a3⟩) (hshape [] true) (.vec0 _ _ _ _ a3 rfl (fun _ => rfl))
      · have hfu : n = fuel := by omega
        subst hfu
        have hex : ∀ i, ∃ p, i < len → ∃ cs', w.cells? base (a.add (i * P.cellsOf e)) (P.cellsOf e) = some cs' ∧ Opens P w (fun b _ => b < w.heap.size) d e cs' p := fun i => by
          by_cases hi : i < len
          · have := h4 i hi
            rw [List.getElem?_eq_getElem (by omega), Option.bind_eq_some_iff] at this
            obtain ⟨cs', c1, c2⟩ := this
            obtain ⟨p, hp⟩ := trod_opens d e n cs' _ hok.2 c2
            exact ⟨p, fun _ => ⟨cs', c1, hp⟩⟩
          · exact ⟨.undef, fun h => absurd h hi⟩
        obtain ⟨f, hf⟩ := Classical.axiomOfChoice hex
        have hmem : ∀ q ∈ (List.range len).map f, Pe.conf (shOf P d e) q = true ∧ WF q ∧ Pe.noref q = true ∧ Pe.untup q = true ∧ Pe.size q = P.cellsOf e := by
          intro q hq
          obtain ⟨i, hi, rfl⟩ := List.mem_map.1 hq
          obtain ⟨cs', _, hp⟩ := hf i (by simpa using hi)
          exact ⟨hp.conf, hp.wf, hp.noref, hp.untup, hp.size⟩
        obtain ⟨a1, a2, a3, a4, a5, a6, a7⟩ := arrOf_spec hok.2 hmem
        have hlen : ((List.range len).map f).length = len := by simp
        rw [hlen] at a3
        rcases Nat.eq_zero_or_pos len with h0 | h0
        · subst h0
          exact hone _ (arrOf P d e ((List.range 0).map f)) false hx (by simp only [WF]; exact ⟨a1, a2, fun e => by cases e⟩) (hshape _ false) (.vec0 _ _ _ _ a3 rfl (fun e => by cases e))
        · have hsp : a.spot = none := by
            obtain ⟨cs', c1, hp⟩ := hf 0 h0
            obtain ⟨e1, e2⟩ := cells?_spec c1
            have := e2 0 cs'[0] (List.getElem?_eq_getElem (by omega))
            unfold World.cell? at this
            split at this
            · split at this
              · cases this
              · rename_i hs
                simpa [Addr.add] using hs
            · cases this
          obtain ⟨bk, o, sp⟩ := a
          simp only at hsp
          subst hsp
          have hcell : ∀ j, ∃ u, ∀ q, (flat (arrOf P d e ((List.range len).map f)))[j]? = some q → w.cell? ⟨bk, o + j, none⟩ = some u ∧ RC w (fun b _ => b < w.heap.size) u q := by
            intro j
            cases hj : (flat (arrOf P d e ((List.range len).map f)))[j]? with
            | none => exact ⟨Go.undef, fun q hq => by cases hq⟩
            | some q =>
              rw [a6] at hj
              obtain ⟨p, p1, p2⟩ := flatL_nth hpos (WFL_of fun q hq => (hmem q hq).2.1) (fun q hq => (hmem q hq).2.2.2.2) hj
              have hjn : j / P.cellsOf e < len := by have := (List.getElem?_eq_some_iff.1 p1).1; simpa using this
              have hp : p = f (j / P.cellsOf e) := by simp [hjn] at p1; exact p1.symm
              subst hp
              obtain ⟨cs', c1, hp⟩ := hf _ hjn
              obtain ⟨e1, e2⟩ := cells?_spec c1
              have hm : j % P.cellsOf e < cs'.length := by rw [e1]; exact Nat.mod_lt _ hpos
              refine ⟨cs'[j % P.cellsOf e], fun q' hq' => ?_⟩
              cases hq'
              refine ⟨?_, hp.rel _ q _ p2 (List.getElem?_eq_getElem hm)⟩
              have := e2 _ _ (List.getElem?_eq_getElem hm)
              rw [add_none, add_none] at this
              rw [← this]
              congr 2
              rw [Nat.add_assoc, Nat.mul_comm, Nat.div_add_mod]
          obtain ⟨us, hus⟩ := Classical.axiomOfChoice hcell
          exact hone _ (arrOf P d e ((List.range len).map f)) false hx (by simp only [WF]; exact ⟨a1, a2, fun e => by cases e⟩) (hshape _ false)
            (.vec1 _ _ _ _ _ us a3 h1 h2 (fun j q hq => ⟨lt_of_cell? (hus j q hq).1, (hus j q hq).1⟩) (fun j q hq => (hus j q hq).2))
    · cases hok
end
end Go.Pe
namespace Go.Pe
open Go.ChangeShapes Go.WideShapes Go.ChangeAt Go.RowKit
section
variable {H : Type} {enc : TypeId × Value → H} {P : Program}
theorem post_below {f : Func} {s : ChangeSpec} {apart fresh handsOn again : Bool} {W W' : World} {args : Array Value} {v : Value} {ds gs : List (DataW H)} {before pa pv : List MemPlace}
    (hW : DataW.Whole enc P f.params.toList s.vars apart W args.toList ds gs before)
    (hres : ∀ (b : Nat) (sp : Nat → Bool) (hd : Bool), DataW.TrodAll enc P W' b sp hd f.resultTypes.toList (v.resultList f.resultTypes.size) (s.fn H (ds ++ gs)).results [])
    (hargs : ∀ sp : Nat → Bool, (∀ p ∈ before, sp p.block = true) → DataW.TrodAll enc P W' 0 sp true f.params.toList args.toList (s.fn H (ds ++ gs)).args pa)
    (hvars : ∀ sp : Nat → Bool, (∀ p ∈ before, sp p.block = true) → DataW.TrodVars enc P W' sp s.vars (s.fn H (ds ++ gs)).vars pv)
    (hps : before = pa ++ pv) (hb : Below W.heap.size W W')
    (hok : ∀ (j : Nat) (t : TypeId) (r : Value), f.resultTypes[j]? = some t → (v.resultList f.resultTypes.size)[j]? = some r → Value.okWide P W' .any 0 t r) :
    s.post enc P f apart fresh handsOn again W args v W' := by
  have hlt : ∀ p ∈ before, p.block < W.heap.size := fun p hp => hW.lt p hp
  have hold : ∀ p ∈ before, (fun b => decide (b < W.heap.size)) p.block = true := fun p hp => by simpa using hlt p hp
  refine ⟨ds, gs, before, [], pa, pv, hW, hres _ _ _, hargs _ hold, hvars _ hold, World.keptBut_mono (fun p hp => ⟨hp, ?_⟩) (hb.frame (· ∈ before)), fun _ => ?_⟩
  · rw [hps, List.mem_append] at hp
    exact Or.inr hp
  · obtain ⟨_, _, _, _, _, hz, hn⟩ := hW
    refine ⟨hok, _, _, ([] ++ pa) ++ pv, ⟨[] ++ pa, pv, trodAll_append (hargs _ (fun _ _ => rfl)) (hres _ _ _), hvars _ (fun _ _ => rfl), rfl, ?_, ?_⟩, ?_⟩
    · intro b off hp
      have hin : MemPlace.cell b off ∈ before := by rw [hps]; simpa using hp
      rw [hb.frozen (hlt _ hin)]
      exact hz b off hin
    · intro ha
      have := hn ha
      rw [hps] at this
      simpa using this
    · intro p hp _
      rw [hps]
      simpa using hp
theorem trodAll_stays (hl : laidOutB P = true) {W W' : World} (hb : Below W.heap.size W W') {sp : Nat → Bool} : ∀ {ts : List TypeId} {vs : List Value} {ds : List (DataW H)} {ps : List MemPlace}, (∀ t ∈ ts, P.readableRec t = true ∧ t < P.types.size) →
    DataW.TrodAll enc P W 0 (fun _ => true) true ts vs ds ps → (∀ p ∈ ps, sp p.block = true) → DataW.TrodAll enc P W' 0 sp true ts vs ds ps
  | [], [], [], _, _, h, _ => h
  | t :: ts, v :: vs, d :: ds, ps, ht, h, hs => by
    have hlt := h.lt
    obtain ⟨p, q, h1, h2, rfl⟩ := h
    exact ⟨p, q, WideElems.Trod_stays hl (ht t (by simp)).1 (ht t (by simp)).2 h1 (fun x hx => hb.same (hlt x (by simp [hx]))) (fun x hx => hs x (by simp [hx])),
      trodAll_stays hl hb (fun t ht' => ht t (by simp [ht'])) h2 (fun x hx => hs x (by simp [hx])), rfl⟩
  | [], _ :: _, _, _, _, h, _ => by simp [DataW.TrodAll] at h
  | [], [], _ :: _, _, _, h, _ => by simp [DataW.TrodAll] at h
  | _ :: _, [], _, _, _, h, _ => by simp [DataW.TrodAll] at h
  | _ :: _, _ :: _, [], _, _, h, _ => by simp [DataW.TrodAll] at h
/-- What an input's values stand for. -/
structure Ins (P : Program) (ts : List TypeId) (ps : List PV) : Prop where
  conf : confL (ts.map (shOf P 9)) ps = true
  wf : WFL ps
  untup : untupL ps = true
theorem RV_opens {W : World} {base : Nat} {t : TypeId} {v : Value} {p : PV} (hv : Value.okWide P W .any base t v) (h : Opens P W (fun b _ => b < W.heap.size) 9 t v.cells.toList p) : RV W (fun b _ => b < W.heap.size) (fun _ => none) v p := by
  have hnt : ∀ vs, p ≠ .tup vs := fun vs e => by have := h.untup; subst e; simp [Pe.untup] at this
  cases ha : Pe.isAgg p with
  | true =>
    have hat : isAggT P t = true := by rw [← h.agg]; exact ha
    have : ∃ cs, v = .agg cs := by
      unfold isAggT at hat
      unfold Value.okWide at hv
      split at hat
      · rename_i fs hu
        rw [hu] at hv
        obtain ⟨cs, hc, _⟩ := hv
        exact ⟨cs, hc⟩
      · rename_i n e hu
        rw [hu] at hv
        obtain ⟨cs, hc, _⟩ := hv
        exact ⟨cs, hc⟩
      · cases hat
    obtain ⟨cs, rfl⟩ := this
    refine RV.of_agg ha h.wf ⟨cs, rfl, ?_, fun j q u hq hu => RO.of_closed (h.rel j q u hq ?_)⟩
    · have := h.len
      simp only [Value.cells, Array.length_toList] at this
      rw [this, h.size]
    · simpa [Value.cells] using hu
  | false =>
    have hl : Pe.leaf p = true := by rw [Pe.leaf_agg, ha]; rfl
    have hone : v.cells = #[v] := by
      have hnagg : ∀ cs, v ≠ .agg cs := by
        rintro cs rfl
        have hat : isAggT P t = false := by rw [← h.agg]; exact ha
        unfold Value.okWide at hv
        unfold isAggT at hat
        split at hv
        · rename_i fs hu; rw [hu] at hat; cases hat
        · rename_i n e hu; rw [hu] at hat; cases hat
        · unfold Cell.okWide at hv
          split at hv <;> simp_all [Cell.ok]
      cases v <;> first | rfl | exact absurd rfl (hnagg _)
    refine RV.of_leaf hl hnt h.wf (RO.of_closed (h.rel 0 p v (by rw [flat_leaf hl]; rfl) (by rw [hone]; rfl)))
theorem ins_of {W : World} {base : Nat} : ∀ {ts : List TypeId} {vs : List Value} {ds : List (DataW H)} {ps : List MemPlace}, (∀ t ∈ ts, okT P 9 t = true) → (∀ (j : Nat) t v, ts[j]? = some t → vs[j]? = some v → Value.okWide P W .any base t v) →
    DataW.TrodAll enc P W 0 (fun _ => true) true ts vs ds ps → ∃ qs, Ins P ts qs ∧ qs.length = vs.length ∧ ∀ (j : Nat) (p : PV) (v : Value), qs[j]? = some p → vs[j]? = some v → RV W (fun b _ => b < W.heap.size) (fun _ => none) v p
  | [], [], [], _, _, _, _ => ⟨[], ⟨rfl, by simp [WFL], rfl⟩, rfl, fun j p v hp => by simp at hp⟩
  | t :: ts, v :: vs, d :: ds, ps, ht, hv, h => by
    obtain ⟨p, q, ⟨fuel, h1⟩, h2, rfl⟩ := h
    obtain ⟨x, hx⟩ := trod_opens 9 t fuel _ _ (ht t (by simp)) h1
    obtain ⟨qs, g1, g2, g3⟩ := ins_of (fun t' h' => ht t' (by simp [h'])) (fun j t' v' hj hj' => hv (j + 1) t' v' (by simpa using hj) (by simpa using hj')) h2
    refine ⟨x :: qs, ⟨by simp only [List.map_cons, confL, Bool.and_eq_true]; exact ⟨hx.conf, g1.conf⟩, by simp only [WFL]; exact ⟨hx.wf, g1.wf⟩, by simp only [untupL, Bool.and_eq_true]; exact ⟨hx.untup, g1.untup⟩⟩, by simp [g2], fun j p' v' hp hv' => ?_⟩
    cases j with
    | zero =>
      simp at hp hv'
      subst hp; subst hv'
      exact RV_opens (hv 0 t v rfl rfl) hx
    | succ j => simp at hp hv'; exact g3 j p' v' hp hv'
  | [], _ :: _, _, _, _, _, h => by simp [DataW.TrodAll] at h
  | [], [], _ :: _, _, _, _, h => by simp [DataW.TrodAll] at h
  | _ :: _, [], _, _, _, _, h => by simp [DataW.TrodAll] at h
  | _ :: _, _ :: _, [], _, _, _, h => by simp [DataW.TrodAll] at h
theorem below_of_FR {w w' : World} {M : T2} (hM : ∀ b o, ¬ M b o) (h : FR M w w') : Below w.heap.size w w' := by
  refine ⟨h.os, h.tape, h.output, h.size, fun k hk => ?_⟩
  rcases h.block k hk with e | ⟨cs, cs', t, fz, e1, e2, e3, e4⟩
  · exact e.symm
  · rw [e1, e2]
    have : cs' = cs := by
      apply Array.ext_getElem?
      intro i
      exact e4 i (hM k i)
    rw [this]
end
end Go.Pe
namespace Go.Pe
open Go.ChangeShapes Go.WideShapes Go.ChangeAt Go.RowKit
section
variable {H : Type} {enc : TypeId × Value → H} {P : Program}
theorem mapM_idx {α β : Type} {g : α → Option β} : ∀ {l : List α} {xs : List β}, l.mapM g = some xs → ∀ (i : Nat) (a : α), l[i]? = some a → ∃ y, xs[i]? = some y ∧ g a = some y
  | [], _, _, i, a, hi => by simp at hi
  | b :: l, xs, h, i, a, hi => by
    rw [List.mapM_cons] at h
    simp only [Option.bind_eq_bind, Option.bind_eq_some_iff] at h
    obtain ⟨y, hy, ys, hys, hx⟩ := h
    obtain rfl := Option.some.inj hx
    cases i with
    | zero => simp at hi; subst hi; exact ⟨y, rfl, hy⟩
    | succ i => exact mapM_idx hys i a (by simpa using hi)
theorem laid_mem {w : World} : ∀ {l : List (String × DataW Unit)} {ps : List MemPlace}, DataW.LaidVars P w l ps → ∀ x ∈ l, ∃ g t cs fuel p, P.globalNamed x.1 = some g ∧ (P.globals[g]?).map (·.type) = some t ∧ w.var? P x.1 = some cs ∧ DataW.trod (fun _ => ()) P w 0 (fun _ => true) false fuel t cs.toList = some (x.2, p)
  | [], _, _, x, hx => by cases hx
  | (n, d) :: l, ps, h, x, hx => by
    simp only [DataW.LaidVars] at h
    obtain ⟨g, t, cs, fuel, p, q, h1, h2, h3, h4, h5, _⟩ := h
    rcases List.mem_cons.1 hx with rfl | hx
    · exact ⟨g, t, cs, fuel, p, h1, h2, h3, h4⟩
    · exact laid_mem h5 x hx
theorem trod_int {w : World} {base fuel : Nat} {sp : Nat → Bool} {held : Bool} {t : TypeId} {k k' : IntKind} {n : Int} {cs : List Value} {p : List MemPlace} (hu : P.underlying t = some (.int k))
    (h : DataW.trod enc P w base sp held fuel t cs = some (.lit (.int k' n), p)) : cs = [.int k n] := by
  cases fuel with
  | zero => simp [DataW.trod] at h
  | succ fuel =>
    simp only [DataW.trod, hu] at h
    split at h <;> simp_all
/-- a variable that holds an array of integers -/
theorem glob_ints {W : World} {laid : List (String × DataW Unit)} (h : laidMet P laid W) {name : String} {g t e m : Nat} {k : IntKind} {ls : List Int} (hin : (name, .agg (ls.map fun v => .lit (.int k v))) ∈ laid)
    (hg : P.globalNamed name = some g) (ht : (P.globals[g]?).map (·.type) = some t) (hu : P.underlying t = some (.array m e)) (he : P.underlying e = some (.int k)) (hce : P.cellsOf e = 1) (hct : P.cellsOf t = m) (hm : ls.length = m) :
    RC W (fun b _ => b < W.heap.size) (.pointer (some ⟨g, 0, none⟩)) (.cptr (.iarr k m ls) []) := by
  obtain ⟨ps, hL, _, _⟩ := h
  obtain ⟨g', t', cs, fuel, p, h1, h2, h3, h4⟩ := laid_mem hL _ hin
  obtain rfl := Option.some.inj (hg.symm.trans h1)
  obtain rfl := Option.some.inj (ht.symm.trans h2)
  have hcell : ∀ (i : Nat) (v : Int), ls[i]? = some v → cs[i]? = some (Value.int k v) := by
    intro i v hv
    cases fuel with
    | zero => simp [DataW.trod] at h4
    | succ fuel =>
      simp only [DataW.trod, hu] at h4
      split at h4
      · rename_i hl
        simp only [Option.map_eq_some_iff] at h4
        obtain ⟨xs, hxs, hd⟩ := h4
        simp only [Prod.mk.injEq, DataW.agg.injEq] at hd
        have hi : i < ls.length := by
          rw [List.getElem?_eq_some_iff] at hv
          exact hv.1
        obtain ⟨y, hy1, hy2⟩ := mapM_idx hxs i i (by rw [List.getElem?_range (by omega)])
        have hy : (xs.map (·.1))[i]? = some y.1 := by rw [List.getElem?_map, hy1]; rfl
        rw [hd.1, List.getElem?_map, hv] at hy
        obtain ⟨y1, y2⟩ := y
        simp only [Option.map_some, Option.some.injEq] at hy
        subst hy
        have := trod_int he hy2
        rw [hce, Nat.mul_one] at this
        have e : cs.toList[i]? = some (Value.int k v) := by
          have e0 := congrArg (fun l => l[0]?) this
          simpa using e0
        simpa using e
      · cases h4
  have hcw : ∀ (i : Nat) (v : Int), ls[i]? = some v → W.cell? ⟨g, i, none⟩ = some (Value.int k v) := fun i v hv => by rw [World.var?_cell hg h3, hcell i v hv]
  refine RC.cptr g 0 _ [] (fun j => Value.int k (ls.getD j 0)) ?_ ?_
  · intro j q hq
    simp only [flat, List.getElem?_map, Option.map_eq_some_iff] at hq
    obtain ⟨v, hv, rfl⟩ := hq
    have hc := hcw j v hv
    rw [Nat.zero_add]
    refine ⟨?_, by rw [hc, List.getD_eq_getElem?_getD, hv]; rfl⟩
    rcases Nat.lt_or_ge g W.heap.size with h | h
    · exact h
    · simp [World.cell?, Array.getElem?_eq_none h] at hc
  · intro j q hq
    simp only [flat, List.getElem?_map, Option.map_eq_some_iff] at hq
    obtain ⟨v, hv, rfl⟩ := hq
    rw [List.getD_eq_getElem?_getD, hv]
    exact .int k v
theorem wants_of {ps : Array TypeId} (h : ps.toList.all (fun t => !P.wantsStandIn t) = true) (j : Nat) (t : TypeId) (ht : ps[j]? = some t) : P.wantsStandIn t = false := by
  have := List.all_eq_true.1 h t (by rw [← Array.getElem?_toList] at ht; exact List.mem_of_getElem? ht)
  simpa using this
/-- a world with a variable laid -/
noncomputable def laidW (P : Program) (os : Os) (g : Nat) (cs : Array Value) : World :=
  let w0 := World.holding P os ⟨#[], #[], []⟩
  { w0 with heap := w0.heap.modify g fun
      | .cells _ t frozen => .cells cs t frozen
      | o => o }
/-- THE LAW's STEP over laid variables. -/
theorem law_callsG {G : Nat → Option PV} {f : FuncId} {fn : Func} {s : ChangeSpec} {apart fresh handsOn again : Bool} {tb : TypeId} (hl : laidOutB P = true) (hvars : s.vars = []) (hr : fn.resultTypes = #[tb]) (hb : P.underlying tb = some .bool)
    (hbody : hasBody P f) (hspec : ∀ ds : List (DataW H), ds.length = fn.params.toList.length → s.fn H ds = { results := [.lit (.bool true)], args := ds })
    (ht : fn.params.toList.all (fun t => okT P 9 t && P.readableRec t && Nat.blt t P.types.size) = true)
    (hpc : ∀ ps, Ins P fn.params.toList ps → PC P G f [] ps [] (.bool true))
    {W : World} (hG : ∀ g c, G g = some c → WF c ∧ noref c = true ∧ RC W (fun b _ => b < W.heap.size) (.pointer (some ⟨g, 0, none⟩)) (.cptr c []))
    {base : Nat} {args : Array Value} {ds gs : List (DataW H)} {before : List MemPlace}
    (hval : ∀ (j : Nat) t v, fn.params[j]? = some t → args[j]? = some v → Value.okWide P W .any base t v)
    (hW : DataW.Whole enc P fn.params.toList s.vars apart W args.toList ds gs before) :
    Calls P f args W fun e W' => ∃ v, e = .returned v ∧ s.post enc P fn apart fresh handsOn again W args v W' := by
  have ht' : ∀ t ∈ fn.params.toList, okT P 9 t = true ∧ P.readableRec t = true ∧ t < P.types.size := by
    intro t h
    have := List.all_eq_true.1 ht t h
    simp only [Bool.and_eq_true] at this
    exact ⟨this.1.1, this.1.2, Nat.blt_eq ▸ this.2⟩
  have hW' := hW
  obtain ⟨p, q, hA, hV, rfl, hz, hn⟩ := hW
  rw [hvars] at hV
  obtain ⟨rfl, rfl⟩ := trodVars_none hV
  obtain ⟨l1, l2⟩ := trodAll_length hA
  obtain ⟨qs, g1, g2, g3⟩ := ins_of (base := base) (fun t h => (ht' t h).1) (fun j t v h1 h2 => hval j t v (by rw [← Array.getElem?_toList]; exact h1) (by rw [← Array.getElem?_toList]; exact h2)) hA
  have hM : ∀ b o, ¬ Mut (fun _ => none) (lookR ([] : List (Nat × Row))) b o := by
    rintro b o ⟨i, r, pl, h1, _⟩
    simp [lookR] at h1
  have hc := hpc qs g1
  refine Calls.mono (Enters.calls hbody (hc (fun b _ => b < W.heap.size) (fun _ => none) W args (fun b o _ => hM b o) ⟨fun i r hi => by simp [lookR] at hi, fun i i' r r' pl pl' _ h1 => by simp [lookR] at h1⟩ (fun _ _ => rfl) hG
    (by rw [g2]; simp) (fun j p v hp hv _ => g3 j p v hp (by rw [Array.getElem?_toList]; exact hv)))) fun e W' he => ?_
  obtain ⟨v, ρ', rfl, r1, _, _, r4, _⟩ := he
  have hvb : v = .bool true := by
    have := r1.to_leaf rfl (fun _ e => by cases e)
    simp only [RO] at this
    cases this
    rfl
  subst hvb
  have hbel := below_of_FR hM r4
  have hsp := hspec ds l2
  refine ⟨_, rfl, post_below (pa := p) (pv := []) hW' ?_ ?_ ?_ (by simp) hbel ?_⟩
  · intro b sp hd
    rw [List.append_nil, hsp, hr]
    exact trodAll_mk1 (shut_bool hb true)
  · intro sp hs
    rw [List.append_nil, hsp]
    exact trodAll_stays hl hbel (fun t h => (ht' t h).2) hA (fun x hx => hs x (by simp [hx]))
  · intro sp hs
    rw [List.append_nil, hsp, hvars]
    rfl
  · rw [hr]
    exact ok_one (f := { fn with resultTypes := #[tb] }) rfl rfl (okWide_bool_mk hb true)
end
end Go.Pe
