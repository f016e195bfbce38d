/- Merged texts: the pure machine and what the walks show. Conditions: as each statement says. -/
import Derived.Carry
import Derived.ChangeArms
import Derived.ChangeSame
import Derived.ChangeCalls
import Derived.JoinedOf
import Derived.Handed
import Derived.OpenShut
import Derived.RowKit
import Derived.ProofKit
import Derived.Test.YtnabpdadlgofoaaQ4
set_option linter.unusedSimpArgs false
set_option linter.unusedVariables false
namespace Go.Proofs
open Go Go.Pe Go.Pm
set_option maxRecDepth 100000
set_option linter.unusedVariables false
attribute [local irreducible] lv
theorem W_rpEE1 {v q k0 n0 k1 n1 k2 n2 k3 n3 : Nat} {l0 l1 l2 l3 : Liz} (hv : v < 18446744073709551616) (hq : v / 524288 = q) (hq2 : q ≤ 65536) (c1 : Pt 76 [(0, bwE)] [.at 0 [], .int .i64 q] [(0, bwE)] (.tup [])) (c2 : Pt 77 [(0, bwE)] [.at 0 [], .int .u64 0, .int .i64 1] [(0, bwR 1 k2 n2), (1, bwB k2 l2)] (.tup [])) (c3 : Pt 77 [(0, bwR 1 k2 n2), (1, bwB k2 l2)] [.at 0 [], .int .u64 v, .int .i64 19] [(0, bwR 2 k3 n3), (2, bwB k3 l3)] (.tup [])) : Pt 48 [(0, bwE)] [.at 0 [], .int .i64 19, .int .u64 v] [(0, bwR 1 k3 n3), (1, bwB k3 l3)] (.int .i64 0) := by
 refine pO Try.func48 (by kernel_rfl) ?_
 have d0 := Cb (p := 19) (by omega)
 have hq3 : ((v / 524288 : Nat) : Int) = (q : Int) := by rw [hq]
 clear hq
 refine W.rtA [(2, c9 d0), (3, aV (I6 19)), (6, aV (U6 ↑(v / 524288))), (7, aV (U6 q)), (9, aF), (12, aV (I6 q)), (13, cC true [(0, 0)] c1), (15, cC true [(0, 0)] c2), (19, cC true [(0, 0), (305, 1)] c3)] [(0, 0), (370, 1)] [_, I6 ↑(19 : Nat) = I6 19, U6 (Int.fdiv (v:Int) ((2 : Int) ^ 19)) = U6 ↑(v / 524288), (0 : Int) ≤ 19, U6 ↑(v / 524288) = U6 q, decide ((q:Int) > 65536) = false, I6 (IntKind.wrap .i64 (q:Int)) = I6 q, _, _, _] (ac (d0) (ac (cg (by omega)) (ac (cg (A7 (y := 19) (s := 19) rfl rfl (by decide) (by omega))) (ac (by omega) (ac (cg (hq3)) (ac (dF (by omega)) (ac (wj (by omega)) (ac (c1) (ac (c2) (ao (c3)))))))))))
theorem W_rpE11 {v q k0 n0 k1 n1 k2 n2 k3 n3 : Nat} {l0 l1 l2 l3 : Liz} (hv : v < 18446744073709551616) (hq : v / 524288 = q) (hq2 : q ≤ 65536) (c1 : Pt 76 [(0, bwE)] [.at 0 [], .int .i64 q] [(0, bwR 1 k1 n1), (1, bwB k1 l1)] (.tup [])) (c2 : Pt 77 [(0, bwR 1 k1 n1), (1, bwB k1 l1)] [.at 0 [], .int .u64 0, .int .i64 1] [(0, bwR 1 k2 n2), (1, bwB k2 l2)] (.tup [])) (c3 : Pt 77 [(0, bwR 1 k2 n2), (1, bwB k2 l2)] [.at 0 [], .int .u64 v, .int .i64 19] [(0, bwR 2 k3 n3), (2, bwB k3 l3)] (.tup [])) : Pt 48 [(0, bwE)] [.at 0 [], .int .i64 19, .int .u64 v] [(0, bwR 1 k3 n3), (1, bwB k3 l3)] (.int .i64 0) := by
 refine pO Try.func48 (by kernel_rfl) ?_
 have d0 := Cb (p := 19) (by omega)
 have hq3 : ((v / 524288 : Nat) : Int) = (q : Int) := by rw [hq]
 clear hq
 refine W.rtA [(2, c9 d0), (3, aV (I6 19)), (6, aV (U6 ↑(v / 524288))), (7, aV (U6 q)), (9, aF), (12, aV (I6 q)), (13, cC true [(0, 0)] c1), (15, cC true [(0, 0), (273, 1)] c2), (19, cC true [(0, 0), (273, 1)] c3)] [(0, 0), (370, 1)] [_, I6 ↑(19 : Nat) = I6 19, U6 (Int.fdiv (v:Int) ((2 : Int) ^ 19)) = U6 ↑(v / 524288), (0 : Int) ≤ 19, U6 ↑(v / 524288) = U6 q, decide ((q:Int) > 65536) = false, I6 (IntKind.wrap .i64 (q:Int)) = I6 q, _, _, _] (ac (d0) (ac (cg (by omega)) (ac (cg (A7 (y := 19) (s := 19) rfl rfl (by decide) (by omega))) (ac (by omega) (ac (cg (hq3)) (ac (dF (by omega)) (ac (wj (by omega)) (ac (c1) (ac (c2) (ao (c3)))))))))))
theorem W_rpE12 {v q k0 n0 k1 n1 k2 n2 k3 n3 : Nat} {l0 l1 l2 l3 : Liz} (hv : v < 18446744073709551616) (hq : v / 524288 = q) (hq2 : q ≤ 65536) (c1 : Pt 76 [(0, bwE)] [.at 0 [], .int .i64 q] [(0, bwR 1 k1 n1), (1, bwB k1 l1)] (.tup [])) (c2 : Pt 77 [(0, bwR 1 k1 n1), (1, bwB k1 l1)] [.at 0 [], .int .u64 0, .int .i64 1] [(0, bwR 2 k2 n2), (2, bwB k2 l2)] (.tup [])) (c3 : Pt 77 [(0, bwR 1 k2 n2), (1, bwB k2 l2)] [.at 0 [], .int .u64 v, .int .i64 19] [(0, bwR 2 k3 n3), (2, bwB k3 l3)] (.tup [])) : Pt 48 [(0, bwE)] [.at 0 [], .int .i64 19, .int .u64 v] [(0, bwR 1 k3 n3), (1, bwB k3 l3)] (.int .i64 0) := by
 refine pO Try.func48 (by kernel_rfl) ?_
 have d0 := Cb (p := 19) (by omega)
 have hq3 : ((v / 524288 : Nat) : Int) = (q : Int) := by rw [hq]
 clear hq
 refine W.rtA [(2, c9 d0), (3, aV (I6 19)), (6, aV (U6 ↑(v / 524288))), (7, aV (U6 q)), (9, aF), (12, aV (I6 q)), (13, cC true [(0, 0)] c1), (15, cC true [(0, 0), (273, 1)] c2), (19, cC true [(0, 0), (306, 1)] c3)] [(0, 0), (370, 1)] [_, I6 ↑(19 : Nat) = I6 19, U6 (Int.fdiv (v:Int) ((2 : Int) ^ 19)) = U6 ↑(v / 524288), (0 : Int) ≤ 19, U6 ↑(v / 524288) = U6 q, decide ((q:Int) > 65536) = false, I6 (IntKind.wrap .i64 (q:Int)) = I6 q, _, _, _] (ac (d0) (ac (cg (by omega)) (ac (cg (A7 (y := 19) (s := 19) rfl rfl (by decide) (by omega))) (ac (by omega) (ac (cg (hq3)) (ac (dF (by omega)) (ac (wj (by omega)) (ac (c1) (ac (c2) (ao (c3)))))))))))
theorem W_rpF11 {v q k0 n0 k1 n1 k2 n2 k3 n3 : Nat} {l0 l1 l2 l3 : Liz} (hv : v < 18446744073709551616) (hq : v / 524288 = q) (hq2 : q ≤ 65536) (c1 : Pt 76 [(0, bwR 1 k0 n0), (1, bwB k0 l0)] [.at 0 [], .int .i64 q] [(0, bwR 1 k1 n1), (1, bwB k1 l1)] (.tup [])) (c2 : Pt 77 [(0, bwR 1 k1 n1), (1, bwB k1 l1)] [.at 0 [], .int .u64 0, .int .i64 1] [(0, bwR 1 k2 n2), (1, bwB k2 l2)] (.tup [])) (c3 : Pt 77 [(0, bwR 1 k2 n2), (1, bwB k2 l2)] [.at 0 [], .int .u64 v, .int .i64 19] [(0, bwR 2 k3 n3), (2, bwB k3 l3)] (.tup [])) : Pt 48 [(0, bwR 1 k0 n0), (1, bwB k0 l0)] [.at 0 [], .int .i64 19, .int .u64 v] [(0, bwR 2 k3 n3), (2, bwB k3 l3)] (.int .i64 0) := by
 refine pO Try.func48 (by kernel_rfl) ?_
 have d0 := Cb (p := 19) (by omega)
 have hq3 : ((v / 524288 : Nat) : Int) = (q : Int) := by rw [hq]
 clear hq
 refine W.rtA [(2, c9 d0), (3, aV (I6 19)), (6, aV (U6 ↑(v / 524288))), (7, aV (U6 q)), (9, aF), (12, aV (I6 q)), (13, cC true [(0, 0), (1, 1)] c1), (15, cC true [(0, 0), (1, 1)] c2), (19, cC true [(0, 0), (1, 1)] c3)] [(0, 0), (1, 1), (370, 2)] [_, I6 ↑(19 : Nat) = I6 19, U6 (Int.fdiv (v:Int) ((2 : Int) ^ 19)) = U6 ↑(v / 524288), (0 : Int) ≤ 19, U6 ↑(v / 524288) = U6 q, decide ((q:Int) > 65536) = false, I6 (IntKind.wrap .i64 (q:Int)) = I6 q, _, _, _] (ac (d0) (ac (cg (by omega)) (ac (cg (A7 (y := 19) (s := 19) rfl rfl (by decide) (by omega))) (ac (by omega) (ac (cg (hq3)) (ac (dF (by omega)) (ac (wj (by omega)) (ac (c1) (ac (c2) (ao (c3)))))))))))
theorem W_rpF12 {v q k0 n0 k1 n1 k2 n2 k3 n3 : Nat} {l0 l1 l2 l3 : Liz} (hv : v < 18446744073709551616) (hq : v / 524288 = q) (hq2 : q ≤ 65536) (c1 : Pt 76 [(0, bwR 1 k0 n0), (1, bwB k0 l0)] [.at 0 [], .int .i64 q] [(0, bwR 1 k1 n1), (1, bwB k1 l1)] (.tup [])) (c2 : Pt 77 [(0, bwR 1 k1 n1), (1, bwB k1 l1)] [.at 0 [], .int .u64 0, .int .i64 1] [(0, bwR 2 k2 n2), (2, bwB k2 l2)] (.tup [])) (c3 : Pt 77 [(0, bwR 1 k2 n2), (1, bwB k2 l2)] [.at 0 [], .int .u64 v, .int .i64 19] [(0, bwR 2 k3 n3), (2, bwB k3 l3)] (.tup [])) : Pt 48 [(0, bwR 1 k0 n0), (1, bwB k0 l0)] [.at 0 [], .int .i64 19, .int .u64 v] [(0, bwR 2 k3 n3), (2, bwB k3 l3)] (.int .i64 0) := by
 refine pO Try.func48 (by kernel_rfl) ?_
 have d0 := Cb (p := 19) (by omega)
 have hq3 : ((v / 524288 : Nat) : Int) = (q : Int) := by rw [hq]
 clear hq
 refine W.rtA [(2, c9 d0), (3, aV (I6 19)), (6, aV (U6 ↑(v / 524288))), (7, aV (U6 q)), (9, aF), (12, aV (I6 q)), (13, cC true [(0, 0), (1, 1)] c1), (15, cC true [(0, 0), (1, 1)] c2), (19, cC true [(0, 0), (306, 1)] c3)] [(0, 0), (1, 1), (370, 2)] [_, I6 ↑(19 : Nat) = I6 19, U6 (Int.fdiv (v:Int) ((2 : Int) ^ 19)) = U6 ↑(v / 524288), (0 : Int) ≤ 19, U6 ↑(v / 524288) = U6 q, decide ((q:Int) > 65536) = false, I6 (IntKind.wrap .i64 (q:Int)) = I6 q, _, _, _] (ac (d0) (ac (cg (by omega)) (ac (cg (A7 (y := 19) (s := 19) rfl rfl (by decide) (by omega))) (ac (by omega) (ac (cg (hq3)) (ac (dF (by omega)) (ac (wj (by omega)) (ac (c1) (ac (c2) (ao (c3)))))))))))
theorem W_rpF21 {v q k0 n0 k1 n1 k2 n2 k3 n3 : Nat} {l0 l1 l2 l3 : Liz} (hv : v < 18446744073709551616) (hq : v / 524288 = q) (hq2 : q ≤ 65536) (c1 : Pt 76 [(0, bwR 1 k0 n0), (1, bwB k0 l0)] [.at 0 [], .int .i64 q] [(0, bwR 2 k1 n1), (2, bwB k1 l1)] (.tup [])) (c2 : Pt 77 [(0, bwR 1 k1 n1), (1, bwB k1 l1)] [.at 0 [], .int .u64 0, .int .i64 1] [(0, bwR 1 k2 n2), (1, bwB k2 l2)] (.tup [])) (c3 : Pt 77 [(0, bwR 1 k2 n2), (1, bwB k2 l2)] [.at 0 [], .int .u64 v, .int .i64 19] [(0, bwR 2 k3 n3), (2, bwB k3 l3)] (.tup [])) : Pt 48 [(0, bwR 1 k0 n0), (1, bwB k0 l0)] [.at 0 [], .int .i64 19, .int .u64 v] [(0, bwR 2 k3 n3), (2, bwB k3 l3)] (.int .i64 0) := by
 refine pO Try.func48 (by kernel_rfl) ?_
 have d0 := Cb (p := 19) (by omega)
 have hq3 : ((v / 524288 : Nat) : Int) = (q : Int) := by rw [hq]
 clear hq
 refine W.rtA [(2, c9 d0), (3, aV (I6 19)), (6, aV (U6 ↑(v / 524288))), (7, aV (U6 q)), (9, aF), (12, aV (I6 q)), (13, cC true [(0, 0), (1, 1)] c1), (15, cC true [(0, 0), (274, 1)] c2), (19, cC true [(0, 0), (274, 1)] c3)] [(0, 0), (1, 1), (370, 2)] [_, I6 ↑(19 : Nat) = I6 19, U6 (Int.fdiv (v:Int) ((2 : Int) ^ 19)) = U6 ↑(v / 524288), (0 : Int) ≤ 19, U6 ↑(v / 524288) = U6 q, decide ((q:Int) > 65536) = false, I6 (IntKind.wrap .i64 (q:Int)) = I6 q, _, _, _] (ac (d0) (ac (cg (by omega)) (ac (cg (A7 (y := 19) (s := 19) rfl rfl (by decide) (by omega))) (ac (by omega) (ac (cg (hq3)) (ac (dF (by omega)) (ac (wj (by omega)) (ac (c1) (ac (c2) (ao (c3)))))))))))
theorem W_rpF22 {v q k0 n0 k1 n1 k2 n2 k3 n3 : Nat} {l0 l1 l2 l3 : Liz} (hv : v < 18446744073709551616) (hq : v / 524288 = q) (hq2 : q ≤ 65536) (c1 : Pt 76 [(0, bwR 1 k0 n0), (1, bwB k0 l0)] [.at 0 [], .int .i64 q] [(0, bwR 2 k1 n1), (2, bwB k1 l1)] (.tup [])) (c2 : Pt 77 [(0, bwR 1 k1 n1), (1, bwB k1 l1)] [.at 0 [], .int .u64 0, .int .i64 1] [(0, bwR 2 k2 n2), (2, bwB k2 l2)] (.tup [])) (c3 : Pt 77 [(0, bwR 1 k2 n2), (1, bwB k2 l2)] [.at 0 [], .int .u64 v, .int .i64 19] [(0, bwR 2 k3 n3), (2, bwB k3 l3)] (.tup [])) : Pt 48 [(0, bwR 1 k0 n0), (1, bwB k0 l0)] [.at 0 [], .int .i64 19, .int .u64 v] [(0, bwR 2 k3 n3), (2, bwB k3 l3)] (.int .i64 0) := by
 refine pO Try.func48 (by kernel_rfl) ?_
 have d0 := Cb (p := 19) (by omega)
 have hq3 : ((v / 524288 : Nat) : Int) = (q : Int) := by rw [hq]
 clear hq
 refine W.rtA [(2, c9 d0), (3, aV (I6 19)), (6, aV (U6 ↑(v / 524288))), (7, aV (U6 q)), (9, aF), (12, aV (I6 q)), (13, cC true [(0, 0), (1, 1)] c1), (15, cC true [(0, 0), (274, 1)] c2), (19, cC true [(0, 0), (306, 1)] c3)] [(0, 0), (1, 1), (370, 2)] [_, I6 ↑(19 : Nat) = I6 19, U6 (Int.fdiv (v:Int) ((2 : Int) ^ 19)) = U6 ↑(v / 524288), (0 : Int) ≤ 19, U6 ↑(v / 524288) = U6 q, decide ((q:Int) > 65536) = false, I6 (IntKind.wrap .i64 (q:Int)) = I6 q, _, _, _] (ac (d0) (ac (cg (by omega)) (ac (cg (A7 (y := 19) (s := 19) rfl rfl (by decide) (by omega))) (ac (by omega) (ac (cg (hq3)) (ac (dF (by omega)) (ac (wj (by omega)) (ac (c1) (ac (c2) (ao (c3)))))))))))
def BM (v : Nat) : List Nat := List.replicate (v / 524288) 1 ++ Ba 0 1 ++ Ba v 19
theorem Ec (v : Nat) : Bits (BM v) := ((FJ _).append (Dy 0 1)).append (Dy v 19)
theorem CX (v : Nat) : (BM v).length = v / 524288 + 20 := by
 unfold BM
 rw [List.length_append, List.length_append, Bg, Bg, List.length_replicate]
theorem Lx {A B : List Nat} (h : B ≠ []) : A ++ B ≠ [] := fun e => h (List.append_eq_nil_iff.1 e).2
theorem I5 (v w : Nat) : Ba v (w + 1) ≠ [] := by rw [Ba]; exact List.cons_ne_nil _ _
theorem RD {v : Nat} (hv : v < 18446744073709551616) (hq : v / 524288 ≤ 65536) : Pt 48 [(0, bwE)] [.at 0 [], .int .i64 19, .int .u64 v] (bwF 1 (BM v)) (.int .i64 0) := by
 have hB0 : Bits (Ba 0 1) := Dy 0 1
 unfold BM
 by_cases h0 : v / 524288 = 0
 ·rw [h0, List.replicate_zero, List.nil_append]
  exact W_rpEE1 (k0 := 0) (n0 := 0) (l0 := []) (k1 := 0) (n1 := 0) (l1 := []) hv h0 (by omega) PI (pc_putE (v := 0) (w := 0) (by decide) (by omega)) (Lb (w := 18) hv (by omega) (by omega) hB0 (I5 0 0) (by rw [Bg]; omega))
 ·obtain ⟨q, hq1⟩ : ∃ q, v / 524288 = q + 1 := ⟨v / 524288 - 1, by omega⟩
  rw [hq1]
  have hne : List.replicate (q + 1) 1 ≠ [] := by rw [List.replicate_succ]; exact List.cons_ne_nil _ _
  have hb1 := FJ (q + 1)
  have c3 := Lb (v := v) (w := 18) (B := List.replicate (q + 1) 1 ++ Ba 0 1) hv (by omega) (by omega) (hb1.append hB0) (Lx (I5 0 0)) (by rw [List.length_append, Bg, List.length_replicate]; omega)
  rcases O5 (v := 0) (w := 0) (by decide) (by omega) hb1 hne (by rw [List.length_replicate]; omega) with c2 | c2
  ·exact W_rpE11 (k0 := 0) (n0 := 0) (l0 := []) hv hq1 (by omega) (ML (by omega)) c2 c3
  ·exact W_rpE12 (k0 := 0) (n0 := 0) (l0 := []) hv hq1 (by omega) (ML (by omega)) c2 c3
theorem QT {v : Nat} {B : List Nat} (hv : v < 18446744073709551616) (hq : v / 524288 ≤ 65536) (hB : Bits B) (hne : B ≠ []) (hl : B.length ≤ 900000) : Pt 48 (bwF 1 B) [.at 0 [], .int .i64 19, .int .u64 v] (bwF 2 (B ++ BM v)) (.int .i64 0) := by
 have hB0 : Bits (Ba 0 1) := Dy 0 1
 unfold BM
 rw [← List.append_assoc, ← List.append_assoc]
 generalize hqq : v / 524288 = q at *
 have hb1 := hB.append (FJ q)
 have hne1 : B ++ List.replicate q 1 ≠ [] := fun e => hne (List.append_eq_nil_iff.1 e).1
 have hl1 : (B ++ List.replicate q 1).length = B.length + q := by rw [List.length_append, List.length_replicate]
 have c3 := Lb (v := v) (w := 18) (B := B ++ List.replicate q 1 ++ Ba 0 1) hv (by omega) (by omega) (hb1.append hB0) (Lx (I5 0 0)) (by rw [List.length_append, Bg]; omega)
 rcases Rk hq hB hne (by omega) with c1 | c1 <;> rcases O5 (v := 0) (w := 0) (by decide) (by omega) hb1 hne1 (by omega) with c2 | c2
 ·exact W_rpF11 hv hqq hq c1 c2 c3
 ·exact W_rpF12 hv hqq hq c1 c2 c3
 ·exact W_rpF21 hv hqq hq c1 c2 c3
 ·exact W_rpF22 hv hqq hq c1 c2 c3
def dS0 (nl : Bool) (n : Nat) (L : List Int) : DS := ⟨[(0, .int .i64 19), (6, .at 0 []), (7, .int .u64 0), (12, .vec nl (.iarr .u64 n L)), (13, .int .i64 n), (14, .int .i64 0)], [(0, bwE)]⟩
def dS1 (nl : Bool) (n i s k m : Nat) (L l : List Int) : DS := ⟨[(0, .int .i64 19), (6, .at 0 []), (7, .int .u64 s), (12, .vec nl (.iarr .u64 n L)), (13, .int .i64 n), (14, .int .i64 i)], [(0, bwR 1 k m), (1, bwB k l)]⟩
theorem RI {nl : Bool} {n : Nat} {L : Liz} {hout : Lrz} {res : PV} (hw : Wt Try.f22 [] hout res (Aa Try.f22 0) (dS0 nl n L)) : Pt 22 [] [.int .i64 19, .vec nl (.iarr .u64 n L)] hout res := by
 refine pO Try.func22 (by kernel_rfl) ?_
 have c1 := R3
 refine W.sgA 0 [(2, c9 c1)] [(96, 0)] (dS0 nl n L) [_] (ao (c1)) ?_
 exact hw
theorem W_st0 {nl : Bool} {n x k m : Nat} {L l : Liz} {hout : Lrz} {res : PV} (hn : n ≤ 100000) (h0 : 0 < n) (g : L.getD 0 0 = (x : Int)) (hx : x < 18446744073709551616) (c1 : Pt 48 [(0, bwE)] [.at 0 [], .int .i64 19, .int .u64 x] [(0, bwR 1 k m), (1, bwB k l)] (.int .i64 0))
  (hw : Wt Try.f22 [] hout res (Aa Try.f22 0) (dS1 nl n 1 x k m L l)) : Wt Try.f22 [] hout res (Aa Try.f22 0) (dS0 nl n L) := by
 refine W.sgA 0 [(0, aT), (2, aV (U6 x)), (11, aV (U6 x)), (12, cC true [(0, 0)] c1), (18, aV (I6 1))] [(0, 0), (257, 1)] (dS1 nl n 1 x k m L l) [decide (0 < (n:Int)) = true, (0 : Int) ≤ 0, 0 < (n:Int), U6 (List.getD L 0 (0 : Int)) = U6 x, 0 < n, U6 (IntKind.wrap .u64 ((x:Int) - 0)) = U6 x, _, I6 (IntKind.wrap .i64 ((0 : Int) + (1 : Int))) = I6 1] (ac (dT (by omega)) (ob2 (by omega) (ac (cg (g)) (ac (by omega) (ac (cg (Au rfl (by omega) (by omega))) (ac (c1) (ao (wj (by omega))))))))) ?_
 exact hw
theorem W_st1 {nl : Bool} {n i s d k m k2 m2 : Nat} {L l l2 : Liz} {hout : Lrz} {res : PV} (hn : n ≤ 100000) (hi : i < n) (g : L.getD i 0 = ((s + d : Nat) : Int)) (hx : s + d < 18446744073709551616) (c1 : Pt 48 [(0, bwR 1 k m), (1, bwB k l)] [.at 0 [], .int .i64 19, .int .u64 d] [(0, bwR 2 k2 m2), (2, bwB k2 l2)] (.int .i64 0))
  (hw : Wt Try.f22 [] hout res (Aa Try.f22 0) (dS1 nl n (i + 1) (s + d) k2 m2 L l2)) : Wt Try.f22 [] hout res (Aa Try.f22 0) (dS1 nl n i s k m L l) := by
 refine W.sgA 0 [(0, aT), (2, aV (U6 ↑(s + d))), (6, aF), (11, aV (U6 d)), (12, cC true [(0, 0), (1, 1)] c1), (18, aV (I6 ↑(i + 1)))] [(0, 0), (258, 1)] (dS1 nl n (i + 1) (s + d) k2 m2 L l2) [decide ((i:Int) < (n:Int)) = true, 0 ≤ (i:Int), (i:Int) < (n:Int), U6 (List.getD L i (0 : Int)) = U6 ↑(s + d), i < n, decide ((↑(s + d) : Int) < (s:Int)) = false, U6 (IntKind.wrap .u64 ((↑(s + d) : Int) - (s:Int))) = U6 d, _, I6 (IntKind.wrap .i64 ((i:Int) + 1)) = I6 ↑(i + 1)] (ac (dT (by omega)) (ob2 (by omega) (ac (cg (g)) (ac (by omega) (ac (dF (by omega)) (ac (cg (Au (by omega) (by omega) (by omega))) (ac (c1) (ao (wj (by omega)))))))))) ?_
 exact hw
theorem Oq {k m : Nat} {l : Liz} (hl : l.length = k) (hk : k ≤ 1000000) : Pt 49 [(0, bwR 1 k m), (1, bwB k l)] [.at 0 []] [(0, bwR 1 k m), (1, ⟨.iarr .u8 k l, true⟩)] (.vec false (.iarr .u8 k l)) := by
 refine pO Try.func49 (by kernel_rfl) ?_
 have c1 := Eh (nl := false) (show k ≤ 1000000000 by omega) hl (fun x => by cases x)
 have ht : l.take k = l := List.take_of_length_le (by omega)
 refine W.rtA [(5, cL false [] c1)] [(0, 0), (1, 1)] [0 + k ≤ k, rr ([] : List (Nat × Row)), ([PV.vec false (B8 k (List.take k l))] : List PV) = [PV.vec false (B8 k l)], _] (ac (by omega) (ac rfl (ac (by rw [List.take_of_length_le (show List.length l ≤ k by omega)]) (ao (c1)))))
theorem L8 : Pt 49 [(0, bwE)] [.at 0 []] [(0, bwE)] (.vec true (.iarr .u8 0 [])) := by
 refine pO Try.func49 (by kernel_rfl) ?_
 have c1 := Eh (nl := true) (n := 0) (l := []) (by omega) rfl (fun _ => rfl)
 refine W.rtA [(5, c9 c1)] [(0, 0)] [_] (ao (c1))
theorem W_stE {nl : Bool} {n s k m : Nat} {L l : Liz} (hl : l.length = k) (hk : k ≤ 1000000) : Wt Try.f22 [] [] (.tup [.vec false (.iarr .u8 k l), .int .i64 0]) (Aa Try.f22 0) (dS1 nl n n s k m L l) := by
 have c1 := Oq (m := m) hl hk
 refine W.rtA [(0, aF), (2, cC false [(0, 0), (1, 1)] c1)] [] [decide ((n:Int) < (n:Int)) = false, _] (ac (dF (by omega)) (ao (c1)))
theorem W_stE0 {nl : Bool} {L : Liz} : Wt Try.f22 [] [] (.tup [.vec true (.iarr .u8 0 []), .int .i64 0]) (Aa Try.f22 0) (dS0 nl 0 L) := by
 have c1 := L8
 refine W.rtA [(2, cC true [(0, 0)] c1)] [] [_] (ao (c1))
def inL (l : List Nat) : List Int := l.map fun x : Nat => (x : Int)
def stB : Nat → List Nat → List Nat
 | _, [] => []
 | s, x :: l => BM (x - s) ++ stB x l
def Ku : Nat → List Nat → Prop
 | _, [] => True
 | s, x :: l => s ≤ x ∧ Ku x l
theorem OT (v : Nat) : BM v ≠ [] := Lx (I5 v 18)
theorem FE : ∀ (l : List Nat) (s : Nat), Bits (stB s l)
 | [], s => Bits.nil
 | x :: l, s => (Ec _).append (FE l x)
theorem W_st {nl : Bool} {n : Nat} {L : Liz} (hn : n ≤ 2000) : ∀ (r : List Nat) (i s : Nat) (B : List Nat), i + r.length = n → L.drop i = inL r → Ku s r → (∀ x ∈ r, x < 1073741824) → Bits B → B ≠ [] → B.length ≤ 20 * i + s / 524288 → s < 1073741824 →
  Wt Try.f22 [] [] (.tup [.vec false (.iarr .u8 (pk (B ++ stB s r)).length (pk (B ++ stB s r))), .int .i64 0]) (Aa Try.f22 0) (dS1 nl n i s (pk B).length B.length L (pk B))
 | [], i, s, B, hi, hL, hr, hx, hB, h0, hb, hs => by
  obtain rfl : i = n := by simpa using hi
  have := Bc B
  rw [stB, List.append_nil]
  exact W_stE rfl (by omega)
 | x :: r, i, s, B, hi, hL, hr, hx, hB, h0, hb, hs => by
  rw [List.length_cons] at hi
  have hin : i < L.length := by
   rcases Nat.lt_or_ge i L.length with h | h
   ·exact h
   ·rw [List.drop_of_length_le h] at hL; cases hL
  have e1 : L.drop i = L[i] :: L.drop (i + 1) := List.drop_eq_getElem_cons hin
  rw [e1] at hL
  obtain ⟨g1, g2⟩ := List.cons.inj hL
  have g : L.getD i 0 = ((s + (x - s) : Nat) : Int) := by
   rw [List.getD_eq_getElem?_getD, List.getElem?_eq_getElem hin, show s + (x - s) = x by have := hr.1; omega]
   exact g1
  have hxx := hx x (by simp)
  have hlen := CX (x - s)
  have hd : (x - s) / 524288 + s / 524288 ≤ x / 524288 := by have := hr.1; omega
  have c1 := QT (v := x - s) (by omega) (by omega) hB h0 (by omega)
  have ih := W_st (nl := nl) (L := L) hn r (i + 1) x (B ++ BM (x - s)) (by omega) g2 hr.2 (fun y hy => hx y (by simp [hy])) (hB.append (Ec _)) (Lx (OT _)) (by rw [List.length_append, hlen]; omega) hxx
  rw [stB, ← List.append_assoc]
  have ih2 := W_st1 (n := n) (s := s) (d := x - s) (by omega) (by omega) g (by omega) c1 (by rw [show s + (x - s) = x by have := hr.1; omega]; exact ih)
  exact ih2
theorem Qi {nl : Bool} {n : Nat} {r : List Nat} (hn : n ≤ 2000) (hl : r.length = n) (h0 : 0 < n) (hr : Ku 0 r) (hx : ∀ x ∈ r, x < 1073741824) : Pt 22 [] [.int .i64 19, .vec nl (.iarr .u64 n (inL r))] [] (.tup [.vec false (.iarr .u8 (pk (stB 0 r)).length (pk (stB 0 r))), .int .i64 0]) := by
 cases r with
 | nil => rw [List.length_nil] at hl; omega
 | cons x r =>
  rw [List.length_cons] at hl
  have hxx := hx x (by simp)
  have hlen := CX x
  have c1 := RD (v := x) (by omega) (by omega)
  have hw := W_st (nl := nl) (n := n) (L := inL (x :: r)) hn r 1 x (BM x) (by omega) rfl hr.2 (fun y hy => hx y (by simp [hy])) (Ec _) (OT _) (by omega) hxx
  rw [stB, Nat.sub_zero]
  exact RI (W_st0 (by omega) h0 rfl (by omega) c1 hw)
theorem PW {nl : Bool} : Pt 22 [] [.int .i64 19, .vec nl (.iarr .u64 0 [])] [] (.tup [.vec true (.iarr .u8 0 []), .int .i64 0]) := RI W_stE0
end Go.Proofs
namespace Go.Proofs
open Go Go.Pe Go.Pm
set_option maxRecDepth 100000
set_option linter.unusedVariables false
attribute [local irreducible] lv
theorem PX {x : Nat} (hx : x < 253) : Pt 21 [(0, wrN)] [.at 0 [], .int .u64 x] [(0, wrR 2 1), (2, Bw 1 (le x 1))] (.tup []) := by
 refine pO Try.func21 (by kernel_rfl) ?_
 have c1 := KI (x := x) (w := 1) (by omega) (by omega) (by omega)
 refine W.rtA [(1, aT), (5, cC true [(0, 0)] c1)] [(0, 0), (146, 2)] [decide ((x:Int) < 253) = true, _] (ac (dT (by omega)) (ao (c1)))
theorem Qb {x : Nat} (hx : ¬ x < 253) (hx2 : x < 65536) : Pt 21 [(0, wrN)] [.at 0 [], .int .u64 x] [(0, wrR 2 3), (2, Bw 3 (le 253 1 ++ le x 2))] (.tup []) := by
 refine pO Try.func21 (by kernel_rfl) ?_
 have c1 := KI (x := 253) (w := 1) (by omega) (by omega) (by omega)
 have c2 := Rf (x := x) (w := 2) (n := 1) (l := le 253 1) (by omega) (by omega) (Dp _ _) (by omega)
 refine W.rtA [(1, aF), (4, aT), (7, cC true [(0, 0)] c1), (10, cC true [(0, 0), (178, 1)] c2)] [(0, 0), (226, 2)] [decide ((x:Int) < 253) = false, decide ((x:Int) ≤ 65535) = true, _, _] (ac (dF (by omega)) (ac (dT (by omega)) (ac (c1) (ao (c2)))))
def BN (x : Nat) : List Int := if x < 253 then le x 1 else le 253 1 ++ le x 2
theorem Fb (x : Nat) : (BN x).length = if x < 253 then 1 else 3 := by
 unfold BN
 split
 ·exact Dp _ _
 ·rw [List.length_append, Dp, Dp]
theorem KS {x : Nat} (hx : x < 65536) : Pt 21 [(0, wrN)] [.at 0 [], .int .u64 x] [(0, wrR 2 (BN x).length), (2, Bw (BN x).length (BN x))] (.tup []) := by
 rw [Fb]
 unfold BN
 by_cases h : x < 253
 ·rw [if_pos h, if_pos h]
  exact PX h
 ·rw [if_neg h, if_neg h]
  exact Qb h hx
theorem W_bld0 {nl : Bool} {k0 k1 : Int} {o : Liz} (c1 : Pt 19 [] [.vec nl (.parr 1 0 ish [])] [] (.vec true (.parr 1 0 ish [])))
  (c2 : Pt 21 [(0, wrN)] [.at 0 [], .int .u64 0] [(0, wrR 2 1), (2, Bw 1 o)] (.tup [])) (c3 : Pt 23 [] [.iarr .u64 2 [k0, k1], .vec true (.parr 1 0 ish []), .int .u64 0] [(1, Ac 0 [])] (.ref 1 [] 1 0 0))
  (c4 : Pt 22 [] [.int .i64 19, .vec false (.iarr .u64 0 [])] [] (.tup [.vec true (.iarr .u8 0 []), .int .i64 0]))
  (c5 : Pt 24 [(0, wrR 1 1), (1, Bw 1 o)] [.at 0 [], .vec false (.parr 1 1 ish [.vec true (.iarr .u8 0 [])])] [(0, wrR 2 1), (2, Bw 1 o)] (.tup []))
  (c6 : Pt 25 [(0, wrR 1 1), (1, Bw 1 o)] [.at 0 []] [(0, wrR 1 1), (1, Bw 1 o), (2, Bw 1 o)] (.ref 2 [] 1 0 1)) :
  Pt 11 [] [.iarr .u64 2 [k0, k1], .vec nl (.parr 1 0 ish [])] [(1, Bw 1 o)] (.tup [.ref 1 [] 1 0 1, .int .i64 0]) := by
 refine pO Try.func11 (by kernel_rfl) ?_
 have c7 := MM
 refine W.rtA [(4, c9 c1), (7, aV (I6 0)), (9, c9 c7), (13, aV (I6 0)), (14, aV (U6 0)), (15, cC true [(209, 0)] c2), (19, aV (I6 0)), (20, aV (U6 0)), (21, aV (U6 0)), (22, c9 c3), (23, c9 c4), (34, cC true [(209, 0), (306, 1)] c5), (36, cC true [(209, 0), (610, 1)] c6)] [(642, 1)] [_, I6 ↑(0 : Nat) = I6 0, _, I6 ↑(0 : Nat) = I6 0, U6 (IntKind.wrap .u64 (0 : Int)) = U6 0, _, I6 ↑(0 : Nat) = I6 0, U6 (IntKind.wrap .u64 (0 : Int)) = U6 0, U6 (IntKind.wrap .u64 ((784931 : Int) * (0 : Int))) = U6 0, _, 0 ≤ 0, _, 1 ≤ 1, _, _] (ac (c1) (ac (cg (by omega)) (ac (c7) (ac (cg (by omega)) (ac (cg (Au rfl (by omega) (by omega))) (ac (c2) (ac (cg (by omega)) (ac (cg (Au rfl (by omega) (by omega))) (ac (cg (Au rfl (by omega) (by omega))) (ac (c3) (ac (by omega) (ac (c4) (ac (by omega) (ac (c5) (ao (c6))))))))))))))))
theorem W_bld {nl : Bool} {n k a b m t : Nat} {k0 k1 : Int} {M U : Lpz} {nums o s q : Liz} (hn : n ≤ 1000000) (hk : k ≤ 1000) (hU : U.length = k) (hL : nums.length = k) (ht : k * 784931 = t) (c1 : Pt 19 [] [.vec nl (.parr 1 n ish M)] [(1, ⟨.parr 1 k ish U, false⟩)] (.ref 1 [] 1 0 k))
  (c2 : Pt 21 [(0, wrN)] [.at 0 [], .int .u64 k] [(0, wrR 2 a), (2, Bw a o)] (.tup [])) (c3 : Pt 23 [] [.iarr .u64 2 [k0, k1], .vec false (.parr 1 k ish U), .int .u64 t] [(1, Ac k nums)] (.ref 1 [] 1 0 k))
  (c4 : Pt 22 [] [.int .i64 19, .vec false (.iarr .u64 k nums)] [] (.tup [.vec false (.iarr .u8 b s), .int .i64 0]))
  (c5 : Pt 24 [(0, wrR 1 a), (1, Bw a o)] [.at 0 [], .vec false (.parr 1 1 ish [.vec false (.iarr .u8 b s)])] [(0, wrR 2 m), (2, Bw m q)] (.tup []))
  (c6 : Pt 25 [(0, wrR 1 m), (1, Bw m q)] [.at 0 []] [(0, wrR 1 m), (1, Bw m q), (2, Bw m q)] (.ref 2 [] 1 0 m)) :
  Pt 11 [] [.iarr .u64 2 [k0, k1], .vec nl (.parr 1 n ish M)] [(1, Bw m q)] (.tup [.ref 1 [] 1 0 m, .int .i64 0]) := by
 refine pO Try.func11 (by kernel_rfl) ?_
 have c7 := MM
 have h1 : U.take k = U := List.take_of_length_le (by omega)
 have h2 : nums.take k = nums := List.take_of_length_le (by omega)
 have h3 : ((784931 * k % 18446744073709551616 : Nat) : Int) = (t : Int) := by omega
 have h4 : ((784931 * k : Nat) : Int) = (t : Int) := by omega
 refine W.rtA [(4, c0 c1), (8, aF), (9, c9 c7), (14, aV (U6 k)), (15, cC true [(209, 0)] c2), (20, aV (U6 k)), (21, aV (U6 t)), (22, cL true [] c3), (23, cL false [] c4), (34, cC true [(209, 0), (306, 1)] c5), (36, cC true [(209, 0), (610, 1)] c6)] [(642, 1)] [_, decide ((k:Int) > 1000) = false, _, U6 (IntKind.wrap .u64 (k:Int)) = U6 k, _, U6 (IntKind.wrap .u64 (k:Int)) = U6 k, U6 (IntKind.wrap .u64 (784931 * (k:Int))) = U6 t, 0 + k ≤ k, rr ([] : List (Nat × Row)), ([B6 2 [k0, k1], PV.vec false (PV.parr 1 k (Sh.vec 1 (Sh.int .u8)) (List.take k U)), U6 t] : List PV) = [B6 2 [k0, k1], PV.vec false (PV.parr 1 k (Sh.vec 1 (Sh.int .u8)) U), U6 t], _, 0 + k ≤ k, rr ([] : List (Nat × Row)), ([I6 19, PV.vec false (B6 k (List.take k nums))] : List PV) = [I6 19, PV.vec false (B6 k nums)], _, 1 ≤ 1, _, _] (ac (c1) (ac (dF (by omega)) (ac (c7) (ac (cg (Au rfl (by omega) (by omega))) (ac (c2) (ac (cg (Au rfl (by omega) (by omega))) (ac (cg (Au h4 (by omega) (by omega))) (ac (by omega) (ac rfl (ac (by rw [List.take_of_length_le (show List.length U ≤ k by omega)]) (ac (c3) (ac (by omega) (ac rfl (ac (by rw [List.take_of_length_le (show List.length nums ≤ k by omega)]) (ac (c4) (ac (by omega) (ac (c5) (ao (c6)))))))))))))))))))
end Go.Proofs
namespace Go.Proofs
open Go Go.Pe Go.Pm
set_option maxRecDepth 100000
set_option linter.unusedVariables false
attribute [local irreducible] lv
def Hq (U : List It) (b : List Int) : Bool := U.any fun u => decide (u.2 = b)
def AC : List It → List It → List It
 | U, [] => U
 | U, x :: l => if Hq U x.2 = true then AC U l else AC (U ++ [x]) l
structure Cc (x : It) : Prop where
 b : Bytes x.2
 nl : x.1 = true → x.2 = []
 len : x.2.length ≤ 1000000
theorem OA : ∀ (U : List It), (∀ u ∈ U, Bytes u.2) → ∀ {b : List Int}, Bytes b → Cy (ksI U) (.str (strOf b)) = Hq U b
 | [], _, b, _ => rfl
 | u :: U, h, b, hb => by
  have ih := OA U (fun v hv => h v (List.mem_cons_of_mem _ hv)) hb
  unfold Cy ksI Hq at ih ⊢
  rw [List.map_cons, List.any_cons, List.any_cons, ih]
  congr 1
  unfold DK
  rw [decide_eq_decide]
  exact ⟨fun e => (PE hb (h u (by simp)) e).symm, fun e => by rw [e]⟩
theorem Kz : ∀ (K : List PV) (V : List Int) (q : PV), Cy K q = false → Az K V q = 0
 | [], V, q, _ => by cases V <;> rfl
 | k :: K, [], q, _ => rfl
 | k :: K, v :: V, q, h => by
  unfold Cy at h
  rw [List.any_cons, Bool.or_eq_false_iff] at h
  unfold Az
  rw [if_neg (by rw [h.1]; decide)]
  exact Kz K V q h.2
theorem Mm : ∀ (K : List PV) (V : List Int) (s : ByteArray) (x : Int), Cy K (.str s) = false → K.length = V.length → Az (K ++ [.str s]) (V ++ [x]) (.str s) = x
 | [], [], s, x, _, _ => by simp [Az, DK]
 | [], v :: V, s, x, _, h => by simp at h
 | k :: K, [], s, x, _, h => by simp at h
 | k :: K, v :: V, s, x, h, hl => by
  unfold Cy at h
  rw [List.any_cons, Bool.or_eq_false_iff] at h
  rw [List.cons_append, List.cons_append]
  unfold Az
  rw [if_neg (by rw [h.1]; decide)]
  exact Mm K V s x h.2 (by simpa using hl)
theorem Mv : ∀ (K : List PV) (V : List Int) (q : PV), Cy K q = true → K.length = V.length → Az K V q ∈ V
 | [], V, q, h, _ => by cases h
 | k :: K, [], q, _, h => by simp at h
 | k :: K, v :: V, q, h, hl => by
  unfold Cy at h
  rw [List.any_cons, Bool.or_eq_true] at h
  unfold Az
  by_cases e : DK q k = true
  ·rw [if_pos e]; simp
  ·rw [if_neg e]
   exact List.mem_cons_of_mem _ (Mv K V q (h.resolve_left e) (by simpa using hl))
theorem Ni : ∀ (K : List PV) (V : List Int) (q : PV) (x : Int), Cy K q = true → K.length = V.length → Az K (CV K V q x) q = x
 | [], V, q, x, h, _ => by cases h
 | k :: K, [], q, x, _, h => by simp at h
 | k :: K, v :: V, q, x, h, hl => by
  unfold Cy at h
  rw [List.any_cons, Bool.or_eq_true] at h
  unfold CV
  by_cases e : DK q k = true
  ·rw [if_pos e]
   unfold Az
   rw [if_pos e]
  ·rw [if_neg e]
   unfold Az
   rw [if_neg e]
   exact Ni K V q x (h.resolve_left e) (by simpa using hl)
theorem OM : ∀ (K : List PV) (V : List Int) (q : PV) (x : Int), (CV K V q x).length = V.length ∧ ∀ y ∈ CV K V q x, y = x ∨ y ∈ V
 | [], V, q, x => by
  cases V <;> exact ⟨rfl, fun y hy => .inr hy⟩
 | k :: K, [], q, x => ⟨rfl, fun y hy => .inr hy⟩
 | k :: K, v :: V, q, x => by
  unfold CV
  split
  ·refine ⟨rfl, fun y hy => ?_⟩
   rcases List.mem_cons.1 hy with rfl | hy
   ·exact .inl rfl
   ·exact .inr (List.mem_cons_of_mem _ hy)
  ·have ih := OM K V q x
   refine ⟨by rw [List.length_cons, List.length_cons, ih.1], fun y hy => ?_⟩
   rcases List.mem_cons.1 hy with rfl | hy
   ·exact .inr (by simp)
   ·exact (ih.2 y hy).imp_right (List.mem_cons_of_mem _)
theorem Ce {I : List It} {i : Nat} (h : i < I.length) : (I.map itB).getD i .undef = .vec (I.getD i default).1 (.iarr .u8 (I.getD i default).2.length (I.getD i default).2) := by
 simp [List.getD_eq_getElem?_getD, h, itB]
theorem Kt {I : List It} (ho : ∀ x ∈ I, Cc x) {i : Nat} (h : i < I.length) : Cc (I.getD i default) := by
 have : I.getD i default = I[i] := by simp [List.getD_eq_getElem?_getD, h]
 rw [this]; exact ho _ (List.getElem_mem h)
theorem drop_at {α : Type} [Inhabited α] {I : List α} {i : Nat} (h : i < I.length) : I.drop i = I.getD i default :: I.drop (i + 1) := by
 rw [List.drop_eq_getElem_cons h]; simp [List.getD_eq_getElem?_getD, h]
theorem Dq : ∀ (l U : List It), U.length ≤ (AC U l).length ∧ (AC U l).length ≤ U.length + l.length
 | [], U => ⟨Nat.le_refl _, by rw [AC]; simp⟩
 | x :: l, U => by
  unfold AC
  split
  ·have := Dq l U
   rw [List.length_cons]; omega
  ·have := Dq l (U ++ [x])
   rw [List.length_append, List.length_singleton] at this
   rw [List.length_cons]; omega
theorem FQ {P : It → Prop} : ∀ (l U : List It), (∀ x ∈ U, P x) → (∀ x ∈ l, P x) → ∀ x ∈ AC U l, P x
 | [], U, hU, _ => hU
 | y :: l, U, hU, hl => by
  unfold AC
  split
  ·exact FQ l U hU fun x hx => hl x (List.mem_cons_of_mem _ hx)
  ·refine FQ l (U ++ [y]) (fun x hx => ?_) fun x hx => hl x (List.mem_cons_of_mem _ hx)
   rcases List.mem_append.1 hx with hx | hx
   ·exact hU x hx
   ·rw [List.mem_singleton.1 hx]; exact hl y (by simp)
theorem W_un {nl : Bool} {I : List It} (hn : I.length ≤ 900000) (ho : ∀ x ∈ I, Cc x) : ∀ (r i : Nat) (U : List It) (V : List Int), i + r = I.length → 0 < i → (∀ u ∈ U, Cc u) → U.length ≤ i → V.length = U.length → (∀ v ∈ V, 1 ≤ v ∧ v ≤ (i : Int)) →
  Wt Try.f19 [] [(1, ⟨.parr 1 (AC U (I.drop i)).length ish ((AC U (I.drop i)).map itB), false⟩)] (.ref 1 [] 1 0 (AC U (I.drop i)).length) (Aa Try.f19 0) (dU nl I.length i U.length (I.map itB) (ksI U) V (U.map itB))
 | 0, i, U, V, hk, h0, hU, hl, hV, hv => by
  obtain rfl : i = I.length := by omega
  rw [List.drop_of_length_le (Nat.le_refl _), AC]
  exact W_uE
 | r + 1, i, U, V, hk, h0, hU, hl, hV, hv => by
  have hi : i < I.length := by omega
  have hx := Kt ho hi
  have g := Ce hi
  have hs := OA U (fun u hu => (hU u hu).b) hx.b
  have hkl : (ksI U).length = V.length := by rw [hV]; simp [ksI]
  rw [drop_at hi, AC]
  by_cases h : Hq U (I.getD i default).2 = true
  ·rw [if_pos h]
   rw [h] at hs
   have hb := hv _ (Mv _ V _ hs hkl)
   have hm := OM (ksI U) V (.str (strOf (I.getD i default).2)) (Az (ksI U) V (.str (strOf (I.getD i default).2)) + 1)
   have hw := W_un (nl := nl) hn ho r (i + 1) U (CV (ksI U) V (.str (strOf (I.getD i default).2)) (Az (ksI U) V (.str (strOf (I.getD i default).2)) + 1)) (by omega) (by omega) hU (by omega) (by rw [hm.1, hV]) (fun v hv2 => by
    rcases hm.2 v hv2 with rfl | h3
    ·omega
    ·have := hv v h3; omega)
   exact W_uO hi (by omega) g rfl hb.1 (by omega) hs rfl (Ni _ V _ _ hs hkl) hw
  ·rw [if_neg h]
   have hf : Hq U (I.getD i default).2 = false := by simpa using h
   rw [hf] at hs
   have hw := W_un (nl := nl) hn ho r (i + 1) (U ++ [I.getD i default]) (V ++ [1]) (by omega) (by omega) (fun u hu => by
    rcases List.mem_append.1 hu with hu | hu
    ·exact hU u hu
    ·rw [List.mem_singleton.1 hu]; exact hx) (by rw [List.length_append, List.length_singleton]; omega) (by rw [List.length_append, List.length_append, hV]; rfl) (fun v hv2 => by
    rcases List.mem_append.1 hv2 with h3 | h3
    ·have := hv v h3; omega
    ·rw [List.mem_singleton.1 h3]; omega)
   have e1 : ksI (U ++ [I.getD i default]) = ksI U ++ [.str (strOf (I.getD i default).2)] := by unfold ksI; rw [List.map_append]; rfl
   have e2 : (U ++ [I.getD i default]).map itB = U.map itB ++ [.vec (I.getD i default).1 (.iarr .u8 (I.getD i default).2.length (I.getD i default).2)] := by rw [List.map_append]; rfl
   rw [e1, e2, List.length_append, List.length_singleton] at hw
   exact W_uN hi (by omega) hl (by rw [List.length_map]) g rfl hs (Kz _ V _ hs) (Mm _ V _ 1 hs hkl) hw
theorem P5 {nl : Bool} {I : List It} (hn : I.length ≤ 900000) (h0 : 0 < I.length) (ho : ∀ x ∈ I, Cc x) : Pt 19 [] [.vec nl (.parr 1 I.length ish (I.map itB))] [(1, ⟨.parr 1 (AC [] I).length ish ((AC [] I).map itB), false⟩)] (.ref 1 [] 1 0 (AC [] I).length) := by
 refine W_uIn ?_
 have hx := Kt ho h0
 have e : AC [] I = AC [I.getD 0 default] (I.drop 1) := by
  have := drop_at h0
  rw [List.drop_zero] at this
  conv => lhs; rw [this]
  rw [AC, if_neg (by simp [Hq])]
  rfl
 rw [e]
 have hw := W_un (nl := nl) hn ho (I.length - 1) 1 [I.getD 0 default] [1] (by omega) (by omega) (fun u hu => by rw [List.mem_singleton.1 hu]; exact hx) (Nat.le_refl 1) rfl (fun v hv => by rw [List.mem_singleton.1 hv]; omega)
 exact W_ul0 h0 (by omega) (Ce h0) rfl hw
def Ep (k0 k1 t : Nat) (u : It) : Nat := sipM k0 k1 u.2 * t / 18446744073709551616
def BF (k0 k1 t : Nat) (U : List It) : List Int := U.map fun u => (Ep k0 k1 t u : Int)
theorem GI {k0 k1 : Nat} {l : List Int} (h0 : k0 < 18446744073709551616) (h1 : k1 < 18446744073709551616) (hb : Bytes l) : sipM k0 k1 l < 18446744073709551616 := by
 have hB : ∀ (q : Nat) (v : V4) (l : List Int), v.Ok → Bytes l → (sipB v l q).Ok := by
  intro q
  induction q with
  | zero => intro v l hv _; exact hv
  | succ q ih => intro v l hv hb; exact ih _ _ (hv.tk (Im hb 8)) (hb.drop _)
 unfold sipM sipF sipE
 have hv := hB (l.length / 8) (J9 k0 k1) l (O9 h0 h1) hb
 have hd : Bytes (l.drop (8 * (l.length / 8))) := hb.drop _
 have hdl : (l.drop (8 * (l.length / 8))).length < 8 := by rw [List.length_drop]; omega
 have hk := Im hd (l.drop (8 * (l.length / 8))).length
 have hk2 : 2 ^ (8 * (l.drop (8 * (l.length / 8))).length) ≤ 2 ^ 64 := Nat.pow_le_pow_right (by omega) (by omega)
 have ho : l.length % 256 * 72057594037927936 ||| lv (l.drop (8 * (l.length / 8))) (l.drop (8 * (l.length / 8))).length < 18446744073709551616 := Nat.or_lt_two_pow (n := 64) (by omega) (Nat.lt_of_lt_of_le hk hk2)
 have hw := hv.tk ho
 exact sipX_lt (V4.Ok.rnd (V4.Ok.rnd (V4.Ok.rnd (V4.Ok.rnd ⟨hw.a, hw.b, Cj hw.c (by decide), hw.d⟩))))
theorem num1_lt {k0 k1 t : Nat} {u : It} (h0 : k0 < 18446744073709551616) (h1 : k1 < 18446744073709551616) (hb : Bytes u.2) (ht : 0 < t) : Ep k0 k1 t u < t := by
 unfold Ep
 have := GI h0 h1 hb
 rw [Nat.div_lt_iff_lt_mul (by decide), Nat.mul_comm]
 exact Nat.mul_lt_mul_of_pos_left this ht
theorem W_num {nl : Bool} {k0 k1 t : Nat} {U : List It} (h0 : k0 < 18446744073709551616) (h1 : k1 < 18446744073709551616) (ht : t < 18446744073709551616) (hn : U.length < 65536) (ho : ∀ x ∈ U, Cc x) : ∀ (r i : Nat), i + r = U.length →
  Wt Try.f23 [] [(1, Ac U.length ((BF k0 k1 t U).mergeSort (fun x y => decide (x ≤ y))))] (.ref 1 [] 1 0 U.length) (Aa Try.f23 0) (dN0 nl U.length i t k0 k1 (U.map itB) ((BF k0 k1 t U).take i))
 | 0, i, hk => by
  obtain rfl : i = U.length := by omega
  have hl : (BF k0 k1 t U).length = U.length := by simp [BF]
  rw [List.take_of_length_le (by omega)]
  exact W_nE (Qg hn hl)
 | r + 1, i, hk => by
  have hi : i < U.length := by omega
  have hx := Kt ho hi
  have hs : (BF k0 k1 t U).take (i + 1) = (BF k0 k1 t U).take i ++ [((Ep k0 k1 t (U.getD i default) : Nat) : Int)] := by
   rw [List.take_add_one]
   congr 1
   simp [BF, List.getD_eq_getElem?_getD, hi]
  have ih := W_num (nl := nl) h0 h1 ht hn ho r (i + 1) (by omega)
  rw [hs] at ih
  exact W_nS hi (by omega) (by rw [List.length_take]; simp [BF]; omega) (Ce hi) rfl (Ib rfl hx.len h0 h1 hx.b) (Di (GI h0 h1 hx.b) ht) ih
theorem JM {nl : Bool} {k0 k1 t : Nat} {U : List It} (h0 : k0 < 18446744073709551616) (h1 : k1 < 18446744073709551616) (ht : t < 18446744073709551616) (hn : U.length < 65536) (ho : ∀ x ∈ U, Cc x) :
  Pt 23 [] [.iarr .u64 2 [(k0 : Int), (k1 : Int)], .vec nl (.parr 1 U.length ish (U.map itB)), .int .u64 t] [(1, Ac U.length ((BF k0 k1 t U).mergeSort (fun x y => decide (x ≤ y))))] (.ref 1 [] 1 0 U.length) :=
 W_nIn (by omega) (W_num h0 h1 ht hn ho U.length 0 (by omega))
end Go.Proofs
namespace Go.Proofs
open Go Go.Pe Go.Pm
set_option maxRecDepth 100000
set_option linter.unusedVariables false
attribute [local irreducible] lv
def Co : PV := .vec true (.iarr .u64 0 [])
def dV0 (nl : Bool) (n a c : Nat) (l : List Int) : DS := ⟨[(5, .int .u64 c), (7, .at 0 []), (8, Co), (9, .int .u64 0), (26, .int .u64 c), (27, .int .u64 0)], [(0, btR nl n l a)]⟩
def dV (nl : Bool) (n a c s i : Nat) (l o : List Int) : DS := ⟨[(5, .int .u64 c), (7, .at 0 []), (8, .ref 1 [] 1 0 i), (9, .int .u64 s), (26, .int .u64 c), (27, .int .u64 i)], [(0, btR nl n l a), (1, Ac i o)]⟩
theorem W_vE0 {nl : Bool} {n a c e : Nat} {l : Liz} (hc : 0 < c) (hc2 : c ≤ 1000) (he : e ≠ 0) (he2 : e < 100) (c1 : Pt 35 [(0, btR nl n l a)] [.at 0 [], .int .i64 19, .int .i64 65536] [(0, btR nl n l a)] (.tup [.int .u64 0, .int .i64 e])) :
  Wt Try.f14 [] [] (.tup [Co, .int .i64 e]) (Aa Try.f14 0) (dV0 nl n a c l) := by
 unfold Co
 refine W.rtA [(0, aT), (2, cC false [(0, 0)] c1), (9, aT)] [] [decide (0 < (c:Int)) = true, _, ((e:Int) != 0) = true] (ac (dT (by omega)) (ac (c1) (ao (bne_iff_ne.2 (by omega)))))
theorem W_vE {nl : Bool} {n a c e s i : Nat} {l o : Liz} (hc : i < c) (hc2 : c ≤ 1000) (he : e ≠ 0) (he2 : e < 100) (c1 : Pt 35 [(0, btR nl n l a)] [.at 0 [], .int .i64 19, .int .i64 65536] [(0, btR nl n l a)] (.tup [.int .u64 0, .int .i64 e])) :
  Wt Try.f14 [] [] (.tup [Co, .int .i64 e]) (Aa Try.f14 0) (dV nl n a c s i l o) := by
 unfold Co
 refine W.rtA [(0, aT), (2, cC false [(0, 0)] c1), (9, aT)] [] [decide ((i:Int) < (c:Int)) = true, _, ((e:Int) != 0) = true] (ac (dT (by omega)) (ac (c1) (ao (bne_iff_ne.2 (by omega)))))
theorem W_vB0 {nl : Bool} {n a b c v : Nat} {l : Liz} (hc : 0 < c) (hc2 : c ≤ 1000) (hv : v < 68719476736) (hb : c * 784931 ≤ v) (c1 : Pt 35 [(0, btR nl n l a)] [.at 0 [], .int .i64 19, .int .i64 65536] [(0, btR nl n l b)] (.tup [.int .u64 v, .int .i64 0])) :
  Wt Try.f14 [] [] (.tup [Co, .int .i64 5]) (Aa Try.f14 0) (dV0 nl n a c l) := by
 unfold Co
 refine W.rtA [(0, aT), (2, cC false [(0, 0)] c1), (12, aV (U6 v)), (16, aV (U6 ↑(784931 * c))), (17, aT)] [] [decide (0 < (c:Int)) = true, _, U6 (IntKind.wrap .u64 (0 + (v:Int))) = U6 v, U6 (IntKind.wrap .u64 ((c:Int) * (784931 : Int))) = U6 ↑(784931 * c), decide ((v:Int) ≥ (↑(784931 * c) : Int)) = true] (ac (dT (by omega)) (ac (c1) (ac (cg (Au (by omega) (by omega) (by omega))) (ac (cg (Au (by omega) (by omega) (by omega))) (ao (dT (by omega)))))))
theorem W_vB {nl : Bool} {n a b c v s i : Nat} {l o : Liz} (hc : i < c) (hc2 : c ≤ 1000) (hv : v < 68719476736) (hs : s < 68719476736) (hb : c * 784931 ≤ s + v) (c1 : Pt 35 [(0, btR nl n l a)] [.at 0 [], .int .i64 19, .int .i64 65536] [(0, btR nl n l b)] (.tup [.int .u64 v, .int .i64 0])) :
  Wt Try.f14 [] [] (.tup [Co, .int .i64 5]) (Aa Try.f14 0) (dV nl n a c s i l o) := by
 unfold Co
 refine W.rtA [(0, aT), (2, cC false [(0, 0)] c1), (12, aV (U6 ↑(s + v))), (16, aV (U6 ↑(784931 * c))), (17, aT)] [] [decide ((i:Int) < (c:Int)) = true, _, U6 (IntKind.wrap .u64 ((s:Int) + (v:Int))) = U6 ↑(s + v), U6 (IntKind.wrap .u64 ((c:Int) * (784931 : Int))) = U6 ↑(784931 * c), decide ((↑(s + v) : Int) ≥ (↑(784931 * c) : Int)) = true] (ac (dT (by omega)) (ac (c1) (ac (cg (Au rfl (by omega) (by omega))) (ac (cg (Au (by omega) (by omega) (by omega))) (ao (dT (by omega)))))))
theorem W_vS0 {nl : Bool} {n a b c v : Nat} {l : Liz} {hout : Lrz} {res : PV} (hc : 0 < c) (hc2 : c ≤ 1000) (hv : v < 68719476736) (hb : v < c * 784931) (c1 : Pt 35 [(0, btR nl n l a)] [.at 0 [], .int .i64 19, .int .i64 65536] [(0, btR nl n l b)] (.tup [.int .u64 v, .int .i64 0]))
  (hw : Wt Try.f14 [] hout res (Aa Try.f14 0) (dV nl n b c v 1 l [(v : Int)])) :
  Wt Try.f14 [] hout res (Aa Try.f14 0) (dV0 nl n a c l) := by
 unfold dV0 Co
 refine W.sgA 0 [(0, aT), (2, cC false [(0, 0)] c1), (12, aV (U6 v)), (16, aV (U6 ↑(784931 * c))), (17, aF), (23, aV (U6 1))] [(0, 0), (400, 1)] (dV nl n b c v 1 l [(v : Int)]) [decide (0 < (c:Int)) = true, _, U6 (IntKind.wrap .u64 (0 + (v:Int))) = U6 v, U6 (IntKind.wrap .u64 ((c:Int) * (784931 : Int))) = U6 ↑(784931 * c), decide ((v:Int) ≥ (↑(784931 * c) : Int)) = false, 1 ≤ 1, 0 < 1, 8 ≤ 140737488355328, 1 ≤ 9223372036854775807, U6 (IntKind.wrap .u64 ((0 : Int) + (1 : Int))) = U6 1] (ac (dT (by omega)) (ac (c1) (ac (cg (Au (by omega) (by omega) (by omega))) (ac (cg (Au (by omega) (by omega) (by omega))) (ac (dF (by omega)) (ob4 (by omega) (ao (cg (Au rfl (by omega) (by omega)))))))))) ?_
 exact hw
theorem W_vS {nl : Bool} {n a b c v s i : Nat} {l o : Liz} {hout : Lrz} {res : PV} (ho : o.length = i) (hc : i < c) (hc2 : c ≤ 1000) (hv : v < 68719476736) (hs : s < 68719476736) (hb : s + v < c * 784931) (c1 : Pt 35 [(0, btR nl n l a)] [.at 0 [], .int .i64 19, .int .i64 65536] [(0, btR nl n l b)] (.tup [.int .u64 v, .int .i64 0]))
  (hw : Wt Try.f14 [] hout res (Aa Try.f14 0) (dV nl n b c (s + v) (i + 1) l (o ++ [((s + v : Nat) : Int)]))) :
  Wt Try.f14 [] hout res (Aa Try.f14 0) (dV nl n a c s i l o) := by
 refine W.sgA 0 [(0, aT), (2, cC false [(0, 0)] c1), (12, aV (U6 ↑(s + v))), (16, aV (U6 ↑(784931 * c))), (17, aF), (21, Ans.ups [(1, none), (400, some (Row.mk (B6 (i + 1) (o ++ [(↑(s + v) : Int)])) false))]), (23, aV (U6 ↑(i + 1)))] [(0, 0), (400, 1)] (dV nl n b c (s + v) (i + 1) l (o ++ [((s + v : Nat) : Int)])) [decide ((i:Int) < (c:Int)) = true, _, U6 (IntKind.wrap .u64 ((s:Int) + (v:Int))) = U6 ↑(s + v), U6 (IntKind.wrap .u64 ((c:Int) * (784931 : Int))) = U6 ↑(784931 * c), decide ((↑(s + v) : Int) ≥ (↑(784931 * c) : Int)) = false, ([(1, none), (400, some (Row.mk (B6 (i + 1) (List.take i o ++ [(↑(s + v) : Int)])) false))] : List (Nat × Option Row)) = [(1, none), (400, some (Row.mk (B6 (i + 1) (o ++ [(↑(s + v) : Int)])) false))], 1 ≤ 1, 0 + i = i, (i + 1) * 8 ≤ 140737488355328, i + 1 ≤ 9223372036854775807, U6 (IntKind.wrap .u64 ((i:Int) + 1)) = U6 ↑(i + 1)] (ac (dT (by omega)) (ac (c1) (ac (cg (Au rfl (by omega) (by omega))) (ac (cg (Au (by omega) (by omega) (by omega))) (ac (dF (by omega)) (ac (by rw [List.take_of_length_le (show List.length o ≤ i by omega)]) (ac (by omega) (ac (by omega) (ob2 (by omega) (ao (cg (Au rfl (by omega) (by omega))))))))))))) ?_
 exact hw
theorem W_vX {nl : Bool} {n a c s : Nat} {l o : Liz} {b : Bool} (hc : 0 < c) (hc2 : c ≤ 1000) (c1 : Pt 37 [(0, btR nl n l a)] [.at 0 []] [(0, btR nl n l a)] (.bool true)) :
  Wt Try.f14 [] [(1, Ac c o)] (.tup [.ref 1 [] 1 0 c, .int .i64 0]) (Aa Try.f14 0) (dV nl n a c s c l o) := by
 refine W.rtA [(0, aF), (2, aF), (10, cC false [(0, 0)] c1)] (rI 1) [decide ((c:Int) < (c:Int)) = false, ((c:Int) == 0) = false, _] (ac (dF (by omega)) (ac (dF (by omega)) (ao (c1))))
theorem W_vXn {nl : Bool} {n a c s : Nat} {l o : Liz} (hc : 0 < c) (hc2 : c ≤ 1000) (c1 : Pt 37 [(0, btR nl n l a)] [.at 0 []] [(0, btR nl n l a)] (.bool false)) :
  Wt Try.f14 [] [] (.tup [Co, .int .i64 3]) (Aa Try.f14 0) (dV nl n a c s c l o) := by
 unfold Co
 refine W.rtA [(0, aF), (2, aF), (10, cC false [(0, 0)] c1)] [] [decide ((c:Int) < (c:Int)) = false, ((c:Int) == 0) = false, _] (ac (dF (by omega)) (ac (dF (by omega)) (ao (c1))))
theorem W_vZ {nl : Bool} {l : Liz} (c0 : Pt 36 [(0, btR nl 0 l 0)] [.at 0 []] [(0, btR nl 0 l 0)] (.int .i64 0)) (c1 : Pt 37 [(0, btR nl 0 l 0)] [.at 0 []] [(0, btR nl 0 l 0)] (.bool true)) :
  Wt Try.f14 [] [] (.tup [Co, .int .i64 0]) (Aa Try.f14 0) (dV0 nl 0 0 0 l) := by
 unfold Co dV0 Co
 refine W.rtA [(1, aV (U6 0)), (5, cC true [(0, 0)] c0), (10, cC true [(0, 0)] c1)] [] [U6 ↑(0 : Nat) = U6 0, _, _] (ac (cg (by omega)) (ac (c0) (ao (c1))))
theorem W_vZn {nl : Bool} {n q : Nat} {l : Liz} (hq : 0 < q) (c2 : Pt 36 [(0, btR nl n l 0)] [.at 0 []] [(0, btR nl n l 0)] (.int .i64 q)) :
  Wt Try.f14 [] [] (.tup [Co, .int .i64 3]) (Aa Try.f14 0) (dV0 nl n 0 0 l) := by
 unfold Co dV0 Co
 refine W.rtA [(1, aV (U6 0)), (5, cC false [(0, 0)] c2), (6, aT)] [] [U6 ↑(0 : Nat) = U6 0, _, decide ((q:Int) > 0) = true] (ac (cg (by omega)) (ac (c2) (ao (dT (by omega)))))
end Go.Proofs
namespace Go.Proofs
open Go Go.Pe Go.Pm
set_option maxRecDepth 100000
set_option linter.unusedVariables false
attribute [local irreducible] lv
def vH (e c : Nat) (L : List Int) : List (Nat × Row) := if e = 0 then [(1, Ac c L)] else []
def vP (e c : Nat) : PV := if e = 0 then .tup [.ref 1 [] 1 0 c, .int .i64 0] else .tup [Co, .int .i64 e]
theorem runE_lt (k o m : Nat) : CE k o m < 100 := by
 unfold CE
 split
 ·omega
 ·split <;> omega
theorem gE_lt {l : List Int} {n a : Nat} : gE l n a < 100 := by
 have := runE_lt (8 * n - a) (gO l n a) 65536
 unfold gE
 split
 ·exact this
 ·split <;> omega
theorem I8 {l : List Int} {n c a e : Nat} {o : List Int} (h : e ≠ 0) : vlE l n c (o, a, e) = e := if_pos h
theorem O6 {l : List Int} {n c a : Nat} {o : List Int} (hc : 0 < c) : vlE l n c (o, a, 0) = if 8 * n - a < 8 ∧ CF l a (8 * n - a) = true then 0 else 3 := by
 unfold vlE
 rw [if_neg (by simp), if_neg (by omega)]
theorem W_v {nl : Bool} {n c : Nat} {l : Liz} (hn : n ≤ 1000000) (hb : Bytes l) (hc : c ≤ 1000) : ∀ (k a s i : Nat) (o : List Int), i + k = c → 0 < i → o.length = i → s < c * 784931 → a ≤ 8 * n →
  Wt Try.f14 [] (vH (vlE l n c (vlF l n (c * 784931) k a s o)) c (vlF l n (c * 784931) k a s o).1) (vP (vlE l n c (vlF l n (c * 784931) k a s o)) c) (Aa Try.f14 0) (dV nl n a c s i l o)
 | 0, a, s, i, o, hk, h0, ho, hs, ha => by
  obtain rfl : i = c := by omega
  have c1 := Jp (nl := nl) hn hb ha
  unfold vlF
  rw [O6 h0]
  by_cases h : 8 * n - a < 8 ∧ CF l a (8 * n - a) = true
  ·rw [decide_eq_true h] at c1
   rw [if_pos h]
   exact W_vX (b := true) h0 hc c1
  ·rw [decide_eq_false h] at c1
   rw [if_neg h]
   exact W_vXn h0 hc c1
 | k + 1, a, s, i, o, hk, h0, ho, hs, ha => by
  have c1 := OI (nl := nl) hn hb ha
  unfold vlF
  by_cases he : gE l n a = 0
  ·rw [if_pos he, if_pos he] at c1
   rw [he] at c1
   obtain ⟨hA, hO⟩ := gE_ok ha he
   have hv := gV_lt hO
   rw [if_neg (not_not_intro he)]
   by_cases hl : c * 784931 ≤ s + gV l n a
   ·rw [if_pos hl, I8 (by decide)]
    exact W_vB (by omega) hc hv (by omega) hl c1
   ·rw [if_neg hl]
    exact W_vS ho (by omega) hc hv (by omega) (by omega) c1 (W_v hn hb hc k _ _ _ _ (by omega) (by omega) (by simp [ho]) (by omega) hA)
  ·rw [if_neg he, if_neg he] at c1
   rw [if_pos he, I8 he]
   unfold vH vP
   rw [if_neg he, if_neg he]
   exact W_vE (by omega) hc he gE_lt c1
def Ej (b : List Int) : Nat := (Rd.mk b 0).vn 1000
def vErr (b : List Int) : Nat := (Rd.mk b 0).ve 1000
def vS (b : List Int) : List Int := ((Rd.mk b 0).var 1000).s
def Lv (b : List Int) : List Int × Nat × Nat := vlF (vS b) (vS b).length (Ej b * 784931) (Ej b) 0 0 []
def vE (b : List Int) : Nat := if vErr b ≠ 0 then vErr b else vlE (vS b) (vS b).length (Ej b) (Lv b)
theorem W_v0 {nl : Bool} {l : Liz} {c : Nat} (hn : l.length ≤ 1000000) (hb : Bytes l) (hc : c ≤ 1000) (h0 : 0 < c) :
  Wt Try.f14 [] (vH (vlE l l.length c (vlF l l.length (c * 784931) c 0 0 [])) c (vlF l l.length (c * 784931) c 0 0 []).1) (vP (vlE l l.length c (vlF l l.length (c * 784931) c 0 0 [])) c) (Aa Try.f14 0) (dV0 nl l.length 0 c l) := by
 obtain ⟨k, rfl⟩ : ∃ k, c = k + 1 := ⟨c - 1, by omega⟩
 have c1 := OI (nl := nl) (a := 0) hn hb (by omega)
 rw [show vlF l l.length ((k + 1) * 784931) (k + 1) 0 0 [] = if gE l l.length 0 ≠ 0 then ([], 0, gE l l.length 0) else if (k + 1) * 784931 ≤ 0 + gV l l.length 0 then ([], 0, 5) else vlF l l.length ((k + 1) * 784931) k (gA l l.length 0) (0 + gV l l.length 0) ([] ++ [((0 + gV l l.length 0 : Nat) : Int)]) from rfl]
 by_cases he : gE l l.length 0 = 0
 ·rw [if_pos he, if_pos he] at c1
  rw [he] at c1
  obtain ⟨hA, hO⟩ := gE_ok (Nat.zero_le _) he
  have hv := gV_lt hO
  rw [if_neg (not_not_intro he), Nat.zero_add]
  by_cases hl : (k + 1) * 784931 ≤ gV l l.length 0
  ·rw [if_pos hl, I8 (by decide)]
   exact W_vB0 (by omega) hc hv hl c1
  ·rw [if_neg hl]
   exact W_vS0 (by omega) hc hv (by omega) c1 (W_v hn hb hc k _ _ _ _ (by omega) (by omega) rfl (by omega) hA)
 ·rw [if_neg he, if_neg he] at c1
  rw [if_pos he, I8 he]
  unfold vH vP
  rw [if_neg he, if_neg he]
  exact W_vE0 (by omega) hc he gE_lt c1
theorem W_vInE {nl : Bool} {m a e x : Nat} {b : Liz} (he : e ≠ 0) (he2 : e ≤ 100) (c1 : Pt 29 [] [.vec nl (.iarr .u8 m b)] [(1, rdq nl m b 0 0)] (.at 1 [])) (c2 : Pt 30 [(0, rdq nl m b 0 0)] [.at 0 [], .int .u64 1000] [(0, rdq nl m b a e)] (.int .u64 x)) (c3 : Pt 31 [(0, rdq nl m b a e)] [.at 0 []] [(0, rdq nl m b a e)] (.int .i64 e)) :
  Pt 14 [] [.vec nl (.iarr .u8 m b)] [] (.tup [Co, .int .i64 e]) := by
 refine pO Try.func14 (by kernel_rfl) ?_
 unfold Co
 refine W.rtA [(3, c0 c1), (6, cC false [(113, 0)] c2), (9, cC false [(113, 0)] c3), (12, aT)] [] [_, _, _, ((e:Int) != 0) = true] (ac (c1) (ac (c2) (ac (c3) (ao (bne_iff_ne.2 (by omega))))))
theorem W_vIn {nl : Bool} {m a x w : Nat} {b s : Liz} {hout : Lrz} {res : PV} (c1 : Pt 29 [] [.vec nl (.iarr .u8 m b)] [(1, rdq nl m b 0 0)] (.at 1 [])) (c2 : Pt 30 [(0, rdq nl m b 0 0)] [.at 0 [], .int .u64 1000] [(0, rdq nl m b a 0)] (.int .u64 x)) (c3 : Pt 31 [(0, rdq nl m b a 0)] [.at 0 []] [(0, rdq nl m b a 0)] (.int .i64 0))
  (c4 : Pt 34 [(0, rdq nl m b a 0)] [.at 0 []] [(0, rdq nl m b a 0)] (.int .i64 w)) (c5 : Pt 33 [(0, rdq nl m b a 0)] [.at 0 [], .int .i64 w] [(0, rdq nl m b (a + w) 0)] (.vec nl (.iarr .u8 w s))) (c6 : Pt 32 [] [.vec nl (.iarr .u8 w s)] [(1, btR nl w s 0)] (.at 1 []))
  (hw : Wt Try.f14 [] hout res (Aa Try.f14 0) (dV0 nl w 0 x s)) :
  Pt 14 [] [.vec nl (.iarr .u8 m b)] hout res := by
 refine pO Try.func14 (by kernel_rfl) ?_
 unfold dV0 Co at hw
 refine W.sgA 0 [(3, c0 c1), (6, cC false [(113, 0)] c2), (9, cC false [(113, 0)] c3), (15, cC false [(113, 0)] c4), (16, cC false [(113, 0)] c5), (17, c0 c6)] [(337, 0)] (dV0 nl w 0 x s) [_, _, _, _, _, _] (ac (c1) (ac (c2) (ac (c3) (ac (c4) (ac (c5) (ao (c6))))))) ?_
 exact hw
theorem var_e (r : Rd) (m : Nat) : (r.var m).e = r.ve m := by
 unfold Rd.var
 split
 ·rename_i h; exact h.symm
 ·rfl
theorem pc_vals {nl : Bool} {m : Nat} {b : Liz} (hl : b.length = m) (hm : m ≤ 1000000) (hb : Bytes b) (hnl : nl = true → m = 0) :
  Pt 14 [] [.vec nl (.iarr .u8 m b)] (if Ej b = 0 then [] else vH (vE b) (Ej b) (Lv b).1) (if Ej b = 0 then .tup [Co, .int .i64 (vE b)] else vP (vE b) (Ej b)) := by
 have hr : (Rd.mk b 0).In b m := ⟨hl, by show b.length ≤ m; omega, by show b = b.drop (m - b.length); rw [hl, Nat.sub_self, List.drop_zero], hb⟩
 have c1 := pc_rdOf (nl := nl) hm hl hnl
 have c2 := QR (m := 1000) hr hm (show (0 : Nat) ≤ 100 by omega) (by decide) hnl
 have e0 : m - (Rd.mk b 0).s.length = 0 := by show m - b.length = 0; omega
 rw [e0, var_e] at c2
 have hr2 := hr.var 1000
 have hcl : Ej b ≤ 1000 := Rd.vn_le _ _
 have hE : (Rd.mk b 0).ve 1000 ≤ 100 := by
  unfold Rd.ve
  split
  ·split
   ·omega
   ·split
    ·omega
    ·split <;> omega
  ·exact Nat.zero_le 100
 have c3 := QO (nl := nl) (a := m - ((Rd.mk b 0).var 1000).s.length) (e := (Rd.mk b 0).ve 1000) hl hE
 unfold vE
 by_cases h : (Rd.mk b 0).ve 1000 = 0
 ·rw [h] at c2 c3
  have h' : ¬ vErr b ≠ 0 := not_not_intro h
  rw [if_neg h']
  have c4 := PM (nl := nl) (a := m - ((Rd.mk b 0).var 1000).s.length) (e := 0) hl hm (by omega)
  have hle := hr2.le
  have hsl : m - (m - ((Rd.mk b 0).var 1000).s.length) = (vS b).length := by show m - (m - ((Rd.mk b 0).var 1000).s.length) = ((Rd.mk b 0).var 1000).s.length; omega
  rw [hsl] at c4
  have c5 := Jy (nl := nl) (a := m - ((Rd.mk b 0).var 1000).s.length) (w := (vS b).length) hl hm (by show m - ((Rd.mk b 0).var 1000).s.length + ((Rd.mk b 0).var 1000).s.length ≤ m; omega) hnl
  have hs : (b.drop (m - ((Rd.mk b 0).var 1000).s.length)).take (vS b).length = vS b := by
   rw [← hr2.eq]
   exact List.take_of_length_le (Nat.le_refl _)
  rw [hs] at c5
  have hbs : Bytes (vS b) := hr2.bytes
  have hsl2 : (vS b).length ≤ m := hle
  have c6 := pc_btOf (nl := nl) (show (vS b).length ≤ 1000000 by omega) rfl (fun x => by have := hnl x; omega)
  refine W_vIn c1 c2 c3 c4 c5 c6 ?_
  show Wt Try.f14 [] _ _ _ (dV0 nl (vS b).length 0 (Ej b) (vS b))
  by_cases h0 : Ej b = 0
  ·rw [if_pos h0, if_pos h0]
   have e : vlE (vS b) (vS b).length (Ej b) (Lv b) = if 0 < (vS b).length then 3 else 0 := by
    unfold Lv
    rw [h0]
    unfold vlE vlF
    dsimp only
    rw [if_neg (by simp)]
    by_cases hz : 0 < (vS b).length
    ·rw [if_pos ⟨rfl, hz⟩, if_pos hz]
    ·rw [if_neg (fun x => hz x.2), if_neg hz]
     have : (vS b).length = 0 := by omega
     rw [this]
     rfl
   rw [e, h0]
   have cL := Ck (nl := nl) (n := (vS b).length) (a := 0) (l := vS b) (by omega) (by omega)
   by_cases hz : 0 < (vS b).length
   ·rw [if_pos hz]
    exact W_vZn (q := 8 * (vS b).length - 0) (by omega) cL
   ·rw [if_neg hz]
    have hz0 : (vS b).length = 0 := by omega
    rw [hz0] at cL ⊢
    have cC := Jp (nl := nl) (n := 0) (a := 0) (l := vS b) (by omega) hbs (by omega)
    exact W_vZ cL cC
  ·rw [if_neg h0, if_neg h0]
   exact W_v0 (by omega) hbs hcl (by omega)
 ·have h' : vErr b ≠ 0 := h
  have h0 : Ej b = 0 := by
   show (Rd.mk b 0).vn 1000 = 0
   unfold Rd.vn
   rw [if_neg h]
  rw [if_pos h', if_pos h0, if_pos h0]
  exact W_vInE h hE c1 c2 c3
end Go.Proofs
namespace Go.Proofs
open Go Go.Pe Go.Pm
set_option maxRecDepth 100000
set_option linter.unusedVariables false
attribute [local irreducible] lv
theorem KW (x : Int) : Pt 72 [] [.int .u64 x] [] (.bool false) := by
 refine pO Try.func72 (by kernel_rfl) ?_
 refine W.rtA [(3, aF)] [] [(x != x) = false] (ao (bne_eq_false_iff_eq.2 (by omega)))
def dBs (nl : Bool) (n i j : Nat) (x : Int) (L : List Int) : DS := ⟨[(0, .vec nl (.iarr .u64 n L)), (1, .int .u64 x), (6, .int .i64 n), (7, .int .i64 i), (8, .int .i64 j)], []⟩
def bsF (L : List Int) (x : Int) : Nat → Nat → Nat → Nat
 | 0, i, _ => i
 | k + 1, i, j => if i < j then (if L.getD ((i + j) / 2) 0 < x then bsF L x k ((i + j) / 2 + 1) j else bsF L x k i ((i + j) / 2)) else i
theorem W_bsL {nl : Bool} {n i j h : Nat} {x : Int} {L : Liz} {hout : Lrz} {res : PV} (hn : n ≤ 100000) (hij : i < j) (hj : j ≤ n) (hh : (i + j) / 2 = h) (g : L.getD h 0 < x)
  (hw : Wt Try.f44 [] hout res (Aa Try.f44 0) (dBs nl n (h + 1) j x L)) : Wt Try.f44 [] hout res (Aa Try.f44 0) (dBs nl n i j x L) := by
 have hh2 : (((i + j) / 2 : Nat) : Int) = (h : Int) := by rw [hh]
 have hhj : h < n := by omega
 clear hh
 refine W.sgA 0 [(2, aT), (5, aV (I6 ↑(i + j))), (6, aV (U6 ↑(i + j))), (7, aV (U6 ↑((i + j) / 2))), (8, aV (I6 h)), (15, aK (PV.bool true)), (17, aV (I6 ↑(h + 1)))] [] (dBs nl n (h + 1) j x L) [decide ((i:Int) < (j:Int)) = true, I6 (IntKind.wrap .i64 ((i:Int) + (j:Int))) = I6 ↑(i + j), U6 (IntKind.wrap .u64 (↑(i + j) : Int)) = U6 ↑(i + j), U6 (Int.fdiv (↑(i + j) : Int) ((2 : Int) ^ 1)) = U6 ↑((i + j) / 2), (0 : Int) ≤ 1, I6 (IntKind.wrap .i64 (↑((i + j) / 2) : Int)) = I6 h, 0 ≤ (h:Int), (h:Int) < (n:Int), h < n, Pt 71 [] [U6 (List.getD L h (0 : Int)), U6 x] [] (PV.bool true), I6 (IntKind.wrap .i64 ((h:Int) + 1)) = I6 ↑(h + 1)] (ac (dT (by omega)) (ac (wj (by omega)) (ac (cg (Au rfl (by omega) (by omega))) (ac (cg (A7 (y := 1) (s := 1) rfl rfl (by decide) (by omega))) (ac (by omega) (ac (cg (Ab hh2 (by omega) (by omega))) (ob3 (by omega) (ac (AU _ _ (by first | omega | decide)) (ao (wj (by omega))))))))))) ?_
 exact hw
theorem W_bsR {nl : Bool} {n i j h : Nat} {x : Int} {L : Liz} {hout : Lrz} {res : PV} (hn : n ≤ 100000) (hij : i < j) (hj : j ≤ n) (hh : (i + j) / 2 = h) (g : ¬ L.getD h 0 < x)
  (hw : Wt Try.f44 [] hout res (Aa Try.f44 0) (dBs nl n i h x L)) : Wt Try.f44 [] hout res (Aa Try.f44 0) (dBs nl n i j x L) := by
 have hh2 : (((i + j) / 2 : Nat) : Int) = (h : Int) := by rw [hh]
 have hhj : h < n := by omega
 clear hh
 refine W.sgA 0 [(2, aT), (5, aV (I6 ↑(i + j))), (6, aV (U6 ↑(i + j))), (7, aV (U6 ↑((i + j) / 2))), (8, aV (I6 h)), (15, aK (PV.bool false))] [] (dBs nl n i h x L) [decide ((i:Int) < (j:Int)) = true, I6 (IntKind.wrap .i64 ((i:Int) + (j:Int))) = I6 ↑(i + j), U6 (IntKind.wrap .u64 (↑(i + j) : Int)) = U6 ↑(i + j), U6 (Int.fdiv (↑(i + j) : Int) ((2 : Int) ^ 1)) = U6 ↑((i + j) / 2), (0 : Int) ≤ 1, I6 (IntKind.wrap .i64 (↑((i + j) / 2) : Int)) = I6 h, 0 ≤ (h:Int), (h:Int) < (n:Int), h < n, Pt 71 [] [U6 (List.getD L h (0 : Int)), U6 x] [] (PV.bool false)] (ac (dT (by omega)) (ac (wj (by omega)) (ac (cg (Au rfl (by omega) (by omega))) (ac (cg (A7 (y := 1) (s := 1) rfl rfl (by decide) (by omega))) (ac (by omega) (ac (cg (Ab hh2 (by omega) (by omega))) (ob3 (by omega) (ao (Bn _ _ (by first | omega | decide)))))))))) ?_
 exact hw
theorem W_bsE {nl : Bool} {n i j : Nat} {x : Int} {L : Liz} (hn : n ≤ 100000) (hij : ¬ i < j) (hi : i ≤ n) : Wt Try.f44 [] [] (.tup [.int .i64 i, .bool (decide (i < n ∧ L.getD i 0 = x))]) (Aa Try.f44 0) (dBs nl n i j x L) := by
 have c1 := KW (L.getD i 0)
 have c2 := KW x
 by_cases h : i < n
 ·by_cases g : L.getD i 0 = x
  ·rw [decide_eq_true ⟨h, g⟩]
   refine W.rtA [(2, aF), (6, aT), (11, aV (U6 x)), (13, aT)] [] [decide ((i:Int) < (j:Int)) = false, decide ((i:Int) < (n:Int)) = true, 0 ≤ (i:Int), (i:Int) < (n:Int), U6 (List.getD L i (0 : Int)) = U6 x, i < n, (x == x) = true] (ac (dF (by omega)) (ac (dT (by omega)) (ob2 (by omega) (ac (cg (g)) (ac (by omega) (ao (dT (by omega))))))))
  ·rw [decide_eq_false (fun z => g z.2)]
   refine W.rtA [(2, aF), (6, aT), (13, aF), (19, c9 c1)] [] [decide ((i:Int) < (j:Int)) = false, decide ((i:Int) < (n:Int)) = true, 0 ≤ (i:Int), (i:Int) < (n:Int), i < n, (List.getD L i (0 : Int) == x) = false, 0 ≤ (i:Int), (i:Int) < (n:Int), i < n, _] (ac (dF (by omega)) (ac (dT (by omega)) (ob3 (by omega) (ac (dF (by omega)) (ob3 (by omega) (ao (c1)))))))
 ·rw [decide_eq_false (fun z => h z.1)]
  refine W.rtA [(2, aF), (6, aF)] [] [decide ((i:Int) < (j:Int)) = false, decide ((i:Int) < (n:Int)) = false] (ac (dF (by omega)) (ao (dF (by omega))))
theorem W_bs {nl : Bool} {n : Nat} {x : Int} {L : Liz} (hn : n ≤ 100000) : ∀ (k i j : Nat), j ≤ i + k → i ≤ n → j ≤ n →
  Wt Try.f44 [] [] (.tup [.int .i64 (bsF L x k i j), .bool (decide (bsF L x k i j < n ∧ L.getD (bsF L x k i j) 0 = x))]) (Aa Try.f44 0) (dBs nl n i j x L)
 | 0, i, j, hk, hi, hj => by
  unfold bsF
  exact W_bsE hn (by omega) hi
 | k + 1, i, j, hk, hi, hj => by
  unfold bsF
  by_cases h : i < j
  ·rw [if_pos h]
   by_cases g : L.getD ((i + j) / 2) 0 < x
   ·rw [if_pos g]
    exact W_bsL hn h hj rfl g (W_bs hn k _ _ (by omega) (by omega) hj)
   ·rw [if_neg g]
    exact W_bsR hn h hj rfl g (W_bs hn k _ _ (by omega) hi (by omega))
  ·rw [if_neg h]
   exact W_bsE hn h hi
theorem pc_bs {nl : Bool} {n : Nat} {x : Int} {L : Liz} (hn : n ≤ 100000) : Pt 44 [] [.vec nl (.iarr .u64 n L), .int .u64 x] [] (.tup [.int .i64 (bsF L x n 0 n), .bool (decide (bsF L x n 0 n < n ∧ L.getD (bsF L x n 0 n) 0 = x))]) := by
 refine pO Try.func44 (by kernel_rfl) ?_
 have hw := W_bs (nl := nl) (x := x) (L := L) hn n 0 n (by omega) (by omega) (by omega)
 generalize bsF L x n 0 n = r at *
 generalize decide (r < n ∧ L.getD r 0 = x) = d at *
 refine W.sgA 0 [] [] (dBs nl n 0 n x L) [] trivial ?_
 exact hw
def dAn (nl : Bool) (n i : Nat) (k0 k1 : Int) (M : List PV) : DS := ⟨[(3, .at 0 []), (8, Co), (10, .vec true (.iarr .i64 0 [])), (24, .vec nl (.parr 1 n ish M)), (25, .int .i64 n), (26, .int .i64 i)], [(0, ⟨.iarr .u64 2 [k0, k1], false⟩)]⟩
def dA0 (nl : Bool) (n i c : Nat) (k0 k1 : Int) (M : List PV) (L : List Int) : DS := ⟨[(3, .at 0 []), (8, .ref 1 [] 1 0 c), (10, .vec true (.iarr .i64 0 [])), (24, .vec nl (.parr 1 n ish M)), (25, .int .i64 n), (26, .int .i64 i)], [(0, ⟨.iarr .u64 2 [k0, k1], false⟩), (1, Ac c L)]⟩
def dA1 (nl : Bool) (n i c a : Nat) (k0 k1 : Int) (M : List PV) (L A : List Int) : DS := ⟨[(3, .at 0 []), (8, .ref 1 [] 1 0 c), (10, .ref 2 [] 1 0 a), (24, .vec nl (.parr 1 n ish M)), (25, .int .i64 n), (26, .int .i64 i)], [(0, ⟨.iarr .u64 2 [k0, k1], false⟩), (1, Ac c L), (2, ⟨.iarr .i64 a A, false⟩)]⟩
theorem W_anS {nl b : Bool} {n i m s : Nat} {k0 k1 : Int} {M : Lpz} {l : Liz} {hout : Lrz} {res : PV} (hi : i < n) (hn : n ≤ 100000) (g : M.getD i .undef = .vec b (.iarr .u8 m l)) (hl : l.length = m)
  (c1 : Pt 43 [] [.iarr .u64 2 [k0, k1], .vec b (.iarr .u8 m l)] [] (.int .u64 s)) (c2 : Pt 42 [] [.int .u64 s, .int .u64 0] [] (.int .u64 0)) (c3 : Pt 44 [] [Co, .int .u64 0] [] (.tup [.int .i64 0, .bool false]))
  (hw : Wt Try.f17 [] hout res (Aa Try.f17 0) (dAn nl n (i + 1) k0 k1 M)) : Wt Try.f17 [] hout res (Aa Try.f17 0) (dAn nl n i k0 k1 M) := by
 unfold dAn Co at *
 refine W.sgA 0 [(0, aT), (3, aE g), (8, c9 c1), (10, aV (I6 0)), (11, aV (U6 0)), (12, aV (U6 0)), (13, c9 c2), (17, c9 c3), (24, aV (I6 ↑(i + 1)))] [(0, 0)] (dAn nl n (i + 1) k0 k1 M) [decide ((i:Int) < (n:Int)) = true, 0 ≤ (i:Int), (i:Int) < (n:Int), _, i < n, _, I6 ↑(0 : Nat) = I6 0, U6 (IntKind.wrap .u64 (0 : Int)) = U6 0, U6 (IntKind.wrap .u64 ((784931 : Int) * (0 : Int))) = U6 0, _, _, I6 (IntKind.wrap .i64 ((i:Int) + 1)) = I6 ↑(i + 1)] (ac (dT (by omega)) (ob2 (by omega) (ac (ex g) (ac (by omega) (ac (c1) (ac (cg (by omega)) (ac (cg (Au rfl (by omega) (by omega))) (ac (cg (Au rfl (by omega) (by omega))) (ac (c2) (ac (c3) (ao (wj (by omega))))))))))))) ?_
 exact hw
theorem W_a0N {nl b : Bool} {n i m s c t x j : Nat} {k0 k1 : Int} {M : Lpz} {l L : Liz} {hout : Lrz} {res : PV} (hi : i < n) (hn : n ≤ 100000) (hc : c ≤ 1000) (hL : L.length = c) (ht : c * 784931 = t) (g : M.getD i .undef = .vec b (.iarr .u8 m l)) (hl : l.length = m)
  (c1 : Pt 43 [] [.iarr .u64 2 [k0, k1], .vec b (.iarr .u8 m l)] [] (.int .u64 s)) (c2 : Pt 42 [] [.int .u64 s, .int .u64 t] [] (.int .u64 x)) (c3 : Pt 44 [] [.vec false (.iarr .u64 c L), .int .u64 x] [] (.tup [.int .i64 j, .bool false]))
  (hw : Wt Try.f17 [] hout res (Aa Try.f17 0) (dA0 nl n (i + 1) c k0 k1 M L)) : Wt Try.f17 [] hout res (Aa Try.f17 0) (dA0 nl n i c k0 k1 M L) := by
 have h2 : L.take c = L := List.take_of_length_le (by omega)
 have h4 : ((784931 * c : Nat) : Int) = (t : Int) := by omega
 refine W.sgA 0 [(0, aT), (3, aE g), (8, c9 c1), (11, aV (U6 c)), (12, aV (U6 t)), (13, c9 c2), (17, cL true [] c3), (24, aV (I6 ↑(i + 1)))] [(0, 0), (1, 1)] (dA0 nl n (i + 1) c k0 k1 M L) [decide ((i:Int) < (n:Int)) = true, 0 ≤ (i:Int), (i:Int) < (n:Int), _, i < n, _, U6 (IntKind.wrap .u64 (c:Int)) = U6 c, U6 (IntKind.wrap .u64 (784931 * (c:Int))) = U6 t, _, 0 + c ≤ c, rr ([] : List (Nat × Row)), ([PV.vec false (B6 c (List.take c L)), U6 x] : List PV) = [PV.vec false (B6 c L), U6 x], _, I6 (IntKind.wrap .i64 ((i:Int) + 1)) = I6 ↑(i + 1)] (ac (dT (by omega)) (ob2 (by omega) (ac (ex g) (ac (by omega) (ac (c1) (ac (cg (Au rfl (by omega) (by omega))) (ac (cg (Au h4 (by omega) (by omega))) (ac (c2) (ac (by omega) (ac rfl (ac (by rw [List.take_of_length_le (show List.length L ≤ c by omega)]) (ac (c3) (ao (wj (by omega))))))))))))))) ?_
 exact hw
theorem W_a0Y {nl b : Bool} {n i m s c t x j : Nat} {k0 k1 : Int} {M : Lpz} {l L : Liz} {hout : Lrz} {res : PV} (hi : i < n) (hn : n ≤ 100000) (hc : c ≤ 1000) (hL : L.length = c) (ht : c * 784931 = t) (g : M.getD i .undef = .vec b (.iarr .u8 m l)) (hl : l.length = m)
  (c1 : Pt 43 [] [.iarr .u64 2 [k0, k1], .vec b (.iarr .u8 m l)] [] (.int .u64 s)) (c2 : Pt 42 [] [.int .u64 s, .int .u64 t] [] (.int .u64 x)) (c3 : Pt 44 [] [.vec false (.iarr .u64 c L), .int .u64 x] [] (.tup [.int .i64 j, .bool true]))
  (hw : Wt Try.f17 [] hout res (Aa Try.f17 0) (dA1 nl n (i + 1) c 1 k0 k1 M L [(i : Int)])) : Wt Try.f17 [] hout res (Aa Try.f17 0) (dA0 nl n i c k0 k1 M L) := by
 have h2 : L.take c = L := List.take_of_length_le (by omega)
 have h4 : ((784931 * c : Nat) : Int) = (t : Int) := by omega
 refine W.sgA 0 [(0, aT), (3, aE g), (8, c9 c1), (11, aV (U6 c)), (12, aV (U6 t)), (13, c9 c2), (17, cL true [] c3), (29, aV (I6 ↑(i + 1)))] [(0, 0), (1, 1), (496, 2)] (dA1 nl n (i + 1) c 1 k0 k1 M L [(i : Int)]) [decide ((i:Int) < (n:Int)) = true, 0 ≤ (i:Int), (i:Int) < (n:Int), _, i < n, _, U6 (IntKind.wrap .u64 (c:Int)) = U6 c, U6 (IntKind.wrap .u64 (784931 * (c:Int))) = U6 t, _, 0 + c ≤ c, rr ([] : List (Nat × Row)), ([PV.vec false (B6 c (List.take c L)), U6 x] : List PV) = [PV.vec false (B6 c L), U6 x], _, 1 ≤ 1, 0 < 1, 8 ≤ 140737488355328, 1 ≤ 9223372036854775807, I6 (IntKind.wrap .i64 ((i:Int) + 1)) = I6 ↑(i + 1)] (ac (dT (by omega)) (ob2 (by omega) (ac (ex g) (ac (by omega) (ac (c1) (ac (cg (Au rfl (by omega) (by omega))) (ac (cg (Au h4 (by omega) (by omega))) (ac (c2) (ac (by omega) (ac rfl (ac (by rw [List.take_of_length_le (show List.length L ≤ c by omega)]) (ac (c3) (ob4 (by omega) (ao (wj (by omega)))))))))))))))) ?_
 exact hw
theorem W_a1N {nl b : Bool} {n i m s c t x j a : Nat} {k0 k1 : Int} {M : Lpz} {l L A : Liz} {hout : Lrz} {res : PV} (hi : i < n) (hn : n ≤ 100000) (hc : c ≤ 1000) (hL : L.length = c) (ht : c * 784931 = t) (g : M.getD i .undef = .vec b (.iarr .u8 m l)) (hl : l.length = m)
  (c1 : Pt 43 [] [.iarr .u64 2 [k0, k1], .vec b (.iarr .u8 m l)] [] (.int .u64 s)) (c2 : Pt 42 [] [.int .u64 s, .int .u64 t] [] (.int .u64 x)) (c3 : Pt 44 [] [.vec false (.iarr .u64 c L), .int .u64 x] [] (.tup [.int .i64 j, .bool false]))
  (hw : Wt Try.f17 [] hout res (Aa Try.f17 0) (dA1 nl n (i + 1) c a k0 k1 M L A)) : Wt Try.f17 [] hout res (Aa Try.f17 0) (dA1 nl n i c a k0 k1 M L A) := by
 have h2 : L.take c = L := List.take_of_length_le (by omega)
 have h4 : ((784931 * c : Nat) : Int) = (t : Int) := by omega
 refine W.sgA 0 [(0, aT), (3, aE g), (8, c9 c1), (11, aV (U6 c)), (12, aV (U6 t)), (13, c9 c2), (17, cL true [] c3), (24, aV (I6 ↑(i + 1)))] [(0, 0), (1, 1), (2, 2)] (dA1 nl n (i + 1) c a k0 k1 M L A) [decide ((i:Int) < (n:Int)) = true, 0 ≤ (i:Int), (i:Int) < (n:Int), _, i < n, _, U6 (IntKind.wrap .u64 (c:Int)) = U6 c, U6 (IntKind.wrap .u64 (784931 * (c:Int))) = U6 t, _, 0 + c ≤ c, rr ([] : List (Nat × Row)), ([PV.vec false (B6 c (List.take c L)), U6 x] : List PV) = [PV.vec false (B6 c L), U6 x], _, I6 (IntKind.wrap .i64 ((i:Int) + 1)) = I6 ↑(i + 1)] (ac (dT (by omega)) (ob2 (by omega) (ac (ex g) (ac (by omega) (ac (c1) (ac (cg (Au rfl (by omega) (by omega))) (ac (cg (Au h4 (by omega) (by omega))) (ac (c2) (ac (by omega) (ac rfl (ac (by rw [List.take_of_length_le (show List.length L ≤ c by omega)]) (ac (c3) (ao (wj (by omega))))))))))))))) ?_
 exact hw
theorem W_a1Y {nl b : Bool} {n i m s c t x j a : Nat} {k0 k1 : Int} {M : Lpz} {l L A : Liz} {hout : Lrz} {res : PV} (hi : i < n) (hn : n ≤ 100000) (hc : c ≤ 1000) (hL : L.length = c) (ht : c * 784931 = t) (hA : A.length = a) (ha : a ≤ i) (g : M.getD i .undef = .vec b (.iarr .u8 m l)) (hl : l.length = m)
  (c1 : Pt 43 [] [.iarr .u64 2 [k0, k1], .vec b (.iarr .u8 m l)] [] (.int .u64 s)) (c2 : Pt 42 [] [.int .u64 s, .int .u64 t] [] (.int .u64 x)) (c3 : Pt 44 [] [.vec false (.iarr .u64 c L), .int .u64 x] [] (.tup [.int .i64 j, .bool true]))
  (hw : Wt Try.f17 [] hout res (Aa Try.f17 0) (dA1 nl n (i + 1) c (a + 1) k0 k1 M L (A ++ [(i : Int)]))) : Wt Try.f17 [] hout res (Aa Try.f17 0) (dA1 nl n i c a k0 k1 M L A) := by
 have h2 : L.take c = L := List.take_of_length_le (by omega)
 have h4 : ((784931 * c : Nat) : Int) = (t : Int) := by omega
 refine W.sgA 0 [(0, aT), (3, aE g), (8, c9 c1), (11, aV (U6 c)), (12, aV (U6 t)), (13, c9 c2), (17, cL true [] c3), (27, Ans.ups [(2, none), (496, some (Row.mk (BI (a + 1) (A ++ [(i:Int)])) false))]), (29, aV (I6 ↑(i + 1)))] [(0, 0), (1, 1), (496, 2)] (dA1 nl n (i + 1) c (a + 1) k0 k1 M L (A ++ [(i : Int)])) [decide ((i:Int) < (n:Int)) = true, 0 ≤ (i:Int), (i:Int) < (n:Int), _, i < n, _, U6 (IntKind.wrap .u64 (c:Int)) = U6 c, U6 (IntKind.wrap .u64 (784931 * (c:Int))) = U6 t, _, 0 + c ≤ c, rr ([] : List (Nat × Row)), ([PV.vec false (B6 c (List.take c L)), U6 x] : List PV) = [PV.vec false (B6 c L), U6 x], _, ([(2, none), (496, some (Row.mk (BI (a + 1) (List.take a A ++ [(i:Int)])) false))] : List (Nat × Option Row)) = [(2, none), (496, some (Row.mk (BI (a + 1) (A ++ [(i:Int)])) false))], 1 ≤ 1, 0 + a = a, (a + 1) * 8 ≤ 140737488355328, a + 1 ≤ 9223372036854775807, I6 (IntKind.wrap .i64 ((i:Int) + 1)) = I6 ↑(i + 1)] (ac (dT (by omega)) (ob2 (by omega) (ac (ex g) (ac (by omega) (ac (c1) (ac (cg (Au rfl (by omega) (by omega))) (ac (cg (Au h4 (by omega) (by omega))) (ac (c2) (ac (by omega) (ac rfl (ac (by rw [List.take_of_length_le (show List.length L ≤ c by omega)]) (ac (c3) (ac (by rw [List.take_of_length_le (show List.length A ≤ a by omega)]) (ac (by omega) (ac (by omega) (ob2 (by omega) (ao (wj (by omega))))))))))))))))))) ?_
 exact hw
def nilI : PV := .vec true (.iarr .i64 0 [])
theorem W_anE {nl : Bool} {n : Nat} {k0 k1 : Int} {M : Lpz} : Wt Try.f17 [] [] (.tup [nilI, .int .i64 0]) (Aa Try.f17 0) (dAn nl n n k0 k1 M) := by
 unfold nilI dAn Co
 refine W.rtA [(0, aF)] [] [decide ((n:Int) < (n:Int)) = false] (ao (dF (by omega)))
theorem W_a0E {nl : Bool} {n c : Nat} {k0 k1 : Int} {M : Lpz} {L : Liz} : Wt Try.f17 [] [] (.tup [nilI, .int .i64 0]) (Aa Try.f17 0) (dA0 nl n n c k0 k1 M L) := by
 unfold nilI
 refine W.rtA [(0, aF)] [] [decide ((n:Int) < (n:Int)) = false] (ao (dF (by omega)))
theorem W_a1E {nl : Bool} {n c a : Nat} {k0 k1 : Int} {M : Lpz} {L A : Liz} : Wt Try.f17 [] [(1, ⟨.iarr .i64 a A, false⟩)] (.tup [.ref 1 [] 1 0 a, .int .i64 0]) (Aa Try.f17 0) (dA1 nl n n c a k0 k1 M L A) := by
 refine W.rtA [(0, aF)] [(2, 1)] [decide ((n:Int) < (n:Int)) = false] (ao (dF (by omega)))
theorem W_anIn {nl nb : Bool} {n mb : Nat} {k0 k1 : Int} {M : Lpz} {b : Liz} {hout : Lrz} {res : PV} (c1 : Pt 14 [] [.vec nb (.iarr .u8 mb b)] [] (.tup [Co, .int .i64 0])) (hw : Wt Try.f17 [] hout res (Aa Try.f17 0) (dAn nl n 0 k0 k1 M)) :
  Pt 17 [] [.iarr .u64 2 [k0, k1], .vec nb (.iarr .u8 mb b), .vec nl (.parr 1 n ish M)] hout res := by
 refine pO Try.func17 (by kernel_rfl) ?_
 unfold Co at c1
 unfold dAn Co at hw
 refine W.sgA 0 [(4, c9 c1)] [(64, 0)] (dAn nl n 0 k0 k1 M) [_] (ao (c1)) ?_
 exact hw
theorem W_a0In {nl nb : Bool} {n mb c : Nat} {k0 k1 : Int} {M : Lpz} {b L : Liz} {hout : Lrz} {res : PV} (c1 : Pt 14 [] [.vec nb (.iarr .u8 mb b)] [(1, Ac c L)] (.tup [.ref 1 [] 1 0 c, .int .i64 0])) (hw : Wt Try.f17 [] hout res (Aa Try.f17 0) (dA0 nl n 0 c k0 k1 M L)) :
  Pt 17 [] [.iarr .u64 2 [k0, k1], .vec nb (.iarr .u8 mb b), .vec nl (.parr 1 n ish M)] hout res := by
 refine pO Try.func17 (by kernel_rfl) ?_
 refine W.sgA 0 [(4, c9 c1)] [(64, 0), (129, 1)] (dA0 nl n 0 c k0 k1 M L) [_] (ao (c1)) ?_
 exact hw
end Go.Proofs
namespace Go.Proofs
open Go Go.Pe Go.Pm
set_option linter.unusedVariables false
theorem byt_bit {g : Nat → Nat} (h : ∀ j, g j < 2) {r : Nat} (hr : r < 8) : byt g / 2 ^ (7 - r) % 2 = g r := by
 have h0 := h 0; have h1 := h 1; have h2 := h 2; have h3 := h 3; have h4 := h 4; have h5 := h 5; have h6 := h 6; have h7 := h 7
 unfold byt
 match r, hr with
 | 0, _ | 1, _ | 2, _ | 3, _ | 4, _ | 5, _ | 6, _ | 7, _ => simp only [Nat.reduceSub, Nat.reducePow]; omega
theorem OD {B : List Nat} (hB : Bits B) {i : Nat} (hi : i < 8 * (pk B).length) : bt (pk B) i = B.getD i 0 := by
 have hl := Bc B
 unfold bt
 rw [QH (by omega), byt_bit (fun j => hB _) (Nat.mod_lt _ (by decide))]
 congr 1
 omega
theorem M7 {B : List Nat} (hB : Bits B) : ∀ (q a k : Nat), a + k = 8 * (pk B).length → q < k → (∀ j, j < q → B.getD (a + j) 0 = 1) → B.getD (a + q) 0 = 0 → Cr (pk B) a k = q
 | q, a, 0, hk, hq, _, _ => by omega
 | 0, a, k + 1, hk, hq, h1, h0 => by
  unfold Cr
  rw [OD hB (by omega), if_neg]
  rw [Nat.add_zero] at h0
  omega
 | q + 1, a, k + 1, hk, hq, h1, h0 => by
  unfold Cr
  rw [OD hB (by omega), if_pos (by have := h1 0 (by omega); rwa [Nat.add_zero] at this)]
  rw [M7 hB q (a + 1) k (by omega) (by omega) (fun j hj => by have := h1 (j + 1) (by omega); rwa [show a + (j + 1) = a + 1 + j by omega] at this) (by rwa [show a + (q + 1) = a + 1 + q by omega] at h0)]
theorem Kh (v : Nat) : ∀ (w j : Nat), j < w → (Ba v w).getD j 0 = v / 2 ^ (w - 1 - j) % 2
 | 0, j, h => by omega
 | w + 1, 0, h => by rw [Ba]; rfl
 | w + 1, j + 1, h => by
  rw [Ba, List.getD_cons_succ, Kh v w j (by omega), show w + 1 - 1 - (j + 1) = w - 1 - j by omega]
theorem Pi {B : List Nat} (hB : Bits B) (v : Nat) : ∀ (w a x : Nat), a + w ≤ 8 * (pk B).length → (∀ j, j < w → B.getD (a + j) 0 = v / 2 ^ (w - 1 - j) % 2) → Lr (pk B) w a x = x * 2 ^ w + v % 2 ^ w
 | 0, a, x, _, _ => by unfold Lr; simp [Nat.mod_one]
 | w + 1, a, x, ha, h => by
  unfold Lr
  have hb : bt (pk B) a = v / 2 ^ w % 2 := by
   rw [OD hB (by omega)]
   have := h 0 (by omega)
   rwa [Nat.add_zero, show w + 1 - 1 - 0 = w by omega] at this
  rw [Pi hB v w (a + 1) _ (by omega) (fun j hj => by have := h (j + 1) (by omega); rwa [show a + (j + 1) = a + 1 + j by omega, show w + 1 - 1 - (j + 1) = w - 1 - j by omega] at this), hb]
  have e : 2 * x * 2 ^ w = x * (2 ^ w * 2) := by rw [Nat.mul_comm 2 x, Nat.mul_assoc, Nat.mul_comm 2]
  rw [Nat.pow_succ, Nat.mod_mul, Nat.add_mul, Nat.mul_comm (v / 2 ^ w % 2) (2 ^ w), e]
  omega
theorem La (A B : List Nat) {i : Nat} (h : i < A.length) : (A ++ B).getD i 0 = A.getD i 0 := by
 rw [List.getD_eq_getElem?_getD, List.getElem?_append_left h, ← List.getD_eq_getElem?_getD]
theorem Oe (A B : List Nat) (i : Nat) : (A ++ B).getD (A.length + i) 0 = B.getD i 0 := by
 rw [List.getD_eq_getElem?_getD, List.getElem?_append_right (by omega), Nat.add_sub_cancel_left, ← List.getD_eq_getElem?_getD]
theorem rep_get {q j : Nat} (h : j < q) : (List.replicate q 1).getD j 0 = 1 := by
 rw [List.getD_eq_getElem?_getD, List.getElem?_replicate, if_pos h]; rfl
theorem g_one {P R : List Nat} {v : Nat} (hB : Bits (P ++ BM v ++ R)) (hq : v / 524288 ≤ 65536) :
  gE (pk (P ++ BM v ++ R)) (pk (P ++ BM v ++ R)).length P.length = 0 ∧ gV (pk (P ++ BM v ++ R)) (pk (P ++ BM v ++ R)).length P.length = v ∧ gA (pk (P ++ BM v ++ R)) (pk (P ++ BM v ++ R)).length P.length = (P ++ BM v).length := by
 have hl := Bc (P ++ BM v ++ R)
 have hr := CX v
 have hlen : (P ++ BM v ++ R).length = P.length + (v / 524288 + 20) + R.length := by rw [List.length_append, List.length_append, hr]
 have hget : ∀ j, j < v / 524288 + 20 → (P ++ BM v ++ R).getD (P.length + j) 0 = (BM v).getD j 0 := fun j hj => by
  rw [List.append_assoc, Oe, La _ _ (by omega)]
 have hq1 : ∀ j, j < v / 524288 → (BM v).getD j 0 = 1 := fun j hj => by
  unfold BM
  rw [La _ _ (by rw [List.length_append, List.length_replicate]; omega), La _ _ (by rw [List.length_replicate]; omega), rep_get hj]
 have hq0 : (BM v).getD (v / 524288) 0 = 0 := by
  unfold BM
  rw [La _ _ (by rw [List.length_append, List.length_replicate, Bg]; omega)]
  have := Oe (List.replicate (v / 524288) 1) (Ba 0 1) 0
  rw [List.length_replicate, Nat.add_zero] at this
  rw [this]
  rfl
 have hqv : ∀ j, j < 19 → (BM v).getD (v / 524288 + 1 + j) 0 = v / 2 ^ (19 - 1 - j) % 2 := fun j hj => by
  unfold BM
  have := Oe (List.replicate (v / 524288) 1 ++ Ba 0 1) (Ba v 19) j
  rw [List.length_append, List.length_replicate, Bg] at this
  rw [this, Kh v 19 j hj]
 have hO : gO (pk (P ++ BM v ++ R)) (pk (P ++ BM v ++ R)).length P.length = v / 524288 := by
  unfold gO
  refine M7 hB _ _ _ (by omega) (by omega) (fun j hj => ?_) ?_
  ·rw [hget j (by omega), hq1 j hj]
  ·rw [hget _ (by omega), hq0]
 refine ⟨?_, ?_, ?_⟩
 ·unfold gE
  rw [hO]
  have e : CE (8 * (pk (P ++ BM v ++ R)).length - P.length) (v / 524288) 65536 = 0 := by
   unfold CE
   rw [if_neg (by omega), if_neg (by omega)]
  rw [e, if_neg (by decide), if_neg (by omega)]
 ·unfold gV
  rw [hO]
  rw [Pi hB v 19 _ 0 (by omega) (fun j hj => by rw [show P.length + v / 524288 + 1 + j = P.length + (v / 524288 + 1 + j) by omega, hget _ (by omega), hqv j hj])]
  rw [Nat.zero_mul, Nat.zero_add]
  omega
 ·unfold gA
  rw [hO, List.length_append, hr]
  omega
theorem Rl {n lim : Nat} {l : List Int} : ∀ (r : List Nat) (s : Nat) (P : List Nat) (o : List Int), Bits P → Ku s r → (∀ x ∈ r, x < lim) → (∀ x ∈ r, x < 1073741824) → l = pk (P ++ stB s r) → n = l.length → vlF l n lim r.length P.length s o = (o ++ inL r, (P ++ stB s r).length, 0)
 | [], s, P, o, hP, hr, hx, hx2, hl, hn => by
  rw [stB, List.append_nil]
  show (o, P.length, 0) = _
  unfold inL
  rw [List.map_nil, List.append_nil]
 | x :: r, s, P, o, hP, hr, hx, hx2, hl, hn => by
  have hxx := hx x (by simp)
  have hx30 := hx2 x (by simp)
  have hB : Bits (P ++ BM (x - s) ++ stB x r) := (hP.append (Ec _)).append (FE _ _)
  have e : P ++ stB s (x :: r) = P ++ BM (x - s) ++ stB x r := by rw [stB, List.append_assoc]
  have hg := g_one hB (by omega)
  rw [← e, ← hl, ← hn] at hg
  rw [List.length_cons]
  unfold vlF
  have hs := hr.1
  rw [hg.1, if_neg (by decide), hg.2.1, hg.2.2, show s + (x - s) = x by omega, if_neg (by omega)]
  rw [Rl r x (P ++ BM (x - s)) (o ++ [(x : Int)]) (hP.append (Ec _)) hr.2 (fun y hy => hx y (by simp [hy])) (fun y hy => hx2 y (by simp [hy])) (by rw [hl, e]) hn, e]
  unfold inL
  rw [List.append_assoc, List.map_cons]
  rfl
theorem MH {B : List Nat} (hB : Bits B) : ∀ (k a : Nat), B.length ≤ a → a + k = 8 * (pk B).length → CF (pk B) a k = true
 | 0, a, _, _ => rfl
 | k + 1, a, h, hk => by
  unfold CF
  rw [OD hB (by omega), De h, if_pos rfl]
  exact MH hB k (a + 1) (by omega) (by omega)
theorem vlE_st {l : List Int} {c : Nat} {r : List Nat} (hl : l = pk (stB 0 r)) (hc : c = r.length) (h0 : 0 < c) : vlE l l.length c (inL r, (stB 0 r).length, 0) = 0 := by
 have hlen := Bc (stB 0 r)
 have hB := FE r 0
 subst hl
 rw [O6 h0, if_pos ⟨by omega, MH hB _ _ (Nat.le_refl _) (by omega)⟩]
end Go.Proofs
namespace Go.Proofs
open Go Go.Pe Go.Pm
set_option maxRecDepth 100000
set_option linter.unusedVariables false
theorem Rj {x : Nat} (h : x < 256) : le x 1 = [(x : Int)] := by
 have e : le x 1 = [((x / 2 ^ (8 * 0) % 256 : Nat) : Int)] := rfl
 rw [e]
 congr 2
 omega
theorem le_two (x : Nat) : le x 2 = [((x % 256 : Nat) : Int), ((x / 256 % 256 : Nat) : Int)] := by
 have e : le x 2 = [((x / 2 ^ (8 * 0) % 256 : Nat) : Int), ((x / 2 ^ (8 * 1) % 256 : Nat) : Int)] := rfl
 rw [e]
 congr 2
 omega
theorem Qp {k : Nat} (hk : k ≤ 1000) (s : List Int) : vErr (BN k ++ s) = 0 ∧ Ej (BN k ++ s) = k ∧ vS (BN k ++ s) = s := by
 by_cases h : k < 253
 ·have e : BN k ++ s = (k : Int) :: s := by unfold BN; rw [if_pos h, Rj (by omega)]; rfl
  have e0 : at0 (BN k ++ s) 0 = k := by rw [e]; rfl
  have ew : wdt k = 0 := by unfold wdt; rw [if_neg (by omega), if_neg (by omega), if_neg (by omega)]
  have el : lst k = 0 := by unfold lst; rw [if_neg (by omega), if_neg (by omega), if_neg (by omega)]
  have ev : ET (BN k ++ s) = k := by unfold ET; rw [e0, ew, if_pos rfl]
  have e1 : (Rd.mk (BN k ++ s) 0).ve 1000 = 0 := by
   unfold Rd.ve
   dsimp only
   rw [if_pos rfl, ev, e0, ew, el, if_neg (by rw [e]; simp), if_neg (by omega), if_neg (by omega)]
  refine ⟨e1, ?_, ?_⟩
  ·show (Rd.mk (BN k ++ s) 0).vn 1000 = k
   unfold Rd.vn
   rw [if_pos e1]
   exact ev
  ·show ((Rd.mk (BN k ++ s) 0).var 1000).s = s
   unfold Rd.var
   rw [if_pos e1]
   dsimp only
   rw [e0, ew, e]
   rfl
 ·have e : BN k ++ s = (253 : Int) :: ((k % 256 : Nat) : Int) :: ((k / 256 % 256 : Nat) : Int) :: s := by unfold BN; rw [if_neg h, Rj (x := 253) (by omega), le_two]; rfl
  have e0 : at0 (BN k ++ s) 0 = 253 := by rw [e]; rfl
  have ev : ET (BN k ++ s) = k := by
   unfold ET
   rw [e0, if_neg (by decide), e]
   show lv (((k % 256 : Nat) : Int) :: ((k / 256 % 256 : Nat) : Int) :: s) 2 = k
   have : lv (((k % 256 : Nat) : Int) :: ((k / 256 % 256 : Nat) : Int) :: s) 2 = k % 256 + (k / 256 % 256) * 256 := by
    simp [lv, at0]
    omega
   omega
  have e1 : (Rd.mk (BN k ++ s) 0).ve 1000 = 0 := by
   unfold Rd.ve
   dsimp only
   rw [if_pos rfl, ev, e0, if_neg (by rw [e, show wdt 253 = 2 from rfl]; simp), if_neg (by rw [show lst 253 = 253 from rfl]; omega), if_neg (by omega)]
  refine ⟨e1, ?_, ?_⟩
  ·show (Rd.mk (BN k ++ s) 0).vn 1000 = k
   unfold Rd.vn
   rw [if_pos e1]
   exact ev
  ·show ((Rd.mk (BN k ++ s) 0).var 1000).s = s
   unfold Rd.var
   rw [if_pos e1]
   dsimp only
   rw [e0, e]
   rfl
def nsN (k0 k1 : Nat) (U : List It) : List Nat := ((BF k0 k1 (U.length * 784931) U).mergeSort (fun x y => decide (x ≤ y))).map Int.toNat
theorem KZ : ∀ {m : List Int}, (∀ x ∈ m, 0 ≤ x) → inL (m.map Int.toNat) = m
 | [], _ => rfl
 | x :: m, h => by
  have ih := KZ fun y hy => h y (List.mem_cons_of_mem _ hy)
  unfold inL at ih ⊢
  rw [List.map_cons, List.map_cons, ih, Int.toNat_of_nonneg (h x (by simp))]
theorem Ms : ∀ {l : List Int} {s : Nat}, (∀ x ∈ l, (s : Int) ≤ x) → l.Pairwise (fun x y => decide (x ≤ y) = true) → Ku s (l.map Int.toNat)
 | [], s, _, _ => trivial
 | x :: l, s, h, hp => by
  rw [List.pairwise_cons] at hp
  have hx := h x (by simp)
  refine ⟨by omega, Ms (fun y hy => ?_) hp.2⟩
  have := of_decide_eq_true (hp.1 y hy)
  omega
theorem FN (l : List Int) : (l.mergeSort (fun x y => decide (x ≤ y))).Pairwise (fun x y => decide (x ≤ y) = true) :=
 List.pairwise_mergeSort (fun a b c h1 h2 => by simp only [decide_eq_true_eq] at *; omega) (fun a b => by by_cases h : a ≤ b <;> simp [h]; omega) l
structure Keys (k0 k1 : Nat) : Prop where
 a : k0 < 18446744073709551616
 b : k1 < 18446744073709551616
theorem JE {k0 k1 : Nat} (hk : Keys k0 k1) {U : List It} (ho : ∀ x ∈ U, Cc x) {x : Int} (hx : x ∈ (BF k0 k1 (U.length * 784931) U).mergeSort (fun x y => decide (x ≤ y))) : 0 ≤ x ∧ x < ((U.length * 784931 : Nat) : Int) := by
 rw [List.mem_mergeSort] at hx
 obtain ⟨u, hu, rfl⟩ := List.mem_map.1 hx
 have hpos : 0 < U.length := List.length_pos_of_mem hu
 have := num1_lt (t := U.length * 784931) (u := u) hk.a hk.b (ho u hu).b (by omega)
 omega
theorem O3 {k0 k1 : Nat} (hk : Keys k0 k1) {U : List It} (ho : ∀ x ∈ U, Cc x) : inL (nsN k0 k1 U) = (BF k0 k1 (U.length * 784931) U).mergeSort (fun x y => decide (x ≤ y)) := KZ fun x hx => (JE hk ho hx).1
theorem CB (k0 k1 : Nat) (U : List It) : (nsN k0 k1 U).length = U.length := by unfold nsN BF; rw [List.length_map, List.length_mergeSort, List.length_map]
theorem LA (k0 k1 : Nat) : nsN k0 k1 [] = [] := by simp [nsN, BF]
theorem K3 {k0 k1 : Nat} (hk : Keys k0 k1) {U : List It} (ho : ∀ x ∈ U, Cc x) : Ku 0 (nsN k0 k1 U) := Ms (fun x hx => (JE hk ho hx).1) (FN _)
theorem JS {k0 k1 : Nat} (hk : Keys k0 k1) {U : List It} (ho : ∀ x ∈ U, Cc x) : ∀ x ∈ nsN k0 k1 U, x < U.length * 784931 := fun x hx => by
 unfold nsN at hx
 obtain ⟨y, hy, rfl⟩ := List.mem_map.1 hx
 have := JE hk ho hy
 omega
theorem OW : ∀ (r : List Nat) (s : Nat), (∀ x ∈ r, x < 1073741824) → (stB s r).length ≤ 2068 * r.length
 | [], s, _ => Nat.le_refl 0
 | x :: r, s, h => by
  have ih := OW r x fun y hy => h y (List.mem_cons_of_mem _ hy)
  have hx := h x (by simp)
  rw [stB, List.length_append, CX, List.length_cons]
  omega
def Cq (k0 k1 : Nat) (U : List It) : List Int := BN U.length ++ pk (stB 0 (nsN k0 k1 U))
def FU (k0 k1 : Nat) (I : List It) : List Int := Cq k0 k1 (AC [] I)
theorem DR {k0 k1 : Nat} (hk : Keys k0 k1) {U : List It} (ho : ∀ x ∈ U, Cc x) (hU : U.length ≤ 1000) : (Cq k0 k1 U).length ≤ 300000 ∧ 0 < (Cq k0 k1 U).length := by
 have h1 := OW (nsN k0 k1 U) 0 fun x hx => by have := JS hk ho x hx; omega
 have h2 := Bc (stB 0 (nsN k0 k1 U))
 have h3 := Fb U.length
 rw [CB] at h1
 unfold Cq
 rw [List.length_append, h2, h3]
 split <;> omega
theorem DI {nl : Bool} {k0 k1 : Nat} {I : List It} (hk : Keys k0 k1) (hn : I.length ≤ 60000) (ho : ∀ x ∈ I, Cc x) (hU : (AC [] I).length ≤ 1000) :
  Pt 11 [] [.iarr .u64 2 [(k0 : Int), (k1 : Int)], .vec nl (.parr 1 I.length ish (I.map itB))] [(1, Bw (FU k0 k1 I).length (FU k0 k1 I))] (.tup [.ref 1 [] 1 0 (FU k0 k1 I).length, .int .i64 0]) := by
 by_cases h0 : I.length = 0
 ·obtain rfl := List.eq_nil_of_length_eq_zero h0
  have c2 := KS (x := 0) (by omega)
  have c3 := JM (nl := true) (t := 0) (U := []) hk.a hk.b (by omega) (by simp) (fun x hx => by cases hx)
  have e : (BF k0 k1 0 []).mergeSort (fun x y => decide (x ≤ y)) = [] := by simp [BF]
  rw [e] at c3
  have c5 := LZ (nl := false) (l := [(true, 0, [])]) (c := 1) (n := 1) (m := 1) (b := BN 0) (q := BN 0) rfl (by omega) (fun x hx => by rw [List.mem_singleton.1 hx]; exact ⟨rfl, fun y hy => by cases hy⟩) (by omega) (by omega) rfl (by show BN 0 ++ ([[]] : List (List Int)).flatten = _; simp) rfl
  have eM : FU k0 k1 [] = BN 0 := by
   show BN 0 ++ pk (stB 0 (nsN k0 k1 [])) = BN 0
   rw [LA]
   exact List.append_nil _
  rw [eM]
  exact W_bld0 NS c2 c3 PW c5 (JO (by omega) (by omega) rfl)
 ·have hoU : ∀ x ∈ AC [] I, Cc x := FQ I [] (fun x hx => by cases hx) ho
  have hpos : 0 < (AC [] I).length := by
   obtain ⟨x, l, rfl⟩ : ∃ x l, I = x :: l := List.exists_cons_of_ne_nil (fun e => h0 (by rw [e]; rfl))
   have := (Dq l [x]).1
   have e : AC [] (x :: l) = AC [x] l := by rw [AC, if_neg (by simp [Hq])]; rfl
   rw [e]
   exact this
  have c1 := P5 (nl := nl) (I := I) (by omega) (by omega) ho
  unfold FU
  generalize AC [] I = U at *
  have hlen := DR hk hoU hU
  have c2 := KS (x := U.length) (by omega)
  have c3 := JM (nl := false) (t := U.length * 784931) hk.a hk.b (by omega) (by omega) hoU
  have c4 := Qi (nl := false) (r := nsN k0 k1 U) (n := U.length) (by omega) (CB _ _ _) hpos (K3 hk hoU) (fun x hx => by have := JS hk hoU x hx; omega)
  rw [O3 hk hoU] at c4
  have c5 := LZ (nl := false) (l := [(false, (pk (stB 0 (nsN k0 k1 U))).length, pk (stB 0 (nsN k0 k1 U)))]) (c := 1) (n := (BN U.length).length) (m := (Cq k0 k1 U).length) (b := BN U.length) (q := Cq k0 k1 U) rfl (by omega) (fun x hx => by rw [List.mem_singleton.1 hx]; exact ⟨rfl, G6 (FE _ _)⟩) (by omega) (by omega) rfl (by show BN U.length ++ ([pk (stB 0 (nsN k0 k1 U))] : List (List Int)).flatten = _; unfold Cq; simp) rfl
  have hl : ((BF k0 k1 (U.length * 784931) U).mergeSort (fun x y => decide (x ≤ y))).length = U.length := by rw [List.length_mergeSort]; simp [BF]
  exact W_bld (by omega) hU (by rw [List.length_map]) hl rfl c1 c2 c3 c4 c5 (JO hlen.2 (by omega) rfl)
theorem MF {k0 k1 : Nat} (hk : Keys k0 k1) {U : List It} (ho : ∀ x ∈ U, Cc x) (hU : U.length ≤ 1000) : vE (Cq k0 k1 U) = 0 ∧ Ej (Cq k0 k1 U) = U.length ∧ (Lv (Cq k0 k1 U)).1 = inL (nsN k0 k1 U) := by
 obtain ⟨e1, e2, e3⟩ := Qp hU (pk (stB 0 (nsN k0 k1 U)))
 have hr : Lv (Cq k0 k1 U) = (inL (nsN k0 k1 U), (stB 0 (nsN k0 k1 U)).length, 0) := by
  unfold Lv Cq
  rw [e2, e3]
  have := Rl (n := (pk (stB 0 (nsN k0 k1 U))).length) (lim := U.length * 784931) (l := pk (stB 0 (nsN k0 k1 U))) (nsN k0 k1 U) 0 [] [] Bits.nil (K3 hk ho) (JS hk ho) (fun x hx => by have := JS hk ho x hx; omega) rfl rfl
  rw [CB, List.nil_append, List.nil_append] at this
  exact this
 refine ⟨?_, e2, by rw [hr]⟩
 unfold vE
 have e1' : vErr (Cq k0 k1 U) = 0 := e1
 have e2' : Ej (Cq k0 k1 U) = U.length := e2
 have e3' : vS (Cq k0 k1 U) = pk (stB 0 (nsN k0 k1 U)) := e3
 rw [if_neg (by rw [e1']; simp), hr, e2', e3']
 by_cases h0 : 0 < U.length
 ·exact vlE_st rfl (CB _ _ _).symm h0
 ·have hU0 : U = [] := List.eq_nil_of_length_eq_zero (by omega)
  subst hU0
  rw [LA]
  rfl
end Go.Proofs
namespace Go.Proofs
open Go Go.Pe Go.Pm
set_option maxRecDepth 100000
set_option linter.unusedVariables false
def hitI (k0 k1 c : Nat) (L : List Int) (u : It) : Bool := decide (bsF L (Ep k0 k1 (c * 784931) u) c 0 c < c ∧ L.getD (bsF L (Ep k0 k1 (c * 784931) u) c 0 c) 0 = (Ep k0 k1 (c * 784931) u : Int))
def IZ (k0 k1 c : Nat) (L : List Int) : Nat → List It → List Int → List Int
 | _, [], A => A
 | i, u :: l, A => IZ k0 k1 c L (i + 1) l (if hitI k0 k1 c L u = true then A ++ [(i : Int)] else A)
def aH (F : List Int) : List (Nat × Row) := if F = [] then [] else [(1, ⟨.iarr .i64 F.length F, false⟩)]
def aP (F : List Int) : PV := if F = [] then .tup [nilI, .int .i64 0] else .tup [.ref 1 [] 1 0 F.length, .int .i64 0]
theorem Om {nl : Bool} {k0 k1 c : Nat} {L : Liz} {I : List It} (hk : Keys k0 k1) (hn : I.length ≤ 100000) (hc : c ≤ 1000) (hL : L.length = c) (ho : ∀ x ∈ I, Cc x) : ∀ (r i : Nat) (A : List Int), i + r = I.length → A ≠ [] → A.length ≤ i →
  Wt Try.f17 [] (aH (IZ k0 k1 c L i (I.drop i) A)) (aP (IZ k0 k1 c L i (I.drop i) A)) (Aa Try.f17 0) (dA1 nl I.length i c A.length k0 k1 (I.map itB) L A)
 | 0, i, A, hk2, hA, hl => by
  obtain rfl : i = I.length := by omega
  rw [List.drop_of_length_le (Nat.le_refl _)]
  unfold IZ aH aP
  rw [if_neg hA, if_neg hA]
  exact W_a1E
 | r + 1, i, A, hk2, hA, hl => by
  have hi : i < I.length := by omega
  have hx := Kt ho hi
  have hs := GI hk.a hk.b hx.b
  have ht : c * 784931 < 18446744073709551616 := by omega
  rw [drop_at hi]
  unfold IZ
  have c3 := pc_bs (nl := false) (x := (Ep k0 k1 (c * 784931) (I.getD i default) : Int)) (L := L) (show c ≤ 100000 by omega)
  by_cases h : hitI k0 k1 c L (I.getD i default) = true
  ·rw [if_pos h]
   have h' := of_decide_eq_true h
   rw [decide_eq_true h'] at c3
   have ih := Om (nl := nl) hk hn hc hL ho r (i + 1) (A ++ [(i : Int)]) (by omega) (by simp) (by rw [List.length_append, List.length_singleton]; omega)
   rw [List.length_append, List.length_singleton] at ih
   exact W_a1Y hi hn hc hL rfl rfl hl (Ce hi) rfl (Ib rfl hx.len hk.a hk.b hx.b) (Di hs ht) c3 ih
  ·rw [if_neg h]
   have h' : ¬ (bsF L (Ep k0 k1 (c * 784931) (I.getD i default)) c 0 c < c ∧ L.getD (bsF L (Ep k0 k1 (c * 784931) (I.getD i default)) c 0 c) 0 = (Ep k0 k1 (c * 784931) (I.getD i default) : Int)) := fun z => h (decide_eq_true z)
   rw [decide_eq_false h'] at c3
   have ih := Om (nl := nl) hk hn hc hL ho r (i + 1) A (by omega) hA (by omega)
   exact W_a1N hi hn hc hL rfl (Ce hi) rfl (Ib rfl hx.len hk.a hk.b hx.b) (Di hs ht) c3 ih
theorem RX {nl : Bool} {k0 k1 c : Nat} {L : Liz} {I : List It} (hk : Keys k0 k1) (hn : I.length ≤ 100000) (hc : c ≤ 1000) (hL : L.length = c) (ho : ∀ x ∈ I, Cc x) : ∀ (r i : Nat), i + r = I.length →
  Wt Try.f17 [] (aH (IZ k0 k1 c L i (I.drop i) [])) (aP (IZ k0 k1 c L i (I.drop i) [])) (Aa Try.f17 0) (dA0 nl I.length i c k0 k1 (I.map itB) L)
 | 0, i, hk2 => by
  obtain rfl : i = I.length := by omega
  rw [List.drop_of_length_le (Nat.le_refl _)]
  unfold IZ aH aP
  rw [if_pos rfl, if_pos rfl]
  exact W_a0E
 | r + 1, i, hk2 => by
  have hi : i < I.length := by omega
  have hx := Kt ho hi
  have hs := GI hk.a hk.b hx.b
  have ht : c * 784931 < 18446744073709551616 := by omega
  rw [drop_at hi]
  unfold IZ
  have c3 := pc_bs (nl := false) (x := (Ep k0 k1 (c * 784931) (I.getD i default) : Int)) (L := L) (show c ≤ 100000 by omega)
  by_cases h : hitI k0 k1 c L (I.getD i default) = true
  ·rw [if_pos h, List.nil_append]
   have h' := of_decide_eq_true h
   rw [decide_eq_true h'] at c3
   have hle : i = 0 ∨ 0 < i := by omega
   have ih := Om (nl := nl) hk hn hc hL ho r (i + 1) [(i : Int)] (by omega) (by simp) (by simp)
   exact W_a0Y hi hn hc hL rfl (Ce hi) rfl (Ib rfl hx.len hk.a hk.b hx.b) (Di hs ht) c3 ih
  ·rw [if_neg h]
   have h' : ¬ (bsF L (Ep k0 k1 (c * 784931) (I.getD i default)) c 0 c < c ∧ L.getD (bsF L (Ep k0 k1 (c * 784931) (I.getD i default)) c 0 c) 0 = (Ep k0 k1 (c * 784931) (I.getD i default) : Int)) := fun z => h (decide_eq_true z)
   rw [decide_eq_false h'] at c3
   exact W_a0N hi hn hc hL rfl (Ce hi) rfl (Ib rfl hx.len hk.a hk.b hx.b) (Di hs ht) c3 (RX (nl := nl) hk hn hc hL ho r (i + 1) (by omega))
theorem QD {nl : Bool} {k0 k1 : Nat} {I : List It} (hk : Keys k0 k1) (hn : I.length ≤ 100000) (ho : ∀ x ∈ I, Cc x) : ∀ (r i : Nat), i + r = I.length →
  Wt Try.f17 [] [] (.tup [nilI, .int .i64 0]) (Aa Try.f17 0) (dAn nl I.length i k0 k1 (I.map itB))
 | 0, i, hk2 => by
  obtain rfl : i = I.length := by omega
  exact W_anE
 | r + 1, i, hk2 => by
  have hi : i < I.length := by omega
  have hx := Kt ho hi
  have hs := GI hk.a hk.b hx.b
  have c2 := Di (n := 0) hs (by decide)
  rw [Nat.mul_zero, Nat.zero_div] at c2
  exact W_anS hi hn (Ce hi) rfl (Ib rfl hx.len hk.a hk.b hx.b) c2 (pc_bs (nl := true) (n := 0) (x := 0) (L := []) (by omega)) (QD hk hn ho r (i + 1) (by omega))
def anyM (k0 k1 : Nat) (b : List Int) (I : List It) : List Int := if Ej b = 0 then [] else IZ k0 k1 (Ej b) (Lv b).1 0 I []
theorem pc_any {nl nb : Bool} {k0 k1 m : Nat} {b : Liz} {I : List It} (hk : Keys k0 k1) (hn : I.length ≤ 100000) (ho : ∀ x ∈ I, Cc x) (hl : b.length = m) (hm : m ≤ 1000000) (hb : Bytes b) (hnl : nb = true → m = 0) (he : vE b = 0) (hL : (Lv b).1.length = Ej b) :
  Pt 17 [] [.iarr .u64 2 [(k0 : Int), (k1 : Int)], .vec nb (.iarr .u8 m b), .vec nl (.parr 1 I.length ish (I.map itB))] (aH (anyM k0 k1 b I)) (aP (anyM k0 k1 b I)) := by
 have c1 := pc_vals (nl := nb) hl hm hb hnl
 have hc : Ej b ≤ 1000 := Rd.vn_le _ _
 unfold anyM
 rw [he] at c1
 by_cases h0 : Ej b = 0
 ·rw [if_pos h0, if_pos h0] at c1
  rw [if_pos h0]
  unfold aH aP
  rw [if_pos rfl, if_pos rfl]
  exact W_anIn c1 (QD hk hn ho I.length 0 (by omega))
 ·rw [if_neg h0, if_neg h0] at c1
  unfold vH vP at c1
  rw [if_pos rfl, if_pos rfl] at c1
  rw [if_neg h0]
  have hw := RX (nl := nl) hk hn hc hL ho I.length 0 (by omega)
  rw [List.drop_zero] at hw
  exact W_a0In c1 hw
theorem W_mtY {nb b : Bool} {m ml k : Nat} {k0 k1 : Int} {q l F : Liz} (hF : 0 < F.length) (hF2 : F.length = k) (hk : k ≤ 100000) (c1 : Pt 17 [] [.iarr .u64 2 [k0, k1], .vec nb (.iarr .u8 m q), .vec false (.parr 1 1 ish [.vec b (.iarr .u8 ml l)])] [(1, ⟨.iarr .i64 k F, false⟩)] (.tup [.ref 1 [] 1 0 k, .int .i64 0])) :
  Pt 16 [] [.iarr .u64 2 [k0, k1], .vec nb (.iarr .u8 m q), .vec b (.iarr .u8 ml l)] [] (.tup [.bool true, .int .i64 0]) := by
 refine pO Try.func16 (by kernel_rfl) ?_
 refine W.rtA [(7, c9 c1), (15, aT)] [] [1 ≤ 1, _, decide ((k:Int) > 0) = true] (ac (by omega) (ac (c1) (ao (dT (by omega)))))
theorem W_smS {nl b : Bool} {n i m : Nat} {M : Lpz} {l : Liz} {hout : Lrz} {res : PV} (hi : i < n) (hn : n ≤ 20) (g : M.getD i .undef = .vec b (.iarr .u8 m l)) (hm : m ≤ 100)
  (hw : Wt Try.f9 [] hout res (Aa Try.f9 0) ⟨[(8, .vec nl (.parr 1 n ish M)), (9, .int .i64 n), (10, .int .i64 ((i + 1 : Nat) : Int))], []⟩) :
  Wt Try.f9 [] hout res (Aa Try.f9 0) ⟨[(8, .vec nl (.parr 1 n ish M)), (9, .int .i64 n), (10, .int .i64 i)], []⟩ := by
 refine W.sgA 0 [(0, aT), (2, aE g), (6, aF), (7, aV (I6 ↑(i + 1)))] [] (⟨[(8, .vec nl (.parr 1 n ish M)), (9, .int .i64 n), (10, .int .i64 ((i + 1 : Nat) : Int))], []⟩) [decide ((i:Int) < (n:Int)) = true, 0 ≤ (i:Int), (i:Int) < (n:Int), _, i < n, decide ((m:Int) > 100) = false, I6 (IntKind.wrap .i64 ((i:Int) + 1)) = I6 ↑(i + 1)] (ac (dT (by omega)) (ob2 (by omega) (ac (ex g) (ac (by omega) (ac (dF (by omega)) (ao (wj (by omega)))))))) ?_
 exact hw
theorem W_smN {nl b : Bool} {n i m : Nat} {M : Lpz} {l : Liz} (hi : i < n) (hn : n ≤ 20) (g : M.getD i .undef = .vec b (.iarr .u8 m l)) (hm : 100 < m) :
  Wt Try.f9 [] [] (.bool false) (Aa Try.f9 0) ⟨[(8, .vec nl (.parr 1 n ish M)), (9, .int .i64 n), (10, .int .i64 i)], []⟩ := by
 refine W.rtA [(0, aT), (2, aE g), (6, aT)] [] [decide ((i:Int) < (n:Int)) = true, 0 ≤ (i:Int), (i:Int) < (n:Int), _, i < n, decide ((m:Int) > 100) = true] (ac (dT (by omega)) (ob2 (by omega) (ac (ex g) (ac (by omega) (ao (dT (by omega)))))))
theorem W_smE {nl : Bool} {n : Nat} {M : Lpz} : Wt Try.f9 [] [] (.bool true) (Aa Try.f9 0) ⟨[(8, .vec nl (.parr 1 n ish M)), (9, .int .i64 n), (10, .int .i64 n)], []⟩ := by
 refine W.rtA [(0, aF)] [] [decide ((n:Int) < (n:Int)) = false] (ao (dF (by omega)))
theorem W_smIn {nl : Bool} {n : Nat} {M : Lpz} {hout : Lrz} {res : PV} (hn : n ≤ 20) (hw : Wt Try.f9 [] hout res (Aa Try.f9 0) ⟨[(8, .vec nl (.parr 1 n ish M)), (9, .int .i64 n), (10, .int .i64 0)], []⟩) : Pt 9 [] [.vec nl (.parr 1 n ish M)] hout res := by
 refine pO Try.func9 (by kernel_rfl) ?_
 refine W.sgA 0 [(3, aF)] [] (⟨[(8, .vec nl (.parr 1 n ish M)), (9, .int .i64 n), (10, .int .i64 0)], []⟩) [decide ((n:Int) > 20) = false] (ao (dF (by omega))) ?_
 exact hw
theorem W_smB {nl : Bool} {n : Nat} {M : Lpz} (hn : ¬ n ≤ 20) : Pt 9 [] [.vec nl (.parr 1 n ish M)] [] (.bool false) := by
 refine pO Try.func9 (by kernel_rfl) ?_
 have hn' : ¬ (n : Int) ≤ 20 := by omega
 refine W.rtA [(3, aT)] [] [decide ((n:Int) > 20) = true] (ao (dT (by omega)))
theorem W_aw {m : Nat} {q q0 : Liz} (hq : q.length = 4) (g : q.getD 0 0 = 1) (h0 : q0 = [0]) (c1 : Pt 11 [] [.iarr .u64 2 [1, 2], .vec true (.parr 1 0 ish [])] [(1, Bw 1 q0)] (.tup [.ref 1 [] 1 0 1, .int .i64 0]))
  (c2 : Pt 11 [] [.iarr .u64 2 [1, 2], .vec false (.parr 1 1 ish [.vec false (.iarr .u8 1 [1])])] [(1, Bw 4 q)] (.tup [.ref 1 [] 1 0 4, .int .i64 0]))
  (c3 : Pt 16 [] [.iarr .u64 2 [1, 2], .vec false (.iarr .u8 4 q), .vec false (.iarr .u8 1 [1])] [] (.tup [.bool true, .int .i64 0])) : Pt 10 [] [] [] (.bool true) := by
 refine pO Try.func10 (by kernel_rfl) ?_
 subst h0
 have ht : q.take 4 = q := List.take_of_length_le (by omega)
 have hs : decide (strOf [(0 : Int)] = ⟨#[0]⟩) = true := by decide
 refine W.rtA [(2, c9 c1), (10, Ans.frz [208]), (11, c9 c2), (20, cL true [] c3), (39, aV (I6 4)), (45, aV (U8 1))] [] [_, 1 ≤ 1, 1 ≤ 1, _, 4 ≤ 4, 1 ≤ 1, rr ([] : List (Nat × Row)), ([B6 2 [1, 2], PV.vec false (B8 4 (List.take 4 q)), PV.vec false (B8 1 [1])] : List PV) = [B6 2 [1, 2], PV.vec false (B8 4 q), PV.vec false (B8 1 [1])], _, 1 ≤ 1, I6 ↑(4 : Nat) = I6 4, (0 : Int) ≤ 0, 0 < (↑(4 : Nat) : Int), U8 (List.getD q 0 (0 : Int)) = U8 1, 0 < 4] (ac (c1) (ob2 (by omega) (ac (c2) (ob2 (by omega) (ac rfl (ac (by rw [List.take_of_length_le (show List.length q ≤ 4 by omega)]) (ac (c3) (ac (by omega) (ac (cg (by omega)) (ob2 (by omega) (ac (cg (g)) (ao (by omega)))))))))))))
end Go.Proofs
namespace Go.Proofs
open Go Go.Pe Go.Pm
set_option maxRecDepth 100000
set_option linter.unusedVariables false
theorem Gt {L : List Int} (h : L.Pairwise (fun x y => decide (x ≤ y) = true)) {p q : Nat} (hpq : p ≤ q) (hq : q < L.length) : L.getD p 0 ≤ L.getD q 0 := by
 rcases Nat.eq_or_lt_of_le hpq with rfl | hlt
 ·exact Int.le_refl _
 ·have := List.pairwise_iff_getElem.1 h p q (by omega) hq hlt
  rw [List.getD_eq_getElem?_getD, List.getD_eq_getElem?_getD, List.getElem?_eq_getElem (by omega), List.getElem?_eq_getElem hq]
  exact of_decide_eq_true this
theorem Jj {L : List Int} (h : L.Pairwise (fun x y => decide (x ≤ y) = true)) {x : Int} : ∀ (k i j : Nat), j ≤ i + k → i ≤ j → j ≤ L.length → (∀ p, p < i → L.getD p 0 < x) → (∀ p, j ≤ p → p < L.length → ¬ L.getD p 0 < x) →
  (∀ p, p < bsF L x k i j → L.getD p 0 < x) ∧ (∀ p, bsF L x k i j ≤ p → p < L.length → ¬ L.getD p 0 < x)
 | 0, i, j, hk, hij, hj, h1, h2 => by
  unfold bsF
  exact ⟨h1, fun p hp => h2 p (by omega)⟩
 | k + 1, i, j, hk, hij, hj, h1, h2 => by
  unfold bsF
  by_cases hc : i < j
  ·rw [if_pos hc]
   by_cases g : L.getD ((i + j) / 2) 0 < x
   ·rw [if_pos g]
    refine Jj h k _ _ (by omega) (by omega) hj (fun p hp => ?_) h2
    have := Gt h (p := p) (q := (i + j) / 2) (by omega) (by omega)
    omega
   ·rw [if_neg g]
    refine Jj h k _ _ (by omega) (by omega) (by omega) h1 (fun p hp hpl => ?_)
    have := Gt h (p := (i + j) / 2) (q := p) hp hpl
    omega
  ·rw [if_neg hc]
   exact ⟨h1, fun p hp => h2 p (by omega)⟩
theorem bs_mem {L : List Int} (h : L.Pairwise (fun x y => decide (x ≤ y) = true)) {x : Int} (hx : x ∈ L) : bsF L x L.length 0 L.length < L.length ∧ L.getD (bsF L x L.length 0 L.length) 0 = x := by
 obtain ⟨h1, h2⟩ := Jj h (x := x) L.length 0 L.length (by omega) (by omega) (Nat.le_refl _) (fun p hp => by omega) (fun p hp hq => by omega)
 obtain ⟨p, hp, rfl⟩ := List.getElem_of_mem hx
 have e : L.getD p 0 = L[p] := by rw [List.getD_eq_getElem?_getD, List.getElem?_eq_getElem hp]; rfl
 have hr : bsF L L[p] L.length 0 L.length ≤ p := by
  rcases Nat.lt_or_ge p (bsF L L[p] L.length 0 L.length) with g | g
  ·have := h1 p g; omega
  ·exact g
 have g1 := Gt h hr hp
 have g2 := h2 _ (Nat.le_refl _) (by omega)
 exact ⟨by omega, by omega⟩
theorem NE {k0 k1 t : Nat} {x y : It} (h : x.2 = y.2) : Ep k0 k1 t x = Ep k0 k1 t y := by unfold Ep; rw [h]
theorem hit_all {k0 k1 : Nat} (hk : Keys k0 k1) {U : List It} (ho : ∀ x ∈ U, Cc x) {x : It} (hx : Hq U x.2 = true) : hitI k0 k1 U.length (inL (nsN k0 k1 U)) x = true := by
 rw [O3 hk ho]
 have hl : ((BF k0 k1 (U.length * 784931) U).mergeSort (fun x y => decide (x ≤ y))).length = U.length := by rw [List.length_mergeSort]; simp [BF]
 obtain ⟨u, hu, he⟩ := List.any_eq_true.1 hx
 have he := of_decide_eq_true he
 have hm : (Ep k0 k1 (U.length * 784931) x : Int) ∈ (BF k0 k1 (U.length * 784931) U).mergeSort (fun x y => decide (x ≤ y)) := by
  rw [List.mem_mergeSort, NE he.symm]
  exact List.mem_map.2 ⟨u, hu, rfl⟩
 have := bs_mem (FN _) hm
 rw [hl] at this
 exact decide_eq_true this
theorem Mx {k0 k1 c : Nat} {L : List Int} : ∀ (l : List It) (i : Nat) (A : List Int), (∀ x ∈ l, hitI k0 k1 c L x = true) → (IZ k0 k1 c L i l A).length = A.length + l.length
 | [], i, A, _ => rfl
 | u :: l, i, A, h => by
  unfold IZ
  rw [if_pos (h u (by simp)), Mx l (i + 1) _ (fun x hx => h x (List.mem_cons_of_mem _ hx)), List.length_append, List.length_singleton, List.length_cons]
  omega
theorem NI (l : List Nat) : (inL l).length = l.length := by simp [inL]
theorem Od {k0 k1 : Nat} {U : List It} (hU : U.length ≤ 1000) : Bytes (Cq k0 k1 U) := by
 unfold Cq
 refine Bytes.append ?_ (G6 (FE _ _))
 unfold BN
 split
 ·exact J8 _ _
 ·exact (J8 _ _).append (J8 _ _)
theorem pc_anyB {nl nb : Bool} {k0 k1 : Nat} {U I : List It} (hk : Keys k0 k1) (hn : I.length ≤ 100000) (ho : ∀ x ∈ I, Cc x) (hoU : ∀ x ∈ U, Cc x) (hU : U.length ≤ 1000) (hnb : nb = false) : Pt 17 [] [.iarr .u64 2 [(k0 : Int), (k1 : Int)], .vec nb (.iarr .u8 (Cq k0 k1 U).length (Cq k0 k1 U)), .vec nl (.parr 1 I.length ish (I.map itB))] (aH (anyM k0 k1 (Cq k0 k1 U) I)) (aP (anyM k0 k1 (Cq k0 k1 U) I)) := by
 obtain ⟨e1, e2, e3⟩ := MF hk hoU hU
 have hl := DR hk hoU hU
 exact pc_any hk hn ho rfl (by omega) (Od hU) (fun x => by rw [hnb] at x; cases x) e1 (by rw [e3, e2, NI, CB])
theorem Rb {k0 k1 : Nat} {U I : List It} (hk : Keys k0 k1) (hoU : ∀ x ∈ U, Cc x) (hU : U.length ≤ 1000) (h : ∀ x ∈ I, Hq U x.2 = true) : (anyM k0 k1 (Cq k0 k1 U) I).length = I.length := by
 obtain ⟨e1, e2, e3⟩ := MF hk hoU hU
 unfold anyM
 rw [e2, e3]
 by_cases h0 : U.length = 0
 ·rw [if_pos h0]
  have hU0 : U = [] := List.eq_nil_of_length_eq_zero h0
  subst hU0
  cases I with
  | nil => rfl
  | cons x l => have := h x (by simp); cases this
 ·rw [if_neg h0, Mx I 0 [] fun x hx => hit_all hk hoU (h x hx)]
  exact Nat.zero_add _
theorem PQ {nb : Bool} {k0 k1 : Nat} {U : List It} {x : It} (hk : Keys k0 k1) (hx : Cc x) (hoU : ∀ x ∈ U, Cc x) (hU : U.length ≤ 1000) (hnb : nb = false) (h : Hq U x.2 = true) : Pt 16 [] [.iarr .u64 2 [(k0 : Int), (k1 : Int)], .vec nb (.iarr .u8 (Cq k0 k1 U).length (Cq k0 k1 U)), .vec x.1 (.iarr .u8 x.2.length x.2)] [] (.tup [.bool true, .int .i64 0]) := by
 have c1 := pc_anyB (nl := false) (I := [x]) hk (by simp) (fun y hy => by rw [List.mem_singleton.1 hy]; exact hx) hoU hU hnb
 have hl := Rb (I := [x]) hk hoU hU (fun y hy => by rw [List.mem_singleton.1 hy]; exact h)
 have hne : anyM k0 k1 (Cq k0 k1 U) [x] ≠ [] := fun e => by rw [e] at hl; cases hl
 unfold aH aP at c1
 rw [if_neg hne, if_neg hne] at c1
 exact W_mtY (by rw [hl]; simp) rfl (by rw [hl]; simp) c1
def LQ (I : List It) : Bool := I.all fun x => decide (x.2.length ≤ 100)
theorem OX {nl : Bool} {I : List It} (hn : I.length ≤ 20) : ∀ (r i : Nat), i + r = I.length →
  Wt Try.f9 [] [] (.bool (LQ (I.drop i))) (Aa Try.f9 0) ⟨[(8, .vec nl (.parr 1 I.length ish (I.map itB))), (9, .int .i64 I.length), (10, .int .i64 i)], []⟩
 | 0, i, hk => by
  obtain rfl : i = I.length := by omega
  rw [List.drop_of_length_le (Nat.le_refl _)]
  exact W_smE
 | r + 1, i, hk => by
  have hi : i < I.length := by omega
  have ih := OX (nl := nl) hn r (i + 1) (by omega)
  unfold LQ at ih ⊢
  rw [drop_at hi, List.all_cons]
  by_cases h : (I.getD i default).2.length ≤ 100
  ·rw [decide_eq_true h, Bool.true_and]
   exact W_smS hi hn (Ce hi) h ih
  ·rw [decide_eq_false h, Bool.false_and]
   exact W_smN hi hn (Ce hi) (by omega)
def Jq (I : List It) : Bool := decide (I.length ≤ 20) && LQ I
theorem Qn {nl : Bool} {I : List It} : Pt 9 [] [.vec nl (.parr 1 I.length ish (I.map itB))] [] (.bool (Jq I)) := by
 unfold Jq
 by_cases hn : I.length ≤ 20
 ·have hw := OX (nl := nl) hn I.length 0 (by omega)
  rw [List.drop_zero] at hw
  rw [decide_eq_true hn, Bool.true_and]
  exact W_smIn hn hw
 ·rw [decide_eq_false hn, Bool.false_and]
  exact W_smB hn
theorem PS {I : List It} (h : Jq I = true) : I.length ≤ 20 ∧ ∀ x ∈ I, x.2.length ≤ 100 := by
 unfold Jq LQ at h
 rw [Bool.and_eq_true] at h
 exact ⟨of_decide_eq_true h.1, fun x hx => of_decide_eq_true (List.all_eq_true.1 h.2 x hx)⟩
theorem Lc : Pt 10 [] [] [] (.bool true) := by
 have hk : Keys 1 2 := ⟨by decide, by decide⟩
 have hx : Cc (false, [1]) := ⟨fun y hy => by rw [List.mem_singleton.1 hy]; omega, fun h => (by cases h), by simp⟩
 have hI : ∀ x ∈ [((false, [1]) : It)], Cc x := fun y hy => by rw [List.mem_singleton.1 hy]; exact hx
 have c1 := DI (nl := true) (I := []) hk (by simp) (fun x hx => by cases hx) (by simp [AC])
 have c2 := DI (nl := false) (I := [(false, [1])]) hk (by simp) hI (by simp [AC, Hq])
 have e0 : FU 1 2 [] = [0] := by
  show BN 0 ++ pk (stB 0 (nsN 1 2 [])) = [0]
  rw [LA]
  rfl
 have eU : AC [] [((false, [1]) : It)] = [(false, [1])] := rfl
 have c3 := PQ (nb := false) (U := [(false, [1])]) (x := (false, [1])) hk hx hI (by simp) rfl rfl
 have eM : FU 1 2 [((false, [1]) : It)] = Cq 1 2 [(false, [1])] := rfl
 rw [e0] at c1
 rw [eM] at c2
 have hlen : (Cq 1 2 [((false, [1]) : It)]).length = 4 := by
  unfold Cq
  have h1 := CB 1 2 [((false, [1]) : It)]
  have h2 := JS hk hI
  generalize nsN 1 2 [((false, [1]) : It)] = r at *
  obtain ⟨v, rfl⟩ : ∃ v, r = [v] := List.length_eq_one_iff.1 h1
  have h3 := h2 v (by simp)
  have h4 : v < 784931 := by simpa using h3
  rw [List.length_append, Bc, Fb, stB, stB, List.append_nil, CX, if_pos (by simp)]
  omega
 have hget : (Cq 1 2 [((false, [1]) : It)]).getD 0 0 = 1 := rfl
 rw [hlen] at c2 c3
 exact W_aw (m := 4) hlen hget rfl c1 c2 c3
structure ItW (x : It) : Prop where
 b : Bytes x.2
 nl : x.1 = true → x.2 = []
theorem it_ok {I : List It} (ho : ∀ x ∈ I, ItW x) (h : ∀ x ∈ I, x.2.length ≤ 100) : ∀ x ∈ I, Cc x := fun x hx => ⟨(ho x hx).b, (ho x hx).nl, by have := h x hx; omega⟩
theorem u8b {l : List Int} (h : ∀ x ∈ l, IntKind.u8.wrap x = x) : Bytes l := fun x hx => by
 have := h x hx
 rw [Ao] at this
 exact this
theorem it_of {q : PV} (hc : conf ish q = true) (hw : WF q) : ∃ x : It, q = itB x ∧ ItW x := by
 obtain ⟨nl, n, l, rfl⟩ : ∃ nl n l, q = .vec nl (.iarr .u8 n l) := ⟨_, _, _, (Bz _ _ hc).symm⟩
 simp only [WF] at hw
 obtain ⟨⟨h1, h2⟩, _, h3⟩ := hw
 subst h1
 exact ⟨(nl, l), rfl, ⟨u8b h2, fun h => List.eq_nil_of_length_eq_zero (h3 h)⟩⟩
theorem QU : ∀ {l : List PV}, WFL l → (∀ q ∈ l, size q = 1 ∧ conf ish q = true ∧ noref q = true) → ∃ L : List It, l = L.map itB ∧ ∀ x ∈ L, ItW x
 | [], _, _ => ⟨[], rfl, fun x hx => by cases hx⟩
 | p :: l, hw, hq => by
  simp only [WFL] at hw
  obtain ⟨x, rfl, ho⟩ := it_of (hq p (by simp)).2.1 hw.1
  obtain ⟨L, rfl, hL⟩ := QU hw.2 fun q hh => hq q (by simp [hh])
  refine ⟨x :: L, rfl, fun y hy => ?_⟩
  rcases List.mem_cons.1 hy with rfl | hy
  ·exact ho
  ·exact hL y hy
theorem itsv_of {p : PV} (hc : conf (.vec 1 ish) p = true) (hw : WF p) : ∃ (nl : Bool) (L : List It), p = .vec nl (.parr 1 L.length ish (L.map itB)) ∧ ∀ x ∈ L, ItW x := by
 obtain ⟨nl, n, m, rfl⟩ : ∃ nl n m, p = .vec nl (.parr 1 n ish m) := ⟨_, _, _, (Bz _ _ hc).symm⟩
 simp only [WF] at hw
 obtain ⟨⟨h1, h2, h3⟩, _, _⟩ := hw
 obtain ⟨L, rfl, hL⟩ := QU h2 h3
 rw [List.length_map] at h1
 subst h1
 exact ⟨nl, L, rfl, hL⟩
theorem key_of {p : PV} (hc : conf (.iarr .u64 2) p = true) (hw : WF p) : ∃ k0 k1 : Nat, p = .iarr .u64 2 [(k0 : Int), (k1 : Int)] ∧ Keys k0 k1 := by
 obtain ⟨l, rfl⟩ : ∃ l, p = .iarr .u64 2 l := ⟨_, (Bz _ _ hc).symm⟩
 simp only [WF] at hw
 match l, hw with
 | [a, b], hw =>
  have ha := (Ao .u64 a).1 (hw.2 a (by simp))
  have hb := (Ao .u64 b).1 (hw.2 b (by simp))
  simp only [IntKind.min, IntKind.max, IntKind.signed, IntKind.bits] at ha hb
  refine ⟨a.toNat, b.toNat, ?_, ⟨?_, ?_⟩⟩
  ·rw [Int.toNat_of_nonneg (by simpa using ha.1), Int.toNat_of_nonneg (by simpa using hb.1)]
  ·have := ha.2; simp at this; omega
  ·have := hb.2; simp at this; omega
end Go.Proofs
namespace Go.Proofs
open Go Go.Pe Go.Pm
set_option maxRecDepth 100000
set_option linter.unusedVariables false
theorem Fe : ∀ {l m : List Int}, l.Perm m → l.Pairwise (fun x y => decide (x ≤ y) = true) → m.Pairwise (fun x y => decide (x ≤ y) = true) → l = m
 | [], m, h, _, _ => h.nil_eq
 | x :: l, [], h, _, _ => by simpa using h.length_eq
 | x :: l, y :: m, h, hl, hm => by
  rw [List.pairwise_cons] at hl hm
  have e : x = y := by
   have h1 : x ∈ y :: m := h.subset (by simp)
   have h2 : y ∈ x :: l := h.symm.subset (by simp)
   rcases List.mem_cons.1 h1 with e | h1
   ·exact e
   ·rcases List.mem_cons.1 h2 with e | h2
    ·exact e.symm
    ·have a := of_decide_eq_true (hl.1 y h2)
     have b := of_decide_eq_true (hm.1 x h1)
     omega
  subst e
  rw [Fe (List.Perm.cons_inv h) hl.2 hm.2]
def txt (U : List It) : List (List Int) := U.map fun u => u.2
theorem Md (U : List It) (b : List Int) : Hq U b = true ↔ b ∈ txt U := by
 unfold Hq txt
 rw [List.any_eq_true, List.mem_map]
 constructor
 ·rintro ⟨u, hu, h⟩
  exact ⟨u, hu, of_decide_eq_true h⟩
 ·rintro ⟨u, hu, h⟩
  exact ⟨u, hu, decide_eq_true h⟩
theorem DU : ∀ (l U : List It), (txt U).Nodup → (txt (AC U l)).Nodup
 | [], U, h => h
 | x :: l, U, h => by
  unfold AC
  split
  ·exact DU l U h
  ·rename_i g
   refine DU l _ ?_
   have g2 : x.2 ∉ txt U := fun z => g ((Md U x.2).2 z)
   show (List.map (fun u : It => u.2) (U ++ [x])).Nodup
   rw [List.map_append, List.nodup_append]
   refine ⟨h, by simp, fun a ha b hb e => ?_⟩
   rw [List.map_singleton, List.mem_singleton] at hb
   subst e hb
   exact g2 ha
theorem FM (b : List Int) : ∀ (l U : List It), b ∈ txt (AC U l) ↔ b ∈ txt U ∨ b ∈ txt l
 | [], U => by simp [AC, txt]
 | x :: l, U => by
  unfold AC
  split
  ·rename_i g
   rw [FM b l U]
   have g2 := (Md U x.2).1 g
   constructor
   ·rintro (h | h)
    ·exact .inl h
    ·exact .inr (by simp only [txt, List.map_cons, List.mem_cons]; exact .inr h)
   ·rintro (h | h)
    ·exact .inl h
    ·simp only [txt, List.map_cons, List.mem_cons] at h
     rcases h with rfl | h
     ·exact .inl g2
     ·exact .inr h
  ·rw [FM b l (U ++ [x])]
   simp only [txt, List.map_append, List.map_cons, List.map_nil, List.mem_append, List.mem_cons, List.not_mem_nil, or_false, or_assoc]
theorem Kw (k0 k1 t : Nat) (U : List It) : BF k0 k1 t U = (txt U).map fun b => ((sipM k0 k1 b * t / 18446744073709551616 : Nat) : Int) := by
 unfold BF txt Ep
 rw [List.map_map]
 rfl
theorem KH {k0 k1 : Nat} {I J : List It} (h : ∀ b, b ∈ txt I ↔ b ∈ txt J) : FU k0 k1 I = FU k0 k1 J := by
 have hp : (txt (AC [] I)).Perm (txt (AC [] J)) := by
  refine (List.perm_ext_iff_of_nodup (DU I [] (by simp [txt])) (DU J [] (by simp [txt]))).2 fun b => ?_
  rw [FM, FM, h b]
 have hl : (AC [] I).length = (AC [] J).length := by
  have := hp.length_eq
  unfold txt at this
  rwa [List.length_map, List.length_map] at this
 unfold FU Cq nsN
 have e : (BF k0 k1 ((AC [] I).length * 784931) (AC [] I)).mergeSort (fun x y => decide (x ≤ y)) = (BF k0 k1 ((AC [] J).length * 784931) (AC [] J)).mergeSort (fun x y => decide (x ≤ y)) := by
  refine Fe ?_ (FN _) (FN _)
  refine (List.mergeSort_perm _ _).trans (List.Perm.trans ?_ (List.mergeSort_perm _ _).symm)
  rw [Kw, Kw, hl]
  exact hp.map _
 rw [hl] at e ⊢
 rw [e]
def dO0 (nl : Bool) (n : Nat) (k0 k1 : Int) (M : List PV) : DS := ⟨[(1, .vec nl (.parr 1 n ish M)), (2, .at 0 []), (5, .vec true (.parr 1 0 ish [])), (18, .int .i64 n), (19, .int .i64 0)], [(0, ⟨.iarr .u64 2 [k0, k1], false⟩)]⟩
def dO1 (nl : Bool) (n i : Nat) (k0 k1 : Int) (M T : List PV) : DS := ⟨[(1, .vec nl (.parr 1 n ish M)), (2, .at 0 []), (5, .ref 1 [] 1 0 i), (18, .int .i64 n), (19, .int .i64 i)], [(0, ⟨.iarr .u64 2 [k0, k1], false⟩), (1, ⟨.parr 1 i ish T, false⟩)]⟩
theorem W_goNo {nl : Bool} {n : Nat} {k0 k1 : Int} {M : Lpz} (c1 : Pt 9 [] [.vec nl (.parr 1 n ish M)] [] (.bool false)) : Pt 7 [] [.iarr .u64 2 [k0, k1], .vec nl (.parr 1 n ish M)] [] (.bool true) := by
 refine pO Try.func7 (by kernel_rfl) ?_
 have ca := Lc
 refine W.rtA [(3, c9 c1), (5, c9 ca)] [] [_, _] (ac (c1) (ao (ca)))
theorem W_goIn {nl : Bool} {n : Nat} {k0 k1 : Int} {M : Lpz} (c1 : Pt 9 [] [.vec nl (.parr 1 n ish M)] [] (.bool true)) (hw : Wt Try.f7 [] [] (.bool true) (Aa Try.f7 0) (dO0 nl n k0 k1 M)) : Pt 7 [] [.iarr .u64 2 [k0, k1], .vec nl (.parr 1 n ish M)] [] (.bool true) := by
 refine pO Try.func7 (by kernel_rfl) ?_
 refine W.sgA 0 [(3, c9 c1)] [(64, 0)] (dO0 nl n k0 k1 M) [_] (ao (c1)) ?_
 exact hw
theorem W_goS0 {nl : Bool} {n : Nat} {b : Bool} {ml : Nat} {l : Liz} {k0 k1 : Int} {M : Lpz} (hn : n + 1 ≤ 20) (g : M.getD n .undef = .vec b (.iarr .u8 ml l)) (hw : Wt Try.f7 [] [] (.bool true) (Aa Try.f7 0) (dO1 nl (n + 1) 1 k0 k1 M [.vec b (.iarr .u8 ml l)])) :
  Wt Try.f7 [] [] (.bool true) (Aa Try.f7 0) (dO0 nl (n + 1) k0 k1 M) := by
 refine W.sgA 0 [(0, aT), (7, aV (I6 n)), (9, aV (I6 n)), (11, aE g), (15, aV (I6 1))] [(0, 0), (272, 1)] (dO1 nl (n + 1) 1 k0 k1 M [.vec b (.iarr .u8 ml l)]) [decide (0 < (↑(n + 1) : Int)) = true, I6 (IntKind.wrap .i64 ((↑(n + 1) : Int) - 1)) = I6 n, I6 (IntKind.wrap .i64 ((n:Int) - 0)) = I6 n, 0 ≤ (n:Int), (n:Int) < (↑(n + 1) : Int), _, n < n + 1, 1 ≤ 1, 0 < 1, 24 ≤ 140737488355328, 1 ≤ 9223372036854775807, I6 (IntKind.wrap .i64 ((0 : Int) + (1 : Int))) = I6 1] (ac (dT (by omega)) (ac (cg (Ab (by omega) (by omega) (by omega))) (ac (wj (by omega)) (ob2 (by omega) (ac (ex g) (ob4 (by omega) (ac (by omega) (ao (wj (by omega)))))))))) ?_
 exact hw
theorem W_goS {nl : Bool} {n i j : Nat} {b : Bool} {ml : Nat} {l : Liz} {k0 k1 : Int} {M T : Lpz} (hn : n ≤ 20) (hi : i < n) (hj : (n : Int) - 1 - (i : Int) = (j : Int)) (hT : T.length = i) (g : M.getD j .undef = .vec b (.iarr .u8 ml l)) (hw : Wt Try.f7 [] [] (.bool true) (Aa Try.f7 0) (dO1 nl n (i + 1) k0 k1 M (T ++ [.vec b (.iarr .u8 ml l)]))) :
  Wt Try.f7 [] [] (.bool true) (Aa Try.f7 0) (dO1 nl n i k0 k1 M T) := by
 obtain ⟨w, rfl⟩ : ∃ w, n = j + i + 1 := ⟨0, by omega⟩
 clear hj w
 refine W.sgA 0 [(0, aT), (7, aV (I6 ↑(j + i))), (9, aV (I6 j)), (11, aE g), (13, Ans.ups [(1, none), (272, some (Row.mk (PV.parr 1 (i + 1) (Sh.vec 1 (Sh.int .u8)) (T ++ [PV.vec b (B8 ml l)])) false))]), (15, aV (I6 ↑(i + 1)))] [(0, 0), (272, 1)] (dO1 nl (j + i + 1) (i + 1) k0 k1 M (T ++ [.vec b (.iarr .u8 ml l)])) [decide ((i:Int) < (↑(j + i + 1) : Int)) = true, I6 (IntKind.wrap .i64 ((↑(j + i + 1) : Int) - 1)) = I6 ↑(j + i), I6 (IntKind.wrap .i64 ((↑(j + i) : Int) - (i:Int))) = I6 j, 0 ≤ (j:Int), (j:Int) < (↑(j + i + 1) : Int), _, j < j + i + 1, ([(1, none), (272, some (Row.mk (PV.parr 1 (i + 1) (Sh.vec 1 (Sh.int .u8)) (List.take i T ++ [PV.vec b (B8 ml l)])) false))] : List (Nat × Option Row)) = [(1, none), (272, some (Row.mk (PV.parr 1 (i + 1) (Sh.vec 1 (Sh.int .u8)) (T ++ [PV.vec b (B8 ml l)])) false))], 1 ≤ 1, 0 + i = i, (i + 1) * 24 ≤ 140737488355328, i + 1 ≤ 9223372036854775807, I6 (IntKind.wrap .i64 ((i:Int) + 1)) = I6 ↑(i + 1)] (ac (dT (by omega)) (ac (cg (Ab (by omega) (by omega) (by omega))) (ac (cg (Ab (by omega) (by omega) (by omega))) (ob2 (by omega) (ac (ex g) (ac (by omega) (ac (by rw [List.take_of_length_le (show List.length T ≤ i by omega)]) (ac (by omega) (ac (by omega) (ob2 (by omega) (ao (wj (by omega))))))))))))) ?_
 exact hw
theorem W_goE {nl : Bool} {n m : Nat} {k0 k1 : Int} {M T : Lpz} {q : Liz} (hn : n ≤ 20) (h0 : 0 < n) (hT : T.length = n) (hM : M.length = n) (hq : q.length = m) (hm : m ≤ 1000000) (c1 : Pt 11 [] [.iarr .u64 2 [k0, k1], .vec nl (.parr 1 n ish M)] [(1, Bw m q)] (.tup [.ref 1 [] 1 0 m, .int .i64 0]))
  (c2 : Pt 11 [] [.iarr .u64 2 [k0, k1], .vec false (.parr 1 n ish T)] [(1, Bw m q)] (.tup [.ref 1 [] 1 0 m, .int .i64 0])) (c3 : Pt 11 [] [.iarr .u64 2 [k0, k1], .vec false (.parr 1 (n + n) ish (T ++ M))] [(1, Bw m q)] (.tup [.ref 1 [] 1 0 m, .int .i64 0])) :
  Wt Try.f7 [] [] (.bool true) (Aa Try.f7 0) (dO1 nl n n k0 k1 M T) := by
 have ca := Lc
 have h1 : T.take n = T := List.take_of_length_le (by omega)
 have h2 : (T ++ M).take (n + n) = T ++ M := List.take_of_length_le (by rw [List.length_append]; omega)
 have h3 : q.take m = q := List.take_of_length_le (by omega)
 refine W.rtA [(0, aF), (3, c9 c1), (11, cL true [] c2), (20, Ans.ups [(1, none), (384, some (Row.mk (PV.parr 1 (n + n) (Sh.vec 1 (Sh.int .u8)) (T ++ M)) false))]), (21, cL true [] c3), (39, aV (PV.str (strOf q))), (41, aV (PV.str (strOf q))), (42, aT), (46, aV (PV.str (strOf q))), (48, aV (PV.str (strOf q))), (49, aT), (52, c9 ca)] [] [decide ((n:Int) < (n:Int)) = false, _, 0 + n ≤ n, rr ([] : List (Nat × Row)), ([B6 2 [k0, k1], PV.vec false (PV.parr 1 n (Sh.vec 1 (Sh.int .u8)) (List.take n T))] : List PV) = [B6 2 [k0, k1], PV.vec false (PV.parr 1 n (Sh.vec 1 (Sh.int .u8)) T)], _, ([(1, none), (384, some (Row.mk (PV.parr 1 (n + n) (Sh.vec 1 (Sh.int .u8)) (List.take n T ++ M)) false))] : List (Nat × Option Row)) = [(1, none), (384, some (Row.mk (PV.parr 1 (n + n) (Sh.vec 1 (Sh.int .u8)) (T ++ M)) false))], 0 + n = n, (n + n) * 24 ≤ 140737488355328, n + n ≤ 9223372036854775807, 0 + (n + n) ≤ n + n, rr ([] : List (Nat × Row)), ([B6 2 [k0, k1], PV.vec false (PV.parr 1 (n + n) (Sh.vec 1 (Sh.int .u8)) (List.take (n + n) (T ++ M)))] : List PV) = [B6 2 [k0, k1], PV.vec false (PV.parr 1 (n + n) (Sh.vec 1 (Sh.int .u8)) (T ++ M))], _, PV.str (strOf (List.take m q)) = PV.str (strOf q), 0 + m ≤ m, PV.str (strOf (List.take m q)) = PV.str (strOf q), 0 + m ≤ m, (ByteArray.toList (strOf q) == ByteArray.toList (strOf q)) = true, PV.str (strOf (List.take m q)) = PV.str (strOf q), 0 + m ≤ m, PV.str (strOf (List.take m q)) = PV.str (strOf q), 0 + m ≤ m, (ByteArray.toList (strOf q) == ByteArray.toList (strOf q)) = true, _] (ac (dF (by omega)) (ac (c1) (ac (by omega) (ac rfl (ac (by rw [List.take_of_length_le (show List.length T ≤ n by omega)]) (ac (c2) (ac (by rw [List.take_of_length_le (show List.length T ≤ n by omega)]) (ac (by omega) (ob3 (by omega) (ac rfl (ac (by rw [List.take_of_length_le (show List.length (T ++ M) ≤ n + n by (simp [I6, U6, U3, U8]; omega))]) (ac (c3) (ac (by rw [List.take_of_length_le (show List.length q ≤ m by omega)]) (ac (by omega) (ac (by rw [List.take_of_length_le (show List.length q ≤ m by omega)]) (ac (by omega) (ac (by (simp [*]; done)) (ac (by rw [List.take_of_length_le (show List.length q ≤ m by omega)]) (ac (by omega) (ac (by rw [List.take_of_length_le (show List.length q ≤ m by omega)]) (ac (by omega) (ac (by (simp [*]; done)) (ao (ca))))))))))))))))))))))))
theorem W_goE0 {nl : Bool} {m : Nat} {k0 k1 : Int} {q : Liz} (hq : q.length = m) (hm : m ≤ 1000000) (c1 : Pt 11 [] [.iarr .u64 2 [k0, k1], .vec nl (.parr 1 0 ish [])] [(1, Bw m q)] (.tup [.ref 1 [] 1 0 m, .int .i64 0]))
  (c2 : Pt 11 [] [.iarr .u64 2 [k0, k1], .vec true (.parr 1 0 ish [])] [(1, Bw m q)] (.tup [.ref 1 [] 1 0 m, .int .i64 0])) :
  Wt Try.f7 [] [] (.bool true) (Aa Try.f7 0) (dO0 nl 0 k0 k1 []) := by
 have ca := Lc
 have h3 : q.take m = q := List.take_of_length_le (by omega)
 refine W.rtA [(3, c9 c1), (11, c9 c2), (20, Ans.emp), (21, c9 c2), (39, aV (PV.str (strOf q))), (41, aV (PV.str (strOf q))), (42, aT), (46, aV (PV.str (strOf q))), (48, aV (PV.str (strOf q))), (49, aT), (52, c9 ca)] [] [_, _, rr (0), rr (0), _, PV.str (strOf (List.take m q)) = PV.str (strOf q), 0 + m ≤ m, PV.str (strOf (List.take m q)) = PV.str (strOf q), 0 + m ≤ m, (ByteArray.toList (strOf q) == ByteArray.toList (strOf q)) = true, PV.str (strOf (List.take m q)) = PV.str (strOf q), 0 + m ≤ m, PV.str (strOf (List.take m q)) = PV.str (strOf q), 0 + m ≤ m, (ByteArray.toList (strOf q) == ByteArray.toList (strOf q)) = true, _] (ac (c1) (ac (c2) (ac rfl (ac rfl (ac (c2) (ac (by rw [List.take_of_length_le (show List.length q ≤ m by omega)]) (ac (by omega) (ac (by rw [List.take_of_length_le (show List.length q ≤ m by omega)]) (ac (by omega) (ac (by (simp [*]; done)) (ac (by rw [List.take_of_length_le (show List.length q ≤ m by omega)]) (ac (by omega) (ac (by rw [List.take_of_length_le (show List.length q ≤ m by omega)]) (ac (by omega) (ac (by (simp [*]; done)) (ao (ca)))))))))))))))))
theorem rev_at {I : List It} {i : Nat} (h : i < I.length) : I.reverse.getD i default = I.getD (I.length - 1 - i) default := by
 rw [List.getD_eq_getElem?_getD, List.getD_eq_getElem?_getD, List.getElem?_reverse h]
theorem W_go {nl : Bool} {k0 k1 : Nat} {I : List It} (hk : Keys k0 k1) (hn : I.length ≤ 20) (ho : ∀ x ∈ I, Cc x) : ∀ (r i : Nat), i + r = I.length → 0 < i →
  Wt Try.f7 [] [] (.bool true) (Aa Try.f7 0) (dO1 nl I.length i k0 k1 (I.map itB) ((I.reverse.take i).map itB))
 | 0, i, hk2, h0 => by
  obtain rfl : i = I.length := by omega
  have hr : I.reverse.length = I.length := List.length_reverse
  have hor : ∀ x ∈ I.reverse, Cc x := fun x hx => ho x (List.mem_reverse.1 hx)
  have hot : ∀ x ∈ I.reverse ++ I, Cc x := fun x hx => by
   rcases List.mem_append.1 hx with h | h
   ·exact hor x h
   ·exact ho x h
  have e1 : FU k0 k1 I.reverse = FU k0 k1 I := KH fun b => by simp [txt]
  have e2 : FU k0 k1 (I.reverse ++ I) = FU k0 k1 I := KH fun b => by simp [txt]
  have l1 := (Dq I []).2
  have l2 := (Dq I.reverse []).2
  have l3 := (Dq (I.reverse ++ I) []).2
  rw [List.length_nil] at l1 l2 l3
  rw [List.length_append] at l3
  have c1 := DI (nl := nl) hk (by omega) ho (by omega)
  have c2 := DI (nl := false) (I := I.reverse) hk (by omega) hor (by omega)
  have c3 := DI (nl := false) (I := I.reverse ++ I) hk (by rw [List.length_append]; omega) hot (by omega)
  rw [e1, hr] at c2
  rw [e2, List.length_append, hr, List.map_append] at c3
  have hU : ∀ x ∈ AC [] I, Cc x := FQ I [] (fun x hx => by cases hx) ho
  have hlen := DR hk hU (by omega)
  have hlen : (FU k0 k1 I).length ≤ 300000 := hlen.1
  rw [List.take_of_length_le (by omega)]
  exact W_goE hn h0 (by rw [List.length_map, hr]) (by rw [List.length_map]) rfl (by omega) c1 c2 c3
 | r + 1, i, hk2, h0 => by
  have hi : i < I.length := by omega
  have ih := W_go (nl := nl) hk hn ho r (i + 1) (by omega) (by omega)
  have e : I.reverse.take (i + 1) = I.reverse.take i ++ [I.getD (I.length - 1 - i) default] := by
   rw [← rev_at hi, List.take_add_one]
   congr 1
   rw [List.getD_eq_getElem?_getD, List.getElem?_eq_getElem (by rw [List.length_reverse]; exact hi)]
   rfl
  rw [e, List.map_append] at ih
  exact W_goS hn hi (j := I.length - 1 - i) (by omega) (by rw [List.length_map, List.length_take, List.length_reverse]; omega) (Ce (by omega)) ih
theorem pc_gcsOrder {nl : Bool} {k0 k1 : Nat} {I : List It} (hk : Keys k0 k1) (ho : ∀ x ∈ I, ItW x) : Pt 7 [] [.iarr .u64 2 [(k0 : Int), (k1 : Int)], .vec nl (.parr 1 I.length ish (I.map itB))] [] (.bool true) := by
 have cs := Qn (nl := nl) (I := I)
 cases hs : Jq I with
 | false =>
  rw [hs] at cs
  exact W_goNo cs
 | true =>
  rw [hs] at cs
  obtain ⟨h1, h2⟩ := PS hs
  have ho2 := it_ok ho h2
  refine W_goIn cs ?_
  by_cases h0 : I.length = 0
  ·obtain rfl := List.eq_nil_of_length_eq_zero h0
   have c1 := DI (nl := nl) (I := []) hk (by simp) ho2 (by simp [AC])
   have c2 := DI (nl := true) (I := []) hk (by simp) ho2 (by simp [AC])
   have hlen := DR hk (U := []) (fun x hx => by cases hx) (by simp)
   have hlen : (FU k0 k1 []).length ≤ 300000 := hlen.1
   exact W_goE0 rfl (by omega) c1 c2
  ·have hw := W_go (nl := nl) hk h1 ho2 (I.length - 1) 1 (by omega) (by omega)
   have hr := rev_at (I := I) (i := 0) (by omega)
   have e : I.reverse.take 1 = [I.getD (I.length - 1) default] := by
    rw [Nat.sub_zero] at hr
    rw [← hr]
    have hl : 0 < I.reverse.length := by rw [List.length_reverse]; omega
    rw [List.take_one, List.head?_eq_getElem?, List.getD_eq_getElem?_getD, List.getElem?_eq_getElem hl]
    rfl
   rw [e] at hw
   obtain ⟨w, hw2⟩ : ∃ w, I.length = w + 1 := ⟨I.length - 1, by omega⟩
   have g := Ce (I := I) (i := I.length - 1) (by omega)
   rw [hw2] at hw g ⊢
   rw [Nat.add_sub_cancel] at hw g
   exact W_goS0 (by omega) g hw
end Go.Proofs
namespace Go.Pe
def Mh (P : Program) (tot : Nat) : Nat → List Field → Bool
 | o, [] => Nat.beq o tot
 | o, f :: l => Nat.beq f.offset o && Mh P tot (o + P.cellsOf f.type) l
def okT (P : Program) : Nat → TypeId → Bool
 | 0, _ => false
 | d + 1, t => match P.underlying t with
  | some .bool | some (.int _) | some .string => Nat.beq (P.cellsOf t) 1
  | some (.struct fs) => Mh P (P.cellsOf t) 0 fs.toList && fs.toList.all fun f => okT P d f.type
  | some (.array n e) => Nat.beq (P.cellsOf t) (n * P.cellsOf e) && Ed P e && okT P d e
  | some (.slice e) => Nat.beq (P.cellsOf t) 1 && Ed P e && okT P d e
  | _ => false
theorem Ci (k : IntKind) : IntKind.same k k = true := by cases k <;> rfl
theorem beq_refl (s : Sh) : Sh.beq s s = true :=
 Sh.rec (motive_1 := fun s => Sh.beq s s = true) (motive_2 := fun l => Sh.Ld l l = true) rfl Ci rfl rfl (fun _ _ ih => by simp only [Sh.beq, Bool.and_eq_true]; exact ⟨Nat.beq_refl _, ih⟩)
  (fun k _ => by simp only [Sh.beq, Bool.and_eq_true]; exact ⟨Ci k, Nat.beq_refl _⟩) (fun _ _ _ ih => by simp only [Sh.beq, Bool.and_eq_true]; exact ⟨⟨Nat.beq_refl _, Nat.beq_refl _⟩, ih⟩)
  (fun _ _ ih => by simp only [Sh.beq, Bool.and_eq_true]; exact ⟨Nat.beq_refl _, ih⟩) rfl (fun _ _ h1 h2 => by simp only [Sh.Ld, Bool.and_eq_true]; exact ⟨h1, h2⟩) s
structure IG (P : Program) (w : World) (T : T2) (d : Nat) (t : TypeId) (cs : List Value) (p : PV) : Prop where
 conf : conf (BR P d t) p = true
 wf : WF p
 noref : noref p = true
 untup : untup p = true
 size : size p = P.cellsOf t
 len : cs.length = P.cellsOf t
 agg : Pe.isAgg p = BC P t
 rel : ∀ (j : Nat) (q : PV) (u : Value), (flat p)[j]? = some q → cs[j]? = some u → RC w T u q
theorem JC {α β : Type} {g : α → Option β} : ∀ {l : List α} {xs : List β}, l.mapM g = some xs → ∀ i ∈ l, ∃ y, g i = some y
 | [], _, _, i, hi => by cases hi
 | a :: l, xs, h, i, hi => by
  rw [List.mapM_cons] at h
  simp only [Option.bind_eq_bind, Option.bind_eq_some_iff] at h
  obtain ⟨y, hy, ys, hys, _⟩ := h
  rcases List.mem_cons.1 hi with rfl | hi
  ·exact ⟨y, hy⟩
  ·exact JC hys i hi
theorem Ie {s : Nat} (hs : 0 < s) : ∀ {l : List PV}, WFL l → (∀ q ∈ l, Pe.size q = s) → ∀ {j : Nat} {q : PV}, (Ai l)[j]? = some q → ∃ p, l[j / s]? = some p ∧ (flat p)[j % s]? = some q
 | [], _, _, j, q, h => by simp [Ai] at h
 | p :: l, hw, hz, j, q, h => by
  simp only [WFL] at hw
  have hl : (flat p).length = s := by rw [Ag p hw.1, hz p (by simp)]
  simp only [Ai] at h
  by_cases hj : j < s
  ·rw [List.getElem?_append_left (by omega)] at h
   refine ⟨p, by rw [Nat.div_eq_of_lt hj]; rfl, by rw [Nat.mod_eq_of_lt hj]; exact h⟩
  ·rw [List.getElem?_append_right (by omega), hl] at h
   obtain ⟨p', h1, h2⟩ := Ie hs hw.2 (fun q hq => hz q (by simp [hq])) h
   have e : j = (j - s) + s := by omega
   refine ⟨p', ?_, ?_⟩
   ·rw [e, Nat.add_div_right _ hs]
    simpa using h1
   ·rw [e, Nat.add_mod_right]; exact h2
def BV (P : Program) (d : Nat) (e : TypeId) (l : List PV) : PV := match P.underlying e with
 | some (.int k) => .iarr k l.length (l.map PV.num)
 | _ => .parr (P.cellsOf e) l.length (BR P d e) l
section
variable {P : Program} {w : World} {T : T2}
theorem M9 {d : Nat} {e : TypeId} {k : IntKind} (h : P.underlying e = some (.int k)) : BR P (d + 1) e = .int k := by simp only [BR, h]
theorem Oh {d : Nat} {t e : TypeId} (h : P.underlying t = some (.slice e)) : BR P (d + 1) t = .vec (P.cellsOf e) (BR P d e) := by simp only [BR, h]
theorem Gu {d : Nat} {e : TypeId} {l : List PV} (hok : okT P d e = true) (hl : ∀ q ∈ l, Pe.conf (BR P d e) q = true ∧ WF q ∧ Pe.noref q = true ∧ Pe.untup q = true ∧ Pe.size q = P.cellsOf e) :
  WF (BV P d e l) ∧ Bv (BV P d e l) = true ∧ Ae (BV P d e l) = l.length ∧ Ap (BV P d e l) = P.cellsOf e ∧ Pe.untup (BV P d e l) = true ∧ flat (BV P d e l) = Ai l ∧ Pe.size (BV P d e l) = l.length * P.cellsOf e := by
 have hut : Bl l = true := by
  clear hok
  induction l with
  | nil => rfl
  | cons p l ih =>
   simp only [Bl, Bool.and_eq_true]
   exact ⟨(hl p (by simp)).2.2.2.1, ih fun q hq => hl q (by simp [hq])⟩
 unfold BV
 split
 ·rename_i k hu
  obtain ⟨d', rfl⟩ : ∃ d', d = d' + 1 := by cases d with
   | zero => simp [okT] at hok
   | succ d => exact ⟨d, rfl⟩
  have h1 : P.cellsOf e = 1 := by
   simp only [okT, hu] at hok
   exact Nat.eq_of_beq_eq_true hok
  have hq : ∀ q ∈ l, ∃ x, q = .int k x ∧ k.wrap x = x := by
   intro q hq
   have := hl q hq
   rw [M9 hu] at this
   cases q <;> simp only [Pe.conf, reduceCtorEq, false_and] at this
   rename_i k' x
   have hk := IntKind.same_eq this.1
   subst hk
   exact ⟨x, rfl, by simpa only [WF] using this.2.1⟩
  have hf : (l.map PV.num).map (PV.int k) = l := by
   rw [List.map_map]
   conv => rhs; rw [← List.map_id l]
   refine List.map_congr_left fun q hql => ?_
   obtain ⟨x, rfl, _⟩ := hq q hql
   rfl
  have hfl : Ai l = l := by
   clear hok hf
   induction l with
   | nil => rfl
   | cons p l ih =>
    obtain ⟨x, rfl, _⟩ := hq p (by simp)
    simp only [Ai, flat]
    rw [ih (by simp only [Bl, Bool.and_eq_true] at hut; exact hut.2) (fun q hq' => hl q (by simp [hq'])) (fun q hq' => hq q (by simp [hq']))]
    rfl
  refine ⟨?_, rfl, rfl, by simp only [Ap]; omega, rfl, by simp only [flat]; rw [hf, hfl], by simp only [Pe.size]; rw [h1, Nat.mul_one]⟩
  simp only [WF, List.length_map, List.mem_map, true_and]
  rintro x ⟨q, hql, rfl⟩
  obtain ⟨x, rfl, hx⟩ := hq q hql
  exact hx
 ·refine ⟨?_, rfl, rfl, rfl, by simpa only [Pe.untup] using hut, rfl, rfl⟩
  simp only [WF]
  exact ⟨trivial, BK fun q hq => (hl q hq).2.1, fun q hq => ⟨(hl q hq).2.2.2.2, (hl q hq).1, (hl q hq).2.2.1⟩⟩
theorem Mi {d n : Nat} {t e : TypeId} {cs : List Value} (hu : P.underlying t = some (.array n e)) (hc : P.cellsOf t = n * P.cellsOf e) (hok : okT P d e = true) (hs : 0 < P.cellsOf e) (hl : cs.length = P.cellsOf t)
  (h : ∀ i, i < n → ∃ p, IG P w T d e ((cs.drop (i * P.cellsOf e)).take (P.cellsOf e)) p) : ∃ p, IG P w T (d + 1) t cs p := by
 have hex : ∀ i, ∃ p, i < n → IG P w T d e ((cs.drop (i * P.cellsOf e)).take (P.cellsOf e)) p := fun i => by
  by_cases hi : i < n
  ·obtain ⟨p, hp⟩ := h i hi; exact ⟨p, fun _ => hp⟩
  ·exact ⟨.undef, fun h => absurd h hi⟩
 obtain ⟨f, hf⟩ := Classical.axiomOfChoice hex
 have hmem : ∀ q ∈ (List.range n).map f, Pe.conf (BR P d e) q = true ∧ WF q ∧ Pe.noref q = true ∧ Pe.untup q = true ∧ Pe.size q = P.cellsOf e := by
  intro q hq
  obtain ⟨i, hi, rfl⟩ := List.mem_map.1 hq
  have := hf i (by simpa using hi)
  exact ⟨this.conf, this.wf, this.noref, this.untup, this.size⟩
 obtain ⟨a1, a2, a3, a4, a5, a6, a7⟩ := Gu hok hmem
 have hlen : ((List.range n).map f).length = n := by simp
 refine ⟨BV P d e ((List.range n).map f), ?_, a1, Ik a2, a5, by rw [a7, hlen, hc], hl, ?_, fun j q u hq hu' => ?_⟩
 ·unfold BV
  simp only [BR, hu]
  cases hk : P.underlying e with
  | none =>
   simp only [Pe.conf, Bool.and_eq_true, hlen]
   exact ⟨⟨Nat.beq_refl _, Nat.beq_refl _⟩, beq_refl _⟩
  | some dsc => cases dsc with
  | int k =>
   simp only [Pe.conf, Bool.and_eq_true, hlen]
   exact ⟨Ci k, Nat.beq_refl _⟩
  | _ =>
   simp only [Pe.conf, Bool.and_eq_true, hlen]
   exact ⟨⟨Nat.beq_refl _, Nat.beq_refl _⟩, beq_refl _⟩
 ·have : Pe.isAgg (BV P d e ((List.range n).map f)) = true := by unfold BV; split <;> rfl
  rw [this]
  simp only [BC, hu]
 ·rw [a6] at hq
  have hwl : WFL ((List.range n).map f) := BK fun q hq => (hmem q hq).2.1
  obtain ⟨p, h1, h2⟩ := Ie hs hwl (fun q hq => (hmem q hq).2.2.2.2) hq
  have hjn : j / P.cellsOf e < n := by have := (List.getElem?_eq_some_iff.1 h1).1; simpa using this
  have hp : p = f (j / P.cellsOf e) := by simp [hjn] at h1; exact h1.symm
  subst hp
  refine (hf _ hjn).rel (j % P.cellsOf e) q u h2 ?_
  rw [List.getElem?_take, if_pos (Nat.mod_lt _ hs), List.getElem?_drop, ← hu']
  congr 1
  rw [Nat.mul_comm]
  exact Nat.div_add_mod j (P.cellsOf e)
theorem G5 {d tot : Nat} {cs : List Value} (hl : cs.length = tot) : ∀ {fs : List Field} {o : Nat}, Mh P tot o fs = true → (∀ f ∈ fs, okT P d f.type = true ∧ ∃ p, IG P w T d f.type ((cs.drop f.offset).take (P.cellsOf f.type)) p) →
  ∃ ps, ES (fs.map fun f => BR P d f.type) ps = true ∧ WFL ps ∧ Cg ps = true ∧ Bl ps = true ∧ o + Av ps = tot ∧ ∀ (j : Nat) (q : PV) (u : Value), (Ai ps)[j]? = some q → cs[o + j]? = some u → RC w T u q
 | [], o, h, _ => by
  simp only [Mh] at h
  exact ⟨[], rfl, by simp [WFL], rfl, rfl, by simp only [Av]; exact Nat.eq_of_beq_eq_true h, fun j q u hq => by simp [Ai] at hq⟩
 | f :: fs, o, h, hf => by
  simp only [Mh, Bool.and_eq_true] at h
  obtain ⟨h1, h2⟩ := h
  have ho := Nat.eq_of_beq_eq_true h1
  obtain ⟨_, p, hp⟩ := hf f (by simp)
  obtain ⟨ps, g1, g2, g3, g4, g5, g6⟩ := G5 hl h2 fun x hx => hf x (by simp [hx])
  refine ⟨p :: ps, by simp only [List.map_cons, ES, Bool.and_eq_true]; exact ⟨hp.conf, g1⟩, by simp only [WFL]; exact ⟨hp.wf, g2⟩, by simp only [Cg, Bool.and_eq_true]; exact ⟨hp.noref, g3⟩, by simp only [Bl, Bool.and_eq_true]; exact ⟨hp.untup, g4⟩, by simp only [Av, hp.size]; omega, fun j q u hq hu => ?_⟩
  simp only [Ai] at hq
  have hlp : (flat p).length = P.cellsOf f.type := by rw [Ag p hp.wf, hp.size]
  by_cases hj : j < P.cellsOf f.type
  ·rw [List.getElem?_append_left (by omega)] at hq
   refine hp.rel j q u hq ?_
   rw [List.getElem?_take, if_pos hj, List.getElem?_drop, ho]
   exact hu
  ·rw [List.getElem?_append_right (by omega), hlp] at hq
   refine g6 _ q u hq ?_
   rw [← hu]
   congr 1
   omega
end
section
variable {H : Type} {enc : TypeId × Value → H} {P : Program} {w : World} {base : Nat} {spare : Nat → Bool} {held : Bool}
theorem IB {a : Addr} {n : Nat} {cs : List Value} (h : w.cells? base a n = some cs) : cs.length = n ∧ ∀ j u, cs[j]? = some u → w.cell? (a.add j) = some u := by
 unfold World.cells? at h
 split at h
 ·have : ∀ {l : List Nat} {xs : List Value}, l.mapM (fun i => w.cell? (a.add i)) = some xs → xs.length = l.length ∧ ∀ (j : Nat) (i : Nat) (u : Value), l[j]? = some i → xs[j]? = some u → w.cell? (a.add i) = some u := by
   intro l
   induction l with
   | nil => intro xs h; simp at h; subst h; exact ⟨rfl, fun j i u hi => by simp at hi⟩
   | cons b l ih =>
    intro xs h
    rw [List.mapM_cons] at h
    simp only [Option.bind_eq_bind, Option.bind_eq_some_iff, Option.pure_def, Option.some.injEq] at h
    obtain ⟨y, hy, ys, hys, rfl⟩ := h
    obtain ⟨e1, e2⟩ := ih hys
    refine ⟨by simp [e1], fun j i u hi hu => ?_⟩
    cases j with
    | zero => simp at hi hu; subst hi; subst hu; exact hy
    | succ j => simp at hi hu; exact e2 j i u hi hu
  obtain ⟨e1, e2⟩ := this h
  refine ⟨by simpa using e1, fun j u hu => ?_⟩
  have hj : j < n := by have := (List.getElem?_eq_some_iff.1 hu).1; simp at e1; omega
  exact e2 j j u (by simp [hj]) hu
 ·cases h
theorem EJ : ∀ (d : Nat) (t : TypeId) (fuel : Nat) (cs : List Value) (x : DataW H × List MemPlace), okT P d t = true → DataW.trod enc P w base spare held fuel t cs = some x → ∃ p, IG P w (fun b _ => b < w.heap.size) d t cs p
 | 0, _, _, _, _, h, _ => by simp [okT] at h
 | d + 1, t, 0, cs, x, _, h => by simp [DataW.trod] at h
 | d + 1, t, fuel + 1, cs, x, hok, h => by
  have hsz : ∀ e, Ed P e = true → 0 < P.cellsOf e := fun e he => Nat.pos_of_ne_zero (Bh he)
  simp only [okT] at hok
  split at hok
  ·rename_i hu
   have hc := Nat.eq_of_beq_eq_true hok
   obtain ⟨b, rfl, _⟩ := DataW.trod_bool hu h
   refine ⟨.bool b, by simp only [BR, hu]; rfl, trivial, rfl, rfl, hc.symm, by rw [hc]; rfl, by simp only [BC, hu]; rfl, fun j q u hq hu' => ?_⟩
   cases j with
   | zero => simp [flat] at hq hu'; subst hq; subst hu'; exact .bool b
   | succ j => simp [flat] at hq
  ·rename_i k hu
   have hc := Nat.eq_of_beq_eq_true hok
   obtain ⟨n, rfl, _, hwf⟩ := DataW.trod_int hu h
   have hw : k.wrap n = n := by
    rw [Ao]
    simpa [Lit.wf, IntKind.has] using hwf
   refine ⟨.int k n, by simp only [BR, hu, conf]; cases k <;> rfl, by simp only [WF]; exact hw, rfl, rfl, hc.symm, by rw [hc]; rfl, by simp only [BC, hu]; rfl, fun j q u hq hu' => ?_⟩
   cases j with
   | zero => simp [flat] at hq hu'; subst hq; subst hu'; exact .int k n
   | succ j => simp [flat] at hq
  ·rename_i hu
   have hc := Nat.eq_of_beq_eq_true hok
   obtain ⟨s, rfl, _, hs⟩ := DataW.trod_string hu h
   refine ⟨.str s, by simp only [BR, hu]; rfl, trivial, rfl, rfl, hc.symm, by rw [hc]; rfl, by simp only [BC, hu]; rfl, fun j q u hq hu' => ?_⟩
   cases j with
   | zero => simp [flat] at hq hu'; subst hq; subst hu'; exact .str s hs
   | succ j => simp [flat] at hq
  ·rename_i fs hu
   simp only [Bool.and_eq_true, List.all_eq_true] at hok
   simp only [DataW.trod, hu] at h
   split at h
   ·rename_i hl
    simp only [Option.map_eq_some_iff] at h
    obtain ⟨xs, hxs, _⟩ := h
    obtain ⟨ps, g1, g2, g3, g4, g5, g6⟩ := G5 (P := P) (w := w) (T := fun b _ => b < w.heap.size) (d := d) hl hok.1 (fun f hf => ⟨hok.2 f hf, by
     obtain ⟨y, hy⟩ := JC hxs f hf
     exact EJ d f.type fuel _ y (hok.2 f hf) hy⟩)
    refine ⟨.st (P.cellsOf t) ps, by simp only [BR, hu, conf, Bool.and_eq_true]; exact ⟨Nat.beq_refl _, g1⟩, by simp only [WF]; exact ⟨by omega, g2⟩, by simp only [noref]; exact g3, by simp only [untup]; exact g4, rfl, hl, by simp only [BC, hu]; rfl, fun j q u hq hu' => ?_⟩
    simp only [flat] at hq
    exact g6 j q u hq (by rw [Nat.zero_add]; exact hu')
   ·cases h
  ·rename_i n e hu
   simp only [Bool.and_eq_true] at hok
   have hc := Nat.eq_of_beq_eq_true hok.1.1
   simp only [DataW.trod, hu] at h
   split at h
   ·rename_i hl
    simp only [Option.map_eq_some_iff] at h
    obtain ⟨xs, hxs, _⟩ := h
    exact Mi hu hc hok.2 (hsz e hok.1.2) hl fun i hi => by
     obtain ⟨y, hy⟩ := JC hxs i (by simpa using hi)
     exact EJ d e fuel _ y hok.2 hy
   ·cases h
  ·rename_i e hu
   simp only [Bool.and_eq_true] at hok
   have hc := Nat.eq_of_beq_eq_true hok.1.1
   have hpos := hsz e hok.1.2
   have hone : ∀ (v : Value) (c : PV) (nl : Bool), cs = [v] → WF (.vec nl c) → Pe.conf (BR P (d + 1) t) (.vec nl c) = true → RC w (fun b _ => b < w.heap.size) v (.vec nl c) → ∃ p, IG P w (fun b _ => b < w.heap.size) (d + 1) t cs p := by
    rintro v c nl rfl h1 h2 h3
    refine ⟨.vec nl c, h2, h1, rfl, rfl, hc.symm, by rw [hc]; rfl, by simp only [BC, hu]; rfl, fun j q u hq hu' => ?_⟩
    cases j with
    | zero => simp [flat] at hq hu'; subst hq; subst hu'; exact h3
    | succ j => simp [flat] at hq
   have hshape : ∀ l : List PV, ∀ nl, Pe.conf (BR P (d + 1) t) (.vec nl (BV P d e l)) = true := by
    intro l nl
    obtain ⟨d', rfl⟩ : ∃ d', d = d' + 1 := by cases d with
     | zero => simp [okT] at hok
     | succ d => exact ⟨d, rfl⟩
    have hsh : BR P (d' + 1 + 1) t = .vec (P.cellsOf e) (BR P (d' + 1) e) := Oh hu
    rw [hsh]
    by_cases hk : ∃ k, P.underlying e = some (.int k)
    ·obtain ⟨k, hk⟩ := hk
     have : BV P (d' + 1) e l = .iarr k l.length (l.map PV.num) := by simp only [BV, hk]
     rw [this, M9 hk]
     simp only [Pe.conf]
     exact Ci k
    ·have : BV P (d' + 1) e l = .parr (P.cellsOf e) l.length (BR P (d' + 1) e) l := by
      unfold BV
      split
      ·rename_i k hk'; exact absurd ⟨k, hk'⟩ hk
      ·rfl
     rw [this]
     have hni : Sh.isInt (BR P (d' + 1) e) = false := by
      cases he : P.underlying e with
      | none => simp only [BR, he, Sh.isInt]
      | some dsc => cases dsc with
       | int k => exact absurd ⟨k, he⟩ hk
       | array n e' =>
        simp only [BR, he]
        split <;> rfl
       | _ => simp only [BR, he, Sh.isInt]
     cases hs2 : BR P (d' + 1) e with
     | int k => rw [hs2] at hni; simp [Sh.isInt] at hni
     | _ => simp only [Pe.conf, Bool.and_eq_true, Sh.isInt, Bool.not_false, true_and]; exact ⟨Nat.beq_refl _, beq_refl _⟩
   rcases DataW.trod_slice hu h with ⟨hx, _⟩ | ⟨a, len, cap, elems, rest, n, hf, hx, _, _, h1, h2, h3, h4, _⟩
   ·obtain ⟨a1, a2, a3, _⟩ := Gu (P := P) (d := d) (e := e) (l := []) hok.2 (fun q hq => by cases hq)
    exact hone _ (BV P d e []) true hx (by simp only [WF]; exact ⟨a1, a2, fun _ => a3⟩) (hshape [] true) (.vec0 _ _ _ _ a3 rfl (fun _ => rfl))
   ·have hfu : n = fuel := by omega
    subst hfu
    have hex : ∀ i, ∃ p, i < len → ∃ cs', w.cells? base (a.add (i * P.cellsOf e)) (P.cellsOf e) = some cs' ∧ IG P w (fun b _ => b < w.heap.size) d e cs' p := fun i => by
     by_cases hi : i < len
     ·have := h4 i hi
      rw [List.getElem?_eq_getElem (by omega), Option.bind_eq_some_iff] at this
      obtain ⟨cs', c1, c2⟩ := this
      obtain ⟨p, hp⟩ := EJ d e n cs' _ hok.2 c2
      exact ⟨p, fun _ => ⟨cs', c1, hp⟩⟩
     ·exact ⟨.undef, fun h => absurd h hi⟩
    obtain ⟨f, hf⟩ := Classical.axiomOfChoice hex
    have hmem : ∀ q ∈ (List.range len).map f, Pe.conf (BR P d e) q = true ∧ WF q ∧ Pe.noref q = true ∧ Pe.untup q = true ∧ Pe.size q = P.cellsOf e := by
     intro q hq
     obtain ⟨i, hi, rfl⟩ := List.mem_map.1 hq
     obtain ⟨cs', _, hp⟩ := hf i (by simpa using hi)
     exact ⟨hp.conf, hp.wf, hp.noref, hp.untup, hp.size⟩
    obtain ⟨a1, a2, a3, a4, a5, a6, a7⟩ := Gu hok.2 hmem
    have hlen : ((List.range len).map f).length = len := by simp
    rw [hlen] at a3
    rcases Nat.eq_zero_or_pos len with h0 | h0
    ·subst h0
     exact hone _ (BV P d e ((List.range 0).map f)) false hx (by simp only [WF]; exact ⟨a1, a2, fun e => by cases e⟩) (hshape _ false) (.vec0 _ _ _ _ a3 rfl (fun e => by cases e))
    ·have hsp : a.spot = none := by
      obtain ⟨cs', c1, hp⟩ := hf 0 h0
      obtain ⟨e1, e2⟩ := IB c1
      have := e2 0 cs'[0] (List.getElem?_eq_getElem (by omega))
      unfold World.cell? at this
      split at this
      ·split at this
       ·cases this
       ·rename_i hs
        simpa [Addr.add] using hs
      ·cases this
     obtain ⟨bk, o, sp⟩ := a
     simp only at hsp
     subst hsp
     have hcell : ∀ j, ∃ u, ∀ q, (flat (BV P d e ((List.range len).map f)))[j]? = some q → w.cell? ⟨bk, o + j, none⟩ = some u ∧ RC w (fun b _ => b < w.heap.size) u q := by
      intro j
      cases hj : (flat (BV P d e ((List.range len).map f)))[j]? with
      | none => exact ⟨Go.undef, fun q hq => by cases hq⟩
      | some q =>
       rw [a6] at hj
       obtain ⟨p, p1, p2⟩ := Ie hpos (BK fun q hq => (hmem q hq).2.1) (fun q hq => (hmem q hq).2.2.2.2) hj
       have hjn : j / P.cellsOf e < len := by have := (List.getElem?_eq_some_iff.1 p1).1; simpa using this
       have hp : p = f (j / P.cellsOf e) := by simp [hjn] at p1; exact p1.symm
       subst hp
       obtain ⟨cs', c1, hp⟩ := hf _ hjn
       obtain ⟨e1, e2⟩ := IB c1
       have hm : j % P.cellsOf e < cs'.length := by rw [e1]; exact Nat.mod_lt _ hpos
       refine ⟨cs'[j % P.cellsOf e], fun q' hq' => ?_⟩
       cases hq'
       refine ⟨?_, hp.rel _ q _ p2 (List.getElem?_eq_getElem hm)⟩
       have := e2 _ _ (List.getElem?_eq_getElem hm)
       rw [Bf, Bf] at this
       rw [← this]
       congr 2
       rw [Nat.add_assoc, Nat.mul_comm, Nat.div_add_mod]
     obtain ⟨us, hus⟩ := Classical.axiomOfChoice hcell
     exact hone _ (BV P d e ((List.range len).map f)) false hx (by simp only [WF]; exact ⟨a1, a2, fun e => by cases e⟩) (hshape _ false)
      (.vec1 _ _ _ _ _ us a3 h1 h2 (fun j q hq => ⟨DJ (hus j q hq).1, (hus j q hq).1⟩) (fun j q hq => (hus j q hq).2))
  ·cases hok
end
end Go.Pe
namespace Go.Pe
open Go.ChangeShapes Go.WideShapes Go.ChangeAt Go.RowKit
section
variable {H : Type} {enc : TypeId × Value → H} {P : Program}
theorem Ns {f : Func} {s : ChangeSpec} {apart fresh handsOn again : Bool} {W W' : World} {args : Array Value} {v : Value} {ds gs : List (DataW H)} {before pa pv : List MemPlace}
  (hW : DataW.Whole enc P f.params.toList s.vars apart W args.toList ds gs before)
  (hres : ∀ (b : Nat) (sp : Nat → Bool) (hd : Bool), DataW.TrodAll enc P W' b sp hd f.resultTypes.toList (v.resultList f.resultTypes.size) (s.fn H (ds ++ gs)).results [])
  (hargs : ∀ sp : Nat → Bool, (∀ p ∈ before, sp p.block = true) → DataW.TrodAll enc P W' 0 sp true f.params.toList args.toList (s.fn H (ds ++ gs)).args pa)
  (hvars : ∀ sp : Nat → Bool, (∀ p ∈ before, sp p.block = true) → DataW.TrodVars enc P W' sp s.vars (s.fn H (ds ++ gs)).vars pv)
  (hps : before = pa ++ pv) (hb : Below W.heap.size W W')
  (hok : ∀ (j : Nat) (t : TypeId) (r : Value), f.resultTypes[j]? = some t → (v.resultList f.resultTypes.size)[j]? = some r → Value.okWide P W' .any 0 t r) :
  s.post enc P f apart fresh handsOn again W args v W' := by
 have hlt : ∀ p ∈ before, p.block < W.heap.size := fun p hp => hW.lt p hp
 have hold : ∀ p ∈ before, (fun b => decide (b < W.heap.size)) p.block = true := fun p hp => by simpa using hlt p hp
 refine ⟨ds, gs, before, [], pa, pv, hW, hres _ _ _, hargs _ hold, hvars _ hold, World.keptBut_mono (fun p hp => ⟨hp, ?_⟩) (hb.frame (· ∈ before)), fun _ => ?_⟩
 ·rw [hps, List.mem_append] at hp
  exact Or.inr hp
 ·obtain ⟨_, _, _, _, _, hz, hn⟩ := hW
  refine ⟨hok, _, _, ([] ++ pa) ++ pv, ⟨[] ++ pa, pv, trodAll_append (hargs _ (fun _ _ => rfl)) (hres _ _ _), hvars _ (fun _ _ => rfl), rfl, ?_, ?_⟩, ?_⟩
  ·intro b off hp
   have hin : MemPlace.cell b off ∈ before := by rw [hps]; simpa using hp
   rw [hb.frozen (hlt _ hin)]
   exact hz b off hin
  ·intro ha
   have := hn ha
   rw [hps] at this
   simpa using this
  ·intro p hp _
   rw [hps]
   simpa using hp
theorem F8 (hl : laidOutB P = true) {W W' : World} (hb : Below W.heap.size W W') {sp : Nat → Bool} : ∀ {ts : List TypeId} {vs : List Value} {ds : List (DataW H)} {ps : List MemPlace}, (∀ t ∈ ts, P.readableRec t = true ∧ t < P.types.size) →
  DataW.TrodAll enc P W 0 (fun _ => true) true ts vs ds ps → (∀ p ∈ ps, sp p.block = true) → DataW.TrodAll enc P W' 0 sp true ts vs ds ps
 | [], [], [], _, _, h, _ => h
 | t :: ts, v :: vs, d :: ds, ps, ht, h, hs => by
  have hlt := h.lt
  obtain ⟨p, q, h1, h2, rfl⟩ := h
  exact ⟨p, q, WideElems.Trod_stays hl (ht t (by simp)).1 (ht t (by simp)).2 h1 (fun x hx => hb.same (hlt x (by simp [hx]))) (fun x hx => hs x (by simp [hx])),
   F8 hl hb (fun t ht' => ht t (by simp [ht'])) h2 (fun x hx => hs x (by simp [hx])), rfl⟩
 | [], _ :: _, _, _, _, h, _ => by simp [DataW.TrodAll] at h
 | [], [], _ :: _, _, _, h, _ => by simp [DataW.TrodAll] at h
 | _ :: _, [], _, _, _, h, _ => by simp [DataW.TrodAll] at h
 | _ :: _, _ :: _, [], _, _, h, _ => by simp [DataW.TrodAll] at h
structure Ins (P : Program) (ts : List TypeId) (ps : List PV) : Prop where
 conf : ES (ts.map (BR P 9)) ps = true
 wf : WFL ps
 untup : Bl ps = true
theorem Ql {W : World} {base : Nat} {t : TypeId} {v : Value} {p : PV} (hv : Value.okWide P W .any base t v) (h : IG P W (fun b _ => b < W.heap.size) 9 t v.cells.toList p) : RV W (fun b _ => b < W.heap.size) (fun _ => none) v p := by
 have hnt : ∀ vs, p ≠ .tup vs := fun vs e => by have := h.untup; subst e; simp [Pe.untup] at this
 cases ha : Pe.isAgg p with
 | true =>
  have hat : BC P t = true := by rw [← h.agg]; exact ha
  have : ∃ cs, v = .agg cs := by
   unfold BC at hat
   unfold Value.okWide at hv
   split at hat
   ·rename_i fs hu
    rw [hu] at hv
    obtain ⟨cs, hc, _⟩ := hv
    exact ⟨cs, hc⟩
   ·rename_i n e hu
    rw [hu] at hv
    obtain ⟨cs, hc, _⟩ := hv
    exact ⟨cs, hc⟩
   ·cases hat
  obtain ⟨cs, rfl⟩ := this
  refine RV.Ht ha h.wf ⟨cs, rfl, ?_, fun j q u hq hu => RO.Bo (h.rel j q u hq ?_)⟩
  ·have := h.len
   simp only [Value.cells, Array.length_toList] at this
   rw [this, h.size]
  ·simpa [Value.cells] using hu
 | false =>
  have hl : Pe.leaf p = true := by rw [Pe.leaf_agg, ha]; rfl
  have hone : v.cells = #[v] := by
   have hnagg : ∀ cs, v ≠ .agg cs := by
    rintro cs rfl
    have hat : BC P t = false := by rw [← h.agg]; exact ha
    unfold Value.okWide at hv
    unfold BC at hat
    split at hv
    ·rename_i fs hu; rw [hu] at hat; cases hat
    ·rename_i n e hu; rw [hu] at hat; cases hat
    ·unfold Cell.okWide at hv
     split at hv <;> simp_all [Cell.ok]
   cases v <;> first | rfl | exact absurd rfl (hnagg _)
  refine RV.Aw hl hnt h.wf (RO.Bo (h.rel 0 p v (by rw [Ei hl]; rfl) (by rw [hone]; rfl)))
theorem RZ {W : World} {base : Nat} : ∀ {ts : List TypeId} {vs : List Value} {ds : List (DataW H)} {ps : List MemPlace}, (∀ t ∈ ts, okT P 9 t = true) → (∀ (j : Nat) t v, ts[j]? = some t → vs[j]? = some v → Value.okWide P W .any base t v) →
  DataW.TrodAll enc P W 0 (fun _ => true) true ts vs ds ps → ∃ qs, Ins P ts qs ∧ qs.length = vs.length ∧ ∀ (j : Nat) (p : PV) (v : Value), qs[j]? = some p → vs[j]? = some v → RV W (fun b _ => b < W.heap.size) (fun _ => none) v p
 | [], [], [], _, _, _, _ => ⟨[], ⟨rfl, by simp [WFL], rfl⟩, rfl, fun j p v hp => by simp at hp⟩
 | t :: ts, v :: vs, d :: ds, ps, ht, hv, h => by
  obtain ⟨p, q, ⟨fuel, h1⟩, h2, rfl⟩ := h
  obtain ⟨x, hx⟩ := EJ 9 t fuel _ _ (ht t (by simp)) h1
  obtain ⟨qs, g1, g2, g3⟩ := RZ (fun t' h' => ht t' (by simp [h'])) (fun j t' v' hj hj' => hv (j + 1) t' v' (by simpa using hj) (by simpa using hj')) h2
  refine ⟨x :: qs, ⟨by simp only [List.map_cons, ES, Bool.and_eq_true]; exact ⟨hx.conf, g1.conf⟩, by simp only [WFL]; exact ⟨hx.wf, g1.wf⟩, by simp only [Bl, Bool.and_eq_true]; exact ⟨hx.untup, g1.untup⟩⟩, by simp [g2], fun j p' v' hp hv' => ?_⟩
  cases j with
  | zero =>
   simp at hp hv'
   subst hp; subst hv'
   exact Ql (hv 0 t v rfl rfl) hx
  | succ j => simp at hp hv'; exact g3 j p' v' hp hv'
 | [], _ :: _, _, _, _, _, h => by simp [DataW.TrodAll] at h
 | [], [], _ :: _, _, _, _, h => by simp [DataW.TrodAll] at h
 | _ :: _, [], _, _, _, _, h => by simp [DataW.TrodAll] at h
 | _ :: _, _ :: _, [], _, _, _, h => by simp [DataW.TrodAll] at h
theorem MB {w w' : World} {M : T2} (hM : ∀ b o, ¬ M b o) (h : FR M w w') : Below w.heap.size w w' := by
 refine ⟨h.os, h.tape, h.output, h.size, fun k hk => ?_⟩
 rcases h.block k hk with e | ⟨_, _, _, _, _, _, m3⟩ | ⟨cs, cs', t, fz, e1, e2, e3, e4⟩
 ·exact e.symm
 ·exact absurd m3 (hM k 0)
 ·rw [e1, e2]
  have : cs' = cs := by
   apply Array.ext_getElem?
   intro i
   exact e4 i (hM k i)
  rw [this]
theorem law_calls {f : FuncId} {fn : Func} {s : ChangeSpec} {apart fresh handsOn again : Bool} {tb : TypeId} (hl : laidOutB P = true) (hvars : s.vars = []) (hr : fn.resultTypes = #[tb]) (hb : P.underlying tb = some .bool)
  (hbody : K8 P f) (hspec : ∀ ds : List (DataW H), ds.length = fn.params.toList.length → s.fn H ds = { results := [.lit (.bool true)], args := ds })
  (ht : fn.params.toList.all (fun t => okT P 9 t && P.readableRec t && Nat.blt t P.types.size) = true)
  (hpc : ∀ ps, Ins P fn.params.toList ps → PC P (fun _ => none) f [] ps [] (.bool true))
  {W : World} {base : Nat} {args : Array Value} {ds gs : List (DataW H)} {before : List MemPlace}
  (hval : ∀ (j : Nat) t v, fn.params[j]? = some t → args[j]? = some v → Value.okWide P W .any base t v)
  (hW : DataW.Whole enc P fn.params.toList s.vars apart W args.toList ds gs before) :
  Calls P f args W fun e W' => ∃ v, e = .returned v ∧ s.post enc P fn apart fresh handsOn again W args v W' := by
 have ht' : ∀ t ∈ fn.params.toList, okT P 9 t = true ∧ P.readableRec t = true ∧ t < P.types.size := by
  intro t h
  have := List.all_eq_true.1 ht t h
  simp only [Bool.and_eq_true] at this
  exact ⟨this.1.1, this.1.2, Nat.blt_eq ▸ this.2⟩
 have hW' := hW
 obtain ⟨p, q, hA, hV, rfl, hz, hn⟩ := hW
 rw [hvars] at hV
 obtain ⟨rfl, rfl⟩ := trodVars_none hV
 obtain ⟨l1, l2⟩ := trodAll_length hA
 obtain ⟨qs, g1, g2, g3⟩ := RZ (base := base) (fun t h => (ht' t h).1) (fun j t v h1 h2 => hval j t v (by rw [← Array.getElem?_toList]; exact h1) (by rw [← Array.getElem?_toList]; exact h2)) hA
 have hM : ∀ b o, ¬ Mut (fun _ => none) (Ad ([] : List (Nat × Row))) b o := by
  rintro b o ⟨i, r, pl, h1, _⟩
  simp [Ad] at h1
 have hc := hpc qs g1
 refine Calls.mono (Enters.calls hbody (hc (fun b _ => b < W.heap.size) (fun _ => none) W args (fun b o _ => hM b o) ⟨fun i r hi => by simp [Ad] at hi, fun i i' r r' pl pl' _ h1 => by simp [Ad] at h1⟩ (fun _ _ => rfl) (fun g c hg => by cases hg)
  (by rw [g2]; simp) (fun j p v hp hv _ => g3 j p v hp (by rw [Array.getElem?_toList]; exact hv)))) fun e W' he => ?_
 obtain ⟨v, ρ', rfl, r1, _, _, r4, _⟩ := he
 have hvb : v = .bool true := by
  have := r1.AR rfl (fun _ e => by cases e)
  simp only [RO] at this
  cases this
  rfl
 subst hvb
 have hbel := MB hM r4
 have hsp := hspec ds l2
 refine ⟨_, rfl, Ns (pa := p) (pv := []) hW' ?_ ?_ ?_ (by simp) hbel ?_⟩
 ·intro b sp hd
  rw [List.append_nil, hsp, hr]
  exact trodAll_mk1 (shut_bool hb true)
 ·intro sp hs
  rw [List.append_nil, hsp]
  exact F8 hl hbel (fun t h => (ht' t h).2) hA (fun x hx => hs x (by simp [hx]))
 ·intro sp hs
  rw [List.append_nil, hsp, hvars]
  rfl
 ·rw [hr]
  exact ok_one (f := { fn with resultTypes := #[tb] }) rfl rfl (okWide_bool_mk hb true)
end
end Go.Pe
