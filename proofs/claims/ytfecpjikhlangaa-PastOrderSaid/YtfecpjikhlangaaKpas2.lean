/- Times: what the reference computes; whether a time is after others, or too far ahead. Conditions: as each statement says. -/
import Derived.Test.YtfecpjikhlangaaKpast
namespace Go.Proofs
open Go Go.Pe Go.Pm
set_option maxRecDepth 100000
theorem pc_after0 {nl : Bool} (t : Int) : PC Try.prog G0 14 [] [.vec nl (.iarr .u32 0 []), .int .u32 t] [] (.bool true) := by
  refine PC.of (fn := Try.f14) (c := bodyOf Try.f14) Try.func14 (by kernel_rfl) (by kernel_rfl) (by kernel_rfl) (by kernel_rfl) ?_
  refine W.ret [] [] [PV.bool true = PV.bool true] (by kernel_rfl) (ao (by with_reducible rfl))
theorem pc_after1 {nl : Bool} {n : Nat} {l : List Int} (t : Int) (hn : n = l.length) (h0 : 0 < n) (hl : n < 1000) (hnl : nl = true → l = []) : PC Try.prog G0 14 [] [.vec nl (.iarr .u32 n l), .int .u32 t] [] (.bool (decide (t > medianM l))) := by
  refine PC.of (fn := Try.f14) (c := bodyOf Try.f14) Try.func14 (by kernel_rfl) (by kernel_rfl) (by kernel_rfl) (by kernel_rfl) ?_
  have := @pc_median nl n l hn hl hnl
  refine W.ret [((3 : Nat), Ans.dec false), ((7 : Nat), Ans.call true [] [] (PV.int IntKind.u32 (medianM l)))] [] [((↑n : Int) == (0 : Int)) = false, PC Try.prog G0 (11 : Nat) [] [PV.vec nl (PV.iarr IntKind.u32 n l)] [] (PV.int IntKind.u32 (medianM l)), PV.bool (decide (t > medianM l)) = PV.bool (decide (t > medianM l))] (by kernel_rfl) (ac (by exact decide_eq_false (by omega)) (ac (by exact this) (ao (by with_reducible rfl))))
def afterM (l : List Int) (t : Int) : Bool := decide (l = [] ∨ t > medianM l)
theorem pc_after {nl : Bool} {n : Nat} {l : List Int} (t : Int) (hn : n = l.length) (hl : n < 1000) (hnl : nl = true → l = []) : PC Try.prog G0 14 [] [.vec nl (.iarr .u32 n l), .int .u32 t] [] (.bool (afterM l t)) := by
  unfold afterM
  by_cases h0 : l = []
  · subst h0; subst hn; simpa using pc_after0 t
  · have := pc_after1 (nl := nl) t hn (by have := List.length_pos_iff.2 h0; omega) hl hnl
    simpa [h0] using this
theorem pc_last {nl : Bool} {n : Nat} {l : List Int} (hn : n = l.length) (hl : n < 1000) : PC Try.prog G0 29 [] [.vec nl (.iarr .u32 n l)] [] (.vec nl (.iarr .u32 (lastU l).length (lastU l))) := by
  refine PC.of (fn := Try.f29) (c := bodyOf Try.f29) Try.func29 (by kernel_rfl) (by kernel_rfl) (by kernel_rfl) (by kernel_rfl) ?_
  subst hn
  by_cases h : l.length > 11
  · have e1 : ((l.length : Int) - 11).toNat = l.length - 11 := by omega
    have e2 : ((l.length : Int) - ((l.length : Int) - 11)).toNat = (lastU l).length := by simp [lastU]; omega
    have e3 : PV.vec nl (PV.iarr IntKind.u32 ((l.length : Int) - ((l.length : Int) - 11)).toNat (List.take ((l.length : Int) - ((l.length : Int) - 11)).toNat (drop0 l ((l.length : Int) - 11).toNat))) = PV.vec nl (PV.iarr IntKind.u32 (lastU l).length (lastU l)) := by
      rw [e2, e1, drop0_eq]
      congr 2
      exact List.take_of_length_le (by simp [lastU])
    refine W.ret [((3 : Nat), Ans.dec true), ((7 : Nat), Ans.val (PV.int IntKind.i64 ((↑(List.length l) : Int) - (11 : Int)))), ((8 : Nat), Ans.val (PV.vec nl (PV.iarr IntKind.u32 (List.length (lastU l)) (lastU l))))] [] [decide ((↑(List.length l) : Int) > (11 : Int)) = true, PV.int IntKind.i64 (IntKind.wrap IntKind.i64 ((↑(List.length l) : Int) - (11 : Int))) = PV.int IntKind.i64 ((↑(List.length l) : Int) - (11 : Int)), PV.vec nl (PV.iarr IntKind.u32 (Int.toNat ((↑(List.length l) : Int) - ((↑(List.length l) : Int) - (11 : Int)))) (List.take (Int.toNat ((↑(List.length l) : Int) - ((↑(List.length l) : Int) - (11 : Int)))) (drop0 l (Int.toNat ((↑(List.length l) : Int) - (11 : Int)))))) = PV.vec nl (PV.iarr IntKind.u32 (List.length (lastU l)) (lastU l)), (0 : Int) ≤ (↑(List.length l) : Int) - (11 : Int), (↑(List.length l) : Int) - (11 : Int) ≤ (↑(List.length l) : Int), (↑(List.length l) : Int) ≤ (↑(List.length l) : Int), PV.vec nl (PV.iarr IntKind.u32 (List.length (lastU l)) (lastU l)) = PV.vec nl (PV.iarr IntKind.u32 (List.length (lastU l)) (lastU l))] (by kernel_rfl) (ac (by exact decide_eq_true (by omega)) (ac (by exact congrArg (PV.int _) (w_i64 rfl (by omega) (by omega))) (ac (by omega) (ac (by omega) (ac (by omega) (ac (by omega) (ao (by with_reducible rfl))))))))
  · have e : lastU l = l := by
      unfold lastU
      rw [show l.length - 11 = 0 by omega]; rfl
    rw [e]
    refine W.ret [((3 : Nat), Ans.dec false)] [] [decide ((↑(List.length l) : Int) > (11 : Int)) = false, PV.vec nl (PV.iarr IntKind.u32 (List.length l) l) = PV.vec nl (PV.iarr IntKind.u32 (List.length l) l)] (by kernel_rfl) (ac (by exact decide_eq_false (by omega)) (ao (by with_reducible rfl)))
def dsIs (nl : Bool) (m : Int) (n : Nat) (l : List Int) (a b i : Nat) : DS := ⟨[(0, .int .u32 m), (1, .vec nl (.iarr .u32 n l)), (5, .int .i64 a), (6, .int .i64 b), (7, .int .i64 i)], []⟩
theorem cnt_step (p : Int → Bool) (l : List Int) {i : Nat} (h : i < l.length) : (l.drop i).countP p = (l.drop (i + 1)).countP p + if p (l.getD i 0) = true then 1 else 0 := by
  rw [List.drop_eq_getElem_cons h, List.countP_cons]
  simp [List.getD_eq_getElem?_getD, h]
theorem W_is {nl : Bool} {m : Int} {n : Nat} {l : List Int} (hn : n = l.length) (h0 : 0 < n) (hl : n < 1000) : ∀ (k i a b : Nat), i + k = n → a + lt m (l.drop i) = lt m l → b + eqs m (l.drop i) = eqs m l →
    W Try.prog G0 Try.f12 [] [] (.bool (isM m l)) (loopAt Try.f12 0) (dsIs nl m n l a b i)
  | 0, i, a, b, hk, ha, hb => by
    have hd : l.drop i = [] := List.drop_eq_nil_of_le (by omega)
    rw [hd] at ha hb
    have la : lt m l ≤ l.length := List.countP_le_length
    have lb : eqs m l ≤ l.length := List.countP_le_length
    simp only [lt, eqs, List.countP_nil, Nat.add_zero] at ha hb
    have hne : l ≠ [] := by rintro rfl; simp at hn; omega
    have hq : (n : Int).tdiv 2 = ((n / 2 : Nat) : Int) := by rw [Int.tdiv_eq_ediv_of_nonneg (by omega)]; omega
    have hM : isM m l = (decide (a ≤ n / 2) && (decide (n / 2 < a + b) && decide (0 < b))) := by
      unfold isM lt eqs
      rw [if_neg hne, ← ha, ← hb, hn]
    rw [hM]
    unfold lt at la
    unfold eqs at lb
    by_cases c1 : a ≤ n / 2
    · by_cases c2 : n / 2 < a + b
      · have c3 : 0 < b := by omega
        refine W.ret [((3 : Nat), Ans.dec false), ((7 : Nat), Ans.val (PV.int IntKind.i64 (↑(n / (2 : Nat)) : Int))), ((8 : Nat), Ans.dec true), ((12 : Nat), Ans.val (PV.int IntKind.i64 (↑(a + b) : Int))), ((15 : Nat), Ans.val (PV.int IntKind.i64 (↑(n / (2 : Nat)) : Int))), ((16 : Nat), Ans.dec true), ((20 : Nat), Ans.dec true)] [] [decide ((↑i : Int) < (↑n : Int)) = false, PV.int IntKind.i64 (IntKind.wrap IntKind.i64 (Int.tdiv (↑n : Int) (2 : Int))) = PV.int IntKind.i64 (↑(n / (2 : Nat)) : Int), (2 : Int) ≠ (0 : Int), decide ((↑a : Int) ≤ (↑(n / (2 : Nat)) : Int)) = true, PV.int IntKind.i64 (IntKind.wrap IntKind.i64 ((↑a : Int) + (↑b : Int))) = PV.int IntKind.i64 (↑(a + b) : Int), PV.int IntKind.i64 (IntKind.wrap IntKind.i64 (Int.tdiv (↑n : Int) (2 : Int))) = PV.int IntKind.i64 (↑(n / (2 : Nat)) : Int), (2 : Int) ≠ (0 : Int), decide ((↑(a + b) : Int) > (↑(n / (2 : Nat)) : Int)) = true, decide ((↑b : Int) > (0 : Int)) = true, PV.bool true = PV.bool (decide (a ≤ n / (2 : Nat)) && (decide (n / (2 : Nat) < a + b) && decide ((0 : Nat) < b)))] (by kernel_rfl) (ac (by exact decide_eq_false (by omega)) (ac (by exact congrArg (PV.int _) (w_i64 rfl (by omega) (by omega))) (ac (by omega) (ac (by exact decide_eq_true (by omega)) (ac (by exact congrArg (PV.int _) (w_i64 rfl (by omega) (by omega))) (ac (by exact congrArg (PV.int _) (w_i64 rfl (by omega) (by omega))) (ac (by omega) (ac (by exact decide_eq_true (by omega)) (ac (by exact decide_eq_true (by omega)) (ao (by (simp; omega))))))))))))
      · refine W.ret [((3 : Nat), Ans.dec false), ((7 : Nat), Ans.val (PV.int IntKind.i64 (↑(n / (2 : Nat)) : Int))), ((8 : Nat), Ans.dec true), ((12 : Nat), Ans.val (PV.int IntKind.i64 (↑(a + b) : Int))), ((15 : Nat), Ans.val (PV.int IntKind.i64 (↑(n / (2 : Nat)) : Int))), ((16 : Nat), Ans.dec false)] [] [decide ((↑i : Int) < (↑n : Int)) = false, PV.int IntKind.i64 (IntKind.wrap IntKind.i64 (Int.tdiv (↑n : Int) (2 : Int))) = PV.int IntKind.i64 (↑(n / (2 : Nat)) : Int), (2 : Int) ≠ (0 : Int), decide ((↑a : Int) ≤ (↑(n / (2 : Nat)) : Int)) = true, PV.int IntKind.i64 (IntKind.wrap IntKind.i64 ((↑a : Int) + (↑b : Int))) = PV.int IntKind.i64 (↑(a + b) : Int), PV.int IntKind.i64 (IntKind.wrap IntKind.i64 (Int.tdiv (↑n : Int) (2 : Int))) = PV.int IntKind.i64 (↑(n / (2 : Nat)) : Int), (2 : Int) ≠ (0 : Int), decide ((↑(a + b) : Int) > (↑(n / (2 : Nat)) : Int)) = false, PV.bool false = PV.bool (decide (a ≤ n / (2 : Nat)) && (decide (n / (2 : Nat) < a + b) && decide ((0 : Nat) < b)))] (by kernel_rfl) (ac (by exact decide_eq_false (by omega)) (ac (by exact congrArg (PV.int _) (w_i64 rfl (by omega) (by omega))) (ac (by omega) (ac (by exact decide_eq_true (by omega)) (ac (by exact congrArg (PV.int _) (w_i64 rfl (by omega) (by omega))) (ac (by exact congrArg (PV.int _) (w_i64 rfl (by omega) (by omega))) (ac (by omega) (ac (by exact decide_eq_false (by omega)) (ao (by (simp; omega)))))))))))
    · refine W.ret [((3 : Nat), Ans.dec false), ((7 : Nat), Ans.val (PV.int IntKind.i64 (↑(n / (2 : Nat)) : Int))), ((8 : Nat), Ans.dec false)] [] [decide ((↑i : Int) < (↑n : Int)) = false, PV.int IntKind.i64 (IntKind.wrap IntKind.i64 (Int.tdiv (↑n : Int) (2 : Int))) = PV.int IntKind.i64 (↑(n / (2 : Nat)) : Int), (2 : Int) ≠ (0 : Int), decide ((↑a : Int) ≤ (↑(n / (2 : Nat)) : Int)) = false, PV.bool false = PV.bool (decide (a ≤ n / (2 : Nat)) && (decide (n / (2 : Nat) < a + b) && decide ((0 : Nat) < b)))] (by kernel_rfl) (ac (by exact decide_eq_false (by omega)) (ac (by exact congrArg (PV.int _) (w_i64 rfl (by omega) (by omega))) (ac (by omega) (ac (by exact decide_eq_false (by omega)) (ao (by (simp; omega)))))))
  | k + 1, i, a, b, hk, ha, hb => by
    have la : lt m l ≤ l.length := List.countP_le_length
    have lb : eqs m l ≤ l.length := List.countP_le_length
    have sa := cnt_step (fun x => decide (x < m)) l (i := i) (by omega)
    have sb := cnt_step (fun x => decide (x = m)) l (i := i) (by omega)
    unfold lt eqs at *
    by_cases c1 : l.getD i 0 < m
    · have c2 : ¬ l.getD i 0 = m := by omega
      rw [if_pos (by simpa using c1)] at sa
      rw [if_neg (by simpa using c2)] at sb
      refine W.seg [((3 : Nat), Ans.dec true), ((9 : Nat), Ans.dec true), ((11 : Nat), Ans.val (PV.int IntKind.i64 (↑(a + (1 : Nat)) : Int))), ((18 : Nat), Ans.dec false), ((20 : Nat), Ans.val (PV.int IntKind.i64 (↑(i + (1 : Nat)) : Int)))] [] (dsIs nl m n l (a + (1 : Nat)) b (i + (1 : Nat))) (todo' := loopAt Try.f12 (0 : Nat)) [decide ((↑i : Int) < (↑n : Int)) = true, (0 : Int) ≤ (↑i : Int), (↑i : Int) < (↑n : Int), i < n, decide (List.getD l i (0 : Int) < m) = true, PV.int IntKind.i64 (IntKind.wrap IntKind.i64 ((↑a : Int) + (1 : Int))) = PV.int IntKind.i64 (↑(a + (1 : Nat)) : Int), (0 : Int) ≤ (↑i : Int), (↑i : Int) < (↑n : Int), i < n, (List.getD l i (0 : Int) == m) = false, PV.int IntKind.i64 (IntKind.wrap IntKind.i64 ((↑i : Int) + (1 : Int))) = PV.int IntKind.i64 (↑(i + (1 : Nat)) : Int), PV.int IntKind.u32 m = PV.int IntKind.u32 m, PV.vec nl (PV.iarr IntKind.u32 n l) = PV.vec nl (PV.iarr IntKind.u32 n l), PV.int IntKind.i64 (↑(a + (1 : Nat)) : Int) = PV.int IntKind.i64 (↑(a + (1 : Nat)) : Int), PV.int IntKind.i64 (↑b : Int) = PV.int IntKind.i64 (↑b : Int), PV.int IntKind.i64 (↑(i + (1 : Nat)) : Int) = PV.int IntKind.i64 (↑(i + (1 : Nat)) : Int)] (by kernel_rfl) (ac (by exact decide_eq_true (by omega)) (ac (by omega) (ac (by omega) (ac (by omega) (ac (by exact decide_eq_true (by omega)) (ac (by exact congrArg (PV.int _) (w_i64 rfl (by omega) (by omega))) (ac (by omega) (ac (by omega) (ac (by omega) (ac (by exact decide_eq_false (by omega)) (ac (by exact congrArg (PV.int _) (w_i64 rfl (by omega) (by omega))) (ac (by with_reducible rfl) (ac (by with_reducible rfl) (ac (by with_reducible rfl) (ac (by with_reducible rfl) (ao (by with_reducible rfl))))))))))))))))) ?_
      exact W_is hn h0 hl k (i + 1) (a + 1) b (by omega) (by unfold lt; omega) (by unfold eqs; omega)
    · by_cases c2 : l.getD i 0 = m
      · rw [if_neg (by simpa using c1)] at sa
        rw [if_pos (by simpa using c2)] at sb
        refine W.seg [((3 : Nat), Ans.dec true), ((9 : Nat), Ans.dec false), ((15 : Nat), Ans.dec true), ((17 : Nat), Ans.val (PV.int IntKind.i64 (↑(b + (1 : Nat)) : Int))), ((20 : Nat), Ans.val (PV.int IntKind.i64 (↑(i + (1 : Nat)) : Int)))] [] (dsIs nl m n l a (b + (1 : Nat)) (i + (1 : Nat))) (todo' := loopAt Try.f12 (0 : Nat)) [decide ((↑i : Int) < (↑n : Int)) = true, (0 : Int) ≤ (↑i : Int), (↑i : Int) < (↑n : Int), i < n, decide (List.getD l i (0 : Int) < m) = false, (0 : Int) ≤ (↑i : Int), (↑i : Int) < (↑n : Int), i < n, (List.getD l i (0 : Int) == m) = true, PV.int IntKind.i64 (IntKind.wrap IntKind.i64 ((↑b : Int) + (1 : Int))) = PV.int IntKind.i64 (↑(b + (1 : Nat)) : Int), PV.int IntKind.i64 (IntKind.wrap IntKind.i64 ((↑i : Int) + (1 : Int))) = PV.int IntKind.i64 (↑(i + (1 : Nat)) : Int), PV.int IntKind.u32 m = PV.int IntKind.u32 m, PV.vec nl (PV.iarr IntKind.u32 n l) = PV.vec nl (PV.iarr IntKind.u32 n l), PV.int IntKind.i64 (↑a : Int) = PV.int IntKind.i64 (↑a : Int), PV.int IntKind.i64 (↑(b + (1 : Nat)) : Int) = PV.int IntKind.i64 (↑(b + (1 : Nat)) : Int), PV.int IntKind.i64 (↑(i + (1 : Nat)) : Int) = PV.int IntKind.i64 (↑(i + (1 : Nat)) : Int)] (by kernel_rfl) (ac (by exact decide_eq_true (by omega)) (ac (by omega) (ac (by omega) (ac (by omega) (ac (by exact decide_eq_false (by omega)) (ac (by omega) (ac (by omega) (ac (by omega) (ac (by exact decide_eq_true (by omega)) (ac (by exact congrArg (PV.int _) (w_i64 rfl (by omega) (by omega))) (ac (by exact congrArg (PV.int _) (w_i64 rfl (by omega) (by omega))) (ac (by with_reducible rfl) (ac (by with_reducible rfl) (ac (by with_reducible rfl) (ac (by with_reducible rfl) (ao (by with_reducible rfl))))))))))))))))) ?_
        exact W_is hn h0 hl k (i + 1) a (b + 1) (by omega) (by unfold lt; omega) (by unfold eqs; omega)
      · rw [if_neg (by simpa using c1)] at sa
        rw [if_neg (by simpa using c2)] at sb
        refine W.seg [((3 : Nat), Ans.dec true), ((9 : Nat), Ans.dec false), ((15 : Nat), Ans.dec false), ((17 : Nat), Ans.val (PV.int IntKind.i64 (↑(i + (1 : Nat)) : Int)))] [] (dsIs nl m n l a b (i + (1 : Nat))) (todo' := loopAt Try.f12 (0 : Nat)) [decide ((↑i : Int) < (↑n : Int)) = true, (0 : Int) ≤ (↑i : Int), (↑i : Int) < (↑n : Int), i < n, decide (List.getD l i (0 : Int) < m) = false, (0 : Int) ≤ (↑i : Int), (↑i : Int) < (↑n : Int), i < n, (List.getD l i (0 : Int) == m) = false, PV.int IntKind.i64 (IntKind.wrap IntKind.i64 ((↑i : Int) + (1 : Int))) = PV.int IntKind.i64 (↑(i + (1 : Nat)) : Int), PV.int IntKind.u32 m = PV.int IntKind.u32 m, PV.vec nl (PV.iarr IntKind.u32 n l) = PV.vec nl (PV.iarr IntKind.u32 n l), PV.int IntKind.i64 (↑a : Int) = PV.int IntKind.i64 (↑a : Int), PV.int IntKind.i64 (↑b : Int) = PV.int IntKind.i64 (↑b : Int), PV.int IntKind.i64 (↑(i + (1 : Nat)) : Int) = PV.int IntKind.i64 (↑(i + (1 : Nat)) : Int)] (by kernel_rfl) (ac (by exact decide_eq_true (by omega)) (ac (by omega) (ac (by omega) (ac (by omega) (ac (by exact decide_eq_false (by omega)) (ac (by omega) (ac (by omega) (ac (by omega) (ac (by exact decide_eq_false (by omega)) (ac (by exact congrArg (PV.int _) (w_i64 rfl (by omega) (by omega))) (ac (by with_reducible rfl) (ac (by with_reducible rfl) (ac (by with_reducible rfl) (ac (by with_reducible rfl) (ao (by with_reducible rfl)))))))))))))))) ?_
        exact W_is hn h0 hl k (i + 1) a b (by omega) (by unfold lt; omega) (by unfold eqs; omega)
theorem pc_is {nl : Bool} {m : Int} {n : Nat} {l : List Int} (hn : n = l.length) (hl : n < 1000) : PC Try.prog G0 12 [] [.int .u32 m, .vec nl (.iarr .u32 n l)] [] (.bool (isM m (lastU l))) := by
  refine PC.of (fn := Try.f12) (c := bodyOf Try.f12) Try.func12 (by kernel_rfl) (by kernel_rfl) (by kernel_rfl) (by kernel_rfl) ?_
  have hlen : (lastU l).length ≤ n := by simp [lastU]; omega
  have hp := pc_last (nl := nl) hn hl
  by_cases h0 : lastU l = []
  · rw [h0] at hp ⊢
    have : isM m [] = decide (m = 0) := rfl
    rw [this]
    have hb : decide (m = 0) = (m == 0) := by rw [Bool.eq_iff_iff]; simp
    rw [hb]
    simp only [List.length_nil] at hp
    refine W.ret [((2 : Nat), Ans.call true [] [] (PV.vec nl (PV.iarr IntKind.u32 (0 : Nat) [])))] [] [PC Try.prog G0 (29 : Nat) [] [PV.vec nl (PV.iarr IntKind.u32 n l)] [] (PV.vec nl (PV.iarr IntKind.u32 (0 : Nat) [])), PV.bool (m == (0 : Int)) = PV.bool (m == (0 : Int))] (by kernel_rfl) (ac (by exact hp) (ao (by with_reducible rfl)))
  · have hpos := List.length_pos_iff.2 h0
    generalize hL : lastU l = L at *
    refine W.seg [((2 : Nat), Ans.call false [] [] (PV.vec nl (PV.iarr IntKind.u32 (List.length L) L))), ((6 : Nat), Ans.dec false)] [] (dsIs nl m (List.length L) L (0 : Nat) (0 : Nat) (0 : Nat)) (todo' := loopAt Try.f12 (0 : Nat)) [PC Try.prog G0 (29 : Nat) [] [PV.vec nl (PV.iarr IntKind.u32 n l)] [] (PV.vec nl (PV.iarr IntKind.u32 (List.length L) L)), ((↑(List.length L) : Int) == (0 : Int)) = false, PV.int IntKind.u32 m = PV.int IntKind.u32 m, PV.vec nl (PV.iarr IntKind.u32 (List.length L) L) = PV.vec nl (PV.iarr IntKind.u32 (List.length L) L), PV.int IntKind.i64 (0 : Int) = PV.int IntKind.i64 (↑(0 : Nat) : Int), PV.int IntKind.i64 (0 : Int) = PV.int IntKind.i64 (↑(0 : Nat) : Int), PV.int IntKind.i64 (0 : Int) = PV.int IntKind.i64 (↑(0 : Nat) : Int)] (by kernel_rfl) (ac (by exact hp) (ac (by exact decide_eq_false (by omega)) (ac (by with_reducible rfl) (ac (by with_reducible rfl) (ac (by exact congrArg (PV.int _) (by omega)) (ac (by exact congrArg (PV.int _) (by omega)) (ao (by exact congrArg (PV.int _) (by omega))))))))) ?_
    exact W_is rfl hpos (by omega) L.length 0 0 0 (by omega) (by simp) (by simp)
