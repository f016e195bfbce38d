/- Times: the reference's median; whether a time is too far ahead; the laws' functions. Conditions: as each statement says. -/
import Derived.Test.YtfecpjikhlangaaKpas2
namespace Go.Proofs
open Go Go.Pe Go.Pm
set_option maxRecDepth 100000
def dsRm (nl : Bool) (n : Nat) (l L : List Int) (i : Nat) : DS := ⟨[(0, .vec nl (.iarr .u32 n l)), (6, .vec nl (.iarr .u32 L.length L)), (7, .int .i64 L.length), (8, .int .i64 i)], []⟩
theorem W_rm {nl : Bool} {n : Nat} {l L : List Int} (hn : n = l.length) (hl : n < 1000) (hL : lastU l = L) (hLn : L.length ≤ n) : ∀ (k i : Nat), i + k = L.length → (medianM l ∈ L.drop i ∨ L = []) → 
    W Try.prog G0 Try.f13 [] [] (.int .u32 (medianM l)) (loopAt Try.f13 0) (dsRm nl n l L i)
  | 0, i, hk, h => by
    have hd : L.drop i = [] := List.drop_eq_nil_of_le (by omega)
    rw [hd] at h
    have h0 : l = [] := by
      rcases h with h | h
      · cases h
      · rw [h] at hL; exact lastU_nil.1 hL
    have : medianM l = 0 := by rw [h0]; rfl
    rw [this]
    refine W.ret [((0 : Nat), Ans.dec false)] [] [decide ((↑i : Int) < (↑(List.length L) : Int)) = false, PV.int IntKind.u32 (0 : Int) = PV.int IntKind.u32 (0 : Int)] (by kernel_rfl) (ac (by exact decide_eq_false (by omega)) (ao (by with_reducible rfl)))
  | k + 1, i, hk, h => by
    have hp := @pc_is nl (L.getD i 0) n l hn hl
    rw [hL] at hp
    by_cases hc : isM (L.getD i 0) L = true
    · have hm : L.getD i 0 = medianM l := medianM_eq (by rw [hL]; exact hc)
      rw [← hm]
      rw [hc] at hp
      refine W.ret [((0 : Nat), Ans.dec true), ((6 : Nat), Ans.call true [] [] (PV.bool true))] [] [decide ((↑i : Int) < (↑(List.length L) : Int)) = true, (0 : Int) ≤ (↑i : Int), (↑i : Int) < (↑(List.length L) : Int), i < List.length L, PC Try.prog G0 (12 : Nat) [] [PV.int IntKind.u32 (List.getD L i (0 : Int)), PV.vec nl (PV.iarr IntKind.u32 n l)] [] (PV.bool true), PV.int IntKind.u32 (List.getD L i (0 : Int)) = PV.int IntKind.u32 (List.getD L i (0 : Int))] (by kernel_rfl) (ac (by exact decide_eq_true (by omega)) (ac (by omega) (ac (by omega) (ac (by omega) (ac (by exact hp) (ao (by with_reducible rfl)))))))
    · rw [Bool.not_eq_true] at hc
      rw [hc] at hp
      refine W.seg [((0 : Nat), Ans.dec true), ((6 : Nat), Ans.call true [] [] (PV.bool false)), ((7 : Nat), Ans.val (PV.int IntKind.i64 (↑(i + (1 : Nat)) : Int)))] [] (dsRm nl n l L (i + (1 : Nat))) (todo' := loopAt Try.f13 (0 : Nat)) [decide ((↑i : Int) < (↑(List.length L) : Int)) = true, (0 : Int) ≤ (↑i : Int), (↑i : Int) < (↑(List.length L) : Int), i < List.length L, PC Try.prog G0 (12 : Nat) [] [PV.int IntKind.u32 (List.getD L i (0 : Int)), PV.vec nl (PV.iarr IntKind.u32 n l)] [] (PV.bool false), PV.int IntKind.i64 (IntKind.wrap IntKind.i64 ((↑i : Int) + (1 : Int))) = PV.int IntKind.i64 (↑(i + (1 : Nat)) : Int), PV.vec nl (PV.iarr IntKind.u32 n l) = PV.vec nl (PV.iarr IntKind.u32 n l), PV.vec nl (PV.iarr IntKind.u32 (List.length L) L) = PV.vec nl (PV.iarr IntKind.u32 (List.length L) L), PV.int IntKind.i64 (↑(List.length L) : Int) = PV.int IntKind.i64 (↑(List.length L) : Int), PV.int IntKind.i64 (↑(i + (1 : Nat)) : Int) = PV.int IntKind.i64 (↑(i + (1 : Nat)) : Int)] (by kernel_rfl) (ac (by exact decide_eq_true (by omega)) (ac (by omega) (ac (by omega) (ac (by omega) (ac (by exact hp) (ac (by exact congrArg (PV.int _) (w_i64 rfl (by omega) (by omega))) (ac (by with_reducible rfl) (ac (by with_reducible rfl) (ac (by with_reducible rfl) (ao (by with_reducible rfl))))))))))) ?_
      refine W_rm hn hl hL hLn k (i + 1) (by omega) ?_
      rcases h with h | h
      · left
        rw [List.drop_eq_getElem_cons (by omega), List.mem_cons] at h
        rcases h with h | h
        · exfalso
          have e : L.getD i 0 = L[i]'(by omega) := by simp [List.getD_eq_getElem?_getD, show i < L.length by omega]
          rw [e, ← h, ← hL, medianM_isM] at hc
          cases hc
        · exact h
      · exact .inr h
theorem pc_refMedian {nl : Bool} {n : Nat} {l : List Int} (hn : n = l.length) (hl : n < 1000) : PC Try.prog G0 13 [] [.vec nl (.iarr .u32 n l)] [] (.int .u32 (medianM l)) := by
  refine PC.of (fn := Try.f13) (c := bodyOf Try.f13) Try.func13 (by kernel_rfl) (by kernel_rfl) (by kernel_rfl) (by kernel_rfl) ?_
  have hlen : (lastU l).length ≤ n := by simp [lastU]; omega
  have hp := pc_last (nl := nl) hn hl
  generalize hL : lastU l = L at *
  refine W.seg [((2 : Nat), Ans.call false [] [] (PV.vec nl (PV.iarr IntKind.u32 (List.length L) L)))] [] (dsRm nl n l L (0 : Nat)) (todo' := loopAt Try.f13 (0 : Nat)) [PC Try.prog G0 (29 : Nat) [] [PV.vec nl (PV.iarr IntKind.u32 n l)] [] (PV.vec nl (PV.iarr IntKind.u32 (List.length L) L)), PV.vec nl (PV.iarr IntKind.u32 n l) = PV.vec nl (PV.iarr IntKind.u32 n l), PV.vec nl (PV.iarr IntKind.u32 (List.length L) L) = PV.vec nl (PV.iarr IntKind.u32 (List.length L) L), PV.int IntKind.i64 (↑(List.length L) : Int) = PV.int IntKind.i64 (↑(List.length L) : Int), PV.int IntKind.i64 (0 : Int) = PV.int IntKind.i64 (↑(0 : Nat) : Int)] (by kernel_rfl) (ac (by exact hp) (ac (by with_reducible rfl) (ac (by with_reducible rfl) (ac (by with_reducible rfl) (ao (by exact congrArg (PV.int _) (by omega))))))) ?_
  refine W_rm hn hl hL hlen L.length 0 (by omega) ?_
  by_cases h0 : l = []
  · right; rw [← hL]; exact lastU_nil.2 h0
  · left; rw [← hL]; exact medianM_mem h0
def held (n : Int) : Int := mn (mx n 0) 1099511627776
theorem held_le (n : Int) : 0 ≤ held n ∧ held n ≤ 1099511627776 := by
  unfold held mn mx
  split <;> split <;> omega
theorem u32_le {t : Int} (ht : IntKind.u32.wrap t = t) : 0 ≤ t ∧ t ≤ 4294967295 := (wrap_bounds _ _).1 ht
theorem pc_near {t now future : Int} (h1 : 0 ≤ t) (h2 : t ≤ 4294967295) : PC Try.prog G0 15 [] [.int .u32 t, .int .i64 now, .int .i64 future] [] (.bool (decide (t ≤ held now + held future))) := by
  refine PC.of (fn := Try.f15) (c := bodyOf Try.f15) Try.func15 (by kernel_rfl) (by kernel_rfl) (by kernel_rfl) (by kernel_rfl) ?_
  have h2 := held_le now
  have h3 := held_le future
  unfold held at *
  refine W.ret [((2 : Nat), Ans.val (PV.int IntKind.i64 t)), ((9 : Nat), Ans.val (PV.int IntKind.i64 (mn (mx now (0 : Int)) (1099511627776 : Int) + mn (mx future (0 : Int)) (1099511627776 : Int))))] [] [PV.int IntKind.i64 (IntKind.wrap IntKind.i64 t) = PV.int IntKind.i64 t, PV.int IntKind.i64 (IntKind.wrap IntKind.i64 (mn (mx now (0 : Int)) (1099511627776 : Int) + mn (mx future (0 : Int)) (1099511627776 : Int))) = PV.int IntKind.i64 (mn (mx now (0 : Int)) (1099511627776 : Int) + mn (mx future (0 : Int)) (1099511627776 : Int)), PV.bool (decide (t ≤ mn (mx now (0 : Int)) (1099511627776 : Int) + mn (mx future (0 : Int)) (1099511627776 : Int))) = PV.bool (decide (t ≤ mn (mx now (0 : Int)) (1099511627776 : Int) + mn (mx future (0 : Int)) (1099511627776 : Int)))] (by kernel_rfl) (ac (by exact congrArg (PV.int _) (w_i64 rfl (by omega) (by omega))) (ac (by exact congrArg (PV.int _) (w_i64 rfl (by omega) (by omega))) (ao (by with_reducible rfl))))
theorem pc_held (n : Int) : PC Try.prog G0 16 [] [.int .i64 n] [] (.int .i64 (held n)) := by
  refine PC.of (fn := Try.f16) (c := bodyOf Try.f16) Try.func16 (by kernel_rfl) (by kernel_rfl) (by kernel_rfl) (by kernel_rfl) ?_
  by_cases h1 : n < 0
  · have : held n = 0 := by simp [held, mx, mn, h1]
    rw [this]
    refine W.ret [((2 : Nat), Ans.dec true)] [] [decide (n < (0 : Int)) = true, PV.int IntKind.i64 (0 : Int) = PV.int IntKind.i64 (0 : Int)] (by kernel_rfl) (ac (by exact decide_eq_true (by omega)) (ao (by with_reducible rfl)))
  · by_cases h2 : n > 1099511627776
    · have : held n = 1099511627776 := by simp [held, mx, mn, h1, h2]
      rw [this]
      refine W.ret [((2 : Nat), Ans.dec false), ((4 : Nat), Ans.dec true)] [] [decide (n < (0 : Int)) = false, decide (n > (1099511627776 : Int)) = true, PV.int IntKind.i64 (1099511627776 : Int) = PV.int IntKind.i64 (1099511627776 : Int)] (by kernel_rfl) (ac (by exact decide_eq_false (by omega)) (ac (by exact decide_eq_true (by omega)) (ao (by with_reducible rfl))))
    · have : held n = n := by simp [held, mx, mn, h1, h2]
      rw [this]
      refine W.ret [((2 : Nat), Ans.dec false), ((4 : Nat), Ans.dec false)] [] [decide (n < (0 : Int)) = false, decide (n > (1099511627776 : Int)) = false, PV.int IntKind.i64 n = PV.int IntKind.i64 n] (by kernel_rfl) (ac (by exact decide_eq_false (by omega)) (ac (by exact decide_eq_false (by omega)) (ao (by with_reducible rfl))))
theorem pc_awake : PC Try.prog G0 10 [] [] [] (.bool true) := by
  refine PC.of (fn := Try.f10) (c := bodyOf Try.f10) Try.func10 (by kernel_rfl) (by kernel_rfl) (by kernel_rfl) (by kernel_rfl) ?_
  have h1 := pc_median (nl := false) (n := 3) (l := [5, 1, 9]) rfl (by decide) (by simp)
  have h2 := pc_median (nl := false) (n := 4) (l := [5, 1, 9, 7]) rfl (by decide) (by simp)
  have e1 : medianM [5, 1, 9] = 5 := by decide
  have e2 : medianM [5, 1, 9, 7] = 7 := by decide
  rw [e1] at h1
  rw [e2] at h2
  refine W.ret [((2 : Nat), Ans.call true [] [] (PV.int IntKind.u32 (5 : Int))), ((6 : Nat), Ans.call true [] [] (PV.int IntKind.u32 (7 : Int))), ((10 : Nat), Ans.call true [] [] (PV.bool true))] [] [(3 : Nat) ≤ (3 : Nat), PC Try.prog G0 (11 : Nat) [] [PV.vec false (PV.iarr IntKind.u32 (3 : Nat) [(5 : Int), (1 : Int), (9 : Int)])] [] (PV.int IntKind.u32 (5 : Int)), (4 : Nat) ≤ (4 : Nat), PC Try.prog G0 (11 : Nat) [] [PV.vec false (PV.iarr IntKind.u32 (4 : Nat) [(5 : Int), (1 : Int), (9 : Int), (7 : Int)])] [] (PV.int IntKind.u32 (7 : Int)), PC Try.prog G0 (14 : Nat) [] [PV.vec true (PV.iarr IntKind.u32 (0 : Nat) []), PV.int IntKind.u32 (0 : Int)] [] (PV.bool true), PV.bool true = PV.bool true] (by kernel_rfl) (ac (by omega) (ac (by exact h1) (ac (by omega) (ac (by exact h2) (ac (by exact pc_after0 _) (ao (by with_reducible rfl)))))))
theorem pc_pastNear {t now future : Int} (h1 : 0 ≤ t) (h2 : t ≤ 4294967295) : PC Try.prog G0 6 [] [.int .u32 t, .int .i64 now, .int .i64 future] [] (.bool true) := by
  refine PC.of (fn := Try.f6) (c := bodyOf Try.f6) Try.func6 (by kernel_rfl) (by kernel_rfl) (by kernel_rfl) (by kernel_rfl) ?_
  have h2 := held_le now
  have h3 := held_le future
  refine W.ret [((4 : Nat), Ans.call true [] [] (PV.bool (decide (t ≤ held now + held future)))), ((6 : Nat), Ans.val (PV.int IntKind.i64 t)), ((8 : Nat), Ans.call true [] [] (PV.int IntKind.i64 (held now))), ((10 : Nat), Ans.call true [] [] (PV.int IntKind.i64 (held future))), ((11 : Nat), Ans.val (PV.int IntKind.i64 (held now + held future))), ((13 : Nat), Ans.dec true), ((15 : Nat), Ans.call true [] [] (PV.bool true))] [] [PC Try.prog G0 (15 : Nat) [] [PV.int IntKind.u32 t, PV.int IntKind.i64 now, PV.int IntKind.i64 future] [] (PV.bool (decide (t ≤ held now + held future))), PV.int IntKind.i64 (IntKind.wrap IntKind.i64 t) = PV.int IntKind.i64 t, PC Try.prog G0 (16 : Nat) [] [PV.int IntKind.i64 now] [] (PV.int IntKind.i64 (held now)), PC Try.prog G0 (16 : Nat) [] [PV.int IntKind.i64 future] [] (PV.int IntKind.i64 (held future)), PV.int IntKind.i64 (IntKind.wrap IntKind.i64 (held now + held future)) = PV.int IntKind.i64 (held now + held future), (decide (t ≤ held now + held future) == decide (t ≤ held now + held future)) = true, PC Try.prog G0 (10 : Nat) [] [] [] (PV.bool true), PV.bool true = PV.bool true] (by kernel_rfl) (ac (by exact pc_near (by assumption) (by assumption)) (ac (by exact congrArg (PV.int _) (w_i64 rfl (by omega) (by omega))) (ac (by exact pc_held _) (ac (by exact pc_held _) (ac (by exact congrArg (PV.int _) (w_i64 rfl (by omega) (by omega))) (ac (by (simp [*]; done)) (ac (by exact pc_awake) (ao (by with_reducible rfl)))))))))
theorem pc_pastMedians {nl : Bool} {n : Nat} {l : List Int} {t : Int} (hn : n = l.length) (hnl : nl = true → l = []) : PC Try.prog G0 3 [] [.vec nl (.iarr .u32 n l), .int .u32 t] [] (.bool true) := by
  refine PC.of (fn := Try.f3) (c := bodyOf Try.f3) Try.func3 (by kernel_rfl) (by kernel_rfl) (by kernel_rfl) (by kernel_rfl) ?_
  by_cases h : n > 40
  · refine W.ret [((3 : Nat), Ans.dec true), ((4 : Nat), Ans.call true [] [] (PV.bool true))] [] [decide ((↑n : Int) > (40 : Int)) = true, PC Try.prog G0 (10 : Nat) [] [] [] (PV.bool true), PV.bool true = PV.bool true] (by kernel_rfl) (ac (by exact decide_eq_true (by omega)) (ac (by exact pc_awake) (ao (by with_reducible rfl))))
  · have hi := @pc_is nl (medianM l) n l hn (by omega)
    rw [medianM_isM] at hi
    by_cases h0 : l = []
    · subst h0
      subst hn
      have hm : medianM [] = 0 := rfl
      rw [hm] at hi
      have hr := @pc_refMedian nl 0 [] rfl (by omega)
      rw [hm] at hr
      simp only [List.length_nil] at hi
      refine W.ret [((5 : Nat), Ans.call true [] [] (PV.int IntKind.u32 (0 : Int))), ((9 : Nat), Ans.call true [] [] (PV.bool true)), ((13 : Nat), Ans.call true [] [] (PV.int IntKind.u32 (0 : Int))), ((19 : Nat), Ans.call true [] [] (PV.bool true)), ((31 : Nat), Ans.call true [] [] (PV.bool true))] [] [PC Try.prog G0 (11 : Nat) [] [PV.vec nl (PV.iarr IntKind.u32 (0 : Nat) [])] [] (PV.int IntKind.u32 (0 : Int)), PC Try.prog G0 (12 : Nat) [] [PV.int IntKind.u32 (0 : Int), PV.vec nl (PV.iarr IntKind.u32 (0 : Nat) [])] [] (PV.bool true), PC Try.prog G0 (13 : Nat) [] [PV.vec nl (PV.iarr IntKind.u32 (0 : Nat) [])] [] (PV.int IntKind.u32 (0 : Int)), PC Try.prog G0 (14 : Nat) [] [PV.vec nl (PV.iarr IntKind.u32 (0 : Nat) []), PV.int IntKind.u32 t] [] (PV.bool true), PC Try.prog G0 (10 : Nat) [] [] [] (PV.bool true), PV.bool true = PV.bool true] (by kernel_rfl) (ac (by exact pc_median0 _) (ac (by exact hi) (ac (by exact hr) (ac (by exact pc_after0 _) (ac (by exact pc_awake) (ao (by with_reducible rfl)))))))
    · have hpos := List.length_pos_iff.2 h0
      refine W.ret [((3 : Nat), Ans.dec false), ((5 : Nat), Ans.call true [] [] (PV.int IntKind.u32 (medianM l))), ((9 : Nat), Ans.call true [] [] (PV.bool true)), ((13 : Nat), Ans.call true [] [] (PV.int IntKind.u32 (medianM l))), ((14 : Nat), Ans.dec true), ((19 : Nat), Ans.call true [] [] (PV.bool (decide (t > medianM l)))), ((22 : Nat), Ans.dec false), ((28 : Nat), Ans.dec true), ((31 : Nat), Ans.call true [] [] (PV.bool true))] [] [decide ((↑n : Int) > (40 : Int)) = false, PC Try.prog G0 (11 : Nat) [] [PV.vec nl (PV.iarr IntKind.u32 n l)] [] (PV.int IntKind.u32 (medianM l)), PC Try.prog G0 (12 : Nat) [] [PV.int IntKind.u32 (medianM l), PV.vec nl (PV.iarr IntKind.u32 n l)] [] (PV.bool true), PC Try.prog G0 (13 : Nat) [] [PV.vec nl (PV.iarr IntKind.u32 n l)] [] (PV.int IntKind.u32 (medianM l)), (medianM l == medianM l) = true, PC Try.prog G0 (14 : Nat) [] [PV.vec nl (PV.iarr IntKind.u32 n l), PV.int IntKind.u32 t] [] (PV.bool (decide (t > medianM l))), ((↑n : Int) == (0 : Int)) = false, (decide (t > medianM l) == decide (t > medianM l)) = true, PC Try.prog G0 (10 : Nat) [] [] [] (PV.bool true), PV.bool true = PV.bool true] (by kernel_rfl) (ac (by exact decide_eq_false (by omega)) (ac (by exact pc_median (by assumption) (by omega) (by assumption)) (ac (by exact hi) (ac (by exact pc_refMedian (by assumption) (by omega)) (ac (by exact decide_eq_true (by omega)) (ac (by exact pc_after1 _ (by assumption) (by omega) (by omega) (by assumption)) (ac (by exact decide_eq_false (by omega)) (ac (by (simp [*]; done)) (ac (by exact pc_awake) (ao (by with_reducible rfl)))))))))))
end Go.Proofs
