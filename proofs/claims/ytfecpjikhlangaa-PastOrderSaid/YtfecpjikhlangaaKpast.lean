/- Medians of times: what the program and the reference compute. Conditions: as each statement says. -/
import Derived.Test.YtfecpjikhlangaaKsort
namespace Go.Proofs
open Go Go.Pe Go.Pm
set_option maxRecDepth 100000
theorem pc_median0 (nl : Bool) : PC Try.prog G0 11 [] [.vec nl (.iarr .u32 0 [])] [] (.int .u32 0) := by
  refine PC.of (fn := Try.f11) (c := bodyOf Try.f11) Try.func11 (by kernel_rfl) (by kernel_rfl) (by kernel_rfl) (by kernel_rfl) ?_
  refine W.ret [] [] [PV.int IntKind.u32 (0 : Int) = PV.int IntKind.u32 (0 : Int)] (by kernel_rfl) (ao (by with_reducible rfl))
theorem pc_median1 {l : List Int} {n : Nat} (hn : n = l.length) (h0 : 0 < n) (hl : n < 1000) : PC Try.prog G0 11 [] [.vec false (.iarr .u32 n l)] [] (.int .u32 (medianM l)) := by
  refine PC.of (fn := Try.f11) (c := bodyOf Try.f11) Try.func11 (by kernel_rfl) (by kernel_rfl) (by kernel_rfl) (by kernel_rfl) ?_
  subst hn
  have hm : (lastU l).length < 12 := by simp [lastU]; omega
  have hm0 : 0 < (lastU l).length := by simp [lastU]; omega
  have hdrop : (mx 0 ((l.length : Int) - 11)).toNat = l.length - 11 := by
    unfold mx
    split <;> omega
  have hmx : 0 ≤ mx 0 ((l.length : Int) - 11) ∧ mx 0 ((l.length : Int) - 11) ≤ l.length := by
    unfold mx
    split <;> omega
  have hk : ((l.length : Int) - mx 0 ((l.length : Int) - 11)).toNat = (lastU l).length := by
    simp [lastU]; omega
  have hmm : (drop0 l (mx 0 ((l.length : Int) - 11)).toNat).take (lastU l).length = lastU l := by
    rw [hdrop, drop0_eq]
    exact List.take_of_length_le (by simp [lastU])
  have hv : PV.vec false (PV.iarr IntKind.u32 ((l.length : Int) - mx 0 ((l.length : Int) - 11)).toNat (List.take ((l.length : Int) - mx 0 ((l.length : Int) - 11)).toNat (drop0 l (mx 0 ((l.length : Int) - 11)).toNat))) = PV.vec false (PV.iarr IntKind.u32 (lastU l).length (lastU l)) := by rw [hk, hmm]
  have hres : medianM l = (isort ((lastU l).length - 1) 1 (lastU l)).getD ((lastU l).length / 2) 0 := by
    have : l ≠ [] := by rintro rfl; simp at h0
    simp [medianM, this, middle]
  have hd : (((lastU l).length : Int)).tdiv 2 = (((lastU l).length / 2 : Nat) : Int) := by
    rw [Int.tdiv_eq_ediv_of_nonneg (by omega)]; omega
  obtain ⟨hmx1, hmx2⟩ := hmx
  rw [hres]
  generalize hg : lastU l = m at *
  refine W.ret [((3 : Nat), Ans.dec false), ((7 : Nat), Ans.val (PV.int IntKind.i64 ((↑(List.length l) : Int) - (11 : Int)))), ((9 : Nat), Ans.val (PV.vec false (PV.iarr IntKind.u32 (List.length m) m))), ((10 : Nat), Ans.call true [] [((1 : Nat), Row.mk (PV.iarr IntKind.u32 (List.length m) m) false)] (PV.ref (1 : Nat) [] (1 : Nat) (0 : Nat) (List.length m))), ((13 : Nat), Ans.call true [((225 : Nat), (0 : Nat))] [((0 : Nat), Row.mk (PV.iarr IntKind.u32 (List.length m) (isort (List.length m - (1 : Nat)) (1 : Nat) m)) false)] (PV.tup [])), ((17 : Nat), Ans.val (PV.int IntKind.i64 (↑(List.length m / (2 : Nat)) : Int))), ((18 : Nat), Ans.val (PV.at (225 : Nat) [Stp.idx (List.length m / (2 : Nat)) (1 : Nat)]))] [] [((↑(List.length l) : Int) == (0 : Int)) = false, PV.int IntKind.i64 (IntKind.wrap IntKind.i64 ((↑(List.length l) : Int) - (11 : Int))) = PV.int IntKind.i64 ((↑(List.length l) : Int) - (11 : Int)), PV.vec false (PV.iarr IntKind.u32 (Int.toNat ((↑(List.length l) : Int) - mx (0 : Int) ((↑(List.length l) : Int) - (11 : Int)))) (List.take (Int.toNat ((↑(List.length l) : Int) - mx (0 : Int) ((↑(List.length l) : Int) - (11 : Int)))) (drop0 l (Int.toNat (mx (0 : Int) ((↑(List.length l) : Int) - (11 : Int))))))) = PV.vec false (PV.iarr IntKind.u32 (List.length m) m), (0 : Int) ≤ mx (0 : Int) ((↑(List.length l) : Int) - (11 : Int)), mx (0 : Int) ((↑(List.length l) : Int) - (11 : Int)) ≤ (↑(List.length l) : Int), (↑(List.length l) : Int) ≤ (↑(List.length l) : Int), PC Try.prog G0 (27 : Nat) [] [PV.vec false (PV.iarr IntKind.u32 (List.length m) m)] [((1 : Nat), Row.mk (PV.iarr IntKind.u32 (List.length m) m) false)] (PV.ref (1 : Nat) [] (1 : Nat) (0 : Nat) (List.length m)), PC Try.prog G0 (28 : Nat) [((0 : Nat), Row.mk (PV.iarr IntKind.u32 (List.length m) m) false)] [PV.ref (0 : Nat) [] (1 : Nat) (0 : Nat) (List.length m)] [((0 : Nat), Row.mk (PV.iarr IntKind.u32 (List.length m) (isort (List.length m - (1 : Nat)) (1 : Nat) m)) false)] (PV.tup []), PV.int IntKind.i64 (IntKind.wrap IntKind.i64 (Int.tdiv (↑(List.length m) : Int) (2 : Int))) = PV.int IntKind.i64 (↑(List.length m / (2 : Nat)) : Int), (2 : Int) ≠ (0 : Int), PV.at (225 : Nat) [Stp.idx ((0 : Nat) + Int.toNat (↑(List.length m / (2 : Nat)) : Int)) (1 : Nat)] = PV.at (225 : Nat) [Stp.idx (List.length m / (2 : Nat)) (1 : Nat)], (0 : Int) ≤ (↑(List.length m / (2 : Nat)) : Int), (↑(List.length m / (2 : Nat)) : Int) < (↑(List.length m) : Int), List.length m / (2 : Nat) < List.length m, PV.int IntKind.u32 (List.getD (isort (List.length m - (1 : Nat)) (1 : Nat) m) (List.length m / (2 : Nat)) (0 : Int)) = PV.int IntKind.u32 (List.getD (isort (List.length m - (1 : Nat)) (1 : Nat) m) (List.length m / (2 : Nat)) (0 : Int))] (by kernel_rfl) (ac (by exact decide_eq_false (by omega)) (ac (by exact congrArg (PV.int _) (w_i64 rfl (by omega) (by omega))) (ac (by omega) (ac (by omega) (ac (by omega) (ac (by omega) (ac (by exact pc_clone (by omega) _ (by assumption)) (ac (by exact pc_sort (by assumption) _) (ac (by exact congrArg (PV.int _) (w_i64 rfl (by omega) (by omega))) (ac (by omega) (ac (by simp only [Int.toNat_natCast, Nat.zero_add]) (ac (by omega) (ac (by omega) (ac (by omega) (ao (by with_reducible rfl))))))))))))))))
theorem pc_median {nl : Bool} {n : Nat} {l : List Int} (hn : n = l.length) (hl : n < 1000) (hnl : nl = true → l = []) : PC Try.prog G0 11 [] [.vec nl (.iarr .u32 n l)] [] (.int .u32 (medianM l)) := by
  by_cases h0 : l = []
  · subst h0; subst hn; exact pc_median0 nl
  · have : nl = false := by cases nl with
      | false => rfl
      | true => exact absurd (hnl rfl) h0
    subst this
    exact pc_median1 hn (by have := List.length_pos_iff.2 h0; omega) hl
end Go.Proofs
