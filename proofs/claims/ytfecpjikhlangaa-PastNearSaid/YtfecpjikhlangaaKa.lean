/- The sorting of few numbers, and the median of the last eleven: contracts. No condition. -/
import Derived.Test.YtfecpjikhlangaaPeY
import Derived.Test.YtfecpjikhlangaaChecked
namespace Go.Proofs
open Go Go.Pe
set_option maxRecDepth 100000
def G0 : Nat → Option PV := fun _ => none
theorem wrap64 {x : Int} (h1 : -9223372036854775808 ≤ x) (h2 : x ≤ 9223372036854775807) : IntKind.i64.wrap x = x := by
  rw [wrap_bounds]
  exact ⟨h1, h2⟩
theorem pc_isNaN (x : Int) : PC Try.prog G0 90 [] [.int .u32 x] [] (.bool false) := by
  refine PC.of (fn := Try.f90) (c := bodyOf Try.f90) Try.func90 (by kernel_rfl) (by kernel_rfl) (by kernel_rfl) (by kernel_rfl) ?_
  refine W.ret [(3, .dec false)] [] [(x != x) = false, PV.bool false = PV.bool false] (by kernel_rfl) ?_
  simp [AllC]
theorem pc_less (x y : Int) : PC Try.prog G0 70 [] [.int .u32 x, .int .u32 y] [] (.bool (decide (x < y))) := by
  refine PC.of (fn := Try.f70) (c := bodyOf Try.f70) Try.func70 (by kernel_rfl) (by kernel_rfl) (by kernel_rfl) (by kernel_rfl) ?_
  refine W.ret [(2, .call true [] [] (.bool false))] [] [PC Try.prog G0 (90 : Nat) [] [PV.int IntKind.u32 x] [] (PV.bool false), PV.bool (decide (x < y)) = PV.bool (decide (x < y))] (by kernel_rfl) ?_
  simp [AllC, pc_isNaN]
def swap (l : List Int) (j : Nat) : List Int := (l.set (j + 1) (l.getD j 0)).set j (l.getD (j + 1) 0)
def sink : Nat → List Int → List Int
  | 0, l => l
  | j + 1, l => if l.getD (j + 1) 0 < l.getD j 0 then sink j (swap l j) else l
def isort : Nat → Nat → List Int → List Int
  | 0, _, l => l
  | k + 1, i, l => isort k (i + 1) (sink i l)
def rowU (n : Nat) (l : List Int) : Row := ⟨.iarr .u32 n l, false⟩
def dsO (n i : Nat) (l : List Int) : DS := ⟨[(0, .ref 0 [] 1 0 n), (1, .int .i64 0), (2, .int .i64 n), (6, .int .i64 i)], [(0, rowU n l)]⟩
def dsI (n i j : Nat) (l : List Int) : DS := ⟨[(0, .ref 0 [] 1 0 n), (1, .int .i64 0), (2, .int .i64 n), (6, .int .i64 i), (7, .int .i64 j)], [(0, rowU n l)]⟩
theorem W_inner {n i : Nat} {hout : List (Nat × Row)} {res : PV} (hn : n < 1000) (hi : i < n) : ∀ (j : Nat) (l : List Int), j ≤ i → 
   W Try.prog G0 Try.f64 [0] hout res (loopAt Try.f64 0) (dsO n (i + 1) (sink j l)) → W Try.prog G0 Try.f64 [0] hout res (loopAt Try.f64 1) (dsI n i j l)
  | 0, l, _, h => by
    refine W.seg [(2, .dec false)] [(0, 0)] (dsO n (i + 1) (sink 0 l)) (todo' := loopAt Try.f64 0) [false = false, PV.ref (0 : Nat) [] (1 : Nat) (0 : Nat) n = PV.ref (0 : Nat) [] (1 : Nat) (0 : Nat) n, PV.int IntKind.i64 (0 : Int) = PV.int IntKind.i64 (0 : Int), PV.int IntKind.i64 (↑n : Int) = PV.int IntKind.i64 (↑n : Int), PV.int IntKind.i64 (IntKind.wrap IntKind.i64 ((↑i : Int) + (1 : Int))) = PV.int IntKind.i64 (↑(i + (1 : Nat)) : Int), PV.iarr IntKind.u32 n l = PV.iarr IntKind.u32 n l] (by kernel_rfl) ?_ ?_
    · simp [AllC]
      rw [wrap64 (by omega) (by omega)]
    · exact h
  | j + 1, l, hj, h => by
    have hw : IntKind.i64.wrap (j : Int) = j := wrap64 (by omega) (by omega)
    have hw2 : IntKind.i64.wrap ((i : Int) + 1) = (i : Int) + 1 := wrap64 (by omega) (by omega)
    by_cases hc : l.getD (j + 1) 0 < l.getD j 0
    · have hl := pc_less (l.getD (j + 1) 0) (l.getD j 0)
      rw [decide_eq_true hc] at hl
      refine W.seg [(2, .dec true), (10, .val (.int .i64 j)), (13, .call true [] [] (.bool true))] [(0, 0)] (dsI n i j (swap l j)) (todo' := loopAt Try.f64 1) [decide ((↑(j + (1 : Nat)) : Int) > (0 : Int)) = true, (0 : Int) ≤ (↑(j + (1 : Nat)) : Int), (↑(j + (1 : Nat)) : Int) < (↑n : Int), (0 : Nat) + Int.toNat (↑(j + (1 : Nat)) : Int) < n, PV.int IntKind.i64 (IntKind.wrap IntKind.i64 ((↑(j + (1 : Nat)) : Int) - (1 : Int))) = PV.int IntKind.i64 (↑j : Int), (0 : Int) ≤ (↑j : Int), (↑j : Int) < (↑n : Int), (0 : Nat) + j < n, PC Try.prog G0 (70 : Nat) [] [PV.int IntKind.u32 (List.getD l ((0 : Nat) + Int.toNat (↑(j + (1 : Nat)) : Int)) (0 : Int)), PV.int IntKind.u32 (List.getD l ((0 : Nat) + j) (0 : Int))] [] (PV.bool true), (0 : Int) ≤ IntKind.wrap IntKind.i64 ((↑(j + (1 : Nat)) : Int) - (1 : Int)), IntKind.wrap IntKind.i64 ((↑(j + (1 : Nat)) : Int) - (1 : Int)) < (↑n : Int), (0 : Nat) + Int.toNat (IntKind.wrap IntKind.i64 ((↑(j + (1 : Nat)) : Int) - (1 : Int))) < n, (0 : Int) ≤ (↑(j + (1 : Nat)) : Int), (↑(j + (1 : Nat)) : Int) < (↑n : Int), (0 : Nat) + Int.toNat (↑(j + (1 : Nat)) : Int) < n, (0 : Int) ≤ (↑(j + (1 : Nat)) : Int), (↑(j + (1 : Nat)) : Int) < (↑n : Int), (0 : Nat) + Int.toNat (↑(j + (1 : Nat)) : Int) < n, (0 : Int) ≤ IntKind.wrap IntKind.i64 ((↑(j + (1 : Nat)) : Int) - (1 : Int)), IntKind.wrap IntKind.i64 ((↑(j + (1 : Nat)) : Int) - (1 : Int)) < (↑n : Int), (0 : Nat) + Int.toNat (IntKind.wrap IntKind.i64 ((↑(j + (1 : Nat)) : Int) - (1 : Int))) < n, PV.ref (0 : Nat) [] (1 : Nat) (0 : Nat) n = PV.ref (0 : Nat) [] (1 : Nat) (0 : Nat) n, PV.int IntKind.i64 (0 : Int) = PV.int IntKind.i64 (0 : Int), PV.int IntKind.i64 (↑n : Int) = PV.int IntKind.i64 (↑n : Int), PV.int IntKind.i64 (↑i : Int) = PV.int IntKind.i64 (↑i : Int), PV.int IntKind.i64 (IntKind.wrap IntKind.i64 ((↑(j + (1 : Nat)) : Int) - (1 : Int))) = PV.int IntKind.i64 (↑j : Int), PV.iarr IntKind.u32 n (List.set (List.set l ((0 : Nat) + Int.toNat (↑(j + (1 : Nat)) : Int)) (List.getD l ((0 : Nat) + Int.toNat (IntKind.wrap IntKind.i64 ((↑(j + (1 : Nat)) : Int) - (1 : Int)))) (0 : Int))) ((0 : Nat) + Int.toNat (IntKind.wrap IntKind.i64 ((↑(j + (1 : Nat)) : Int) - (1 : Int)))) (List.getD l ((0 : Nat) + Int.toNat (↑(j + (1 : Nat)) : Int)) (0 : Int))) = PV.iarr IntKind.u32 n (swap l j)] (by kernel_rfl) ?_ ?_
      · simp at hl
        simp [AllC, hw, hl, swap]
        omega
      · exact W_inner hn hi j (swap l j) (by omega) (by rw [sink, if_pos hc] at h; exact h)
    · have hl := pc_less (l.getD (j + 1) 0) (l.getD j 0)
      rw [decide_eq_false hc] at hl
      refine W.seg [(2, .dec true), (10, .val (.int .i64 j)), (13, .call true [] [] (.bool false))] [(0, 0)] (dsO n (i + 1) l) (todo' := loopAt Try.f64 0) [decide ((↑(j + (1 : Nat)) : Int) > (0 : Int)) = true, (0 : Int) ≤ (↑(j + (1 : Nat)) : Int), (↑(j + (1 : Nat)) : Int) < (↑n : Int), (0 : Nat) + Int.toNat (↑(j + (1 : Nat)) : Int) < n, PV.int IntKind.i64 (IntKind.wrap IntKind.i64 ((↑(j + (1 : Nat)) : Int) - (1 : Int))) = PV.int IntKind.i64 (↑j : Int), (0 : Int) ≤ (↑j : Int), (↑j : Int) < (↑n : Int), (0 : Nat) + j < n, PC Try.prog G0 (70 : Nat) [] [PV.int IntKind.u32 (List.getD l ((0 : Nat) + Int.toNat (↑(j + (1 : Nat)) : Int)) (0 : Int)), PV.int IntKind.u32 (List.getD l ((0 : Nat) + j) (0 : Int))] [] (PV.bool false), PV.ref (0 : Nat) [] (1 : Nat) (0 : Nat) n = PV.ref (0 : Nat) [] (1 : Nat) (0 : Nat) n, PV.int IntKind.i64 (0 : Int) = PV.int IntKind.i64 (0 : Int), PV.int IntKind.i64 (↑n : Int) = PV.int IntKind.i64 (↑n : Int), PV.int IntKind.i64 (IntKind.wrap IntKind.i64 ((↑i : Int) + (1 : Int))) = PV.int IntKind.i64 (↑(i + (1 : Nat)) : Int), PV.iarr IntKind.u32 n l = PV.iarr IntKind.u32 n l] (by kernel_rfl) ?_ ?_
      · simp at hl
        simp [AllC, hw, hw2, hl]
        omega
      · rw [sink, if_neg hc] at h; exact h
theorem W_outer {n : Nat} (hn : n < 1000) : ∀ (k i : Nat) (l : List Int), i + k = n ∨ (k = 0 ∧ n ≤ i) → 
   W Try.prog G0 Try.f64 [0] [(0, rowU n (isort k i l))] (.tup []) (loopAt Try.f64 0) (dsO n i l)
  | 0, i, l, h => by
    refine W.ret [(2, .dec false)] [(0, 0)] [decide ((↑i : Int) < (↑n : Int)) = false, PV.iarr IntKind.u32 n l = PV.iarr IntKind.u32 n l, PV.tup [] = PV.tup []] (by kernel_rfl) ?_
    simp [AllC]
    omega
  | k + 1, i, l, h => by
    have hw2 : IntKind.i64.wrap ((i : Int) + 1) = (i : Int) + 1 := wrap64 (by omega) (by omega)
    refine W.seg [(2, .dec true)] [(0, 0)] (dsI n i i l) (todo' := loopAt Try.f64 1) [decide ((↑i : Int) < (↑n : Int)) = true, PV.ref (0 : Nat) [] (1 : Nat) (0 : Nat) n = PV.ref (0 : Nat) [] (1 : Nat) (0 : Nat) n, PV.int IntKind.i64 (0 : Int) = PV.int IntKind.i64 (0 : Int), PV.int IntKind.i64 (↑n : Int) = PV.int IntKind.i64 (↑n : Int), PV.int IntKind.i64 (↑i : Int) = PV.int IntKind.i64 (↑i : Int), PV.int IntKind.i64 (↑i : Int) = PV.int IntKind.i64 (↑i : Int), PV.iarr IntKind.u32 n l = PV.iarr IntKind.u32 n l] (by kernel_rfl) ?_ ?_
    · simp [AllC]
      omega
    · exact W_inner hn (by omega) i l (Nat.le_refl i) (W_outer hn k (i + 1) (sink i l) (by omega))
theorem pc_isort {n : Nat} (hn : n < 1000) (l : List Int) : PC Try.prog G0 64 [(0, rowU n l)] [.ref 0 [] 1 0 n, .int .i64 0, .int .i64 n] [(0, rowU n (isort (n - 1) 1 l))] (.tup []) := by
  refine PC.of (fn := Try.f64) (c := bodyOf Try.f64) Try.func64 (by kernel_rfl) (by kernel_rfl) (by kernel_rfl) (by kernel_rfl) ?_
  refine W.seg [] [(0, 0)] (dsO n 1 l) (todo' := loopAt Try.f64 0) [PV.ref (0 : Nat) [] (1 : Nat) (0 : Nat) n = PV.ref (0 : Nat) [] (1 : Nat) (0 : Nat) n, PV.int IntKind.i64 (0 : Int) = PV.int IntKind.i64 (0 : Int), PV.int IntKind.i64 (↑n : Int) = PV.int IntKind.i64 (↑n : Int), PV.int IntKind.i64 (IntKind.wrap IntKind.i64 ((0 : Int) + (1 : Int))) = PV.int IntKind.i64 (↑(1 : Nat) : Int), PV.iarr IntKind.u32 n l = PV.iarr IntKind.u32 n l] (by kernel_rfl) ?_ ?_
  · simp [AllC]
    rw [wrap64 (by omega) (by omega)]
  · exact W_outer hn (n - 1) 1 l (by omega)

/- the rest of slices.Sort, for few elements -/
def lenM (x : Nat) : Nat := [0, 1, 2, 2, 3, 3, 3, 3, 4, 4, 4, 4, 4].getD x 0
theorem pc_len64 {x : Nat} (hx : x < 12) : PC Try.prog G0 74 [] [.int .u64 x] [] (.int .i64 (lenM x)) := by
  refine PC.of (fn := Try.f74) (c := bodyOf Try.f74) Try.func74 (by kernel_rfl) (by kernel_rfl) (by kernel_rfl) (by kernel_rfl) ?_
  refine W.ret [(2, .dec false), (4, .dec false), (6, .dec false), (9, .val (.int .u8 x)), (10, .val (.int .u8 (lenM x))), (11, .val (.int .i64 (lenM x))), (12, .val (.int .i64 (lenM x)))] [] [decide ((↑x : Int) ≥ (4294967296 : Int)) = false, decide ((↑x : Int) ≥ (65536 : Int)) = false, decide ((↑x : Int) ≥ (256 : Int)) = false, PV.int IntKind.u8 (IntKind.wrap IntKind.u8 (↑x : Int)) = PV.int IntKind.u8 (↑x : Int), PV.int IntKind.u8 (byteAt (ByteArray.mk #[(0 : UInt8), (1 : UInt8), (2 : UInt8), (2 : UInt8), (3 : UInt8), (3 : UInt8), (3 : UInt8), (3 : UInt8), (4 : UInt8), (4 : UInt8), (4 : UInt8), (4 : UInt8), (4 : UInt8), (4 : UInt8), (4 : UInt8), (4 : UInt8), (5 : UInt8), (5 : UInt8), (5 : UInt8), (5 : UInt8), (5 : UInt8), (5 : UInt8), (5 : UInt8), (5 : UInt8), (5 : UInt8), (5 : UInt8), (5 : UInt8), (5 : UInt8), (5 : UInt8), (5 : UInt8), (5 : UInt8), (5 : UInt8), (6 : UInt8), (6 : UInt8), (6 : UInt8), (6 : UInt8), (6 : UInt8), (6 : UInt8), (6 : UInt8), (6 : UInt8), (6 : UInt8), (6 : UInt8), (6 : UInt8), (6 : UInt8), (6 : UInt8), (6 : UInt8), (6 : UInt8), (6 : UInt8), (6 : UInt8), (6 : UInt8), (6 : UInt8), (6 : UInt8), (6 : UInt8), (6 : UInt8), (6 : UInt8), (6 : UInt8), (6 : UInt8), (6 : UInt8), (6 : UInt8), (6 : UInt8), (6 : UInt8), (6 : UInt8), (6 : UInt8), (6 : UInt8), (7 : UInt8), (7 : UInt8), (7 : UInt8), (7 : UInt8), (7 : UInt8), (7 : UInt8), (7 : UInt8), (7 : UInt8), (7 : UInt8), (7 : UInt8), (7 : UInt8), (7 : UInt8), (7 : UInt8), (7 : UInt8), (7 : UInt8), (7 : UInt8), (7 : UInt8), (7 : UInt8), (7 : UInt8), (7 : UInt8), (7 : UInt8), (7 : UInt8), (7 : UInt8), (7 : UInt8), (7 : UInt8), (7 : UInt8), (7 : UInt8), (7 : UInt8), (7 : UInt8), (7 : UInt8), (7 : UInt8), (7 : UInt8), (7 : UInt8), (7 : UInt8), (7 : UInt8), (7 : UInt8), (7 : UInt8), (7 : UInt8), (7 : UInt8), (7 : UInt8), (7 : UInt8), (7 : UInt8), (7 : UInt8), (7 : UInt8), (7 : UInt8), (7 : UInt8), (7 : UInt8), (7 : UInt8), (7 : UInt8), (7 : UInt8), (7 : UInt8), (7 : UInt8), (7 : UInt8), (7 : UInt8), (7 : UInt8), (7 : UInt8), (7 : UInt8), (7 : UInt8), (7 : UInt8), (7 : UInt8), (7 : UInt8), (7 : UInt8), (7 : UInt8), (7 : UInt8), (8 : UInt8), (8 : UInt8), (8 : UInt8), (8 : UInt8), (8 : UInt8), (8 : UInt8), (8 : UInt8), (8 : UInt8), (8 : UInt8), (8 : UInt8), (8 : UInt8), (8 : UInt8), (8 : UInt8), (8 : UInt8), (8 : UInt8), (8 : UInt8), (8 : UInt8), (8 : UInt8), (8 : UInt8), (8 : UInt8), (8 : UInt8), (8 : UInt8), (8 : UInt8), (8 : UInt8), (8 : UInt8), (8 : UInt8), (8 : UInt8), (8 : UInt8), (8 : UInt8), (8 : UInt8), (8 : UInt8), (8 : UInt8), (8 : UInt8), (8 : UInt8), (8 : UInt8), (8 : UInt8), (8 : UInt8), (8 : UInt8), (8 : UInt8), (8 : UInt8), (8 : UInt8), (8 : UInt8), (8 : UInt8), (8 : UInt8), (8 : UInt8), (8 : UInt8), (8 : UInt8), (8 : UInt8), (8 : UInt8), (8 : UInt8), (8 : UInt8), (8 : UInt8), (8 : UInt8), (8 : UInt8), (8 : UInt8), (8 : UInt8), (8 : UInt8), (8 : UInt8), (8 : UInt8), (8 : UInt8), (8 : UInt8), (8 : UInt8), (8 : UInt8), (8 : UInt8), (8 : UInt8), (8 : UInt8), (8 : UInt8), (8 : UInt8), (8 : UInt8), (8 : UInt8), (8 : UInt8), (8 : UInt8), (8 : UInt8), (8 : UInt8), (8 : UInt8), (8 : UInt8), (8 : UInt8), (8 : UInt8), (8 : UInt8), (8 : UInt8), (8 : UInt8), (8 : UInt8), (8 : UInt8), (8 : UInt8), (8 : UInt8), (8 : UInt8), (8 : UInt8), (8 : UInt8), (8 : UInt8), (8 : UInt8), (8 : UInt8), (8 : UInt8), (8 : UInt8), (8 : UInt8), (8 : UInt8), (8 : UInt8), (8 : UInt8), (8 : UInt8), (8 : UInt8), (8 : UInt8), (8 : UInt8), (8 : UInt8), (8 : UInt8), (8 : UInt8), (8 : UInt8), (8 : UInt8), (8 : UInt8), (8 : UInt8), (8 : UInt8), (8 : UInt8), (8 : UInt8), (8 : UInt8), (8 : UInt8), (8 : UInt8), (8 : UInt8), (8 : UInt8), (8 : UInt8), (8 : UInt8), (8 : UInt8), (8 : UInt8), (8 : UInt8), (8 : UInt8), (8 : UInt8), (8 : UInt8), (8 : UInt8), (8 : UInt8), (8 : UInt8), (8 : UInt8)]) (↑x : Int)) = PV.int IntKind.u8 (↑(lenM x) : Int), (0 : Int) ≤ (↑x : Int), (↑x : Int) < (↑(256 : Nat) : Int), PV.int IntKind.i64 (IntKind.wrap IntKind.i64 (↑(lenM x) : Int)) = PV.int IntKind.i64 (↑(lenM x) : Int), PV.int IntKind.i64 (IntKind.wrap IntKind.i64 ((0 : Int) + (↑(lenM x) : Int))) = PV.int IntKind.i64 (↑(lenM x) : Int), PV.int IntKind.i64 (↑(lenM x) : Int) = PV.int IntKind.i64 (↑(lenM x) : Int)] (by kernel_rfl) ?_
  match x, hx with
  | 0, _ | 1, _ | 2, _ | 3, _ | 4, _ | 5, _ | 6, _ | 7, _ | 8, _ | 9, _ | 10, _ | 11, _ => refine ⟨?_, ?_, ?_, ?_, ?_, ?_, ?_, ?_, ?_, ?_⟩ <;> first | rfl | decide
theorem pc_len {x : Nat} (hx : x < 12) : PC Try.prog G0 46 [] [.int .u64 x] [] (.int .i64 (lenM x)) := by
  refine PC.of (fn := Try.f46) (c := bodyOf Try.f46) Try.func46 (by kernel_rfl) (by kernel_rfl) (by kernel_rfl) (by kernel_rfl) ?_
  refine W.ret [(2, .call true [] [] (.int .i64 (lenM x)))] [] [PC Try.prog G0 (74 : Nat) [] [PV.int IntKind.u64 (↑x : Int)] [] (PV.int IntKind.i64 (↑(lenM x) : Int)), PV.int IntKind.i64 (↑(lenM x) : Int) = PV.int IntKind.i64 (↑(lenM x) : Int)] (by kernel_rfl) ?_
  simp [AllC, pc_len64 hx]
theorem pc_pdq {n : Nat} (hn : n < 12) (x : Int) (l : List Int) : PC Try.prog G0 45 [(0, rowU n l)] [.ref 0 [] 1 0 n, .int .i64 0, .int .i64 n, .int .i64 x] [(0, rowU n (isort (n - 1) 1 l))] (.tup []) := by
  have hw : IntKind.i64.wrap (n : Int) = n := wrap64 (by omega) (by omega)
  refine PC.of (fn := Try.f45) (c := bodyOf Try.f45) Try.func45 (by kernel_rfl) (by kernel_rfl) (by kernel_rfl) (by kernel_rfl) ?_
  refine W.seg [] [(0, 0)] (⟨argF 0 [.ref 0 [] 1 0 n, .int .i64 0, .int .i64 n, .int .i64 x], [(0, rowU n l)]⟩) (todo' := loopAt Try.f45 0) [PV.ref (0 : Nat) [] (1 : Nat) (0 : Nat) n = PV.ref (0 : Nat) [] (1 : Nat) (0 : Nat) n, PV.int IntKind.i64 (0 : Int) = PV.int IntKind.i64 (0 : Int), PV.int IntKind.i64 (↑n : Int) = PV.int IntKind.i64 (↑n : Int), PV.int IntKind.i64 x = PV.int IntKind.i64 x, PV.iarr IntKind.u32 n l = PV.iarr IntKind.u32 n l] (by kernel_rfl) ?_ ?_
  · simp [AllC]
  · refine W.ret [(5, .dec true), (9, .call true [(0, 0)] [(0, rowU n (isort (n - 1) 1 l))] (.tup []))] [(0, 0)] [decide (IntKind.wrap IntKind.i64 ((↑n : Int) - (0 : Int)) ≤ (12 : Int)) = true, PC Try.prog G0 (64 : Nat) [((0 : Nat), Row.mk (PV.iarr IntKind.u32 n l) false)] [PV.ref (0 : Nat) [] (1 : Nat) (0 : Nat) n, PV.int IntKind.i64 (0 : Int), PV.int IntKind.i64 (↑n : Int)] [((0 : Nat), Row.mk (PV.iarr IntKind.u32 n (isort (n - (1 : Nat)) (1 : Nat) l)) false)] (PV.tup []), PV.iarr IntKind.u32 n (isort (n - (1 : Nat)) (1 : Nat) l) = PV.iarr IntKind.u32 n (isort (n - (1 : Nat)) (1 : Nat) l), PV.tup [] = PV.tup []] (by kernel_rfl) ?_
    have := pc_isort (n := n) (by omega) l
    simp [AllC, rowU, hw] at this ⊢
    exact ⟨by omega, this⟩
theorem pc_sort {n : Nat} (hn : n < 12) (l : List Int) : PC Try.prog G0 28 [(0, rowU n l)] [.ref 0 [] 1 0 n] [(0, rowU n (isort (n - 1) 1 l))] (.tup []) := by
  refine PC.of (fn := Try.f28) (c := bodyOf Try.f28) Try.func28 (by kernel_rfl) (by kernel_rfl) (by kernel_rfl) (by kernel_rfl) ?_
  refine W.ret [(6, .val (.int .u64 n)), (7, .call true [] [] (.int .i64 (lenM n))), (8, .call true [(0, 0)] [(0, rowU n (isort (n - 1) 1 l))] (.tup []))] [(0, 0)] [PV.int IntKind.u64 (IntKind.wrap IntKind.u64 (↑n : Int)) = PV.int IntKind.u64 (↑n : Int), PC Try.prog G0 (46 : Nat) [] [PV.int IntKind.u64 (↑n : Int)] [] (PV.int IntKind.i64 (↑(lenM n) : Int)), PC Try.prog G0 (45 : Nat) [((0 : Nat), Row.mk (PV.iarr IntKind.u32 n l) false)] [PV.ref (0 : Nat) [] (1 : Nat) (0 : Nat) n, PV.int IntKind.i64 (0 : Int), PV.int IntKind.i64 (↑n : Int), PV.int IntKind.i64 (↑(lenM n) : Int)] [((0 : Nat), Row.mk (PV.iarr IntKind.u32 n (isort (n - (1 : Nat)) (1 : Nat) l)) false)] (PV.tup []), PV.iarr IntKind.u32 n (isort (n - (1 : Nat)) (1 : Nat) l) = PV.iarr IntKind.u32 n (isort (n - (1 : Nat)) (1 : Nat) l), PV.tup [] = PV.tup []] (by kernel_rfl) ?_
  have h1 := pc_pdq hn (lenM n) l
  have hw : IntKind.u64.wrap (n : Int) = n := by rw [wrap_bounds]; exact ⟨by show (0 : Int) ≤ n; omega, by show (n : Int) ≤ 18446744073709551615; omega⟩
  simp [AllC, rowU, hw, pc_len hn] at h1 ⊢
  exact h1
theorem pc_clone {n : Nat} (hn : n < 1000) (l : List Int) (h0 : 0 < n) : PC Try.prog G0 27 [] [.vec false (.iarr .u32 n l)] [(1, rowU n l)] (.ref 1 [] 1 0 n) := by
  refine PC.of (fn := Try.f27) (c := bodyOf Try.f27) Try.func27 (by kernel_rfl) (by kernel_rfl) (by kernel_rfl) (by kernel_rfl) ?_
  refine W.ret [] [(144, 1)] [(0 : Nat) = (0 : Nat), ((0 : Nat) + n) * (4 : Nat) ≤ (140737488355328 : Nat), (0 : Nat) + n ≤ (9223372036854775807 : Nat), PV.iarr IntKind.u32 ((0 : Nat) + n) l = PV.iarr IntKind.u32 n l, PV.ref (1 : Nat) [] (1 : Nat) (0 : Nat) ((0 : Nat) + n) = PV.ref (1 : Nat) [] (1 : Nat) (0 : Nat) n] (by kernel_rfl) ?_
  simp [AllC]
  omega
def lastU (l : List Int) : List Int := l.drop (l.length - 11)
def medianM (l : List Int) : Int := if l = [] then 0 else (isort ((lastU l).length - 1) 1 (lastU l)).getD ((lastU l).length / 2) 0
theorem pc_median {nl : Bool} {l : List Int} (hl : l.length < 1000) (hnl : nl = true → l = []) : PC Try.prog G0 11 [] [.vec nl (.iarr .u32 l.length l)] [] (.int .u32 (medianM l)) := by
  refine PC.of (fn := Try.f11) (c := bodyOf Try.f11) Try.func11 (by kernel_rfl) (by kernel_rfl) (by kernel_rfl) (by kernel_rfl) ?_
  by_cases h0 : l = []
  · subst h0
    refine W.ret [(3, .dec true)] [] [true = true, PV.int IntKind.u32 (0 : Int) = PV.int IntKind.u32 (medianM [])] (by kernel_rfl) ?_
    simp [AllC, medianM]
  · have hnf : nl = false := by cases nl with
      | false => rfl
      | true => exact absurd (hnl rfl) h0
    subst hnf
    have hm : (lastU l).length < 12 := by simp [lastU]; omega
    have hm0 : 0 < (lastU l).length := by
      have := List.length_pos_iff.2 h0
      simp [lastU]; omega
    have hdrop : (mx 0 (IntKind.i64.wrap (l.length - 11))).toNat = l.length - 11 := by
      rw [wrap64 (by omega) (by omega)]
      unfold mx
      split <;> omega
    have hmx : 0 ≤ mx 0 (IntKind.i64.wrap (l.length - 11)) ∧ mx 0 (IntKind.i64.wrap (l.length - 11)) ≤ l.length := by
      rw [wrap64 (by omega) (by omega)]
      unfold mx
      split <;> omega
    have hk : ((l.length : Int) - mx 0 (IntKind.i64.wrap (l.length - 11))).toNat = (lastU l).length := by
      simp [lastU]; omega
    have hmm : (drop0 l (mx 0 (IntKind.i64.wrap (l.length - 11))).toNat).take (lastU l).length = lastU l := by
      rw [hdrop, drop0_eq]
      exact List.take_of_length_le (by simp [lastU])
    have hres : medianM l = (isort ((lastU l).length - 1) 1 (lastU l)).getD ((lastU l).length / 2) 0 := by simp [medianM, h0]
    have hc := pc_clone (n := (lastU l).length) (by omega) (lastU l) hm0
    have hs := pc_sort hm (lastU l)
    generalize lastU l = m at *
    have hd : IntKind.i64.wrap ((m.length : Int).tdiv 2) = ((m.length / 2 : Nat) : Int) := by
      rw [Int.tdiv_eq_ediv_of_nonneg (by omega), wrap64 (by omega) (by omega)]; omega
    refine W.ret [(3, .dec false), (9, .val (.vec false (.iarr .u32 m.length m))), (10, .call true [] [(1, rowU m.length m)] (.ref 1 [] 1 0 m.length)), (13, .call true [(225, 0)] [(0, rowU m.length (isort (m.length - 1) 1 m))] (.tup [])), (17, .val (.int .i64 ((m.length / 2 : Nat) : Int)))] [] [((↑(List.length l) : Int) == (0 : Int)) = false, PV.vec false (PV.iarr IntKind.u32 (Int.toNat ((↑(List.length l) : Int) - mx (0 : Int) (IntKind.wrap IntKind.i64 ((↑(List.length l) : Int) - (11 : Int))))) (List.take (Int.toNat ((↑(List.length l) : Int) - mx (0 : Int) (IntKind.wrap IntKind.i64 ((↑(List.length l) : Int) - (11 : Int))))) (drop0 l (Int.toNat (mx (0 : Int) (IntKind.wrap IntKind.i64 ((↑(List.length l) : Int) - (11 : Int)))))))) = PV.vec false (PV.iarr IntKind.u32 (List.length m) m), (0 : Int) ≤ mx (0 : Int) (IntKind.wrap IntKind.i64 ((↑(List.length l) : Int) - (11 : Int))), mx (0 : Int) (IntKind.wrap IntKind.i64 ((↑(List.length l) : Int) - (11 : Int))) ≤ (↑(List.length l) : Int), (↑(List.length l) : Int) ≤ (↑(List.length l) : Int), PC Try.prog G0 (27 : Nat) [] [PV.vec false (PV.iarr IntKind.u32 (List.length m) m)] [((1 : Nat), Row.mk (PV.iarr IntKind.u32 (List.length m) m) false)] (PV.ref (1 : Nat) [] (1 : Nat) (0 : Nat) (List.length m)), PC Try.prog G0 (28 : Nat) [((0 : Nat), Row.mk (PV.iarr IntKind.u32 (List.length m) m) false)] [PV.ref (0 : Nat) [] (1 : Nat) (0 : Nat) (List.length m)] [((0 : Nat), Row.mk (PV.iarr IntKind.u32 (List.length m) (isort (List.length m - (1 : Nat)) (1 : Nat) m)) false)] (PV.tup []), PV.int IntKind.i64 (IntKind.wrap IntKind.i64 (Int.tdiv (↑(List.length m) : Int) (2 : Int))) = PV.int IntKind.i64 (↑(List.length m / (2 : Nat)) : Int), (2 : Int) ≠ (0 : Int), (0 : Int) ≤ (↑(List.length m / (2 : Nat)) : Int), (↑(List.length m / (2 : Nat)) : Int) < (↑(List.length m) : Int), (0 : Nat) + Int.toNat (↑(List.length m / (2 : Nat)) : Int) < List.length m, PV.int IntKind.u32 (List.getD (isort (List.length m - (1 : Nat)) (1 : Nat) m) ((0 : Nat) + Int.toNat (↑(List.length m / (2 : Nat)) : Int)) (0 : Int)) = PV.int IntKind.u32 (medianM l)] (by kernel_rfl) ?_
    refine ⟨?_, ?_, hmx.1, hmx.2, Int.le_refl _, hc, hs, ?_, ?_⟩
    · simp [h0]
    · rw [hk, hmm]
    · rw [hd]
    · refine ⟨by decide, by omega, by omega, by omega, ?_⟩
      have : 0 + ((m.length / 2 : Nat) : Int).toNat = m.length / 2 := by omega
      show _ = _
      rw [this, hres]
theorem pc_after {nl : Bool} {l : List Int} {t : Int} (hl : l.length < 1000) (hnl : nl = true → l = []) : PC Try.prog G0 14 [] [.vec nl (.iarr .u32 l.length l), .int .u32 t] [] (.bool (decide (l = [] ∨ t > medianM l))) := by
  refine PC.of (fn := Try.f14) (c := bodyOf Try.f14) Try.func14 (by kernel_rfl) (by kernel_rfl) (by kernel_rfl) (by kernel_rfl) ?_
  by_cases h0 : l = []
  · subst h0
    refine W.ret [(4, .dec true)] [] [true = true, PV.bool true = PV.bool true] (by kernel_rfl) ?_
    simp [AllC]
  · refine W.ret [(4, .dec false), (7, .call true [] [] (.int .u32 (medianM l)))] [] [((↑(List.length l) : Int) == (0 : Int)) = false, PC Try.prog G0 (11 : Nat) [] [PV.vec nl (PV.iarr IntKind.u32 (List.length l) l)] [] (PV.int IntKind.u32 (medianM l)), PV.bool (decide (t > medianM l)) = PV.bool (decide (l = [] ∨ t > medianM l))] (by kernel_rfl) ?_
    simp [AllC, h0, pc_median hl hnl]
end Go.Proofs
