/- Merged texts: the pure machine and what the walks show. Conditions: as each statement says. -/
import Derived.Sort.AssemblyPlain
import Derived.Lib.Mul64
import Derived.Test.YtnabpdadlgofoaaQ2
set_option linter.unusedSimpArgs false
set_option linter.unusedVariables false
namespace Go.Proofs
open Go Go.Pe Go.Pm
set_option maxRecDepth 100000
set_option linter.unusedVariables false
theorem QI {nl : Bool} {n : Nat} (h0 : 0 < n) (hn : n ≤ 1000000000) {l : Liz} (hl : l.length = n) : Pt 51 [] [.vec false (.iarr .u8 n l)] [(1, BF n l)] (.ref 1 [] 1 0 n) := by
 refine pO Try.func51 (by kernel_rfl) ?_
 refine W.rtA [(5, Ans.vu (PV.ref 144 [] 1 0 n) [(112, none), (144, some (Row.mk (B8 n l) false))])] [(144, 1)] [([(112, none), (144, some (Row.mk (B8 (0 + n) l) false))] : List (Nat × Option Row)) = [(112, none), (144, some (Row.mk (B8 n l) false))], PV.ref 144 [] 1 0 (0 + n) = PV.ref 144 [] 1 0 n, rr (0), (0 + n) * 1 ≤ 140737488355328, 0 + n ≤ 9223372036854775807] (ac (by simp only [Nat.zero_add]) (ac (by simp only [Nat.zero_add]) (ac rfl (ac (by omega) (ao (by omega))))))
def wrN : Row := ⟨.st 1 [.vec true (.iarr .u8 0 [])], false⟩
def wrR (i n : Nat) : Row := ⟨.st 1 [.ref i [] 1 0 n], false⟩
theorem Ob : Pt 20 [] [] [(1, wrN)] (.at 1 []) := by
 refine pO Try.func20 (by kernel_rfl) ?_
 refine W.rtA [] [(96, 1)] [] trivial
theorem LV {x w : Nat} (hx : x < 18446744073709551616) (hw : w ≤ 8) (hw0 : 0 < w) : Pt 46 [(0, wrN)] [.at 0 [], .int .u64 x, .int .i64 w] [(0, wrR 2 w), (2, BF w (le x w))] (.tup []) := by
 refine pO Try.func46 (by kernel_rfl) ?_
 have c1 := K3 hx hw
 have hl := AV x w
 generalize le x w = l at *
 refine W.rtA [(7, c9 c1), (8, Ans.ups [(192, some (Row.mk (B8 w l) false))])] [(0, 0), (192, 2)] [_, ([(192, some (Row.mk (B8 w (List.take w l)) false))] : List (Nat × Option Row)) = [(192, some (Row.mk (B8 w l) false))], 0 + w ≤ w, 0 < w, w * 1 ≤ 140737488355328, w ≤ 9223372036854775807] (ac (c1) (ac (by rw [List.take_of_length_le (show List.length l ≤ w by omega)]) (ob3 (by omega) (ao (by omega)))))
theorem R8 {x w n : Nat} {l : Liz} (hx : x < 18446744073709551616) (hw : w ≤ 8) (hl : l.length = n) (hn : n ≤ 1000000000) : Pt 46 [(0, wrR 1 n), (1, BF n l)] [.at 0 [], .int .u64 x, .int .i64 w] [(0, wrR 2 (n + w)), (2, BF (n + w) (l ++ le x w))] (.tup []) := by
 refine pO Try.func46 (by kernel_rfl) ?_
 have c1 := K3 hx hw
 have hl2 := AV x w
 generalize le x w = m at *
 refine W.rtA [(7, c9 c1), (8, Ans.ups [(1, none), (192, some (Row.mk (B8 (n + w) (l ++ m)) false))])] [(0, 0), (1, 1), (192, 2)] [_, ([(1, none), (192, some (Row.mk (B8 (n + w) (List.take n l ++ List.take w m)) false))] : List (Nat × Option Row)) = [(1, none), (192, some (Row.mk (B8 (n + w) (l ++ m)) false))], 0 + w ≤ w, 0 + n = n, (n + w) * 1 ≤ 140737488355328, n + w ≤ 9223372036854775807] (ac (c1) (ac (by rw [List.take_of_length_le (show List.length l ≤ n by omega), List.take_of_length_le (show List.length m ≤ w by omega)]) (ac (by omega) (ac (by omega) (ac (by omega) (ao (by omega)))))))
def dsPut0 (nl : Bool) (c : Nat) (L : List PV) (n : Nat) (b : List Int) : DS := ⟨[(0, .at 0 []), (6, .vec nl (.parr 1 c bsh L)), (7, .int .i64 c), (8, .int .i64 0)], [(0, wrR 1 n), (1, BF n b)]⟩
def dsPut (nl : Bool) (c : Nat) (L : List PV) (n : Nat) (b : List Int) (i : Nat) : DS := ⟨[(0, .at 0 []), (6, .vec nl (.parr 1 c bsh L)), (7, .int .i64 c), (8, .int .i64 i)], [(0, wrR 2 n), (2, BF n b)]⟩
theorem W_put {nl : Bool} {l : List (Bool × Nat × List Int)} {c : Nat} {q : Liz} (hc : l.length = c) (ho : ∀ x ∈ l, BsOk x) (hq : q.length ≤ 1000000000) (hcc : c ≤ 1000000) : ∀ (k i n : Nat) (b : List Int), i + k = c → b.length = n → b ++ cat (l.drop i) = q →
  Wt Try.f24 [0, 1] [(0, wrR 2 q.length), (2, BF q.length q)] (.tup []) (Aa Try.f24 0) (dsPut nl c (l.map bsPV) n b i)
 | 0, i, n, b, hk, hb, hpq => by
  have e : b = q := by rw [← hpq, List.drop_of_length_le (by omega)]; simp [cat]
  subst e
  subst hb
  refine W.rtA [(0, aF)] [(0, 0), (1, 1), (2, 2)] [decide ((i:Int) < (c:Int)) = false] (ao (dF (by omega)))
 | k + 1, i, n, b, hk, hb, hpq => by
  have hx := bs_ok ho (i := i) (by omega)
  have g := TU (l := l) (i := i) (by omega)
  rw [Ni (by omega), ← List.append_assoc] at hpq
  generalize l.getD i default = x at *
  obtain ⟨xn, xm, xl⟩ := x
  have hxl := hx.len
  dsimp only at hxl hpq
  have hlen := congrArg List.length hpq
  rw [List.length_append, List.length_append, hb, hxl] at hlen
  have hw := W_put (nl := nl) hc ho hq hcc k (i + 1) (n + xm) (b ++ xl) (by omega) (by rw [List.length_append, hb, hxl]) hpq
  generalize l.map bsPV = L at *
  generalize q.length = ql at *
  refine W.sgA 0 [(0, aT), (2, aE g), (10, Ans.ups [(2, none), (224, some (Row.mk (B8 (n + xm) (b ++ xl)) false))]), (14, aV (I6 ↑(i + 1)))] [(0, 0), (1, 1), (224, 2)] (dsPut nl c L (n + xm) (b ++ xl) (i + 1)) [decide ((i:Int) < (c:Int)) = true, 0 ≤ (i:Int), (i:Int) < (c:Int), _, i < c, ([(2, none), (224, some (Row.mk (B8 (n + xm) (List.take n b ++ xl)) false))] : List (Nat × Option Row)) = [(2, none), (224, some (Row.mk (B8 (n + xm) (b ++ xl)) false))], 0 + n = n, (n + xm) * 1 ≤ 140737488355328, n + xm ≤ 9223372036854775807, I6 (IntKind.wrap .i64 ((i:Int) + 1)) = I6 ↑(i + 1)] (ac (dT (by omega)) (ob2 (by omega) (ac (ex g) (ac (by omega) (ac (by rw [List.take_of_length_le (show List.length b ≤ n by omega)]) (ac (by omega) (ob2 (by omega) (ao (wj (by omega)))))))))) ?_
  exact hw
theorem NW {nl : Bool} {l : List (Bool × Nat × List Int)} {c n m : Nat} {b q : Liz} (hc : l.length = c) (hc0 : 0 < c) (ho : ∀ x ∈ l, BsOk x) (hm : m ≤ 1000000000) (hcc : c ≤ 1000000) (hb : b.length = n) (hq : b ++ cat l = q) (hql : q.length = m) :
  Pt 24 [(0, wrR 1 n), (1, BF n b)] [.at 0 [], .vec nl (.parr 1 c bsh (l.map bsPV))] [(0, wrR 2 m), (2, BF m q)] (.tup []) := by
 refine pO Try.func24 (by kernel_rfl) ?_
 have hx := bs_ok ho (i := 0) (by omega)
 have g := TU (l := l) (i := 0) (by omega)
 have hpq : b ++ cat (l.drop 0) = q := hq
 rw [Ni (by omega), ← List.append_assoc] at hpq
 generalize l.getD 0 default = x at *
 obtain ⟨xn, xm, xl⟩ := x
 have hxl := hx.len
 dsimp only at hxl hpq
 have hlen := congrArg List.length hpq
 rw [List.length_append, List.length_append, hb, hxl] at hlen
 have hw := W_put (nl := nl) hc ho (by rw [hql]; exact hm) hcc (c - 1) 1 (n + xm) (b ++ xl) (by omega) (by rw [List.length_append, hb, hxl]) hpq
 rw [hql] at hw hlen
 generalize l.map bsPV = L at *
 refine W.sgA 0 [] [(0, 0), (1, 1)] (dsPut0 nl c L n b) [] trivial ?_
 refine W.sgA 0 [(0, aT), (2, aE g), (10, Ans.ups [(1, none), (224, some (Row.mk (B8 (n + xm) (b ++ xl)) false))]), (14, aV (I6 1))] [(0, 0), (1, 1), (224, 2)] (dsPut nl c L (n + xm) (b ++ xl) 1) [decide (0 < (c:Int)) = true, (0 : Int) ≤ 0, 0 < (c:Int), _, 0 < c, ([(1, none), (224, some (Row.mk (B8 (n + xm) (List.take n b ++ xl)) false))] : List (Nat × Option Row)) = [(1, none), (224, some (Row.mk (B8 (n + xm) (b ++ xl)) false))], 0 + n = n, (n + xm) * 1 ≤ 140737488355328, n + xm ≤ 9223372036854775807, I6 (IntKind.wrap .i64 ((0 : Int) + (1 : Int))) = I6 1] (ac (dT (by omega)) (ob2 (by omega) (ac (ex g) (ac (by omega) (ac (by rw [List.take_of_length_le (show List.length b ≤ n by omega)]) (ac (by omega) (ob2 (by omega) (ao (wj (by omega)))))))))) ?_
 exact hw
theorem KE {n : Nat} {l : Liz} (h0 : 0 < n) (hn : n ≤ 1000000000) (hl : l.length = n) : Pt 25 [(0, wrR 1 n), (1, BF n l)] [.at 0 []] [(0, wrR 1 n), (1, BF n l), (2, BF n l)] (.ref 2 [] 1 0 n) := by
 refine pO Try.func25 (by kernel_rfl) ?_
 have c1 := QI (nl := false) h0 hn hl
 refine W.rtA [(5, cL true [] c1)] [(0, 0), (1, 1), (145, 2)] [0 + n ≤ n, rr ([] : List (Nat × Row)), ([PV.vec false (B8 n (List.take n l))] : List PV) = [PV.vec false (B8 n l)], _] (ac (by omega) (ac rfl (ac (by rw [List.take_of_length_le (show List.length l ≤ n by omega)]) (ao (c1)))))
end Go.Proofs
namespace Go.Proofs
open Go Go.Pe Go.Pm
set_option maxRecDepth 100000
set_option linter.unusedVariables false
theorem bytesOf_length (s : ByteArray) : (bytesOf s).length = s.size := by unfold bytesOf; rw [List.length_map]; rfl
theorem Gp (s : ByteArray) : Bytes (bytesOf s) := fun x hx => by
 simp only [bytesOf, List.mem_map] at hx
 obtain ⟨b, _, rfl⟩ := hx
 have := b.toNat_lt
 omega
theorem CZ {l : List Int} (h : Bytes l) : bytesOf (strOf l) = l := by
 unfold bytesOf strOf
 simp only [List.map_map]
 conv => rhs; rw [← List.map_id l]
 apply List.map_congr_left
 intro x hx
 have := h x hx
 simp only [Function.comp, id]
 rw [UInt8.toNat_ofNat_of_lt' (by simp [UInt8.size]; omega)]
 omega
theorem Ak (l : List Int) : (strOf l).size = l.length := by show (l.map _).length = _; rw [List.length_map]
end Go.Proofs
namespace Go.Proofs
open Go Go.Pe Go.Pm
set_option maxRecDepth 100000
set_option linter.unusedVariables false
def OG (nl : Bool) (n c : Nat) (l : List Int) (x i : Nat) : DS := ⟨[(0, .vec nl (.iarr .u8 n l)), (3, .int .u64 x), (7, .int .i64 c), (8, .int .i64 i)], []⟩
theorem Ue {nl : Bool} {n c : Nat} {l : Liz} (hl : l.length = n) (hb : Bytes l) (hc : c ≤ 8) (hcn : c ≤ n) : ∀ (k i x : Nat), i + k = c → x = lv l i →
  Wt Try.f69 [] [] (.int .u64 ((lv l c : Nat) : Int)) (Aa Try.f69 0) (OG nl n c l x i)
 | 0, i, x, hk, hx => by
  have hi : i = c := by omega
  subst hi
  rw [← hx]
  refine W.rtA [(0, aF)] [] [decide ((i:Int) < (i:Int)) = false] (ao (dF (by omega)))
 | k + 1, i, x, hk, hx => by
  obtain ⟨e, h1⟩ := hb.get i
  have ho := lv_or hb i
  have hlt := Fx hb (i + 1)
  have hle : 2 ^ (8 * (i + 1)) ≤ 2 ^ 64 := Nat.pow_le_pow_right (by omega) (by omega)
  have hxl : lv l (i + 1) < 18446744073709551616 := Nat.lt_of_lt_of_le hlt hle
  have hstep : lv l (i + 1) = lv l i + at0 l i * 2 ^ (8 * i) := rfl
  rw [← hx] at ho hstep
  have hmod : at0 l i * 2 ^ (8 * i) % 18446744073709551616 = at0 l i * 2 ^ (8 * i) := Nat.mod_eq_of_lt (by omega)
  have hw := Ue (nl := nl) hl hb hc hcn k (i + 1) (lv l (i + 1)) (by omega) rfl
  have hxlt : x < 18446744073709551616 := by omega
  have hmodl : at0 l i * 2 ^ (8 * i) % 18446744073709551616 < 18446744073709551616 := Nat.mod_lt _ (by decide)
  have hor : ((x ||| at0 l i * 2 ^ (8 * i) % 18446744073709551616 : Nat) : Int) = ((lv l (i + 1) : Nat) : Int) := by rw [hmod, ho]
  generalize lv l (i + 1) = y at *
  generalize lv l c = z at *
  generalize at0 l i = b at *
  refine W.sgA 0 [(0, aT), (7, aV (U8 b)), (8, aV (U6 b)), (10, aV (I6 ↑(8 * i))), (11, aV (U6 ↑(b * 2 ^ (8 * i) % 18446744073709551616))), (12, aV (U6 ↑(x ||| b * 2 ^ (8 * i) % 18446744073709551616))), (13, aV (U6 y)), (14, aV (I6 ↑(i + 1)))] [] (OG nl n c l y (i + 1)) [decide ((i:Int) < (c:Int)) = true, 0 ≤ (i:Int), (i:Int) < (n:Int), U8 (List.getD l i (0 : Int)) = U8 b, i < n, U6 (IntKind.wrap .u64 (b:Int)) = U6 b, I6 (IntKind.wrap .i64 (8 * (i:Int))) = I6 ↑(8 * i), U6 (IntKind.wrap .u64 ((b:Int) * (2 : Int) ^ min (Int.toNat (↑(8 * i) : Int)) 64)) = U6 ↑(b * 2 ^ (8 * i) % 18446744073709551616), 0 ≤ (↑(8 * i) : Int), U6 (bits BinOp.or .u64 (x:Int) (↑(b * 2 ^ (8 * i) % 18446744073709551616) : Int)) = U6 ↑(x ||| b * 2 ^ (8 * i) % 18446744073709551616), U6 ↑(x ||| b * 2 ^ (8 * i) % 18446744073709551616) = U6 y, I6 (IntKind.wrap .i64 ((i:Int) + 1)) = I6 ↑(i + 1)] (ac (dT (by omega)) (ob2 (by omega) (ac (cg (e)) (ac (by omega) (ac (cg (Aj rfl (by omega) (by omega))) (ac (wj (by omega)) (ac (cg (Hl rfl rfl)) (ac (by omega) (ac (cg (Hu rfl rfl (by omega) (by omega))) (ac (cg (hor)) (ao (wj (by omega))))))))))))) ?_
  exact hw
theorem JD {nl : Bool} {n : Nat} {l : Liz} (hl : l.length = n) (hb : Bytes l) : Pt 69 [] [.vec nl (.iarr .u8 n l)] [] (.int .u64 ((lv l (min n 8) : Nat) : Int)) := by
 refine pO Try.func69 (by kernel_rfl) ?_
 have hm : mn (n : Int) 8 = ((min n 8 : Nat) : Int) := by unfold mn; split <;> omega
 have hw := Ue (nl := nl) hl hb (c := min n 8) (by omega) (by omega) (min n 8) 0 0 (by omega) rfl
 generalize lv l (min n 8) = z at *
 generalize min n 8 = c at *
 refine W.sgA 0 [(4, aV (I6 c))] [] (OG nl n c l 0 0) [I6 (mn (n:Int) (8 : Int)) = I6 c] (ao (cg (hm))) ?_
 exact hw
theorem Q8 {w : Nat} (hw : w ≤ 8) : Pt 83 [] [.int .i64 w] [] (.int .i64 w) := by
 refine pO Try.func83 (by kernel_rfl) ?_
 refine W.rtA [(4, aF)] [] [decide ((w:Int) > 8) = false] (ao (dF (by omega)))
theorem Sa {x w i : Nat} (h : i < w) : (le x w).getD i 0 = ((x / 2 ^ (8 * i) % 256 : Nat) : Int) := TR h
def dsDg (y w n i : Nat) (l : List Int) : DS := ⟨[(0, .int .u64 y), (1, .int .i64 w), (5, .ref 1 [] 1 0 n), (6, .int .i64 i)], [(1, rowI n l)]⟩
theorem W_dg {x w : Nat} (hx : x < 18446744073709551616) (hw : w ≤ 8) : ∀ (k i y : Nat) (l : List Int), i + k = w → y = x / 2 ^ (8 * i) → l = (le x w).take i →
  Wt Try.f82 [] [(1, rowI w (le x w))] (.ref 1 [] 1 0 w) (Aa Try.f82 0) (dsDg y w i i l)
 | 0, i, y, l, hk, hy, hl => by
  have hi : i = w := by omega
  subst hi
  have e : l = le x i := by rw [hl]; exact List.take_of_length_le (by rw [AV]; omega)
  rw [← e]
  refine W.rtA [(2, aF)] (rI 1) [decide ((i:Int) < (i:Int)) = false] (ao (dF (by omega)))
 | k + 1, i, y, l, hk, hy, hl => by
  have hll : l.length = i := by rw [hl, List.length_take, AV]; omega
  have hyl : y < 18446744073709551616 := by rw [hy]; exact Nat.lt_of_le_of_lt (Nat.div_le_self _ _) hx
  have hs := G7 (s := le x w) (i := i) (by rw [AV]; omega)
  rw [Sa (by omega), ← hl, ← hy] at hs
  have hy2 : y / 256 = x / 2 ^ (8 * (i + 1)) := by rw [hy, Nat.div_div_eq_div_mul, pow8, Nat.mul_comm 256]
  have hw2 := W_dg hx hw k (i + 1) (y / 256) _ (by omega) hy2 hs
  generalize le x w = L at *
  refine W.sgA 0 [(2, aT), (5, aV (U6 ↑(y % 256))), (6, aV (I6 ↑(y % 256))), (8, Ans.ups [(1, none), (192, some (Row.mk (BI (i + 1) (l ++ [(↑(y % 256) : Int)])) false))]), (11, aV (U6 ↑(y / 256))), (14, aV (I6 ↑(i + 1)))] [(192, 1)] (dsDg (y / 256) w (i + 1) (i + 1) (l ++ [((y % 256 : Nat) : Int)])) [decide ((i:Int) < (w:Int)) = true, U6 (Int.tmod (y:Int) (256 : Int)) = U6 ↑(y % 256), (256 : Int) ≠ 0, I6 (IntKind.wrap .i64 (↑(y % 256) : Int)) = I6 ↑(y % 256), ([(1, none), (192, some (Row.mk (BI (i + 1) (List.take i l ++ [(↑(y % 256) : Int)])) false))] : List (Nat × Option Row)) = [(1, none), (192, some (Row.mk (BI (i + 1) (l ++ [(↑(y % 256) : Int)])) false))], 1 ≤ 1, 0 + i = i, (i + 1) * 8 ≤ 140737488355328, i + 1 ≤ 9223372036854775807, U6 (IntKind.wrap .u64 (Int.tdiv (y:Int) (256 : Int))) = U6 ↑(y / 256), (256 : Int) ≠ 0, I6 (IntKind.wrap .i64 ((i:Int) + 1)) = I6 ↑(i + 1)] (ac (dT (by omega)) (ac (cg rfl) (ac (by omega) (ac (wj (by omega)) (ac (by rw [List.take_of_length_le (show List.length l ≤ i by omega)]) (ac (by omega) (ac (by omega) (ob2 (by omega) (ac (cg (Aj rfl (by omega) (by omega))) (ac (by omega) (ao (wj (by omega))))))))))))) ?_
  exact hw2
theorem Ru {x w : Nat} (hx : x < 18446744073709551616) (hw : w ≤ 8) (h0 : 0 < w) : Pt 82 [] [.int .u64 x, .int .i64 w] [(1, rowI w (le x w))] (.ref 1 [] 1 0 w) := by
 refine pO Try.func82 (by kernel_rfl) ?_
 have hs := G7 (s := le x w) (i := 0) (by rw [AV]; omega)
 rw [Sa (by omega), List.take_zero, List.nil_append, Nat.mul_zero, Nat.pow_zero, Nat.div_one] at hs
 have hw2 := W_dg hx hw (w - 1) 1 (x / 256) _ (by omega) rfl hs
 generalize le x w = L at *
 refine W.sgA 0 [] [] (⟨[(0, .int .u64 x), (1, .int .i64 w), (5, .vec true (.iarr .i64 0 [])), (6, .int .i64 (0 : Int))], []⟩) [] trivial ?_
 refine W.sgA 0 [(0, aV (I6 0)), (2, aT), (5, aV (U6 ↑(x % 256))), (6, aV (I6 ↑(x % 256))), (11, aV (U6 ↑(x / 256))), (13, aV (I6 0)), (14, aV (I6 1))] [(192, 1)] (dsDg (x / 256) w 1 1 [((x % 256 : Nat) : Int)]) [I6 ↑(0 : Nat) = I6 0, decide (0 < (w:Int)) = true, U6 (Int.tmod (x:Int) (256 : Int)) = U6 ↑(x % 256), (256 : Int) ≠ 0, I6 (IntKind.wrap .i64 (↑(x % 256) : Int)) = I6 ↑(x % 256), 1 ≤ 1, 0 < 1, 8 ≤ 140737488355328, 1 ≤ 9223372036854775807, U6 (IntKind.wrap .u64 (Int.tdiv (x:Int) (256 : Int))) = U6 ↑(x / 256), (256 : Int) ≠ 0, I6 ↑(0 : Nat) = I6 0, I6 (IntKind.wrap .i64 ((0 : Int) + (1 : Int))) = I6 1] (ac (cg (by omega)) (ac (dT (by omega)) (ac (cg rfl) (ac (by omega) (ac (wj (by omega)) (ob4 (by omega) (ac (cg (Aj rfl (by omega) (by omega))) (ac (by omega) (ac (cg (by omega)) (ao (wj (by omega)))))))))))) ?_
 exact hw2
def dsN6 (w i : Nat) (L l : List Int) : DS := ⟨[(5, .ref 1 [] 1 0 i), (12, .ref 2 [] 1 0 w), (13, .int .i64 w), (14, .int .i64 i)], [(1, BF i l), (2, rowI w L)]⟩
theorem W_n6 {w : Nat} {L : Liz} (hL : L.length = w) (hb : Bytes L) (hw : w ≤ 8) : ∀ (k i : Nat) (l : List Int), i + k = w → l = L.take i →
  Wt Try.f55 [] [] (.str (strOf L)) (Aa Try.f55 0) (dsN6 w i L l)
 | 0, i, l, hk, hl => by
  have hi : i = w := by omega
  subst hi
  have e : l = L := by rw [hl]; exact List.take_of_length_le (by omega)
  subst e
  refine W.rtA [(0, aF), (2, aV (PV.str (strOf l)))] [] [decide ((i:Int) < (i:Int)) = false, PV.str (strOf (List.take i l)) = PV.str (strOf l), 0 + i ≤ i] (ac (dF (by omega)) (ac (by rw [List.take_of_length_le (show List.length l ≤ i by omega)]) (ao (by omega))))
 | k + 1, i, l, hk, hl => by
  have hll : l.length = i := by rw [hl, List.length_take]; omega
  have hs := G7 (s := L) (i := i) (by omega)
  obtain ⟨e, h1⟩ := hb.get i
  rw [e, ← hl] at hs
  have hw2 := W_n6 hL hb hw k (i + 1) _ (by omega) hs
  generalize at0 L i = b at *
  refine W.sgA 0 [(0, aT), (1, aV (PV.at 2 [Stp.idx i 1])), (2, aV (I6 b)), (6, aV (U8 b)), (8, Ans.ups [(1, none), (192, some (Row.mk (B8 (i + 1) (l ++ [(b:Int)])) false))]), (10, aV (I6 ↑(i + 1)))] [(192, 1), (2, 2)] (dsN6 w (i + 1) L (l ++ [(b : Int)])) [decide ((i:Int) < (w:Int)) = true, PV.at 2 [Stp.idx (0 + i) 1] = PV.at 2 [Stp.idx i 1], 0 ≤ (i:Int), (i:Int) < (w:Int), I6 (List.getD L i (0 : Int)) = I6 b, i < w, U8 (IntKind.wrap .u8 (b:Int)) = U8 b, ([(1, none), (192, some (Row.mk (B8 (i + 1) (List.take i l ++ [(b:Int)])) false))] : List (Nat × Option Row)) = [(1, none), (192, some (Row.mk (B8 (i + 1) (l ++ [(b:Int)])) false))], 1 ≤ 1, 0 + i = i, (i + 1) * 1 ≤ 140737488355328, i + 1 ≤ 9223372036854775807, I6 (IntKind.wrap .i64 ((i:Int) + 1)) = I6 ↑(i + 1)] (ac (dT (by omega)) (ac (by simp only [Nat.zero_add]) (ob2 (by omega) (ac (cg (e)) (ac (by omega) (ac (cg (KX rfl (by omega) (by omega))) (ac (by rw [List.take_of_length_le (show List.length l ≤ i by omega)]) (ac (by omega) (ac (by omega) (ob2 (by omega) (ao (wj (by omega))))))))))))) ?_
  exact hw2
theorem HZ {x w : Nat} (hx : x < 18446744073709551616) (hw : w ≤ 8) (h0 : 0 < w) : Pt 55 [] [.int .u64 x, .int .i64 w] [] (.str (strOf (le x w))) := by
 refine pO Try.func55 (by kernel_rfl) ?_
 have c1 := Q8 hw
 have c2 := Ru hx hw h0
 have hw2 := W_n6 (AV x w) (HY x w) hw w 0 [] (by omega) rfl
 have hl := AV x w
 generalize le x w = L at *
 refine W.sgA 0 [(5, c9 c1), (6, c9 c2)] [(80, 1), (161, 2)] (dsN6 w 0 L []) [_, _] (ac (c1) (ao (c2))) ?_
 exact hw2
theorem AU (a b : List Int) : strOf a ++ strOf b = strOf (a ++ b) := by
 unfold strOf
 apply ByteArray.ext
 simp [List.map_append]
end Go.Proofs
namespace Go.Pm
structure Rd where
 s : List Int
 e : Nat
def Rd.tk (r : Rd) (n : Nat) : Rd := if r.e = 0 then (if n ≤ r.s.length then ⟨r.s.drop n, 0⟩ else ⟨r.s, 2⟩) else r
def Rd.nv (r : Rd) (n : Nat) : Nat := if r.e = 0 ∧ n ≤ r.s.length then lv r.s n else 0
def wdt (x : Nat) : Nat := if x = 253 then 2 else if x = 254 then 4 else if x = 255 then 8 else 0
def lst (x : Nat) : Nat := if x = 253 then 253 else if x = 254 then 65536 else if x = 255 then 4294967296 else 0
def FB (s : List Int) : Nat := if wdt (at0 s 0) = 0 then at0 s 0 else lv (s.drop 1) (wdt (at0 s 0))
def Rd.ve (r : Rd) (m : Nat) : Nat := if r.e = 0 then (if r.s.length < 1 + wdt (at0 r.s 0) then 2 else if FB r.s < lst (at0 r.s 0) then 3 else if m < FB r.s then 4 else 0) else r.e
def Rd.var (r : Rd) (m : Nat) : Rd := if r.ve m = 0 then ⟨r.s.drop (1 + wdt (at0 r.s 0)), 0⟩ else ⟨r.s, r.ve m⟩
def Rd.vn (r : Rd) (m : Nat) : Nat := if r.ve m = 0 then FB r.s else 0
def Rd.we (r : Rd) (m : Nat) : Nat := if r.ve m = 0 then (if r.vn m ≤ (r.var m).s.length then 0 else 2) else r.ve m
def Rd.wd (r : Rd) (m : Nat) : Rd := if r.we m = 0 then ⟨(r.var m).s.drop (r.vn m), 0⟩ else ⟨r.s, r.we m⟩
structure Rd.In (r : Rd) (bs : List Int) (N : Nat) : Prop where
 len : bs.length = N
 le : r.s.length ≤ N
 eq : r.s = bs.drop (N - r.s.length)
 by' : Bytes bs
theorem drop_in {bs s : List Int} {N n : Nat} (h : s = bs.drop (N - s.length)) (hle : s.length ≤ N) (hn : n ≤ s.length) : s.drop n = bs.drop (N - (s.drop n).length) := by
 rw [List.length_drop]
 conv => lhs; rw [h]
 rw [List.drop_drop]
 congr 1
 omega
theorem Rd.In.drop {r : Rd} {bs : List Int} {N n e : Nat} (h : r.In bs N) (hn : n ≤ r.s.length) : (Rd.mk (r.s.drop n) e).In bs N :=
 ⟨h.len, by simp only [List.length_drop]; have := h.le; omega, drop_in h.eq h.le hn, h.by'⟩
theorem Rd.In.err {r : Rd} {bs : List Int} {N e : Nat} (h : r.In bs N) : (Rd.mk r.s e).In bs N := ⟨h.len, h.le, h.eq, h.by'⟩
theorem Rd.In.tk {r : Rd} {bs : List Int} {N : Nat} (h : r.In bs N) (n : Nat) : (r.tk n).In bs N := by
 unfold Rd.tk
 split
 ·split
  ·rename_i hn; exact h.drop hn
  ·exact h.err
 ·exact h
theorem Rd.In.bytes {r : Rd} {bs : List Int} {N : Nat} (h : r.In bs N) : Bytes r.s := by rw [h.eq]; exact h.by'.drop _
theorem Rd.ve_len {r : Rd} {m : Nat} (h : r.ve m = 0) : 1 + wdt (at0 r.s 0) ≤ r.s.length := by
 unfold Rd.ve at h
 split at h
 ·split at h
  ·cases h
  ·omega
 ·rename_i hne; exact absurd h hne
theorem Rd.In.var {r : Rd} {bs : List Int} {N : Nat} (h : r.In bs N) (m : Nat) : (r.var m).In bs N := by
 unfold Rd.var
 split
 ·rename_i hv; exact h.drop (Rd.ve_len hv)
 ·exact h.err
theorem Rd.In.wd {r : Rd} {bs : List Int} {N : Nat} (h : r.In bs N) (m : Nat) : (r.wd m).In bs N := by
 unfold Rd.wd
 split
 ·rename_i hw
  refine (h.var m).drop ?_
  unfold Rd.we at hw
  split at hw
  ·split at hw
   ·assumption
   ·cases hw
  ·rename_i hne; exact absurd hw hne
 ·exact h.err
theorem wdt_le (x : Nat) : wdt x ≤ 8 := by
 unfold wdt
 split; · omega
 split; · omega
 split <;> omega
theorem Sn {l : List Int} (h : Bytes l) (i : Nat) : at0 l i < 256 := by
 unfold at0
 rw [List.getD_eq_getElem?_getD]
 cases hx : l[i]? with
 | none => simp
 | some x =>
  have := h x (List.mem_of_getElem? hx)
  simp only [Option.getD_some]
  omega
theorem Mw {s : List Int} (h : Bytes s) : FB s < 18446744073709551616 := by
 unfold FB
 have h1 := Sn h 0
 have h2 := Fx (h.drop 1) (wdt (at0 s 0))
 have h3 := wdt_le (at0 s 0)
 split
 ·omega
 ·exact Nat.lt_of_lt_of_le h2 (Nat.le_trans (Nat.pow_le_pow_right (by omega) (show 8 * wdt (at0 s 0) ≤ 64 by omega)) (by decide))
theorem Rd.vn_le (r : Rd) (m : Nat) : r.vn m ≤ m := by
 unfold Rd.vn
 split
 ·rename_i h
  unfold Rd.ve at h
  split at h
  ·split at h
   ·cases h
   ·split at h
    ·cases h
    ·split at h
     ·cases h
     ·omega
  ·rename_i hne; exact absurd h hne
 ·exact Nat.zero_le _
structure OutM where
 v : Nat
 nl : Bool
 b : List Int
def txR1 (b : List Int) : Rd := (Rd.mk b 0).tk 1
def Qj (b : List Int) : Prop := b.length = 64 ∨ ((txR1 b).e = 0 ∧ (Rd.mk b 0).nv 1 ≠ 1)
instance (b : List Int) : Decidable (Qj b) := by unfold Qj; infer_instance
end Go.Pm
namespace Go.Proofs
open Go Go.Pe Go.Pm
set_option maxRecDepth 100000
set_option linter.unusedVariables false
theorem Ez {nl : Bool} {n : Nat} (hn : n ≤ 1000000000) {l : Liz} (hl : l.length = n) (hnl : nl = true → n = 0) : Pt 51 [] [.vec nl (.iarr .u8 n l)] [] (.vec nl (.iarr .u8 n l)) := by
 refine pO Try.func51 (by kernel_rfl) ?_
 have hT : l.take n = l := List.take_of_length_le (by omega)
 cases nl with
 | true =>
  have h0 := hnl rfl
  subst h0
  have : l = [] := List.eq_nil_of_length_eq_zero hl
  subst this
  refine W.rtA [] [] [] trivial
 | false => refine W.ret [(5, Ans.vu (PV.ref 144 [] 1 0 n) [(112, none), (144, some (Row.mk (B8 n l) false))])] [] [([(112, none), (144, some (Row.mk (B8 (0 + n) l) false))] : List (Nat × Option Row)) = [(112, none), (144, some (Row.mk (B8 n l) false))], PV.ref 144 [] 1 0 (0 + n) = PV.ref 144 [] 1 0 n, rr (0), (0 + n) * 1 ≤ 140737488355328, 0 + n ≤ 9223372036854775807, 0 + n ≤ n, PV.vec false (B8 n (List.take n l)) = PV.vec false (B8 n l)] (by kernel_rfl) (ac (by simp only [Nat.zero_add]) (ac (by simp only [Nat.zero_add]) (ac rfl (ac (by omega) (ac (by omega) (ac (by omega) (ao (by (simp [I6, U6, U3, U8]; omega)))))))))
def rdq (nl : Bool) (N : Nat) (bs : List Int) (a e : Nat) : Row := ⟨.st 3 [.vec nl (.iarr .u8 N bs), .int .i64 a, .int .i64 e], false⟩
theorem pc_rdOf {nl : Bool} {n : Nat} (hn : n ≤ 1000000) {l : Liz} (hl : l.length = n) (hnl : nl = true → n = 0) : Pt 29 [] [.vec nl (.iarr .u8 n l)] [(1, rdq nl n l 0 0)] (.at 1 []) := by
 refine pO Try.func29 (by kernel_rfl) ?_
 have c1 := Ez (by omega) hl hnl
 unfold rdq
 refine W.rtA [(2, c0 c1)] [(128, 1)] [_] (ao (c1))
theorem Cq {nl : Bool} {N : Nat} {bs : Liz} {a e a' e' : Nat} (hl : bs.length = N) (ha : a ≤ 1000000) (ha' : a' ≤ 1000000) (he : e ≤ 100) (he' : e' ≤ 100) : Pt 57 [(0, rdq nl N bs a e)] [.at 0 [], .int .i64 a', .int .i64 e'] [(0, rdq nl N bs a' (if e = 0 then e' else e))] (.tup []) := by
 refine pO Try.func57 (by kernel_rfl) ?_
 unfold rdq
 by_cases h : e = 0
 ·rw [if_pos h]
  subst h
  refine W.rtA [(3, aV (I6 0))] [(0, 0)] [I6 ↑(0 : Nat) = I6 0] (ao (cg (by omega)))
 ·rw [if_neg h]
  have h1 : ¬ ((e : Int) = 0) := by omega
  refine W.rtA [(4, aF)] [(0, 0)] [((e:Int) == 0) = false] (ao (dF (by omega)))
def nilB : PV := .vec true (.iarr .u8 0 [])
theorem Py {nl : Bool} {N : Nat} {bs : Liz} {a e w : Nat} (hl : bs.length = N) (hw : w ≤ 1000000) (he : e ≤ 100) (h0 : e ≠ 0) : Pt 33 [(0, rdq nl N bs a e)] [.at 0 [], .int .i64 w] [(0, rdq nl N bs a e)] nilB := by
 refine pO Try.func33 (by kernel_rfl) ?_
 unfold rdq nilB
 have h1 : ¬ ((e : Int) = 0) := by omega
 have h2 : mx (w : Int) 0 = (w : Int) := by unfold mx; split <;> omega
 refine W.rtA [(2, aV (I6 w)), (8, aT)] [(0, 0)] [I6 (mx (w:Int) (0 : Int)) = I6 w, ((e:Int) != 0) = true] (ac (cg (h2)) (ao (bne_iff_ne.2 (by omega))))
theorem Pq {nl : Bool} {N : Nat} {bs : Liz} {a w : Nat} (hl : bs.length = N) (hN : N ≤ 1000000) (hw : w ≤ 1000000) (ha : a ≤ N) (h0 : N < a + w) : Pt 33 [(0, rdq nl N bs a 0)] [.at 0 [], .int .i64 w] [(0, rdq nl N bs a 2)] nilB := by
 refine pO Try.func33 (by kernel_rfl) ?_
 have c1 := Cq (nl := nl) (e := 0) (a := a) (a' := a) (e' := 2) hl (by omega) (by omega) (by omega) (by omega)
 rw [if_pos rfl] at c1
 unfold rdq nilB at *
 have h2 : mx (w : Int) 0 = (w : Int) := by unfold mx; split <;> omega
 refine W.rtA [(2, aV (I6 w)), (7, aV (I6 0)), (19, aV (I6 ((N:Int) - (a:Int)))), (20, aT), (26, cC false [(0, 0)] c1)] [(0, 0)] [I6 (mx (w:Int) (0 : Int)) = I6 w, I6 ↑(0 : Nat) = I6 0, I6 (IntKind.wrap .i64 ((N:Int) - (a:Int))) = I6 ((N:Int) - (a:Int)), decide ((w:Int) > (N:Int) - (a:Int)) = true, _] (ac (cg (h2)) (ac (cg (by omega)) (ac (wj (by omega)) (ac (dT (by omega)) (ao (c1))))))
theorem JQ {nl : Bool} {N : Nat} {bs : Liz} {a w : Nat} (hl : bs.length = N) (hN : N ≤ 1000000) (ha : a + w ≤ N) (hnl : nl = true → N = 0) : Pt 33 [(0, rdq nl N bs a 0)] [.at 0 [], .int .i64 w] [(0, rdq nl N bs (a + w) 0)] (.vec nl (.iarr .u8 w ((bs.drop a).take w))) := by
 refine pO Try.func33 (by kernel_rfl) ?_
 have c1 := Ez (nl := nl) (n := w) (l := (bs.drop a).take w) (by omega) (by rw [List.length_take, List.length_drop]; omega) (by intro h; have := hnl h; omega)
 unfold rdq at *
 have h2 : mx (w : Int) 0 = (w : Int) := by unfold mx; split <;> omega
 have h3 : ((a : Int) + (w : Int)) - (w : Int) = (a : Int) := by omega
 rw [← DN] at c1 ⊢
 refine W.rtA [(2, aV (I6 w)), (7, aV (I6 0)), (19, aV (I6 ((N:Int) - (a:Int)))), (20, aF), (26, aV (I6 ↑(a + w))), (39, aV (I6 a)), (44, aV (PV.vec nl (B8 w (List.take w (Dn bs a))))), (45, c0 c1)] [(0, 0)] [I6 (mx (w:Int) (0 : Int)) = I6 w, I6 ↑(0 : Nat) = I6 0, I6 (IntKind.wrap .i64 ((N:Int) - (a:Int))) = I6 ((N:Int) - (a:Int)), decide ((w:Int) > (N:Int) - (a:Int)) = false, I6 (IntKind.wrap .i64 ((a:Int) + (w:Int))) = I6 ↑(a + w), I6 (IntKind.wrap .i64 ((↑(a + w) : Int) - (w:Int))) = I6 a, PV.vec nl (B8 (Int.toNat ((↑(a + w) : Int) - (a:Int))) (List.take (Int.toNat ((↑(a + w) : Int) - (a:Int))) (Dn bs a))) = PV.vec nl (B8 w (List.take w (Dn bs a))), 0 ≤ (a:Int), (a:Int) ≤ (↑(a + w) : Int), (↑(a + w) : Int) ≤ (N:Int), _] (ac (cg (h2)) (ac (cg (by omega)) (ac (wj (by omega)) (ac (dF (by omega)) (ac (wj (by omega)) (ac (cg (Ab (by omega) (by omega) (by omega))) (ac (by rw [show Int.toNat ((↑(a + w) : Int) - (a:Int)) = w by omega]) (ob3 (by omega) (ao (c1))))))))))
theorem Cz {nl : Bool} {N : Nat} {bs : Liz} {r : Rd} {w : Nat} (hr : r.In bs N) (hN : N ≤ 1000000) (he : r.e ≤ 100) (hw : w ≤ 8) (hw0 : 0 < w) (hnl : nl = true → N = 0) : Pt 56 [(0, rdq nl N bs (N - r.s.length) r.e)] [.at 0 [], .int .i64 w] [(0, rdq nl N bs (N - (r.tk w).s.length) (r.tk w).e)] (.int .u64 ((r.nv w : Nat) : Int)) := by
 refine pO Try.func56 (by kernel_rfl) ?_
 have hle := hr.le
 have h2 : mx (w : Int) 0 = (w : Int) := by unfold mx; split <;> omega
 have h3 : mn (w : Int) 8 = (w : Int) := by unfold mn; split <;> omega
 have c0 := JD (nl := true) (n := 0) (l := []) rfl (by intro x hx; cases hx)
 have e0 : lv [] (min 0 8) = 0 := rfl
 rw [e0] at c0
 by_cases h0 : r.e = 0
 ·by_cases hl : w ≤ r.s.length
  ·have e1 : (r.tk w).s.length = r.s.length - w := by unfold Rd.tk; rw [if_pos h0, if_pos hl, List.length_drop]
   have e2 : (r.tk w).e = 0 := by unfold Rd.tk; rw [if_pos h0, if_pos hl]
   have e3 : r.nv w = lv r.s w := by unfold Rd.nv; rw [if_pos ⟨h0, hl⟩]
   have c1 := JQ (nl := nl) (a := N - r.s.length) (w := w) hr.len hN (by omega) hnl
   rw [← hr.eq] at c1
   have c2 := JD (nl := nl) (n := w) (l := r.s.take w) (by rw [List.length_take]; omega) (hr.bytes.take w)
   rw [Nat.min_eq_left hw, Gh (Nat.le_refl w)] at c2
   have e4 : N - (r.s.length - w) = N - r.s.length + w := by omega
   rw [e1, e2, e3, h0, e4]
   generalize lv r.s w = v at *
   generalize r.s.take w = tk at *
   generalize N - r.s.length = a at *
   unfold rdq at *
   refine W.rtA [(3, aV (I6 w)), (4, aV (I6 w)), (5, cC false [(0, 0)] c1), (6, c9 c2)] [(0, 0)] [I6 (mx (w:Int) (0 : Int)) = I6 w, I6 (mn (w:Int) (8 : Int)) = I6 w, _, _] (ac (cg (h2)) (ac (cg (h3)) (ac (c1) (ao (c2)))))
  ·have e1 : (r.tk w).s = r.s := by unfold Rd.tk; rw [if_pos h0, if_neg hl]
   have e2 : (r.tk w).e = 2 := by unfold Rd.tk; rw [if_pos h0, if_neg hl]
   have e3 : r.nv w = 0 := by unfold Rd.nv; rw [if_neg (fun h => hl h.2)]
   have c1 := Pq (nl := nl) (a := N - r.s.length) (w := w) hr.len hN (by omega) (by omega) (by omega)
   rw [e1, e2, e3, h0]
   generalize N - r.s.length = a at *
   unfold rdq nilB at *
   refine W.rtA [(3, aV (I6 w)), (4, aV (I6 w)), (5, cC false [(0, 0)] c1), (6, c9 c0), (7, aV (U6 0))] [(0, 0)] [I6 (mx (w:Int) (0 : Int)) = I6 w, I6 (mn (w:Int) (8 : Int)) = I6 w, _, _, U6 ↑(0 : Nat) = U6 0] (ac (cg (h2)) (ac (cg (h3)) (ac (c1) (ac (c0) (ao (cg (by omega)))))))
 ·have e1 : r.tk w = r := by unfold Rd.tk; rw [if_neg h0]
  have e3 : r.nv w = 0 := by unfold Rd.nv; rw [if_neg (fun h => h0 h.1)]
  have c1 := Py (nl := nl) (a := N - r.s.length) (w := w) hr.len (by omega) he h0
  rw [e1, e3]
  generalize N - r.s.length = a at *
  generalize r.e = e at *
  unfold rdq nilB at *
  refine W.rtA [(3, aV (I6 w)), (4, aV (I6 w)), (5, cC false [(0, 0)] c1), (6, c9 c0), (7, aV (U6 0))] [(0, 0)] [I6 (mx (w:Int) (0 : Int)) = I6 w, I6 (mn (w:Int) (8 : Int)) = I6 w, _, _, U6 ↑(0 : Nat) = U6 0] (ac (cg (h2)) (ac (cg (h3)) (ac (c1) (ac (c0) (ao (cg (by omega)))))))
theorem Tj {nl : Bool} {N a e : Nat} {bs : Liz} (hl : bs.length = N) (he : e ≤ 100) : Pt 31 [(0, rdq nl N bs a e)] [.at 0 []] [(0, rdq nl N bs a e)] (.int .i64 e) := by
 refine pO Try.func31 (by kernel_rfl) ?_
 unfold rdq at *
 refine W.rtA [] [(0, 0)] [] trivial
theorem QF {nl : Bool} {N a e : Nat} {bs : Liz} (hl : bs.length = N) (hN : N ≤ 1000000) (ha : a ≤ N) : Pt 34 [(0, rdq nl N bs a e)] [.at 0 []] [(0, rdq nl N bs a e)] (.int .i64 ((N - a : Nat) : Int)) := by
 refine pO Try.func34 (by kernel_rfl) ?_
 have h : (N : Int) - (a : Int) = ((N - a : Nat) : Int) := by omega
 have hb : N - a ≤ 1000000 := by omega
 generalize N - a = m at *
 unfold rdq at *
 refine W.rtA [(10, aV (I6 m))] [(0, 0)] [I6 (IntKind.wrap .i64 ((N:Int) - (a:Int))) = I6 m] (ao (cg (Ab h (by omega) (by omega))))
end Go.Proofs
namespace Go.Proofs
open Go Go.Pe Go.Pm
set_option maxRecDepth 100000
set_option linter.unusedVariables false
theorem Gz (s : List Int) : lv s 1 = at0 s 0 := by simp [lv]
theorem Rd.Dk {r : Rd} {m x : Nat} (h : r.ve m = x) (hx : x ≠ 0) : r.var m = ⟨r.s, x⟩ ∧ r.vn m = 0 := by
 unfold Rd.var Rd.vn
 rw [h, if_neg hx, if_neg hx]
 exact ⟨rfl, rfl⟩
theorem Rd.Me {r : Rd} {m : Nat} (h : r.ve m = 0) : r.var m = ⟨r.s.drop (1 + wdt (at0 r.s 0)), 0⟩ ∧ r.vn m = FB r.s := by
 unfold Rd.var Rd.vn
 rw [if_pos h, if_pos h]
 exact ⟨rfl, rfl⟩
theorem QM {nl : Bool} {N m : Nat} {bs : Liz} {r : Rd} (hr : r.In bs N) (hN : N ≤ 1000000) (he : r.e ≤ 100) (hm : m < 18446744073709551616) (hnl : nl = true → N = 0) (h0 : r.e ≠ 0) : Pt 30 [(0, rdq nl N bs (N - r.s.length) r.e)] [.at 0 [], .int .u64 m] [(0, rdq nl N bs (N - r.s.length) r.e)] (.int .u64 0) := by
 refine pO Try.func30 (by kernel_rfl) ?_
 have hle := hr.le
 have hbl := hr.len
 have c1 := Cz (nl := nl) (w := 1) hr hN he (by omega) (by omega) hnl
 have e1 : r.tk 1 = r := by unfold Rd.tk; rw [if_neg h0]
 have e3 : r.nv 1 = 0 := by unfold Rd.nv; rw [if_neg (fun h => h0 h.1)]
 rw [e1, e3] at c1
 have h1 : ¬ ((r.e : Int) = 0) := by omega
 have hb : N - r.s.length ≤ 1000000 := by omega
 generalize N - r.s.length = a at *
 generalize r.e = e at *
 unfold rdq at *
 refine W.rtA [(7, cC false [(0, 0)] c1), (8, aV (U6 0)), (21, aT)] [(0, 0)] [_, U6 ↑(0 : Nat) = U6 0, ((e:Int) != 0) = true] (ac (c1) (ac (cg (by omega)) (ao (bne_iff_ne.2 (by omega)))))
theorem QX {nl : Bool} {N m : Nat} {bs : Liz} {r : Rd} (hr : r.In bs N) (hN : N ≤ 1000000) (hm : m < 18446744073709551616) (hnl : nl = true → N = 0) (h0 : r.e = 0) (hs : r.s.length = 0) : Pt 30 [(0, rdq nl N bs (N - r.s.length) 0)] [.at 0 [], .int .u64 m] [(0, rdq nl N bs (N - r.s.length) 2)] (.int .u64 0) := by
 refine pO Try.func30 (by kernel_rfl) ?_
 have hle := hr.le
 have hbl := hr.len
 have c1 := Cz (nl := nl) (w := 1) hr hN (by omega) (by omega) (by omega) hnl
 have e1 : r.tk 1 = ⟨r.s, 2⟩ := by unfold Rd.tk; rw [if_pos h0, if_neg (by omega)]
 have e3 : r.nv 1 = 0 := by unfold Rd.nv; rw [if_neg (fun h => by have := h.2; omega)]
 rw [e1, e3, h0] at c1
 have hb : N - r.s.length ≤ 1000000 := by omega
 generalize N - r.s.length = a at *
 unfold rdq at *
 refine W.rtA [(7, cC false [(0, 0)] c1), (8, aV (U6 0)), (20, aV (I6 2))] [(0, 0)] [_, U6 ↑(0 : Nat) = U6 0, I6 ↑(2 : Nat) = I6 2] (ac (c1) (ac (cg (by omega)) (ao (cg (by omega)))))
theorem Re {nl : Bool} {N m : Nat} {bs : Liz} {r : Rd} (hr : r.In bs N) (hN : N ≤ 1000000) (hm : m < 18446744073709551616) (hnl : nl = true → N = 0) (h0 : r.e = 0) (hs : 0 < r.s.length) (hw : at0 r.s 0 ≠ 253 ∧ at0 r.s 0 ≠ 254 ∧ at0 r.s 0 ≠ 255) :
  Pt 30 [(0, rdq nl N bs (N - r.s.length) 0)] [.at 0 [], .int .u64 m] [(0, rdq nl N bs (N - (r.var m).s.length) (r.var m).e)] (.int .u64 ((r.vn m : Nat) : Int)) := by
 refine pO Try.func30 (by kernel_rfl) ?_
 have hle := hr.le
 have hbl := hr.len
 have hx := Sn hr.bytes 0
 have c1 := Cz (nl := nl) (w := 1) hr hN (by omega) (by omega) (by omega) hnl
 have e1 : r.tk 1 = ⟨r.s.drop 1, 0⟩ := by unfold Rd.tk; rw [if_pos h0, if_pos (by omega)]
 have e3 : r.nv 1 = at0 r.s 0 := by unfold Rd.nv; rw [if_pos ⟨h0, by omega⟩, Gz]
 rw [e1, e3, h0] at c1
 have w0 : wdt (at0 r.s 0) = 0 := by unfold wdt; rw [if_neg hw.1, if_neg hw.2.1, if_neg hw.2.2]
 have l0 : lst (at0 r.s 0) = 0 := by unfold lst; rw [if_neg hw.1, if_neg hw.2.1, if_neg hw.2.2]
 have v0 : FB r.s = at0 r.s 0 := by unfold FB; rw [if_pos w0]
 have hve : r.ve m = if m < at0 r.s 0 then 4 else 0 := by unfold Rd.ve; rw [if_pos h0, w0, if_neg (by omega), l0, if_neg (by omega), v0]
 obtain ⟨n1, n2, n3⟩ := hw
 have b1 : ¬ ((at0 r.s 0 : Int) = 253) := by omega
 have b2 : ¬ ((at0 r.s 0 : Int) = 254) := by omega
 have b3 : ¬ ((at0 r.s 0 : Int) = 255) := by omega
 by_cases hlt : m < at0 r.s 0
 ·rw [if_pos hlt] at hve
  obtain ⟨q1, q2⟩ := Rd.Dk hve (by omega)
  rw [q1, q2]
  have c2 := Cq (nl := nl) (e := 0) (a := N - (r.s.drop 1).length) (a' := N - r.s.length) (e' := 4) hbl (by omega) (by omega) (by omega) (by omega)
  rw [if_pos rfl] at c2
  dsimp only at *
  have hb : N - r.s.length ≤ 1000000 := by omega
  have hb2 : N - (r.s.drop 1).length ≤ 1000000 := by omega
  clear hve q1 q2 e1 e3 w0 l0 v0 hle
  generalize at0 r.s 0 = x at *
  generalize N - (r.s.drop 1).length = a1 at *
  generalize N - r.s.length = a at *
  unfold rdq at *
  refine W.rtA [(7, cC false [(0, 0)] c1), (11, aF), (13, aF), (15, aF), (20, aV (I6 0)), (29, aT), (33, cC false [(0, 0)] c2)] [(0, 0)] [_, ((x:Int) == 253) = false, ((x:Int) == 254) = false, ((x:Int) == 255) = false, I6 ↑(0 : Nat) = I6 0, decide ((x:Int) > (m:Int)) = true, _] (ac (c1) (ac (dF (by omega)) (ac (dF (by omega)) (ac (dF (by omega)) (ac (cg (by omega)) (ac (dT (by omega)) (ao (c2))))))))
 ·rw [if_neg hlt] at hve
  obtain ⟨q1, q2⟩ := Rd.Me hve
  rw [w0] at q1
  rw [q1, q2, v0]
  dsimp only at *
  have hb : N - r.s.length ≤ 1000000 := by omega
  have hb2 : N - (r.s.drop 1).length ≤ 1000000 := by omega
  clear hve q1 q2 e1 e3 w0 l0 v0 hle
  rw [Nat.add_zero] at *
  generalize at0 r.s 0 = x at *
  generalize N - (r.s.drop 1).length = a1 at *
  generalize N - r.s.length = a at *
  unfold rdq at *
  refine W.rtA [(7, cC false [(0, 0)] c1), (11, aF), (13, aF), (15, aF), (20, aV (I6 0)), (29, aF)] [(0, 0)] [_, ((x:Int) == 253) = false, ((x:Int) == 254) = false, ((x:Int) == 255) = false, I6 ↑(0 : Nat) = I6 0, decide ((x:Int) > (m:Int)) = false] (ac (c1) (ac (dF (by omega)) (ac (dF (by omega)) (ac (dF (by omega)) (ac (cg (by omega)) (ao (dF (by omega))))))))
set_option maxHeartbeats 4000000 in
theorem Rh {nl : Bool} {N m : Nat} {bs : Liz} {r : Rd} (hr : r.In bs N) (hN : N ≤ 1000000) (hm : m < 18446744073709551616) (hnl : nl = true → N = 0) (h0 : r.e = 0) (hs : 0 < r.s.length) (hw : at0 r.s 0 = 253) :
  Pt 30 [(0, rdq nl N bs (N - r.s.length) 0)] [.at 0 [], .int .u64 m] [(0, rdq nl N bs (N - (r.var m).s.length) (r.var m).e)] (.int .u64 ((r.vn m : Nat) : Int)) := by
 refine pO Try.func30 (by kernel_rfl) ?_
 have hle := hr.le
 have hbl := hr.len
 have c1 := Cz (nl := nl) (w := 1) hr hN (by omega) (by omega) (by omega) hnl
 have e1 : r.tk 1 = ⟨r.s.drop 1, 0⟩ := by unfold Rd.tk; rw [if_pos h0, if_pos (by omega)]
 have e3 : r.nv 1 = 253 := by unfold Rd.nv; rw [if_pos ⟨h0, by omega⟩, Gz, hw]
 rw [e1, e3, h0] at c1
 have hr1 : (Rd.mk (r.s.drop 1) 0).In bs N := by rw [← e1]; exact hr.tk 1
 have c2 := Cz (nl := nl) (w := 2) hr1 hN (by show 0 ≤ 100; omega) (by omega) (by omega) hnl
 have w0 : wdt (at0 r.s 0) = 2 := by rw [hw]; rfl
 have l0 : lst (at0 r.s 0) = 253 := by rw [hw]; rfl
 have v0 : FB r.s = lv (r.s.drop 1) 2 := by unfold FB; rw [w0, if_neg (by omega)]
 have hl1 : (r.s.drop 1).length = r.s.length - 1 := List.length_drop
 by_cases hsh : r.s.length < 1 + 2
 ·have hve : r.ve m = 2 := by unfold Rd.ve; rw [if_pos h0, w0, if_pos hsh]
  obtain ⟨q1, q2⟩ := Rd.Dk hve (by omega)
  have t1 : (Rd.mk (r.s.drop 1) 0).tk 2 = ⟨r.s.drop 1, 2⟩ := by unfold Rd.tk; rw [if_pos rfl, if_neg (by show ¬ _ ≤ (r.s.drop 1).length; omega)]
  have t2 : (Rd.mk (r.s.drop 1) 0).nv 2 = 0 := by unfold Rd.nv; rw [if_neg (fun h => by have := h.2; simp only at this; omega)]
  rw [t1, t2] at c2
  rw [q1, q2]
  dsimp only at *
  have hb : N - r.s.length ≤ 1000000 := by omega
  have hb2 : N - (r.s.drop 1).length ≤ 1000000 := by omega
  clear hve q1 q2 e1 e3 w0 l0 v0 hle t1 t2 hl1
  generalize N - (r.s.drop 1).length = a1 at *
  generalize N - r.s.length = a at *
  unfold rdq at *
  refine W.rtA [(7, cC false [(0, 0)] c1), (8, aV (U6 253)), (14, cC false [(0, 0)] c2), (15, aV (U6 0)), (20, aV (I6 2))] [(0, 0)] [_, U6 ↑(253 : Nat) = U6 253, _, U6 ↑(0 : Nat) = U6 0, I6 ↑(2 : Nat) = I6 2] (ac (c1) (ac (cg (by omega)) (ac (c2) (ac (cg (by omega)) (ao (cg (by omega)))))))
 ·have t1 : (Rd.mk (r.s.drop 1) 0).tk 2 = ⟨r.s.drop (1 + 2), 0⟩ := by unfold Rd.tk; rw [if_pos rfl, if_pos (by show _ ≤ (r.s.drop 1).length; omega), List.drop_drop]
  have t2 : (Rd.mk (r.s.drop 1) 0).nv 2 = lv (r.s.drop 1) 2 := by unfold Rd.nv; rw [if_pos ⟨rfl, by show _ ≤ (r.s.drop 1).length; omega⟩]
  rw [t1, t2] at c2
  have hvl := Mw hr.bytes
  rw [v0] at hvl
  have hve : r.ve m = if lv (r.s.drop 1) 2 < 253 then 3 else if m < lv (r.s.drop 1) 2 then 4 else 0 := by unfold Rd.ve; rw [if_pos h0, w0, if_neg hsh, l0, v0]
  have hb : N - r.s.length ≤ 1000000 := by omega
  have hb2 : N - (r.s.drop 1).length ≤ 1000000 := by omega
  have hb3 : N - (r.s.drop (1 + 2)).length ≤ 1000000 := by omega
  by_cases hlt : lv (r.s.drop 1) 2 < 253
  ·rw [if_pos hlt] at hve
   obtain ⟨q1, q2⟩ := Rd.Dk hve (by omega)
   rw [q1, q2]
   have c3 := Cq (nl := nl) (e := 0) (a := N - (r.s.drop (1 + 2)).length) (a' := N - r.s.length) (e' := 3) hbl (by omega) (by omega) (by omega) (by omega)
   rw [if_pos rfl] at c3
   dsimp only at *
   clear hve q1 q2 e1 e3 w0 l0 v0 hle t1 t2 hl1
   generalize lv (r.s.drop 1) 2 = v at *
   generalize N - (r.s.drop (1 + 2)).length = a2 at *
   generalize N - (r.s.drop 1).length = a1 at *
   generalize N - r.s.length = a at *
   unfold rdq at *
   refine W.rtA [(7, cC false [(0, 0)] c1), (8, aV (U6 253)), (14, cC false [(0, 0)] c2), (20, aV (I6 0)), (25, aT), (29, cC false [(0, 0)] c3)] [(0, 0)] [_, U6 ↑(253 : Nat) = U6 253, _, I6 ↑(0 : Nat) = I6 0, decide ((v:Int) < 253) = true, _] (ac (c1) (ac (cg (by omega)) (ac (c2) (ac (cg (by omega)) (ac (dT (by omega)) (ao (c3)))))))
  ·rw [if_neg hlt] at hve
   by_cases hgt : m < lv (r.s.drop 1) 2
   ·rw [if_pos hgt] at hve
    obtain ⟨q1, q2⟩ := Rd.Dk hve (by omega)
    rw [q1, q2]
    have c3 := Cq (nl := nl) (e := 0) (a := N - (r.s.drop (1 + 2)).length) (a' := N - r.s.length) (e' := 4) hbl (by omega) (by omega) (by omega) (by omega)
    rw [if_pos rfl] at c3
    dsimp only at *
    clear hve q1 q2 e1 e3 w0 l0 v0 hle t1 t2 hl1
    generalize lv (r.s.drop 1) 2 = v at *
    generalize N - (r.s.drop (1 + 2)).length = a2 at *
    generalize N - (r.s.drop 1).length = a1 at *
    generalize N - r.s.length = a at *
    unfold rdq at *
    refine W.rtA [(7, cC false [(0, 0)] c1), (8, aV (U6 253)), (14, cC false [(0, 0)] c2), (20, aV (I6 0)), (25, aF), (29, aT), (33, cC false [(0, 0)] c3)] [(0, 0)] [_, U6 ↑(253 : Nat) = U6 253, _, I6 ↑(0 : Nat) = I6 0, decide ((v:Int) < 253) = false, decide ((v:Int) > (m:Int)) = true, _] (ac (c1) (ac (cg (by omega)) (ac (c2) (ac (cg (by omega)) (ac (dF (by omega)) (ac (dT (by omega)) (ao (c3))))))))
   ·rw [if_neg hgt] at hve
    obtain ⟨q1, q2⟩ := Rd.Me hve
    rw [w0] at q1
    rw [q1, q2, v0]
    dsimp only at *
    clear hve q1 q2 e1 e3 w0 l0 v0 hle t1 t2 hl1
    generalize lv (r.s.drop 1) 2 = v at *
    generalize N - (r.s.drop (1 + 2)).length = a2 at *
    generalize N - (r.s.drop 1).length = a1 at *
    generalize N - r.s.length = a at *
    unfold rdq at *
    refine W.rtA [(7, cC false [(0, 0)] c1), (8, aV (U6 253)), (14, cC false [(0, 0)] c2), (20, aV (I6 0)), (25, aF), (29, aF)] [(0, 0)] [_, U6 ↑(253 : Nat) = U6 253, _, I6 ↑(0 : Nat) = I6 0, decide ((v:Int) < 253) = false, decide ((v:Int) > (m:Int)) = false] (ac (c1) (ac (cg (by omega)) (ac (c2) (ac (cg (by omega)) (ac (dF (by omega)) (ao (dF (by omega))))))))
set_option maxHeartbeats 4000000 in
theorem Rk {nl : Bool} {N m : Nat} {bs : Liz} {r : Rd} (hr : r.In bs N) (hN : N ≤ 1000000) (hm : m < 18446744073709551616) (hnl : nl = true → N = 0) (h0 : r.e = 0) (hs : 0 < r.s.length) (hw : at0 r.s 0 = 254) :
  Pt 30 [(0, rdq nl N bs (N - r.s.length) 0)] [.at 0 [], .int .u64 m] [(0, rdq nl N bs (N - (r.var m).s.length) (r.var m).e)] (.int .u64 ((r.vn m : Nat) : Int)) := by
 refine pO Try.func30 (by kernel_rfl) ?_
 have hle := hr.le
 have hbl := hr.len
 have c1 := Cz (nl := nl) (w := 1) hr hN (by omega) (by omega) (by omega) hnl
 have e1 : r.tk 1 = ⟨r.s.drop 1, 0⟩ := by unfold Rd.tk; rw [if_pos h0, if_pos (by omega)]
 have e3 : r.nv 1 = 254 := by unfold Rd.nv; rw [if_pos ⟨h0, by omega⟩, Gz, hw]
 rw [e1, e3, h0] at c1
 have hr1 : (Rd.mk (r.s.drop 1) 0).In bs N := by rw [← e1]; exact hr.tk 1
 have c2 := Cz (nl := nl) (w := 4) hr1 hN (by show 0 ≤ 100; omega) (by omega) (by omega) hnl
 have w0 : wdt (at0 r.s 0) = 4 := by rw [hw]; rfl
 have l0 : lst (at0 r.s 0) = 65536 := by rw [hw]; rfl
 have v0 : FB r.s = lv (r.s.drop 1) 4 := by unfold FB; rw [w0, if_neg (by omega)]
 have hl1 : (r.s.drop 1).length = r.s.length - 1 := List.length_drop
 by_cases hsh : r.s.length < 1 + 4
 ·have hve : r.ve m = 2 := by unfold Rd.ve; rw [if_pos h0, w0, if_pos hsh]
  obtain ⟨q1, q2⟩ := Rd.Dk hve (by omega)
  have t1 : (Rd.mk (r.s.drop 1) 0).tk 4 = ⟨r.s.drop 1, 2⟩ := by unfold Rd.tk; rw [if_pos rfl, if_neg (by show ¬ _ ≤ (r.s.drop 1).length; omega)]
  have t2 : (Rd.mk (r.s.drop 1) 0).nv 4 = 0 := by unfold Rd.nv; rw [if_neg (fun h => by have := h.2; simp only at this; omega)]
  rw [t1, t2] at c2
  rw [q1, q2]
  dsimp only at *
  have hb : N - r.s.length ≤ 1000000 := by omega
  have hb2 : N - (r.s.drop 1).length ≤ 1000000 := by omega
  clear hve q1 q2 e1 e3 w0 l0 v0 hle t1 t2 hl1
  generalize N - (r.s.drop 1).length = a1 at *
  generalize N - r.s.length = a at *
  unfold rdq at *
  refine W.rtA [(7, cC false [(0, 0)] c1), (8, aV (U6 254)), (16, cC false [(0, 0)] c2), (17, aV (U6 0)), (22, aV (I6 2))] [(0, 0)] [_, U6 ↑(254 : Nat) = U6 254, _, U6 ↑(0 : Nat) = U6 0, I6 ↑(2 : Nat) = I6 2] (ac (c1) (ac (cg (by omega)) (ac (c2) (ac (cg (by omega)) (ao (cg (by omega)))))))
 ·have t1 : (Rd.mk (r.s.drop 1) 0).tk 4 = ⟨r.s.drop (1 + 4), 0⟩ := by unfold Rd.tk; rw [if_pos rfl, if_pos (by show _ ≤ (r.s.drop 1).length; omega), List.drop_drop]
  have t2 : (Rd.mk (r.s.drop 1) 0).nv 4 = lv (r.s.drop 1) 4 := by unfold Rd.nv; rw [if_pos ⟨rfl, by show _ ≤ (r.s.drop 1).length; omega⟩]
  rw [t1, t2] at c2
  have hvl := Mw hr.bytes
  rw [v0] at hvl
  have hve : r.ve m = if lv (r.s.drop 1) 4 < 65536 then 3 else if m < lv (r.s.drop 1) 4 then 4 else 0 := by unfold Rd.ve; rw [if_pos h0, w0, if_neg hsh, l0, v0]
  have hb : N - r.s.length ≤ 1000000 := by omega
  have hb2 : N - (r.s.drop 1).length ≤ 1000000 := by omega
  have hb3 : N - (r.s.drop (1 + 4)).length ≤ 1000000 := by omega
  by_cases hlt : lv (r.s.drop 1) 4 < 65536
  ·rw [if_pos hlt] at hve
   obtain ⟨q1, q2⟩ := Rd.Dk hve (by omega)
   rw [q1, q2]
   have c3 := Cq (nl := nl) (e := 0) (a := N - (r.s.drop (1 + 4)).length) (a' := N - r.s.length) (e' := 3) hbl (by omega) (by omega) (by omega) (by omega)
   rw [if_pos rfl] at c3
   dsimp only at *
   clear hve q1 q2 e1 e3 w0 l0 v0 hle t1 t2 hl1
   generalize lv (r.s.drop 1) 4 = v at *
   generalize N - (r.s.drop (1 + 4)).length = a2 at *
   generalize N - (r.s.drop 1).length = a1 at *
   generalize N - r.s.length = a at *
   unfold rdq at *
   refine W.rtA [(7, cC false [(0, 0)] c1), (8, aV (U6 254)), (16, cC false [(0, 0)] c2), (22, aV (I6 0)), (27, aT), (31, cC false [(0, 0)] c3)] [(0, 0)] [_, U6 ↑(254 : Nat) = U6 254, _, I6 ↑(0 : Nat) = I6 0, decide ((v:Int) < 65536) = true, _] (ac (c1) (ac (cg (by omega)) (ac (c2) (ac (cg (by omega)) (ac (dT (by omega)) (ao (c3)))))))
  ·rw [if_neg hlt] at hve
   by_cases hgt : m < lv (r.s.drop 1) 4
   ·rw [if_pos hgt] at hve
    obtain ⟨q1, q2⟩ := Rd.Dk hve (by omega)
    rw [q1, q2]
    have c3 := Cq (nl := nl) (e := 0) (a := N - (r.s.drop (1 + 4)).length) (a' := N - r.s.length) (e' := 4) hbl (by omega) (by omega) (by omega) (by omega)
    rw [if_pos rfl] at c3
    dsimp only at *
    clear hve q1 q2 e1 e3 w0 l0 v0 hle t1 t2 hl1
    generalize lv (r.s.drop 1) 4 = v at *
    generalize N - (r.s.drop (1 + 4)).length = a2 at *
    generalize N - (r.s.drop 1).length = a1 at *
    generalize N - r.s.length = a at *
    unfold rdq at *
    refine W.rtA [(7, cC false [(0, 0)] c1), (8, aV (U6 254)), (16, cC false [(0, 0)] c2), (22, aV (I6 0)), (27, aF), (31, aT), (35, cC false [(0, 0)] c3)] [(0, 0)] [_, U6 ↑(254 : Nat) = U6 254, _, I6 ↑(0 : Nat) = I6 0, decide ((v:Int) < 65536) = false, decide ((v:Int) > (m:Int)) = true, _] (ac (c1) (ac (cg (by omega)) (ac (c2) (ac (cg (by omega)) (ac (dF (by omega)) (ac (dT (by omega)) (ao (c3))))))))
   ·rw [if_neg hgt] at hve
    obtain ⟨q1, q2⟩ := Rd.Me hve
    rw [w0] at q1
    rw [q1, q2, v0]
    dsimp only at *
    clear hve q1 q2 e1 e3 w0 l0 v0 hle t1 t2 hl1
    generalize lv (r.s.drop 1) 4 = v at *
    generalize N - (r.s.drop (1 + 4)).length = a2 at *
    generalize N - (r.s.drop 1).length = a1 at *
    generalize N - r.s.length = a at *
    unfold rdq at *
    refine W.rtA [(7, cC false [(0, 0)] c1), (8, aV (U6 254)), (16, cC false [(0, 0)] c2), (22, aV (I6 0)), (27, aF), (31, aF)] [(0, 0)] [_, U6 ↑(254 : Nat) = U6 254, _, I6 ↑(0 : Nat) = I6 0, decide ((v:Int) < 65536) = false, decide ((v:Int) > (m:Int)) = false] (ac (c1) (ac (cg (by omega)) (ac (c2) (ac (cg (by omega)) (ac (dF (by omega)) (ao (dF (by omega))))))))
set_option maxHeartbeats 4000000 in
theorem Q7 {nl : Bool} {N m : Nat} {bs : Liz} {r : Rd} (hr : r.In bs N) (hN : N ≤ 1000000) (hm : m < 18446744073709551616) (hnl : nl = true → N = 0) (h0 : r.e = 0) (hs : 0 < r.s.length) (hw : at0 r.s 0 = 255) :
  Pt 30 [(0, rdq nl N bs (N - r.s.length) 0)] [.at 0 [], .int .u64 m] [(0, rdq nl N bs (N - (r.var m).s.length) (r.var m).e)] (.int .u64 ((r.vn m : Nat) : Int)) := by
 refine pO Try.func30 (by kernel_rfl) ?_
 have hle := hr.le
 have hbl := hr.len
 have c1 := Cz (nl := nl) (w := 1) hr hN (by omega) (by omega) (by omega) hnl
 have e1 : r.tk 1 = ⟨r.s.drop 1, 0⟩ := by unfold Rd.tk; rw [if_pos h0, if_pos (by omega)]
 have e3 : r.nv 1 = 255 := by unfold Rd.nv; rw [if_pos ⟨h0, by omega⟩, Gz, hw]
 rw [e1, e3, h0] at c1
 have hr1 : (Rd.mk (r.s.drop 1) 0).In bs N := by rw [← e1]; exact hr.tk 1
 have c2 := Cz (nl := nl) (w := 8) hr1 hN (by show 0 ≤ 100; omega) (by omega) (by omega) hnl
 have w0 : wdt (at0 r.s 0) = 8 := by rw [hw]; rfl
 have l0 : lst (at0 r.s 0) = 4294967296 := by rw [hw]; rfl
 have v0 : FB r.s = lv (r.s.drop 1) 8 := by unfold FB; rw [w0, if_neg (by omega)]
 have hl1 : (r.s.drop 1).length = r.s.length - 1 := List.length_drop
 by_cases hsh : r.s.length < 1 + 8
 ·have hve : r.ve m = 2 := by unfold Rd.ve; rw [if_pos h0, w0, if_pos hsh]
  obtain ⟨q1, q2⟩ := Rd.Dk hve (by omega)
  have t1 : (Rd.mk (r.s.drop 1) 0).tk 8 = ⟨r.s.drop 1, 2⟩ := by unfold Rd.tk; rw [if_pos rfl, if_neg (by show ¬ _ ≤ (r.s.drop 1).length; omega)]
  have t2 : (Rd.mk (r.s.drop 1) 0).nv 8 = 0 := by unfold Rd.nv; rw [if_neg (fun h => by have := h.2; simp only at this; omega)]
  rw [t1, t2] at c2
  rw [q1, q2]
  dsimp only at *
  have hb : N - r.s.length ≤ 1000000 := by omega
  have hb2 : N - (r.s.drop 1).length ≤ 1000000 := by omega
  clear hve q1 q2 e1 e3 w0 l0 v0 hle t1 t2 hl1
  generalize N - (r.s.drop 1).length = a1 at *
  generalize N - r.s.length = a at *
  unfold rdq at *
  refine W.rtA [(7, cC false [(0, 0)] c1), (8, aV (U6 255)), (18, cC false [(0, 0)] c2), (19, aV (U6 0)), (24, aV (I6 2))] [(0, 0)] [_, U6 ↑(255 : Nat) = U6 255, _, U6 ↑(0 : Nat) = U6 0, I6 ↑(2 : Nat) = I6 2] (ac (c1) (ac (cg (by omega)) (ac (c2) (ac (cg (by omega)) (ao (cg (by omega)))))))
 ·have t1 : (Rd.mk (r.s.drop 1) 0).tk 8 = ⟨r.s.drop (1 + 8), 0⟩ := by unfold Rd.tk; rw [if_pos rfl, if_pos (by show _ ≤ (r.s.drop 1).length; omega), List.drop_drop]
  have t2 : (Rd.mk (r.s.drop 1) 0).nv 8 = lv (r.s.drop 1) 8 := by unfold Rd.nv; rw [if_pos ⟨rfl, by show _ ≤ (r.s.drop 1).length; omega⟩]
  rw [t1, t2] at c2
  have hvl := Mw hr.bytes
  rw [v0] at hvl
  have hve : r.ve m = if lv (r.s.drop 1) 8 < 4294967296 then 3 else if m < lv (r.s.drop 1) 8 then 4 else 0 := by unfold Rd.ve; rw [if_pos h0, w0, if_neg hsh, l0, v0]
  have hb : N - r.s.length ≤ 1000000 := by omega
  have hb2 : N - (r.s.drop 1).length ≤ 1000000 := by omega
  have hb3 : N - (r.s.drop (1 + 8)).length ≤ 1000000 := by omega
  by_cases hlt : lv (r.s.drop 1) 8 < 4294967296
  ·rw [if_pos hlt] at hve
   obtain ⟨q1, q2⟩ := Rd.Dk hve (by omega)
   rw [q1, q2]
   have c3 := Cq (nl := nl) (e := 0) (a := N - (r.s.drop (1 + 8)).length) (a' := N - r.s.length) (e' := 3) hbl (by omega) (by omega) (by omega) (by omega)
   rw [if_pos rfl] at c3
   dsimp only at *
   clear hve q1 q2 e1 e3 w0 l0 v0 hle t1 t2 hl1
   generalize lv (r.s.drop 1) 8 = v at *
   generalize N - (r.s.drop (1 + 8)).length = a2 at *
   generalize N - (r.s.drop 1).length = a1 at *
   generalize N - r.s.length = a at *
   unfold rdq at *
   refine W.rtA [(7, cC false [(0, 0)] c1), (8, aV (U6 255)), (18, cC false [(0, 0)] c2), (24, aV (I6 0)), (29, aT), (33, cC false [(0, 0)] c3)] [(0, 0)] [_, U6 ↑(255 : Nat) = U6 255, _, I6 ↑(0 : Nat) = I6 0, decide ((v:Int) < 4294967296) = true, _] (ac (c1) (ac (cg (by omega)) (ac (c2) (ac (cg (by omega)) (ac (dT (by omega)) (ao (c3)))))))
  ·rw [if_neg hlt] at hve
   by_cases hgt : m < lv (r.s.drop 1) 8
   ·rw [if_pos hgt] at hve
    obtain ⟨q1, q2⟩ := Rd.Dk hve (by omega)
    rw [q1, q2]
    have c3 := Cq (nl := nl) (e := 0) (a := N - (r.s.drop (1 + 8)).length) (a' := N - r.s.length) (e' := 4) hbl (by omega) (by omega) (by omega) (by omega)
    rw [if_pos rfl] at c3
    dsimp only at *
    clear hve q1 q2 e1 e3 w0 l0 v0 hle t1 t2 hl1
    generalize lv (r.s.drop 1) 8 = v at *
    generalize N - (r.s.drop (1 + 8)).length = a2 at *
    generalize N - (r.s.drop 1).length = a1 at *
    generalize N - r.s.length = a at *
    unfold rdq at *
    refine W.rtA [(7, cC false [(0, 0)] c1), (8, aV (U6 255)), (18, cC false [(0, 0)] c2), (24, aV (I6 0)), (29, aF), (33, aT), (37, cC false [(0, 0)] c3)] [(0, 0)] [_, U6 ↑(255 : Nat) = U6 255, _, I6 ↑(0 : Nat) = I6 0, decide ((v:Int) < 4294967296) = false, decide ((v:Int) > (m:Int)) = true, _] (ac (c1) (ac (cg (by omega)) (ac (c2) (ac (cg (by omega)) (ac (dF (by omega)) (ac (dT (by omega)) (ao (c3))))))))
   ·rw [if_neg hgt] at hve
    obtain ⟨q1, q2⟩ := Rd.Me hve
    rw [w0] at q1
    rw [q1, q2, v0]
    dsimp only at *
    clear hve q1 q2 e1 e3 w0 l0 v0 hle t1 t2 hl1
    generalize lv (r.s.drop 1) 8 = v at *
    generalize N - (r.s.drop (1 + 8)).length = a2 at *
    generalize N - (r.s.drop 1).length = a1 at *
    generalize N - r.s.length = a at *
    unfold rdq at *
    refine W.rtA [(7, cC false [(0, 0)] c1), (8, aV (U6 255)), (18, cC false [(0, 0)] c2), (24, aV (I6 0)), (29, aF), (33, aF)] [(0, 0)] [_, U6 ↑(255 : Nat) = U6 255, _, I6 ↑(0 : Nat) = I6 0, decide ((v:Int) < 4294967296) = false, decide ((v:Int) > (m:Int)) = false] (ac (c1) (ac (cg (by omega)) (ac (c2) (ac (cg (by omega)) (ac (dF (by omega)) (ao (dF (by omega))))))))
theorem TH {nl : Bool} {N m : Nat} {bs : Liz} {r : Rd} (hr : r.In bs N) (hN : N ≤ 1000000) (he : r.e ≤ 100) (hm : m < 18446744073709551616) (hnl : nl = true → N = 0) :
  Pt 30 [(0, rdq nl N bs (N - r.s.length) r.e)] [.at 0 [], .int .u64 m] [(0, rdq nl N bs (N - (r.var m).s.length) (r.var m).e)] (.int .u64 ((r.vn m : Nat) : Int)) := by
 by_cases h0 : r.e = 0
 ·rw [h0]
  by_cases hs : r.s.length = 0
  ·have a0 : at0 r.s 0 = 0 := by rw [List.eq_nil_of_length_eq_zero hs]; rfl
   have hve : r.ve m = 2 := by unfold Rd.ve; rw [if_pos h0, a0]; exact if_pos (by show r.s.length < 1 + 0; omega)
   obtain ⟨q1, q2⟩ := Rd.Dk hve (by omega)
   rw [q1, q2]
   exact QX hr hN hm hnl h0 hs
  ·by_cases h2 : at0 r.s 0 = 253
   ·exact Rh hr hN hm hnl h0 (by omega) h2
   ·by_cases h4 : at0 r.s 0 = 254
    ·exact Rk hr hN hm hnl h0 (by omega) h4
    ·by_cases h8 : at0 r.s 0 = 255
     ·exact Q7 hr hN hm hnl h0 (by omega) h8
     ·exact Re hr hN hm hnl h0 (by omega) ⟨h2, h4, h8⟩
 ·have hve : r.ve m = r.e := by unfold Rd.ve; rw [if_neg h0]
  obtain ⟨q1, q2⟩ := Rd.Dk hve h0
  rw [q1, q2]
  exact QM hr hN he hm hnl h0
end Go.Proofs
namespace Go.Proofs
open Go Go.Pe Go.Pm
set_option maxRecDepth 100000
set_option linter.unusedVariables false
theorem lv_rev {b : List Int} {i n : Nat} (hi : i < n) : lv (b.drop i) (n - i) = at0 b i + 256 * lv (b.drop (i + 1)) (n - (i + 1)) := by
 have e : n - i = 1 + (n - (i + 1)) := by omega
 rw [e, J7, Gz, List.drop_drop]
 have : at0 (b.drop i) 0 = at0 b i := by unfold at0; simp [List.getD_eq_getElem?_getD]
 rw [this]
def Qo (n : Nat) (b : List Int) (nl : Bool) (x : Nat) (i : Int) : DS := ⟨[(0, .vec nl (.iarr .u8 n b)), (3, .int .u64 x), (4, .int .i64 i)], []⟩
theorem W_val {n : Nat} {b : Liz} {nl : Bool} (hl : b.length = n) (hb : Bytes b) (hn : n ≤ 8) : ∀ (i x : Nat), i ≤ n → x = lv (b.drop i) (n - i) →
  Wt Try.f62 [] [] (.int .u64 ((lv b n : Nat) : Int)) (Aa Try.f62 0) (Qo n b nl x ((i : Int) - 1))
 | 0, x, hi, hx => by
  have e : x = lv b n := hx
  rw [← e]
  have h1 : ((0 : Nat) : Int) - 1 = -1 := rfl
  rw [h1]
  unfold Qo
  refine W.rtA [] [] [] trivial
 | i + 1, x, hi, hx => by
  have hrev := lv_rev (b := b) (i := i) (n := n) (by omega)
  rw [← hx] at hrev
  obtain ⟨g, hlt⟩ := hb.get i
  have hlim := Fx (hb.drop i) (n - i)
  have hlim2 : 2 ^ (8 * (n - i)) ≤ 2 ^ 64 := Nat.pow_le_pow_right (by omega) (by omega)
  have hyl : at0 b i + 256 * x < 18446744073709551616 := by rw [← hrev]; exact Nat.lt_of_lt_of_le hlim hlim2
  have hw := W_val (nl := nl) hl hb hn i (at0 b i + 256 * x) (by omega) hrev.symm
  have h1 : ((i + 1 : Nat) : Int) - 1 = (i : Int) := by omega
  rw [h1]
  clear hrev hlim hlim2 hx
  have hxl : x < 18446744073709551616 := by omega
  have hx256 : x * 256 < 18446744073709551616 := by omega
  have hs : x * 256 + at0 b i = at0 b i + 256 * x := by omega
  rw [← hs] at hw hyl
  generalize lv b n = res at *
  generalize at0 b i = y at *
  unfold Qo at *
  refine W.seg [(3, aT), (5, aV (U6 ↑(256 * x))), (9, aV (U8 y)), (10, aV (U6 y)), (11, aV (U6 ↑(256 * x + y))), (14, aV (I6 ((i:Int) - 1)))] [] (⟨[(0, .vec nl (.iarr .u8 n b)), (3, .int .u64 ((x * 256 + y : Nat) : Int)), (4, .int .i64 ((i : Int) - 1))], []⟩ : DS) (todo' := Aa Try.f62 0) [decide ((i:Int) < 8) = true, U6 (IntKind.wrap .u64 ((x:Int) * (256 : Int))) = U6 ↑(256 * x), 0 ≤ (i:Int), (i:Int) < (n:Int), U8 (List.getD b i (0 : Int)) = U8 y, i < n, U6 (IntKind.wrap .u64 (y:Int)) = U6 y, U6 (IntKind.wrap .u64 ((↑(256 * x) : Int) + (y:Int))) = U6 ↑(256 * x + y), I6 (IntKind.wrap .i64 ((i:Int) - 1)) = I6 ((i:Int) - 1), rr (PV.vec nl (B8 n b)), U6 ↑(256 * x + y) = U6 ↑(x * 256 + y), rr (I6 ((i:Int) - 1))] (by kernel_rfl) (ac (dT (by omega)) (ac (cg (Aj (by omega) (by omega) (by omega))) (ob2 (by omega) (ac (cg (g)) (ac (by omega) (ac (cg (Aj rfl (by omega) (by omega))) (ac (cg (Aj rfl (by omega) (by omega))) (ac (wj (by omega)) (ac rfl (ac (cg (by omega)) (ao rfl))))))))))) ?_
  exact hw
theorem OZ {s : ByteArray} {nl : Bool} (hs : s.size ≤ 8) : Pt 62 [] [.vec nl (.iarr .u8 s.size (bytesOf s))] [] (.int .u64 ((lv (bytesOf s) s.size : Nat) : Int)) := by
 refine pO Try.func62 (by kernel_rfl) ?_
 have hl := bytesOf_length s
 have hw := W_val (nl := nl) hl (Gp s) hs s.size 0 (Nat.le_refl _) (by rw [Nat.sub_self]; rfl)
 generalize lv (bytesOf s) s.size = res at *
 generalize bytesOf s = b at *
 generalize s.size = n at *
 unfold Qo at *
 refine W.sgA 0 [(4, aV (I6 ((n:Int) - 1)))] [] (⟨[(0, .vec nl (.iarr .u8 n b)), (3, .int .u64 (0 : Int)), (4, .int .i64 ((n : Int) - 1))], []⟩ : DS) [I6 (IntKind.wrap .i64 ((n:Int) - 1)) = I6 ((n:Int) - 1)] (ao (wj (by omega))) ?_
 exact hw
theorem Rd.In.size {r : Rd} {bs : List Int} {N : Nat} (h : r.In bs N) : (strOf r.s).size = r.s.length := Ak _
end Go.Proofs
namespace Go.Pm
def vb (n : Nat) : List Int := if n < 253 then le n 1 else if n < 65536 then 253 :: le n 2 else if n < 4294967296 then 254 :: le n 4 else 255 :: le n 8
end Go.Pm
namespace Go.Proofs
open Go Go.Pe Go.Pm
set_option maxRecDepth 100000
set_option linter.unusedVariables false
set_option maxHeartbeats 4000000 in
theorem Tv {n : Nat} (hn : n < 18446744073709551616) : Pt 28 [] [.int .u64 n] [] (.str (strOf (vb n))) := by
 refine pO Try.func28 (by kernel_rfl) ?_
 unfold vb
 by_cases h1 : n < 253
 ·rw [if_pos h1]
  have c1 := HZ (x := n) (w := 1) hn (by omega) (by omega)
  have hsz : (strOf (le n 1)).size = 1 := by rw [Ak, AV]
  generalize strOf (le n 1) = s at *
  refine W.rtA [(2, aT), (4, c9 c1)] [] [decide ((n:Int) < 253) = true, _] (ac (dT (by omega)) (ao (c1)))
 ·rw [if_neg h1]
  by_cases h2 : n < 65536
  ·rw [if_pos h2]
   have c1 := HZ (x := n) (w := 2) hn (by omega) (by omega)
   have e : (ByteArray.mk #[253]) ++ strOf (le n 2) = strOf (253 :: le n 2) := AU [253] _
   generalize strOf (253 :: le n 2) = s2 at *
   have hsz : (strOf (le n 2)).size = 2 := by rw [Ak, AV]
   generalize strOf (le n 2) = s at *
   refine W.ret [(2, aF), (4, aT), (6, c9 c1)] [] [decide ((n:Int) < 253) = false, decide ((n:Int) < 65536) = true, _, 1 + ByteArray.size s ≤ 9223372036854775807, PV.str (ByteArray.mk #[(253 : UInt8)] ++ s) = PV.str s2] (by kernel_rfl) (ac (dF (by omega)) (ac (dT (by omega)) (ac (c1) (ac (by omega) (ao (by (simp [I6, U6, U3, U8]; omega)))))))
  ·rw [if_neg h2]
   by_cases h3 : n < 4294967296
   ·rw [if_pos h3]
    have c1 := HZ (x := n) (w := 4) hn (by omega) (by omega)
    have e : (ByteArray.mk #[254]) ++ strOf (le n 4) = strOf (254 :: le n 4) := AU [254] _
    generalize strOf (254 :: le n 4) = s2 at *
    have hsz : (strOf (le n 4)).size = 4 := by rw [Ak, AV]
    generalize strOf (le n 4) = s at *
    refine W.ret [(2, aF), (4, aF), (6, aT), (8, c9 c1)] [] [decide ((n:Int) < 253) = false, decide ((n:Int) < 65536) = false, decide ((n:Int) < 4294967296) = true, _, 1 + ByteArray.size s ≤ 9223372036854775807, PV.str (ByteArray.mk #[(254 : UInt8)] ++ s) = PV.str s2] (by kernel_rfl) (ac (dF (by omega)) (ac (dF (by omega)) (ac (dT (by omega)) (ac (c1) (ac (by omega) (ao (by (simp [I6, U6, U3, U8]; omega))))))))
   ·rw [if_neg h3]
    have c1 := HZ (x := n) (w := 8) hn (by omega) (by omega)
    have e : (ByteArray.mk #[255]) ++ strOf (le n 8) = strOf (255 :: le n 8) := AU [255] _
    generalize strOf (255 :: le n 8) = s2 at *
    have hsz : (strOf (le n 8)).size = 8 := by rw [Ak, AV]
    generalize strOf (le n 8) = s at *
    refine W.ret [(2, aF), (4, aF), (6, aF), (8, c9 c1)] [] [decide ((n:Int) < 253) = false, decide ((n:Int) < 65536) = false, decide ((n:Int) < 4294967296) = false, _, 1 + ByteArray.size s ≤ 9223372036854775807, PV.str (ByteArray.mk #[(255 : UInt8)] ++ s) = PV.str s2] (by kernel_rfl) (ac (dF (by omega)) (ac (dF (by omega)) (ac (dF (by omega)) (ac (c1) (ac (by omega) (ao (by (simp [I6, U6, U3, U8]; omega))))))))
end Go.Proofs
namespace Go.Proofs
open Go Go.Pe Go.Pm
set_option maxRecDepth 100000
set_option linter.unusedVariables false
theorem Ma {a b : List Int} (ha : Bytes a) (hb : Bytes b) (h : strOf a = strOf b) : a = b := by
 rw [← CZ ha, ← CZ hb, h]
theorem Oe (b : ByteArray) : ∀ (k i : Nat) (r : List UInt8), i + k = b.size → ByteArray.toList.loop b i r = r.reverse ++ b.data.toList.drop i := by
 intro k
 induction k with
 | zero =>
  intro i r h
  rw [ByteArray.toList.loop, if_neg (by omega), List.drop_of_length_le (by show b.data.toList.length ≤ i; have : b.data.toList.length = b.size := rfl; omega), List.append_nil]
 | succ k ih =>
  intro i r h
  rw [ByteArray.toList.loop, if_pos (by omega), ih (i + 1) _ (by omega)]
  have hlt : i < b.data.toList.length := by have : b.data.toList.length = b.size := rfl; omega
  rw [List.reverse_cons, List.append_assoc, List.drop_eq_getElem_cons hlt]
  congr 1
  simp only [List.singleton_append, List.cons.injEq, and_true]
  have hs : i < b.size := by omega
  simp [ByteArray.get!, hs]
theorem K5 (b : ByteArray) : b.toList = b.data.toList := by
 have := Oe b b.size 0 [] (by omega)
 simpa [ByteArray.toList] using this
theorem ba_eq {a b : ByteArray} : (a.toList == b.toList) = true ↔ a = b := by
 rw [beq_iff_eq, K5, K5]
 constructor
 ·intro h
  exact ByteArray.ext (Array.toList_inj.1 h)
 ·intro h; rw [h]
theorem ba_eqT {a b : ByteArray} (h : a = b) : (a.toList == b.toList) = true := ba_eq.2 h
theorem ba_eqF {a b : ByteArray} (h : ¬ a = b) : (a.toList == b.toList) = false := by
 cases hh : a.toList == b.toList with
 | false => rfl
 | true => exact absurd (ba_eq.1 hh) h
end Go.Proofs
namespace Go.Proofs
open Go Go.Pe Go.Pm
theorem MM {s : List Int} (hb : Bytes s) {i : Nat} {x : Int} (h : s[i]? = some x) : CP (strOf s) i = x := by
 obtain ⟨hi, hx⟩ := List.getElem?_eq_some_iff.1 h
 have hm := hb x (List.mem_of_getElem? h)
 unfold CP strOf
 simp [hi, hx]
 omega
def GH (n : Nat) : Nat → List Int
 | 0 => []
 | w + 1 => ((48 + n / 2 ^ w % 2 : Nat) : Int) :: GH n w
theorem FK (n : Nat) : ∀ w, (GH n w).length = w
 | 0 => rfl
 | w + 1 => by unfold GH; rw [List.length_cons, FK]
end Go.Proofs
namespace Go.Proofs
open Go Go.Pe Go.Pm
set_option maxRecDepth 100000
set_option linter.unusedVariables false
-- a number's bits
def dBi (n w i : Nat) (s : ByteArray) : DS := ⟨[(0, .int .u64 n), (1, .int .i64 w), (5, .str s), (6, .int .i64 i)], []⟩
theorem W_bi1 {n m w i : Nat} {s s2 : ByteArray} {hout : Lrz} {res : PV} (hn : n = 2 * m + 1) (hm : m < 9223372036854775808) (hi : i < w) (hw : w ≤ 64) (hs : s.size ≤ 64) (e : ByteArray.mk #[49] ++ s = s2) (h : Wt Try.f63 [] hout res (Aa Try.f63 0) (dBi m w (i + 1) s2)) :
  Wt Try.f63 [] hout res (Aa Try.f63 0) (dBi n w i s) := by
 refine W.seg [(2, aT), (4, aV (U6 ↑(n % 2))), (5, aT), (10, aV (U6 ↑(n / 2))), (13, aV (I6 ↑(i + 1)))] [] (dBi m w (i + 1) s2) (todo' := Aa Try.f63 0) [decide ((i:Int) < (w:Int)) = true, U6 (Int.tmod (n:Int) (2 : Int)) = U6 ↑(n % 2), (2 : Int) ≠ 0, ((↑(n % 2) : Int) == 1) = true, 1 + ByteArray.size s ≤ 9223372036854775807, U6 (IntKind.wrap .u64 (Int.tdiv (n:Int) (2 : Int))) = U6 ↑(n / 2), (2 : Int) ≠ 0, I6 (IntKind.wrap .i64 ((i:Int) + 1)) = I6 ↑(i + 1), U6 ↑(n / 2) = U6 m, rr (I6 w), PV.str (ByteArray.mk #[(49 : UInt8)] ++ s) = PV.str s2, rr (I6 ↑(i + 1))] (by kernel_rfl) (ac (dT (by omega)) (ac (cg rfl) (ac (by omega) (ac (dT (by omega)) (ac (by omega) (ac (cg (Aj rfl (by omega) (by omega))) (ac (by omega) (ac (wj (by omega)) (ac (cg (by omega)) (ac rfl (ac (by (simp [I6, U6, U3, U8]; omega)) (ao rfl)))))))))))) ?_
 exact h
theorem W_bi0 {n m w i : Nat} {s s2 : ByteArray} {hout : Lrz} {res : PV} (hn : n = 2 * m) (hm : m < 9223372036854775808) (hi : i < w) (hw : w ≤ 64) (hs : s.size ≤ 64) (e : ByteArray.mk #[48] ++ s = s2) (h : Wt Try.f63 [] hout res (Aa Try.f63 0) (dBi m w (i + 1) s2)) :
  Wt Try.f63 [] hout res (Aa Try.f63 0) (dBi n w i s) := by
 refine W.seg [(2, aT), (4, aV (U6 ↑(n % 2))), (5, aF), (10, aV (U6 ↑(n / 2))), (13, aV (I6 ↑(i + 1)))] [] (dBi m w (i + 1) s2) (todo' := Aa Try.f63 0) [decide ((i:Int) < (w:Int)) = true, U6 (Int.tmod (n:Int) (2 : Int)) = U6 ↑(n % 2), (2 : Int) ≠ 0, ((↑(n % 2) : Int) == 1) = false, 1 + ByteArray.size s ≤ 9223372036854775807, U6 (IntKind.wrap .u64 (Int.tdiv (n:Int) (2 : Int))) = U6 ↑(n / 2), (2 : Int) ≠ 0, I6 (IntKind.wrap .i64 ((i:Int) + 1)) = I6 ↑(i + 1), U6 ↑(n / 2) = U6 m, rr (I6 w), PV.str (ByteArray.mk #[(48 : UInt8)] ++ s) = PV.str s2, rr (I6 ↑(i + 1))] (by kernel_rfl) (ac (dT (by omega)) (ac (cg rfl) (ac (by omega) (ac (dF (by omega)) (ac (by omega) (ac (cg (Aj rfl (by omega) (by omega))) (ac (by omega) (ac (wj (by omega)) (ac (cg (by omega)) (ac rfl (ac (by (simp [I6, U6, U3, U8]; omega)) (ao rfl)))))))))))) ?_
 exact h
theorem W_biX {n w : Nat} {s : ByteArray} : Wt Try.f63 [] [] (.str s) (Aa Try.f63 0) (dBi n w w s) := by
 refine W.rtA [(2, aF)] [] [decide ((w:Int) < (w:Int)) = false] (ao (dF (by omega)))
theorem W_biIn {n w : Nat} {hout : Lrz} {res : PV} (h : Wt Try.f63 [] hout res (Aa Try.f63 0) (dBi n w 0 ByteArray.empty)) :
  Pt 63 [] [.int .u64 n, .int .i64 w] hout res := by
 refine pO Try.func63 (by kernel_rfl) ?_
 refine W.seg [] [] (dBi n w 0 ByteArray.empty) (todo' := Aa Try.f63 0) [rr (U6 n), rr (I6 w), PV.str (ByteArray.mk #[]) = PV.str ByteArray.empty, I6 0 = I6 ↑(0 : Nat)] (by kernel_rfl) (ac rfl (ac rfl (ac rfl (ao (cg (by omega)))))) ?_
 exact h
-- a text's number
def dNm (x i : Nat) (s : ByteArray) : DS := ⟨[(0, .str s), (3, .int .u64 x), (4, .int .i64 i)], []⟩
theorem W_nm1 {x i : Nat} {s : ByteArray} {hout : Lrz} {res : PV} (hx : x < 68719476736) (hi : i < s.size) (hs : s.size ≤ 32) (e : CP s i = 49) (h : Wt Try.f41 [] hout res (Aa Try.f41 0) (dNm (2 * x + 1) (i + 1) s)) :
  Wt Try.f41 [] hout res (Aa Try.f41 0) (dNm x i s) := by
 refine W.sgA 0 [(3, aT), (5, aV (U6 ↑(2 * x))), (9, aV (U8 49)), (12, aV (U6 ↑(2 * x + 1))), (15, aV (I6 ↑(i + 1)))] [] (dNm (2 * x + 1) (i + 1) s) [decide ((i:Int) < (↑(ByteArray.size s) : Int)) = true, U6 (IntKind.wrap .u64 ((x:Int) * (2 : Int))) = U6 ↑(2 * x), U8 (CP s (i:Int)) = U8 49, 0 ≤ (i:Int), (i:Int) < (↑(ByteArray.size s) : Int), U6 (IntKind.wrap .u64 ((↑(2 * x) : Int) + 1)) = U6 ↑(2 * x + 1), I6 (IntKind.wrap .i64 ((i:Int) + 1)) = I6 ↑(i + 1)] (ac (dT (by omega)) (ac (cg (Aj (by omega) (by omega) (by omega))) (ac (cg (e)) (ob2 (by omega) (ac (cg (Aj rfl (by omega) (by omega))) (ao (wj (by omega)))))))) ?_
 exact h
theorem W_nm0 {x i : Nat} {s : ByteArray} {hout : Lrz} {res : PV} (hx : x < 68719476736) (hi : i < s.size) (hs : s.size ≤ 32) (e : CP s i = 48) (h : Wt Try.f41 [] hout res (Aa Try.f41 0) (dNm (2 * x) (i + 1) s)) :
  Wt Try.f41 [] hout res (Aa Try.f41 0) (dNm x i s) := by
 refine W.sgA 0 [(3, aT), (5, aV (U6 ↑(2 * x))), (9, aV (U8 48)), (12, aV (I6 ↑(i + 1)))] [] (dNm (2 * x) (i + 1) s) [decide ((i:Int) < (↑(ByteArray.size s) : Int)) = true, U6 (IntKind.wrap .u64 ((x:Int) * (2 : Int))) = U6 ↑(2 * x), U8 (CP s (i:Int)) = U8 48, 0 ≤ (i:Int), (i:Int) < (↑(ByteArray.size s) : Int), I6 (IntKind.wrap .i64 ((i:Int) + 1)) = I6 ↑(i + 1)] (ac (dT (by omega)) (ac (cg (Aj (by omega) (by omega) (by omega))) (ac (cg (e)) (ob2 (by omega) (ao (wj (by omega))))))) ?_
 exact h
theorem W_nmX {x : Nat} {s : ByteArray} (hs : s.size ≤ 32) : Wt Try.f41 [] [] (.int .u64 x) (Aa Try.f41 0) (dNm x s.size s) := by
 refine W.rtA [(3, aF)] [] [decide ((↑(ByteArray.size s) : Int) < (↑(ByteArray.size s) : Int)) = false] (ao (dF (by omega)))
theorem W_nmIn {s : ByteArray} {hout : Lrz} {res : PV} (h : Wt Try.f41 [] hout res (Aa Try.f41 0) (dNm 0 0 s)) :
  Pt 41 [] [.str s] hout res := by
 refine pO Try.func41 (by kernel_rfl) ?_
 refine W.sgA 0 [] [] (dNm 0 0 s) [] trivial ?_
 exact h
-- taken
end Go.Proofs
namespace Go.Proofs
open Go Go.Pe Go.Pm
set_option maxRecDepth 100000
theorem Nj {n0 w : Nat} (hw : w ≤ 64) (hn : n0 < 18446744073709551616) : ∀ (k i : Nat), i + k = w →
  Wt Try.f63 [] [] (.str (strOf (GH n0 w))) (Aa Try.f63 0) (dBi (n0 / 2 ^ i) w i (strOf (GH n0 i)))
 | 0, i, h => by
  obtain rfl : i = w := by omega
  exact W_biX
 | k + 1, i, h => by
  have hw2 := Nj hw hn k (i + 1) (by omega)
  have hd : n0 / 2 ^ i ≤ n0 := Nat.div_le_self _ _
  have hs : (strOf (GH n0 i)).size ≤ 64 := by rw [Ak, FK]; omega
  have e2 : n0 / 2 ^ (i + 1) = n0 / 2 ^ i / 2 := by rw [Nat.pow_succ, Nat.div_div_eq_div_mul]
  rw [e2] at hw2
  rcases Nat.mod_two_eq_zero_or_one (n0 / 2 ^ i) with h0 | h1
  ·refine W_bi0 (m := n0 / 2 ^ i / 2) (s2 := strOf (GH n0 (i + 1))) (by omega) (by omega) (by omega) hw hs ?_ hw2
   show strOf [48] ++ strOf (GH n0 i) = strOf (((48 + n0 / 2 ^ i % 2 : Nat) : Int) :: GH n0 i)
   rw [AU, h0]; rfl
  ·refine W_bi1 (m := n0 / 2 ^ i / 2) (s2 := strOf (GH n0 (i + 1))) (by omega) (by omega) (by omega) hw hs ?_ hw2
   show strOf [49] ++ strOf (GH n0 i) = strOf (((48 + n0 / 2 ^ i % 2 : Nat) : Int) :: GH n0 i)
   rw [AU, h1]; rfl
theorem Rm {n w : Nat} (hw : w ≤ 64) (hn : n < 18446744073709551616) : Pt 63 [] [.int .u64 n, .int .i64 w] [] (.str (strOf (GH n w))) := by
 have h := Nj hw hn w 0 (by omega)
 rw [Nat.pow_zero, Nat.div_one] at h
 exact W_biIn h
end Go.Proofs
namespace Go.Proofs
open Go Go.Pe Go.Pm
set_option maxRecDepth 100000
set_option linter.unusedVariables false
theorem II {p : Nat} (hp : p ≤ 32) : Pt 66 [] [.int .i64 p] [] (.int .i64 p) := by
 refine pO Try.func66 (by kernel_rfl) ?_
 refine W.rtA [(4, aF)] [] [decide ((p:Int) > 32) = false] (ao (dF (by omega)))
end Go.Proofs
namespace Go.Pm
open Go.Sort
abbrev swL (l : List Int) (i j : Nat) : List Int := (l.set i (l.getD j 0)).set j (l.getD i 0)
theorem Bn (l : List Int) (i : Nat) : l.toArray[i]! = l.getD i 0 := by
 rw [List.getElem!_toArray, List.getElem!_eq_getElem?_getD, List.getD_eq_getElem?_getD]; rfl
theorem BK (l : List Int) (i j : Nat) : swp l.toArray i j = (swL l i j).toArray := by
 unfold swp swL
 rw [Bn, Bn, List.setIfInBounds_toArray, List.setIfInBounds_toArray]
theorem ltI (a b : Int) : ltInt a b = decide (a < b) := rfl
theorem bite {α : Type} {b : Bool} {p : Prop} [Decidable p] (h : b = decide p) (x y : α) : (if b = true then x else y) = if p then x else y := by
 subst h; simp
def insL (a i : Nat) (l : List Int) : List Int := (insInner ltInt a i l.toArray).toList
theorem Q4 (a : Nat) (l : List Int) : insL a 0 l = l := rfl
theorem IB (a j : Nat) (l : List Int) : insL a (j + 1) l = if a < j + 1 ∧ l.getD (j + 1) 0 < l.getD j 0 then insL a j (swL l (j + 1) j) else l := by
 unfold insL
 rw [insInner, Bn, Bn, BK, bite (p := a < j + 1 ∧ l.getD (j + 1) 0 < l.getD j 0) (by rw [Bool.decide_and]; rfl)]
 split <;> rfl
def insO (a b i : Nat) (l : List Int) : List Int := (insOuter ltInt a b i l.toArray).toList
theorem Qr (a b i : Nat) (l : List Int) : insO a b i l = if i < b then insO a b (i + 1) (insL a i l) else l := by
 unfold insO insL
 rw [insOuter]
 split <;> simp
def EH (hi first root : Nat) (l : List Int) : List Int := (siftDown ltInt hi first root l.toArray).toList
theorem TQ (hi first root : Nat) (l : List Int) : EH hi first root l = if hi ≤ 2 * root + 1 then l else
  if 2 * root + 1 + 1 < hi ∧ l.getD (first + (2 * root + 1)) 0 < l.getD (first + (2 * root + 1) + 1) 0 then
   if ¬ l.getD (first + root) 0 < l.getD (first + (2 * root + 2)) 0 then l else EH hi first (2 * root + 2) (swL l (first + root) (first + (2 * root + 2)))
  else if ¬ l.getD (first + root) 0 < l.getD (first + (2 * root + 1)) 0 then l else EH hi first (2 * root + 1) (swL l (first + root) (first + (2 * root + 1))) := by
 unfold EH
 rw [siftDown]
 simp only [Bn, BK, ltI, ← Bool.decide_and, ← decide_not, decide_eq_true_eq]
 by_cases h : hi ≤ 2 * root + 1
 ·rw [dif_pos h, if_pos h]
 ·rw [dif_neg h, if_neg h]
  by_cases h2 : 2 * root + 1 + 1 < hi ∧ l.getD (first + (2 * root + 1)) 0 < l.getD (first + (2 * root + 1) + 1) 0
  ·rw [if_pos h2, if_pos h2]
   split
   ·rfl
   ·rw [dif_pos (by omega)]
  ·rw [if_neg h2, if_neg h2]
   split <;> rfl
def hbL (hi first k : Nat) (l : List Int) : List Int := (heapBuild ltInt hi first k l.toArray).toList
theorem SK (hi first : Nat) (l : List Int) : hbL hi first 0 l = l := rfl
theorem Ta (hi first k : Nat) (l : List Int) : hbL hi first (k + 1) l = hbL hi first k (EH hi first k l) := by
 unfold hbL EH
 rw [heapBuild, Array.toArray_toList]
def hpL (first k : Nat) (l : List Int) : List Int := (heapPop ltInt first k l.toArray).toList
theorem Sy (first : Nat) (l : List Int) : hpL first 0 l = l := rfl
theorem TV (first k : Nat) (l : List Int) : hpL first (k + 1) l = hpL first k (EH k first 0 (swL l first (first + k))) := by
 unfold hpL EH
 rw [heapPop, Array.toArray_toList, BK]
def hsL' (l : List Int) (a b : Nat) : List Int := (heapSort ltInt l.toArray a b).toList
theorem hsL'_eq (l : List Int) (a b : Nat) : hsL' l a b = hpL a (b - a) (hbL (b - a) a ((b - a - 1) / 2 + 1) l) := by
 unfold hsL' hpL hbL heapSort
 rw [Array.toArray_toList]
def upL (p : Int → Bool) (l : List Int) (j i : Nat) : Nat := scanUp p l.toArray j i
theorem Em (p : Int → Bool) (l : List Int) (j i : Nat) : upL p l j i = if i ≤ j ∧ p (l.getD i 0) = true then upL p l j (i + 1) else i := by
 unfold upL
 rw [scanUp, Bn]
 simp only [Bool.and_eq_true, decide_eq_true_eq]
def dnL (p : Int → Bool) (l : List Int) (i j : Nat) : Nat := scanDown p l.toArray i j
theorem Hf (p : Int → Bool) (l : List Int) (i : Nat) : dnL p l i 0 = 0 := rfl
theorem Ch (p : Int → Bool) (l : List Int) (i j : Nat) : dnL p l i (j + 1) = if i ≤ j + 1 ∧ p (l.getD (j + 1) 0) = true then dnL p l i j else j + 1 := by
 unfold dnL
 rw [scanDown, Bn]
 simp only [Bool.and_eq_true, decide_eq_true_eq]
theorem ES (p : Int → Bool) (l : List Int) (j i : Nat) : i ≤ upL p l j i := by
 rw [Em]
 split
 ·rename_i h
  have := ES p l j (i + 1)
  omega
 ·exact Nat.le_refl i
termination_by j + 1 - i
theorem GI (p : Int → Bool) (l : List Int) (j i : Nat) (h : i ≤ j + 1) : upL p l j i ≤ j + 1 := by
 rw [Em]
 split
 ·rename_i h
  exact GI p l j (i + 1) (by omega)
 ·exact h
termination_by j + 1 - i
theorem Fj (p : Int → Bool) (l : List Int) (i : Nat) : ∀ j, dnL p l i j ≤ j
 | 0 => Nat.le_refl 0
 | j + 1 => by
  rw [Ch]
  split
  ·have := Fj p l i j; omega
  ·exact Nat.le_refl _
theorem GV (p : Int → Bool) (l : List Int) (i : Nat) : ∀ j, i ≤ j + 1 → i ≤ dnL p l i j + 1
 | 0, h => h
 | j + 1, h => by
  rw [Ch]
  split
  ·rename_i g
   exact GV p l i j (by omega)
  ·exact h
theorem DV (p : Int → Bool) (l : List Int) (j i : Nat) : ¬ (upL p l j i ≤ j ∧ p (l.getD (upL p l j i) 0) = true) := by
 by_cases h : i ≤ j ∧ p (l.getD i 0) = true
 ·rw [Em, if_pos h]
  exact DV p l j (i + 1)
 ·rw [Em, if_neg h]
  exact h
termination_by j + 1 - i
decreasing_by omega
theorem D7 (p : Int → Bool) (l : List Int) (i : Nat) (hi : 1 ≤ i) : ∀ j, ¬ (i ≤ dnL p l i j ∧ p (l.getD (dnL p l i j) 0) = true)
 | 0 => by
  rw [Hf]
  omega
 | j + 1 => by
  by_cases h : i ≤ j + 1 ∧ p (l.getD (j + 1) 0) = true
  ·rw [Ch, if_pos h]
   exact D7 p l i hi j
  ·rw [Ch, if_neg h]
   exact h
def ltP (l : List Int) (a : Nat) (x : Int) : Bool := decide (x < l.getD a 0)
def geP (l : List Int) (a : Nat) (x : Int) : Bool := decide (¬ x < l.getD a 0)
def leP (l : List Int) (a : Nat) (x : Int) : Bool := decide (¬ l.getD a 0 < x)
def gtP (l : List Int) (a : Nat) (x : Int) : Bool := decide (l.getD a 0 < x)
def plL (a i j : Nat) (l : List Int) : Nat × List Int := ((partLoop ltInt a i j l.toArray).1, (partLoop ltInt a i j l.toArray).2.toList)
theorem Ua (l : List Int) (a : Nat) : (fun x => ltInt x l.toArray[a]!) = ltP l a := by funext x; rw [Bn]; rfl
theorem TL (l : List Int) (a : Nat) : (fun x => !ltInt x l.toArray[a]!) = geP l a := by funext x; rw [Bn, ltI, ← decide_not]; rfl
theorem fun_le (l : List Int) (a : Nat) : (fun x => !ltInt l.toArray[a]! x) = leP l a := by funext x; rw [Bn, ltI, ← decide_not]; rfl
theorem fun_gt (l : List Int) (a : Nat) : (fun x => ltInt l.toArray[a]! x) = gtP l a := by funext x; rw [Bn]; rfl
theorem RU (a i j : Nat) (l : List Int) (hij : i ≤ j + 1) : plL a i j l = if dnL (geP l a) l (upL (ltP l a) l j i) j < upL (ltP l a) l j i then (dnL (geP l a) l (upL (ltP l a) l j i) j, l)
  else plL a (upL (ltP l a) l j i + 1) (dnL (geP l a) l (upL (ltP l a) l j i) j - 1) (swL l (upL (ltP l a) l j i) (dnL (geP l a) l (upL (ltP l a) l j i) j)) := by
 unfold plL
 rw [partLoop]
 simp only [Ua, TL]
 show _ = if dnL (geP l a) l (upL (ltP l a) l j i) j < upL (ltP l a) l j i then _ else _
 have h1 := ES (ltP l a) l j i
 have h2 := Fj (geP l a) l (upL (ltP l a) l j i) j
 unfold dnL upL at *
 split
 ·rfl
 ·rw [dif_pos (by omega), BK]
def ptL (l : List Int) (a b pivot : Nat) : Nat × Bool × List Int := ((partition ltInt l.toArray a b pivot).1, (partition ltInt l.toArray a b pivot).2.1, (partition ltInt l.toArray a b pivot).2.2.toList)
theorem RB (l m : List Int) (a b pivot i j : Nat) (hm : m = swL l a pivot) (hi : i = upL (ltP m a) m (b - 1) (a + 1)) (hj : j = dnL (geP m a) m i (b - 1)) :
  ptL l a b pivot = if j < i then (j, true, swL m j a) else ((plL a (i + 1) (j - 1) (swL m i j)).1, false, swL (plL a (i + 1) (j - 1) (swL m i j)).2 (plL a (i + 1) (j - 1) (swL m i j)).1 a) := by
 subst hm hi hj
 unfold ptL partition
 rw [BK]
 simp only [Ua, TL]
 unfold dnL upL
 split
 ·rw [BK]
 ·rw [BK]
  unfold plL
  dsimp only
  generalize partLoop ltInt a _ _ _ = r
  rw [show swp r.2 r.1 a = swp r.2.toList.toArray r.1 a by rw [Array.toArray_toList], BK]
def peL (a i j : Nat) (l : List Int) : Nat × List Int := ((partEqLoop ltInt a i j l.toArray).1, (partEqLoop ltInt a i j l.toArray).2.toList)
theorem R4 (a i j : Nat) (l : List Int) (hij : i ≤ j + 1) : peL a i j l = if dnL (gtP l a) l (upL (leP l a) l j i) j < upL (leP l a) l j i then (upL (leP l a) l j i, l)
  else peL a (upL (leP l a) l j i + 1) (dnL (gtP l a) l (upL (leP l a) l j i) j - 1) (swL l (upL (leP l a) l j i) (dnL (gtP l a) l (upL (leP l a) l j i) j)) := by
 unfold peL
 rw [partEqLoop]
 simp only [fun_le]
 simp only [fun_gt]
 show _ = if dnL (gtP l a) l (upL (leP l a) l j i) j < upL (leP l a) l j i then _ else _
 have h1 := ES (leP l a) l j i
 have h2 := Fj (gtP l a) l (upL (leP l a) l j i) j
 unfold dnL upL at *
 split
 ·rfl
 ·rename_i g
  have g : ¬ scanUp (leP l a) l.toArray j i > scanDown (gtP l a) l.toArray (scanUp (leP l a) l.toArray j i) j := g
  have key : scanDown (gtP l a) l.toArray (scanUp (leP l a) l.toArray j i) j - 1 + 1 - (scanUp (leP l a) l.toArray j i + 1) < j + 1 - i := by omega
  rw [dif_pos key, BK]
def pqL (l : List Int) (a b pivot : Nat) : Nat × List Int := peL a (a + 1) (b - 1) (swL l a pivot)
theorem pqL_eq (l : List Int) (a b pivot : Nat) : partitionEqual ltInt l.toArray a b pivot = ((pqL l a b pivot).1, (pqL l a b pivot).2.toArray) := by
 unfold partitionEqual pqL peL
 rw [BK]
theorem TE (a : Nat) : ∀ (k i j : Nat) (l : List Int), j + 1 - i ≤ k → 1 ≤ i → i ≤ j + 1 → i ≤ (plL a i j l).1 + 1 ∧ (plL a i j l).1 ≤ j
 | k, i, j, l, hk, h1, hij => by
  have u1 := ES (ltP l a) l j i
  have u2 := GI (ltP l a) l j i hij
  have u3 := DV (ltP l a) l j i
  have d1 := Fj (geP l a) l (upL (ltP l a) l j i) j
  have d2 := GV (geP l a) l (upL (ltP l a) l j i) j u2
  have d3 := D7 (geP l a) l (upL (ltP l a) l j i) (by omega) j
  rw [RU a i j l hij]
  generalize hu : upL (ltP l a) l j i = u at *
  generalize hd : dnL (geP l a) l u j = d at *
  by_cases h : d < u
  ·rw [if_pos h]
   dsimp only
   omega
  ·rw [if_neg h]
   have hne : u ≠ d := fun e => by
    rw [e] at u3
    apply d3
    refine ⟨by omega, ?_⟩
    have : ¬ ltP l a (l.getD d 0) = true := fun x => u3 ⟨by omega, x⟩
    unfold geP
    unfold ltP at this
    simpa using this
   cases k with
   | zero => omega
   | succ k =>
    have := TE a k (u + 1) (d - 1) (swL l u d) (by omega) (by omega) (by omega)
    omega
theorem Sz (a : Nat) : ∀ (k i j : Nat) (l : List Int), j + 1 - i ≤ k → 1 ≤ i → i ≤ j + 1 → i ≤ (peL a i j l).1 ∧ (peL a i j l).1 ≤ j + 1
 | k, i, j, l, hk, h1, hij => by
  have u1 := ES (leP l a) l j i
  have u2 := GI (leP l a) l j i hij
  have u3 := DV (leP l a) l j i
  have d1 := Fj (gtP l a) l (upL (leP l a) l j i) j
  have d2 := GV (gtP l a) l (upL (leP l a) l j i) j u2
  have d3 := D7 (gtP l a) l (upL (leP l a) l j i) (by omega) j
  rw [R4 a i j l hij]
  generalize hu : upL (leP l a) l j i = u at *
  generalize hd : dnL (gtP l a) l u j = d at *
  by_cases h : d < u
  ·rw [if_pos h]
   dsimp only
   omega
  ·rw [if_neg h]
   have hne : u ≠ d := fun e => by
    rw [e] at u3
    apply d3
    refine ⟨by omega, ?_⟩
    have : ¬ leP l a (l.getD d 0) = true := fun x => u3 ⟨by omega, x⟩
    unfold gtP
    unfold leP at this
    simpa using this
   cases k with
   | zero => omega
   | succ k =>
    have := Sz a k (u + 1) (d - 1) (swL l u d) (by omega) (by omega) (by omega)
    omega
theorem R7 (l : List Int) {a b pv : Nat} (hab : a < b) : a ≤ (ptL l a b pv).1 ∧ (ptL l a b pv).1 < b := by
 have u1 := ES (ltP (swL l a pv) a) (swL l a pv) (b - 1) (a + 1)
 have u2 := GI (ltP (swL l a pv) a) (swL l a pv) (b - 1) (a + 1) (by omega)
 have u3 := DV (ltP (swL l a pv) a) (swL l a pv) (b - 1) (a + 1)
 have d1 := Fj (geP (swL l a pv) a) (swL l a pv) (upL (ltP (swL l a pv) a) (swL l a pv) (b - 1) (a + 1)) (b - 1)
 have d2 := GV (geP (swL l a pv) a) (swL l a pv) (upL (ltP (swL l a pv) a) (swL l a pv) (b - 1) (a + 1)) (b - 1) u2
 have d3 := D7 (geP (swL l a pv) a) (swL l a pv) (upL (ltP (swL l a pv) a) (swL l a pv) (b - 1) (a + 1)) (by omega) (b - 1)
 rw [RB l (swL l a pv) a b pv _ _ rfl rfl rfl]
 generalize swL l a pv = m at *
 generalize upL (ltP m a) m (b - 1) (a + 1) = u at *
 generalize dnL (geP m a) m u (b - 1) = d at *
 by_cases h : d < u
 ·rw [if_pos h]
  dsimp only
  omega
 ·rw [if_neg h]
  have hne : u ≠ d := fun e => by
   rw [e] at u3
   apply d3
   refine ⟨by omega, ?_⟩
   have : ¬ ltP m a (m.getD d 0) = true := fun x => u3 ⟨by omega, x⟩
   unfold geP
   unfold ltP at this
   simpa using this
  have := TE a _ (u + 1) (d - 1) (swL m u d) (Nat.le_refl _) (by omega) (by omega)
  dsimp only
  omega
theorem Uf (l : List Int) {a b pv : Nat} (hab : a < b) : a < (pqL l a b pv).1 ∧ (pqL l a b pv).1 ≤ b := by
 have := Sz a _ (a + 1) (b - 1) (swL l a pv) (Nat.le_refl _) (by omega) (by omega)
 unfold pqL
 omega
def ssL (l : List Int) (b i : Nat) : Nat := scanSorted ltInt l.toArray b i
theorem Im (l : List Int) (b i : Nat) : ssL l b i = if i < b ∧ ¬ l.getD i 0 < l.getD (i - 1) 0 then ssL l b (i + 1) else i := by
 unfold ssL
 rw [scanSorted]
 simp only [Bn, ltI, ← Bool.decide_and, ← decide_not, decide_eq_true_eq]
theorem T9 (l : List Int) (b i : Nat) : i ≤ ssL l b i := by
 rw [Im]
 split
 ·rename_i h
  have := T9 l b (i + 1)
  omega
 ·exact Nat.le_refl i
termination_by b - i
theorem Tu (l : List Int) (b i : Nat) (h : i ≤ b) : ssL l b i ≤ b := by
 rw [Im]
 split
 ·exact Tu l b (i + 1) (by omega)
 ·exact h
termination_by b - i
def sdL (j : Nat) (l : List Int) : List Int := (shiftDown ltInt j l.toArray).toList
theorem Sj (l : List Int) : sdL 0 l = l := rfl
theorem M6 (j : Nat) (l : List Int) : sdL (j + 1) l = if ¬ l.getD (j + 1) 0 < l.getD j 0 then l else sdL j (swL l (j + 1) j) := by
 unfold sdL
 rw [shiftDown]
 simp only [Bn, BK, ltI, ← decide_not, decide_eq_true_eq]
 split <;> rfl
def suL (b j : Nat) (l : List Int) : List Int := (shiftUp ltInt b j l.toArray).toList
theorem R6 (b j : Nat) (l : List Int) : suL b j l = if j < b then (if ¬ l.getD j 0 < l.getD (j - 1) 0 then l else suL b (j + 1) (swL l j (j - 1))) else l := by
 unfold suL
 rw [shiftUp]
 simp only [Bn, BK, ltI, ← decide_not, decide_eq_true_eq]
 split
 ·split <;> rfl
 ·rfl
def piL (a b s i : Nat) (l : List Int) : List Int × Bool := ((partialIns ltInt a b s i l.toArray).1.toList, (partialIns ltInt a b s i l.toArray).2)
theorem Tx (a b s i : Nat) (l : List Int) : piL a b (s + 1) i l = if ssL l b i = b then (l, true) else if b - a < 50 then (l, false) else
  piL a b s (ssL l b i) (if 2 ≤ b - ssL l b i then suL b (ssL l b i + 1) (if 2 ≤ ssL l b i - a then sdL (ssL l b i - 1) (swL l (ssL l b i) (ssL l b i - 1)) else swL l (ssL l b i) (ssL l b i - 1)) else (if 2 ≤ ssL l b i - a then sdL (ssL l b i - 1) (swL l (ssL l b i) (ssL l b i - 1)) else swL l (ssL l b i) (ssL l b i - 1))) := by
 unfold piL
 rw [partialIns]
 simp only [BK]
 unfold ssL sdL suL
 generalize scanSorted ltInt l.toArray b i = k
 by_cases h1 : k = b
 ·rw [if_pos h1, if_pos h1]
 ·rw [if_neg h1, if_neg h1]
  by_cases h2 : b - a < 50
  ·rw [if_pos h2, if_pos h2]
  ·rw [if_neg h2, if_neg h2]
   by_cases h3 : 2 ≤ k - a
   ·rw [if_pos h3, if_pos h3]
    by_cases h4 : 2 ≤ b - k
    ·rw [if_pos h4, if_pos h4, Array.toArray_toList, Array.toArray_toList]
    ·rw [if_neg h4, if_neg h4, Array.toArray_toList]
   ·rw [if_neg h3, if_neg h3]
    by_cases h4 : 2 ≤ b - k
    ·rw [if_pos h4, if_pos h4, Array.toArray_toList]
    ·rw [if_neg h4, if_neg h4]
def o2L (l : List Int) (a b s : Nat) : Nat × Nat × Nat := order2 ltInt l.toArray a b s
theorem O7 (l : List Int) (a b s : Nat) : o2L l a b s = if l.getD b 0 < l.getD a 0 then (b, a, s + 1) else (a, b, s) := by
 unfold o2L order2
 simp only [Bn, ltI, decide_eq_true_eq]
def mdL (l : List Int) (a b c s : Nat) : Nat × Nat := median ltInt l.toArray a b c s
theorem PH (l : List Int) (a b c s : Nat) : mdL l a b c s = ((o2L l (o2L l a b s).1 (o2L l (o2L l a b s).2.1 c (o2L l a b s).2.2).1 (o2L l (o2L l a b s).2.1 c (o2L l a b s).2.2).2.2).2.1, (o2L l (o2L l a b s).1 (o2L l (o2L l a b s).2.1 c (o2L l a b s).2.2).1 (o2L l (o2L l a b s).2.1 c (o2L l a b s).2.2).2.2).2.2) := rfl
def hintN : Hint → Int
 | .unknown => 0
 | .increasing => 1
 | .decreasing => 2
def cpL (l : List Int) (a b : Nat) : Nat × Hint := choosePivot ltInt l.toArray a b
def cp1 (l : List Int) (a b : Nat) : Nat × Nat :=
 if 8 ≤ b - a then
  if 50 ≤ b - a then mdL l (mdL l (a + (b - a) / 4 * 1 - 1) (a + (b - a) / 4 * 1) (a + (b - a) / 4 * 1 + 1) 0).1
   (mdL l (a + (b - a) / 4 * 2 - 1) (a + (b - a) / 4 * 2) (a + (b - a) / 4 * 2 + 1) (mdL l (a + (b - a) / 4 * 1 - 1) (a + (b - a) / 4 * 1) (a + (b - a) / 4 * 1 + 1) 0).2).1
   (mdL l (a + (b - a) / 4 * 3 - 1) (a + (b - a) / 4 * 3) (a + (b - a) / 4 * 3 + 1) (mdL l (a + (b - a) / 4 * 2 - 1) (a + (b - a) / 4 * 2) (a + (b - a) / 4 * 2 + 1) (mdL l (a + (b - a) / 4 * 1 - 1) (a + (b - a) / 4 * 1) (a + (b - a) / 4 * 1 + 1) 0).2).2).1
   (mdL l (a + (b - a) / 4 * 3 - 1) (a + (b - a) / 4 * 3) (a + (b - a) / 4 * 3 + 1) (mdL l (a + (b - a) / 4 * 2 - 1) (a + (b - a) / 4 * 2) (a + (b - a) / 4 * 2 + 1) (mdL l (a + (b - a) / 4 * 1 - 1) (a + (b - a) / 4 * 1) (a + (b - a) / 4 * 1 + 1) 0).2).2).2
  else mdL l (a + (b - a) / 4 * 1) (a + (b - a) / 4 * 2) (a + (b - a) / 4 * 3) 0
 else (a + (b - a) / 4 * 2, 0)
theorem OQ (l : List Int) (a b : Nat) : cpL l a b = ((cp1 l a b).1, if (cp1 l a b).2 = 0 then .increasing else if (cp1 l a b).2 = 12 then .decreasing else .unknown) := rfl
theorem Ph (P : Nat → Prop) {l : List Int} {a b s : Nat} (ha : P a) (hb : P b) : P (o2L l a b s).1 ∧ P (o2L l a b s).2.1 := by
 rw [O7]
 split
 ·exact ⟨hb, ha⟩
 ·exact ⟨ha, hb⟩
theorem KN (P : Nat → Prop) {l : List Int} {a b c s : Nat} (ha : P a) (hb : P b) (hc : P c) : P (mdL l a b c s).1 := by
 rw [PH]
 have h1 := Ph P (l := l) (s := s) ha hb
 have h2 := Ph P (l := l) (s := (o2L l a b s).2.2) h1.2 hc
 exact (Ph P h1.1 h2.1).2
theorem SN (l : List Int) {a b : Nat} (hab : a < b) : a ≤ (cp1 l a b).1 ∧ (cp1 l a b).1 < b := by
 unfold cp1
 have h4 : (b - a) / 4 * 1 ≤ (b - a) / 4 := by omega
 split
 ·split
  ·have P : ∀ i, (b - a) / 4 - 1 ≤ i → True := fun _ _ => trivial
   exact KN (fun x => a ≤ x ∧ x < b) (KN (fun x => a ≤ x ∧ x < b) ⟨by omega, by omega⟩ ⟨by omega, by omega⟩ ⟨by omega, by omega⟩) (KN (fun x => a ≤ x ∧ x < b) ⟨by omega, by omega⟩ ⟨by omega, by omega⟩ ⟨by omega, by omega⟩) (KN (fun x => a ≤ x ∧ x < b) ⟨by omega, by omega⟩ ⟨by omega, by omega⟩ ⟨by omega, by omega⟩)
  ·exact KN (fun x => a ≤ x ∧ x < b) ⟨by omega, by omega⟩ ⟨by omega, by omega⟩ ⟨by omega, by omega⟩
 ·dsimp only
  omega
def rvL (i j : Nat) (l : List Int) : List Int := (reverseLoop i j l.toArray).toList
theorem RG (i j : Nat) (l : List Int) : rvL i j l = if i < j then rvL (i + 1) (j - 1) (swL l i j) else l := by
 unfold rvL
 rw [reverseLoop]
 simp only [BK]
 split <;> rfl
def Bu (x : Nat) : Nat := bitsLen x
theorem Hr {x k : Nat} (h : x < 2 ^ k) : Bu x ≤ k := by
 unfold Bu bitsLen
 split
 ·omega
 ·rename_i h0
  have := (Nat.log2_lt h0).2 h
  omega
theorem RQ {x : Nat} (h : 256 ≤ x) : Bu x = Bu (x / 256) + 8 := by
 unfold Bu bitsLen
 have h0 : x / 256 ≠ 0 := by omega
 rw [if_neg (by omega), if_neg h0]
 obtain ⟨h1, h2⟩ := (Nat.log2_eq_iff h0).1 rfl
 have h3 : Nat.log2 x = Nat.log2 (x / 256) + 8 := by
  rw [Nat.log2_eq_iff (by omega)]
  rw [Nat.pow_succ] at h2
  refine ⟨?_, ?_⟩
  ·rw [Nat.pow_add]; omega
  ·rw [Nat.pow_succ, Nat.pow_add]; omega
 omega
def bpL (l : List Int) (a b : Nat) : List Int := (breakPatterns l.toArray a b).toList
def xsN (r : Nat) : Nat := ((r ^^^ (r * 8192 % 18446744073709551616)) ^^^ ((r ^^^ (r * 8192 % 18446744073709551616)) / 128)) ^^^ (((r ^^^ (r * 8192 % 18446744073709551616)) ^^^ ((r ^^^ (r * 8192 % 18446744073709551616)) / 128)) * 131072 % 18446744073709551616)
theorem TT (r : UInt64) : (xorNext r).toNat = xsN r.toNat := by
 unfold xorNext xsN
 simp [UInt64.toNat_xor, UInt64.toNat_shiftLeft, UInt64.toNat_shiftRight, Nat.shiftLeft_eq, Nat.shiftRight_eq_div_pow]
def bo (r len : Nat) : Nat := if len ≤ xsN r &&& (2 ^ Bu len - 1) then (xsN r &&& (2 ^ Bu len - 1)) - len else xsN r &&& (2 ^ Bu len - 1)
theorem TF {n : Nat} (h : 1 ≤ n) : 2 ^ Bu n ≤ 2 * n := by
 unfold Bu bitsLen
 rw [if_neg (by omega), Nat.pow_succ]
 have := Nat.log2_self_le (n := n) (by omega)
 omega
theorem bpL_eq (l : List Int) (a b len i : Nat) (hl : len = b - a) (h8 : 8 ≤ len) (h64 : len < 18446744073709551616) (hi : i = a + len / 4 * 2 - 1) :
  bpL l a b = swL (swL (swL l i (a + bo len len)) (i + 1) (a + bo (xsN len) len)) (i + 2) (a + bo (xsN (xsN len)) len) := by
 unfold bpL breakPatterns
 dsimp only
 rw [← hl, if_pos h8, ← hi]
 unfold breakStep
 dsimp only
 have e0 : (UInt64.ofNat len).toNat = len := by rw [UInt64.toNat_ofNat']; exact Nat.mod_eq_of_lt h64
 have e1 : (1 <<< bitsLen len) = 2 ^ Bu len := by rw [Nat.shiftLeft_eq, Nat.one_mul]; rfl
 rw [e1]
 simp only [TT, e0, BK]
 unfold bo
 rfl
def pdL (l : List Int) (a b limit : Nat) (wb wp : Bool) : List Int := (pdq ltInt l.toArray a b limit wb wp).toList
def pd1 (l : List Int) (a b : Nat) (wb : Bool) : List Int := if wb = true then l else bpL l a b
def pd2 (l : List Int) (a b : Nat) (wb : Bool) : List Int := if (cpL (pd1 l a b wb) a b).2 = .decreasing then rvL a (b - 1) (pd1 l a b wb) else pd1 l a b wb
def pdp (l : List Int) (a b : Nat) (wb : Bool) : Nat := if (cpL (pd1 l a b wb) a b).2 = .decreasing then (b - 1) - ((cpL (pd1 l a b wb) a b).1 - a) else (cpL (pd1 l a b wb) a b).1
theorem OC (l : List Int) (a b limit : Nat) (wb wp : Bool) : pdL l a b limit wb wp =
  if b - a ≤ 12 then insO a b (a + 1) l else
  if limit = 0 then hsL' l a b else
  let lim := if wb = true then limit else limit - 1
  let inc := (cpL (pd1 l a b wb) a b).2 ≠ .unknown
  let pi := if wb = true ∧ wp = true ∧ inc then piL a b 5 (a + 1) (pd2 l a b wb) else (pd2 l a b wb, false)
  if pi.2 = true then pi.1 else
  if 0 < a ∧ ¬ pi.1.getD (a - 1) 0 < pi.1.getD (pdp l a b wb) 0 then
   if a < (pqL pi.1 a b (pdp l a b wb)).1 ∧ (pqL pi.1 a b (pdp l a b wb)).1 ≤ b then pdL (pqL pi.1 a b (pdp l a b wb)).2 (pqL pi.1 a b (pdp l a b wb)).1 b lim wb wp else (pqL pi.1 a b (pdp l a b wb)).2
  else
   let r := ptL pi.1 a b (pdp l a b wb)
   if a ≤ r.1 ∧ r.1 < b then
    if r.1 - a < b - r.1 then pdL (pdL r.2.2 a r.1 lim true true) (r.1 + 1) b lim (decide ((b - a) / 8 ≤ r.1 - a)) r.2.1
    else pdL (pdL r.2.2 (r.1 + 1) b lim true true) a r.1 lim (decide ((b - a) / 8 ≤ b - r.1)) r.2.1
   else r.2.2 := by
 unfold pdL
 rw [pdq]
 by_cases h1 : b - a ≤ 12
 ·rw [if_pos h1, if_pos h1]; rfl
 rw [if_neg h1, if_neg h1]
 by_cases h2 : limit = 0
 ·rw [if_pos h2, if_pos h2]; rfl
 rw [if_neg h2, if_neg h2]
 have e1 : (if (!wb) = true then breakPatterns l.toArray a b else l.toArray) = (pd1 l a b wb).toArray := by cases wb <;> simp [pd1, bpL]
 have e2 : (if (!wb) = true then limit - 1 else limit) = if wb = true then limit else limit - 1 := by cases wb <;> rfl
 have e3 : choosePivot ltInt (pd1 l a b wb).toArray a b = cpL (pd1 l a b wb) a b := rfl
 have e4 : (if (cpL (pd1 l a b wb) a b).2 = .decreasing then reverseRange (pd1 l a b wb).toArray a b else (pd1 l a b wb).toArray) = (pd2 l a b wb).toArray := by
  unfold pd2
  split
  ·unfold reverseRange rvL; rw [Array.toArray_toList]
  ·rfl
 have e5 : (if (cpL (pd1 l a b wb) a b).2 = .decreasing then b - 1 - ((cpL (pd1 l a b wb) a b).1 - a) else (cpL (pd1 l a b wb) a b).1) = pdp l a b wb := rfl
 have e6 : ((if (cpL (pd1 l a b wb) a b).2 = .decreasing then Hint.increasing else (cpL (pd1 l a b wb) a b).2) = .increasing) ↔ (cpL (pd1 l a b wb) a b).2 ≠ .unknown := by
  cases (cpL (pd1 l a b wb) a b).2 <;> decide
 dsimp only
 rw [e1, e3, e4, e5]
 simp only [e2, e6, Bool.and_eq_true, decide_eq_true_eq, and_assoc]
 have e7 : (if wb = true ∧ wp = true ∧ (cpL (pd1 l a b wb) a b).2 ≠ .unknown then partialInsertionSort ltInt (pd2 l a b wb).toArray a b else ((pd2 l a b wb).toArray, false)) =
   ((if wb = true ∧ wp = true ∧ (cpL (pd1 l a b wb) a b).2 ≠ .unknown then piL a b 5 (a + 1) (pd2 l a b wb) else (pd2 l a b wb, false)).1.toArray, (if wb = true ∧ wp = true ∧ (cpL (pd1 l a b wb) a b).2 ≠ .unknown then piL a b 5 (a + 1) (pd2 l a b wb) else (pd2 l a b wb, false)).2) := by
  split
  ·unfold piL partialInsertionSort; rw [Array.toArray_toList]
  ·rfl
 rw [e7]
 generalize (if wb = true ∧ wp = true ∧ (cpL (pd1 l a b wb) a b).2 ≠ .unknown then piL a b 5 (a + 1) (pd2 l a b wb) else (pd2 l a b wb, false)) = pi
 generalize pdp l a b wb = pv
 obtain ⟨m, done⟩ := pi
 dsimp only
 by_cases h3 : done = true
 ·rw [if_pos h3, if_pos h3]
 rw [if_neg h3, if_neg h3]
 simp only [Bn, ltI, gt_iff_lt, ← decide_not, decide_eq_true_eq]
 by_cases h4 : 0 < a ∧ ¬ m.getD (a - 1) 0 < m.getD pv 0
 ·rw [if_pos h4, if_pos h4, pqL_eq]
  dsimp only
  split <;> rfl
 ·rw [if_neg h4, if_neg h4]
  have e8 : partition ltInt m.toArray a b pv = ((ptL m a b pv).1, (ptL m a b pv).2.1, (ptL m a b pv).2.2.toArray) := by unfold ptL; rw [Array.toArray_toList]
  rw [e8]
  dsimp only
  split
  ·split <;> simp only [Array.toArray_toList] <;> rfl
  ·rfl
def tlL (l : List Int) (a b pv lim : Nat) (wb wp : Bool) : List Int :=
 if 0 < a ∧ ¬ l.getD (a - 1) 0 < l.getD pv 0 then pdL (pqL l a b pv).2 (pqL l a b pv).1 b lim wb wp
 else if (ptL l a b pv).1 - a < b - (ptL l a b pv).1 then pdL (pdL (ptL l a b pv).2.2 a (ptL l a b pv).1 lim true true) ((ptL l a b pv).1 + 1) b lim (decide ((b - a) / 8 ≤ (ptL l a b pv).1 - a)) (ptL l a b pv).2.1
 else pdL (pdL (ptL l a b pv).2.2 ((ptL l a b pv).1 + 1) b lim true true) a (ptL l a b pv).1 lim (decide ((b - a) / 8 ≤ b - (ptL l a b pv).1)) (ptL l a b pv).2.1
theorem QJ (l : List Int) {a b k : Nat} {wb wp : Bool} (h : a + 12 < b) : pdL l a b (k + 1) wb wp =
  if (if wb = true ∧ wp = true ∧ (cpL (pd1 l a b wb) a b).2 ≠ .unknown then piL a b 5 (a + 1) (pd2 l a b wb) else (pd2 l a b wb, false)).2 = true then (if wb = true ∧ wp = true ∧ (cpL (pd1 l a b wb) a b).2 ≠ .unknown then piL a b 5 (a + 1) (pd2 l a b wb) else (pd2 l a b wb, false)).1
  else tlL (if wb = true ∧ wp = true ∧ (cpL (pd1 l a b wb) a b).2 ≠ .unknown then piL a b 5 (a + 1) (pd2 l a b wb) else (pd2 l a b wb, false)).1 a b (pdp l a b wb) (if wb = true then k + 1 else k) wb wp := by
 rw [OC, if_neg (by omega), if_neg (by omega)]
 dsimp only
 rw [Nat.add_sub_cancel]
 generalize (if wb = true ∧ wp = true ∧ (cpL (pd1 l a b wb) a b).2 ≠ .unknown then piL a b 5 (a + 1) (pd2 l a b wb) else (pd2 l a b wb, false)) = pi
 obtain ⟨m, d⟩ := pi
 dsimp only
 by_cases hd : d = true
 ·rw [if_pos hd, if_pos hd]
 ·rw [if_neg hd, if_neg hd]
  unfold tlL
  generalize pdp l a b wb = pv
  have h1 := Uf m (pv := pv) (show a < b by omega)
  have h2 := R7 m (pv := pv) (show a < b by omega)
  by_cases hc : 0 < a ∧ ¬ m.getD (a - 1) 0 < m.getD pv 0
  ·rw [if_pos hc, if_pos hc, if_pos h1]
  ·rw [if_neg hc, if_neg hc, if_pos h2]
theorem Qp (l : List Int) {a b k : Nat} {wb wp : Bool} (h : b ≤ a + 12) : pdL l a b k wb wp = insO a b (a + 1) l := by
 rw [OC, if_pos (by omega)]
theorem Ub (l : List Int) {a b : Nat} {wb wp : Bool} (h : a + 12 < b) : pdL l a b 0 wb wp = hsL' l a b := by
 rw [OC, if_neg (by omega), if_pos rfl]
theorem RJ (l : List Int) : pdL l 0 l.length (Bu l.length) true true = l.mergeSort (fun x y => decide (x ≤ y)) := sortInt l
end Go.Pm
namespace Go.Proofs
open Go Go.Pe Go.Pm
set_option maxRecDepth 100000
set_option linter.unusedVariables false
theorem QU (x : Int) : Pt 85 [] [.int .u64 x] [] (.bool false) := by
 refine pO Try.func85 (by kernel_rfl) ?_
 refine W.rtA [(3, aF)] [] [(x != x) = false] (ao (bne_eq_false_iff_eq.2 (by omega)))
theorem Oj (x y : Int) : Pt 71 [] [.int .u64 x, .int .u64 y] [] (.bool (decide (x < y))) := by
 refine pO Try.func71 (by kernel_rfl) ?_
 refine W.rtA [(2, aK (PV.bool false))] [] [Pt 85 [] [U6 x] [] (PV.bool false)] (ao (QU _))
theorem AZ (x y : Int) (h : x < y) : Pt 71 [] [.int .u64 x, .int .u64 y] [] (.bool true) := by
 have := Oj x y
 rwa [decide_eq_true h] at this
theorem Bt (x y : Int) (h : ¬ x < y) : Pt 71 [] [.int .u64 x, .int .u64 y] [] (.bool false) := by
 have := Oj x y
 rwa [decide_eq_false h] at this
def Ac (n : Nat) (l : List Int) : Row := ⟨.iarr .u64 n l, false⟩
def qO (n a b i : Nat) (l : List Int) : DS := ⟨[(0, .ref 0 [] 1 0 n), (1, .int .i64 a), (2, .int .i64 b), (6, .int .i64 i)], [(0, Ac n l)]⟩
def qI (n a b i j : Nat) (l : List Int) : DS := ⟨[(0, .ref 0 [] 1 0 n), (1, .int .i64 a), (2, .int .i64 b), (6, .int .i64 i), (7, .int .i64 j)], [(0, Ac n l)]⟩
theorem W_qI {n a b i : Nat} {hout : Lrz} {res : PV} (hn : n < 1000000) (hb : b ≤ n) (hi : i < b) : ∀ (j : Nat) (l : List Int), j ≤ i →
   Wt Try.f89 [0] hout res (Aa Try.f89 0) (qO n a b (i + 1) (insL a j l)) → Wt Try.f89 [0] hout res (Aa Try.f89 1) (qI n a b i j l)
  | 0, l, _, h => by
    rw [Q4] at h
    refine W.sgA 0 [(0, aV (I6 0)), (16, aV (I6 ↑(i + 1)))] [(0, 0)] (qO n a b (i + 1) l) [I6 ↑(0 : Nat) = I6 0, I6 (IntKind.wrap .i64 ((i:Int) + 1)) = I6 ↑(i + 1)] (ac (cg (by omega)) (ao (wj (by omega)))) ?_
    exact h
  | j + 1, l, hj, h => by
    by_cases ha : a < j + 1
    · by_cases hc : l.getD (j + 1) 0 < l.getD j 0
      · rw [IB, if_pos ⟨ha, hc⟩] at h
        have h' := W_qI hn hb hi j (swL l (j + 1) j) (by omega) h
        clear h
        refine W.sgA 1 [(2, aT), (6, aV (PV.at 0 [Stp.idx (j + 1) 1])), (10, aV (I6 j)), (11, aV (PV.at 0 [Stp.idx j 1])), (13, aK (PV.bool true)), (19, aV (I6 j)), (22, aV (I6 j)), (23, aV (PV.at 0 [Stp.idx j 1])), (27, aV (PV.at 0 [Stp.idx (j + 1) 1])), (29, aV (PV.at 0 [Stp.idx (j + 1) 1])), (31, aV (PV.at 0 [Stp.idx j 1])), (34, aV (I6 j))] [(0, 0)] (qI n a b i j (swL l (j + 1) j)) [decide ((↑(j + 1) : Int) > (a:Int)) = true, PV.at 0 [Stp.idx (0 + Int.toNat (↑(j + 1) : Int)) 1] = PV.at 0 [Stp.idx (j + 1) 1], 0 ≤ (↑(j + 1) : Int), (↑(j + 1) : Int) < (n:Int), j + 1 < n, I6 (IntKind.wrap .i64 ((↑(j + 1) : Int) - 1)) = I6 j, PV.at 0 [Stp.idx (0 + j) 1] = PV.at 0 [Stp.idx j 1], 0 ≤ (j:Int), (j:Int) < (n:Int), j < n, Pt 71 [] [U6 (List.getD l (j + 1) (0 : Int)), U6 (List.getD l j (0 : Int))] [] (PV.bool true), I6 (IntKind.wrap .i64 ((↑(j + 1) : Int) - 1)) = I6 j, I6 (IntKind.wrap .i64 ((↑(j + 1) : Int) - 1)) = I6 j, PV.at 0 [Stp.idx (0 + j) 1] = PV.at 0 [Stp.idx j 1], 0 ≤ (j:Int), (j:Int) < (n:Int), j < n, PV.at 0 [Stp.idx (0 + Int.toNat (↑(j + 1) : Int)) 1] = PV.at 0 [Stp.idx (j + 1) 1], 0 ≤ (↑(j + 1) : Int), (↑(j + 1) : Int) < (n:Int), j + 1 < n, PV.at 0 [Stp.idx (0 + Int.toNat (↑(j + 1) : Int)) 1] = PV.at 0 [Stp.idx (j + 1) 1], 0 ≤ (↑(j + 1) : Int), (↑(j + 1) : Int) < (n:Int), j + 1 < n, PV.at 0 [Stp.idx (0 + j) 1] = PV.at 0 [Stp.idx j 1], 0 ≤ (j:Int), (j:Int) < (n:Int), j < n, I6 (IntKind.wrap .i64 ((↑(j + 1) : Int) - 1)) = I6 j] (ac (dT (by omega)) (ac (by (rw [show Int.toNat (↑(j + 1) : Int) = j + 1 by omega]; simp only [Nat.zero_add])) (ob3 (by omega) (ac (cg (Ab (by omega) (by omega) (by omega))) (ac (by simp only [Nat.zero_add]) (ob3 (by omega) (ac (AZ _ _ (by first | omega | decide)) (ac (cg (Ab (by omega) (by omega) (by omega))) (ac (cg (Ab (by omega) (by omega) (by omega))) (ac (by simp only [Nat.zero_add]) (ob3 (by omega) (ac (by (rw [show Int.toNat (↑(j + 1) : Int) = j + 1 by omega]; simp only [Nat.zero_add])) (ob3 (by omega) (ac (by (rw [show Int.toNat (↑(j + 1) : Int) = j + 1 by omega]; simp only [Nat.zero_add])) (ob3 (by omega) (ac (by simp only [Nat.zero_add]) (ob3 (by omega) (ao (cg (Ab (by omega) (by omega) (by omega))))))))))))))))))))) ?_
        exact h'
      · rw [IB, if_neg (fun x => hc x.2)] at h
        refine W.sgA 0 [(2, aT), (6, aV (PV.at 0 [Stp.idx (j + 1) 1])), (10, aV (I6 j)), (11, aV (PV.at 0 [Stp.idx j 1])), (13, aK (PV.bool false)), (16, aV (I6 ↑(i + 1)))] [(0, 0)] (qO n a b (i + 1) l) [decide ((↑(j + 1) : Int) > (a:Int)) = true, PV.at 0 [Stp.idx (0 + Int.toNat (↑(j + 1) : Int)) 1] = PV.at 0 [Stp.idx (j + 1) 1], 0 ≤ (↑(j + 1) : Int), (↑(j + 1) : Int) < (n:Int), j + 1 < n, I6 (IntKind.wrap .i64 ((↑(j + 1) : Int) - 1)) = I6 j, PV.at 0 [Stp.idx (0 + j) 1] = PV.at 0 [Stp.idx j 1], 0 ≤ (j:Int), (j:Int) < (n:Int), j < n, Pt 71 [] [U6 (List.getD l (j + 1) (0 : Int)), U6 (List.getD l j (0 : Int))] [] (PV.bool false), I6 (IntKind.wrap .i64 ((i:Int) + 1)) = I6 ↑(i + 1)] (ac (dT (by omega)) (ac (by (rw [show Int.toNat (↑(j + 1) : Int) = j + 1 by omega]; simp only [Nat.zero_add])) (ob3 (by omega) (ac (cg (Ab (by omega) (by omega) (by omega))) (ac (by simp only [Nat.zero_add]) (ob3 (by omega) (ac (Bt _ _ (by first | omega | decide)) (ao (wj (by omega)))))))))) ?_
        exact h
    · rw [IB, if_neg (fun x => ha x.1)] at h
      refine W.sgA 0 [(2, aF), (16, aV (I6 ↑(i + 1)))] [(0, 0)] (qO n a b (i + 1) l) [decide ((↑(j + 1) : Int) > (a:Int)) = false, I6 (IntKind.wrap .i64 ((i:Int) + 1)) = I6 ↑(i + 1)] (ac (dF (by omega)) (ao (wj (by omega)))) ?_
      exact h
theorem W_qOE {n a b i : Nat} {l : Liz} (h : ¬ i < b) : Wt Try.f89 [0] [(0, Ac n l)] (.tup []) (Aa Try.f89 0) (qO n a b i l) := by
 refine W.rtA [(2, aF)] [(0, 0)] [decide ((i:Int) < (b:Int)) = false] (ao (dF (by omega)))
theorem W_qOS {n a b i : Nat} {l : Liz} {hout : Lrz} {res : PV} (h : i < b) (hb : b ≤ n) (hn : n < 1000000) (hw : Wt Try.f89 [0] hout res (Aa Try.f89 1) (qI n a b i i l)) :
  Wt Try.f89 [0] hout res (Aa Try.f89 0) (qO n a b i l) := by
 refine W.sgA 1 [(2, aT)] [(0, 0)] (qI n a b i i l) [decide ((i:Int) < (b:Int)) = true] (ao (dT (by omega))) ?_
 exact hw
theorem W_qO {n a b : Nat} (hn : n < 1000000) (hb : b ≤ n) : ∀ (k i : Nat) (l : List Int), b ≤ i + k →
  Wt Try.f89 [0] [(0, Ac n (insO a b i l))] (.tup []) (Aa Try.f89 0) (qO n a b i l)
 | 0, i, l, h => by
  rw [Qr, if_neg (by omega)]
  exact W_qOE (by omega)
 | k + 1, i, l, h => by
  rw [Qr]
  by_cases hi : i < b
  ·rw [if_pos hi]
   exact W_qOS hi hb hn (W_qI hn hb hi i l (Nat.le_refl i) (W_qO hn hb k (i + 1) _ (by omega)))
  ·rw [if_neg hi]
   exact W_qOE hi
theorem PX {n a b : Nat} (hn : n < 1000000) (hb : b ≤ n) (ha : a ≤ n) (l : List Int) : Pt 89 [(0, Ac n l)] [.ref 0 [] 1 0 n, .int .i64 a, .int .i64 b] [(0, Ac n (insO a b (a + 1) l))] (.tup []) := by
 refine pO Try.func89 (by kernel_rfl) ?_
 have hw := W_qO (a := a) hn hb b (a + 1) l (by omega)
 refine W.sgA 0 [(1, aV (I6 ↑(a + 1)))] [(0, 0)] (qO n a b (a + 1) l) [I6 (IntKind.wrap .i64 ((a:Int) + 1)) = I6 ↑(a + 1)] (ao (wj (by omega))) ?_
 exact hw
def qS (n hi first root : Nat) (l : List Int) : DS := ⟨[(0, .ref 0 [] 1 0 n), (2, .int .i64 hi), (3, .int .i64 first), (8, .int .i64 root)], [(0, Ac n l)]⟩
theorem LX (hi first root : Nat) (l : List Int) : EH hi first root l = if hi ≤ 2 * root + 1 then l else
  if 2 * root + 2 < hi ∧ l.getD (first + 2 * root + 1) 0 < l.getD (first + 2 * root + 2) 0 then
   if ¬ l.getD (first + root) 0 < l.getD (first + 2 * root + 2) 0 then l else EH hi first (2 * root + 2) (swL l (first + root) (first + 2 * root + 2))
  else if ¬ l.getD (first + root) 0 < l.getD (first + 2 * root + 1) 0 then l else EH hi first (2 * root + 1) (swL l (first + root) (first + 2 * root + 1)) := by
 rw [TQ]
 rfl
theorem W_qSE {n hi first root : Nat} {l : Liz} (hn : n < 1000000) (hr : root < 4000000) (h : hi ≤ 2 * root + 1) : Wt Try.f100 [0] [(0, Ac n l)] (.tup []) (Aa Try.f100 0) (qS n hi first root l) := by
 refine W.rtA [(1, aV (I6 ↑(2 * root))), (2, aV (I6 ↑(2 * root + 1))), (6, aT)] [(0, 0)] [I6 (IntKind.wrap .i64 (2 * (root:Int))) = I6 ↑(2 * root), I6 (IntKind.wrap .i64 ((↑(2 * root) : Int) + 1)) = I6 ↑(2 * root + 1), decide ((↑(2 * root + 1) : Int) ≥ (hi:Int)) = true] (ac (wj (by omega)) (ac (wj (by omega)) (ao (dT (by omega)))))
theorem W_qS1 {n hi first root : Nat} {l : Liz} (hn : n < 1000000) (hf : first + hi ≤ n) (h : ¬ hi ≤ 2 * root + 1) (g : 2 * root + 2 < hi) (g2 : l.getD (first + 2 * root + 1) 0 < l.getD (first + 2 * root + 2) 0) (g3 : ¬ l.getD (first + root) 0 < l.getD (first + 2 * root + 2) 0) :
  Wt Try.f100 [0] [(0, Ac n l)] (.tup []) (Aa Try.f100 0) (qS n hi first root l) := by
 refine W.rtA [(1, aV (I6 ↑(2 * root))), (2, aV (I6 ↑(2 * root + 1))), (6, aF), (8, aV (I6 ↑(2 * root + 2))), (10, aT), (15, aV (I6 ↑(first + 2 * root + 1))), (16, aV (PV.at 0 [Stp.idx (first + 2 * root + 1) 1])), (21, aV (I6 ↑(first + 2 * root + 1))), (22, aV (I6 ↑(first + 2 * root + 2))), (23, aV (PV.at 0 [Stp.idx (first + 2 * root + 2) 1])), (25, aK (PV.bool true)), (28, aV (I6 ↑(2 * root + 2))), (33, aV (I6 ↑(first + root))), (34, aV (PV.at 0 [Stp.idx (first + root) 1])), (39, aV (I6 ↑(first + 2 * root + 2))), (40, aV (PV.at 0 [Stp.idx (first + 2 * root + 2) 1])), (42, aK (PV.bool false))] [(0, 0)] [I6 (IntKind.wrap .i64 (2 * (root:Int))) = I6 ↑(2 * root), I6 (IntKind.wrap .i64 ((↑(2 * root) : Int) + 1)) = I6 ↑(2 * root + 1), decide ((↑(2 * root + 1) : Int) ≥ (hi:Int)) = false, I6 (IntKind.wrap .i64 ((↑(2 * root + 1) : Int) + 1)) = I6 ↑(2 * root + 2), decide ((↑(2 * root + 2) : Int) < (hi:Int)) = true, I6 (IntKind.wrap .i64 ((first:Int) + (↑(2 * root + 1) : Int))) = I6 ↑(first + 2 * root + 1), PV.at 0 [Stp.idx (0 + Int.toNat (↑(first + 2 * root + 1) : Int)) 1] = PV.at 0 [Stp.idx (first + 2 * root + 1) 1], 0 ≤ (↑(first + 2 * root + 1) : Int), (↑(first + 2 * root + 1) : Int) < (n:Int), first + 2 * root + 1 < n, I6 (IntKind.wrap .i64 ((first:Int) + (↑(2 * root + 1) : Int))) = I6 ↑(first + 2 * root + 1), I6 (IntKind.wrap .i64 ((↑(first + 2 * root + 1) : Int) + 1)) = I6 ↑(first + 2 * root + 2), PV.at 0 [Stp.idx (0 + Int.toNat (↑(first + 2 * root + 2) : Int)) 1] = PV.at 0 [Stp.idx (first + 2 * root + 2) 1], 0 ≤ (↑(first + 2 * root + 2) : Int), (↑(first + 2 * root + 2) : Int) < (n:Int), first + 2 * root + 2 < n, Pt 71 [] [U6 (List.getD l (first + 2 * root + 1) (0 : Int)), U6 (List.getD l (first + 2 * root + 2) (0 : Int))] [] (PV.bool true), I6 (IntKind.wrap .i64 ((↑(2 * root + 1) : Int) + 1)) = I6 ↑(2 * root + 2), I6 (IntKind.wrap .i64 ((first:Int) + (root:Int))) = I6 ↑(first + root), PV.at 0 [Stp.idx (0 + Int.toNat (↑(first + root) : Int)) 1] = PV.at 0 [Stp.idx (first + root) 1], 0 ≤ (↑(first + root) : Int), (↑(first + root) : Int) < (n:Int), first + root < n, I6 (IntKind.wrap .i64 ((first:Int) + (↑(2 * root + 2) : Int))) = I6 ↑(first + 2 * root + 2), PV.at 0 [Stp.idx (0 + Int.toNat (↑(first + 2 * root + 2) : Int)) 1] = PV.at 0 [Stp.idx (first + 2 * root + 2) 1], 0 ≤ (↑(first + 2 * root + 2) : Int), (↑(first + 2 * root + 2) : Int) < (n:Int), first + 2 * root + 2 < n, Pt 71 [] [U6 (List.getD l (first + root) (0 : Int)), U6 (List.getD l (first + 2 * root + 2) (0 : Int))] [] (PV.bool false)] (ac (wj (by omega)) (ac (wj (by omega)) (ac (dF (by omega)) (ac (wj (by omega)) (ac (dT (by omega)) (ac (wj (by omega)) (ac (by (rw [show Int.toNat (↑(first + 2 * root + 1) : Int) = first + 2 * root + 1 by omega]; simp only [Nat.zero_add])) (ob3 (by omega) (ac (wj (by omega)) (ac (wj (by omega)) (ac (by (rw [show Int.toNat (↑(first + 2 * root + 2) : Int) = first + 2 * root + 2 by omega]; simp only [Nat.zero_add])) (ob3 (by omega) (ac (AZ _ _ (by first | omega | decide)) (ac (wj (by omega)) (ac (wj (by omega)) (ac (by (rw [show Int.toNat (↑(first + root) : Int) = first + root by omega]; simp only [Nat.zero_add])) (ob3 (by omega) (ac (wj (by omega)) (ac (by (rw [show Int.toNat (↑(first + 2 * root + 2) : Int) = first + 2 * root + 2 by omega]; simp only [Nat.zero_add])) (ob3 (by omega) (ao (Bt _ _ (by first | omega | decide)))))))))))))))))))))))
theorem W_qS2 {n hi first root : Nat} {l : Liz} {hout : Lrz} {res : PV} (hn : n < 1000000) (hf : first + hi ≤ n) (h : ¬ hi ≤ 2 * root + 1) (g : 2 * root + 2 < hi) (g2 : l.getD (first + 2 * root + 1) 0 < l.getD (first + 2 * root + 2) 0) (g3 : l.getD (first + root) 0 < l.getD (first + 2 * root + 2) 0)
  (hw : Wt Try.f100 [0] hout res (Aa Try.f100 0) (qS n hi first (2 * root + 2) (swL l (first + root) (first + 2 * root + 2)))) :
  Wt Try.f100 [0] hout res (Aa Try.f100 0) (qS n hi first root l) := by
 refine W.sgA 0 [(1, aV (I6 ↑(2 * root))), (2, aV (I6 ↑(2 * root + 1))), (6, aF), (8, aV (I6 ↑(2 * root + 2))), (10, aT), (15, aV (I6 ↑(first + 2 * root + 1))), (16, aV (PV.at 0 [Stp.idx (first + 2 * root + 1) 1])), (21, aV (I6 ↑(first + 2 * root + 1))), (22, aV (I6 ↑(first + 2 * root + 2))), (23, aV (PV.at 0 [Stp.idx (first + 2 * root + 2) 1])), (25, aK (PV.bool true)), (28, aV (I6 ↑(2 * root + 2))), (33, aV (I6 ↑(first + root))), (34, aV (PV.at 0 [Stp.idx (first + root) 1])), (39, aV (I6 ↑(first + 2 * root + 2))), (40, aV (PV.at 0 [Stp.idx (first + 2 * root + 2) 1])), (42, aK (PV.bool true)), (47, aV (I6 ↑(first + root))), (51, aV (I6 ↑(first + 2 * root + 2))), (55, aV (I6 ↑(first + 2 * root + 2))), (56, aV (PV.at 0 [Stp.idx (first + 2 * root + 2) 1])), (61, aV (I6 ↑(first + root))), (62, aV (PV.at 0 [Stp.idx (first + root) 1])), (64, aV (PV.at 0 [Stp.idx (first + root) 1])), (66, aV (PV.at 0 [Stp.idx (first + 2 * root + 2) 1]))] [(0, 0)] (qS n hi first (2 * root + 2) (swL l (first + root) (first + 2 * root + 2))) [I6 (IntKind.wrap .i64 (2 * (root:Int))) = I6 ↑(2 * root), I6 (IntKind.wrap .i64 ((↑(2 * root) : Int) + 1)) = I6 ↑(2 * root + 1), decide ((↑(2 * root + 1) : Int) ≥ (hi:Int)) = false, I6 (IntKind.wrap .i64 ((↑(2 * root + 1) : Int) + 1)) = I6 ↑(2 * root + 2), decide ((↑(2 * root + 2) : Int) < (hi:Int)) = true, I6 (IntKind.wrap .i64 ((first:Int) + (↑(2 * root + 1) : Int))) = I6 ↑(first + 2 * root + 1), PV.at 0 [Stp.idx (0 + Int.toNat (↑(first + 2 * root + 1) : Int)) 1] = PV.at 0 [Stp.idx (first + 2 * root + 1) 1], 0 ≤ (↑(first + 2 * root + 1) : Int), (↑(first + 2 * root + 1) : Int) < (n:Int), first + 2 * root + 1 < n, I6 (IntKind.wrap .i64 ((first:Int) + (↑(2 * root + 1) : Int))) = I6 ↑(first + 2 * root + 1), I6 (IntKind.wrap .i64 ((↑(first + 2 * root + 1) : Int) + 1)) = I6 ↑(first + 2 * root + 2), PV.at 0 [Stp.idx (0 + Int.toNat (↑(first + 2 * root + 2) : Int)) 1] = PV.at 0 [Stp.idx (first + 2 * root + 2) 1], 0 ≤ (↑(first + 2 * root + 2) : Int), (↑(first + 2 * root + 2) : Int) < (n:Int), first + 2 * root + 2 < n, Pt 71 [] [U6 (List.getD l (first + 2 * root + 1) (0 : Int)), U6 (List.getD l (first + 2 * root + 2) (0 : Int))] [] (PV.bool true), I6 (IntKind.wrap .i64 ((↑(2 * root + 1) : Int) + 1)) = I6 ↑(2 * root + 2), I6 (IntKind.wrap .i64 ((first:Int) + (root:Int))) = I6 ↑(first + root), PV.at 0 [Stp.idx (0 + Int.toNat (↑(first + root) : Int)) 1] = PV.at 0 [Stp.idx (first + root) 1], 0 ≤ (↑(first + root) : Int), (↑(first + root) : Int) < (n:Int), first + root < n, I6 (IntKind.wrap .i64 ((first:Int) + (↑(2 * root + 2) : Int))) = I6 ↑(first + 2 * root + 2), PV.at 0 [Stp.idx (0 + Int.toNat (↑(first + 2 * root + 2) : Int)) 1] = PV.at 0 [Stp.idx (first + 2 * root + 2) 1], 0 ≤ (↑(first + 2 * root + 2) : Int), (↑(first + 2 * root + 2) : Int) < (n:Int), first + 2 * root + 2 < n, Pt 71 [] [U6 (List.getD l (first + root) (0 : Int)), U6 (List.getD l (first + 2 * root + 2) (0 : Int))] [] (PV.bool true), I6 (IntKind.wrap .i64 ((first:Int) + (root:Int))) = I6 ↑(first + root), I6 (IntKind.wrap .i64 ((first:Int) + (↑(2 * root + 2) : Int))) = I6 ↑(first + 2 * root + 2), I6 (IntKind.wrap .i64 ((first:Int) + (↑(2 * root + 2) : Int))) = I6 ↑(first + 2 * root + 2), PV.at 0 [Stp.idx (0 + Int.toNat (↑(first + 2 * root + 2) : Int)) 1] = PV.at 0 [Stp.idx (first + 2 * root + 2) 1], 0 ≤ (↑(first + 2 * root + 2) : Int), (↑(first + 2 * root + 2) : Int) < (n:Int), first + 2 * root + 2 < n, I6 (IntKind.wrap .i64 ((first:Int) + (root:Int))) = I6 ↑(first + root), PV.at 0 [Stp.idx (0 + Int.toNat (↑(first + root) : Int)) 1] = PV.at 0 [Stp.idx (first + root) 1], 0 ≤ (↑(first + root) : Int), (↑(first + root) : Int) < (n:Int), first + root < n, PV.at 0 [Stp.idx (0 + Int.toNat (↑(first + root) : Int)) 1] = PV.at 0 [Stp.idx (first + root) 1], 0 ≤ (↑(first + root) : Int), (↑(first + root) : Int) < (n:Int), first + root < n, PV.at 0 [Stp.idx (0 + Int.toNat (↑(first + 2 * root + 2) : Int)) 1] = PV.at 0 [Stp.idx (first + 2 * root + 2) 1], 0 ≤ (↑(first + 2 * root + 2) : Int), (↑(first + 2 * root + 2) : Int) < (n:Int), first + 2 * root + 2 < n] (ac (wj (by omega)) (ac (wj (by omega)) (ac (dF (by omega)) (ac (wj (by omega)) (ac (dT (by omega)) (ac (wj (by omega)) (ac (by (rw [show Int.toNat (↑(first + 2 * root + 1) : Int) = first + 2 * root + 1 by omega]; simp only [Nat.zero_add])) (ob3 (by omega) (ac (wj (by omega)) (ac (wj (by omega)) (ac (by (rw [show Int.toNat (↑(first + 2 * root + 2) : Int) = first + 2 * root + 2 by omega]; simp only [Nat.zero_add])) (ob3 (by omega) (ac (AZ _ _ (by first | omega | decide)) (ac (wj (by omega)) (ac (wj (by omega)) (ac (by (rw [show Int.toNat (↑(first + root) : Int) = first + root by omega]; simp only [Nat.zero_add])) (ob3 (by omega) (ac (wj (by omega)) (ac (by (rw [show Int.toNat (↑(first + 2 * root + 2) : Int) = first + 2 * root + 2 by omega]; simp only [Nat.zero_add])) (ob3 (by omega) (ac (AZ _ _ (by first | omega | decide)) (ac (wj (by omega)) (ac (wj (by omega)) (ac (wj (by omega)) (ac (by (rw [show Int.toNat (↑(first + 2 * root + 2) : Int) = first + 2 * root + 2 by omega]; simp only [Nat.zero_add])) (ob3 (by omega) (ac (wj (by omega)) (ac (by (rw [show Int.toNat (↑(first + root) : Int) = first + root by omega]; simp only [Nat.zero_add])) (ob3 (by omega) (ac (by (rw [show Int.toNat (↑(first + root) : Int) = first + root by omega]; simp only [Nat.zero_add])) (ob3 (by omega) (ac (by (rw [show Int.toNat (↑(first + 2 * root + 2) : Int) = first + 2 * root + 2 by omega]; simp only [Nat.zero_add])) (ob2 (by omega) (ao (by omega))))))))))))))))))))))))))))))))))) ?_
 exact hw
theorem W_qS3 {n hi first root : Nat} {l : Liz} (hn : n < 1000000) (hf : first + hi ≤ n) (h : ¬ hi ≤ 2 * root + 1) (g : ¬ (2 * root + 2 < hi ∧ l.getD (first + 2 * root + 1) 0 < l.getD (first + 2 * root + 2) 0)) (g3 : ¬ l.getD (first + root) 0 < l.getD (first + 2 * root + 1) 0) :
  Wt Try.f100 [0] [(0, Ac n l)] (.tup []) (Aa Try.f100 0) (qS n hi first root l) := by
 by_cases g1 : 2 * root + 2 < hi
 ·have g2 : ¬ l.getD (first + 2 * root + 1) 0 < l.getD (first + 2 * root + 2) 0 := fun x => g ⟨g1, x⟩
  refine W.rtA [(1, aV (I6 ↑(2 * root))), (2, aV (I6 ↑(2 * root + 1))), (6, aF), (8, aV (I6 ↑(2 * root + 2))), (10, aT), (15, aV (I6 ↑(first + 2 * root + 1))), (16, aV (PV.at 0 [Stp.idx (first + 2 * root + 1) 1])), (21, aV (I6 ↑(first + 2 * root + 1))), (22, aV (I6 ↑(first + 2 * root + 2))), (23, aV (PV.at 0 [Stp.idx (first + 2 * root + 2) 1])), (25, aK (PV.bool false)), (30, aV (I6 ↑(first + root))), (31, aV (PV.at 0 [Stp.idx (first + root) 1])), (36, aV (I6 ↑(first + 2 * root + 1))), (37, aV (PV.at 0 [Stp.idx (first + 2 * root + 1) 1])), (39, aK (PV.bool false))] [(0, 0)] [I6 (IntKind.wrap .i64 (2 * (root:Int))) = I6 ↑(2 * root), I6 (IntKind.wrap .i64 ((↑(2 * root) : Int) + 1)) = I6 ↑(2 * root + 1), decide ((↑(2 * root + 1) : Int) ≥ (hi:Int)) = false, I6 (IntKind.wrap .i64 ((↑(2 * root + 1) : Int) + 1)) = I6 ↑(2 * root + 2), decide ((↑(2 * root + 2) : Int) < (hi:Int)) = true, I6 (IntKind.wrap .i64 ((first:Int) + (↑(2 * root + 1) : Int))) = I6 ↑(first + 2 * root + 1), PV.at 0 [Stp.idx (0 + Int.toNat (↑(first + 2 * root + 1) : Int)) 1] = PV.at 0 [Stp.idx (first + 2 * root + 1) 1], 0 ≤ (↑(first + 2 * root + 1) : Int), (↑(first + 2 * root + 1) : Int) < (n:Int), first + 2 * root + 1 < n, I6 (IntKind.wrap .i64 ((first:Int) + (↑(2 * root + 1) : Int))) = I6 ↑(first + 2 * root + 1), I6 (IntKind.wrap .i64 ((↑(first + 2 * root + 1) : Int) + 1)) = I6 ↑(first + 2 * root + 2), PV.at 0 [Stp.idx (0 + Int.toNat (↑(first + 2 * root + 2) : Int)) 1] = PV.at 0 [Stp.idx (first + 2 * root + 2) 1], 0 ≤ (↑(first + 2 * root + 2) : Int), (↑(first + 2 * root + 2) : Int) < (n:Int), first + 2 * root + 2 < n, Pt 71 [] [U6 (List.getD l (first + 2 * root + 1) (0 : Int)), U6 (List.getD l (first + 2 * root + 2) (0 : Int))] [] (PV.bool false), I6 (IntKind.wrap .i64 ((first:Int) + (root:Int))) = I6 ↑(first + root), PV.at 0 [Stp.idx (0 + Int.toNat (↑(first + root) : Int)) 1] = PV.at 0 [Stp.idx (first + root) 1], 0 ≤ (↑(first + root) : Int), (↑(first + root) : Int) < (n:Int), first + root < n, I6 (IntKind.wrap .i64 ((first:Int) + (↑(2 * root + 1) : Int))) = I6 ↑(first + 2 * root + 1), PV.at 0 [Stp.idx (0 + Int.toNat (↑(first + 2 * root + 1) : Int)) 1] = PV.at 0 [Stp.idx (first + 2 * root + 1) 1], 0 ≤ (↑(first + 2 * root + 1) : Int), (↑(first + 2 * root + 1) : Int) < (n:Int), first + 2 * root + 1 < n, Pt 71 [] [U6 (List.getD l (first + root) (0 : Int)), U6 (List.getD l (first + 2 * root + 1) (0 : Int))] [] (PV.bool false)] (ac (wj (by omega)) (ac (wj (by omega)) (ac (dF (by omega)) (ac (wj (by omega)) (ac (dT (by omega)) (ac (wj (by omega)) (ac (by (rw [show Int.toNat (↑(first + 2 * root + 1) : Int) = first + 2 * root + 1 by omega]; simp only [Nat.zero_add])) (ob3 (by omega) (ac (wj (by omega)) (ac (wj (by omega)) (ac (by (rw [show Int.toNat (↑(first + 2 * root + 2) : Int) = first + 2 * root + 2 by omega]; simp only [Nat.zero_add])) (ob3 (by omega) (ac (Bt _ _ (by first | omega | decide)) (ac (wj (by omega)) (ac (by (rw [show Int.toNat (↑(first + root) : Int) = first + root by omega]; simp only [Nat.zero_add])) (ob3 (by omega) (ac (wj (by omega)) (ac (by (rw [show Int.toNat (↑(first + 2 * root + 1) : Int) = first + 2 * root + 1 by omega]; simp only [Nat.zero_add])) (ob3 (by omega) (ao (Bt _ _ (by first | omega | decide))))))))))))))))))))))
 ·refine W.rt [(1, aV (I6 (↑(2 * root) : Int))), (2, aV (I6 (↑(2 * root + 1) : Int))), (6, aF), (8, aV (I6 (↑(2 * root + 2) : Int))), (10, aF), (30, aV (I6 (↑(first + root) : Int))), (31, aV (PV.at 0 [Stp.idx (first + root) 1])), (36, aV (I6 (↑(first + 2 * root + 1) : Int))), (37, aV (PV.at 0 [Stp.idx (first + 2 * root + 1) 1])), (39, aK (PV.bool false))] [(0, 0)] [I6 (IntKind.wrap .i64 (2 * (root:Int))) = I6 (↑(2 * root) : Int), I6 (IntKind.wrap .i64 ((↑(2 * root) : Int) + 1)) = I6 (↑(2 * root + 1) : Int), decide ((↑(2 * root + 1) : Int) ≥ (hi:Int)) = false, I6 (IntKind.wrap .i64 ((↑(2 * root + 1) : Int) + 1)) = I6 (↑(2 * root + 2) : Int), decide ((↑(2 * root + 2) : Int) < (hi:Int)) = false, I6 (IntKind.wrap .i64 ((first:Int) + (root:Int))) = I6 (↑(first + root) : Int), PV.at 0 [Stp.idx (0 + Int.toNat (↑(first + root) : Int)) 1] = PV.at 0 [Stp.idx (first + root) 1], 0 ≤ (↑(first + root) : Int), (↑(first + root) : Int) < (n:Int), first + root < n, I6 (IntKind.wrap .i64 ((first:Int) + (↑(2 * root + 1) : Int))) = I6 (↑(first + 2 * root + 1) : Int), PV.at 0 [Stp.idx (0 + Int.toNat (↑(first + 2 * root + 1) : Int)) 1] = PV.at 0 [Stp.idx (first + 2 * root + 1) 1], 0 ≤ (↑(first + 2 * root + 1) : Int), (↑(first + 2 * root + 1) : Int) < (n:Int), first + 2 * root + 1 < n, Pt 71 [] [U6 (List.getD l (first + root) (0 : Int)), U6 (List.getD l (first + 2 * root + 1) (0 : Int))] [] (PV.bool false)] (by kernel_rfl) (ac (cg (Ab rfl (by omega) (by omega))) (ac (cg (Ab rfl (by omega) (by omega))) (ac (dF (by omega)) (ac (cg (Ab rfl (by omega) (by omega))) (ac (dF (by omega)) (ac (cg (Ab rfl (by omega) (by omega))) (ac (by (rw [show Int.toNat (↑(first + root) : Int) = first + root by omega]; simp only [Nat.zero_add])) (ac (by omega) (ac (by omega) (ac (by omega) (ac (cg (Ab rfl (by omega) (by omega))) (ac (by (rw [show Int.toNat (↑(first + 2 * root + 1) : Int) = first + 2 * root + 1 by omega]; simp only [Nat.zero_add])) (ac (by omega) (ac (by omega) (ac (by omega) (ao (Bt _ _ (by first | omega | decide))))))))))))))))))
theorem W_qS4 {n hi first root : Nat} {l : Liz} {hout : Lrz} {res : PV} (hn : n < 1000000) (hf : first + hi ≤ n) (h : ¬ hi ≤ 2 * root + 1) (g : ¬ (2 * root + 2 < hi ∧ l.getD (first + 2 * root + 1) 0 < l.getD (first + 2 * root + 2) 0)) (g3 : l.getD (first + root) 0 < l.getD (first + 2 * root + 1) 0)
  (hw : Wt Try.f100 [0] hout res (Aa Try.f100 0) (qS n hi first (2 * root + 1) (swL l (first + root) (first + 2 * root + 1)))) :
  Wt Try.f100 [0] hout res (Aa Try.f100 0) (qS n hi first root l) := by
 by_cases g1 : 2 * root + 2 < hi
 ·have g2 : ¬ l.getD (first + 2 * root + 1) 0 < l.getD (first + 2 * root + 2) 0 := fun x => g ⟨g1, x⟩
  refine W.sgA 0 [(1, aV (I6 ↑(2 * root))), (2, aV (I6 ↑(2 * root + 1))), (6, aF), (8, aV (I6 ↑(2 * root + 2))), (10, aT), (15, aV (I6 ↑(first + 2 * root + 1))), (16, aV (PV.at 0 [Stp.idx (first + 2 * root + 1) 1])), (21, aV (I6 ↑(first + 2 * root + 1))), (22, aV (I6 ↑(first + 2 * root + 2))), (23, aV (PV.at 0 [Stp.idx (first + 2 * root + 2) 1])), (25, aK (PV.bool false)), (30, aV (I6 ↑(first + root))), (31, aV (PV.at 0 [Stp.idx (first + root) 1])), (36, aV (I6 ↑(first + 2 * root + 1))), (37, aV (PV.at 0 [Stp.idx (first + 2 * root + 1) 1])), (39, aK (PV.bool true)), (44, aV (I6 ↑(first + root))), (48, aV (I6 ↑(first + 2 * root + 1))), (52, aV (I6 ↑(first + 2 * root + 1))), (53, aV (PV.at 0 [Stp.idx (first + 2 * root + 1) 1])), (58, aV (I6 ↑(first + root))), (59, aV (PV.at 0 [Stp.idx (first + root) 1])), (61, aV (PV.at 0 [Stp.idx (first + root) 1])), (63, aV (PV.at 0 [Stp.idx (first + 2 * root + 1) 1]))] [(0, 0)] (qS n hi first (2 * root + 1) (swL l (first + root) (first + 2 * root + 1))) [I6 (IntKind.wrap .i64 (2 * (root:Int))) = I6 ↑(2 * root), I6 (IntKind.wrap .i64 ((↑(2 * root) : Int) + 1)) = I6 ↑(2 * root + 1), decide ((↑(2 * root + 1) : Int) ≥ (hi:Int)) = false, I6 (IntKind.wrap .i64 ((↑(2 * root + 1) : Int) + 1)) = I6 ↑(2 * root + 2), decide ((↑(2 * root + 2) : Int) < (hi:Int)) = true, I6 (IntKind.wrap .i64 ((first:Int) + (↑(2 * root + 1) : Int))) = I6 ↑(first + 2 * root + 1), PV.at 0 [Stp.idx (0 + Int.toNat (↑(first + 2 * root + 1) : Int)) 1] = PV.at 0 [Stp.idx (first + 2 * root + 1) 1], 0 ≤ (↑(first + 2 * root + 1) : Int), (↑(first + 2 * root + 1) : Int) < (n:Int), first + 2 * root + 1 < n, I6 (IntKind.wrap .i64 ((first:Int) + (↑(2 * root + 1) : Int))) = I6 ↑(first + 2 * root + 1), I6 (IntKind.wrap .i64 ((↑(first + 2 * root + 1) : Int) + 1)) = I6 ↑(first + 2 * root + 2), PV.at 0 [Stp.idx (0 + Int.toNat (↑(first + 2 * root + 2) : Int)) 1] = PV.at 0 [Stp.idx (first + 2 * root + 2) 1], 0 ≤ (↑(first + 2 * root + 2) : Int), (↑(first + 2 * root + 2) : Int) < (n:Int), first + 2 * root + 2 < n, Pt 71 [] [U6 (List.getD l (first + 2 * root + 1) (0 : Int)), U6 (List.getD l (first + 2 * root + 2) (0 : Int))] [] (PV.bool false), I6 (IntKind.wrap .i64 ((first:Int) + (root:Int))) = I6 ↑(first + root), PV.at 0 [Stp.idx (0 + Int.toNat (↑(first + root) : Int)) 1] = PV.at 0 [Stp.idx (first + root) 1], 0 ≤ (↑(first + root) : Int), (↑(first + root) : Int) < (n:Int), first + root < n, I6 (IntKind.wrap .i64 ((first:Int) + (↑(2 * root + 1) : Int))) = I6 ↑(first + 2 * root + 1), PV.at 0 [Stp.idx (0 + Int.toNat (↑(first + 2 * root + 1) : Int)) 1] = PV.at 0 [Stp.idx (first + 2 * root + 1) 1], 0 ≤ (↑(first + 2 * root + 1) : Int), (↑(first + 2 * root + 1) : Int) < (n:Int), first + 2 * root + 1 < n, Pt 71 [] [U6 (List.getD l (first + root) (0 : Int)), U6 (List.getD l (first + 2 * root + 1) (0 : Int))] [] (PV.bool true), I6 (IntKind.wrap .i64 ((first:Int) + (root:Int))) = I6 ↑(first + root), I6 (IntKind.wrap .i64 ((first:Int) + (↑(2 * root + 1) : Int))) = I6 ↑(first + 2 * root + 1), I6 (IntKind.wrap .i64 ((first:Int) + (↑(2 * root + 1) : Int))) = I6 ↑(first + 2 * root + 1), PV.at 0 [Stp.idx (0 + Int.toNat (↑(first + 2 * root + 1) : Int)) 1] = PV.at 0 [Stp.idx (first + 2 * root + 1) 1], 0 ≤ (↑(first + 2 * root + 1) : Int), (↑(first + 2 * root + 1) : Int) < (n:Int), first + 2 * root + 1 < n, I6 (IntKind.wrap .i64 ((first:Int) + (root:Int))) = I6 ↑(first + root), PV.at 0 [Stp.idx (0 + Int.toNat (↑(first + root) : Int)) 1] = PV.at 0 [Stp.idx (first + root) 1], 0 ≤ (↑(first + root) : Int), (↑(first + root) : Int) < (n:Int), first + root < n, PV.at 0 [Stp.idx (0 + Int.toNat (↑(first + root) : Int)) 1] = PV.at 0 [Stp.idx (first + root) 1], 0 ≤ (↑(first + root) : Int), (↑(first + root) : Int) < (n:Int), first + root < n, PV.at 0 [Stp.idx (0 + Int.toNat (↑(first + 2 * root + 1) : Int)) 1] = PV.at 0 [Stp.idx (first + 2 * root + 1) 1], 0 ≤ (↑(first + 2 * root + 1) : Int), (↑(first + 2 * root + 1) : Int) < (n:Int), first + 2 * root + 1 < n] (ac (wj (by omega)) (ac (wj (by omega)) (ac (dF (by omega)) (ac (wj (by omega)) (ac (dT (by omega)) (ac (wj (by omega)) (ac (by (rw [show Int.toNat (↑(first + 2 * root + 1) : Int) = first + 2 * root + 1 by omega]; simp only [Nat.zero_add])) (ob3 (by omega) (ac (wj (by omega)) (ac (wj (by omega)) (ac (by (rw [show Int.toNat (↑(first + 2 * root + 2) : Int) = first + 2 * root + 2 by omega]; simp only [Nat.zero_add])) (ob3 (by omega) (ac (Bt _ _ (by first | omega | decide)) (ac (wj (by omega)) (ac (by (rw [show Int.toNat (↑(first + root) : Int) = first + root by omega]; simp only [Nat.zero_add])) (ob3 (by omega) (ac (wj (by omega)) (ac (by (rw [show Int.toNat (↑(first + 2 * root + 1) : Int) = first + 2 * root + 1 by omega]; simp only [Nat.zero_add])) (ob3 (by omega) (ac (AZ _ _ (by first | omega | decide)) (ac (wj (by omega)) (ac (wj (by omega)) (ac (wj (by omega)) (ac (by (rw [show Int.toNat (↑(first + 2 * root + 1) : Int) = first + 2 * root + 1 by omega]; simp only [Nat.zero_add])) (ob3 (by omega) (ac (wj (by omega)) (ac (by (rw [show Int.toNat (↑(first + root) : Int) = first + root by omega]; simp only [Nat.zero_add])) (ob3 (by omega) (ac (by (rw [show Int.toNat (↑(first + root) : Int) = first + root by omega]; simp only [Nat.zero_add])) (ob3 (by omega) (ac (by (rw [show Int.toNat (↑(first + 2 * root + 1) : Int) = first + 2 * root + 1 by omega]; simp only [Nat.zero_add])) (ob2 (by omega) (ao (by omega)))))))))))))))))))))))))))))))))) ?_
  exact hw
 ·refine W.sg 0 [(1, aV (I6 (↑(2 * root) : Int))), (2, aV (I6 (↑(2 * root + 1) : Int))), (6, aF), (8, aV (I6 (↑(2 * root + 2) : Int))), (10, aF), (30, aV (I6 (↑(first + root) : Int))), (31, aV (PV.at 0 [Stp.idx (first + root) 1])), (36, aV (I6 (↑(first + 2 * root + 1) : Int))), (37, aV (PV.at 0 [Stp.idx (first + 2 * root + 1) 1])), (39, aK (PV.bool true)), (44, aV (I6 (↑(first + root) : Int))), (48, aV (I6 (↑(first + 2 * root + 1) : Int))), (52, aV (I6 (↑(first + 2 * root + 1) : Int))), (53, aV (PV.at 0 [Stp.idx (first + 2 * root + 1) 1])), (58, aV (I6 (↑(first + root) : Int))), (59, aV (PV.at 0 [Stp.idx (first + root) 1])), (61, aV (PV.at 0 [Stp.idx (first + root) 1])), (63, aV (PV.at 0 [Stp.idx (first + 2 * root + 1) 1]))] [(0, 0)] (qS n hi first (2 * root + 1) (swL l (first + root) (first + 2 * root + 1))) [I6 (IntKind.wrap .i64 (2 * (root:Int))) = I6 (↑(2 * root) : Int), I6 (IntKind.wrap .i64 ((↑(2 * root) : Int) + 1)) = I6 (↑(2 * root + 1) : Int), decide ((↑(2 * root + 1) : Int) ≥ (hi:Int)) = false, I6 (IntKind.wrap .i64 ((↑(2 * root + 1) : Int) + 1)) = I6 (↑(2 * root + 2) : Int), decide ((↑(2 * root + 2) : Int) < (hi:Int)) = false, I6 (IntKind.wrap .i64 ((first:Int) + (root:Int))) = I6 (↑(first + root) : Int), PV.at 0 [Stp.idx (0 + Int.toNat (↑(first + root) : Int)) 1] = PV.at 0 [Stp.idx (first + root) 1], 0 ≤ (↑(first + root) : Int), (↑(first + root) : Int) < (n:Int), first + root < n, I6 (IntKind.wrap .i64 ((first:Int) + (↑(2 * root + 1) : Int))) = I6 (↑(first + 2 * root + 1) : Int), PV.at 0 [Stp.idx (0 + Int.toNat (↑(first + 2 * root + 1) : Int)) 1] = PV.at 0 [Stp.idx (first + 2 * root + 1) 1], 0 ≤ (↑(first + 2 * root + 1) : Int), (↑(first + 2 * root + 1) : Int) < (n:Int), first + 2 * root + 1 < n, Pt 71 [] [U6 (List.getD l (first + root) (0 : Int)), U6 (List.getD l (first + 2 * root + 1) (0 : Int))] [] (PV.bool true), I6 (IntKind.wrap .i64 ((first:Int) + (root:Int))) = I6 (↑(first + root) : Int), I6 (IntKind.wrap .i64 ((first:Int) + (↑(2 * root + 1) : Int))) = I6 (↑(first + 2 * root + 1) : Int), I6 (IntKind.wrap .i64 ((first:Int) + (↑(2 * root + 1) : Int))) = I6 (↑(first + 2 * root + 1) : Int), PV.at 0 [Stp.idx (0 + Int.toNat (↑(first + 2 * root + 1) : Int)) 1] = PV.at 0 [Stp.idx (first + 2 * root + 1) 1], 0 ≤ (↑(first + 2 * root + 1) : Int), (↑(first + 2 * root + 1) : Int) < (n:Int), first + 2 * root + 1 < n, I6 (IntKind.wrap .i64 ((first:Int) + (root:Int))) = I6 (↑(first + root) : Int), PV.at 0 [Stp.idx (0 + Int.toNat (↑(first + root) : Int)) 1] = PV.at 0 [Stp.idx (first + root) 1], 0 ≤ (↑(first + root) : Int), (↑(first + root) : Int) < (n:Int), first + root < n, PV.at 0 [Stp.idx (0 + Int.toNat (↑(first + root) : Int)) 1] = PV.at 0 [Stp.idx (first + root) 1], 0 ≤ (↑(first + root) : Int), (↑(first + root) : Int) < (n:Int), first + root < n, PV.at 0 [Stp.idx (0 + Int.toNat (↑(first + 2 * root + 1) : Int)) 1] = PV.at 0 [Stp.idx (first + 2 * root + 1) 1], 0 ≤ (↑(first + 2 * root + 1) : Int), (↑(first + 2 * root + 1) : Int) < (n:Int), first + 2 * root + 1 < n] (by kernel_rfl) (ac (cg (Ab rfl (by omega) (by omega))) (ac (cg (Ab rfl (by omega) (by omega))) (ac (dF (by omega)) (ac (cg (Ab rfl (by omega) (by omega))) (ac (dF (by omega)) (ac (cg (Ab rfl (by omega) (by omega))) (ac (by (rw [show Int.toNat (↑(first + root) : Int) = first + root by omega]; simp only [Nat.zero_add])) (ac (by omega) (ac (by omega) (ac (by omega) (ac (cg (Ab rfl (by omega) (by omega))) (ac (by (rw [show Int.toNat (↑(first + 2 * root + 1) : Int) = first + 2 * root + 1 by omega]; simp only [Nat.zero_add])) (ac (by omega) (ac (by omega) (ac (by omega) (ac (AZ _ _ (by first | omega | decide)) (ac (cg (Ab rfl (by omega) (by omega))) (ac (cg (Ab rfl (by omega) (by omega))) (ac (cg (Ab rfl (by omega) (by omega))) (ac (by (rw [show Int.toNat (↑(first + 2 * root + 1) : Int) = first + 2 * root + 1 by omega]; simp only [Nat.zero_add])) (ac (by omega) (ac (by omega) (ac (by omega) (ac (cg (Ab rfl (by omega) (by omega))) (ac (by (rw [show Int.toNat (↑(first + root) : Int) = first + root by omega]; simp only [Nat.zero_add])) (ac (by omega) (ac (by omega) (ac (by omega) (ac (by (rw [show Int.toNat (↑(first + root) : Int) = first + root by omega]; simp only [Nat.zero_add])) (ac (by omega) (ac (by omega) (ac (by omega) (ac (by (rw [show Int.toNat (↑(first + 2 * root + 1) : Int) = first + 2 * root + 1 by omega]; simp only [Nat.zero_add])) (ac (by omega) (ac (by omega) (ao (by omega))))))))))))))))))))))))))))))))))))) ?_
  exact hw
theorem W_qS {n hi first : Nat} (hn : n < 1000000) (hf : first + hi ≤ n) : ∀ (k root : Nat) (l : List Int), hi ≤ root + k → root < 3000000 →
  Wt Try.f100 [0] [(0, Ac n (EH hi first root l))] (.tup []) (Aa Try.f100 0) (qS n hi first root l)
 | 0, root, l, h, hr => by
  rw [LX, if_pos (by omega)]
  exact W_qSE hn (by omega) (by omega)
 | k + 1, root, l, h, hr => by
  rw [LX]
  by_cases h1 : hi ≤ 2 * root + 1
  ·rw [if_pos h1]
   exact W_qSE hn (by omega) h1
  ·rw [if_neg h1]
   by_cases h2 : 2 * root + 2 < hi ∧ l.getD (first + 2 * root + 1) 0 < l.getD (first + 2 * root + 2) 0
   ·rw [if_pos h2]
    by_cases h3 : l.getD (first + root) 0 < l.getD (first + 2 * root + 2) 0
    ·rw [if_neg (not_not_intro h3)]
     exact W_qS2 hn hf h1 h2.1 h2.2 h3 (W_qS hn hf k _ _ (by omega) (by omega))
    ·rw [if_pos h3]
     exact W_qS1 hn hf h1 h2.1 h2.2 h3
   ·rw [if_neg h2]
    by_cases h3 : l.getD (first + root) 0 < l.getD (first + 2 * root + 1) 0
    ·rw [if_neg (not_not_intro h3)]
     exact W_qS4 hn hf h1 h2 h3 (W_qS hn hf k _ _ (by omega) (by omega))
    ·rw [if_pos h3]
     exact W_qS3 hn hf h1 h2 h3
theorem PO {n hi first root : Nat} (hn : n < 1000000) (hf : first + hi ≤ n) (hr : root < 3000000) (l : List Int) : Pt 100 [(0, Ac n l)] [.ref 0 [] 1 0 n, .int .i64 root, .int .i64 hi, .int .i64 first] [(0, Ac n (EH hi first root l))] (.tup []) := by
 refine pO Try.func100 (by kernel_rfl) ?_
 have hw := W_qS hn hf hi root l (by omega) hr
 refine W.sgA 0 [] [(0, 0)] (qS n hi first root l) [] trivial ?_
 exact hw
def qH (n a hi : Nat) (i : Int) (l : List Int) : DS := ⟨[(0, .ref 0 [] 1 0 n), (6, .int .i64 a), (7, .int .i64 0), (8, .int .i64 hi), (9, .int .i64 i)], [(0, Ac n l)]⟩
def qP (n a : Nat) (i : Int) (l : List Int) : DS := ⟨[(0, .ref 0 [] 1 0 n), (6, .int .i64 a), (7, .int .i64 0), (10, .int .i64 i)], [(0, Ac n l)]⟩
theorem W_qHS {n a hi k : Nat} {l m : Liz} {hout : Lrz} {res : PV} (hn : n < 1000000) (hk : k < 3000000) (c1 : Pt 100 [(0, Ac n l)] [.ref 0 [] 1 0 n, .int .i64 k, .int .i64 hi, .int .i64 a] [(0, Ac n m)] (.tup []))
  (hw : Wt Try.f90 [0] hout res (Aa Try.f90 0) (qH n a hi ((k : Int) - 1) m)) :
  Wt Try.f90 [0] hout res (Aa Try.f90 0) (qH n a hi (k : Int) l) := by
 refine W.sgA 0 [(6, cC true [(0, 0)] c1), (8, aV (I6 ((k:Int) - 1)))] [(0, 0)] (qH n a hi ((k : Int) - 1) m) [_, I6 (IntKind.wrap .i64 ((k:Int) - 1)) = I6 ((k:Int) - 1)] (ac (c1) (ao (wj (by omega)))) ?_
 exact hw
theorem W_qHE {n a hi : Nat} {l : Liz} {hout : Lrz} {res : PV} (hn : n < 1000000) (hf : hi ≤ n)
  (hw : Wt Try.f90 [0] hout res (Aa Try.f90 1) (qP n a ((hi : Int) - 1) l)) :
  Wt Try.f90 [0] hout res (Aa Try.f90 0) (qH n a hi (-1) l) := by
 refine W.sgA 1 [(3, aV (I6 ((hi:Int) - 1)))] [(0, 0)] (qP n a ((hi : Int) - 1) l) [I6 (IntKind.wrap .i64 ((hi:Int) - 1)) = I6 ((hi:Int) - 1)] (ao (wj (by omega))) ?_
 exact hw
theorem W_qPE {n a : Nat} {l : Liz} : Wt Try.f90 [0] [(0, Ac n l)] (.tup []) (Aa Try.f90 1) (qP n a (-1) l) := by
 refine W.rtA [] [(0, 0)] [] trivial
theorem W_qPS {n a k : Nat} {l m : Liz} {hout : Lrz} {res : PV} (hn : n < 1000000) (hf : a + k < n) (c1 : Pt 100 [(0, Ac n (swL l a (a + k)))] [.ref 0 [] 1 0 n, .int .i64 0, .int .i64 k, .int .i64 a] [(0, Ac n m)] (.tup []))
  (hw : Wt Try.f90 [0] hout res (Aa Try.f90 1) (qP n a ((k : Int) - 1) m)) :
  Wt Try.f90 [0] hout res (Aa Try.f90 1) (qP n a (k : Int) l) := by
 unfold swL at c1
 refine W.sgA 1 [(7, aV (I6 ↑(a + k))), (11, aV (I6 ↑(a + k))), (12, aV (PV.at 0 [Stp.idx (a + k) 1])), (16, aV (PV.at 0 [Stp.idx a 1])), (18, aV (PV.at 0 [Stp.idx a 1])), (20, aV (PV.at 0 [Stp.idx (a + k) 1])), (26, cC true [(0, 0)] c1), (28, aV (I6 ((k:Int) - 1)))] [(0, 0)] (qP n a ((k : Int) - 1) m) [I6 (IntKind.wrap .i64 ((a:Int) + (k:Int))) = I6 ↑(a + k), I6 (IntKind.wrap .i64 ((a:Int) + (k:Int))) = I6 ↑(a + k), PV.at 0 [Stp.idx (0 + Int.toNat (↑(a + k) : Int)) 1] = PV.at 0 [Stp.idx (a + k) 1], 0 ≤ (↑(a + k) : Int), (↑(a + k) : Int) < (n:Int), a + k < n, PV.at 0 [Stp.idx (0 + a) 1] = PV.at 0 [Stp.idx a 1], 0 ≤ (a:Int), (a:Int) < (n:Int), a < n, PV.at 0 [Stp.idx (0 + a) 1] = PV.at 0 [Stp.idx a 1], 0 ≤ (a:Int), (a:Int) < (n:Int), a < n, PV.at 0 [Stp.idx (0 + Int.toNat (↑(a + k) : Int)) 1] = PV.at 0 [Stp.idx (a + k) 1], 0 ≤ (↑(a + k) : Int), (↑(a + k) : Int) < (n:Int), a + k < n, _, I6 (IntKind.wrap .i64 ((k:Int) - 1)) = I6 ((k:Int) - 1)] (ac (wj (by omega)) (ac (wj (by omega)) (ac (by (rw [show Int.toNat (↑(a + k) : Int) = a + k by omega]; simp only [Nat.zero_add])) (ob3 (by omega) (ac (by simp only [Nat.zero_add]) (ob3 (by omega) (ac (by simp only [Nat.zero_add]) (ob3 (by omega) (ac (by (rw [show Int.toNat (↑(a + k) : Int) = a + k by omega]; simp only [Nat.zero_add])) (ob3 (by omega) (ac (c1) (ao (wj (by omega)))))))))))))) ?_
 exact hw
theorem W_qP {n a : Nat} (hn : n < 1000000) : ∀ (k : Nat) (l : List Int), a + k ≤ n → Wt Try.f90 [0] [(0, Ac n (hpL a k l))] (.tup []) (Aa Try.f90 1) (qP n a ((k : Int) - 1) l)
 | 0, l, h => by
  rw [Sy]
  exact W_qPE
 | k + 1, l, h => by
  rw [TV, show (((k + 1 : Nat) : Int) - 1) = (k : Int) by omega]
  exact W_qPS hn (by omega) (PO (root := 0) hn (by omega) (by omega) _) (W_qP hn k _ (by omega))
theorem W_qH {n a hi : Nat} {hout : Lrz} {res : PV} (hn : n < 1000000) (hf : a + hi ≤ n) : ∀ (k : Nat) (l : List Int), k ≤ 2000000 →
  Wt Try.f90 [0] hout res (Aa Try.f90 0) (qH n a hi (-1) (hbL hi a k l)) →
  Wt Try.f90 [0] hout res (Aa Try.f90 0) (qH n a hi ((k : Int) - 1) l)
 | 0, l, h, hw => by
  rw [SK] at hw
  exact hw
 | k + 1, l, h, hw => by
  rw [Ta] at hw
  rw [show (((k + 1 : Nat) : Int) - 1) = (k : Int) by omega]
  exact W_qHS hn (by omega) (PO hn hf (by omega) l) (W_qH hn hf k _ (by omega) hw)
theorem pc_heap {n a b : Nat} (hn : n < 1000000) (hb : b ≤ n) (hab : a + 2 ≤ b) (l : List Int) : Pt 90 [(0, Ac n l)] [.ref 0 [] 1 0 n, .int .i64 a, .int .i64 b] [(0, Ac n (hsL' l a b))] (.tup []) := by
 refine pO Try.func90 (by kernel_rfl) ?_
 rw [hsL'_eq]
 have hw := W_qH hn (show a + (b - a) ≤ n by omega) ((b - a - 1) / 2 + 1) l (by omega) (W_qHE hn (by omega) (W_qP hn (b - a) _ (by omega)))
 rw [show (((b - a - 1) / 2 + 1 : Nat) : Int) - 1 = (((b - a - 1) / 2 : Nat) : Int) by omega] at hw
 obtain ⟨q, rfl⟩ : ∃ q, b = a + q := ⟨b - a, by omega⟩
 rw [Nat.add_sub_cancel_left] at hw ⊢
 have he : ((q : Int) - 1).tdiv 2 = (((q - 1) / 2 : Nat) : Int) := by
  rw [Int.tdiv_eq_ediv_of_nonneg (by omega)]
  omega
 have hr : (q - 1) / 2 < 1000000 := by omega
 generalize (q - 1) / 2 = r at *
 refine W.sgA 0 [(5, aV (I6 q)), (8, aV (I6 ((q:Int) - 1))), (9, aV (I6 r))] [(0, 0)] (qH n a q (r : Int) l) [I6 (IntKind.wrap .i64 ((↑(a + q) : Int) - (a:Int))) = I6 q, I6 (IntKind.wrap .i64 ((q:Int) - 1)) = I6 ((q:Int) - 1), I6 (IntKind.wrap .i64 (Int.tdiv ((q:Int) - 1) (2 : Int))) = I6 r, (2 : Int) ≠ 0] (ac (cg (Ab (by omega) (by omega) (by omega))) (ac (wj (by omega)) (ac (cg (Ab he (by omega) (by omega))) (ao (by omega))))) ?_
 exact hw
def qR (n : Nat) (i j : Nat) (l : List Int) : DS := ⟨[(0, .ref 0 [] 1 0 n), (6, .int .i64 i), (7, .int .i64 j)], [(0, Ac n l)]⟩
theorem W_qRE {n i j : Nat} {l : Liz} (h : ¬ i < j) : Wt Try.f93 [0] [(0, Ac n l)] (.tup []) (Aa Try.f93 0) (qR n i j l) := by
 refine W.rtA [(2, aF)] [(0, 0)] [decide ((i:Int) < (j:Int)) = false] (ao (dF (by omega)))
theorem W_qRS {n i j : Nat} {l : Liz} {hout : Lrz} {res : PV} (hn : n < 1000000) (hj : j + 1 < n) (h : i < j + 1) (hw : Wt Try.f93 [0] hout res (Aa Try.f93 0) (qR n (i + 1) j (swL l i (j + 1)))) :
  Wt Try.f93 [0] hout res (Aa Try.f93 0) (qR n i (j + 1) l) := by
 refine W.sgA 0 [(2, aT), (9, aV (PV.at 0 [Stp.idx (j + 1) 1])), (13, aV (PV.at 0 [Stp.idx i 1])), (15, aV (PV.at 0 [Stp.idx i 1])), (17, aV (PV.at 0 [Stp.idx (j + 1) 1])), (20, aV (I6 ↑(i + 1))), (23, aV (I6 j))] [(0, 0)] (qR n (i + 1) j (swL l i (j + 1))) [decide ((i:Int) < (↑(j + 1) : Int)) = true, PV.at 0 [Stp.idx (0 + Int.toNat (↑(j + 1) : Int)) 1] = PV.at 0 [Stp.idx (j + 1) 1], 0 ≤ (↑(j + 1) : Int), (↑(j + 1) : Int) < (n:Int), j + 1 < n, PV.at 0 [Stp.idx (0 + i) 1] = PV.at 0 [Stp.idx i 1], 0 ≤ (i:Int), (i:Int) < (n:Int), i < n, PV.at 0 [Stp.idx (0 + i) 1] = PV.at 0 [Stp.idx i 1], 0 ≤ (i:Int), (i:Int) < (n:Int), i < n, PV.at 0 [Stp.idx (0 + Int.toNat (↑(j + 1) : Int)) 1] = PV.at 0 [Stp.idx (j + 1) 1], 0 ≤ (↑(j + 1) : Int), (↑(j + 1) : Int) < (n:Int), j + 1 < n, I6 (IntKind.wrap .i64 ((i:Int) + 1)) = I6 ↑(i + 1), I6 (IntKind.wrap .i64 ((↑(j + 1) : Int) - 1)) = I6 j] (ac (dT (by omega)) (ac (by (rw [show Int.toNat (↑(j + 1) : Int) = j + 1 by omega]; simp only [Nat.zero_add])) (ob3 (by omega) (ac (by simp only [Nat.zero_add]) (ob3 (by omega) (ac (by simp only [Nat.zero_add]) (ob3 (by omega) (ac (by (rw [show Int.toNat (↑(j + 1) : Int) = j + 1 by omega]; simp only [Nat.zero_add])) (ob3 (by omega) (ac (wj (by omega)) (ao (cg (Ab (by omega) (by omega) (by omega)))))))))))))) ?_
 exact hw
theorem W_qR {n : Nat} (hn : n < 1000000) : ∀ (j i : Nat) (l : List Int), j < n → Wt Try.f93 [0] [(0, Ac n (rvL i j l))] (.tup []) (Aa Try.f93 0) (qR n i j l)
 | 0, i, l, h => by
  rw [RG, if_neg (by omega)]
  exact W_qRE (by omega)
 | j + 1, i, l, h => by
  rw [RG]
  by_cases hi : i < j + 1
  ·rw [if_pos hi]
   exact W_qRS hn h hi (W_qR hn j (i + 1) _ (by omega))
  ·rw [if_neg hi]
   exact W_qRE hi
theorem PN {n a b : Nat} (hn : n < 1000000) (hb : b < n) (l : List Int) : Pt 93 [(0, Ac n l)] [.ref 0 [] 1 0 n, .int .i64 a, .int .i64 ((b + 1 : Nat) : Int)] [(0, Ac n (rvL a b l))] (.tup []) := by
 refine pO Try.func93 (by kernel_rfl) ?_
 have hw := W_qR hn b a l hb
 refine W.sgA 0 [(3, aV (I6 b))] [(0, 0)] (qR n a b l) [I6 (IntKind.wrap .i64 ((↑(b + 1) : Int) - 1)) = I6 b] (ao (cg (Ab (by omega) (by omega) (by omega)))) ?_
 exact hw
end Go.Proofs
namespace Go.Proofs
open Go Go.Pe Go.Pm
set_option maxRecDepth 100000
set_option linter.unusedVariables false
attribute [local irreducible] lv
-- ones
def dRo1 (n i : Nat) (l : List Int) : DS := ⟨[(0, .int .i64 n), (3, .ref 1 [] 1 0 i), (4, .int .i64 i)], [(1, BF i l)]⟩
theorem W_o1 {n i : Nat} {l : Liz} {hout : Lrz} {res : PV} (hn : n ≤ 65536) (hi : i < n) (hl : l.length = i) (hw : Wt Try.f81 [] hout res (Aa Try.f81 0) (dRo1 n (i + 1) (l ++ [49]))) :
  Wt Try.f81 [] hout res (Aa Try.f81 0) (dRo1 n i l) := by
 refine W.sgA 0 [(2, aT), (5, Ans.ups [(1, none), (144, some (Row.mk (B8 (i + 1) (l ++ [49])) false))]), (8, aV (I6 ↑(i + 1)))] [(144, 1)] (dRo1 n (i + 1) (l ++ [49])) [decide ((i:Int) < (n:Int)) = true, ([(1, none), (144, some (Row.mk (B8 (i + 1) (List.take i l ++ [49])) false))] : List (Nat × Option Row)) = [(1, none), (144, some (Row.mk (B8 (i + 1) (l ++ [49])) false))], 1 ≤ 1, 0 + i = i, (i + 1) * 1 ≤ 140737488355328, i + 1 ≤ 9223372036854775807, I6 (IntKind.wrap .i64 ((i:Int) + 1)) = I6 ↑(i + 1)] (ac (dT (by omega)) (ac (by rw [List.take_of_length_le (show List.length l ≤ i by omega)]) (ac (by omega) (ac (by omega) (ob2 (by omega) (ao (wj (by omega)))))))) ?_
 exact hw
theorem W_o1X {n : Nat} {l : Liz} (hn : n ≤ 65536) (hl : l.length = n) (hb : Bytes l) : Wt Try.f81 [] [] (.str (strOf l)) (Aa Try.f81 0) (dRo1 n n l) := by
 have h1 : l.take n = l := List.take_of_length_le (by omega)
 refine W.rtA [(2, aF), (4, aV (PV.str (strOf l)))] [] [decide ((n:Int) < (n:Int)) = false, PV.str (strOf (List.take n l)) = PV.str (strOf l), 0 + n ≤ n] (ac (dF (by omega)) (ac (by rw [List.take_of_length_le (show List.length l ≤ n by omega)]) (ao (by omega))))
theorem W_o1In {n : Nat} {hout : Lrz} {res : PV} (hw : Wt Try.f81 [] hout res (Aa Try.f81 0) (dRo1 n 0 [])) :
  Pt 81 [] [.int .i64 n] hout res := by
 refine pO Try.func81 (by kernel_rfl) ?_
 refine W.sgA 0 [] [(80, 1)] (dRo1 n 0 []) [] trivial ?_
 exact hw
-- how many
def dO2 (x i : Nat) : DS := ⟨[(0, .int .i64 19), (1, .int .u64 x), (5, .int .i64 i)], []⟩
theorem W_o2 {x y i : Nat} {hout : Lrz} {res : PV} (hx : x < 18446744073709551616) (hy : x / 2 = y) (hi : i < 19) (c1 : Pt 66 [] [.int .i64 19] [] (.int .i64 19)) (hw : Wt Try.f80 [] hout res (Aa Try.f80 0) (dO2 y (i + 1))) :
  Wt Try.f80 [] hout res (Aa Try.f80 0) (dO2 x i) := by
 refine W.seg [(2, c9 c1), (3, aT), (5, aV (U6 ↑(x / 2))), (8, aV (I6 ↑(i + 1)))] [] (dO2 y (i + 1)) (todo' := Aa Try.f80 0) [_, decide ((i:Int) < 19) = true, U6 (IntKind.wrap .u64 (Int.tdiv (x:Int) (2 : Int))) = U6 ↑(x / 2), (2 : Int) ≠ 0, I6 (IntKind.wrap .i64 ((i:Int) + 1)) = I6 ↑(i + 1), rr (I6 19), U6 ↑(x / 2) = U6 y, rr (I6 ↑(i + 1))] (by kernel_rfl) (ac (c1) (ac (dT (by omega)) (ac (cg (Aj rfl (by omega) (by omega))) (ac (by omega) (ac (wj (by omega)) (ac rfl (ac (cg (by omega)) (ao rfl)))))))) ?_
 exact hw
theorem W_o2X {x : Nat} (c1 : Pt 66 [] [.int .i64 19] [] (.int .i64 19)) : Wt Try.f80 [] [] (.int .u64 x) (Aa Try.f80 0) (dO2 x 19) := by
 refine W.rtA [(0, aV (I6 19)), (2, c9 c1)] [] [I6 ↑(19 : Nat) = I6 19, _] (ac (cg (by omega)) (ao (c1)))
theorem W_o2In {x : Nat} {hout : Lrz} {res : PV} (hw : Wt Try.f80 [] hout res (Aa Try.f80 0) (dO2 x 0)) :
  Pt 80 [] [.int .i64 19, .int .u64 x] hout res := by
 refine pO Try.func80 (by kernel_rfl) ?_
 refine W.sgA 0 [] [] (dO2 x 0) [] trivial ?_
 exact hw
-- a number's text
theorem W_b12 {x q : Nat} {a b ab : ByteArray} (hq : q ≤ 65536) (ha : a.size ≤ 65536) (hb : b.size ≤ 64) (e : (a ++ ByteArray.mk #[48]) ++ b = ab) (c1 : Pt 66 [] [.int .i64 19] [] (.int .i64 19)) (c2 : Pt 80 [] [.int .i64 19, .int .u64 x] [] (.int .u64 q)) (c3 : Pt 81 [] [.int .i64 q] [] (.str a)) (c4 : Pt 63 [] [.int .u64 x, .int .i64 19] [] (.str b)) :
  Pt 53 [] [.int .i64 19, .int .u64 x] [] (.tup [.str ab, .bool true]) := by
 refine pO Try.func53 (by kernel_rfl) ?_
 refine W.ret [(4, c9 c2), (7, aF), (9, aV (I6 q)), (10, c9 c3), (14, c9 c1), (15, c9 c4)] [] [_, decide ((q:Int) > 65536) = false, I6 (IntKind.wrap .i64 (q:Int)) = I6 q, _, ByteArray.size a + 1 ≤ 9223372036854775807, _, _, ByteArray.size (a ++ ByteArray.mk #[(48 : UInt8)]) + ByteArray.size b ≤ 9223372036854775807, PV.tup [PV.str (a ++ ByteArray.mk #[(48 : UInt8)] ++ b), PV.bool true] = PV.tup [PV.str ab, PV.bool true]] (by kernel_rfl) (ac (c2) (ac (dF (by omega)) (ac (wj (by omega)) (ac (c3) (ac (by omega) (ac (c1) (ac (c4) (ac ?_ (ao (by (simp [I6, U6, U3, U8]; omega)))))))))))
 rw [ByteArray.size_append]
 have : (ByteArray.mk #[48]).size = 1 := rfl
 omega
-- bytes of a text
def dYA (s : ByteArray) : DS := ⟨[(0, .str s)], []⟩
def dYB (s : ByteArray) (c i : Nat) (l : List Int) : DS := ⟨[(0, .str s), (3, .ref 1 [] 1 0 c), (4, .int .i64 i)], [(1, BF c l)]⟩
theorem W_yA {s t : ByteArray} {hout : Lrz} {res : PV} (hs : s.size ≤ 100000000) (h8 : s.size % 8 ≠ 0) (e : s ++ ByteArray.mk #[48] = t) (hw : Wt Try.f54 [] hout res (Aa Try.f54 0) (dYA t)) :
  Wt Try.f54 [] hout res (Aa Try.f54 0) (dYA s) := by
 refine W.seg [(2, aV (I6 ↑(ByteArray.size s % 8))), (3, aT)] [] (dYA t) (todo' := Aa Try.f54 0) [I6 (Int.tmod (↑(ByteArray.size s) : Int) (8 : Int)) = I6 ↑(ByteArray.size s % 8), (8 : Int) ≠ 0, ((↑(ByteArray.size s % 8) : Int) != 0) = true, ByteArray.size s + 1 ≤ 9223372036854775807, PV.str (s ++ ByteArray.mk #[(48 : UInt8)]) = PV.str t] (by kernel_rfl) (ac (cg rfl) (ac (by omega) (ac (bne_iff_ne.2 (by omega)) (ac (by omega) (ao (by (simp [I6, U6, U3, U8]; omega))))))) ?_
 exact hw
theorem W_yAB {s : ByteArray} {hout : Lrz} {res : PV} (hs : s.size ≤ 100000000) (h8 : s.size % 8 = 0) (hw : Wt Try.f54 [] hout res (Aa Try.f54 1) (dYB s 0 0 [])) :
  Wt Try.f54 [] hout res (Aa Try.f54 0) (dYA s) := by
 refine W.sgA 1 [(2, aV (I6 ↑(ByteArray.size s % 8))), (3, aF)] [(128, 1)] (dYB s 0 0 []) [I6 (Int.tmod (↑(ByteArray.size s) : Int) (8 : Int)) = I6 ↑(ByteArray.size s % 8), (8 : Int) ≠ 0, ((↑(ByteArray.size s % 8) : Int) != 0) = false] (ac (cg rfl) (ac (by omega) (ao (bne_eq_false_iff_eq.2 (by omega))))) ?_
 exact hw
theorem W_yB {s : ByteArray} {c i x : Nat} {l : Liz} {hout : Lrz} {res : PV} (hs : s.size ≤ 100000000) (hi : i + 8 ≤ s.size) (hc : c ≤ 100000000) (hl : l.length = c) (hx : x < 256) (c1 : Pt 41 [] [.str (s.extract i (i + 8))] [] (.int .u64 x)) (hw : Wt Try.f54 [] hout res (Aa Try.f54 1) (dYB s (c + 1) (i + 8) (l ++ [(x : Int)]))) :
  Wt Try.f54 [] hout res (Aa Try.f54 1) (dYB s c i l) := by
 refine W.sgA 1 [(3, aT), (8, aV (I6 ↑(i + 8))), (9, aV (PV.str (ByteArray.extract s i (i + 8)))), (10, c9 c1), (11, aV (U8 x)), (13, Ans.ups [(1, none), (272, some (Row.mk (B8 (c + 1) (l ++ [(x:Int)])) false))]), (16, aV (I6 ↑(i + 8)))] [(272, 1)] (dYB s (c + 1) (i + 8) (l ++ [(x : Int)])) [decide ((i:Int) < (↑(ByteArray.size s) : Int)) = true, I6 (IntKind.wrap .i64 ((i:Int) + 8)) = I6 ↑(i + 8), PV.str (ByteArray.extract s i (Int.toNat (↑(i + 8) : Int))) = PV.str (ByteArray.extract s i (i + 8)), 0 ≤ (i:Int), (i:Int) ≤ (↑(i + 8) : Int), (↑(i + 8) : Int) ≤ (↑(ByteArray.size s) : Int), _, U8 (IntKind.wrap .u8 (x:Int)) = U8 x, ([(1, none), (272, some (Row.mk (B8 (c + 1) (List.take c l ++ [(x:Int)])) false))] : List (Nat × Option Row)) = [(1, none), (272, some (Row.mk (B8 (c + 1) (l ++ [(x:Int)])) false))], 1 ≤ 1, 0 + c = c, (c + 1) * 1 ≤ 140737488355328, c + 1 ≤ 9223372036854775807, I6 (IntKind.wrap .i64 ((i:Int) + 8)) = I6 ↑(i + 8)] (ac (dT (by omega)) (ac (wj (by omega)) (ac (by rw [show Int.toNat (↑(i + 8) : Int) = i + 8 by omega]) (ob3 (by omega) (ac (c1) (ac (cg (KX rfl (by omega) (by omega))) (ac (by rw [List.take_of_length_le (show List.length l ≤ c by omega)]) (ac (by omega) (ac (by omega) (ob2 (by omega) (ao (wj (by omega))))))))))))) ?_
 exact hw
theorem W_yX {s : ByteArray} {c : Nat} {l : Liz} (hs : s.size ≤ 100000000) (hc : c ≤ 100000000) (hl : l.length = c) (hb : Bytes l) : Wt Try.f54 [] [] (.str (strOf l)) (Aa Try.f54 1) (dYB s c s.size l) := by
 have h1 : l.take c = l := List.take_of_length_le (by omega)
 refine W.rtA [(3, aF), (5, aV (PV.str (strOf l)))] [] [decide ((↑(ByteArray.size s) : Int) < (↑(ByteArray.size s) : Int)) = false, PV.str (strOf (List.take c l)) = PV.str (strOf l), 0 + c ≤ c] (ac (dF (by omega)) (ac (by rw [List.take_of_length_le (show List.length l ≤ c by omega)]) (ao (by omega))))
theorem W_yIn {s : ByteArray} {hout : Lrz} {res : PV} (hw : Wt Try.f54 [] hout res (Aa Try.f54 0) (dYA s)) :
  Pt 54 [] [.str s] hout res := by
 refine pO Try.func54 (by kernel_rfl) ?_
 refine W.sgA 0 [] [] (dYA s) [] trivial ?_
 exact hw
-- steps
def KU (nl : Bool) (k i : Nat) (L : List Int) (s : ByteArray) : DS := ⟨[(0, .int .i64 19), (1, .vec nl (.iarr .u64 k L)), (6, .str s), (7, .int .i64 i)], []⟩
theorem W_rst0 {nl : Bool} {k x : Nat} {L : Liz} {a : ByteArray} {hout : Lrz} {res : PV} (h0 : 0 < k) (hk : k ≤ 1000000) (hL : L.length = k) (hg : L.getD 0 0 = (x : Int)) (hx : x < 18446744073709551616) (ha : a.size ≤ 100000) (c1 : Pt 53 [] [.int .i64 19, .int .u64 x] [] (.tup [.str a, .bool true])) (hw : Wt Try.f27 [] hout res (Aa Try.f27 0) (KU nl k 1 L a)) :
  Wt Try.f27 [] hout res (Aa Try.f27 0) (KU nl k 0 L ByteArray.empty) := by
 have e : ByteArray.empty ++ a = a := by apply ByteArray.ext; simp
 refine W.seg [(0, aV (I6 0)), (3, aT), (5, aV (I6 0)), (7, aV (U6 x)), (9, aV (I6 0)), (13, c9 c1), (25, aV (I6 0)), (26, aV (I6 1))] [] (KU nl k 1 L a) (todo' := Aa Try.f27 0) [I6 ↑(0 : Nat) = I6 0, decide (0 < (k:Int)) = true, I6 ↑(0 : Nat) = I6 0, (0 : Int) ≤ 0, 0 < (k:Int), U6 (List.getD L 0 (0 : Int)) = U6 x, 0 < k, I6 ↑(0 : Nat) = I6 0, _, 0 + ByteArray.size a ≤ 9223372036854775807, I6 ↑(0 : Nat) = I6 0, I6 (IntKind.wrap .i64 ((0 : Int) + (1 : Int))) = I6 1, rr (I6 19), rr (PV.vec nl (B6 k L)), PV.str (ByteArray.empty ++ a) = PV.str a, I6 1 = I6 ↑(1 : Nat)] (by kernel_rfl) (ac (cg (by omega)) (ac (dT (by omega)) (ac (cg (by omega)) (ob2 (by omega) (ac (cg (hg)) (ac (by omega) (ac (cg (by omega)) (ac (c1) (ac (by omega) (ac (cg (by omega)) (ac (wj (by omega)) (ac rfl (ac rfl (ac rfl (ao (cg (by omega))))))))))))))))) ?_
 exact hw
theorem W_rst {nl : Bool} {k i x y z : Nat} {L : Liz} {s a t : ByteArray} {hout : Lrz} {res : PV} (h0 : 0 < i) (hi : i < k) (hk : k ≤ 1000000) (hL : L.length = k) (hg : L.getD i 0 = (x : Int)) (hg2 : L.getD (i - 1) 0 = (y : Int)) (hxy : y ≤ x) (hz : x - y = z) (hx : x < 18446744073709551616) (hs : s.size ≤ 100000000) (ha : a.size ≤ 100000) (e : s ++ a = t) (c1 : Pt 53 [] [.int .i64 19, .int .u64 z] [] (.tup [.str a, .bool true])) (hw : Wt Try.f27 [] hout res (Aa Try.f27 0) (KU nl k (i + 1) L t)) :
  Wt Try.f27 [] hout res (Aa Try.f27 0) (KU nl k i L s) := by
 have e1 : (i : Int) - 1 = ((i - 1 : Nat) : Int) := by omega
 have e2 : (x : Int) - (y : Int) = (z : Int) := by omega
 refine W.seg [(3, aT), (7, aV (U6 x)), (10, aT), (14, aV (I6 ↑(i - 1))), (15, aV (PV.cptr (B6 k L) [Stp.idx (i - 1) 1])), (16, aV (U6 y)), (17, aF), (21, aV (I6 ↑(i - 1))), (22, aV (PV.cptr (B6 k L) [Stp.idx (i - 1) 1])), (23, aV (U6 y)), (24, aV (U6 z)), (28, c9 c1), (41, aV (I6 ↑(i + 1)))] [] (KU nl k (i + 1) L t) (todo' := Aa Try.f27 0) [decide ((i:Int) < (k:Int)) = true, 0 ≤ (i:Int), (i:Int) < (k:Int), U6 (List.getD L i (0 : Int)) = U6 x, i < k, decide ((i:Int) > 0) = true, I6 (IntKind.wrap .i64 ((i:Int) - 1)) = I6 ↑(i - 1), PV.cptr (B6 k L) [Stp.idx (Int.toNat (↑(i - 1) : Int)) 1] = PV.cptr (B6 k L) [Stp.idx (i - 1) 1], 0 ≤ (↑(i - 1) : Int), (↑(i - 1) : Int) < (k:Int), U6 (List.getD L (i - 1) (0 : Int)) = U6 y, i - 1 < k, decide ((x:Int) < (y:Int)) = false, I6 (IntKind.wrap .i64 ((i:Int) - 1)) = I6 ↑(i - 1), PV.cptr (B6 k L) [Stp.idx (Int.toNat (↑(i - 1) : Int)) 1] = PV.cptr (B6 k L) [Stp.idx (i - 1) 1], 0 ≤ (↑(i - 1) : Int), (↑(i - 1) : Int) < (k:Int), U6 (List.getD L (i - 1) (0 : Int)) = U6 y, i - 1 < k, U6 (IntKind.wrap .u64 ((x:Int) - (y:Int))) = U6 z, _, ByteArray.size s + ByteArray.size a ≤ 9223372036854775807, I6 (IntKind.wrap .i64 ((i:Int) + 1)) = I6 ↑(i + 1), rr (I6 19), rr (PV.vec nl (B6 k L)), PV.str (s ++ a) = PV.str t, rr (I6 ↑(i + 1))] (by kernel_rfl) (ac (dT (by omega)) (ob2 (by omega) (ac (cg (hg)) (ac (by omega) (ac (dT (by omega)) (ac (cg (Ab e1 (by omega) (by omega))) (ac (by rw [show Int.toNat (↑(i - 1) : Int) = i - 1 by omega]) (ob2 (by omega) (ac (cg (hg2)) (ac (by omega) (ac (dF (by omega)) (ac (cg (Ab e1 (by omega) (by omega))) (ac (by rw [show Int.toNat (↑(i - 1) : Int) = i - 1 by omega]) (ob2 (by omega) (ac (cg (hg2)) (ac (by omega) (ac (cg (Aj e2 (by omega) (by omega))) (ac (c1) (ac (by omega) (ac (wj (by omega)) (ac rfl (ac rfl (ac (by (simp [I6, U6, U3, U8]; omega)) (ao rfl)))))))))))))))))))))))) ?_
 exact hw
theorem SQ {nl : Bool} {k : Nat} {L : Liz} {s t : ByteArray} (hk : k ≤ 1000000) (c1 : Pt 54 [] [.str s] [] (.str t)) :
  Wt Try.f27 [] [] (.tup [.str t, .int .i64 0]) (Aa Try.f27 0) (KU nl k k L s) := by
 refine W.rtA [(3, aF), (5, c9 c1)] [] [decide ((k:Int) < (k:Int)) = false, _] (ac (dF (by omega)) (ao (c1)))
theorem W_rstIn {nl : Bool} {k : Nat} {L : Liz} {hout : Lrz} {res : PV} (hk : k ≤ 1000000) (hw : Wt Try.f27 [] hout res (Aa Try.f27 0) (KU nl k 0 L ByteArray.empty)) :
  Pt 27 [] [.int .i64 19, .vec nl (.iarr .u64 k L)] hout res := by
 refine pO Try.func27 (by kernel_rfl) ?_
 refine W.seg [] [] (KU nl k 0 L ByteArray.empty) (todo' := Aa Try.f27 0) [rr (I6 19), rr (PV.vec nl (B6 k L)), PV.str (ByteArray.mk #[]) = PV.str ByteArray.empty, I6 0 = I6 ↑(0 : Nat)] (by kernel_rfl) (ac rfl (ac rfl (ac rfl (ao (cg (by omega)))))) ?_
 exact hw
end Go.Proofs
namespace Go.Proofs
open Go Go.Pe Go.Pm
set_option maxRecDepth 100000
set_option linter.unusedVariables false
attribute [local irreducible] lv
def btR (nl : Bool) (N : Nat) (l : List Int) (a : Nat) : Row := ⟨.st 2 [.vec nl (.iarr .u8 N l), .int .i64 a], false⟩
theorem pc_btOf {nl : Bool} {n : Nat} (hn : n ≤ 1000000) {l : Liz} (hl : l.length = n) (hnl : nl = true → n = 0) : Pt 32 [] [.vec nl (.iarr .u8 n l)] [(1, btR nl n l 0)] (.at 1 []) := by
 refine pO Try.func32 (by kernel_rfl) ?_
 have c1 := Ez (show n ≤ 1000000000 by omega) hl hnl
 refine W.rtA [(2, c0 c1)] [(128, 1)] [_] (ao (c1))
theorem Cs {nl : Bool} {n a : Nat} {l : Liz} (hn : n ≤ 1000000) (ha : a ≤ 8 * n) : Pt 36 [(0, btR nl n l a)] [.at 0 []] [(0, btR nl n l a)] (.int .i64 ((8 * n - a : Nat) : Int)) := by
 refine pO Try.func36 (by kernel_rfl) ?_
 have he : (8 : Int) * (n : Int) - (a : Int) = ((8 * n - a : Nat) : Int) := by omega
 have he2 : ((8 * n : Nat) : Int) - (a : Int) = ((8 * n - a : Nat) : Int) := by omega
 have hb : 8 * n - a ≤ 8000000 := by omega
 generalize 8 * n - a = k at *
 refine W.rtA [(6, aV (I6 ↑(8 * n))), (11, aV (I6 k))] [(0, 0)] [I6 (IntKind.wrap .i64 (8 * (n:Int))) = I6 ↑(8 * n), I6 (IntKind.wrap .i64 ((↑(8 * n) : Int) - (a:Int))) = I6 k] (ac (wj (by omega)) (ao (cg (Ab he (by omega) (by omega)))))
theorem EP {nl : Bool} {n a i : Nat} {l : Liz} (hn : n ≤ 1000000) (hb : Bytes l) (hi : i < 8 * n) : Pt 61 [(0, btR nl n l a)] [.at 0 [], .int .i64 i] [(0, btR nl n l a)] (.int .u64 ((bt l i : Nat) : Int)) := by
 refine pO Try.func61 (by kernel_rfl) ?_
 obtain ⟨e, h1⟩ := hb.get (i / 8)
 have he : (7 : Int) - ((i % 8 : Nat) : Int) = ((7 - i % 8 : Nat) : Int) := by omega
 have h2 : at0 l (i / 8) / 2 ^ (7 - i % 8) < 256 := Nat.lt_of_le_of_lt (Nat.div_le_self _ _) h1
 have hi2 : i / 8 < n := by omega
 have h7 : i % 8 < 8 := by omega
 have hm : ((at0 l (i / 8) / 2 ^ (7 - i % 8) % 18446744073709551616 % 2 : Nat) : Int) = ((bt l i : Nat) : Int) := by
  rw [Nat.mod_eq_of_lt (show at0 l (i / 8) / 2 ^ (7 - i % 8) < 18446744073709551616 by omega)]
  rfl
 generalize bt l i = r at *
 generalize 7 - i % 8 = j at *
 generalize at0 l (i / 8) = b at *
 refine W.rtA [(6, aV (I6 ↑(i / 8))), (7, aV (PV.cptr (B8 n l) [Stp.idx (i / 8) 1])), (8, aV (U8 b)), (10, aV (I6 ↑(i % 8))), (11, aV (I6 j)), (12, aV (U8 ↑(b / 2 ^ j))), (13, aV (U6 ↑(b / 2 ^ j % 18446744073709551616))), (14, aV (U6 ↑(b / 2 ^ j % 18446744073709551616 % 2))), (15, aV (U6 r))] [(0, 0)] [I6 (IntKind.wrap .i64 (Int.tdiv (i:Int) (8 : Int))) = I6 ↑(i / 8), (8 : Int) ≠ 0, PV.cptr (B8 n l) [Stp.idx (Int.toNat (↑(i / 8) : Int)) 1] = PV.cptr (B8 n l) [Stp.idx (i / 8) 1], 0 ≤ (↑(i / 8) : Int), (↑(i / 8) : Int) < (n:Int), U8 (List.getD l (i / 8) (0 : Int)) = U8 b, i / 8 < n, I6 (Int.tmod (i:Int) (8 : Int)) = I6 ↑(i % 8), (8 : Int) ≠ 0, I6 (IntKind.wrap .i64 (7 - (↑(i % 8) : Int))) = I6 j, U8 (Int.fdiv (b:Int) ((2 : Int) ^ min j 8)) = U8 ↑(b / 2 ^ j), 0 ≤ (j:Int), U6 (IntKind.wrap .u64 (↑(b / 2 ^ j) : Int)) = U6 ↑(b / 2 ^ j % 18446744073709551616), U6 (bits BinOp.and .u64 (↑(b / 2 ^ j % 18446744073709551616) : Int) (1 : Int)) = U6 ↑(b / 2 ^ j % 18446744073709551616 % 2), U6 ↑(b / 2 ^ j % 18446744073709551616 % 2) = U6 r] (ac (wj (by omega)) (ac (by omega) (ac (by rw [show Int.toNat (↑(i / 8) : Int) = i / 8 by omega]) (ob2 (by omega) (ac (cg (e)) (ac (by omega) (ac (cg rfl) (ac (by omega) (ac (cg (Ab he (by omega) (by omega))) (ac (cg (shr_u8 rfl rfl (by omega))) (ac (by omega) (ac (cg (BN rfl)) (ac (cg (DX 1 rfl rfl (by omega) (by decide))) (ao (cg (hm))))))))))))))))
def dRu (nl : Bool) (n a : Nat) (l : List Int) (m k : Nat) : DS := ⟨[(0, .at 0 []), (1, .int .i64 m), (6, .int .i64 k)], [(0, btR nl n l a)]⟩
theorem W_runS {nl : Bool} {n a m k : Nat} {l : Liz} {hout : Lrz} {res : PV} (hn : n ≤ 1000000) (hb : Bytes l) (ha : a + k < 8 * n) (hm : k < m) (h1 : bt l (a + k) = 1)
  (hw : Wt Try.f59 [0] hout res (Aa Try.f59 0) (dRu nl n a l m (k + 1))) : Wt Try.f59 [0] hout res (Aa Try.f59 0) (dRu nl n a l m k) := by
 have c1 := Cs (nl := nl) (l := l) hn (show a ≤ 8 * n by omega)
 have c2 := EP (nl := nl) (a := a) hn hb ha
 rw [h1] at c2
 generalize hq : 8 * n - a = q at *
 have hq2 : k < q := by omega
 refine W.sgA 0 [(2, cC false [(0, 0)] c1), (3, aT), (10, aV (I6 ↑(a + k))), (11, cC false [(0, 0)] c2), (15, aF), (17, aV (I6 ↑(k + 1)))] [(0, 0)] (dRu nl n a l m (k + 1)) [_, decide ((k:Int) < (q:Int)) = true, I6 (IntKind.wrap .i64 ((a:Int) + (k:Int))) = I6 ↑(a + k), _, ((k:Int) == (m:Int)) = false, I6 (IntKind.wrap .i64 ((k:Int) + 1)) = I6 ↑(k + 1)] (ac (c1) (ac (dT (by omega)) (ac (wj (by omega)) (ac (c2) (ac (dF (by omega)) (ao (wj (by omega)))))))) ?_
 exact hw
theorem W_runB {nl : Bool} {n a m : Nat} {l : Liz} (hn : n ≤ 1000000) (hb : Bytes l) (ha : a + m < 8 * n) (h1 : bt l (a + m) = 1) : Wt Try.f59 [0] [(0, btR nl n l a)] (.tup [.int .i64 0, .int .i64 4]) (Aa Try.f59 0) (dRu nl n a l m m) := by
 have c1 := Cs (nl := nl) (l := l) hn (show a ≤ 8 * n by omega)
 have c2 := EP (nl := nl) (a := a) hn hb ha
 rw [h1] at c2
 generalize hq : 8 * n - a = q at *
 have hq2 : m < q := by omega
 refine W.rtA [(2, cC false [(0, 0)] c1), (3, aT), (10, aV (I6 ↑(a + m))), (11, cC false [(0, 0)] c2), (15, aT)] [(0, 0)] [_, decide ((m:Int) < (q:Int)) = true, I6 (IntKind.wrap .i64 ((a:Int) + (m:Int))) = I6 ↑(a + m), _, ((m:Int) == (m:Int)) = true] (ac (c1) (ac (dT (by omega)) (ac (wj (by omega)) (ac (c2) (ao (dT (by omega)))))))
theorem W_runY {nl : Bool} {n a m k : Nat} {l : Liz} (hn : n ≤ 1000000) (hb : Bytes l) (ha : a + k < 8 * n) (h1 : bt l (a + k) = 0) : Wt Try.f59 [0] [(0, btR nl n l (a + k + 1))] (.tup [.int .i64 k, .int .i64 0]) (Aa Try.f59 0) (dRu nl n a l m k) := by
 have c1 := Cs (nl := nl) (l := l) hn (show a ≤ 8 * n by omega)
 have c2 := EP (nl := nl) (a := a) hn hb ha
 rw [h1] at c2
 generalize hq : 8 * n - a = q at *
 have hq2 : k < q := by omega
 refine W.rtA [(2, cC false [(0, 0)] c1), (3, aT), (10, aV (I6 ↑(a + k))), (11, cC false [(0, 0)] c2), (18, aV (I6 ↑(k + 1))), (19, aV (I6 ↑(a + k + 1)))] [(0, 0)] [_, decide ((k:Int) < (q:Int)) = true, I6 (IntKind.wrap .i64 ((a:Int) + (k:Int))) = I6 ↑(a + k), _, I6 (IntKind.wrap .i64 ((k:Int) + 1)) = I6 ↑(k + 1), I6 (IntKind.wrap .i64 ((a:Int) + (↑(k + 1) : Int))) = I6 ↑(a + k + 1)] (ac (c1) (ac (dT (by omega)) (ac (wj (by omega)) (ac (c2) (ac (wj (by omega)) (ao (wj (by omega))))))))
theorem W_runE {nl : Bool} {n a m k : Nat} {l : Liz} (hn : n ≤ 1000000) (ha : a + k = 8 * n) : Wt Try.f59 [0] [(0, btR nl n l a)] (.tup [.int .i64 0, .int .i64 2]) (Aa Try.f59 0) (dRu nl n a l m k) := by
 have c1 := Cs (nl := nl) (l := l) hn (show a ≤ 8 * n by omega)
 rw [show 8 * n - a = k by omega] at c1
 refine W.rtA [(2, cC false [(0, 0)] c1), (3, aF)] [(0, 0)] [_, decide ((k:Int) < (k:Int)) = false] (ac (c1) (ao (dF (by omega))))
theorem W_run {nl : Bool} {n a m : Nat} {l : Liz} (hn : n ≤ 1000000) (hb : Bytes l) : ∀ (q k : Nat), a + k + q = 8 * n → k ≤ m →
  Wt Try.f59 [0] [(0, btR nl n l (if CU (k + q) (k + CF l (a + k) q) m = 0 then a + (k + CF l (a + k) q) + 1 else a))] (.tup [.int .i64 ((if CU (k + q) (k + CF l (a + k) q) m = 0 then k + CF l (a + k) q else 0 : Nat) : Int), .int .i64 (CU (k + q) (k + CF l (a + k) q) m)]) (Aa Try.f59 0) (dRu nl n a l m k)
 | 0, k, hq, hk => by
  have e : CU (k + 0) (k + CF l (a + k) 0) m = 2 := by unfold CU CF; rw [if_neg (by omega), if_pos rfl]
  rw [e, if_neg (by decide), if_neg (by decide)]
  exact W_runE hn hq
 | q + 1, k, hq, hk => by
  unfold CF
  by_cases h1 : bt l (a + k) = 1
  ·rw [if_pos h1]
   by_cases hm : k < m
   ·have ih := W_run (nl := nl) (a := a) (m := m) hn hb q (k + 1) (by omega) (by omega)
    rw [show a + (k + 1) = a + k + 1 by omega, show k + 1 + q = k + (q + 1) by omega, show k + 1 + CF l (a + k + 1) q = k + (CF l (a + k + 1) q + 1) by omega] at ih
    exact W_runS (a := a) (k := k) hn hb (by omega) hm h1 ih
   ·obtain rfl : k = m := by omega
    have e : CU (k + (q + 1)) (k + (CF l (a + k + 1) q + 1)) k = 4 := by unfold CU; rw [if_pos (by omega)]
    rw [e, if_neg (by decide), if_neg (by decide)]
    exact W_runB hn hb (by omega) h1
  ·rw [if_neg h1]
   have h0 : bt l (a + k) = 0 := by have := NM l (a + k); omega
   have e : CU (k + (q + 1)) (k + 0) m = 0 := by unfold CU; rw [if_neg (by omega), if_neg (by omega)]
   rw [e, if_pos rfl, if_pos rfl, Nat.add_zero]
   exact W_runY hn hb (by omega) h0
theorem Ti {nl : Bool} {n a m o : Nat} {l : Liz} (hn : n ≤ 1000000) (hb : Bytes l) (ha : a ≤ 8 * n) (hm : m ≤ 1000000) (ho : o = CF l a (8 * n - a)) : Pt 59 [(0, btR nl n l a)] [.at 0 [], .int .i64 m] [(0, btR nl n l (if CU (8 * n - a) o m = 0 then a + o + 1 else a))] (.tup [.int .i64 ((if CU (8 * n - a) o m = 0 then o else 0 : Nat) : Int), .int .i64 (CU (8 * n - a) o m)]) := by
 refine pO Try.func59 (by kernel_rfl) ?_
 have hw := W_run (nl := nl) (m := m) (a := a) hn hb (8 * n - a) 0 (by omega) (by omega)
 rw [Nat.zero_add, Nat.zero_add, Nat.add_zero, ← ho] at hw
 have hx : mx (m : Int) 0 = (m : Int) := by unfold mx; split <;> omega
 generalize (if CU (8 * n - a) o m = 0 then a + o + 1 else a) = r1 at *
 generalize (if CU (8 * n - a) o m = 0 then o else 0 : Nat) = r2 at *
 generalize CU (8 * n - a) o m = r3 at *
 refine W.sgA 0 [(3, aV (I6 m))] [(0, 0)] (dRu nl n a l m 0) [I6 (mx (m:Int) (0 : Int)) = I6 m] (ao (cg (hx))) ?_
 exact hw
def dTk (nl : Bool) (n a : Nat) (l : List Int) (w i x : Nat) : DS := ⟨[(0, .at 0 []), (6, .int .u64 x), (14, .int .i64 w), (15, .int .i64 i)], [(0, btR nl n l a)]⟩
theorem W_tkS {nl : Bool} {n a w i x : Nat} {l : Liz} {hout : Lrz} {res : PV} (hn : n ≤ 1000000) (hb : Bytes l) (ha : a < 8 * n) (hi : i < w) (hw1 : w ≤ 64) (hx : 2 * x + 1 < 18446744073709551616)
  (hw : Wt Try.f60 [0] hout res (Aa Try.f60 0) (dTk nl n (a + 1) l w (i + 1) (2 * x + bt l a))) : Wt Try.f60 [0] hout res (Aa Try.f60 0) (dTk nl n a l w i x) := by
 have c2 := EP (nl := nl) (a := a) hn hb ha
 have hlt := NM l a
 generalize bt l a = b at *
 have h3 : bits .or .u64 ((x : Int) * 2 ^ 1) (b : Int) = ((2 * x + b : Nat) : Int) := by
  rw [Hu (a := 2 ^ 1 * x) (b := b) (by omega) rfl (by omega) (by omega), ← Nat.two_pow_add_eq_or_of_lt (i := 1) (by omega) x]
 generalize 2 * x + b = y at *
 refine W.sgA 0 [(0, aT), (2, aV (U6 ((x:Int) * (2 : Int) ^ 1))), (8, cC false [(0, 0)] c2), (9, aV (U6 y)), (15, aV (I6 ↑(a + 1))), (19, aV (I6 ↑(i + 1)))] [(0, 0)] (dTk nl n (a + 1) l w (i + 1) y) [decide ((i:Int) < (w:Int)) = true, U6 (IntKind.wrap .u64 ((x:Int) * (2 : Int) ^ 1)) = U6 ((x:Int) * (2 : Int) ^ 1), (0 : Int) ≤ 1, _, U6 (bits BinOp.or .u64 ((x:Int) * (2 : Int) ^ 1) (b:Int)) = U6 y, I6 (IntKind.wrap .i64 ((a:Int) + 1)) = I6 ↑(a + 1), I6 (IntKind.wrap .i64 ((i:Int) + 1)) = I6 ↑(i + 1)] (ac (dT (by omega)) (ac (cg (Aj rfl (by omega) (by omega))) (ac (by omega) (ac (c2) (ac (cg (h3)) (ac (wj (by omega)) (ao (wj (by omega))))))))) ?_
 exact hw
theorem W_tkE {nl : Bool} {n a w x : Nat} {l : Liz} : Wt Try.f60 [0] [(0, btR nl n l a)] (.tup [.int .u64 x, .int .i64 0]) (Aa Try.f60 0) (dTk nl n a l w w x) := by
 refine W.rtA [(0, aF)] [(0, 0)] [decide ((w:Int) < (w:Int)) = false] (ao (dF (by omega)))
theorem W_tk {nl : Bool} {n w : Nat} {l : Liz} (hn : n ≤ 1000000) (hb : Bytes l) (hw1 : w ≤ 63) : ∀ (k a i x : Nat), i + k = w → a + k ≤ 8 * n → x < 2 ^ i →
  Wt Try.f60 [0] [(0, btR nl n l (a + k))] (.tup [.int .u64 ((Mc l k a x : Nat) : Int), .int .i64 0]) (Aa Try.f60 0) (dTk nl n a l w i x)
 | 0, a, i, x, hk, ha, hx => by
  obtain rfl : i = w := by omega
  exact W_tkE
 | k + 1, a, i, x, hk, ha, hx => by
  have hp : 2 ^ (i + 1) ≤ 2 ^ 63 := Nat.pow_le_pow_right (by omega) (by omega)
  have hp2 : 2 ^ (i + 1) = 2 * 2 ^ i := by rw [Nat.pow_succ]; omega
  have hlt := NM l a
  have ih := W_tk (nl := nl) hn hb hw1 k (a + 1) (i + 1) (2 * x + bt l a) (by omega) (by omega) (by omega)
  rw [show a + 1 + k = a + (k + 1) by omega] at ih
  exact W_tkS hn hb (by omega) (by omega) (by omega) (by omega) ih
theorem Pi {nl : Bool} {n a w : Nat} {l : Liz} (hn : n ≤ 1000000) (hb : Bytes l) (hw : w ≤ 63) (ha : a + w ≤ 8 * n) : Pt 60 [(0, btR nl n l a)] [.at 0 [], .int .i64 w] [(0, btR nl n l (a + w))] (.tup [.int .u64 ((Mc l w a 0 : Nat) : Int), .int .i64 0]) := by
 refine pO Try.func60 (by kernel_rfl) ?_
 have h := W_tk (nl := nl) hn hb hw w a 0 0 (by omega) ha (by omega)
 have c1 := Cs (nl := nl) (l := l) hn (show a ≤ 8 * n by omega)
 have hx : mx (w : Int) 0 = (w : Int) := by unfold mx; split <;> omega
 have hy : mn (w : Int) 64 = (w : Int) := by unfold mn; split <;> omega
 have hq : w ≤ 8 * n - a := by omega
 generalize 8 * n - a = q at *
 refine W.sgA 0 [(3, aV (I6 w)), (4, aV (I6 w)), (8, cC false [(0, 0)] c1), (9, aF)] [(0, 0)] (dTk nl n a l w 0 0) [I6 (mx (w:Int) (0 : Int)) = I6 w, I6 (mn (w:Int) (64 : Int)) = I6 w, _, decide ((w:Int) > (q:Int)) = false] (ac (cg (hx)) (ac (cg (hy)) (ac (c1) (ao (dF (by omega)))))) ?_
 exact h
theorem OB {nl : Bool} {n a w : Nat} {l : Liz} (hn : n ≤ 1000000) (hw : w ≤ 63) (ha : a ≤ 8 * n) (h : 8 * n < a + w) : Pt 60 [(0, btR nl n l a)] [.at 0 [], .int .i64 w] [(0, btR nl n l a)] (.tup [.int .u64 0, .int .i64 2]) := by
 refine pO Try.func60 (by kernel_rfl) ?_
 have c1 := Cs (nl := nl) (l := l) hn ha
 have hx : mx (w : Int) 0 = (w : Int) := by unfold mx; split <;> omega
 have hy : mn (w : Int) 64 = (w : Int) := by unfold mn; split <;> omega
 have hq : 8 * n - a < w := by omega
 generalize 8 * n - a = q at *
 refine W.rtA [(3, aV (I6 w)), (4, aV (I6 w)), (8, cC false [(0, 0)] c1), (9, aT)] [(0, 0)] [I6 (mx (w:Int) (0 : Int)) = I6 w, I6 (mn (w:Int) (64 : Int)) = I6 w, _, decide ((w:Int) > (q:Int)) = true] (ac (cg (hx)) (ac (cg (hy)) (ac (c1) (ao (dT (by omega))))))
end Go.Proofs
namespace Go.Proofs
open Go Go.Pe Go.Pm
set_option maxRecDepth 100000
set_option linter.unusedVariables false
attribute [local irreducible] lv
theorem W_clS {nl : Bool} {n a q i : Nat} {l : Liz} {hout : Lrz} {res : PV} (hn : n ≤ 1000000) (hb : Bytes l) (ha : a + i < 8 * n) (hi : i < q) (hq : q < 8) (h1 : bt l (a + i) = 0)
  (hw : Wt Try.f37 [0] hout res (Aa Try.f37 0) ⟨[(0, .at 0 []), (8, .int .i64 q), (9, .int .i64 ((i + 1 : Nat) : Int))], [(0, btR nl n l a)]⟩) :
  Wt Try.f37 [0] hout res (Aa Try.f37 0) ⟨[(0, .at 0 []), (8, .int .i64 q), (9, .int .i64 i)], [(0, btR nl n l a)]⟩ := by
 have c2 := EP (nl := nl) (a := a) hn hb ha
 rw [h1] at c2
 refine W.sgA 0 [(0, aT), (9, aV (I6 ↑(a + i))), (10, cC false [(0, 0)] c2), (12, aV (I6 ↑(i + 1)))] [(0, 0)] (⟨[(0, .at 0 []), (8, .int .i64 q), (9, .int .i64 ((i + 1 : Nat) : Int))], [(0, btR nl n l a)]⟩) [decide ((i:Int) < (q:Int)) = true, I6 (IntKind.wrap .i64 ((a:Int) + (i:Int))) = I6 ↑(a + i), _, I6 (IntKind.wrap .i64 ((i:Int) + 1)) = I6 ↑(i + 1)] (ac (dT (by omega)) (ac (wj (by omega)) (ac (c2) (ao (wj (by omega)))))) ?_
 exact hw
theorem W_clN {nl : Bool} {n a q i : Nat} {l : Liz} (hn : n ≤ 1000000) (hb : Bytes l) (ha : a + i < 8 * n) (hi : i < q) (hq : q < 8) (h1 : bt l (a + i) = 1) :
  Wt Try.f37 [0] [(0, btR nl n l a)] (.bool false) (Aa Try.f37 0) ⟨[(0, .at 0 []), (8, .int .i64 q), (9, .int .i64 i)], [(0, btR nl n l a)]⟩ := by
 have c2 := EP (nl := nl) (a := a) hn hb ha
 rw [h1] at c2
 refine W.rtA [(0, aT), (9, aV (I6 ↑(a + i))), (10, cC false [(0, 0)] c2)] [(0, 0)] [decide ((i:Int) < (q:Int)) = true, I6 (IntKind.wrap .i64 ((a:Int) + (i:Int))) = I6 ↑(a + i), _] (ac (dT (by omega)) (ac (wj (by omega)) (ao (c2))))
theorem W_clE {nl : Bool} {n a q : Nat} {l : Liz} :
  Wt Try.f37 [0] [(0, btR nl n l a)] (.bool true) (Aa Try.f37 0) ⟨[(0, .at 0 []), (8, .int .i64 q), (9, .int .i64 q)], [(0, btR nl n l a)]⟩ := by
 refine W.rtA [(0, aF)] [(0, 0)] [decide ((q:Int) < (q:Int)) = false] (ao (dF (by omega)))
theorem W_cl {nl : Bool} {n a q : Nat} {l : Liz} (hn : n ≤ 1000000) (hb : Bytes l) (ha : a + q = 8 * n) (hq : q < 8) : ∀ (k i : Nat), i + k = q →
  Wt Try.f37 [0] [(0, btR nl n l a)] (.bool (CQ l (a + i) k)) (Aa Try.f37 0) ⟨[(0, .at 0 []), (8, .int .i64 q), (9, .int .i64 i)], [(0, btR nl n l a)]⟩
 | 0, i, hk => by
  obtain rfl : i = q := by omega
  exact W_clE
 | k + 1, i, hk => by
  unfold CQ
  by_cases h : bt l (a + i) = 0
  ·rw [if_pos h]
   exact W_clS hn hb (by omega) (by omega) hq h (W_cl hn hb ha hq k (i + 1) (by omega))
  ·rw [if_neg h]
   have h1 : bt l (a + i) = 1 := by have := NM l (a + i); omega
   exact W_clN hn hb (by omega) (by omega) hq h1
theorem KO {nl : Bool} {n a : Nat} {l : Liz} (hn : n ≤ 1000000) (hb : Bytes l) (ha : a ≤ 8 * n) : Pt 37 [(0, btR nl n l a)] [.at 0 []] [(0, btR nl n l a)] (.bool (decide (8 * n - a < 8 ∧ CQ l a (8 * n - a) = true))) := by
 refine pO Try.func37 (by kernel_rfl) ?_
 have c1 := Cs (nl := nl) (l := l) hn ha
 by_cases h : 8 * n - a < 8
 ·have hw := W_cl (nl := nl) (a := a) hn hb (show a + (8 * n - a) = 8 * n by omega) h (8 * n - a) 0 (by omega)
  rw [Nat.add_zero] at hw
  have e : decide (8 * n - a < 8 ∧ CQ l a (8 * n - a) = true) = CQ l a (8 * n - a) := by
   cases CQ l a (8 * n - a)
   ·exact decide_eq_false (fun x => Bool.noConfusion x.2)
   ·exact decide_eq_true ⟨h, rfl⟩
  rw [e]
  generalize CQ l a (8 * n - a) = r at *
  generalize 8 * n - a = q at *
  refine W.sgA 0 [(2, cC false [(0, 0)] c1), (3, aF), (5, cC false [(0, 0)] c1)] [(0, 0)] (⟨[(0, .at 0 []), (8, .int .i64 q), (9, .int .i64 0)], [(0, btR nl n l a)]⟩) [_, decide ((q:Int) ≥ 8) = false, _] (ac (c1) (ac (dF (by omega)) (ao (c1)))) ?_
  exact hw
 ·rw [decide_eq_false (fun x => h x.1)]
  generalize hq : 8 * n - a = q at *
  have hq2 : 8 ≤ q := by omega
  have hq3 : q ≤ 8000000 := by omega
  refine W.rtA [(2, cC false [(0, 0)] c1), (3, aT)] [(0, 0)] [_, decide ((q:Int) ≥ 8) = true] (ac (c1) (ao (dT (by omega))))
theorem Cj {p : Nat} (hp : p ≤ 32) : Pt 58 [] [.int .i64 p] [] (.int .i64 p) := by
 refine pO Try.func58 (by kernel_rfl) ?_
 have hx : mx (p : Int) 0 = (p : Int) := by unfold mx; split <;> omega
 have hy : mn (p : Int) 32 = (p : Int) := by unfold mn; split <;> omega
 refine W.rtA [(2, aV (I6 p)), (3, aV (I6 p))] [] [I6 (mx (p:Int) (0 : Int)) = I6 p, I6 (mn (p:Int) (32 : Int)) = I6 p] (ac (cg (hx)) (ao (cg (hy))))
theorem SI {nl : Bool} {n a e : Nat} {l : Liz} (he : e ≠ 0) (he2 : e < 100) (c1 : Pt 59 [(0, btR nl n l a)] [.at 0 [], .int .i64 65536] [(0, btR nl n l a)] (.tup [.int .i64 0, .int .i64 e])) :
  Pt 35 [(0, btR nl n l a)] [.at 0 [], .int .i64 19, .int .i64 65536] [(0, btR nl n l a)] (.tup [.int .u64 0, .int .i64 e]) := by
 refine pO Try.func35 (by kernel_rfl) ?_
 have c0 := Cj (p := 19) (by omega)
 have hm : mn 65536 65536 = 65536 := by decide
 refine W.rtA [(3, c9 c0), (4, aV (I6 19)), (11, aV (I6 65536)), (12, cC false [(192, 0)] c1), (19, aT)] [(0, 0)] [_, I6 ↑(19 : Nat) = I6 19, I6 (mn (65536 : Int) (65536 : Int)) = I6 65536, _, ((e:Int) != 0) = true] (ac (c0) (ac (cg (by omega)) (ac (cg (hm)) (ac (c1) (ao (bne_iff_ne.2 (by omega)))))))
theorem Sw {nl : Bool} {n a o : Nat} {l : Liz} (ho : o ≤ 65536) (c1 : Pt 59 [(0, btR nl n l a)] [.at 0 [], .int .i64 65536] [(0, btR nl n l (a + o + 1))] (.tup [.int .i64 o, .int .i64 0])) (c2 : Pt 60 [(0, btR nl n l (a + o + 1))] [.at 0 [], .int .i64 19] [(0, btR nl n l (a + o + 1))] (.tup [.int .u64 0, .int .i64 2])) :
  Pt 35 [(0, btR nl n l a)] [.at 0 [], .int .i64 19, .int .i64 65536] [(0, btR nl n l a)] (.tup [.int .u64 0, .int .i64 2]) := by
 refine pO Try.func35 (by kernel_rfl) ?_
 have c0 := Cj (p := 19) (by omega)
 have hm : mn 65536 65536 = 65536 := by decide
 refine W.rtA [(3, c9 c0), (4, aV (I6 19)), (11, aV (I6 65536)), (12, cC false [(192, 0)] c1), (21, cC false [(192, 0)] c2)] [(0, 0)] [_, I6 ↑(19 : Nat) = I6 19, I6 (mn (65536 : Int) (65536 : Int)) = I6 65536, _, _] (ac (c0) (ac (cg (by omega)) (ac (cg (hm)) (ac (c1) (ao (c2))))))
theorem TG {nl : Bool} {n a o v : Nat} {l : Liz} (ho : o ≤ 65536) (hv : v < 524288) (c1 : Pt 59 [(0, btR nl n l a)] [.at 0 [], .int .i64 65536] [(0, btR nl n l (a + o + 1))] (.tup [.int .i64 o, .int .i64 0])) (c2 : Pt 60 [(0, btR nl n l (a + o + 1))] [.at 0 [], .int .i64 19] [(0, btR nl n l (a + o + 1 + 19))] (.tup [.int .u64 v, .int .i64 0])) :
  Pt 35 [(0, btR nl n l a)] [.at 0 [], .int .i64 19, .int .i64 65536] [(0, btR nl n l (a + o + 1 + 19))] (.tup [.int .u64 ((o * 524288 + v : Nat) : Int), .int .i64 0]) := by
 refine pO Try.func35 (by kernel_rfl) ?_
 have c0 := Cj (p := 19) (by omega)
 have hm : mn 65536 65536 = 65536 := by decide
 have h3 : bits .or .u64 ((o : Int) * 2 ^ 19) (v : Int) = ((o * 524288 + v : Nat) : Int) := by
  rw [Hu (a := 2 ^ 19 * o) (b := v) (by omega) rfl (by omega) (by omega), ← Nat.two_pow_add_eq_or_of_lt (i := 19) (by omega) o]
  congr 1
  omega
 have h4 : o * 524288 + v < 18446744073709551616 := by omega
 generalize o * 524288 + v = y at *
 refine W.rtA [(3, c9 c0), (4, aV (I6 19)), (11, aV (I6 65536)), (12, cC false [(192, 0)] c1), (21, cC false [(192, 0)] c2), (34, aV (U6 o)), (36, aV (U6 ((o:Int) * (2 : Int) ^ 19))), (38, aV (U6 y))] [(0, 0)] [_, I6 ↑(19 : Nat) = I6 19, I6 (mn (65536 : Int) (65536 : Int)) = I6 65536, _, _, U6 (IntKind.wrap .u64 (o:Int)) = U6 o, U6 (IntKind.wrap .u64 ((o:Int) * (2 : Int) ^ 19)) = U6 ((o:Int) * (2 : Int) ^ 19), (0 : Int) ≤ 19, U6 (bits BinOp.or .u64 ((o:Int) * (2 : Int) ^ 19) (v:Int)) = U6 y] (ac (c0) (ac (cg (by omega)) (ac (cg (hm)) (ac (c1) (ac (c2) (ac (cg (Aj rfl (by omega) (by omega))) (ac (cg (Aj rfl (by omega) (by omega))) (ac (by omega) (ao (cg (h3)))))))))))
theorem PR {nl : Bool} {n a : Nat} {l : Liz} (hn : n ≤ 1000000) (hb : Bytes l) (ha : a ≤ 8 * n) : Pt 35 [(0, btR nl n l a)] [.at 0 [], .int .i64 19, .int .i64 65536] [(0, btR nl n l (if gE l n a = 0 then gA l n a else a))] (.tup [.int .u64 ((if gE l n a = 0 then gV l n a else 0 : Nat) : Int), .int .i64 (gE l n a)]) := by
 have c1 := Ti (nl := nl) (m := 65536) hn hb ha (by omega) (show gO l n a = _ from rfl)
 by_cases h1 : CU (8 * n - a) (gO l n a) 65536 = 0
 ·rw [h1, if_pos rfl, if_pos rfl] at c1
  have ho : gO l n a ≤ 65536 ∧ gO l n a ≠ 8 * n - a := by
   unfold CU at h1
   split at h1
   ·cases h1
   ·split at h1
    ·cases h1
    ·omega
  have hol := M8 l (8 * n - a) a
  have hol : gO l n a ≤ 8 * n - a := hol
  by_cases h2 : 8 * n < a + gO l n a + 1 + 19
  ·have e : gE l n a = 2 := by unfold gE; rw [if_neg (not_not_intro h1), if_pos h2]
   rw [e, if_neg (by decide), if_neg (by decide)]
   exact Sw ho.1 c1 (OB (w := 19) hn (by omega) (by omega) h2)
  ·have e : gE l n a = 0 := by unfold gE; rw [if_neg (not_not_intro h1), if_neg h2]
   rw [e, if_pos rfl, if_pos rfl]
   have hv := MN l 19 (a + gO l n a + 1) 0 0 (by decide)
   exact TG ho.1 (by simpa using hv) c1 (Pi (w := 19) hn hb (by omega) (by omega))
 ·rw [if_neg h1, if_neg h1] at c1
  have e : gE l n a = CU (8 * n - a) (gO l n a) 65536 := by unfold gE; rw [if_pos h1]
  have hlt : CU (8 * n - a) (gO l n a) 65536 < 100 := by unfold CU; split <;> (try split) <;> omega
  rw [e, if_neg h1, if_neg h1]
  exact SI h1 hlt c1
end Go.Proofs
namespace Go.Proofs
open Go Go.Pe Go.Pm
set_option maxRecDepth 100000
set_option linter.unusedVariables false
attribute [local irreducible] lv
def Cx : PV := .vec true (.iarr .u64 0 [])
def dV0 (nl : Bool) (n a c : Nat) (l : List Int) : DS := ⟨[(5, .int .u64 c), (7, .at 0 []), (8, Cx), (9, .int .u64 0), (26, .int .u64 c), (27, .int .u64 0)], [(0, btR nl n l a)]⟩
def dV (nl : Bool) (n a c s i : Nat) (l o : List Int) : DS := ⟨[(5, .int .u64 c), (7, .at 0 []), (8, .ref 1 [] 1 0 i), (9, .int .u64 s), (26, .int .u64 c), (27, .int .u64 i)], [(0, btR nl n l a), (1, Ac i o)]⟩
theorem W_vE0 {nl : Bool} {n a c e : Nat} {l : Liz} (hc : 0 < c) (hc2 : c ≤ 1000) (he : e ≠ 0) (he2 : e < 100) (c1 : Pt 35 [(0, btR nl n l a)] [.at 0 [], .int .i64 19, .int .i64 65536] [(0, btR nl n l a)] (.tup [.int .u64 0, .int .i64 e])) :
  Wt Try.f14 [] [] (.tup [Cx, .int .i64 e]) (Aa Try.f14 0) (dV0 nl n a c l) := by
 unfold Cx
 refine W.rtA [(0, aT), (2, cC false [(0, 0)] c1), (9, aT)] [] [decide (0 < (c:Int)) = true, _, ((e:Int) != 0) = true] (ac (dT (by omega)) (ac (c1) (ao (bne_iff_ne.2 (by omega)))))
theorem W_vE {nl : Bool} {n a c e s i : Nat} {l o : Liz} (hc : i < c) (hc2 : c ≤ 1000) (he : e ≠ 0) (he2 : e < 100) (c1 : Pt 35 [(0, btR nl n l a)] [.at 0 [], .int .i64 19, .int .i64 65536] [(0, btR nl n l a)] (.tup [.int .u64 0, .int .i64 e])) :
  Wt Try.f14 [] [] (.tup [Cx, .int .i64 e]) (Aa Try.f14 0) (dV nl n a c s i l o) := by
 unfold Cx
 refine W.rtA [(0, aT), (2, cC false [(0, 0)] c1), (9, aT)] [] [decide ((i:Int) < (c:Int)) = true, _, ((e:Int) != 0) = true] (ac (dT (by omega)) (ac (c1) (ao (bne_iff_ne.2 (by omega)))))
theorem W_vB0 {nl : Bool} {n a b c v : Nat} {l : Liz} (hc : 0 < c) (hc2 : c ≤ 1000) (hv : v < 68719476736) (hb : c * 784931 ≤ v) (c1 : Pt 35 [(0, btR nl n l a)] [.at 0 [], .int .i64 19, .int .i64 65536] [(0, btR nl n l b)] (.tup [.int .u64 v, .int .i64 0])) :
  Wt Try.f14 [] [] (.tup [Cx, .int .i64 5]) (Aa Try.f14 0) (dV0 nl n a c l) := by
 unfold Cx
 refine W.rtA [(0, aT), (2, cC false [(0, 0)] c1), (12, aV (U6 v)), (16, aV (U6 ↑(784931 * c))), (17, aT)] [] [decide (0 < (c:Int)) = true, _, U6 (IntKind.wrap .u64 (0 + (v:Int))) = U6 v, U6 (IntKind.wrap .u64 ((c:Int) * (784931 : Int))) = U6 ↑(784931 * c), decide ((v:Int) ≥ (↑(784931 * c) : Int)) = true] (ac (dT (by omega)) (ac (c1) (ac (cg (Aj (by omega) (by omega) (by omega))) (ac (cg (Aj (by omega) (by omega) (by omega))) (ao (dT (by omega)))))))
theorem W_vB {nl : Bool} {n a b c v s i : Nat} {l o : Liz} (hc : i < c) (hc2 : c ≤ 1000) (hv : v < 68719476736) (hs : s < 68719476736) (hb : c * 784931 ≤ s + v) (c1 : Pt 35 [(0, btR nl n l a)] [.at 0 [], .int .i64 19, .int .i64 65536] [(0, btR nl n l b)] (.tup [.int .u64 v, .int .i64 0])) :
  Wt Try.f14 [] [] (.tup [Cx, .int .i64 5]) (Aa Try.f14 0) (dV nl n a c s i l o) := by
 unfold Cx
 refine W.rtA [(0, aT), (2, cC false [(0, 0)] c1), (12, aV (U6 ↑(s + v))), (16, aV (U6 ↑(784931 * c))), (17, aT)] [] [decide ((i:Int) < (c:Int)) = true, _, U6 (IntKind.wrap .u64 ((s:Int) + (v:Int))) = U6 ↑(s + v), U6 (IntKind.wrap .u64 ((c:Int) * (784931 : Int))) = U6 ↑(784931 * c), decide ((↑(s + v) : Int) ≥ (↑(784931 * c) : Int)) = true] (ac (dT (by omega)) (ac (c1) (ac (cg (Aj rfl (by omega) (by omega))) (ac (cg (Aj (by omega) (by omega) (by omega))) (ao (dT (by omega)))))))
theorem W_vS0 {nl : Bool} {n a b c v : Nat} {l : Liz} {hout : Lrz} {res : PV} (hc : 0 < c) (hc2 : c ≤ 1000) (hv : v < 68719476736) (hb : v < c * 784931) (c1 : Pt 35 [(0, btR nl n l a)] [.at 0 [], .int .i64 19, .int .i64 65536] [(0, btR nl n l b)] (.tup [.int .u64 v, .int .i64 0]))
  (hw : Wt Try.f14 [] hout res (Aa Try.f14 0) (dV nl n b c v 1 l [(v : Int)])) :
  Wt Try.f14 [] hout res (Aa Try.f14 0) (dV0 nl n a c l) := by
 unfold dV0 Cx
 refine W.sgA 0 [(0, aT), (2, cC false [(0, 0)] c1), (12, aV (U6 v)), (16, aV (U6 ↑(784931 * c))), (17, aF), (23, aV (U6 1))] [(0, 0), (400, 1)] (dV nl n b c v 1 l [(v : Int)]) [decide (0 < (c:Int)) = true, _, U6 (IntKind.wrap .u64 (0 + (v:Int))) = U6 v, U6 (IntKind.wrap .u64 ((c:Int) * (784931 : Int))) = U6 ↑(784931 * c), decide ((v:Int) ≥ (↑(784931 * c) : Int)) = false, 1 ≤ 1, 0 < 1, 8 ≤ 140737488355328, 1 ≤ 9223372036854775807, U6 (IntKind.wrap .u64 ((0 : Int) + (1 : Int))) = U6 1] (ac (dT (by omega)) (ac (c1) (ac (cg (Aj (by omega) (by omega) (by omega))) (ac (cg (Aj (by omega) (by omega) (by omega))) (ac (dF (by omega)) (ob4 (by omega) (ao (cg (Aj rfl (by omega) (by omega)))))))))) ?_
 exact hw
theorem W_vS {nl : Bool} {n a b c v s i : Nat} {l o : Liz} {hout : Lrz} {res : PV} (ho : o.length = i) (hc : i < c) (hc2 : c ≤ 1000) (hv : v < 68719476736) (hs : s < 68719476736) (hb : s + v < c * 784931) (c1 : Pt 35 [(0, btR nl n l a)] [.at 0 [], .int .i64 19, .int .i64 65536] [(0, btR nl n l b)] (.tup [.int .u64 v, .int .i64 0]))
  (hw : Wt Try.f14 [] hout res (Aa Try.f14 0) (dV nl n b c (s + v) (i + 1) l (o ++ [((s + v : Nat) : Int)]))) :
  Wt Try.f14 [] hout res (Aa Try.f14 0) (dV nl n a c s i l o) := by
 refine W.sgA 0 [(0, aT), (2, cC false [(0, 0)] c1), (12, aV (U6 ↑(s + v))), (16, aV (U6 ↑(784931 * c))), (17, aF), (21, Ans.ups [(1, none), (400, some (Row.mk (B6 (i + 1) (o ++ [(↑(s + v) : Int)])) false))]), (23, aV (U6 ↑(i + 1)))] [(0, 0), (400, 1)] (dV nl n b c (s + v) (i + 1) l (o ++ [((s + v : Nat) : Int)])) [decide ((i:Int) < (c:Int)) = true, _, U6 (IntKind.wrap .u64 ((s:Int) + (v:Int))) = U6 ↑(s + v), U6 (IntKind.wrap .u64 ((c:Int) * (784931 : Int))) = U6 ↑(784931 * c), decide ((↑(s + v) : Int) ≥ (↑(784931 * c) : Int)) = false, ([(1, none), (400, some (Row.mk (B6 (i + 1) (List.take i o ++ [(↑(s + v) : Int)])) false))] : List (Nat × Option Row)) = [(1, none), (400, some (Row.mk (B6 (i + 1) (o ++ [(↑(s + v) : Int)])) false))], 1 ≤ 1, 0 + i = i, (i + 1) * 8 ≤ 140737488355328, i + 1 ≤ 9223372036854775807, U6 (IntKind.wrap .u64 ((i:Int) + 1)) = U6 ↑(i + 1)] (ac (dT (by omega)) (ac (c1) (ac (cg (Aj rfl (by omega) (by omega))) (ac (cg (Aj (by omega) (by omega) (by omega))) (ac (dF (by omega)) (ac (by rw [List.take_of_length_le (show List.length o ≤ i by omega)]) (ac (by omega) (ac (by omega) (ob2 (by omega) (ao (cg (Aj rfl (by omega) (by omega))))))))))))) ?_
 exact hw
theorem W_vX {nl : Bool} {n a c s : Nat} {l o : Liz} {b : Bool} (hc : 0 < c) (hc2 : c ≤ 1000) (c1 : Pt 37 [(0, btR nl n l a)] [.at 0 []] [(0, btR nl n l a)] (.bool true)) :
  Wt Try.f14 [] [(1, Ac c o)] (.tup [.ref 1 [] 1 0 c, .int .i64 0]) (Aa Try.f14 0) (dV nl n a c s c l o) := by
 refine W.rtA [(0, aF), (2, aF), (10, cC false [(0, 0)] c1)] (rI 1) [decide ((c:Int) < (c:Int)) = false, ((c:Int) == 0) = false, _] (ac (dF (by omega)) (ac (dF (by omega)) (ao (c1))))
theorem W_vXn {nl : Bool} {n a c s : Nat} {l o : Liz} (hc : 0 < c) (hc2 : c ≤ 1000) (c1 : Pt 37 [(0, btR nl n l a)] [.at 0 []] [(0, btR nl n l a)] (.bool false)) :
  Wt Try.f14 [] [] (.tup [Cx, .int .i64 3]) (Aa Try.f14 0) (dV nl n a c s c l o) := by
 unfold Cx
 refine W.rtA [(0, aF), (2, aF), (10, cC false [(0, 0)] c1)] [] [decide ((c:Int) < (c:Int)) = false, ((c:Int) == 0) = false, _] (ac (dF (by omega)) (ac (dF (by omega)) (ao (c1))))
theorem W_vZ {nl : Bool} {l : Liz} (c0 : Pt 36 [(0, btR nl 0 l 0)] [.at 0 []] [(0, btR nl 0 l 0)] (.int .i64 0)) (c1 : Pt 37 [(0, btR nl 0 l 0)] [.at 0 []] [(0, btR nl 0 l 0)] (.bool true)) :
  Wt Try.f14 [] [] (.tup [Cx, .int .i64 0]) (Aa Try.f14 0) (dV0 nl 0 0 0 l) := by
 unfold Cx dV0 Cx
 refine W.rtA [(1, aV (U6 0)), (5, cC true [(0, 0)] c0), (10, cC true [(0, 0)] c1)] [] [U6 ↑(0 : Nat) = U6 0, _, _] (ac (cg (by omega)) (ac (c0) (ao (c1))))
theorem W_vZn {nl : Bool} {n q : Nat} {l : Liz} (hq : 0 < q) (c2 : Pt 36 [(0, btR nl n l 0)] [.at 0 []] [(0, btR nl n l 0)] (.int .i64 q)) :
  Wt Try.f14 [] [] (.tup [Cx, .int .i64 3]) (Aa Try.f14 0) (dV0 nl n 0 0 l) := by
 unfold Cx dV0 Cx
 refine W.rtA [(1, aV (U6 0)), (5, cC false [(0, 0)] c2), (6, aT)] [] [U6 ↑(0 : Nat) = U6 0, _, decide ((q:Int) > 0) = true] (ac (cg (by omega)) (ac (c2) (ao (dT (by omega)))))
end Go.Proofs
namespace Go.Pm
open Go
def rl (x k : Nat) : Nat := x * 2 ^ k % 18446744073709551616 ||| x / 2 ^ (64 - k)
theorem DR {x k : Nat} (h : x < 18446744073709551616) : rl x k < 18446744073709551616 :=
 Nat.or_lt_two_pow (n := 64) (Nat.mod_lt _ (by decide)) (Nat.lt_of_le_of_lt (Nat.div_le_self _ _) h)
theorem BG {x y : Nat} (h : x < 18446744073709551616) (g : y < 18446744073709551616) : x ^^^ y < 18446744073709551616 := Nat.xor_lt_two_pow (n := 64) h g
theorem Ec (x : Nat) : x % 18446744073709551616 < 18446744073709551616 := Nat.mod_lt _ (by decide)
structure V4 where
 a : Nat
 b : Nat
 c : Nat
 d : Nat
structure V4.Ok (v : V4) : Prop where
 a : v.a < 18446744073709551616
 b : v.b < 18446744073709551616
 c : v.c < 18446744073709551616
 d : v.d < 18446744073709551616
def r1a (v : V4) : Nat := (v.a + v.b) % 18446744073709551616
def r1b (v : V4) : Nat := rl v.b 13 ^^^ r1a v
def r2a (v : V4) : Nat := rl (r1a v) 32
def r1c (v : V4) : Nat := (v.c + v.d) % 18446744073709551616
def r1d (v : V4) : Nat := rl v.d 16 ^^^ r1c v
def r3a (v : V4) : Nat := (r2a v + r1d v) % 18446744073709551616
def r2d (v : V4) : Nat := rl (r1d v) 21 ^^^ r3a v
def r2c (v : V4) : Nat := (r1c v + r1b v) % 18446744073709551616
def r2b (v : V4) : Nat := rl (r1b v) 17 ^^^ r2c v
def rnd (v : V4) : V4 := ⟨r3a v, r2b v, rl (r2c v) 32, r2d v⟩
theorem V4.Ok.r1b {v : V4} (h : v.Ok) : Go.Pm.r1b v < 18446744073709551616 := BG (DR h.b) (Ec _)
theorem V4.Ok.r1d {v : V4} (h : v.Ok) : Go.Pm.r1d v < 18446744073709551616 := BG (DR h.d) (Ec _)
theorem V4.Ok.rnd {v : V4} (h : v.Ok) : (rnd v).Ok :=
 ⟨Ec _, BG (DR h.r1b) (Ec _), DR (Ec _), BG (DR h.r1d) (Ec _)⟩
def tk (v : V4) (m : Nat) : V4 := ⟨(rnd (rnd ⟨v.a, v.b, v.c, v.d ^^^ m⟩)).a ^^^ m, (rnd (rnd ⟨v.a, v.b, v.c, v.d ^^^ m⟩)).b, (rnd (rnd ⟨v.a, v.b, v.c, v.d ^^^ m⟩)).c, (rnd (rnd ⟨v.a, v.b, v.c, v.d ^^^ m⟩)).d⟩
theorem V4.Ok.tk {v : V4} (h : v.Ok) {m : Nat} (hm : m < 18446744073709551616) : (tk v m).Ok := by
 have h2 : (Go.Pm.rnd (Go.Pm.rnd ⟨v.a, v.b, v.c, v.d ^^^ m⟩)).Ok := V4.Ok.rnd (V4.Ok.rnd ⟨h.a, h.b, h.c, BG h.d hm⟩)
 exact ⟨BG h2.a hm, h2.b, h2.c, h2.d⟩
def D9 (v : V4) (l : List Int) : Nat → V4
 | 0 => v
 | q + 1 => D9 (tk v (lv l 8)) (l.drop 8) q
def Es (k0 k1 : Nat) : V4 := ⟨k0 ^^^ 8317987319222330741, k1 ^^^ 7237128888997146477, k0 ^^^ 7816392313619706465, k1 ^^^ 8387220255154660723⟩
def sipE (v : V4) : V4 := rnd (rnd (rnd (rnd ⟨v.a, v.b, v.c ^^^ 255, v.d⟩)))
def sipX (v : V4) : Nat := v.a ^^^ v.b ^^^ v.c ^^^ v.d
def sipF (v : V4) (l : List Int) (n : Nat) : Nat := sipX (sipE (tk v (n % 256 * 72057594037927936 ||| lv l l.length)))
def MS (k0 k1 : Nat) (l : List Int) : Nat := sipF (D9 (Es k0 k1) l (l.length / 8)) (l.drop (8 * (l.length / 8))) l.length
theorem sipX_lt {v : V4} (h : v.Ok) : sipX v < 18446744073709551616 := BG (BG (BG h.a h.b) h.c) h.d
theorem ME {k0 k1 : Nat} (h0 : k0 < 18446744073709551616) (h1 : k1 < 18446744073709551616) : (Es k0 k1).Ok := ⟨BG h0 (by decide), BG h1 (by decide), BG h0 (by decide), BG h1 (by decide)⟩
end Go.Pm
namespace Go.Proofs
open Go Go.Pe Go.Pm
set_option maxRecDepth 100000
set_option linter.unusedVariables false
def _root_.Go.Pm.V4.pv (v : V4) : PV := .iarr .u64 4 [(v.a : Int), (v.b : Int), (v.c : Int), (v.d : Int)]
theorem DK {x k : Nat} (hx : x < 18446744073709551616) (hk0 : 0 < k) (hk : k < 64) : Pt 84 [] [.int .u64 x, .int .i64 k] [] (.int .u64 ((rl x k : Nat) : Int)) := by
 refine pO Try.func84 (by kernel_rfl) ?_
 have h1 : x / 2 ^ (64 - k) < 18446744073709551616 := Nat.lt_of_le_of_lt (Nat.div_le_self _ _) hx
 have h2 : x * 2 ^ k % 18446744073709551616 < 18446744073709551616 := Nat.mod_lt _ (by decide)
 have h3 : ((k % 64 : Nat) : Int) = (k : Int) := by omega
 have h4 : (64 : Int) - k = ((64 - k : Nat) : Int) := by omega
 unfold rl
 generalize 64 - k = j at *
 refine W.rtA [(2, aV (U6 k)), (3, aV (U6 k)), (7, aV (U6 ↑(x * 2 ^ k % 18446744073709551616))), (10, aV (U6 j)), (11, aV (U6 ↑(x / 2 ^ j))), (12, aV (U6 ↑(x * 2 ^ k % 18446744073709551616 ||| x / 2 ^ j)))] [] [U6 (IntKind.wrap .u64 (k:Int)) = U6 k, U6 (Int.tmod (k:Int) (64 : Int)) = U6 k, (64 : Int) ≠ 0, U6 (IntKind.wrap .u64 ((x:Int) * (2 : Int) ^ min k 64)) = U6 ↑(x * 2 ^ k % 18446744073709551616), 0 ≤ (k:Int), U6 (IntKind.wrap .u64 (64 - (k:Int))) = U6 j, U6 (Int.fdiv (x:Int) ((2 : Int) ^ min j 64)) = U6 ↑(x / 2 ^ j), 0 ≤ (j:Int), U6 (bits BinOp.or .u64 (↑(x * 2 ^ k % 18446744073709551616) : Int) (↑(x / 2 ^ j) : Int)) = U6 ↑(x * 2 ^ k % 18446744073709551616 ||| x / 2 ^ j)] (ac (cg (Aj rfl (by omega) (by omega))) (ac (cg (h3)) (ac (by omega) (ac (cg (Hl (y := ((k : Nat) : Int)) rfl rfl)) (ac (by omega) (ac (cg (Aj h4 (by omega) (by omega))) (ac (cg (C8 rfl rfl (by omega))) (ac (by omega) (ao (cg (Hu rfl rfl (by omega) (by omega))))))))))))
theorem DJ {v : V4} (h : v.Ok) : Pt 70 [] [v.pv] [] (rnd v).pv := by
 refine pO Try.func70 (by kernel_rfl) ?_
 have i1 := h.r1b
 have i2 := h.r1d
 have m1 : r1a v < 18446744073709551616 := Ec _
 have m2 : r1c v < 18446744073709551616 := Ec _
 have m3 : r3a v < 18446744073709551616 := Ec _
 have m4 : r2c v < 18446744073709551616 := Ec _
 have s1 := DK (k := 13) h.b (by omega) (by omega)
 have s2 := DK (k := 32) m1 (by omega) (by omega)
 have s3 := DK (k := 16) h.d (by omega) (by omega)
 have s4 := DK (k := 21) i2 (by omega) (by omega)
 have s5 := DK (k := 17) i1 (by omega) (by omega)
 have s6 := DK (k := 32) m4 (by omega) (by omega)
 have e1 : ((((v.a + v.b) % 18446744073709551616 : Nat)) : Int) = (r1a v : Int) := rfl
 have e2 : ((((v.c + v.d) % 18446744073709551616 : Nat)) : Int) = (r1c v : Int) := rfl
 have e3 : ((((r2a v + r1d v) % 18446744073709551616 : Nat)) : Int) = (r3a v : Int) := rfl
 have e4 : ((((r1c v + r1b v) % 18446744073709551616 : Nat)) : Int) = (r2c v : Int) := rfl
 have x1 : ((rl v.b 13 ^^^ r1a v : Nat) : Int) = (r1b v : Int) := rfl
 have x2 : ((rl v.d 16 ^^^ r1c v : Nat) : Int) = (r1d v : Int) := rfl
 have x3 : ((rl (r1d v) 21 ^^^ r3a v : Nat) : Int) = (r2d v : Int) := rfl
 have x4 : ((rl (r1b v) 17 ^^^ r2c v : Nat) : Int) = (r2b v : Int) := rfl
 have l1 := DR (k := 13) h.b
 have l2 := DR (k := 32) m1
 have l3 := DR (k := 16) h.d
 have l4 := DR (k := 21) i2
 have l5 := DR (k := 17) i1
 have ea : rl (r1a v) 32 = r2a v := rfl
 rw [ea] at s2 l2
 unfold rnd V4.pv
 dsimp only
 have q1 := h.a
 have q2 := h.b
 have q3 := h.c
 have q4 := h.d
 obtain ⟨a, b, c, d⟩ := v
 dsimp only at *
 generalize r1a ⟨a, b, c, d⟩ = a1 at *
 generalize r1b ⟨a, b, c, d⟩ = b1 at *
 generalize r1c ⟨a, b, c, d⟩ = c1 at *
 generalize r1d ⟨a, b, c, d⟩ = d1 at *
 generalize r2a ⟨a, b, c, d⟩ = a2 at *
 generalize r3a ⟨a, b, c, d⟩ = a3 at *
 generalize r2d ⟨a, b, c, d⟩ = d2 at *
 generalize r2c ⟨a, b, c, d⟩ = c2 at *
 generalize r2b ⟨a, b, c, d⟩ = b2 at *
 generalize rl b 13 = y1 at *
 generalize rl d 16 = y2 at *
 generalize rl d1 21 = y3 at *
 generalize rl b1 17 = y4 at *
 generalize rl c2 32 = c3 at *
 refine W.rtA [(16, aV (U6 ↑((a + b) % 18446744073709551616))), (17, aV (U6 a1)), (19, c9 s1), (21, aV (U6 ↑(y1 ^^^ a1))), (22, aV (U6 b1)), (24, c9 s2), (28, aV (U6 ↑((c + d) % 18446744073709551616))), (29, aV (U6 c1)), (31, c9 s3), (33, aV (U6 ↑(y2 ^^^ c1))), (34, aV (U6 d1)), (37, aV (U6 ↑((a2 + d1) % 18446744073709551616))), (38, aV (U6 a3)), (40, c9 s4), (42, aV (U6 ↑(y3 ^^^ a3))), (43, aV (U6 d2)), (46, aV (U6 ↑((c1 + b1) % 18446744073709551616))), (47, aV (U6 c2)), (49, c9 s5), (51, aV (U6 ↑(y4 ^^^ c2))), (52, aV (U6 b2)), (54, c9 s6)] [] [(0 : Int) ≤ 0, 0 < (↑(4 : Nat) : Int), 0 < 4, (0 : Int) ≤ 1, 1 < (↑(4 : Nat) : Int), 1 < 4, (0 : Int) ≤ 2, 2 < (↑(4 : Nat) : Int), 2 < 4, (0 : Int) ≤ 3, 3 < (↑(4 : Nat) : Int), 3 < 4, U6 (IntKind.wrap .u64 ((a:Int) + (b:Int))) = U6 ↑((a + b) % 18446744073709551616), U6 ↑((a + b) % 18446744073709551616) = U6 a1, _, U6 (bits BinOp.xor .u64 (y1:Int) (a1:Int)) = U6 ↑(y1 ^^^ a1), U6 ↑(y1 ^^^ a1) = U6 b1, _, U6 (IntKind.wrap .u64 ((c:Int) + (d:Int))) = U6 ↑((c + d) % 18446744073709551616), U6 ↑((c + d) % 18446744073709551616) = U6 c1, _, U6 (bits BinOp.xor .u64 (y2:Int) (c1:Int)) = U6 ↑(y2 ^^^ c1), U6 ↑(y2 ^^^ c1) = U6 d1, U6 (IntKind.wrap .u64 ((a2:Int) + (d1:Int))) = U6 ↑((a2 + d1) % 18446744073709551616), U6 ↑((a2 + d1) % 18446744073709551616) = U6 a3, _, U6 (bits BinOp.xor .u64 (y3:Int) (a3:Int)) = U6 ↑(y3 ^^^ a3), U6 ↑(y3 ^^^ a3) = U6 d2, U6 (IntKind.wrap .u64 ((c1:Int) + (b1:Int))) = U6 ↑((c1 + b1) % 18446744073709551616), U6 ↑((c1 + b1) % 18446744073709551616) = U6 c2, _, U6 (bits BinOp.xor .u64 (y4:Int) (c2:Int)) = U6 ↑(y4 ^^^ c2), U6 ↑(y4 ^^^ c2) = U6 b2, _] (ob4 (by omega) (ob4 (by omega) (ob4 (by omega) (ac (cg (BN rfl)) (ac (cg (e1)) (ac (s1) (ac (cg (Ao rfl rfl (by omega) (by omega))) (ac (cg (x1)) (ac (s2) (ac (cg (BN rfl)) (ac (cg (e2)) (ac (s3) (ac (cg (Ao rfl rfl (by omega) (by omega))) (ac (cg (x2)) (ac (cg (BN rfl)) (ac (cg (e3)) (ac (s4) (ac (cg (Ao rfl rfl (by omega) (by omega))) (ac (cg (x3)) (ac (cg (BN rfl)) (ac (cg (e4)) (ac (s5) (ac (cg (Ao rfl rfl (by omega) (by omega))) (ac (cg (x4)) (ao (s6))))))))))))))))))))))))))
theorem NA {v : V4} (h : v.Ok) {m : Nat} (hm : m < 18446744073709551616) : Pt 68 [] [v.pv, .int .u64 m] [] (tk v m).pv := by
 refine pO Try.func68 (by kernel_rfl) ?_
 have h0 : (⟨v.a, v.b, v.c, v.d ^^^ m⟩ : V4).Ok := ⟨h.a, h.b, h.c, BG h.d hm⟩
 have s1 := DJ h0
 have h1 := h0.rnd
 have s2 := DJ h1
 have h2 := h1.rnd
 have q1 := h2.a
 have q2 := h.d
 have q3 := BG h.d hm
 have q4 := BG h2.a hm
 unfold tk
 generalize rnd (rnd ⟨v.a, v.b, v.c, v.d ^^^ m⟩) = w at *
 unfold V4.pv at *
 dsimp only at *
 generalize rnd ⟨v.a, v.b, v.c, v.d ^^^ m⟩ = u at *
 obtain ⟨a, b, c, d⟩ := v
 dsimp only at *
 refine W.rtA [(5, aV (U6 ↑(d ^^^ m))), (9, c9 s1), (10, c9 s2), (15, aV (U6 ↑(V4.a w ^^^ m)))] [] [(0 : Int) ≤ 3, 3 < (↑(4 : Nat) : Int), 3 < 4, U6 (bits BinOp.xor .u64 (d:Int) (m:Int)) = U6 ↑(d ^^^ m), (0 : Int) ≤ 3, 3 < (↑(4 : Nat) : Int), 3 < 4, _, _, (0 : Int) ≤ 0, 0 < (↑(4 : Nat) : Int), 0 < 4, U6 (bits BinOp.xor .u64 (↑(V4.a w) : Int) (m:Int)) = U6 ↑(V4.a w ^^^ m), (0 : Int) ≤ 0, 0 < (↑(4 : Nat) : Int), 0 < 4] (ob3 (by omega) (ac (cg (Ao rfl rfl (by omega) (by omega))) (ob3 (by omega) (ac (s1) (ac (s2) (ob3 (by omega) (ac (cg (Ao rfl rfl (by omega) (by omega))) (ob2 (by omega) (ao (by omega))))))))))
end Go.Proofs
namespace Go.Proofs
open Go Go.Pe Go.Pm
set_option maxRecDepth 100000
set_option linter.unusedVariables false
set_option maxHeartbeats 4000000 in
theorem Tt {x y : Nat} (hx : x < 18446744073709551616) (hy : y < 18446744073709551616) : Pt 67 [] [.int .u64 x, .int .u64 y] [] (.tup [.int .u64 ((x * y / 18446744073709551616 : Nat) : Int), .int .u64 ((x * y % 18446744073709551616 : Nat) : Int)]) := by
 refine pO Try.func67 (by kernel_rfl) ?_
 obtain ⟨h1, h2, h3, h4⟩ := Go.Lib.mul64_hi x y hx hy
 have ha := Go.Lib.half_mul_le (a := x / 4294967296) (b := y / 4294967296) (by omega) (by omega)
 have hb := Go.Lib.half_mul_le (a := x / 4294967296) (b := y % 4294967296) (by omega) (by omega)
 have hc := Go.Lib.half_mul_le (a := x % 4294967296) (b := y / 4294967296) (by omega) (by omega)
 have hd := Go.Lib.half_mul_le (a := x % 4294967296) (b := y % 4294967296) (by omega) (by omega)
 refine W.ret [(3, aV (U6 ↑(x % 4294967296))), (6, aV (U6 ↑(x / 4294967296))), (9, aV (U6 ↑(y % 4294967296))), (12, aV (U6 ↑(y / 4294967296))), (16, aV (U6 ↑(x % 4294967296 * (y % 4294967296)))), (20, aV (U6 ↑(x / 4294967296 * (y % 4294967296)))), (22, aV (U6 ↑(x % 4294967296 * (y % 4294967296) / 4294967296))), (23, aV (U6 ↑(x / 4294967296 * (y % 4294967296) + x % 4294967296 * (y % 4294967296) / 4294967296))), (26, aV (U6 ↑((x / 4294967296 * (y % 4294967296) + x % 4294967296 * (y % 4294967296) / 4294967296) % 4294967296))), (29, aV (U6 ↑((x / 4294967296 * (y % 4294967296) + x % 4294967296 * (y % 4294967296) / 4294967296) / 4294967296))), (34, aV (U6 ↑(x % 4294967296 * (y / 4294967296)))), (35, aV (U6 ↑((x / 4294967296 * (y % 4294967296) + x % 4294967296 * (y % 4294967296) / 4294967296) % 4294967296 + x % 4294967296 * (y / 4294967296)))), (39, aV (U6 ↑(x / 4294967296 * (y / 4294967296)))), (41, aV (U6 ↑(x / 4294967296 * (y / 4294967296) + (x / 4294967296 * (y % 4294967296) + x % 4294967296 * (y % 4294967296) / 4294967296) / 4294967296))), (43, aV (U6 ↑(((x / 4294967296 * (y % 4294967296) + x % 4294967296 * (y % 4294967296) / 4294967296) % 4294967296 + x % 4294967296 * (y / 4294967296)) / 4294967296))), (44, aV (U6 ↑(x / 4294967296 * (y / 4294967296) + (x / 4294967296 * (y % 4294967296) + x % 4294967296 * (y % 4294967296) / 4294967296) / 4294967296 + ((x / 4294967296 * (y % 4294967296) + x % 4294967296 * (y % 4294967296) / 4294967296) % 4294967296 + x % 4294967296 * (y / 4294967296)) / 4294967296))), (48, aV (U6 ↑(x * y % 18446744073709551616)))] [] [U6 (bits BinOp.and .u64 (x:Int) (4294967295 : Int)) = U6 ↑(x % 4294967296), U6 (Int.fdiv (x:Int) ((2 : Int) ^ 32)) = U6 ↑(x / 4294967296), (0 : Int) ≤ 32, U6 (bits BinOp.and .u64 (y:Int) (4294967295 : Int)) = U6 ↑(y % 4294967296), U6 (Int.fdiv (y:Int) ((2 : Int) ^ 32)) = U6 ↑(y / 4294967296), (0 : Int) ≤ 32, U6 (IntKind.wrap .u64 ((↑(x % 4294967296) : Int) * (↑(y % 4294967296) : Int))) = U6 ↑(x % 4294967296 * (y % 4294967296)), U6 (IntKind.wrap .u64 ((↑(x / 4294967296) : Int) * (↑(y % 4294967296) : Int))) = U6 ↑(x / 4294967296 * (y % 4294967296)), U6 (Int.fdiv (↑(x % 4294967296 * (y % 4294967296)) : Int) ((2 : Int) ^ 32)) = U6 ↑(x % 4294967296 * (y % 4294967296) / 4294967296), (0 : Int) ≤ 32, U6 (IntKind.wrap .u64 ((↑(x / 4294967296 * (y % 4294967296)) : Int) + (↑(x % 4294967296 * (y % 4294967296) / 4294967296) : Int))) = U6 ↑(x / 4294967296 * (y % 4294967296) + x % 4294967296 * (y % 4294967296) / 4294967296), U6 (bits BinOp.and .u64 (↑(x / 4294967296 * (y % 4294967296) + x % 4294967296 * (y % 4294967296) / 4294967296) : Int) (4294967295 : Int)) = U6 ↑((x / 4294967296 * (y % 4294967296) + x % 4294967296 * (y % 4294967296) / 4294967296) % 4294967296), U6 (Int.fdiv (↑(x / 4294967296 * (y % 4294967296) + x % 4294967296 * (y % 4294967296) / 4294967296) : Int) ((2 : Int) ^ 32)) = U6 ↑((x / 4294967296 * (y % 4294967296) + x % 4294967296 * (y % 4294967296) / 4294967296) / 4294967296), (0 : Int) ≤ 32, U6 (IntKind.wrap .u64 ((↑(x % 4294967296) : Int) * (↑(y / 4294967296) : Int))) = U6 ↑(x % 4294967296 * (y / 4294967296)), U6 (IntKind.wrap .u64 ((↑((x / 4294967296 * (y % 4294967296) + x % 4294967296 * (y % 4294967296) / 4294967296) % 4294967296) : Int) + (↑(x % 4294967296 * (y / 4294967296)) : Int))) = U6 ↑((x / 4294967296 * (y % 4294967296) + x % 4294967296 * (y % 4294967296) / 4294967296) % 4294967296 + x % 4294967296 * (y / 4294967296)), U6 (IntKind.wrap .u64 ((↑(x / 4294967296) : Int) * (↑(y / 4294967296) : Int))) = U6 ↑(x / 4294967296 * (y / 4294967296)), U6 (IntKind.wrap .u64 ((↑(x / 4294967296 * (y / 4294967296)) : Int) + (↑((x / 4294967296 * (y % 4294967296) + x % 4294967296 * (y % 4294967296) / 4294967296) / 4294967296) : Int))) = U6 ↑(x / 4294967296 * (y / 4294967296) + (x / 4294967296 * (y % 4294967296) + x % 4294967296 * (y % 4294967296) / 4294967296) / 4294967296), U6 (Int.fdiv (↑((x / 4294967296 * (y % 4294967296) + x % 4294967296 * (y % 4294967296) / 4294967296) % 4294967296 + x % 4294967296 * (y / 4294967296)) : Int) ((2 : Int) ^ 32)) = U6 ↑(((x / 4294967296 * (y % 4294967296) + x % 4294967296 * (y % 4294967296) / 4294967296) % 4294967296 + x % 4294967296 * (y / 4294967296)) / 4294967296), (0 : Int) ≤ 32, U6 (IntKind.wrap .u64 ((↑(x / 4294967296 * (y / 4294967296) + (x / 4294967296 * (y % 4294967296) + x % 4294967296 * (y % 4294967296) / 4294967296) / 4294967296) : Int) + (↑(((x / 4294967296 * (y % 4294967296) + x % 4294967296 * (y % 4294967296) / 4294967296) % 4294967296 + x % 4294967296 * (y / 4294967296)) / 4294967296) : Int))) = U6 ↑(x / 4294967296 * (y / 4294967296) + (x / 4294967296 * (y % 4294967296) + x % 4294967296 * (y % 4294967296) / 4294967296) / 4294967296 + ((x / 4294967296 * (y % 4294967296) + x % 4294967296 * (y % 4294967296) / 4294967296) % 4294967296 + x % 4294967296 * (y / 4294967296)) / 4294967296), U6 (IntKind.wrap .u64 ((x:Int) * (y:Int))) = U6 ↑(x * y % 18446744073709551616), PV.tup [U6 ↑(x / 4294967296 * (y / 4294967296) + (x / 4294967296 * (y % 4294967296) + x % 4294967296 * (y % 4294967296) / 4294967296) / 4294967296 + ((x / 4294967296 * (y % 4294967296) + x % 4294967296 * (y % 4294967296) / 4294967296) % 4294967296 + x % 4294967296 * (y / 4294967296)) / 4294967296), U6 ↑(x * y % 18446744073709551616)] = PV.tup [U6 ↑(x * y / 18446744073709551616), U6 ↑(x * y % 18446744073709551616)]] (by kernel_rfl) (ac (cg (DX 32 rfl rfl (by omega) (by decide))) (ac (cg (Bb (y := 32) (s := 32) rfl rfl (by decide) (by omega))) (ac (by omega) (ac (cg (DX 32 rfl rfl (by omega) (by decide))) (ac (cg (Bb (y := 32) (s := 32) rfl rfl (by decide) (by omega))) (ac (by omega) (ac (cg (Aj rfl (by omega) (by omega))) (ac (cg (Aj rfl (by omega) (by omega))) (ac (cg (Bb (y := 32) (s := 32) rfl rfl (by decide) (by omega))) (ac (by omega) (ac (cg (Aj rfl (by omega) (by omega))) (ac (cg (DX 32 rfl rfl (by omega) (by decide))) (ac (cg (Bb (y := 32) (s := 32) rfl rfl (by decide) (by omega))) (ac (by omega) (ac (cg (Aj rfl (by omega) (by omega))) (ac (cg (Aj rfl (by omega) (by omega))) (ac (cg (Aj rfl (by omega) (by omega))) (ac (cg (Aj rfl (by omega) (by omega))) (ac (cg (Bb (y := 32) (s := 32) rfl rfl (by decide) (by omega))) (ac (by omega) (ac (cg (Aj rfl (by omega) (by omega))) (ac (cg (BN rfl)) (ao (by (simp [*]; done)))))))))))))))))))))))))
theorem md (x : Nat) : x % 18446744073709551616 < 18446744073709551616 := Nat.mod_lt _ (by omega)
end Go.Proofs
namespace Go.Proofs
open Go Go.Pe Go.Pm
set_option maxRecDepth 100000
set_option linter.unusedVariables false
attribute [local irreducible] lv
def dSp (nl : Bool) (m : Nat) (l : List Int) (v : V4) (t : Nat) : DS := ⟨[(1, .vec nl (.iarr .u8 m l)), (5, .at 1 []), (6, .int .u64 t)], [(1, ⟨v.pv, false⟩)]⟩
def dSq (v : V4) (i : Nat) : DS := ⟨[(5, .at 1 []), (44, .int .i64 i)], [(1, ⟨v.pv, false⟩)]⟩
theorem W_spS {nl : Bool} {m t k : Nat} {l : Liz} {v w : V4} {hout : Lrz} {res : PV} (hm1 : m + 8 ≤ 1000000) (hl : l.length = m + 8) (hk : k < 18446744073709551616) (c1 : Pt 69 [] [.vec nl (.iarr .u8 (m + 8) l)] [] (.int .u64 k)) (c2 : Pt 68 [] [v.pv, .int .u64 k] [] w.pv)
  (hw : Wt Try.f43 [] hout res (Aa Try.f43 0) (dSp nl m (l.drop 8) w t)) : Wt Try.f43 [] hout res (Aa Try.f43 0) (dSp nl (m + 8) l v t) := by
 unfold V4.pv at c2
 refine W.seg [(2, aT), (5, c9 c1), (6, c9 c2), (9, aV (PV.vec nl (B8 m (List.take m (Dn l 8)))))] (rI 1) (dSp nl m (l.drop 8) w t) (todo' := Aa Try.f43 0) [decide ((↑(m + 8) : Int) ≥ 8) = true, _, _, PV.vec nl (B8 (Int.toNat ((↑(m + 8) : Int) - 8)) (List.take (Int.toNat ((↑(m + 8) : Int) - 8)) (Dn l 8))) = PV.vec nl (B8 m (List.take m (Dn l 8))), (0 : Int) ≤ 8, 8 ≤ (↑(m + 8) : Int), (↑(m + 8) : Int) ≤ (↑(m + 8) : Int), PV.vec nl (B8 m (List.take m (Dn l 8))) = PV.vec nl (B8 m (List.drop 8 l)), rr (PV.at 1 []), rr (U6 t), rr (B6 4 [(↑(V4.a w) : Int), (↑(V4.b w) : Int), (↑(V4.c w) : Int), (↑(V4.d w) : Int)])] (by kernel_rfl) (ac (dT (by omega)) (ac (c1) (ac (c2) (ac (by rw [show Int.toNat ((↑(m + 8) : Int) - 8) = m by omega]) (ob3 (by omega) (ac ?_ (ac rfl (ac rfl (ao rfl))))))))) ?_
 ·have e : ((m + 8 : Nat) : Int).toNat - 8 = m := by omega
  rw [DN, List.take_of_length_le (by rw [List.length_drop]; omega)]
  try rfl
 exact hw
theorem W_spE {nl : Bool} {m t k : Nat} {l : Liz} {v w : V4} {hout : Lrz} {res : PV} (hm : m < 8) (hl : l.length = m) (ht : t < 18446744073709551616) (hk : k < 18446744073709551616) (hw1 : w.Ok) (c1 : Pt 69 [] [.vec nl (.iarr .u8 m l)] [] (.int .u64 k)) (c2 : Pt 68 [] [v.pv, .int .u64 ((t ||| k : Nat) : Int)] [] w.pv)
  (hw : Wt Try.f43 [] hout res (Aa Try.f43 1) (dSq ⟨w.a, w.b, w.c ^^^ 255, w.d⟩ 0)) : Wt Try.f43 [] hout res (Aa Try.f43 0) (dSp nl m l v t) := by
 unfold V4.pv at c2
 have h1 := hw1.c
 refine W.sgA 1 [(2, aF), (6, c9 c1), (7, aV (U6 ↑(t ||| k))), (8, c9 c2), (12, aV (U6 ↑(V4.c w ^^^ 255)))] (rI 1) (dSq ⟨w.a, w.b, w.c ^^^ 255, w.d⟩ 0) [decide ((m:Int) ≥ 8) = false, _, U6 (bits BinOp.or .u64 (t:Int) (k:Int)) = U6 ↑(t ||| k), _, (0 : Int) ≤ 2, 2 < (↑(4 : Nat) : Int), 2 < 4, U6 (bits BinOp.xor .u64 (↑(V4.c w) : Int) (255 : Int)) = U6 ↑(V4.c w ^^^ 255), (0 : Int) ≤ 2, 2 < (↑(4 : Nat) : Int), 2 < 4] (ac (dF (by omega)) (ac (c1) (ac (cg (Hu rfl rfl (by omega) (by omega))) (ac (c2) (ob3 (by omega) (ac (cg (Ao rfl rfl (by omega) (by omega))) (ob2 (by omega) (ao (by omega))))))))) ?_
 exact hw
theorem Qm {v w : V4} {i : Nat} {hout : Lrz} {res : PV} (hi : i < 4) (c2 : Pt 70 [] [v.pv] [] w.pv)
  (hw : Wt Try.f43 [] hout res (Aa Try.f43 1) (dSq w (i + 1))) : Wt Try.f43 [] hout res (Aa Try.f43 1) (dSq v i) := by
 unfold V4.pv at c2
 refine W.sgA 1 [(0, aT), (2, c9 c2), (4, aV (I6 ↑(i + 1)))] (rI 1) (dSq w (i + 1)) [decide ((i:Int) < 4) = true, _, I6 (IntKind.wrap .i64 ((i:Int) + 1)) = I6 ↑(i + 1)] (ac (dT (by omega)) (ac (c2) (ao (wj (by omega))))) ?_
 exact hw
theorem W_sqE {v : V4} (h : v.Ok) : Wt Try.f43 [] [] (.int .u64 ((sipX v : Nat) : Int)) (Aa Try.f43 1) (dSq v 4) := by
 obtain ⟨a, b, c, d⟩ := v
 have h1 := h.a
 have h2 := h.b
 have h3 := h.c
 have h4 := h.d
 dsimp only at *
 have h5 := BG h1 h2
 have h6 := BG h5 h3
 unfold sipX
 dsimp only
 refine W.rtA [(5, aV (U6 ↑(a ^^^ b))), (8, aV (U6 ↑(a ^^^ b ^^^ c))), (11, aV (U6 ↑(a ^^^ b ^^^ c ^^^ d)))] [] [(0 : Int) ≤ 0, 0 < (↑(4 : Nat) : Int), 0 < 4, (0 : Int) ≤ 1, 1 < (↑(4 : Nat) : Int), 1 < 4, U6 (bits BinOp.xor .u64 (a:Int) (b:Int)) = U6 ↑(a ^^^ b), (0 : Int) ≤ 2, 2 < (↑(4 : Nat) : Int), 2 < 4, U6 (bits BinOp.xor .u64 (↑(a ^^^ b) : Int) (c:Int)) = U6 ↑(a ^^^ b ^^^ c), (0 : Int) ≤ 3, 3 < (↑(4 : Nat) : Int), 3 < 4, U6 (bits BinOp.xor .u64 (↑(a ^^^ b ^^^ c) : Int) (d:Int)) = U6 ↑(a ^^^ b ^^^ c ^^^ d)] (ob4 (by omega) (ob2 (by omega) (ac (cg (Ao rfl rfl (by omega) (by omega))) (ob3 (by omega) (ac (cg (Ao rfl rfl (by omega) (by omega))) (ob3 (by omega) (ao (cg (Ao rfl rfl (by omega) (by omega))))))))))
theorem W_spIn {nl : Bool} {m k0 k1 : Nat} {l : Liz} {hout : Lrz} {res : PV} (hm1 : m ≤ 1000000) (h0 : k0 < 18446744073709551616) (h1 : k1 < 18446744073709551616)
  (hw : Wt Try.f43 [] hout res (Aa Try.f43 0) (dSp nl m l (Es k0 k1) (m % 256 * 72057594037927936))) : Pt 43 [] [.iarr .u64 2 [(k0 : Int), (k1 : Int)], .vec nl (.iarr .u8 m l)] hout res := by
 refine pO Try.func43 (by kernel_rfl) ?_
 have hs : ((m % 256 * 72057594037927936 % 18446744073709551616 : Nat) : Int) = ((m % 256 * 72057594037927936 : Nat) : Int) := by omega
 unfold Es at hw
 refine W.seg [(4, aV (U6 ↑(k0 ^^^ 8317987319222330741))), (7, aV (U6 ↑(k1 ^^^ 7237128888997146477))), (10, aV (U6 ↑(k0 ^^^ 7816392313619706465))), (13, aV (U6 ↑(k1 ^^^ 8387220255154660723))), (19, aV (U8 ↑(m % 256))), (20, aV (U6 ↑(m % 256))), (21, aV (U6 ((↑(m % 256) : Int) * (2 : Int) ^ 56)))] [(304, 1)] (dSp nl m l (Es k0 k1) (m % 256 * 72057594037927936)) (todo' := Aa Try.f43 0) [(0 : Int) ≤ 0, 0 < (↑(2 : Nat) : Int), 0 < 2, U6 (bits BinOp.xor .u64 (k0:Int) (8317987319222330741 : Int)) = U6 ↑(k0 ^^^ 8317987319222330741), (0 : Int) ≤ 1, 1 < (↑(2 : Nat) : Int), 1 < 2, U6 (bits BinOp.xor .u64 (k1:Int) (7237128888997146477 : Int)) = U6 ↑(k1 ^^^ 7237128888997146477), (0 : Int) ≤ 0, 0 < (↑(2 : Nat) : Int), 0 < 2, U6 (bits BinOp.xor .u64 (k0:Int) (7816392313619706465 : Int)) = U6 ↑(k0 ^^^ 7816392313619706465), (0 : Int) ≤ 1, 1 < (↑(2 : Nat) : Int), 1 < 2, U6 (bits BinOp.xor .u64 (k1:Int) (8387220255154660723 : Int)) = U6 ↑(k1 ^^^ 8387220255154660723), U8 (IntKind.wrap .u8 (m:Int)) = U8 ↑(m % 256), U6 (IntKind.wrap .u64 (↑(m % 256) : Int)) = U6 ↑(m % 256), U6 (IntKind.wrap .u64 ((↑(m % 256) : Int) * (2 : Int) ^ 56)) = U6 ((↑(m % 256) : Int) * (2 : Int) ^ 56), (0 : Int) ≤ 56, rr (PV.vec nl (B8 m l)), rr (PV.at 1 []), U6 ((↑(m % 256) : Int) * (2 : Int) ^ 56) = U6 ↑(m % 256 * 72057594037927936), B6 4 [(↑(k0 ^^^ 8317987319222330741) : Int), (↑(k1 ^^^ 7237128888997146477) : Int), (↑(k0 ^^^ 7816392313619706465) : Int), (↑(k1 ^^^ 8387220255154660723) : Int)] = B6 4 [(↑(V4.a (Es k0 k1)) : Int), (↑(V4.b (Es k0 k1)) : Int), (↑(V4.c (Es k0 k1)) : Int), (↑(V4.d (Es k0 k1)) : Int)]] (by kernel_rfl) (ob3 (by omega) (ac (cg (Ao rfl rfl (by omega) (by omega))) (ob3 (by omega) (ac (cg (Ao rfl rfl (by omega) (by omega))) (ob3 (by omega) (ac (cg (Ao rfl rfl (by omega) (by omega))) (ob3 (by omega) (ac (cg (Ao rfl rfl (by omega) (by omega))) (ac (cg (wm_u8 rfl)) (ac (cg (Aj rfl (by omega) (by omega))) (ac (cg (Aj rfl (by omega) (by omega))) (ac (by omega) (ac rfl (ac rfl (ac (cg (by omega)) (ao rfl)))))))))))))))) ?_
 exact hw
theorem W_sp {L : Nat} (hL : L ≤ 1000000) : ∀ (q : Nat) (nl : Bool) (m : Nat) (l : List Int) (v : V4), l.length = m → m / 8 = q → m ≤ 1000000 → Bytes l → v.Ok →
  Wt Try.f43 [] [] (.int .u64 ((sipF (D9 v l q) (l.drop (8 * q)) L : Nat) : Int)) (Aa Try.f43 0) (dSp nl m l v (L % 256 * 72057594037927936))
 | 0, nl, m, l, v, hl, hq, hm, hb, hv => by
  have hm8 : m < 8 := by omega
  have c1 := JD (nl := nl) hl hb
  rw [Nat.min_eq_left (by omega)] at c1
  have hk := Fx hb m
  have hk2 : 2 ^ (8 * m) ≤ 2 ^ 64 := Nat.pow_le_pow_right (by omega) (by omega)
  have hk3 : lv l m < 18446744073709551616 := Nat.lt_of_lt_of_le hk hk2
  have ht : L % 256 * 72057594037927936 < 18446744073709551616 := by omega
  have ho : L % 256 * 72057594037927936 ||| lv l m < 18446744073709551616 := Nat.or_lt_two_pow (n := 64) ht hk3
  have c2 := NA hv ho
  have hw := hv.tk ho
  have r0 : (⟨(tk v (L % 256 * 72057594037927936 ||| lv l m)).a, (tk v (L % 256 * 72057594037927936 ||| lv l m)).b, (tk v (L % 256 * 72057594037927936 ||| lv l m)).c ^^^ 255, (tk v (L % 256 * 72057594037927936 ||| lv l m)).d⟩ : V4).Ok := ⟨hw.a, hw.b, BG hw.c (by decide), hw.d⟩
  unfold sipF sipE
  rw [D9, Nat.mul_zero, List.drop_zero, hl]
  refine W_spE hm8 hl ht hk3 hw c1 c2 ?_
  exact Qm (by omega) (DJ r0) (Qm (by omega) (DJ r0.rnd) (Qm (by omega) (DJ r0.rnd.rnd) (Qm (by omega) (DJ r0.rnd.rnd.rnd) (W_sqE r0.rnd.rnd.rnd.rnd))))
 | q + 1, nl, m, l, v, hl, hq, hm, hb, hv => by
  have hm8 : 8 ≤ m := by omega
  have c1 := JD (nl := nl) hl hb
  rw [Nat.min_eq_right hm8] at c1
  have hk3 : lv l 8 < 18446744073709551616 := Fx hb 8
  rw [D9, show l.drop (8 * (q + 1)) = (l.drop 8).drop (8 * q) by rw [List.drop_drop]; congr 1; omega]
  obtain ⟨m, rfl⟩ : ∃ j, m = j + 8 := ⟨m - 8, by omega⟩
  exact W_spS hm hl hk3 c1 (NA hv hk3) (W_sp hL q nl m (l.drop 8) _ (by rw [List.length_drop, hl]; omega) (by omega) (by omega) (hb.drop _) (hv.tk hk3))
theorem IP {nl : Bool} {m k0 k1 : Nat} {l : Liz} (hl : l.length = m) (hm : m ≤ 1000000) (h0 : k0 < 18446744073709551616) (h1 : k1 < 18446744073709551616) (hb : Bytes l) :
  Pt 43 [] [.iarr .u64 2 [(k0 : Int), (k1 : Int)], .vec nl (.iarr .u8 m l)] [] (.int .u64 ((MS k0 k1 l : Nat) : Int)) := by
 unfold MS
 rw [hl]
 exact W_spIn hm h0 h1 (W_sp hm (m / 8) nl m l _ hl rfl hm hb (ME h0 h1))
theorem DL {x n : Nat} (hx : x < 18446744073709551616) (hn : n < 18446744073709551616) : Pt 42 [] [.int .u64 x, .int .u64 n] [] (.int .u64 ((x * n / 18446744073709551616 : Nat) : Int)) := by
 refine pO Try.func42 (by kernel_rfl) ?_
 have c1 := Tt hx hn
 generalize x * n / 18446744073709551616 = a at *
 generalize x * n % 18446744073709551616 = b at *
 refine W.rtA [(3, c9 c1)] [] [_] (ao (c1))
end Go.Proofs
namespace Go.Proofs
open Go Go.Pe Go.Pm
set_option maxRecDepth 100000
set_option linter.unusedVariables false
def qT (n a i j : Nat) (l : List Int) : DS := ⟨[(0, .ref 0 [] 1 0 n), (1, .int .i64 a), (10, .int .i64 i), (11, .int .i64 j)], [(0, Ac n l)]⟩
theorem W_u0S {n a i j : Nat} {l : Liz} {hout : Lrz} {res : PV} (hn : n < 1000000) (ha : a < n) (hj : j < n) (h1 : i ≤ j) (h2 : l.getD i 0 < l.getD a 0) (hw : Wt Try.f96 [0] hout res (Aa Try.f96 0) (qT n a (i + 1) j l)) : Wt Try.f96 [0] hout res (Aa Try.f96 0) (qT n a i j l) := by
 refine W.sgA 0 [(2, aT), (6, aV (PV.at 0 [Stp.idx i 1])), (10, aV (PV.at 0 [Stp.idx a 1])), (12, aK (PV.bool true)), (15, aV (I6 ↑(i + 1)))] [(0, 0)] (qT n a (i + 1) j l) [decide ((i:Int) ≤ (j:Int)) = true, PV.at 0 [Stp.idx (0 + i) 1] = PV.at 0 [Stp.idx i 1], 0 ≤ (i:Int), (i:Int) < (n:Int), i < n, PV.at 0 [Stp.idx (0 + a) 1] = PV.at 0 [Stp.idx a 1], 0 ≤ (a:Int), (a:Int) < (n:Int), a < n, Pt 71 [] [U6 (List.getD l i (0 : Int)), U6 (List.getD l a (0 : Int))] [] (PV.bool true), I6 (IntKind.wrap .i64 ((i:Int) + 1)) = I6 ↑(i + 1)] (ac (dT (by omega)) (ac (by simp only [Nat.zero_add]) (ob3 (by omega) (ac (by simp only [Nat.zero_add]) (ob3 (by omega) (ac (AZ _ _ (by first | omega | decide)) (ao (wj (by omega))))))))) ?_
 exact hw
theorem W_u0E {n a i j : Nat} {l : Liz} {hout : Lrz} {res : PV} (hn : n < 1000000) (ha : a < n) (hj : j < n) (h1 : ¬ (i ≤ j ∧ l.getD i 0 < l.getD a 0)) (hw : Wt Try.f96 [0] hout res (Aa Try.f96 1) (qT n a i j l)) : Wt Try.f96 [0] hout res (Aa Try.f96 0) (qT n a i j l) := by
 by_cases g : i ≤ j
 ·have g2 : ¬ l.getD i 0 < l.getD a 0 := fun x => h1 ⟨g, x⟩
  refine W.sgA 1 [(2, aT), (6, aV (PV.at 0 [Stp.idx i 1])), (10, aV (PV.at 0 [Stp.idx a 1])), (12, aK (PV.bool false))] [(0, 0)] (qT n a i j l) [decide ((i:Int) ≤ (j:Int)) = true, PV.at 0 [Stp.idx (0 + i) 1] = PV.at 0 [Stp.idx i 1], 0 ≤ (i:Int), (i:Int) < (n:Int), i < n, PV.at 0 [Stp.idx (0 + a) 1] = PV.at 0 [Stp.idx a 1], 0 ≤ (a:Int), (a:Int) < (n:Int), a < n, Pt 71 [] [U6 (List.getD l i (0 : Int)), U6 (List.getD l a (0 : Int))] [] (PV.bool false)] (ac (dT (by omega)) (ac (by simp only [Nat.zero_add]) (ob3 (by omega) (ac (by simp only [Nat.zero_add]) (ob3 (by omega) (ao (Bt _ _ (by first | omega | decide)))))))) ?_
  exact hw
 ·refine W.sg 1 [(2, aF)] [(0, 0)] (qT n a i j l) [decide ((i:Int) ≤ (j:Int)) = false] (by kernel_rfl) (ao (dF (by omega))) ?_
  exact hw
theorem W_u0 {n a i j : Nat} {l : Liz} {hout : Lrz} {res : PV} (hn : n < 1000000) (ha : a < n) (hj : j < n) (hw : Wt Try.f96 [0] hout res (Aa Try.f96 1) (qT n a (upL (ltP l a) l j i) j l)) : Wt Try.f96 [0] hout res (Aa Try.f96 0) (qT n a i j l) := by
 by_cases h : i ≤ j ∧ l.getD i 0 < l.getD a 0
 ·rw [Em, if_pos ⟨h.1, decide_eq_true h.2⟩] at hw
  exact W_u0S hn ha hj h.1 h.2 (W_u0 hn ha hj hw)
 ·rw [Em, if_neg (fun x => h ⟨x.1, of_decide_eq_true x.2⟩)] at hw
  exact W_u0E hn ha hj h hw
termination_by j + 1 - i
theorem W_u3S {n a i j : Nat} {l : Liz} {hout : Lrz} {res : PV} (hn : n < 1000000) (ha : a < n) (hj : j < n) (h1 : i ≤ j) (h2 : l.getD i 0 < l.getD a 0) (hw : Wt Try.f96 [0] hout res (Aa Try.f96 3) (qT n a (i + 1) j l)) : Wt Try.f96 [0] hout res (Aa Try.f96 3) (qT n a i j l) := by
 refine W.sgA 3 [(2, aT), (6, aV (PV.at 0 [Stp.idx i 1])), (10, aV (PV.at 0 [Stp.idx a 1])), (12, aK (PV.bool true)), (15, aV (I6 ↑(i + 1)))] [(0, 0)] (qT n a (i + 1) j l) [decide ((i:Int) ≤ (j:Int)) = true, PV.at 0 [Stp.idx (0 + i) 1] = PV.at 0 [Stp.idx i 1], 0 ≤ (i:Int), (i:Int) < (n:Int), i < n, PV.at 0 [Stp.idx (0 + a) 1] = PV.at 0 [Stp.idx a 1], 0 ≤ (a:Int), (a:Int) < (n:Int), a < n, Pt 71 [] [U6 (List.getD l i (0 : Int)), U6 (List.getD l a (0 : Int))] [] (PV.bool true), I6 (IntKind.wrap .i64 ((i:Int) + 1)) = I6 ↑(i + 1)] (ac (dT (by omega)) (ac (by simp only [Nat.zero_add]) (ob3 (by omega) (ac (by simp only [Nat.zero_add]) (ob3 (by omega) (ac (AZ _ _ (by first | omega | decide)) (ao (wj (by omega))))))))) ?_
 exact hw
theorem W_u3E {n a i j : Nat} {l : Liz} {hout : Lrz} {res : PV} (hn : n < 1000000) (ha : a < n) (hj : j < n) (h1 : ¬ (i ≤ j ∧ l.getD i 0 < l.getD a 0)) (hw : Wt Try.f96 [0] hout res (Aa Try.f96 4) (qT n a i j l)) : Wt Try.f96 [0] hout res (Aa Try.f96 3) (qT n a i j l) := by
 by_cases g : i ≤ j
 ·have g2 : ¬ l.getD i 0 < l.getD a 0 := fun x => h1 ⟨g, x⟩
  refine W.sgA 4 [(2, aT), (6, aV (PV.at 0 [Stp.idx i 1])), (10, aV (PV.at 0 [Stp.idx a 1])), (12, aK (PV.bool false))] [(0, 0)] (qT n a i j l) [decide ((i:Int) ≤ (j:Int)) = true, PV.at 0 [Stp.idx (0 + i) 1] = PV.at 0 [Stp.idx i 1], 0 ≤ (i:Int), (i:Int) < (n:Int), i < n, PV.at 0 [Stp.idx (0 + a) 1] = PV.at 0 [Stp.idx a 1], 0 ≤ (a:Int), (a:Int) < (n:Int), a < n, Pt 71 [] [U6 (List.getD l i (0 : Int)), U6 (List.getD l a (0 : Int))] [] (PV.bool false)] (ac (dT (by omega)) (ac (by simp only [Nat.zero_add]) (ob3 (by omega) (ac (by simp only [Nat.zero_add]) (ob3 (by omega) (ao (Bt _ _ (by first | omega | decide)))))))) ?_
  exact hw
 ·refine W.sg 4 [(2, aF)] [(0, 0)] (qT n a i j l) [decide ((i:Int) ≤ (j:Int)) = false] (by kernel_rfl) (ao (dF (by omega))) ?_
  exact hw
theorem W_u3 {n a i j : Nat} {l : Liz} {hout : Lrz} {res : PV} (hn : n < 1000000) (ha : a < n) (hj : j < n) (hw : Wt Try.f96 [0] hout res (Aa Try.f96 4) (qT n a (upL (ltP l a) l j i) j l)) : Wt Try.f96 [0] hout res (Aa Try.f96 3) (qT n a i j l) := by
 by_cases h : i ≤ j ∧ l.getD i 0 < l.getD a 0
 ·rw [Em, if_pos ⟨h.1, decide_eq_true h.2⟩] at hw
  exact W_u3S hn ha hj h.1 h.2 (W_u3 hn ha hj hw)
 ·rw [Em, if_neg (fun x => h ⟨x.1, of_decide_eq_true x.2⟩)] at hw
  exact W_u3E hn ha hj h hw
termination_by j + 1 - i
theorem W_d1S {n a i j : Nat} {l : Liz} {hout : Lrz} {res : PV} (hn : n < 1000000) (ha : a < n) (hj : j + 1 < n) (h1 : i ≤ j + 1) (h2 : ¬ l.getD (j + 1) 0 < l.getD a 0) (hw : Wt Try.f96 [0] hout res (Aa Try.f96 1) (qT n a i j l)) : Wt Try.f96 [0] hout res (Aa Try.f96 1) (qT n a i (j + 1) l) := by
 refine W.sgA 1 [(2, aT), (6, aV (PV.at 0 [Stp.idx (j + 1) 1])), (10, aV (PV.at 0 [Stp.idx a 1])), (12, aK (PV.bool false)), (16, aV (I6 j))] [(0, 0)] (qT n a i j l) [decide ((i:Int) ≤ (↑(j + 1) : Int)) = true, PV.at 0 [Stp.idx (0 + Int.toNat (↑(j + 1) : Int)) 1] = PV.at 0 [Stp.idx (j + 1) 1], 0 ≤ (↑(j + 1) : Int), (↑(j + 1) : Int) < (n:Int), j + 1 < n, PV.at 0 [Stp.idx (0 + a) 1] = PV.at 0 [Stp.idx a 1], 0 ≤ (a:Int), (a:Int) < (n:Int), a < n, Pt 71 [] [U6 (List.getD l (j + 1) (0 : Int)), U6 (List.getD l a (0 : Int))] [] (PV.bool false), I6 (IntKind.wrap .i64 ((↑(j + 1) : Int) - 1)) = I6 j] (ac (dT (by omega)) (ac (by (rw [show Int.toNat (↑(j + 1) : Int) = j + 1 by omega]; simp only [Nat.zero_add])) (ob3 (by omega) (ac (by simp only [Nat.zero_add]) (ob3 (by omega) (ac (Bt _ _ (by first | omega | decide)) (ao (cg (Ab (by omega) (by omega) (by omega)))))))))) ?_
 exact hw
theorem W_d1R {n a i j : Nat} {l : Liz} (hn : n < 1000000) (ha : a < n) (hj : j < n) (h1 : j < i) : Wt Try.f96 [0] [(0, Ac n (swL l j a))] (.tup [.int .i64 j, .bool true]) (Aa Try.f96 1) (qT n a i j l) := by
 refine W.rtA [(2, aF), (17, aT), (24, aV (PV.at 0 [Stp.idx a 1])), (28, aV (PV.at 0 [Stp.idx j 1])), (30, aV (PV.at 0 [Stp.idx j 1])), (32, aV (PV.at 0 [Stp.idx a 1]))] [(0, 0)] [decide ((i:Int) ≤ (j:Int)) = false, decide ((i:Int) > (j:Int)) = true, PV.at 0 [Stp.idx (0 + a) 1] = PV.at 0 [Stp.idx a 1], 0 ≤ (a:Int), (a:Int) < (n:Int), a < n, PV.at 0 [Stp.idx (0 + j) 1] = PV.at 0 [Stp.idx j 1], 0 ≤ (j:Int), (j:Int) < (n:Int), j < n, PV.at 0 [Stp.idx (0 + j) 1] = PV.at 0 [Stp.idx j 1], 0 ≤ (j:Int), (j:Int) < (n:Int), j < n, PV.at 0 [Stp.idx (0 + a) 1] = PV.at 0 [Stp.idx a 1], 0 ≤ (a:Int), (a:Int) < (n:Int), a < n] (ac (dF (by omega)) (ac (dT (by omega)) (ac (by simp only [Nat.zero_add]) (ob3 (by omega) (ac (by simp only [Nat.zero_add]) (ob3 (by omega) (ac (by simp only [Nat.zero_add]) (ob3 (by omega) (ac (by simp only [Nat.zero_add]) (ob2 (by omega) (ao (by omega))))))))))))
theorem W_d1E {n a i j : Nat} {l : Liz} {hout : Lrz} {res : PV} (hn : n < 1000000) (ha : a < n) (hj : j + 1 < n) (h1 : i ≤ j + 1) (h2 : l.getD (j + 1) 0 < l.getD a 0) (hw : Wt Try.f96 [0] hout res (Aa Try.f96 2) (qT n a (i + 1) j (swL l i (j + 1)))) : Wt Try.f96 [0] hout res (Aa Try.f96 1) (qT n a i (j + 1) l) := by
 refine W.sgA 2 [(2, aT), (6, aV (PV.at 0 [Stp.idx (j + 1) 1])), (10, aV (PV.at 0 [Stp.idx a 1])), (12, aK (PV.bool true)), (17, aF), (24, aV (PV.at 0 [Stp.idx (j + 1) 1])), (28, aV (PV.at 0 [Stp.idx i 1])), (30, aV (PV.at 0 [Stp.idx i 1])), (32, aV (PV.at 0 [Stp.idx (j + 1) 1])), (35, aV (I6 ↑(i + 1))), (38, aV (I6 j))] [(0, 0)] (qT n a (i + 1) j (swL l i (j + 1))) [decide ((i:Int) ≤ (↑(j + 1) : Int)) = true, PV.at 0 [Stp.idx (0 + Int.toNat (↑(j + 1) : Int)) 1] = PV.at 0 [Stp.idx (j + 1) 1], 0 ≤ (↑(j + 1) : Int), (↑(j + 1) : Int) < (n:Int), j + 1 < n, PV.at 0 [Stp.idx (0 + a) 1] = PV.at 0 [Stp.idx a 1], 0 ≤ (a:Int), (a:Int) < (n:Int), a < n, Pt 71 [] [U6 (List.getD l (j + 1) (0 : Int)), U6 (List.getD l a (0 : Int))] [] (PV.bool true), decide ((i:Int) > (↑(j + 1) : Int)) = false, PV.at 0 [Stp.idx (0 + Int.toNat (↑(j + 1) : Int)) 1] = PV.at 0 [Stp.idx (j + 1) 1], 0 ≤ (↑(j + 1) : Int), (↑(j + 1) : Int) < (n:Int), j + 1 < n, PV.at 0 [Stp.idx (0 + i) 1] = PV.at 0 [Stp.idx i 1], 0 ≤ (i:Int), (i:Int) < (n:Int), i < n, PV.at 0 [Stp.idx (0 + i) 1] = PV.at 0 [Stp.idx i 1], 0 ≤ (i:Int), (i:Int) < (n:Int), i < n, PV.at 0 [Stp.idx (0 + Int.toNat (↑(j + 1) : Int)) 1] = PV.at 0 [Stp.idx (j + 1) 1], 0 ≤ (↑(j + 1) : Int), (↑(j + 1) : Int) < (n:Int), j + 1 < n, I6 (IntKind.wrap .i64 ((i:Int) + 1)) = I6 ↑(i + 1), I6 (IntKind.wrap .i64 ((↑(j + 1) : Int) - 1)) = I6 j] (ac (dT (by omega)) (ac (by (rw [show Int.toNat (↑(j + 1) : Int) = j + 1 by omega]; simp only [Nat.zero_add])) (ob3 (by omega) (ac (by simp only [Nat.zero_add]) (ob3 (by omega) (ac (AZ _ _ (by first | omega | decide)) (ac (dF (by omega)) (ac (by (rw [show Int.toNat (↑(j + 1) : Int) = j + 1 by omega]; simp only [Nat.zero_add])) (ob3 (by omega) (ac (by simp only [Nat.zero_add]) (ob3 (by omega) (ac (by simp only [Nat.zero_add]) (ob3 (by omega) (ac (by (rw [show Int.toNat (↑(j + 1) : Int) = j + 1 by omega]; simp only [Nat.zero_add])) (ob3 (by omega) (ac (wj (by omega)) (ao (cg (Ab (by omega) (by omega) (by omega)))))))))))))))))))) ?_
 exact hw
theorem W_d1 {n a i : Nat} {l : Liz} {hout : Lrz} {res : PV} (hn : n < 1000000) (ha : a < n) : ∀ j, j < n → Wt Try.f96 [0] hout res (Aa Try.f96 1) (qT n a i (dnL (geP l a) l i j) l) → Wt Try.f96 [0] hout res (Aa Try.f96 1) (qT n a i j l)
 | 0, hj, hw => by
  rw [Hf] at hw
  exact hw
 | j + 1, hj, hw => by
  by_cases h : i ≤ j + 1 ∧ ¬ l.getD (j + 1) 0 < l.getD a 0
  ·rw [Ch, if_pos ⟨h.1, decide_eq_true h.2⟩] at hw
   exact W_d1S hn ha hj h.1 h.2 (W_d1 hn ha j (by omega) hw)
  ·rw [Ch, if_neg (fun x => h ⟨x.1, of_decide_eq_true x.2⟩)] at hw
   exact hw
theorem W_d4S {n a i j : Nat} {l : Liz} {hout : Lrz} {res : PV} (hn : n < 1000000) (ha : a < n) (hj : j + 1 < n) (h1 : i ≤ j + 1) (h2 : ¬ l.getD (j + 1) 0 < l.getD a 0) (hw : Wt Try.f96 [0] hout res (Aa Try.f96 4) (qT n a i j l)) : Wt Try.f96 [0] hout res (Aa Try.f96 4) (qT n a i (j + 1) l) := by
 refine W.sgA 4 [(2, aT), (6, aV (PV.at 0 [Stp.idx (j + 1) 1])), (10, aV (PV.at 0 [Stp.idx a 1])), (12, aK (PV.bool false)), (16, aV (I6 j))] [(0, 0)] (qT n a i j l) [decide ((i:Int) ≤ (↑(j + 1) : Int)) = true, PV.at 0 [Stp.idx (0 + Int.toNat (↑(j + 1) : Int)) 1] = PV.at 0 [Stp.idx (j + 1) 1], 0 ≤ (↑(j + 1) : Int), (↑(j + 1) : Int) < (n:Int), j + 1 < n, PV.at 0 [Stp.idx (0 + a) 1] = PV.at 0 [Stp.idx a 1], 0 ≤ (a:Int), (a:Int) < (n:Int), a < n, Pt 71 [] [U6 (List.getD l (j + 1) (0 : Int)), U6 (List.getD l a (0 : Int))] [] (PV.bool false), I6 (IntKind.wrap .i64 ((↑(j + 1) : Int) - 1)) = I6 j] (ac (dT (by omega)) (ac (by (rw [show Int.toNat (↑(j + 1) : Int) = j + 1 by omega]; simp only [Nat.zero_add])) (ob3 (by omega) (ac (by simp only [Nat.zero_add]) (ob3 (by omega) (ac (Bt _ _ (by first | omega | decide)) (ao (cg (Ab (by omega) (by omega) (by omega)))))))))) ?_
 exact hw
theorem W_d4R {n a i j : Nat} {l : Liz} (hn : n < 1000000) (ha : a < n) (hj : j < n) (h1 : j < i) : Wt Try.f96 [0] [(0, Ac n (swL l j a))] (.tup [.int .i64 j, .bool false]) (Aa Try.f96 4) (qT n a i j l) := by
 refine W.rtA [(2, aF), (17, aT), (24, aV (PV.at 0 [Stp.idx a 1])), (28, aV (PV.at 0 [Stp.idx j 1])), (30, aV (PV.at 0 [Stp.idx j 1])), (32, aV (PV.at 0 [Stp.idx a 1]))] [(0, 0)] [decide ((i:Int) ≤ (j:Int)) = false, decide ((i:Int) > (j:Int)) = true, PV.at 0 [Stp.idx (0 + a) 1] = PV.at 0 [Stp.idx a 1], 0 ≤ (a:Int), (a:Int) < (n:Int), a < n, PV.at 0 [Stp.idx (0 + j) 1] = PV.at 0 [Stp.idx j 1], 0 ≤ (j:Int), (j:Int) < (n:Int), j < n, PV.at 0 [Stp.idx (0 + j) 1] = PV.at 0 [Stp.idx j 1], 0 ≤ (j:Int), (j:Int) < (n:Int), j < n, PV.at 0 [Stp.idx (0 + a) 1] = PV.at 0 [Stp.idx a 1], 0 ≤ (a:Int), (a:Int) < (n:Int), a < n] (ac (dF (by omega)) (ac (dT (by omega)) (ac (by simp only [Nat.zero_add]) (ob3 (by omega) (ac (by simp only [Nat.zero_add]) (ob3 (by omega) (ac (by simp only [Nat.zero_add]) (ob3 (by omega) (ac (by simp only [Nat.zero_add]) (ob2 (by omega) (ao (by omega))))))))))))
theorem W_d4E {n a i j : Nat} {l : Liz} {hout : Lrz} {res : PV} (hn : n < 1000000) (ha : a < n) (hj : j + 1 < n) (h1 : i ≤ j + 1) (h2 : l.getD (j + 1) 0 < l.getD a 0) (hw : Wt Try.f96 [0] hout res (Aa Try.f96 2) (qT n a (i + 1) j (swL l i (j + 1)))) : Wt Try.f96 [0] hout res (Aa Try.f96 4) (qT n a i (j + 1) l) := by
 refine W.sgA 2 [(2, aT), (6, aV (PV.at 0 [Stp.idx (j + 1) 1])), (10, aV (PV.at 0 [Stp.idx a 1])), (12, aK (PV.bool true)), (17, aF), (24, aV (PV.at 0 [Stp.idx (j + 1) 1])), (28, aV (PV.at 0 [Stp.idx i 1])), (30, aV (PV.at 0 [Stp.idx i 1])), (32, aV (PV.at 0 [Stp.idx (j + 1) 1])), (35, aV (I6 ↑(i + 1))), (38, aV (I6 j))] [(0, 0)] (qT n a (i + 1) j (swL l i (j + 1))) [decide ((i:Int) ≤ (↑(j + 1) : Int)) = true, PV.at 0 [Stp.idx (0 + Int.toNat (↑(j + 1) : Int)) 1] = PV.at 0 [Stp.idx (j + 1) 1], 0 ≤ (↑(j + 1) : Int), (↑(j + 1) : Int) < (n:Int), j + 1 < n, PV.at 0 [Stp.idx (0 + a) 1] = PV.at 0 [Stp.idx a 1], 0 ≤ (a:Int), (a:Int) < (n:Int), a < n, Pt 71 [] [U6 (List.getD l (j + 1) (0 : Int)), U6 (List.getD l a (0 : Int))] [] (PV.bool true), decide ((i:Int) > (↑(j + 1) : Int)) = false, PV.at 0 [Stp.idx (0 + Int.toNat (↑(j + 1) : Int)) 1] = PV.at 0 [Stp.idx (j + 1) 1], 0 ≤ (↑(j + 1) : Int), (↑(j + 1) : Int) < (n:Int), j + 1 < n, PV.at 0 [Stp.idx (0 + i) 1] = PV.at 0 [Stp.idx i 1], 0 ≤ (i:Int), (i:Int) < (n:Int), i < n, PV.at 0 [Stp.idx (0 + i) 1] = PV.at 0 [Stp.idx i 1], 0 ≤ (i:Int), (i:Int) < (n:Int), i < n, PV.at 0 [Stp.idx (0 + Int.toNat (↑(j + 1) : Int)) 1] = PV.at 0 [Stp.idx (j + 1) 1], 0 ≤ (↑(j + 1) : Int), (↑(j + 1) : Int) < (n:Int), j + 1 < n, I6 (IntKind.wrap .i64 ((i:Int) + 1)) = I6 ↑(i + 1), I6 (IntKind.wrap .i64 ((↑(j + 1) : Int) - 1)) = I6 j] (ac (dT (by omega)) (ac (by (rw [show Int.toNat (↑(j + 1) : Int) = j + 1 by omega]; simp only [Nat.zero_add])) (ob3 (by omega) (ac (by simp only [Nat.zero_add]) (ob3 (by omega) (ac (AZ _ _ (by first | omega | decide)) (ac (dF (by omega)) (ac (by (rw [show Int.toNat (↑(j + 1) : Int) = j + 1 by omega]; simp only [Nat.zero_add])) (ob3 (by omega) (ac (by simp only [Nat.zero_add]) (ob3 (by omega) (ac (by simp only [Nat.zero_add]) (ob3 (by omega) (ac (by (rw [show Int.toNat (↑(j + 1) : Int) = j + 1 by omega]; simp only [Nat.zero_add])) (ob3 (by omega) (ac (wj (by omega)) (ao (cg (Ab (by omega) (by omega) (by omega)))))))))))))))))))) ?_
 exact hw
theorem W_d4 {n a i : Nat} {l : Liz} {hout : Lrz} {res : PV} (hn : n < 1000000) (ha : a < n) : ∀ j, j < n → Wt Try.f96 [0] hout res (Aa Try.f96 4) (qT n a i (dnL (geP l a) l i j) l) → Wt Try.f96 [0] hout res (Aa Try.f96 4) (qT n a i j l)
 | 0, hj, hw => by
  rw [Hf] at hw
  exact hw
 | j + 1, hj, hw => by
  by_cases h : i ≤ j + 1 ∧ ¬ l.getD (j + 1) 0 < l.getD a 0
  ·rw [Ch, if_pos ⟨h.1, decide_eq_true h.2⟩] at hw
   exact W_d4S hn ha hj h.1 h.2 (W_d4 hn ha j (by omega) hw)
  ·rw [Ch, if_neg (fun x => h ⟨x.1, of_decide_eq_true x.2⟩)] at hw
   exact hw
theorem W_p2 {n a i j : Nat} {l : Liz} {hout : Lrz} {res : PV} (hn : n < 1000000) (ha : a < n) (hw : Wt Try.f96 [0] hout res (Aa Try.f96 3) (qT n a i j l)) : Wt Try.f96 [0] hout res (Aa Try.f96 2) (qT n a i j l) := by
 refine W.sgA 3 [] [(0, 0)] (qT n a i j l) [] trivial ?_
 exact hw
theorem W_pl {n a : Nat} (hn : n < 1000000) (ha : a < n) : ∀ (k i j : Nat) (l : List Int), j + 1 - i ≤ k → 1 ≤ i → i ≤ j + 1 → j < n →
  Wt Try.f96 [0] [(0, Ac n (swL (plL a i j l).2 (plL a i j l).1 a))] (.tup [.int .i64 (plL a i j l).1, .bool false]) (Aa Try.f96 2) (qT n a i j l)
 | k, i, j, l, hk, h1, hij, hj => by
  have u1 := ES (ltP l a) l j i
  have u2 := GI (ltP l a) l j i hij
  have d1 := Fj (geP l a) l (upL (ltP l a) l j i) j
  have d2 := GV (geP l a) l (upL (ltP l a) l j i) j u2
  have d3 := D7 (geP l a) l (upL (ltP l a) l j i) (by omega) j
  rw [RU a i j l hij]
  refine W_p2 hn ha (W_u3 hn ha hj (W_d4 hn ha j hj ?_))
  by_cases h : dnL (geP l a) l (upL (ltP l a) l j i) j < upL (ltP l a) l j i
  ·rw [if_pos h]
   exact W_d4R hn ha (by omega) h
  ·rw [if_neg h]
   obtain ⟨q, hq⟩ : ∃ q, dnL (geP l a) l (upL (ltP l a) l j i) j = q + 1 := ⟨dnL (geP l a) l (upL (ltP l a) l j i) j - 1, by omega⟩
   have h3 : l.getD (q + 1) 0 < l.getD a 0 := by
    rw [hq] at d3
    have : ¬ geP l a (l.getD (q + 1) 0) = true := fun x => d3 ⟨by omega, x⟩
    unfold geP at this
    simpa using this
   have hne : upL (ltP l a) l j i ≠ q + 1 := fun e => by
    have u3 := DV (ltP l a) l j i
    rw [e] at u3
    exact u3 ⟨by omega, decide_eq_true h3⟩
   rw [hq] at h d1 d2 ⊢
   rw [Nat.add_sub_cancel]
   cases k with
   | zero => omega
   | succ k => exact W_d4E hn ha (by omega) (by omega) h3 (W_pl hn ha k _ _ _ (by omega) (by omega) (by omega) (by omega))
theorem pc_part {n a b pv : Nat} (hn : n < 1000000) (hab : a ≤ pv) (hpb : pv < b + 1) (hb : b < n) (hab2 : a + 1 ≤ b + 1) (l : List Int) : Pt 96 [(0, Ac n l)] [.ref 0 [] 1 0 n, .int .i64 a, .int .i64 ((b + 1 : Nat) : Int), .int .i64 pv] [(0, Ac n (ptL l a (b + 1) pv).2.2)] (.tup [.int .i64 (ptL l a (b + 1) pv).1, .bool (ptL l a (b + 1) pv).2.1]) := by
 refine pO Try.func96 (by kernel_rfl) ?_
 have key : Wt Try.f96 [0] [(0, Ac n (ptL l a (b + 1) pv).2.2)] (.tup [.int .i64 (ptL l a (b + 1) pv).1, .bool (ptL l a (b + 1) pv).2.1]) (Aa Try.f96 0) (qT n a (a + 1) b (swL l a pv)) := by
  generalize hm : swL l a pv = m
  have ha : a < n := by omega
  have u1 := ES (ltP m a) m b (a + 1)
  have u2 := GI (ltP m a) m b (a + 1) (by omega)
  have d1 := Fj (geP m a) m (upL (ltP m a) m b (a + 1)) b
  have d2 := GV (geP m a) m (upL (ltP m a) m b (a + 1)) b u2
  have d3 := D7 (geP m a) m (upL (ltP m a) m b (a + 1)) (by omega) b
  rw [RB l m a (b + 1) pv _ _ hm.symm rfl rfl, Nat.add_sub_cancel]
  refine W_u0 hn ha hb (W_d1 hn ha b hb ?_)
  by_cases h : dnL (geP m a) m (upL (ltP m a) m b (a + 1)) b < upL (ltP m a) m b (a + 1)
  ·rw [if_pos h]
   exact W_d1R hn ha (by omega) h
  ·rw [if_neg h]
   obtain ⟨q, hq⟩ : ∃ q, dnL (geP m a) m (upL (ltP m a) m b (a + 1)) b = q + 1 := ⟨dnL (geP m a) m (upL (ltP m a) m b (a + 1)) b - 1, by omega⟩
   have h3 : m.getD (q + 1) 0 < m.getD a 0 := by
    rw [hq] at d3
    have : ¬ geP m a (m.getD (q + 1) 0) = true := fun x => d3 ⟨by omega, x⟩
    unfold geP at this
    simpa using this
   have hne : upL (ltP m a) m b (a + 1) ≠ q + 1 := fun e => by
    have u3 := DV (ltP m a) m b (a + 1)
    rw [e] at u3
    exact u3 ⟨by omega, decide_eq_true h3⟩
   rw [hq] at h d1 d2 ⊢
   rw [Nat.add_sub_cancel]
   exact W_d1E hn ha (by omega) (by omega) h3 (W_pl hn ha _ _ _ _ (Nat.le_refl _) (by omega) (by omega) (by omega))
 generalize ptL l a (b + 1) pv = r at *
 refine W.sgA 0 [(8, aV (PV.at 0 [Stp.idx pv 1])), (12, aV (PV.at 0 [Stp.idx a 1])), (14, aV (PV.at 0 [Stp.idx a 1])), (16, aV (PV.at 0 [Stp.idx pv 1])), (19, aV (I6 ↑(a + 1))), (21, aV (I6 b))] [(0, 0)] (qT n a (a + 1) b (swL l a pv)) [PV.at 0 [Stp.idx (0 + pv) 1] = PV.at 0 [Stp.idx pv 1], 0 ≤ (pv:Int), (pv:Int) < (n:Int), pv < n, PV.at 0 [Stp.idx (0 + a) 1] = PV.at 0 [Stp.idx a 1], 0 ≤ (a:Int), (a:Int) < (n:Int), a < n, PV.at 0 [Stp.idx (0 + a) 1] = PV.at 0 [Stp.idx a 1], 0 ≤ (a:Int), (a:Int) < (n:Int), a < n, PV.at 0 [Stp.idx (0 + pv) 1] = PV.at 0 [Stp.idx pv 1], 0 ≤ (pv:Int), (pv:Int) < (n:Int), pv < n, I6 (IntKind.wrap .i64 ((a:Int) + 1)) = I6 ↑(a + 1), I6 (IntKind.wrap .i64 ((↑(b + 1) : Int) - 1)) = I6 b] (ac (by simp only [Nat.zero_add]) (ob3 (by omega) (ac (by simp only [Nat.zero_add]) (ob3 (by omega) (ac (by simp only [Nat.zero_add]) (ob3 (by omega) (ac (by simp only [Nat.zero_add]) (ob3 (by omega) (ac (wj (by omega)) (ao (cg (Ab (by omega) (by omega) (by omega))))))))))))) ?_
 exact key
def qU (n a i j : Nat) (l : List Int) : DS := ⟨[(0, .ref 0 [] 1 0 n), (1, .int .i64 a), (9, .int .i64 i), (10, .int .i64 j)], [(0, Ac n l)]⟩
theorem W_e0 {n a i j : Nat} {l : Liz} {hout : Lrz} {res : PV} (hn : n < 1000000) (ha : a < n) (hw : Wt Try.f95 [0] hout res (Aa Try.f95 1) (qU n a i j l)) : Wt Try.f95 [0] hout res (Aa Try.f95 0) (qU n a i j l) := by
 refine W.sgA 1 [] [(0, 0)] (qU n a i j l) [] trivial ?_
 exact hw
theorem W_e1S {n a i j : Nat} {l : Liz} {hout : Lrz} {res : PV} (hn : n < 1000000) (ha : a < n) (hj : j < n) (h1 : i ≤ j) (h2 : ¬ l.getD a 0 < l.getD i 0) (hw : Wt Try.f95 [0] hout res (Aa Try.f95 1) (qU n a (i + 1) j l)) : Wt Try.f95 [0] hout res (Aa Try.f95 1) (qU n a i j l) := by
 refine W.sgA 1 [(2, aT), (6, aV (PV.at 0 [Stp.idx a 1])), (10, aV (PV.at 0 [Stp.idx i 1])), (12, aK (PV.bool false)), (16, aV (I6 ↑(i + 1)))] [(0, 0)] (qU n a (i + 1) j l) [decide ((i:Int) ≤ (j:Int)) = true, PV.at 0 [Stp.idx (0 + a) 1] = PV.at 0 [Stp.idx a 1], 0 ≤ (a:Int), (a:Int) < (n:Int), a < n, PV.at 0 [Stp.idx (0 + i) 1] = PV.at 0 [Stp.idx i 1], 0 ≤ (i:Int), (i:Int) < (n:Int), i < n, Pt 71 [] [U6 (List.getD l a (0 : Int)), U6 (List.getD l i (0 : Int))] [] (PV.bool false), I6 (IntKind.wrap .i64 ((i:Int) + 1)) = I6 ↑(i + 1)] (ac (dT (by omega)) (ac (by simp only [Nat.zero_add]) (ob3 (by omega) (ac (by simp only [Nat.zero_add]) (ob3 (by omega) (ac (Bt _ _ (by first | omega | decide)) (ao (wj (by omega))))))))) ?_
 exact hw
theorem W_e1E {n a i j : Nat} {l : Liz} {hout : Lrz} {res : PV} (hn : n < 1000000) (ha : a < n) (hj : j < n) (h1 : ¬ (i ≤ j ∧ ¬ l.getD a 0 < l.getD i 0)) (hw : Wt Try.f95 [0] hout res (Aa Try.f95 2) (qU n a i j l)) : Wt Try.f95 [0] hout res (Aa Try.f95 1) (qU n a i j l) := by
 by_cases g : i ≤ j
 ·have g2 : l.getD a 0 < l.getD i 0 := Classical.byContradiction fun x => h1 ⟨g, x⟩
  refine W.sgA 2 [(2, aT), (6, aV (PV.at 0 [Stp.idx a 1])), (10, aV (PV.at 0 [Stp.idx i 1])), (12, aK (PV.bool true))] [(0, 0)] (qU n a i j l) [decide ((i:Int) ≤ (j:Int)) = true, PV.at 0 [Stp.idx (0 + a) 1] = PV.at 0 [Stp.idx a 1], 0 ≤ (a:Int), (a:Int) < (n:Int), a < n, PV.at 0 [Stp.idx (0 + i) 1] = PV.at 0 [Stp.idx i 1], 0 ≤ (i:Int), (i:Int) < (n:Int), i < n, Pt 71 [] [U6 (List.getD l a (0 : Int)), U6 (List.getD l i (0 : Int))] [] (PV.bool true)] (ac (dT (by omega)) (ac (by simp only [Nat.zero_add]) (ob3 (by omega) (ac (by simp only [Nat.zero_add]) (ob3 (by omega) (ao (AZ _ _ (by first | omega | decide)))))))) ?_
  exact hw
 ·refine W.sg 2 [(2, aF)] [(0, 0)] (qU n a i j l) [decide ((i:Int) ≤ (j:Int)) = false] (by kernel_rfl) (ao (dF (by omega))) ?_
  exact hw
theorem W_e1 {n a i j : Nat} {l : Liz} {hout : Lrz} {res : PV} (hn : n < 1000000) (ha : a < n) (hj : j < n) (hw : Wt Try.f95 [0] hout res (Aa Try.f95 2) (qU n a (upL (leP l a) l j i) j l)) : Wt Try.f95 [0] hout res (Aa Try.f95 1) (qU n a i j l) := by
 by_cases h : i ≤ j ∧ ¬ l.getD a 0 < l.getD i 0
 ·rw [Em, if_pos ⟨h.1, decide_eq_true h.2⟩] at hw
  exact W_e1S hn ha hj h.1 h.2 (W_e1 hn ha hj hw)
 ·rw [Em, if_neg (fun x => h ⟨x.1, of_decide_eq_true x.2⟩)] at hw
  exact W_e1E hn ha hj h hw
termination_by j + 1 - i
theorem W_e2S {n a i j : Nat} {l : Liz} {hout : Lrz} {res : PV} (hn : n < 1000000) (ha : a < n) (hj : j + 1 < n) (h1 : i ≤ j + 1) (h2 : l.getD a 0 < l.getD (j + 1) 0) (hw : Wt Try.f95 [0] hout res (Aa Try.f95 2) (qU n a i j l)) : Wt Try.f95 [0] hout res (Aa Try.f95 2) (qU n a i (j + 1) l) := by
 refine W.sgA 2 [(2, aT), (6, aV (PV.at 0 [Stp.idx a 1])), (10, aV (PV.at 0 [Stp.idx (j + 1) 1])), (12, aK (PV.bool true)), (15, aV (I6 j))] [(0, 0)] (qU n a i j l) [decide ((i:Int) ≤ (↑(j + 1) : Int)) = true, PV.at 0 [Stp.idx (0 + a) 1] = PV.at 0 [Stp.idx a 1], 0 ≤ (a:Int), (a:Int) < (n:Int), a < n, PV.at 0 [Stp.idx (0 + Int.toNat (↑(j + 1) : Int)) 1] = PV.at 0 [Stp.idx (j + 1) 1], 0 ≤ (↑(j + 1) : Int), (↑(j + 1) : Int) < (n:Int), j + 1 < n, Pt 71 [] [U6 (List.getD l a (0 : Int)), U6 (List.getD l (j + 1) (0 : Int))] [] (PV.bool true), I6 (IntKind.wrap .i64 ((↑(j + 1) : Int) - 1)) = I6 j] (ac (dT (by omega)) (ac (by simp only [Nat.zero_add]) (ob3 (by omega) (ac (by (rw [show Int.toNat (↑(j + 1) : Int) = j + 1 by omega]; simp only [Nat.zero_add])) (ob3 (by omega) (ac (AZ _ _ (by first | omega | decide)) (ao (cg (Ab (by omega) (by omega) (by omega)))))))))) ?_
 exact hw
theorem W_e2R {n a i j : Nat} {l : Liz} (hn : n < 1000000) (ha : a < n) (hj : j < n) (h1 : j < i) : Wt Try.f95 [0] [(0, Ac n l)] (.int .i64 i) (Aa Try.f95 2) (qU n a i j l) := by
 refine W.rtA [(2, aF), (16, aT)] [(0, 0)] [decide ((i:Int) ≤ (j:Int)) = false, decide ((i:Int) > (j:Int)) = true] (ac (dF (by omega)) (ao (dT (by omega))))
theorem W_e2E {n a i j : Nat} {l : Liz} {hout : Lrz} {res : PV} (hn : n < 1000000) (ha : a < n) (hj : j + 1 < n) (h1 : i ≤ j + 1) (h2 : ¬ l.getD a 0 < l.getD (j + 1) 0) (hw : Wt Try.f95 [0] hout res (Aa Try.f95 0) (qU n a (i + 1) j (swL l i (j + 1)))) : Wt Try.f95 [0] hout res (Aa Try.f95 2) (qU n a i (j + 1) l) := by
 refine W.sgA 0 [(2, aT), (6, aV (PV.at 0 [Stp.idx a 1])), (10, aV (PV.at 0 [Stp.idx (j + 1) 1])), (12, aK (PV.bool false)), (16, aF), (23, aV (PV.at 0 [Stp.idx (j + 1) 1])), (27, aV (PV.at 0 [Stp.idx i 1])), (29, aV (PV.at 0 [Stp.idx i 1])), (31, aV (PV.at 0 [Stp.idx (j + 1) 1])), (34, aV (I6 ↑(i + 1))), (37, aV (I6 j))] [(0, 0)] (qU n a (i + 1) j (swL l i (j + 1))) [decide ((i:Int) ≤ (↑(j + 1) : Int)) = true, PV.at 0 [Stp.idx (0 + a) 1] = PV.at 0 [Stp.idx a 1], 0 ≤ (a:Int), (a:Int) < (n:Int), a < n, PV.at 0 [Stp.idx (0 + Int.toNat (↑(j + 1) : Int)) 1] = PV.at 0 [Stp.idx (j + 1) 1], 0 ≤ (↑(j + 1) : Int), (↑(j + 1) : Int) < (n:Int), j + 1 < n, Pt 71 [] [U6 (List.getD l a (0 : Int)), U6 (List.getD l (j + 1) (0 : Int))] [] (PV.bool false), decide ((i:Int) > (↑(j + 1) : Int)) = false, PV.at 0 [Stp.idx (0 + Int.toNat (↑(j + 1) : Int)) 1] = PV.at 0 [Stp.idx (j + 1) 1], 0 ≤ (↑(j + 1) : Int), (↑(j + 1) : Int) < (n:Int), j + 1 < n, PV.at 0 [Stp.idx (0 + i) 1] = PV.at 0 [Stp.idx i 1], 0 ≤ (i:Int), (i:Int) < (n:Int), i < n, PV.at 0 [Stp.idx (0 + i) 1] = PV.at 0 [Stp.idx i 1], 0 ≤ (i:Int), (i:Int) < (n:Int), i < n, PV.at 0 [Stp.idx (0 + Int.toNat (↑(j + 1) : Int)) 1] = PV.at 0 [Stp.idx (j + 1) 1], 0 ≤ (↑(j + 1) : Int), (↑(j + 1) : Int) < (n:Int), j + 1 < n, I6 (IntKind.wrap .i64 ((i:Int) + 1)) = I6 ↑(i + 1), I6 (IntKind.wrap .i64 ((↑(j + 1) : Int) - 1)) = I6 j] (ac (dT (by omega)) (ac (by simp only [Nat.zero_add]) (ob3 (by omega) (ac (by (rw [show Int.toNat (↑(j + 1) : Int) = j + 1 by omega]; simp only [Nat.zero_add])) (ob3 (by omega) (ac (Bt _ _ (by first | omega | decide)) (ac (dF (by omega)) (ac (by (rw [show Int.toNat (↑(j + 1) : Int) = j + 1 by omega]; simp only [Nat.zero_add])) (ob3 (by omega) (ac (by simp only [Nat.zero_add]) (ob3 (by omega) (ac (by simp only [Nat.zero_add]) (ob3 (by omega) (ac (by (rw [show Int.toNat (↑(j + 1) : Int) = j + 1 by omega]; simp only [Nat.zero_add])) (ob3 (by omega) (ac (wj (by omega)) (ao (cg (Ab (by omega) (by omega) (by omega)))))))))))))))))))) ?_
 exact hw
theorem W_e2 {n a i : Nat} {l : Liz} {hout : Lrz} {res : PV} (hn : n < 1000000) (ha : a < n) : ∀ j, j < n → Wt Try.f95 [0] hout res (Aa Try.f95 2) (qU n a i (dnL (gtP l a) l i j) l) → Wt Try.f95 [0] hout res (Aa Try.f95 2) (qU n a i j l)
 | 0, hj, hw => by
  rw [Hf] at hw
  exact hw
 | j + 1, hj, hw => by
  by_cases h : i ≤ j + 1 ∧ l.getD a 0 < l.getD (j + 1) 0
  ·rw [Ch, if_pos ⟨h.1, decide_eq_true h.2⟩] at hw
   exact W_e2S hn ha hj h.1 h.2 (W_e2 hn ha j (by omega) hw)
  ·rw [Ch, if_neg (fun x => h ⟨x.1, of_decide_eq_true x.2⟩)] at hw
   exact hw
theorem W_pe {n a : Nat} (hn : n < 1000000) (ha : a < n) : ∀ (k i j : Nat) (l : List Int), j + 1 - i ≤ k → 1 ≤ i → i ≤ j + 1 → j < n →
  Wt Try.f95 [0] [(0, Ac n (peL a i j l).2)] (.int .i64 (peL a i j l).1) (Aa Try.f95 0) (qU n a i j l)
 | k, i, j, l, hk, h1, hij, hj => by
  have u1 := ES (leP l a) l j i
  have u2 := GI (leP l a) l j i hij
  have d1 := Fj (gtP l a) l (upL (leP l a) l j i) j
  have d2 := GV (gtP l a) l (upL (leP l a) l j i) j u2
  have d3 := D7 (gtP l a) l (upL (leP l a) l j i) (by omega) j
  rw [R4 a i j l hij]
  refine W_e0 hn ha (W_e1 hn ha hj (W_e2 hn ha j hj ?_))
  by_cases h : dnL (gtP l a) l (upL (leP l a) l j i) j < upL (leP l a) l j i
  ·rw [if_pos h]
   exact W_e2R hn ha (by omega) h
  ·rw [if_neg h]
   obtain ⟨q, hq⟩ : ∃ q, dnL (gtP l a) l (upL (leP l a) l j i) j = q + 1 := ⟨dnL (gtP l a) l (upL (leP l a) l j i) j - 1, by omega⟩
   have h3 : ¬ l.getD a 0 < l.getD (q + 1) 0 := by
    rw [hq] at d3
    have : ¬ gtP l a (l.getD (q + 1) 0) = true := fun x => d3 ⟨by omega, x⟩
    unfold gtP at this
    simpa using this
   have hne : upL (leP l a) l j i ≠ q + 1 := fun e => by
    have u3 := DV (leP l a) l j i
    rw [e] at u3
    exact u3 ⟨by omega, decide_eq_true h3⟩
   rw [hq] at h d1 d2 ⊢
   rw [Nat.add_sub_cancel]
   cases k with
   | zero => omega
   | succ k => exact W_e2E hn ha (by omega) (by omega) h3 (W_pe hn ha k _ _ _ (by omega) (by omega) (by omega) (by omega))
theorem Q5 {n a b pv : Nat} (hn : n < 1000000) (hab : a ≤ pv) (hpb : pv < b + 1) (hb : b < n) (hab2 : a + 1 ≤ b + 1) (l : List Int) : Pt 95 [(0, Ac n l)] [.ref 0 [] 1 0 n, .int .i64 a, .int .i64 ((b + 1 : Nat) : Int), .int .i64 pv] [(0, Ac n (pqL l a (b + 1) pv).2)] (.int .i64 (pqL l a (b + 1) pv).1) := by
 refine pO Try.func95 (by kernel_rfl) ?_
 have key := W_pe hn (show a < n by omega) _ (a + 1) b (swL l a pv) (Nat.le_refl _) (by omega) (by omega) hb
 unfold pqL
 rw [Nat.add_sub_cancel]
 generalize peL a (a + 1) b (swL l a pv) = r at *
 refine W.sgA 0 [(7, aV (PV.at 0 [Stp.idx pv 1])), (11, aV (PV.at 0 [Stp.idx a 1])), (13, aV (PV.at 0 [Stp.idx a 1])), (15, aV (PV.at 0 [Stp.idx pv 1])), (18, aV (I6 ↑(a + 1))), (20, aV (I6 b))] [(0, 0)] (qU n a (a + 1) b (swL l a pv)) [PV.at 0 [Stp.idx (0 + pv) 1] = PV.at 0 [Stp.idx pv 1], 0 ≤ (pv:Int), (pv:Int) < (n:Int), pv < n, PV.at 0 [Stp.idx (0 + a) 1] = PV.at 0 [Stp.idx a 1], 0 ≤ (a:Int), (a:Int) < (n:Int), a < n, PV.at 0 [Stp.idx (0 + a) 1] = PV.at 0 [Stp.idx a 1], 0 ≤ (a:Int), (a:Int) < (n:Int), a < n, PV.at 0 [Stp.idx (0 + pv) 1] = PV.at 0 [Stp.idx pv 1], 0 ≤ (pv:Int), (pv:Int) < (n:Int), pv < n, I6 (IntKind.wrap .i64 ((a:Int) + 1)) = I6 ↑(a + 1), I6 (IntKind.wrap .i64 ((↑(b + 1) : Int) - 1)) = I6 b] (ac (by simp only [Nat.zero_add]) (ob3 (by omega) (ac (by simp only [Nat.zero_add]) (ob3 (by omega) (ac (by simp only [Nat.zero_add]) (ob3 (by omega) (ac (by simp only [Nat.zero_add]) (ob3 (by omega) (ac (wj (by omega)) (ao (cg (Ab (by omega) (by omega) (by omega))))))))))))) ?_
 exact key
end Go.Proofs
namespace Go.Proofs
open Go Go.Pe Go.Pm
set_option maxRecDepth 100000
set_option linter.unusedVariables false
def Da (s : Nat) : Row := ⟨.int .i64 s, false⟩
theorem pc_o2 {n a b s : Nat} (hn : n < 1000000) (ha : a < n) (hb : b < n) (hs : s < 1000) (l : List Int) : Pt 106 [(0, Ac n l), (1, Da s)] [.ref 0 [] 1 0 n, .int .i64 a, .int .i64 b, .at 1 []] [(0, Ac n l), (1, Da (o2L l a b s).2.2)] (.tup [.int .i64 (o2L l a b s).1, .int .i64 (o2L l a b s).2.1]) := by
 refine pO Try.func106 (by kernel_rfl) ?_
 rw [O7]
 by_cases h : l.getD b 0 < l.getD a 0
 ·rw [if_pos h]
  refine W.rtA [(4, aV (PV.at 0 [Stp.idx b 1])), (8, aV (PV.at 0 [Stp.idx a 1])), (10, aK (PV.bool true)), (14, aV (I6 ↑(s + 1)))] [(0, 0), (1, 1)] [PV.at 0 [Stp.idx (0 + b) 1] = PV.at 0 [Stp.idx b 1], 0 ≤ (b:Int), (b:Int) < (n:Int), b < n, PV.at 0 [Stp.idx (0 + a) 1] = PV.at 0 [Stp.idx a 1], 0 ≤ (a:Int), (a:Int) < (n:Int), a < n, Pt 71 [] [U6 (List.getD l b (0 : Int)), U6 (List.getD l a (0 : Int))] [] (PV.bool true), I6 (IntKind.wrap .i64 ((s:Int) + 1)) = I6 ↑(s + 1)] (ac (by simp only [Nat.zero_add]) (ob3 (by omega) (ac (by simp only [Nat.zero_add]) (ob3 (by omega) (ac (AZ _ _ (by first | omega | decide)) (ao (wj (by omega))))))))
 ·rw [if_neg h]
  refine W.rtA [(4, aV (PV.at 0 [Stp.idx b 1])), (8, aV (PV.at 0 [Stp.idx a 1])), (10, aK (PV.bool false))] [(0, 0), (1, 1)] [PV.at 0 [Stp.idx (0 + b) 1] = PV.at 0 [Stp.idx b 1], 0 ≤ (b:Int), (b:Int) < (n:Int), b < n, PV.at 0 [Stp.idx (0 + a) 1] = PV.at 0 [Stp.idx a 1], 0 ≤ (a:Int), (a:Int) < (n:Int), a < n, Pt 71 [] [U6 (List.getD l b (0 : Int)), U6 (List.getD l a (0 : Int))] [] (PV.bool false)] (ac (by simp only [Nat.zero_add]) (ob3 (by omega) (ac (by simp only [Nat.zero_add]) (ob3 (by omega) (ao (Bt _ _ (by first | omega | decide)))))))
theorem J2 {l : List Int} {n a b s : Nat} (ha : a < n) (hb : b < n) : (o2L l a b s).1 < n ∧ (o2L l a b s).2.1 < n ∧ (o2L l a b s).2.2 ≤ s + 1 := by
 rw [O7]
 split
 ·exact ⟨hb, ha, Nat.le_refl _⟩
 ·exact ⟨ha, hb, by dsimp only; omega⟩
theorem PE {l : List Int} {n a b c s : Nat} (ha : a < n) (hb : b < n) (hc : c < n) : (mdL l a b c s).1 < n ∧ (mdL l a b c s).2 ≤ s + 3 := by
 rw [PH]
 have h1 := J2 (l := l) (s := s) ha hb
 have h2 := J2 (l := l) (s := (o2L l a b s).2.2) h1.2.1 hc
 have h3 := J2 (l := l) (s := (o2L l (o2L l a b s).2.1 c (o2L l a b s).2.2).2.2) h1.1 h2.1
 exact ⟨h3.2.1, by dsimp only; omega⟩
theorem pc_md {n a b c s : Nat} (hn : n < 1000000) (ha : a < n) (hb : b < n) (hc : c < n) (hs : s < 900) (l : List Int) : Pt 104 [(0, Ac n l), (1, Da s)] [.ref 0 [] 1 0 n, .int .i64 a, .int .i64 b, .int .i64 c, .at 1 []] [(0, Ac n l), (1, Da (mdL l a b c s).2)] (.int .i64 (mdL l a b c s).1) := by
 refine pO Try.func104 (by kernel_rfl) ?_
 rw [PH]
 have h1 := J2 (l := l) (s := s) ha hb
 have c1 := pc_o2 hn ha hb (show s < 1000 by omega) l
 have h2 := J2 (l := l) (s := (o2L l a b s).2.2) h1.2.1 hc
 have c2 := pc_o2 hn h1.2.1 hc (show (o2L l a b s).2.2 < 1000 by omega) l
 have c3 := pc_o2 hn h1.1 h2.1 (show (o2L l (o2L l a b s).2.1 c (o2L l a b s).2.2).2.2 < 1000 by omega) l
 generalize o2L l a b s = r1 at *
 generalize o2L l r1.2.1 c r1.2.2 = r2 at *
 generalize o2L l r1.1 r2.1 r2.2.2 = r3 at *
 refine W.rtA [(5, cC true [(0, 0), (1, 1)] c1), (15, cC true [(0, 0), (1, 1)] c2), (25, cC true [(0, 0), (1, 1)] c3)] [(0, 0), (1, 1)] [_, _, _] (ac (c1) (ac (c2) (ao (c3))))
theorem Po {n a s : Nat} (hn : n < 1000000) (ha : a + 2 < n) (hs : s < 900) (l : List Int) : Pt 103 [(0, Ac n l), (1, Da s)] [.ref 0 [] 1 0 n, .int .i64 ((a + 1 : Nat) : Int), .at 1 []] [(0, Ac n l), (1, Da (mdL l a (a + 1) (a + 2) s).2)] (.int .i64 (mdL l a (a + 1) (a + 2) s).1) := by
 refine pO Try.func103 (by kernel_rfl) ?_
 have c1 := pc_md hn (show a < n by omega) (show a + 1 < n by omega) ha hs l
 generalize mdL l a (a + 1) (a + 2) s = r at *
 refine W.rtA [(3, aV (I6 a)), (6, aV (I6 ↑(a + 2))), (8, cC true [(0, 0), (1, 1)] c1)] [(0, 0), (1, 1)] [I6 (IntKind.wrap .i64 ((↑(a + 1) : Int) - 1)) = I6 a, I6 (IntKind.wrap .i64 ((↑(a + 1) : Int) + 1)) = I6 ↑(a + 2), _] (ac (cg (Ab (by omega) (by omega) (by omega))) (ac (wj (by omega)) (ao (c1))))
theorem pc_cpA {n a b q p s : Nat} {l : Liz} (hn : n < 1000000) (hb : b ≤ n) (hab : a + 12 < b) (hl : b < a + 50) (hq : ((b : Int) - a).tdiv 4 = (q : Int)) (hq2 : 4 * q ≤ b - a)
  (c1 : Pt 104 [(0, Ac n l), (1, Da 0)] [.ref 0 [] 1 0 n, .int .i64 ((a + q : Nat) : Int), .int .i64 ((a + 2 * q : Nat) : Int), .int .i64 ((a + 3 * q : Nat) : Int), .at 1 []] [(0, Ac n l), (1, Da s)] (.int .i64 p)) :
  Pt 92 [(0, Ac n l)] [.ref 0 [] 1 0 n, .int .i64 a, .int .i64 b] [(0, Ac n l)] (.tup [.int .i64 p, .int .i64 (if s = 0 then 1 else if s = 12 then 2 else 0)]) := by
 refine pO Try.func92 (by kernel_rfl) ?_
 by_cases h0 : s = 0
 ·rw [if_pos h0]
  subst h0
  refine W.rtA [(4, aV (I6 ((b:Int) - (a:Int)))), (9, aV (I6 q)), (10, aV (I6 q)), (11, aV (I6 ↑(a + q))), (15, aV (I6 q)), (16, aV (I6 ↑(2 * q))), (17, aV (I6 ↑(a + 2 * q))), (21, aV (I6 q)), (22, aV (I6 ↑(3 * q))), (23, aV (I6 ↑(a + 3 * q))), (26, aT), (28, aF), (33, cC true [(0, 0), (160, 1)] c1), (35, aV (I6 0))] [(0, 0)] [I6 (IntKind.wrap .i64 ((b:Int) - (a:Int))) = I6 ((b:Int) - (a:Int)), I6 (IntKind.wrap .i64 (Int.tdiv ((b:Int) - (a:Int)) (4 : Int))) = I6 q, (4 : Int) ≠ 0, I6 (IntKind.wrap .i64 ((q:Int) * (1 : Int))) = I6 q, I6 (IntKind.wrap .i64 ((a:Int) + (q:Int))) = I6 ↑(a + q), I6 (IntKind.wrap .i64 (Int.tdiv ((b:Int) - (a:Int)) (4 : Int))) = I6 q, (4 : Int) ≠ 0, I6 (IntKind.wrap .i64 ((q:Int) * (2 : Int))) = I6 ↑(2 * q), I6 (IntKind.wrap .i64 ((a:Int) + (↑(2 * q) : Int))) = I6 ↑(a + 2 * q), I6 (IntKind.wrap .i64 (Int.tdiv ((b:Int) - (a:Int)) (4 : Int))) = I6 q, (4 : Int) ≠ 0, I6 (IntKind.wrap .i64 ((q:Int) * (3 : Int))) = I6 ↑(3 * q), I6 (IntKind.wrap .i64 ((a:Int) + (↑(3 * q) : Int))) = I6 ↑(a + 3 * q), decide ((b:Int) - (a:Int) ≥ 8) = true, decide ((b:Int) - (a:Int) ≥ 50) = false, _, I6 ↑(0 : Nat) = I6 0] (ac (wj (by omega)) (ac (cg (Ab hq (by omega) (by omega))) (ac (by omega) (ac (cg (Ab (by omega) (by omega) (by omega))) (ac (wj (by omega)) (ac (cg (Ab hq (by omega) (by omega))) (ac (by omega) (ac (cg (Ab (by omega) (by omega) (by omega))) (ac (wj (by omega)) (ac (cg (Ab hq (by omega) (by omega))) (ac (by omega) (ac (cg (Ab (by omega) (by omega) (by omega))) (ac (wj (by omega)) (ac (dT (by omega)) (ac (dF (by omega)) (ac (c1) (ao (cg (by omega)))))))))))))))))))
 ·rw [if_neg h0]
  by_cases h1 : s = 12
  ·rw [if_pos h1]
   refine W.rtA [(4, aV (I6 ((b:Int) - (a:Int)))), (9, aV (I6 q)), (10, aV (I6 q)), (11, aV (I6 ↑(a + q))), (15, aV (I6 q)), (16, aV (I6 ↑(2 * q))), (17, aV (I6 ↑(a + 2 * q))), (21, aV (I6 q)), (22, aV (I6 ↑(3 * q))), (23, aV (I6 ↑(a + 3 * q))), (26, aT), (28, aF), (33, cC true [(0, 0), (160, 1)] c1), (36, aF), (38, aT)] [(0, 0)] [I6 (IntKind.wrap .i64 ((b:Int) - (a:Int))) = I6 ((b:Int) - (a:Int)), I6 (IntKind.wrap .i64 (Int.tdiv ((b:Int) - (a:Int)) (4 : Int))) = I6 q, (4 : Int) ≠ 0, I6 (IntKind.wrap .i64 ((q:Int) * (1 : Int))) = I6 q, I6 (IntKind.wrap .i64 ((a:Int) + (q:Int))) = I6 ↑(a + q), I6 (IntKind.wrap .i64 (Int.tdiv ((b:Int) - (a:Int)) (4 : Int))) = I6 q, (4 : Int) ≠ 0, I6 (IntKind.wrap .i64 ((q:Int) * (2 : Int))) = I6 ↑(2 * q), I6 (IntKind.wrap .i64 ((a:Int) + (↑(2 * q) : Int))) = I6 ↑(a + 2 * q), I6 (IntKind.wrap .i64 (Int.tdiv ((b:Int) - (a:Int)) (4 : Int))) = I6 q, (4 : Int) ≠ 0, I6 (IntKind.wrap .i64 ((q:Int) * (3 : Int))) = I6 ↑(3 * q), I6 (IntKind.wrap .i64 ((a:Int) + (↑(3 * q) : Int))) = I6 ↑(a + 3 * q), decide ((b:Int) - (a:Int) ≥ 8) = true, decide ((b:Int) - (a:Int) ≥ 50) = false, _, ((s:Int) == 0) = false, ((s:Int) == 12) = true] (ac (wj (by omega)) (ac (cg (Ab hq (by omega) (by omega))) (ac (by omega) (ac (cg (Ab (by omega) (by omega) (by omega))) (ac (wj (by omega)) (ac (cg (Ab hq (by omega) (by omega))) (ac (by omega) (ac (cg (Ab (by omega) (by omega) (by omega))) (ac (wj (by omega)) (ac (cg (Ab hq (by omega) (by omega))) (ac (by omega) (ac (cg (Ab (by omega) (by omega) (by omega))) (ac (wj (by omega)) (ac (dT (by omega)) (ac (dF (by omega)) (ac (c1) (ac (dF (by omega)) (ao (dT (by omega))))))))))))))))))))
  ·rw [if_neg h1]
   refine W.rtA [(4, aV (I6 ((b:Int) - (a:Int)))), (9, aV (I6 q)), (10, aV (I6 q)), (11, aV (I6 ↑(a + q))), (15, aV (I6 q)), (16, aV (I6 ↑(2 * q))), (17, aV (I6 ↑(a + 2 * q))), (21, aV (I6 q)), (22, aV (I6 ↑(3 * q))), (23, aV (I6 ↑(a + 3 * q))), (26, aT), (28, aF), (33, cC true [(0, 0), (160, 1)] c1), (36, aF), (38, aF)] [(0, 0)] [I6 (IntKind.wrap .i64 ((b:Int) - (a:Int))) = I6 ((b:Int) - (a:Int)), I6 (IntKind.wrap .i64 (Int.tdiv ((b:Int) - (a:Int)) (4 : Int))) = I6 q, (4 : Int) ≠ 0, I6 (IntKind.wrap .i64 ((q:Int) * (1 : Int))) = I6 q, I6 (IntKind.wrap .i64 ((a:Int) + (q:Int))) = I6 ↑(a + q), I6 (IntKind.wrap .i64 (Int.tdiv ((b:Int) - (a:Int)) (4 : Int))) = I6 q, (4 : Int) ≠ 0, I6 (IntKind.wrap .i64 ((q:Int) * (2 : Int))) = I6 ↑(2 * q), I6 (IntKind.wrap .i64 ((a:Int) + (↑(2 * q) : Int))) = I6 ↑(a + 2 * q), I6 (IntKind.wrap .i64 (Int.tdiv ((b:Int) - (a:Int)) (4 : Int))) = I6 q, (4 : Int) ≠ 0, I6 (IntKind.wrap .i64 ((q:Int) * (3 : Int))) = I6 ↑(3 * q), I6 (IntKind.wrap .i64 ((a:Int) + (↑(3 * q) : Int))) = I6 ↑(a + 3 * q), decide ((b:Int) - (a:Int) ≥ 8) = true, decide ((b:Int) - (a:Int) ≥ 50) = false, _, ((s:Int) == 0) = false, ((s:Int) == 12) = false] (ac (wj (by omega)) (ac (cg (Ab hq (by omega) (by omega))) (ac (by omega) (ac (cg (Ab (by omega) (by omega) (by omega))) (ac (wj (by omega)) (ac (cg (Ab hq (by omega) (by omega))) (ac (by omega) (ac (cg (Ab (by omega) (by omega) (by omega))) (ac (wj (by omega)) (ac (cg (Ab hq (by omega) (by omega))) (ac (by omega) (ac (cg (Ab (by omega) (by omega) (by omega))) (ac (wj (by omega)) (ac (dT (by omega)) (ac (dF (by omega)) (ac (c1) (ac (dF (by omega)) (ao (dF (by omega))))))))))))))))))))
theorem pc_cpB {n a b q p1 p2 p3 s1 s2 s3 p s : Nat} {l : Liz} (hn : n < 1000000) (hb : b ≤ n) (hl : a + 50 ≤ b) (hq : ((b : Int) - a).tdiv 4 = (q : Int)) (hq2 : 4 * q ≤ b - a)
  (c1 : Pt 103 [(0, Ac n l), (1, Da 0)] [.ref 0 [] 1 0 n, .int .i64 ((a + q : Nat) : Int), .at 1 []] [(0, Ac n l), (1, Da s1)] (.int .i64 p1))
  (c2 : Pt 103 [(0, Ac n l), (1, Da s1)] [.ref 0 [] 1 0 n, .int .i64 ((a + 2 * q : Nat) : Int), .at 1 []] [(0, Ac n l), (1, Da s2)] (.int .i64 p2))
  (c3 : Pt 103 [(0, Ac n l), (1, Da s2)] [.ref 0 [] 1 0 n, .int .i64 ((a + 3 * q : Nat) : Int), .at 1 []] [(0, Ac n l), (1, Da s3)] (.int .i64 p3))
  (c4 : Pt 104 [(0, Ac n l), (1, Da s3)] [.ref 0 [] 1 0 n, .int .i64 p1, .int .i64 p2, .int .i64 p3, .at 1 []] [(0, Ac n l), (1, Da s)] (.int .i64 p)) :
  Pt 92 [(0, Ac n l)] [.ref 0 [] 1 0 n, .int .i64 a, .int .i64 b] [(0, Ac n l)] (.tup [.int .i64 p, .int .i64 (if s = 0 then 1 else if s = 12 then 2 else 0)]) := by
 refine pO Try.func92 (by kernel_rfl) ?_
 by_cases h0 : s = 0
 ·rw [if_pos h0]
  subst h0
  refine W.rtA [(4, aV (I6 ((b:Int) - (a:Int)))), (9, aV (I6 q)), (10, aV (I6 q)), (11, aV (I6 ↑(a + q))), (15, aV (I6 q)), (16, aV (I6 ↑(2 * q))), (17, aV (I6 ↑(a + 2 * q))), (21, aV (I6 q)), (22, aV (I6 ↑(3 * q))), (23, aV (I6 ↑(a + 3 * q))), (26, aT), (28, aT), (31, cC true [(0, 0), (160, 1)] c1), (35, cC true [(0, 0), (160, 1)] c2), (39, cC true [(0, 0), (160, 1)] c3), (45, cC true [(0, 0), (160, 1)] c4), (47, aV (I6 0))] [(0, 0)] [I6 (IntKind.wrap .i64 ((b:Int) - (a:Int))) = I6 ((b:Int) - (a:Int)), I6 (IntKind.wrap .i64 (Int.tdiv ((b:Int) - (a:Int)) (4 : Int))) = I6 q, (4 : Int) ≠ 0, I6 (IntKind.wrap .i64 ((q:Int) * (1 : Int))) = I6 q, I6 (IntKind.wrap .i64 ((a:Int) + (q:Int))) = I6 ↑(a + q), I6 (IntKind.wrap .i64 (Int.tdiv ((b:Int) - (a:Int)) (4 : Int))) = I6 q, (4 : Int) ≠ 0, I6 (IntKind.wrap .i64 ((q:Int) * (2 : Int))) = I6 ↑(2 * q), I6 (IntKind.wrap .i64 ((a:Int) + (↑(2 * q) : Int))) = I6 ↑(a + 2 * q), I6 (IntKind.wrap .i64 (Int.tdiv ((b:Int) - (a:Int)) (4 : Int))) = I6 q, (4 : Int) ≠ 0, I6 (IntKind.wrap .i64 ((q:Int) * (3 : Int))) = I6 ↑(3 * q), I6 (IntKind.wrap .i64 ((a:Int) + (↑(3 * q) : Int))) = I6 ↑(a + 3 * q), decide ((b:Int) - (a:Int) ≥ 8) = true, decide ((b:Int) - (a:Int) ≥ 50) = true, _, _, _, _, I6 ↑(0 : Nat) = I6 0] (ac (wj (by omega)) (ac (cg (Ab hq (by omega) (by omega))) (ac (by omega) (ac (cg (Ab (by omega) (by omega) (by omega))) (ac (wj (by omega)) (ac (cg (Ab hq (by omega) (by omega))) (ac (by omega) (ac (cg (Ab (by omega) (by omega) (by omega))) (ac (wj (by omega)) (ac (cg (Ab hq (by omega) (by omega))) (ac (by omega) (ac (cg (Ab (by omega) (by omega) (by omega))) (ac (wj (by omega)) (ac (dT (by omega)) (ac (dT (by omega)) (ac (c1) (ac (c2) (ac (c3) (ac (c4) (ao (cg (by omega))))))))))))))))))))))
 ·rw [if_neg h0]
  by_cases h1 : s = 12
  ·rw [if_pos h1]
   refine W.rtA [(4, aV (I6 ((b:Int) - (a:Int)))), (9, aV (I6 q)), (10, aV (I6 q)), (11, aV (I6 ↑(a + q))), (15, aV (I6 q)), (16, aV (I6 ↑(2 * q))), (17, aV (I6 ↑(a + 2 * q))), (21, aV (I6 q)), (22, aV (I6 ↑(3 * q))), (23, aV (I6 ↑(a + 3 * q))), (26, aT), (28, aT), (31, cC true [(0, 0), (160, 1)] c1), (35, cC true [(0, 0), (160, 1)] c2), (39, cC true [(0, 0), (160, 1)] c3), (45, cC true [(0, 0), (160, 1)] c4), (48, aF), (50, aT)] [(0, 0)] [I6 (IntKind.wrap .i64 ((b:Int) - (a:Int))) = I6 ((b:Int) - (a:Int)), I6 (IntKind.wrap .i64 (Int.tdiv ((b:Int) - (a:Int)) (4 : Int))) = I6 q, (4 : Int) ≠ 0, I6 (IntKind.wrap .i64 ((q:Int) * (1 : Int))) = I6 q, I6 (IntKind.wrap .i64 ((a:Int) + (q:Int))) = I6 ↑(a + q), I6 (IntKind.wrap .i64 (Int.tdiv ((b:Int) - (a:Int)) (4 : Int))) = I6 q, (4 : Int) ≠ 0, I6 (IntKind.wrap .i64 ((q:Int) * (2 : Int))) = I6 ↑(2 * q), I6 (IntKind.wrap .i64 ((a:Int) + (↑(2 * q) : Int))) = I6 ↑(a + 2 * q), I6 (IntKind.wrap .i64 (Int.tdiv ((b:Int) - (a:Int)) (4 : Int))) = I6 q, (4 : Int) ≠ 0, I6 (IntKind.wrap .i64 ((q:Int) * (3 : Int))) = I6 ↑(3 * q), I6 (IntKind.wrap .i64 ((a:Int) + (↑(3 * q) : Int))) = I6 ↑(a + 3 * q), decide ((b:Int) - (a:Int) ≥ 8) = true, decide ((b:Int) - (a:Int) ≥ 50) = true, _, _, _, _, ((s:Int) == 0) = false, ((s:Int) == 12) = true] (ac (wj (by omega)) (ac (cg (Ab hq (by omega) (by omega))) (ac (by omega) (ac (cg (Ab (by omega) (by omega) (by omega))) (ac (wj (by omega)) (ac (cg (Ab hq (by omega) (by omega))) (ac (by omega) (ac (cg (Ab (by omega) (by omega) (by omega))) (ac (wj (by omega)) (ac (cg (Ab hq (by omega) (by omega))) (ac (by omega) (ac (cg (Ab (by omega) (by omega) (by omega))) (ac (wj (by omega)) (ac (dT (by omega)) (ac (dT (by omega)) (ac (c1) (ac (c2) (ac (c3) (ac (c4) (ac (dF (by omega)) (ao (dT (by omega)))))))))))))))))))))))
  ·rw [if_neg h1]
   refine W.rtA [(4, aV (I6 ((b:Int) - (a:Int)))), (9, aV (I6 q)), (10, aV (I6 q)), (11, aV (I6 ↑(a + q))), (15, aV (I6 q)), (16, aV (I6 ↑(2 * q))), (17, aV (I6 ↑(a + 2 * q))), (21, aV (I6 q)), (22, aV (I6 ↑(3 * q))), (23, aV (I6 ↑(a + 3 * q))), (26, aT), (28, aT), (31, cC true [(0, 0), (160, 1)] c1), (35, cC true [(0, 0), (160, 1)] c2), (39, cC true [(0, 0), (160, 1)] c3), (45, cC true [(0, 0), (160, 1)] c4), (48, aF), (50, aF)] [(0, 0)] [I6 (IntKind.wrap .i64 ((b:Int) - (a:Int))) = I6 ((b:Int) - (a:Int)), I6 (IntKind.wrap .i64 (Int.tdiv ((b:Int) - (a:Int)) (4 : Int))) = I6 q, (4 : Int) ≠ 0, I6 (IntKind.wrap .i64 ((q:Int) * (1 : Int))) = I6 q, I6 (IntKind.wrap .i64 ((a:Int) + (q:Int))) = I6 ↑(a + q), I6 (IntKind.wrap .i64 (Int.tdiv ((b:Int) - (a:Int)) (4 : Int))) = I6 q, (4 : Int) ≠ 0, I6 (IntKind.wrap .i64 ((q:Int) * (2 : Int))) = I6 ↑(2 * q), I6 (IntKind.wrap .i64 ((a:Int) + (↑(2 * q) : Int))) = I6 ↑(a + 2 * q), I6 (IntKind.wrap .i64 (Int.tdiv ((b:Int) - (a:Int)) (4 : Int))) = I6 q, (4 : Int) ≠ 0, I6 (IntKind.wrap .i64 ((q:Int) * (3 : Int))) = I6 ↑(3 * q), I6 (IntKind.wrap .i64 ((a:Int) + (↑(3 * q) : Int))) = I6 ↑(a + 3 * q), decide ((b:Int) - (a:Int) ≥ 8) = true, decide ((b:Int) - (a:Int) ≥ 50) = true, _, _, _, _, ((s:Int) == 0) = false, ((s:Int) == 12) = false] (ac (wj (by omega)) (ac (cg (Ab hq (by omega) (by omega))) (ac (by omega) (ac (cg (Ab (by omega) (by omega) (by omega))) (ac (wj (by omega)) (ac (cg (Ab hq (by omega) (by omega))) (ac (by omega) (ac (cg (Ab (by omega) (by omega) (by omega))) (ac (wj (by omega)) (ac (cg (Ab hq (by omega) (by omega))) (ac (by omega) (ac (cg (Ab (by omega) (by omega) (by omega))) (ac (wj (by omega)) (ac (dT (by omega)) (ac (dT (by omega)) (ac (c1) (ac (c2) (ac (c3) (ac (c4) (ac (dF (by omega)) (ao (dF (by omega)))))))))))))))))))))))
theorem Ud (s : Nat) : hintN (if s = 0 then .increasing else if s = 12 then .decreasing else .unknown) = if s = 0 then 1 else if s = 12 then 2 else 0 := by
 split
 ·rfl
 ·split <;> rfl
theorem pc_cp {n a b : Nat} (hn : n < 1000000) (hb : b ≤ n) (hab : a + 12 < b) (l : List Int) : Pt 92 [(0, Ac n l)] [.ref 0 [] 1 0 n, .int .i64 a, .int .i64 b] [(0, Ac n l)] (.tup [.int .i64 (cpL l a b).1, .int .i64 (hintN (cpL l a b).2)]) := by
 rw [OQ]
 have hq : ((b : Int) - a).tdiv 4 = (((b - a) / 4 : Nat) : Int) := by
  rw [Int.tdiv_eq_ediv_of_nonneg (by omega)]
  omega
 dsimp only
 rw [Ud]
 unfold cp1
 rw [if_pos (show 8 ≤ b - a by omega)]
 by_cases h : 50 ≤ b - a
 ·rw [if_pos h, Nat.mul_one, Nat.mul_comm _ 2, Nat.mul_comm _ 3]
  have h12 : 12 ≤ (b - a) / 4 := by omega
  have h4 : 4 * ((b - a) / 4) ≤ b - a := by omega
  generalize (b - a) / 4 = q at *
  have k1 : (a + q - 1) + 1 = a + q := by omega
  have k2 : (a + 2 * q - 1) + 1 = a + 2 * q := by omega
  have k3 : (a + 3 * q - 1) + 1 = a + 3 * q := by omega
  have b1 := PE (l := l) (s := 0) (show a + q - 1 < n by omega) (show a + q < n by omega) (show a + q + 1 < n by omega)
  have c1 := Po (s := 0) hn (show (a + q - 1) + 2 < n by omega) (by omega) l
  rw [show (a + q - 1) + 2 = a + q + 1 by omega, k1] at c1
  have b2 := PE (l := l) (s := (mdL l (a + q - 1) (a + q) (a + q + 1) 0).2) (show a + 2 * q - 1 < n by omega) (show a + 2 * q < n by omega) (show a + 2 * q + 1 < n by omega)
  have c2 := Po (s := (mdL l (a + q - 1) (a + q) (a + q + 1) 0).2) hn (show (a + 2 * q - 1) + 2 < n by omega) (by omega) l
  rw [show (a + 2 * q - 1) + 2 = a + 2 * q + 1 by omega, k2] at c2
  generalize mdL l (a + q - 1) (a + q) (a + q + 1) 0 = r1 at *
  generalize mdL l (a + 2 * q - 1) (a + 2 * q) (a + 2 * q + 1) r1.2 = r2 at *
  have b3 := PE (l := l) (s := r2.2) (show a + 3 * q - 1 < n by omega) (show a + 3 * q < n by omega) (show a + 3 * q + 1 < n by omega)
  have c3 := Po (s := r2.2) hn (show (a + 3 * q - 1) + 2 < n by omega) (by omega) l
  rw [show (a + 3 * q - 1) + 2 = a + 3 * q + 1 by omega, k3] at c3
  generalize mdL l (a + 3 * q - 1) (a + 3 * q) (a + 3 * q + 1) r2.2 = r3 at *
  exact pc_cpB hn hb (by omega) hq (by omega) c1 c2 c3 (pc_md hn b1.1 b2.1 b3.1 (by omega) l)
 ·rw [if_neg h, Nat.mul_one, Nat.mul_comm _ 2, Nat.mul_comm _ 3]
  have h4 : 4 * ((b - a) / 4) ≤ b - a := by omega
  generalize (b - a) / 4 = q at *
  exact pc_cpA hn hb hab (by omega) hq (by omega) (pc_md hn (show a + q < n by omega) (show a + 2 * q < n by omega) (show a + 3 * q < n by omega) (by omega) l)
set_option maxHeartbeats 4000000 in
theorem pc_xs {r : Nat} (h : r < 18446744073709551616) : Pt 102 [(1, ⟨.int .u64 r, false⟩)] [.at 1 []] [(1, ⟨.int .u64 (xsN r), false⟩)] (.int .u64 (xsN r)) := by
 refine pO Try.func102 (by kernel_rfl) ?_
 have l1 : r * 8192 % 18446744073709551616 < 18446744073709551616 := Nat.mod_lt _ (by decide)
 have l2 : r ^^^ (r * 8192 % 18446744073709551616) < 18446744073709551616 := Nat.xor_lt_two_pow (n := 64) h l1
 unfold xsN
 generalize ha : r ^^^ (r * 8192 % 18446744073709551616) = a at *
 have ha2 : ((r ^^^ (r * 8192 % 18446744073709551616) : Nat) : Int) = (a : Int) := by rw [ha]
 have l3 : a / 128 < 18446744073709551616 := by omega
 have l4 : a ^^^ (a / 128) < 18446744073709551616 := Nat.xor_lt_two_pow (n := 64) l2 l3
 generalize hb : a ^^^ (a / 128) = b at *
 have hb2 : ((a ^^^ (a / 128) : Nat) : Int) = (b : Int) := by rw [hb]
 clear ha hb
 have l5 : b * 131072 % 18446744073709551616 < 18446744073709551616 := Nat.mod_lt _ (by decide)
 have l6 : b ^^^ (b * 131072 % 18446744073709551616) < 18446744073709551616 := Nat.xor_lt_two_pow (n := 64) l4 l5
 refine W.rtA [(7, aV (U6 ↑(r * 8192 % 18446744073709551616))), (8, aV (U6 ↑(r ^^^ r * 8192 % 18446744073709551616))), (13, aV (U6 a)), (16, aV (U6 a)), (17, aV (U6 ↑(a / 128))), (18, aV (U6 ↑(a ^^^ a / 128))), (23, aV (U6 b)), (26, aV (U6 b)), (27, aV (U6 ↑(b * 131072 % 18446744073709551616))), (28, aV (U6 ↑(b ^^^ b * 131072 % 18446744073709551616)))] (rI 1) [U6 (IntKind.wrap .u64 ((r:Int) * (2 : Int) ^ 13)) = U6 ↑(r * 8192 % 18446744073709551616), (0 : Int) ≤ 13, U6 (bits BinOp.xor .u64 (r:Int) (↑(r * 8192 % 18446744073709551616) : Int)) = U6 ↑(r ^^^ r * 8192 % 18446744073709551616), U6 ↑(r ^^^ r * 8192 % 18446744073709551616) = U6 a, U6 ↑(r ^^^ r * 8192 % 18446744073709551616) = U6 a, U6 (Int.fdiv (a:Int) ((2 : Int) ^ 7)) = U6 ↑(a / 128), (0 : Int) ≤ 7, U6 (bits BinOp.xor .u64 (a:Int) (↑(a / 128) : Int)) = U6 ↑(a ^^^ a / 128), U6 ↑(a ^^^ a / 128) = U6 b, U6 ↑(a ^^^ a / 128) = U6 b, U6 (IntKind.wrap .u64 ((b:Int) * (2 : Int) ^ 17)) = U6 ↑(b * 131072 % 18446744073709551616), (0 : Int) ≤ 17, U6 (bits BinOp.xor .u64 (b:Int) (↑(b * 131072 % 18446744073709551616) : Int)) = U6 ↑(b ^^^ b * 131072 % 18446744073709551616)] (ac (cg (Hl (y := ((13 : Nat) : Int)) rfl rfl)) (ac (by omega) (ac (cg (Ao rfl rfl (by omega) (by omega))) (ac (cg (ha2)) (ac (cg (ha2)) (ac (cg (Bb (y := 7) (s := 7) rfl rfl (by decide) (by omega))) (ac (by omega) (ac (cg (Ao rfl rfl (by omega) (by omega))) (ac (cg (hb2)) (ac (cg (hb2)) (ac (cg (Hl (y := ((17 : Nat) : Int)) rfl rfl)) (ac (by omega) (ao (cg (Ao rfl rfl (by omega) (by omega))))))))))))))))
set_option maxHeartbeats 4000000 in
theorem pc_l64a {x : Nat} (hx : x < 256) : Pt 98 [] [.int .u64 x] [] (.int .i64 (Bu x)) := by
 refine pO Try.func98 (by kernel_rfl) ?_
 have hl := Hr (k := 8) hx
 refine W.rtA [(2, Ans.dec false), (4, Ans.dec false), (6, Ans.dec false), (9, Ans.val (PV.int .u8 (↑x : Int))), (10, Ans.val (PV.int .u8 (↑(Bu x) : Int))), (11, Ans.val (PV.int .i64 (↑(Bu x) : Int))), (12, Ans.val (PV.int .i64 (↑(Bu x) : Int)))] [] [decide ((↑x : Int) ≥ (4294967296 : Int)) = false, decide ((↑x : Int) ≥ (65536 : Int)) = false, decide ((↑x : Int) ≥ (256 : Int)) = false, PV.int .u8 (IntKind.wrap .u8 (↑x : Int)) = PV.int .u8 (↑x : Int), PV.int .u8 (CP (ByteArray.mk #[(0 : UInt8), (1 : UInt8), (2 : UInt8), (2 : UInt8), (3 : UInt8), (3 : UInt8), (3 : UInt8), (3 : UInt8), (4 : UInt8), (4 : UInt8), (4 : UInt8), (4 : UInt8), (4 : UInt8), (4 : UInt8), (4 : UInt8), (4 : UInt8), (5 : UInt8), (5 : UInt8), (5 : UInt8), (5 : UInt8), (5 : UInt8), (5 : UInt8), (5 : UInt8), (5 : UInt8), (5 : UInt8), (5 : UInt8), (5 : UInt8), (5 : UInt8), (5 : UInt8), (5 : UInt8), (5 : UInt8), (5 : UInt8), (6 : UInt8), (6 : UInt8), (6 : UInt8), (6 : UInt8), (6 : UInt8), (6 : UInt8), (6 : UInt8), (6 : UInt8), (6 : UInt8), (6 : UInt8), (6 : UInt8), (6 : UInt8), (6 : UInt8), (6 : UInt8), (6 : UInt8), (6 : UInt8), (6 : UInt8), (6 : UInt8), (6 : UInt8), (6 : UInt8), (6 : UInt8), (6 : UInt8), (6 : UInt8), (6 : UInt8), (6 : UInt8), (6 : UInt8), (6 : UInt8), (6 : UInt8), (6 : UInt8), (6 : UInt8), (6 : UInt8), (6 : UInt8), (7 : UInt8), (7 : UInt8), (7 : UInt8), (7 : UInt8), (7 : UInt8), (7 : UInt8), (7 : UInt8), (7 : UInt8), (7 : UInt8), (7 : UInt8), (7 : UInt8), (7 : UInt8), (7 : UInt8), (7 : UInt8), (7 : UInt8), (7 : UInt8), (7 : UInt8), (7 : UInt8), (7 : UInt8), (7 : UInt8), (7 : UInt8), (7 : UInt8), (7 : UInt8), (7 : UInt8), (7 : UInt8), (7 : UInt8), (7 : UInt8), (7 : UInt8), (7 : UInt8), (7 : UInt8), (7 : UInt8), (7 : UInt8), (7 : UInt8), (7 : UInt8), (7 : UInt8), (7 : UInt8), (7 : UInt8), (7 : UInt8), (7 : UInt8), (7 : UInt8), (7 : UInt8), (7 : UInt8), (7 : UInt8), (7 : UInt8), (7 : UInt8), (7 : UInt8), (7 : UInt8), (7 : UInt8), (7 : UInt8), (7 : UInt8), (7 : UInt8), (7 : UInt8), (7 : UInt8), (7 : UInt8), (7 : UInt8), (7 : UInt8), (7 : UInt8), (7 : UInt8), (7 : UInt8), (7 : UInt8), (7 : UInt8), (7 : UInt8), (7 : UInt8), (7 : UInt8), (8 : UInt8), (8 : UInt8), (8 : UInt8), (8 : UInt8), (8 : UInt8), (8 : UInt8), (8 : UInt8), (8 : UInt8), (8 : UInt8), (8 : UInt8), (8 : UInt8), (8 : UInt8), (8 : UInt8), (8 : UInt8), (8 : UInt8), (8 : UInt8), (8 : UInt8), (8 : UInt8), (8 : UInt8), (8 : UInt8), (8 : UInt8), (8 : UInt8), (8 : UInt8), (8 : UInt8), (8 : UInt8), (8 : UInt8), (8 : UInt8), (8 : UInt8), (8 : UInt8), (8 : UInt8), (8 : UInt8), (8 : UInt8), (8 : UInt8), (8 : UInt8), (8 : UInt8), (8 : UInt8), (8 : UInt8), (8 : UInt8), (8 : UInt8), (8 : UInt8), (8 : UInt8), (8 : UInt8), (8 : UInt8), (8 : UInt8), (8 : UInt8), (8 : UInt8), (8 : UInt8), (8 : UInt8), (8 : UInt8), (8 : UInt8), (8 : UInt8), (8 : UInt8), (8 : UInt8), (8 : UInt8), (8 : UInt8), (8 : UInt8), (8 : UInt8), (8 : UInt8), (8 : UInt8), (8 : UInt8), (8 : UInt8), (8 : UInt8), (8 : UInt8), (8 : UInt8), (8 : UInt8), (8 : UInt8), (8 : UInt8), (8 : UInt8), (8 : UInt8), (8 : UInt8), (8 : UInt8), (8 : UInt8), (8 : UInt8), (8 : UInt8), (8 : UInt8), (8 : UInt8), (8 : UInt8), (8 : UInt8), (8 : UInt8), (8 : UInt8), (8 : UInt8), (8 : UInt8), (8 : UInt8), (8 : UInt8), (8 : UInt8), (8 : UInt8), (8 : UInt8), (8 : UInt8), (8 : UInt8), (8 : UInt8), (8 : UInt8), (8 : UInt8), (8 : UInt8), (8 : UInt8), (8 : UInt8), (8 : UInt8), (8 : UInt8), (8 : UInt8), (8 : UInt8), (8 : UInt8), (8 : UInt8), (8 : UInt8), (8 : UInt8), (8 : UInt8), (8 : UInt8), (8 : UInt8), (8 : UInt8), (8 : UInt8), (8 : UInt8), (8 : UInt8), (8 : UInt8), (8 : UInt8), (8 : UInt8), (8 : UInt8), (8 : UInt8), (8 : UInt8), (8 : UInt8), (8 : UInt8), (8 : UInt8), (8 : UInt8), (8 : UInt8), (8 : UInt8), (8 : UInt8), (8 : UInt8), (8 : UInt8), (8 : UInt8), (8 : UInt8), (8 : UInt8)]) (↑x : Int)) = PV.int .u8 (↑(Bu x) : Int), (0 : Int) ≤ (↑x : Int), (↑x : Int) < (↑(256 : Nat) : Int), PV.int .i64 (IntKind.wrap .i64 (↑(Bu x) : Int)) = PV.int .i64 (↑(Bu x) : Int), PV.int .i64 (IntKind.wrap .i64 ((0 : Int) + (↑(Bu x) : Int))) = PV.int .i64 (↑(Bu x) : Int)] (ac (by exact decide_eq_false (by omega)) (ac (by exact decide_eq_false (by omega)) (ac (by exact decide_eq_false (by omega)) (ac ?_ (ac ?_ (ob2 (by omega) (ac ?_ (ao ?_))))))))
 ·exact cg (KX rfl (by omega) (by omega))
 ·refine cg ?_
  clear hl
  revert hx
  revert x
  decide +kernel
 ·exact cg (Ab rfl (by omega) (by omega))
 ·rw [Int.zero_add]
  exact cg (Ab rfl (by omega) (by omega))
set_option maxHeartbeats 4000000 in
theorem pc_l64b {x : Nat} (hx : x < 65536) (h2 : 256 ≤ x) : Pt 98 [] [.int .u64 x] [] (.int .i64 (Bu x)) := by
 refine pO Try.func98 (by kernel_rfl) ?_
 rw [RQ h2]
 have hy : x / 256 < 256 := by omega
 have hl := Hr (k := 8) hy
 refine W.rtA [(2, Ans.dec false), (4, Ans.dec false), (6, Ans.dec true), (8, Ans.val (PV.int .u64 (↑(x / (256 : Nat)) : Int))), (11, Ans.val (PV.int .i64 (8 : Int))), (15, Ans.val (PV.int .u8 (↑(x / (256 : Nat)) : Int))), (16, Ans.val (PV.int .u8 (↑(Bu (x / (256 : Nat))) : Int))), (17, Ans.val (PV.int .i64 (↑(Bu (x / (256 : Nat))) : Int))), (18, Ans.val (PV.int .i64 (↑(Bu (x / (256 : Nat)) + (8 : Nat)) : Int)))] [] [decide ((↑x : Int) ≥ (4294967296 : Int)) = false, decide ((↑x : Int) ≥ (65536 : Int)) = false, decide ((↑x : Int) ≥ (256 : Int)) = true, PV.int .u64 (Int.fdiv (↑x : Int) ((2 : Int) ^ (8 : Nat))) = PV.int .u64 (↑(x / (256 : Nat)) : Int), (0 : Int) ≤ 8, PV.int .i64 (IntKind.wrap .i64 ((0 : Int) + (8 : Int))) = PV.int .i64 8, PV.int .u8 (IntKind.wrap .u8 (↑(x / (256 : Nat)) : Int)) = PV.int .u8 (↑(x / (256 : Nat)) : Int), PV.int .u8 (CP (ByteArray.mk #[(0 : UInt8), (1 : UInt8), (2 : UInt8), (2 : UInt8), (3 : UInt8), (3 : UInt8), (3 : UInt8), (3 : UInt8), (4 : UInt8), (4 : UInt8), (4 : UInt8), (4 : UInt8), (4 : UInt8), (4 : UInt8), (4 : UInt8), (4 : UInt8), (5 : UInt8), (5 : UInt8), (5 : UInt8), (5 : UInt8), (5 : UInt8), (5 : UInt8), (5 : UInt8), (5 : UInt8), (5 : UInt8), (5 : UInt8), (5 : UInt8), (5 : UInt8), (5 : UInt8), (5 : UInt8), (5 : UInt8), (5 : UInt8), (6 : UInt8), (6 : UInt8), (6 : UInt8), (6 : UInt8), (6 : UInt8), (6 : UInt8), (6 : UInt8), (6 : UInt8), (6 : UInt8), (6 : UInt8), (6 : UInt8), (6 : UInt8), (6 : UInt8), (6 : UInt8), (6 : UInt8), (6 : UInt8), (6 : UInt8), (6 : UInt8), (6 : UInt8), (6 : UInt8), (6 : UInt8), (6 : UInt8), (6 : UInt8), (6 : UInt8), (6 : UInt8), (6 : UInt8), (6 : UInt8), (6 : UInt8), (6 : UInt8), (6 : UInt8), (6 : UInt8), (6 : UInt8), (7 : UInt8), (7 : UInt8), (7 : UInt8), (7 : UInt8), (7 : UInt8), (7 : UInt8), (7 : UInt8), (7 : UInt8), (7 : UInt8), (7 : UInt8), (7 : UInt8), (7 : UInt8), (7 : UInt8), (7 : UInt8), (7 : UInt8), (7 : UInt8), (7 : UInt8), (7 : UInt8), (7 : UInt8), (7 : UInt8), (7 : UInt8), (7 : UInt8), (7 : UInt8), (7 : UInt8), (7 : UInt8), (7 : UInt8), (7 : UInt8), (7 : UInt8), (7 : UInt8), (7 : UInt8), (7 : UInt8), (7 : UInt8), (7 : UInt8), (7 : UInt8), (7 : UInt8), (7 : UInt8), (7 : UInt8), (7 : UInt8), (7 : UInt8), (7 : UInt8), (7 : UInt8), (7 : UInt8), (7 : UInt8), (7 : UInt8), (7 : UInt8), (7 : UInt8), (7 : UInt8), (7 : UInt8), (7 : UInt8), (7 : UInt8), (7 : UInt8), (7 : UInt8), (7 : UInt8), (7 : UInt8), (7 : UInt8), (7 : UInt8), (7 : UInt8), (7 : UInt8), (7 : UInt8), (7 : UInt8), (7 : UInt8), (7 : UInt8), (7 : UInt8), (7 : UInt8), (8 : UInt8), (8 : UInt8), (8 : UInt8), (8 : UInt8), (8 : UInt8), (8 : UInt8), (8 : UInt8), (8 : UInt8), (8 : UInt8), (8 : UInt8), (8 : UInt8), (8 : UInt8), (8 : UInt8), (8 : UInt8), (8 : UInt8), (8 : UInt8), (8 : UInt8), (8 : UInt8), (8 : UInt8), (8 : UInt8), (8 : UInt8), (8 : UInt8), (8 : UInt8), (8 : UInt8), (8 : UInt8), (8 : UInt8), (8 : UInt8), (8 : UInt8), (8 : UInt8), (8 : UInt8), (8 : UInt8), (8 : UInt8), (8 : UInt8), (8 : UInt8), (8 : UInt8), (8 : UInt8), (8 : UInt8), (8 : UInt8), (8 : UInt8), (8 : UInt8), (8 : UInt8), (8 : UInt8), (8 : UInt8), (8 : UInt8), (8 : UInt8), (8 : UInt8), (8 : UInt8), (8 : UInt8), (8 : UInt8), (8 : UInt8), (8 : UInt8), (8 : UInt8), (8 : UInt8), (8 : UInt8), (8 : UInt8), (8 : UInt8), (8 : UInt8), (8 : UInt8), (8 : UInt8), (8 : UInt8), (8 : UInt8), (8 : UInt8), (8 : UInt8), (8 : UInt8), (8 : UInt8), (8 : UInt8), (8 : UInt8), (8 : UInt8), (8 : UInt8), (8 : UInt8), (8 : UInt8), (8 : UInt8), (8 : UInt8), (8 : UInt8), (8 : UInt8), (8 : UInt8), (8 : UInt8), (8 : UInt8), (8 : UInt8), (8 : UInt8), (8 : UInt8), (8 : UInt8), (8 : UInt8), (8 : UInt8), (8 : UInt8), (8 : UInt8), (8 : UInt8), (8 : UInt8), (8 : UInt8), (8 : UInt8), (8 : UInt8), (8 : UInt8), (8 : UInt8), (8 : UInt8), (8 : UInt8), (8 : UInt8), (8 : UInt8), (8 : UInt8), (8 : UInt8), (8 : UInt8), (8 : UInt8), (8 : UInt8), (8 : UInt8), (8 : UInt8), (8 : UInt8), (8 : UInt8), (8 : UInt8), (8 : UInt8), (8 : UInt8), (8 : UInt8), (8 : UInt8), (8 : UInt8), (8 : UInt8), (8 : UInt8), (8 : UInt8), (8 : UInt8), (8 : UInt8), (8 : UInt8), (8 : UInt8), (8 : UInt8), (8 : UInt8), (8 : UInt8), (8 : UInt8), (8 : UInt8), (8 : UInt8), (8 : UInt8), (8 : UInt8), (8 : UInt8)]) (↑(x / (256 : Nat)) : Int)) = PV.int .u8 (↑(Bu (x / (256 : Nat))) : Int), (0 : Int) ≤ (↑(x / (256 : Nat)) : Int), (↑(x / (256 : Nat)) : Int) < (↑(256 : Nat) : Int), PV.int .i64 (IntKind.wrap .i64 (↑(Bu (x / (256 : Nat))) : Int)) = PV.int .i64 (↑(Bu (x / (256 : Nat))) : Int), PV.int .i64 (IntKind.wrap .i64 ((8 : Int) + (↑(Bu (x / (256 : Nat))) : Int))) = PV.int .i64 (↑(Bu (x / (256 : Nat)) + (8 : Nat)) : Int)] (ac (by exact decide_eq_false (by omega)) (ac (by exact decide_eq_false (by omega)) (ac (by exact decide_eq_true (by omega)) (ac (by exact congrArg (PV.int _) (Bb (y := 8) (s := 8) rfl rfl (by decide) (by omega))) (ac (by omega) (ac (by exact congrArg (PV.int _) (Ab rfl (by omega) (by omega))) (ac ?_ (ac ?_ (ob2 (by omega) (ac (by exact congrArg (PV.int _) (Ab rfl (by omega) (by omega))) (ao ?_)))))))))))
 ·exact cg (KX rfl (by omega) (by omega))
 ·refine cg ?_
  clear hl
  generalize x / 256 = y at *
  clear hx h2
  revert hy
  revert y
  decide +kernel
 all_goals exact cg (Ab (by omega) (by omega) (by omega))
theorem pc_l64 {x : Nat} (hx : x < 65536) : Pt 98 [] [.int .u64 x] [] (.int .i64 (Bu x)) := by
 by_cases h : x < 256
 ·exact pc_l64a h
 ·exact pc_l64b hx (by omega)
theorem Qw {x : Nat} (hx : x < 65536) : Pt 79 [] [.int .u64 x] [] (.int .i64 (Bu x)) := by
 refine pO Try.func79 (by kernel_rfl) ?_
 have c1 := pc_l64 hx
 generalize Bu x = r at *
 refine W.rtA [(2, c9 c1)] [] [_] (ao (c1))
theorem pc_npot {x : Nat} (hx : x < 65536) : Pt 101 [] [.int .i64 x] [] (.int .u64 ((2 ^ Bu x : Nat) : Int)) := by
 refine pO Try.func101 (by kernel_rfl) ?_
 have c1 := Qw hx
 have hl := Hr (k := 16) hx
 generalize Bu x = r at *
 have hp : 2 ^ r ≤ 2 ^ 16 := Nat.pow_le_pow_right (by omega) hl
 have hs : ((1 * 2 ^ r % 18446744073709551616 : Nat) : Int) = ((2 ^ r : Nat) : Int) := by
  rw [Nat.one_mul, Nat.mod_eq_of_lt (by omega)]
 refine W.rtA [(2, aV (U6 x)), (3, c9 c1), (4, aV (U6 ↑(1 * 2 ^ r % 18446744073709551616))), (5, aV (U6 ↑(2 ^ r)))] [] [U6 (IntKind.wrap .u64 (x:Int)) = U6 x, _, U6 (IntKind.wrap .u64 ((1 : Int) * (2 : Int) ^ min r 64)) = U6 ↑(1 * 2 ^ r % 18446744073709551616), 0 ≤ (r:Int), U6 ↑(1 * 2 ^ r % 18446744073709551616) = U6 ↑(2 ^ r)] (ac (cg (Aj rfl (by omega) (by omega))) (ac (c1) (ac (cg (Hl (y := ((r : Nat) : Int)) rfl rfl)) (ac (by omega) (ao (cg (hs)))))))
end Go.Proofs
