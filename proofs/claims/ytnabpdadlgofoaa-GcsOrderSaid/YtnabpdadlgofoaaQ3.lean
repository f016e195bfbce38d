/- Merged texts: the pure machine and what the walks show. Conditions: as each statement says. -/
import Derived.Lib.Mul64
import Derived.Sort.AssemblyPlain
import Derived.Test.YtnabpdadlgofoaaQ2
set_option linter.unusedSimpArgs false
set_option linter.unusedVariables false
namespace Go.Proofs
open Go Go.Pe Go.Pm
set_option maxRecDepth 100000
set_option linter.unusedVariables false
def dsLit (n w i : Nat) (l : List Int) : DS := ⟨[(0, .int .u64 n), (5, .ref 1 [] 1 0 w), (12, .int .i64 w), (13, .int .i64 i)], [(1, Bw w l)]⟩
theorem L6 {n w : Nat} (hn : n < 18446744073709551616) (hw : w ≤ 8) : ∀ (k i : Nat) (l : List Int), i + k = w → l = leTo n w i →
  Wt Try.f75 [] [(1, Bw w (le n w))] (.ref 1 [] 1 0 w) (Aa Try.f75 0) (dsLit n w i l)
 | 0, i, l, hk, hl => by
  have e : l = le n w := by rw [hl, show i = w by omega]; exact Qt n w
  rw [← e]
  refine W.rtA [(0, aF)] (rI 1) [decide ((i:Int) < (w:Int)) = false] (ao (dF (by omega)))
 | k + 1, i, l, hk, hl => by
  have hll : l.length = w := by rw [hl]; exact Nf n w i
  have hs := PT (n := n) (w := w) (i := i)
  rw [← hl] at hs
  have h1 : n / 2 ^ (8 * i) < 18446744073709551616 := Nat.lt_of_le_of_lt (Nat.div_le_self _ _) hn
  refine W.sgA 0 [(0, aT), (7, aV (I6 ↑(8 * i))), (8, aV (U6 (Int.fdiv (n:Int) ((2 : Int) ^ min (8 * i) 64)))), (9, aV (U8 ↑(n / 2 ^ (8 * i) % 256))), (10, aV (PV.at 1 [Stp.idx i 1])), (12, aV (I6 ↑(i + 1)))] (rI 1) (dsLit n w (i + 1) (l.set i ((n / 2 ^ (8 * i) % 256 : Nat) : Int))) [decide ((i:Int) < (w:Int)) = true, I6 (IntKind.wrap .i64 (8 * (i:Int))) = I6 ↑(8 * i), U6 (Int.fdiv (n:Int) ((2 : Int) ^ min (Int.toNat (↑(8 * i) : Int)) 64)) = U6 (Int.fdiv (n:Int) ((2 : Int) ^ min (8 * i) 64)), 0 ≤ (↑(8 * i) : Int), U8 (IntKind.wrap .u8 (Int.fdiv (n:Int) ((2 : Int) ^ min (8 * i) 64))) = U8 ↑(n / 2 ^ (8 * i) % 256), PV.at 1 [Stp.idx (0 + i) 1] = PV.at 1 [Stp.idx i 1], 0 ≤ (i:Int), (i:Int) < (w:Int), i < w, I6 (IntKind.wrap .i64 ((i:Int) + 1)) = I6 ↑(i + 1)] (ac (dT (by omega)) (ac (wj (by omega)) (ac (cg rfl) (ac (by omega) (ac (cg (wm_u8 (CK rfl rfl (by omega)))) (ac (by simp only [Nat.zero_add]) (ob3 (by omega) (ao (wj (by omega)))))))))) ?_
  exact L6 hn hw k (i + 1) _ (by omega) hs
theorem Kn {n w : Nat} (hn : n < 18446744073709551616) (hw : w ≤ 8) : Pt 75 [] [.int .u64 n, .int .i64 w] [(1, Bw w (le n w))] (.ref 1 [] 1 0 w) := by
 refine pO Try.func75 (by kernel_rfl) ?_
 have h1 : mx (w : Int) 0 = (w : Int) := by unfold mx; split <;> omega
 have h2 : mn (w : Int) 8 = (w : Int) := by unfold mn; split <;> omega
 refine W.sgA 0 [(2, aV (I6 w)), (3, aV (I6 w))] [(128, 1)] (dsLit n w 0 (List.replicate w 0)) [I6 (mx (w:Int) (0 : Int)) = I6 w, I6 (mn (w:Int) (8 : Int)) = I6 w, 0 ≤ (w:Int), (w:Int) ≤ (w:Int), (w:Int) ≤ 9223372036854775807, (↑(1 : Nat) : Int) * (w:Int) ≤ 140737488355328] (ac (cg (h1)) (ac (cg (h2)) (ob3 (by omega) (ao (by omega))))) ?_
 exact L6 hn hw w 0 _ (by omega) (Pn n w).symm
end Go.Proofs
namespace Go.Proofs
open Go Go.Pe Go.Pm
set_option maxRecDepth 100000
set_option linter.unusedVariables false
def bsPV (x : Bool × Nat × List Int) : PV := .vec x.1 (.iarr .u8 x.2.1 x.2.2)
structure BsOk (x : Bool × Nat × List Int) : Prop where
 len : x.2.2.length = x.2.1
 bytes : Bytes x.2.2
def bsh : Sh := .vec 1 (.int .u8)
def cat (l : List (Bool × Nat × List Int)) : List Int := (l.map fun x => x.2.2).flatten
theorem QN {l : List (Bool × Nat × List Int)} {i : Nat} (h : i < l.length) : (l.map bsPV).getD i .undef = bsPV (l.getD i default) := by
 simp [List.getD_eq_getElem?_getD, h]
theorem Nb {l : List (Bool × Nat × List Int)} {i : Nat} (h : i < l.length) : cat (l.drop i) = (l.getD i default).2.2 ++ cat (l.drop (i + 1)) := by
 unfold cat
 rw [List.drop_eq_getElem_cons h, List.map_cons, List.flatten_cons, List.getD_eq_getElem?_getD, List.getElem?_eq_getElem h]
 rfl
theorem bs_ok {l : List (Bool × Nat × List Int)} (ho : ∀ x ∈ l, BsOk x) {i : Nat} (hi : i < l.length) : BsOk (l.getD i default) := by
 rw [List.getD_eq_getElem?_getD, List.getElem?_eq_getElem hi]
 exact ho _ (List.getElem_mem hi)
end Go.Proofs
namespace Go.Proofs
open Go Go.Pe Go.Pm
set_option maxRecDepth 100000
set_option linter.unusedVariables false
theorem PY {nl : Bool} {n : Nat} (h0 : 0 < n) (hn : n ≤ 1000000000) {l : Liz} (hl : l.length = n) : Pt 51 [] [.vec false (.iarr .u8 n l)] [(1, Bw n l)] (.ref 1 [] 1 0 n) := by
 refine pO Try.func51 (by kernel_rfl) ?_
 refine W.rtA [(5, Ans.vu (PV.ref 144 [] 1 0 n) [(112, none), (144, some (Row.mk (B8 n l) false))])] [(144, 1)] [([(112, none), (144, some (Row.mk (B8 (0 + n) l) false))] : List (Nat × Option Row)) = [(112, none), (144, some (Row.mk (B8 n l) false))], PV.ref 144 [] 1 0 (0 + n) = PV.ref 144 [] 1 0 n, rr (0), (0 + n) * 1 ≤ 140737488355328, 0 + n ≤ 9223372036854775807] (ac (by simp only [Nat.zero_add]) (ac (by simp only [Nat.zero_add]) (ac rfl (ac (by omega) (ao (by omega))))))
def wrN : Row := ⟨.st 1 [.vec true (.iarr .u8 0 [])], false⟩
def wrR (i n : Nat) : Row := ⟨.st 1 [.ref i [] 1 0 n], false⟩
theorem MM : Pt 20 [] [] [(1, wrN)] (.at 1 []) := by
 refine pO Try.func20 (by kernel_rfl) ?_
 refine W.rtA [] [(96, 1)] [] trivial
theorem KI {x w : Nat} (hx : x < 18446744073709551616) (hw : w ≤ 8) (hw0 : 0 < w) : Pt 46 [(0, wrN)] [.at 0 [], .int .u64 x, .int .i64 w] [(0, wrR 2 w), (2, Bw w (le x w))] (.tup []) := by
 refine pO Try.func46 (by kernel_rfl) ?_
 have c1 := Kn hx hw
 have hl := Dp x w
 generalize le x w = l at *
 refine W.rtA [(7, c9 c1), (8, Ans.ups [(192, some (Row.mk (B8 w l) false))])] [(0, 0), (192, 2)] [_, ([(192, some (Row.mk (B8 w (List.take w l)) false))] : List (Nat × Option Row)) = [(192, some (Row.mk (B8 w l) false))], 0 + w ≤ w, 0 < w, w * 1 ≤ 140737488355328, w ≤ 9223372036854775807] (ac (c1) (ac (by rw [List.take_of_length_le (show List.length l ≤ w by omega)]) (ob3 (by omega) (ao (by omega)))))
theorem Rf {x w n : Nat} {l : Liz} (hx : x < 18446744073709551616) (hw : w ≤ 8) (hl : l.length = n) (hn : n ≤ 1000000000) : Pt 46 [(0, wrR 1 n), (1, Bw n l)] [.at 0 [], .int .u64 x, .int .i64 w] [(0, wrR 2 (n + w)), (2, Bw (n + w) (l ++ le x w))] (.tup []) := by
 refine pO Try.func46 (by kernel_rfl) ?_
 have c1 := Kn hx hw
 have hl2 := Dp x w
 generalize le x w = m at *
 refine W.rtA [(7, c9 c1), (8, Ans.ups [(1, none), (192, some (Row.mk (B8 (n + w) (l ++ m)) false))])] [(0, 0), (1, 1), (192, 2)] [_, ([(1, none), (192, some (Row.mk (B8 (n + w) (List.take n l ++ List.take w m)) false))] : List (Nat × Option Row)) = [(1, none), (192, some (Row.mk (B8 (n + w) (l ++ m)) false))], 0 + w ≤ w, 0 + n = n, (n + w) * 1 ≤ 140737488355328, n + w ≤ 9223372036854775807] (ac (c1) (ac (by rw [List.take_of_length_le (show List.length l ≤ n by omega), List.take_of_length_le (show List.length m ≤ w by omega)]) (ac (by omega) (ac (by omega) (ac (by omega) (ao (by omega)))))))
def dsPut0 (nl : Bool) (c : Nat) (L : List PV) (n : Nat) (b : List Int) : DS := ⟨[(0, .at 0 []), (6, .vec nl (.parr 1 c bsh L)), (7, .int .i64 c), (8, .int .i64 0)], [(0, wrR 1 n), (1, Bw n b)]⟩
def dsPut (nl : Bool) (c : Nat) (L : List PV) (n : Nat) (b : List Int) (i : Nat) : DS := ⟨[(0, .at 0 []), (6, .vec nl (.parr 1 c bsh L)), (7, .int .i64 c), (8, .int .i64 i)], [(0, wrR 2 n), (2, Bw n b)]⟩
theorem W_put {nl : Bool} {l : List (Bool × Nat × List Int)} {c : Nat} {q : Liz} (hc : l.length = c) (ho : ∀ x ∈ l, BsOk x) (hq : q.length ≤ 1000000000) (hcc : c ≤ 1000000) : ∀ (k i n : Nat) (b : List Int), i + k = c → b.length = n → b ++ cat (l.drop i) = q →
  Wt Try.f24 [0, 1] [(0, wrR 2 q.length), (2, Bw q.length q)] (.tup []) (Aa Try.f24 0) (dsPut nl c (l.map bsPV) n b i)
 | 0, i, n, b, hk, hb, hpq => by
  have e : b = q := by rw [← hpq, List.drop_of_length_le (by omega)]; simp [cat]
  subst e
  subst hb
  refine W.rtA [(0, aF)] [(0, 0), (1, 1), (2, 2)] [decide ((i:Int) < (c:Int)) = false] (ao (dF (by omega)))
 | k + 1, i, n, b, hk, hb, hpq => by
  have hx := bs_ok ho (i := i) (by omega)
  have g := QN (l := l) (i := i) (by omega)
  rw [Nb (by omega), ← List.append_assoc] at hpq
  generalize l.getD i default = x at *
  obtain ⟨xn, xm, xl⟩ := x
  have hxl := hx.len
  dsimp only at hxl hpq
  have hlen := congrArg List.length hpq
  rw [List.length_append, List.length_append, hb, hxl] at hlen
  have hw := W_put (nl := nl) hc ho hq hcc k (i + 1) (n + xm) (b ++ xl) (by omega) (by rw [List.length_append, hb, hxl]) hpq
  generalize l.map bsPV = L at *
  generalize q.length = ql at *
  refine W.sgA 0 [(0, aT), (2, aE g), (10, Ans.ups [(2, none), (224, some (Row.mk (B8 (n + xm) (b ++ xl)) false))]), (14, aV (I6 ↑(i + 1)))] [(0, 0), (1, 1), (224, 2)] (dsPut nl c L (n + xm) (b ++ xl) (i + 1)) [decide ((i:Int) < (c:Int)) = true, 0 ≤ (i:Int), (i:Int) < (c:Int), _, i < c, ([(2, none), (224, some (Row.mk (B8 (n + xm) (List.take n b ++ xl)) false))] : List (Nat × Option Row)) = [(2, none), (224, some (Row.mk (B8 (n + xm) (b ++ xl)) false))], 0 + n = n, (n + xm) * 1 ≤ 140737488355328, n + xm ≤ 9223372036854775807, I6 (IntKind.wrap .i64 ((i:Int) + 1)) = I6 ↑(i + 1)] (ac (dT (by omega)) (ob2 (by omega) (ac (ex g) (ac (by omega) (ac (by rw [List.take_of_length_le (show List.length b ≤ n by omega)]) (ac (by omega) (ob2 (by omega) (ao (wj (by omega)))))))))) ?_
  exact hw
theorem LZ {nl : Bool} {l : List (Bool × Nat × List Int)} {c n m : Nat} {b q : Liz} (hc : l.length = c) (hc0 : 0 < c) (ho : ∀ x ∈ l, BsOk x) (hm : m ≤ 1000000000) (hcc : c ≤ 1000000) (hb : b.length = n) (hq : b ++ cat l = q) (hql : q.length = m) :
  Pt 24 [(0, wrR 1 n), (1, Bw n b)] [.at 0 [], .vec nl (.parr 1 c bsh (l.map bsPV))] [(0, wrR 2 m), (2, Bw m q)] (.tup []) := by
 refine pO Try.func24 (by kernel_rfl) ?_
 have hx := bs_ok ho (i := 0) (by omega)
 have g := QN (l := l) (i := 0) (by omega)
 have hpq : b ++ cat (l.drop 0) = q := hq
 rw [Nb (by omega), ← List.append_assoc] at hpq
 generalize l.getD 0 default = x at *
 obtain ⟨xn, xm, xl⟩ := x
 have hxl := hx.len
 dsimp only at hxl hpq
 have hlen := congrArg List.length hpq
 rw [List.length_append, List.length_append, hb, hxl] at hlen
 have hw := W_put (nl := nl) hc ho (by rw [hql]; exact hm) hcc (c - 1) 1 (n + xm) (b ++ xl) (by omega) (by rw [List.length_append, hb, hxl]) hpq
 rw [hql] at hw hlen
 generalize l.map bsPV = L at *
 refine W.sgA 0 [] [(0, 0), (1, 1)] (dsPut0 nl c L n b) [] trivial ?_
 refine W.sgA 0 [(0, aT), (2, aE g), (10, Ans.ups [(1, none), (224, some (Row.mk (B8 (n + xm) (b ++ xl)) false))]), (14, aV (I6 1))] [(0, 0), (1, 1), (224, 2)] (dsPut nl c L (n + xm) (b ++ xl) 1) [decide (0 < (c:Int)) = true, (0 : Int) ≤ 0, 0 < (c:Int), _, 0 < c, ([(1, none), (224, some (Row.mk (B8 (n + xm) (List.take n b ++ xl)) false))] : List (Nat × Option Row)) = [(1, none), (224, some (Row.mk (B8 (n + xm) (b ++ xl)) false))], 0 + n = n, (n + xm) * 1 ≤ 140737488355328, n + xm ≤ 9223372036854775807, I6 (IntKind.wrap .i64 ((0 : Int) + (1 : Int))) = I6 1] (ac (dT (by omega)) (ob2 (by omega) (ac (ex g) (ac (by omega) (ac (by rw [List.take_of_length_le (show List.length b ≤ n by omega)]) (ac (by omega) (ob2 (by omega) (ao (wj (by omega)))))))))) ?_
 exact hw
theorem JO {n : Nat} {l : Liz} (h0 : 0 < n) (hn : n ≤ 1000000000) (hl : l.length = n) : Pt 25 [(0, wrR 1 n), (1, Bw n l)] [.at 0 []] [(0, wrR 1 n), (1, Bw n l), (2, Bw n l)] (.ref 2 [] 1 0 n) := by
 refine pO Try.func25 (by kernel_rfl) ?_
 have c1 := PY (nl := false) h0 hn hl
 refine W.rtA [(5, cL true [] c1)] [(0, 0), (1, 1), (145, 2)] [0 + n ≤ n, rr ([] : List (Nat × Row)), ([PV.vec false (B8 n (List.take n l))] : List PV) = [PV.vec false (B8 n l)], _] (ac (by omega) (ac rfl (ac (by rw [List.take_of_length_le (show List.length l ≤ n by omega)]) (ao (c1)))))
end Go.Proofs
namespace Go.Proofs
open Go Go.Pe Go.Pm
set_option maxRecDepth 100000
set_option linter.unusedVariables false
theorem FW {l : List Int} (h : Bytes l) : bytesOf (strOf l) = l := by
 unfold bytesOf strOf
 simp only [List.map_map]
 conv => rhs; rw [← List.map_id l]
 apply List.map_congr_left
 intro x hx
 have := h x hx
 simp only [Function.comp, id]
 rw [UInt8.toNat_ofNat_of_lt' (by simp [UInt8.size]; omega)]
 omega
theorem Gx (l : List Int) : (strOf l).size = l.length := by show (l.map _).length = _; rw [List.length_map]
end Go.Proofs
namespace Go.Pm
def lv (l : List Int) : Nat → Nat
 | 0 => 0
 | k + 1 => lv l k + at0 l k * 2 ^ (8 * k)
theorem pow8 (k : Nat) : 2 ^ (8 * (k + 1)) = 256 * 2 ^ (8 * k) := by rw [Nat.mul_add, Nat.pow_add, Nat.mul_comm]
theorem Im {l : List Int} (h : Bytes l) : ∀ k, lv l k < 2 ^ (8 * k)
 | 0 => by simp [lv]
 | k + 1 => by
  have h1 := Im h k
  have h2 := (h.get k).2
  have h3 : at0 l k * 2 ^ (8 * k) ≤ 255 * 2 ^ (8 * k) := Nat.mul_le_mul_right _ (by omega)
  rw [lv, pow8]
  omega
theorem lv_or {l : List Int} (h : Bytes l) (k : Nat) : lv l k ||| at0 l k * 2 ^ (8 * k) = lv l (k + 1) := by
 have h1 := Im h k
 rw [lv, Nat.or_comm, Nat.mul_comm (at0 l k), ← Nat.two_pow_add_eq_or_of_lt h1, Nat.add_comm]
theorem Rw {l : List Int} {a i : Nat} (h : i < a) : at0 (l.take a) i = at0 l i := by
 unfold at0
 rw [List.getD_eq_getElem?_getD, List.getElem?_take_of_lt h, List.getD_eq_getElem?_getD]
theorem Oy {l : List Int} {a : Nat} : ∀ {k : Nat}, k ≤ a → lv (l.take a) k = lv l k
 | 0, _ => rfl
 | k + 1, h => by rw [lv, lv, Oy (by omega), Rw (by omega)]
end Go.Pm
namespace Go.Proofs
open Go Go.Pe Go.Pm
set_option maxRecDepth 100000
set_option linter.unusedVariables false
def Oa (nl : Bool) (n c : Nat) (l : List Int) (x i : Nat) : DS := ⟨[(0, .vec nl (.iarr .u8 n l)), (3, .int .u64 x), (7, .int .i64 c), (8, .int .i64 i)], []⟩
theorem QQ {nl : Bool} {n c : Nat} {l : Liz} (hl : l.length = n) (hb : Bytes l) (hc : c ≤ 8) (hcn : c ≤ n) : ∀ (k i x : Nat), i + k = c → x = lv l i →
  Wt Try.f69 [] [] (.int .u64 ((lv l c : Nat) : Int)) (Aa Try.f69 0) (Oa nl n c l x i)
 | 0, i, x, hk, hx => by
  have hi : i = c := by omega
  subst hi
  rw [← hx]
  refine W.rtA [(0, aF)] [] [decide ((i:Int) < (i:Int)) = false] (ao (dF (by omega)))
 | k + 1, i, x, hk, hx => by
  obtain ⟨e, h1⟩ := hb.get i
  have ho := lv_or hb i
  have hlt := Im hb (i + 1)
  have hle : 2 ^ (8 * (i + 1)) ≤ 2 ^ 64 := Nat.pow_le_pow_right (by omega) (by omega)
  have hxl : lv l (i + 1) < 18446744073709551616 := Nat.lt_of_lt_of_le hlt hle
  have hstep : lv l (i + 1) = lv l i + at0 l i * 2 ^ (8 * i) := rfl
  rw [← hx] at ho hstep
  have hmod : at0 l i * 2 ^ (8 * i) % 18446744073709551616 = at0 l i * 2 ^ (8 * i) := Nat.mod_eq_of_lt (by omega)
  have hw := QQ (nl := nl) hl hb hc hcn k (i + 1) (lv l (i + 1)) (by omega) rfl
  have hxlt : x < 18446744073709551616 := by omega
  have hmodl : at0 l i * 2 ^ (8 * i) % 18446744073709551616 < 18446744073709551616 := Nat.mod_lt _ (by decide)
  have hor : ((x ||| at0 l i * 2 ^ (8 * i) % 18446744073709551616 : Nat) : Int) = ((lv l (i + 1) : Nat) : Int) := by rw [hmod, ho]
  generalize lv l (i + 1) = y at *
  generalize lv l c = z at *
  generalize at0 l i = b at *
  refine W.sgA 0 [(0, aT), (7, aV (U8 b)), (8, aV (U6 b)), (10, aV (I6 ↑(8 * i))), (11, aV (U6 ↑(b * 2 ^ (8 * i) % 18446744073709551616))), (12, aV (U6 ↑(x ||| b * 2 ^ (8 * i) % 18446744073709551616))), (13, aV (U6 y)), (14, aV (I6 ↑(i + 1)))] [] (Oa nl n c l y (i + 1)) [decide ((i:Int) < (c:Int)) = true, 0 ≤ (i:Int), (i:Int) < (n:Int), U8 (List.getD l i (0 : Int)) = U8 b, i < n, U6 (IntKind.wrap .u64 (b:Int)) = U6 b, I6 (IntKind.wrap .i64 (8 * (i:Int))) = I6 ↑(8 * i), U6 (IntKind.wrap .u64 ((b:Int) * (2 : Int) ^ min (Int.toNat (↑(8 * i) : Int)) 64)) = U6 ↑(b * 2 ^ (8 * i) % 18446744073709551616), 0 ≤ (↑(8 * i) : Int), U6 (bits BinOp.or .u64 (x:Int) (↑(b * 2 ^ (8 * i) % 18446744073709551616) : Int)) = U6 ↑(x ||| b * 2 ^ (8 * i) % 18446744073709551616), U6 ↑(x ||| b * 2 ^ (8 * i) % 18446744073709551616) = U6 y, I6 (IntKind.wrap .i64 ((i:Int) + 1)) = I6 ↑(i + 1)] (ac (dT (by omega)) (ob2 (by omega) (ac (cg (e)) (ac (by omega) (ac (cg (Au rfl (by omega) (by omega))) (ac (wj (by omega)) (ac (cg (Hl rfl rfl)) (ac (by omega) (ac (cg (GJ rfl rfl (by omega) (by omega))) (ac (cg (hor)) (ao (wj (by omega))))))))))))) ?_
  exact hw
theorem Je {nl : Bool} {n : Nat} {l : Liz} (hl : l.length = n) (hb : Bytes l) : Pt 69 [] [.vec nl (.iarr .u8 n l)] [] (.int .u64 ((lv l (min n 8) : Nat) : Int)) := by
 refine pO Try.func69 (by kernel_rfl) ?_
 have hm : mn (n : Int) 8 = ((min n 8 : Nat) : Int) := by unfold mn; split <;> omega
 have hw := QQ (nl := nl) hl hb (c := min n 8) (by omega) (by omega) (min n 8) 0 0 (by omega) rfl
 generalize lv l (min n 8) = z at *
 generalize min n 8 = c at *
 refine W.sgA 0 [(4, aV (I6 c))] [] (Oa nl n c l 0 0) [I6 (mn (n:Int) (8 : Int)) = I6 c] (ao (cg (hm))) ?_
 exact hw
end Go.Proofs
namespace Go.Pm
open Go
def rl (x k : Nat) : Nat := x * 2 ^ k % 18446744073709551616 ||| x / 2 ^ (64 - k)
theorem FZ {x k : Nat} (h : x < 18446744073709551616) : rl x k < 18446744073709551616 :=
 Nat.or_lt_two_pow (n := 64) (Nat.mod_lt _ (by decide)) (Nat.lt_of_le_of_lt (Nat.div_le_self _ _) h)
theorem Cj {x y : Nat} (h : x < 18446744073709551616) (g : y < 18446744073709551616) : x ^^^ y < 18446744073709551616 := Nat.xor_lt_two_pow (n := 64) h g
theorem F4 (x : Nat) : x % 18446744073709551616 < 18446744073709551616 := Nat.mod_lt _ (by decide)
structure V4 where
 a : Nat
 b : Nat
 c : Nat
 d : Nat
structure V4.Ok (v : V4) : Prop where
 a : v.a < 18446744073709551616
 b : v.b < 18446744073709551616
 c : v.c < 18446744073709551616
 d : v.d < 18446744073709551616
def r1a (v : V4) : Nat := (v.a + v.b) % 18446744073709551616
def r1b (v : V4) : Nat := rl v.b 13 ^^^ r1a v
def r2a (v : V4) : Nat := rl (r1a v) 32
def r1c (v : V4) : Nat := (v.c + v.d) % 18446744073709551616
def r1d (v : V4) : Nat := rl v.d 16 ^^^ r1c v
def r3a (v : V4) : Nat := (r2a v + r1d v) % 18446744073709551616
def r2d (v : V4) : Nat := rl (r1d v) 21 ^^^ r3a v
def r2c (v : V4) : Nat := (r1c v + r1b v) % 18446744073709551616
def r2b (v : V4) : Nat := rl (r1b v) 17 ^^^ r2c v
def rnd (v : V4) : V4 := ⟨r3a v, r2b v, rl (r2c v) 32, r2d v⟩
theorem V4.Ok.r1b {v : V4} (h : v.Ok) : Go.Pm.r1b v < 18446744073709551616 := Cj (FZ h.b) (F4 _)
theorem V4.Ok.r1d {v : V4} (h : v.Ok) : Go.Pm.r1d v < 18446744073709551616 := Cj (FZ h.d) (F4 _)
theorem V4.Ok.rnd {v : V4} (h : v.Ok) : (rnd v).Ok :=
 ⟨F4 _, Cj (FZ h.r1b) (F4 _), FZ (F4 _), Cj (FZ h.r1d) (F4 _)⟩
def tk (v : V4) (m : Nat) : V4 := ⟨(rnd (rnd ⟨v.a, v.b, v.c, v.d ^^^ m⟩)).a ^^^ m, (rnd (rnd ⟨v.a, v.b, v.c, v.d ^^^ m⟩)).b, (rnd (rnd ⟨v.a, v.b, v.c, v.d ^^^ m⟩)).c, (rnd (rnd ⟨v.a, v.b, v.c, v.d ^^^ m⟩)).d⟩
theorem V4.Ok.tk {v : V4} (h : v.Ok) {m : Nat} (hm : m < 18446744073709551616) : (tk v m).Ok := by
 have h2 : (Go.Pm.rnd (Go.Pm.rnd ⟨v.a, v.b, v.c, v.d ^^^ m⟩)).Ok := V4.Ok.rnd (V4.Ok.rnd ⟨h.a, h.b, h.c, Cj h.d hm⟩)
 exact ⟨Cj h2.a hm, h2.b, h2.c, h2.d⟩
def sipB (v : V4) (l : List Int) : Nat → V4
 | 0 => v
 | q + 1 => sipB (tk v (lv l 8)) (l.drop 8) q
def J9 (k0 k1 : Nat) : V4 := ⟨k0 ^^^ 8317987319222330741, k1 ^^^ 7237128888997146477, k0 ^^^ 7816392313619706465, k1 ^^^ 8387220255154660723⟩
def sipE (v : V4) : V4 := rnd (rnd (rnd (rnd ⟨v.a, v.b, v.c ^^^ 255, v.d⟩)))
def sipX (v : V4) : Nat := v.a ^^^ v.b ^^^ v.c ^^^ v.d
def sipF (v : V4) (l : List Int) (n : Nat) : Nat := sipX (sipE (tk v (n % 256 * 72057594037927936 ||| lv l l.length)))
def sipM (k0 k1 : Nat) (l : List Int) : Nat := sipF (sipB (J9 k0 k1) l (l.length / 8)) (l.drop (8 * (l.length / 8))) l.length
theorem sipX_lt {v : V4} (h : v.Ok) : sipX v < 18446744073709551616 := Cj (Cj (Cj h.a h.b) h.c) h.d
theorem O9 {k0 k1 : Nat} (h0 : k0 < 18446744073709551616) (h1 : k1 < 18446744073709551616) : (J9 k0 k1).Ok := ⟨Cj h0 (by decide), Cj h1 (by decide), Cj h0 (by decide), Cj h1 (by decide)⟩
end Go.Pm
namespace Go.Proofs
open Go Go.Pe Go.Pm
set_option maxRecDepth 100000
set_option linter.unusedVariables false
def _root_.Go.Pm.V4.pv (v : V4) : PV := .iarr .u64 4 [(v.a : Int), (v.b : Int), (v.c : Int), (v.d : Int)]
theorem Dt {x k : Nat} (hx : x < 18446744073709551616) (hk0 : 0 < k) (hk : k < 64) : Pt 84 [] [.int .u64 x, .int .i64 k] [] (.int .u64 ((rl x k : Nat) : Int)) := by
 refine pO Try.func84 (by kernel_rfl) ?_
 have h1 : x / 2 ^ (64 - k) < 18446744073709551616 := Nat.lt_of_le_of_lt (Nat.div_le_self _ _) hx
 have h2 : x * 2 ^ k % 18446744073709551616 < 18446744073709551616 := Nat.mod_lt _ (by decide)
 have h3 : ((k % 64 : Nat) : Int) = (k : Int) := by omega
 have h4 : (64 : Int) - k = ((64 - k : Nat) : Int) := by omega
 unfold rl
 generalize 64 - k = j at *
 refine W.rtA [(2, aV (U6 k)), (3, aV (U6 k)), (7, aV (U6 ↑(x * 2 ^ k % 18446744073709551616))), (10, aV (U6 j)), (11, aV (U6 ↑(x / 2 ^ j))), (12, aV (U6 ↑(x * 2 ^ k % 18446744073709551616 ||| x / 2 ^ j)))] [] [U6 (IntKind.wrap .u64 (k:Int)) = U6 k, U6 (Int.tmod (k:Int) (64 : Int)) = U6 k, (64 : Int) ≠ 0, U6 (IntKind.wrap .u64 ((x:Int) * (2 : Int) ^ min k 64)) = U6 ↑(x * 2 ^ k % 18446744073709551616), 0 ≤ (k:Int), U6 (IntKind.wrap .u64 (64 - (k:Int))) = U6 j, U6 (Int.fdiv (x:Int) ((2 : Int) ^ min j 64)) = U6 ↑(x / 2 ^ j), 0 ≤ (j:Int), U6 (bits BinOp.or .u64 (↑(x * 2 ^ k % 18446744073709551616) : Int) (↑(x / 2 ^ j) : Int)) = U6 ↑(x * 2 ^ k % 18446744073709551616 ||| x / 2 ^ j)] (ac (cg (Au rfl (by omega) (by omega))) (ac (cg (h3)) (ac (by omega) (ac (cg (Hl (y := ((k : Nat) : Int)) rfl rfl)) (ac (by omega) (ac (cg (Au h4 (by omega) (by omega))) (ac (cg (CK rfl rfl (by omega))) (ac (by omega) (ao (cg (GJ rfl rfl (by omega) (by omega))))))))))))
theorem Dn {v : V4} (h : v.Ok) : Pt 70 [] [v.pv] [] (rnd v).pv := by
 refine pO Try.func70 (by kernel_rfl) ?_
 have i1 := h.r1b
 have i2 := h.r1d
 have m1 : r1a v < 18446744073709551616 := F4 _
 have m2 : r1c v < 18446744073709551616 := F4 _
 have m3 : r3a v < 18446744073709551616 := F4 _
 have m4 : r2c v < 18446744073709551616 := F4 _
 have s1 := Dt (k := 13) h.b (by omega) (by omega)
 have s2 := Dt (k := 32) m1 (by omega) (by omega)
 have s3 := Dt (k := 16) h.d (by omega) (by omega)
 have s4 := Dt (k := 21) i2 (by omega) (by omega)
 have s5 := Dt (k := 17) i1 (by omega) (by omega)
 have s6 := Dt (k := 32) m4 (by omega) (by omega)
 have e1 : ((((v.a + v.b) % 18446744073709551616 : Nat)) : Int) = (r1a v : Int) := rfl
 have e2 : ((((v.c + v.d) % 18446744073709551616 : Nat)) : Int) = (r1c v : Int) := rfl
 have e3 : ((((r2a v + r1d v) % 18446744073709551616 : Nat)) : Int) = (r3a v : Int) := rfl
 have e4 : ((((r1c v + r1b v) % 18446744073709551616 : Nat)) : Int) = (r2c v : Int) := rfl
 have x1 : ((rl v.b 13 ^^^ r1a v : Nat) : Int) = (r1b v : Int) := rfl
 have x2 : ((rl v.d 16 ^^^ r1c v : Nat) : Int) = (r1d v : Int) := rfl
 have x3 : ((rl (r1d v) 21 ^^^ r3a v : Nat) : Int) = (r2d v : Int) := rfl
 have x4 : ((rl (r1b v) 17 ^^^ r2c v : Nat) : Int) = (r2b v : Int) := rfl
 have l1 := FZ (k := 13) h.b
 have l2 := FZ (k := 32) m1
 have l3 := FZ (k := 16) h.d
 have l4 := FZ (k := 21) i2
 have l5 := FZ (k := 17) i1
 have ea : rl (r1a v) 32 = r2a v := rfl
 rw [ea] at s2 l2
 unfold rnd V4.pv
 dsimp only
 have q1 := h.a
 have q2 := h.b
 have q3 := h.c
 have q4 := h.d
 obtain ⟨a, b, c, d⟩ := v
 dsimp only at *
 generalize r1a ⟨a, b, c, d⟩ = a1 at *
 generalize r1b ⟨a, b, c, d⟩ = b1 at *
 generalize r1c ⟨a, b, c, d⟩ = c1 at *
 generalize r1d ⟨a, b, c, d⟩ = d1 at *
 generalize r2a ⟨a, b, c, d⟩ = a2 at *
 generalize r3a ⟨a, b, c, d⟩ = a3 at *
 generalize r2d ⟨a, b, c, d⟩ = d2 at *
 generalize r2c ⟨a, b, c, d⟩ = c2 at *
 generalize r2b ⟨a, b, c, d⟩ = b2 at *
 generalize rl b 13 = y1 at *
 generalize rl d 16 = y2 at *
 generalize rl d1 21 = y3 at *
 generalize rl b1 17 = y4 at *
 generalize rl c2 32 = c3 at *
 refine W.rtA [(16, aV (U6 ↑((a + b) % 18446744073709551616))), (17, aV (U6 a1)), (19, c9 s1), (21, aV (U6 ↑(y1 ^^^ a1))), (22, aV (U6 b1)), (24, c9 s2), (28, aV (U6 ↑((c + d) % 18446744073709551616))), (29, aV (U6 c1)), (31, c9 s3), (33, aV (U6 ↑(y2 ^^^ c1))), (34, aV (U6 d1)), (37, aV (U6 ↑((a2 + d1) % 18446744073709551616))), (38, aV (U6 a3)), (40, c9 s4), (42, aV (U6 ↑(y3 ^^^ a3))), (43, aV (U6 d2)), (46, aV (U6 ↑((c1 + b1) % 18446744073709551616))), (47, aV (U6 c2)), (49, c9 s5), (51, aV (U6 ↑(y4 ^^^ c2))), (52, aV (U6 b2)), (54, c9 s6)] [] [(0 : Int) ≤ 0, 0 < (↑(4 : Nat) : Int), 0 < 4, (0 : Int) ≤ 1, 1 < (↑(4 : Nat) : Int), 1 < 4, (0 : Int) ≤ 2, 2 < (↑(4 : Nat) : Int), 2 < 4, (0 : Int) ≤ 3, 3 < (↑(4 : Nat) : Int), 3 < 4, U6 (IntKind.wrap .u64 ((a:Int) + (b:Int))) = U6 ↑((a + b) % 18446744073709551616), U6 ↑((a + b) % 18446744073709551616) = U6 a1, _, U6 (bits BinOp.xor .u64 (y1:Int) (a1:Int)) = U6 ↑(y1 ^^^ a1), U6 ↑(y1 ^^^ a1) = U6 b1, _, U6 (IntKind.wrap .u64 ((c:Int) + (d:Int))) = U6 ↑((c + d) % 18446744073709551616), U6 ↑((c + d) % 18446744073709551616) = U6 c1, _, U6 (bits BinOp.xor .u64 (y2:Int) (c1:Int)) = U6 ↑(y2 ^^^ c1), U6 ↑(y2 ^^^ c1) = U6 d1, U6 (IntKind.wrap .u64 ((a2:Int) + (d1:Int))) = U6 ↑((a2 + d1) % 18446744073709551616), U6 ↑((a2 + d1) % 18446744073709551616) = U6 a3, _, U6 (bits BinOp.xor .u64 (y3:Int) (a3:Int)) = U6 ↑(y3 ^^^ a3), U6 ↑(y3 ^^^ a3) = U6 d2, U6 (IntKind.wrap .u64 ((c1:Int) + (b1:Int))) = U6 ↑((c1 + b1) % 18446744073709551616), U6 ↑((c1 + b1) % 18446744073709551616) = U6 c2, _, U6 (bits BinOp.xor .u64 (y4:Int) (c2:Int)) = U6 ↑(y4 ^^^ c2), U6 ↑(y4 ^^^ c2) = U6 b2, _] (ob4 (by omega) (ob4 (by omega) (ob4 (by omega) (ac (cg (GA rfl)) (ac (cg (e1)) (ac (s1) (ac (cg (AZ rfl rfl (by omega) (by omega))) (ac (cg (x1)) (ac (s2) (ac (cg (GA rfl)) (ac (cg (e2)) (ac (s3) (ac (cg (AZ rfl rfl (by omega) (by omega))) (ac (cg (x2)) (ac (cg (GA rfl)) (ac (cg (e3)) (ac (s4) (ac (cg (AZ rfl rfl (by omega) (by omega))) (ac (cg (x3)) (ac (cg (GA rfl)) (ac (cg (e4)) (ac (s5) (ac (cg (AZ rfl rfl (by omega) (by omega))) (ac (cg (x4)) (ao (s6))))))))))))))))))))))))))
theorem MR {v : V4} (h : v.Ok) {m : Nat} (hm : m < 18446744073709551616) : Pt 68 [] [v.pv, .int .u64 m] [] (tk v m).pv := by
 refine pO Try.func68 (by kernel_rfl) ?_
 have h0 : (⟨v.a, v.b, v.c, v.d ^^^ m⟩ : V4).Ok := ⟨h.a, h.b, h.c, Cj h.d hm⟩
 have s1 := Dn h0
 have h1 := h0.rnd
 have s2 := Dn h1
 have h2 := h1.rnd
 have q1 := h2.a
 have q2 := h.d
 have q3 := Cj h.d hm
 have q4 := Cj h2.a hm
 unfold tk
 generalize rnd (rnd ⟨v.a, v.b, v.c, v.d ^^^ m⟩) = w at *
 unfold V4.pv at *
 dsimp only at *
 generalize rnd ⟨v.a, v.b, v.c, v.d ^^^ m⟩ = u at *
 obtain ⟨a, b, c, d⟩ := v
 dsimp only at *
 refine W.rtA [(5, aV (U6 ↑(d ^^^ m))), (9, c9 s1), (10, c9 s2), (15, aV (U6 ↑(V4.a w ^^^ m)))] [] [(0 : Int) ≤ 3, 3 < (↑(4 : Nat) : Int), 3 < 4, U6 (bits BinOp.xor .u64 (d:Int) (m:Int)) = U6 ↑(d ^^^ m), (0 : Int) ≤ 3, 3 < (↑(4 : Nat) : Int), 3 < 4, _, _, (0 : Int) ≤ 0, 0 < (↑(4 : Nat) : Int), 0 < 4, U6 (bits BinOp.xor .u64 (↑(V4.a w) : Int) (m:Int)) = U6 ↑(V4.a w ^^^ m), (0 : Int) ≤ 0, 0 < (↑(4 : Nat) : Int), 0 < 4] (ob3 (by omega) (ac (cg (AZ rfl rfl (by omega) (by omega))) (ob3 (by omega) (ac (s1) (ac (s2) (ob3 (by omega) (ac (cg (AZ rfl rfl (by omega) (by omega))) (ob2 (by omega) (ao (by omega))))))))))
end Go.Proofs
namespace Go.Proofs
open Go Go.Pe Go.Pm
set_option maxRecDepth 100000
set_option linter.unusedVariables false
set_option maxHeartbeats 4000000 in
theorem RB {x y : Nat} (hx : x < 18446744073709551616) (hy : y < 18446744073709551616) : Pt 67 [] [.int .u64 x, .int .u64 y] [] (.tup [.int .u64 ((x * y / 18446744073709551616 : Nat) : Int), .int .u64 ((x * y % 18446744073709551616 : Nat) : Int)]) := by
 refine pO Try.func67 (by kernel_rfl) ?_
 obtain ⟨h1, h2, h3, h4⟩ := Go.Lib.mul64_hi x y hx hy
 have ha := Go.Lib.half_mul_le (a := x / 4294967296) (b := y / 4294967296) (by omega) (by omega)
 have hb := Go.Lib.half_mul_le (a := x / 4294967296) (b := y % 4294967296) (by omega) (by omega)
 have hc := Go.Lib.half_mul_le (a := x % 4294967296) (b := y / 4294967296) (by omega) (by omega)
 have hd := Go.Lib.half_mul_le (a := x % 4294967296) (b := y % 4294967296) (by omega) (by omega)
 refine W.ret [(3, aV (U6 ↑(x % 4294967296))), (6, aV (U6 ↑(x / 4294967296))), (9, aV (U6 ↑(y % 4294967296))), (12, aV (U6 ↑(y / 4294967296))), (16, aV (U6 ↑(x % 4294967296 * (y % 4294967296)))), (20, aV (U6 ↑(x / 4294967296 * (y % 4294967296)))), (22, aV (U6 ↑(x % 4294967296 * (y % 4294967296) / 4294967296))), (23, aV (U6 ↑(x / 4294967296 * (y % 4294967296) + x % 4294967296 * (y % 4294967296) / 4294967296))), (26, aV (U6 ↑((x / 4294967296 * (y % 4294967296) + x % 4294967296 * (y % 4294967296) / 4294967296) % 4294967296))), (29, aV (U6 ↑((x / 4294967296 * (y % 4294967296) + x % 4294967296 * (y % 4294967296) / 4294967296) / 4294967296))), (34, aV (U6 ↑(x % 4294967296 * (y / 4294967296)))), (35, aV (U6 ↑((x / 4294967296 * (y % 4294967296) + x % 4294967296 * (y % 4294967296) / 4294967296) % 4294967296 + x % 4294967296 * (y / 4294967296)))), (39, aV (U6 ↑(x / 4294967296 * (y / 4294967296)))), (41, aV (U6 ↑(x / 4294967296 * (y / 4294967296) + (x / 4294967296 * (y % 4294967296) + x % 4294967296 * (y % 4294967296) / 4294967296) / 4294967296))), (43, aV (U6 ↑(((x / 4294967296 * (y % 4294967296) + x % 4294967296 * (y % 4294967296) / 4294967296) % 4294967296 + x % 4294967296 * (y / 4294967296)) / 4294967296))), (44, aV (U6 ↑(x / 4294967296 * (y / 4294967296) + (x / 4294967296 * (y % 4294967296) + x % 4294967296 * (y % 4294967296) / 4294967296) / 4294967296 + ((x / 4294967296 * (y % 4294967296) + x % 4294967296 * (y % 4294967296) / 4294967296) % 4294967296 + x % 4294967296 * (y / 4294967296)) / 4294967296))), (48, aV (U6 ↑(x * y % 18446744073709551616)))] [] [U6 (bits BinOp.and .u64 (x:Int) (4294967295 : Int)) = U6 ↑(x % 4294967296), U6 (Int.fdiv (x:Int) ((2 : Int) ^ 32)) = U6 ↑(x / 4294967296), (0 : Int) ≤ 32, U6 (bits BinOp.and .u64 (y:Int) (4294967295 : Int)) = U6 ↑(y % 4294967296), U6 (Int.fdiv (y:Int) ((2 : Int) ^ 32)) = U6 ↑(y / 4294967296), (0 : Int) ≤ 32, U6 (IntKind.wrap .u64 ((↑(x % 4294967296) : Int) * (↑(y % 4294967296) : Int))) = U6 ↑(x % 4294967296 * (y % 4294967296)), U6 (IntKind.wrap .u64 ((↑(x / 4294967296) : Int) * (↑(y % 4294967296) : Int))) = U6 ↑(x / 4294967296 * (y % 4294967296)), U6 (Int.fdiv (↑(x % 4294967296 * (y % 4294967296)) : Int) ((2 : Int) ^ 32)) = U6 ↑(x % 4294967296 * (y % 4294967296) / 4294967296), (0 : Int) ≤ 32, U6 (IntKind.wrap .u64 ((↑(x / 4294967296 * (y % 4294967296)) : Int) + (↑(x % 4294967296 * (y % 4294967296) / 4294967296) : Int))) = U6 ↑(x / 4294967296 * (y % 4294967296) + x % 4294967296 * (y % 4294967296) / 4294967296), U6 (bits BinOp.and .u64 (↑(x / 4294967296 * (y % 4294967296) + x % 4294967296 * (y % 4294967296) / 4294967296) : Int) (4294967295 : Int)) = U6 ↑((x / 4294967296 * (y % 4294967296) + x % 4294967296 * (y % 4294967296) / 4294967296) % 4294967296), U6 (Int.fdiv (↑(x / 4294967296 * (y % 4294967296) + x % 4294967296 * (y % 4294967296) / 4294967296) : Int) ((2 : Int) ^ 32)) = U6 ↑((x / 4294967296 * (y % 4294967296) + x % 4294967296 * (y % 4294967296) / 4294967296) / 4294967296), (0 : Int) ≤ 32, U6 (IntKind.wrap .u64 ((↑(x % 4294967296) : Int) * (↑(y / 4294967296) : Int))) = U6 ↑(x % 4294967296 * (y / 4294967296)), U6 (IntKind.wrap .u64 ((↑((x / 4294967296 * (y % 4294967296) + x % 4294967296 * (y % 4294967296) / 4294967296) % 4294967296) : Int) + (↑(x % 4294967296 * (y / 4294967296)) : Int))) = U6 ↑((x / 4294967296 * (y % 4294967296) + x % 4294967296 * (y % 4294967296) / 4294967296) % 4294967296 + x % 4294967296 * (y / 4294967296)), U6 (IntKind.wrap .u64 ((↑(x / 4294967296) : Int) * (↑(y / 4294967296) : Int))) = U6 ↑(x / 4294967296 * (y / 4294967296)), U6 (IntKind.wrap .u64 ((↑(x / 4294967296 * (y / 4294967296)) : Int) + (↑((x / 4294967296 * (y % 4294967296) + x % 4294967296 * (y % 4294967296) / 4294967296) / 4294967296) : Int))) = U6 ↑(x / 4294967296 * (y / 4294967296) + (x / 4294967296 * (y % 4294967296) + x % 4294967296 * (y % 4294967296) / 4294967296) / 4294967296), U6 (Int.fdiv (↑((x / 4294967296 * (y % 4294967296) + x % 4294967296 * (y % 4294967296) / 4294967296) % 4294967296 + x % 4294967296 * (y / 4294967296)) : Int) ((2 : Int) ^ 32)) = U6 ↑(((x / 4294967296 * (y % 4294967296) + x % 4294967296 * (y % 4294967296) / 4294967296) % 4294967296 + x % 4294967296 * (y / 4294967296)) / 4294967296), (0 : Int) ≤ 32, U6 (IntKind.wrap .u64 ((↑(x / 4294967296 * (y / 4294967296) + (x / 4294967296 * (y % 4294967296) + x % 4294967296 * (y % 4294967296) / 4294967296) / 4294967296) : Int) + (↑(((x / 4294967296 * (y % 4294967296) + x % 4294967296 * (y % 4294967296) / 4294967296) % 4294967296 + x % 4294967296 * (y / 4294967296)) / 4294967296) : Int))) = U6 ↑(x / 4294967296 * (y / 4294967296) + (x / 4294967296 * (y % 4294967296) + x % 4294967296 * (y % 4294967296) / 4294967296) / 4294967296 + ((x / 4294967296 * (y % 4294967296) + x % 4294967296 * (y % 4294967296) / 4294967296) % 4294967296 + x % 4294967296 * (y / 4294967296)) / 4294967296), U6 (IntKind.wrap .u64 ((x:Int) * (y:Int))) = U6 ↑(x * y % 18446744073709551616), PV.tup [U6 ↑(x / 4294967296 * (y / 4294967296) + (x / 4294967296 * (y % 4294967296) + x % 4294967296 * (y % 4294967296) / 4294967296) / 4294967296 + ((x / 4294967296 * (y % 4294967296) + x % 4294967296 * (y % 4294967296) / 4294967296) % 4294967296 + x % 4294967296 * (y / 4294967296)) / 4294967296), U6 ↑(x * y % 18446744073709551616)] = PV.tup [U6 ↑(x * y / 18446744073709551616), U6 ↑(x * y % 18446744073709551616)]] (by kernel_rfl) (ac (cg (Du 32 rfl rfl (by omega) (by decide))) (ac (cg (A7 (y := 32) (s := 32) rfl rfl (by decide) (by omega))) (ac (by omega) (ac (cg (Du 32 rfl rfl (by omega) (by decide))) (ac (cg (A7 (y := 32) (s := 32) rfl rfl (by decide) (by omega))) (ac (by omega) (ac (cg (Au rfl (by omega) (by omega))) (ac (cg (Au rfl (by omega) (by omega))) (ac (cg (A7 (y := 32) (s := 32) rfl rfl (by decide) (by omega))) (ac (by omega) (ac (cg (Au rfl (by omega) (by omega))) (ac (cg (Du 32 rfl rfl (by omega) (by decide))) (ac (cg (A7 (y := 32) (s := 32) rfl rfl (by decide) (by omega))) (ac (by omega) (ac (cg (Au rfl (by omega) (by omega))) (ac (cg (Au rfl (by omega) (by omega))) (ac (cg (Au rfl (by omega) (by omega))) (ac (cg (Au rfl (by omega) (by omega))) (ac (cg (A7 (y := 32) (s := 32) rfl rfl (by decide) (by omega))) (ac (by omega) (ac (cg (Au rfl (by omega) (by omega))) (ac (cg (GA rfl)) (ao (by (simp [*]; done)))))))))))))))))))))))))
theorem md (x : Nat) : x % 18446744073709551616 < 18446744073709551616 := Nat.mod_lt _ (by omega)
end Go.Proofs
namespace Go.Proofs
open Go Go.Pe Go.Pm
set_option maxRecDepth 100000
set_option linter.unusedVariables false
attribute [local irreducible] lv
def dSp (nl : Bool) (m : Nat) (l : List Int) (v : V4) (t : Nat) : DS := ⟨[(1, .vec nl (.iarr .u8 m l)), (5, .at 1 []), (6, .int .u64 t)], [(1, ⟨v.pv, false⟩)]⟩
def dSq (v : V4) (i : Nat) : DS := ⟨[(5, .at 1 []), (44, .int .i64 i)], [(1, ⟨v.pv, false⟩)]⟩
theorem W_spS {nl : Bool} {m t k : Nat} {l : Liz} {v w : V4} {hout : Lrz} {res : PV} (hm1 : m + 8 ≤ 1000000) (hl : l.length = m + 8) (hk : k < 18446744073709551616) (c1 : Pt 69 [] [.vec nl (.iarr .u8 (m + 8) l)] [] (.int .u64 k)) (c2 : Pt 68 [] [v.pv, .int .u64 k] [] w.pv)
  (hw : Wt Try.f43 [] hout res (Aa Try.f43 0) (dSp nl m (l.drop 8) w t)) : Wt Try.f43 [] hout res (Aa Try.f43 0) (dSp nl (m + 8) l v t) := by
 unfold V4.pv at c2
 refine W.seg [(2, aT), (5, c9 c1), (6, c9 c2), (9, aV (PV.vec nl (B8 m (List.take m (F3 l 8)))))] (rI 1) (dSp nl m (l.drop 8) w t) (todo' := Aa Try.f43 0) [decide ((↑(m + 8) : Int) ≥ 8) = true, _, _, PV.vec nl (B8 (Int.toNat ((↑(m + 8) : Int) - 8)) (List.take (Int.toNat ((↑(m + 8) : Int) - 8)) (F3 l 8))) = PV.vec nl (B8 m (List.take m (F3 l 8))), (0 : Int) ≤ 8, 8 ≤ (↑(m + 8) : Int), (↑(m + 8) : Int) ≤ (↑(m + 8) : Int), PV.vec nl (B8 m (List.take m (F3 l 8))) = PV.vec nl (B8 m (List.drop 8 l)), rr (PV.at 1 []), rr (U6 t), rr (B6 4 [(↑(V4.a w) : Int), (↑(V4.b w) : Int), (↑(V4.c w) : Int), (↑(V4.d w) : Int)])] (by kernel_rfl) (ac (dT (by omega)) (ac (c1) (ac (c2) (ac (by rw [show Int.toNat ((↑(m + 8) : Int) - 8) = m by omega]) (ob3 (by omega) (ac ?_ (ac rfl (ac rfl (ao rfl))))))))) ?_
 ·have e : ((m + 8 : Nat) : Int).toNat - 8 = m := by omega
  rw [GH, List.take_of_length_le (by rw [List.length_drop]; omega)]
  try rfl
 exact hw
theorem W_spE {nl : Bool} {m t k : Nat} {l : Liz} {v w : V4} {hout : Lrz} {res : PV} (hm : m < 8) (hl : l.length = m) (ht : t < 18446744073709551616) (hk : k < 18446744073709551616) (hw1 : w.Ok) (c1 : Pt 69 [] [.vec nl (.iarr .u8 m l)] [] (.int .u64 k)) (c2 : Pt 68 [] [v.pv, .int .u64 ((t ||| k : Nat) : Int)] [] w.pv)
  (hw : Wt Try.f43 [] hout res (Aa Try.f43 1) (dSq ⟨w.a, w.b, w.c ^^^ 255, w.d⟩ 0)) : Wt Try.f43 [] hout res (Aa Try.f43 0) (dSp nl m l v t) := by
 unfold V4.pv at c2
 have h1 := hw1.c
 refine W.sgA 1 [(2, aF), (6, c9 c1), (7, aV (U6 ↑(t ||| k))), (8, c9 c2), (12, aV (U6 ↑(V4.c w ^^^ 255)))] (rI 1) (dSq ⟨w.a, w.b, w.c ^^^ 255, w.d⟩ 0) [decide ((m:Int) ≥ 8) = false, _, U6 (bits BinOp.or .u64 (t:Int) (k:Int)) = U6 ↑(t ||| k), _, (0 : Int) ≤ 2, 2 < (↑(4 : Nat) : Int), 2 < 4, U6 (bits BinOp.xor .u64 (↑(V4.c w) : Int) (255 : Int)) = U6 ↑(V4.c w ^^^ 255), (0 : Int) ≤ 2, 2 < (↑(4 : Nat) : Int), 2 < 4] (ac (dF (by omega)) (ac (c1) (ac (cg (GJ rfl rfl (by omega) (by omega))) (ac (c2) (ob3 (by omega) (ac (cg (AZ rfl rfl (by omega) (by omega))) (ob2 (by omega) (ao (by omega))))))))) ?_
 exact hw
theorem OL {v w : V4} {i : Nat} {hout : Lrz} {res : PV} (hi : i < 4) (c2 : Pt 70 [] [v.pv] [] w.pv)
  (hw : Wt Try.f43 [] hout res (Aa Try.f43 1) (dSq w (i + 1))) : Wt Try.f43 [] hout res (Aa Try.f43 1) (dSq v i) := by
 unfold V4.pv at c2
 refine W.sgA 1 [(0, aT), (2, c9 c2), (4, aV (I6 ↑(i + 1)))] (rI 1) (dSq w (i + 1)) [decide ((i:Int) < 4) = true, _, I6 (IntKind.wrap .i64 ((i:Int) + 1)) = I6 ↑(i + 1)] (ac (dT (by omega)) (ac (c2) (ao (wj (by omega))))) ?_
 exact hw
theorem W_sqE {v : V4} (h : v.Ok) : Wt Try.f43 [] [] (.int .u64 ((sipX v : Nat) : Int)) (Aa Try.f43 1) (dSq v 4) := by
 obtain ⟨a, b, c, d⟩ := v
 have h1 := h.a
 have h2 := h.b
 have h3 := h.c
 have h4 := h.d
 dsimp only at *
 have h5 := Cj h1 h2
 have h6 := Cj h5 h3
 unfold sipX
 dsimp only
 refine W.rtA [(5, aV (U6 ↑(a ^^^ b))), (8, aV (U6 ↑(a ^^^ b ^^^ c))), (11, aV (U6 ↑(a ^^^ b ^^^ c ^^^ d)))] [] [(0 : Int) ≤ 0, 0 < (↑(4 : Nat) : Int), 0 < 4, (0 : Int) ≤ 1, 1 < (↑(4 : Nat) : Int), 1 < 4, U6 (bits BinOp.xor .u64 (a:Int) (b:Int)) = U6 ↑(a ^^^ b), (0 : Int) ≤ 2, 2 < (↑(4 : Nat) : Int), 2 < 4, U6 (bits BinOp.xor .u64 (↑(a ^^^ b) : Int) (c:Int)) = U6 ↑(a ^^^ b ^^^ c), (0 : Int) ≤ 3, 3 < (↑(4 : Nat) : Int), 3 < 4, U6 (bits BinOp.xor .u64 (↑(a ^^^ b ^^^ c) : Int) (d:Int)) = U6 ↑(a ^^^ b ^^^ c ^^^ d)] (ob4 (by omega) (ob2 (by omega) (ac (cg (AZ rfl rfl (by omega) (by omega))) (ob3 (by omega) (ac (cg (AZ rfl rfl (by omega) (by omega))) (ob3 (by omega) (ao (cg (AZ rfl rfl (by omega) (by omega))))))))))
theorem W_spIn {nl : Bool} {m k0 k1 : Nat} {l : Liz} {hout : Lrz} {res : PV} (hm1 : m ≤ 1000000) (h0 : k0 < 18446744073709551616) (h1 : k1 < 18446744073709551616)
  (hw : Wt Try.f43 [] hout res (Aa Try.f43 0) (dSp nl m l (J9 k0 k1) (m % 256 * 72057594037927936))) : Pt 43 [] [.iarr .u64 2 [(k0 : Int), (k1 : Int)], .vec nl (.iarr .u8 m l)] hout res := by
 refine pO Try.func43 (by kernel_rfl) ?_
 have hs : ((m % 256 * 72057594037927936 % 18446744073709551616 : Nat) : Int) = ((m % 256 * 72057594037927936 : Nat) : Int) := by omega
 unfold J9 at hw
 refine W.seg [(4, aV (U6 ↑(k0 ^^^ 8317987319222330741))), (7, aV (U6 ↑(k1 ^^^ 7237128888997146477))), (10, aV (U6 ↑(k0 ^^^ 7816392313619706465))), (13, aV (U6 ↑(k1 ^^^ 8387220255154660723))), (19, aV (U8 ↑(m % 256))), (20, aV (U6 ↑(m % 256))), (21, aV (U6 ((↑(m % 256) : Int) * (2 : Int) ^ 56)))] [(304, 1)] (dSp nl m l (J9 k0 k1) (m % 256 * 72057594037927936)) (todo' := Aa Try.f43 0) [(0 : Int) ≤ 0, 0 < (↑(2 : Nat) : Int), 0 < 2, U6 (bits BinOp.xor .u64 (k0:Int) (8317987319222330741 : Int)) = U6 ↑(k0 ^^^ 8317987319222330741), (0 : Int) ≤ 1, 1 < (↑(2 : Nat) : Int), 1 < 2, U6 (bits BinOp.xor .u64 (k1:Int) (7237128888997146477 : Int)) = U6 ↑(k1 ^^^ 7237128888997146477), (0 : Int) ≤ 0, 0 < (↑(2 : Nat) : Int), 0 < 2, U6 (bits BinOp.xor .u64 (k0:Int) (7816392313619706465 : Int)) = U6 ↑(k0 ^^^ 7816392313619706465), (0 : Int) ≤ 1, 1 < (↑(2 : Nat) : Int), 1 < 2, U6 (bits BinOp.xor .u64 (k1:Int) (8387220255154660723 : Int)) = U6 ↑(k1 ^^^ 8387220255154660723), U8 (IntKind.wrap .u8 (m:Int)) = U8 ↑(m % 256), U6 (IntKind.wrap .u64 (↑(m % 256) : Int)) = U6 ↑(m % 256), U6 (IntKind.wrap .u64 ((↑(m % 256) : Int) * (2 : Int) ^ 56)) = U6 ((↑(m % 256) : Int) * (2 : Int) ^ 56), (0 : Int) ≤ 56, rr (PV.vec nl (B8 m l)), rr (PV.at 1 []), U6 ((↑(m % 256) : Int) * (2 : Int) ^ 56) = U6 ↑(m % 256 * 72057594037927936), B6 4 [(↑(k0 ^^^ 8317987319222330741) : Int), (↑(k1 ^^^ 7237128888997146477) : Int), (↑(k0 ^^^ 7816392313619706465) : Int), (↑(k1 ^^^ 8387220255154660723) : Int)] = B6 4 [(↑(V4.a (J9 k0 k1)) : Int), (↑(V4.b (J9 k0 k1)) : Int), (↑(V4.c (J9 k0 k1)) : Int), (↑(V4.d (J9 k0 k1)) : Int)]] (by kernel_rfl) (ob3 (by omega) (ac (cg (AZ rfl rfl (by omega) (by omega))) (ob3 (by omega) (ac (cg (AZ rfl rfl (by omega) (by omega))) (ob3 (by omega) (ac (cg (AZ rfl rfl (by omega) (by omega))) (ob3 (by omega) (ac (cg (AZ rfl rfl (by omega) (by omega))) (ac (cg (wm_u8 rfl)) (ac (cg (Au rfl (by omega) (by omega))) (ac (cg (Au rfl (by omega) (by omega))) (ac (by omega) (ac rfl (ac rfl (ac (cg (by omega)) (ao rfl)))))))))))))))) ?_
 exact hw
theorem W_sp {L : Nat} (hL : L ≤ 1000000) : ∀ (q : Nat) (nl : Bool) (m : Nat) (l : List Int) (v : V4), l.length = m → m / 8 = q → m ≤ 1000000 → Bytes l → v.Ok →
  Wt Try.f43 [] [] (.int .u64 ((sipF (sipB v l q) (l.drop (8 * q)) L : Nat) : Int)) (Aa Try.f43 0) (dSp nl m l v (L % 256 * 72057594037927936))
 | 0, nl, m, l, v, hl, hq, hm, hb, hv => by
  have hm8 : m < 8 := by omega
  have c1 := Je (nl := nl) hl hb
  rw [Nat.min_eq_left (by omega)] at c1
  have hk := Im hb m
  have hk2 : 2 ^ (8 * m) ≤ 2 ^ 64 := Nat.pow_le_pow_right (by omega) (by omega)
  have hk3 : lv l m < 18446744073709551616 := Nat.lt_of_lt_of_le hk hk2
  have ht : L % 256 * 72057594037927936 < 18446744073709551616 := by omega
  have ho : L % 256 * 72057594037927936 ||| lv l m < 18446744073709551616 := Nat.or_lt_two_pow (n := 64) ht hk3
  have c2 := MR hv ho
  have hw := hv.tk ho
  have r0 : (⟨(tk v (L % 256 * 72057594037927936 ||| lv l m)).a, (tk v (L % 256 * 72057594037927936 ||| lv l m)).b, (tk v (L % 256 * 72057594037927936 ||| lv l m)).c ^^^ 255, (tk v (L % 256 * 72057594037927936 ||| lv l m)).d⟩ : V4).Ok := ⟨hw.a, hw.b, Cj hw.c (by decide), hw.d⟩
  unfold sipF sipE
  rw [sipB, Nat.mul_zero, List.drop_zero, hl]
  refine W_spE hm8 hl ht hk3 hw c1 c2 ?_
  exact OL (by omega) (Dn r0) (OL (by omega) (Dn r0.rnd) (OL (by omega) (Dn r0.rnd.rnd) (OL (by omega) (Dn r0.rnd.rnd.rnd) (W_sqE r0.rnd.rnd.rnd.rnd))))
 | q + 1, nl, m, l, v, hl, hq, hm, hb, hv => by
  have hm8 : 8 ≤ m := by omega
  have c1 := Je (nl := nl) hl hb
  rw [Nat.min_eq_right hm8] at c1
  have hk3 : lv l 8 < 18446744073709551616 := Im hb 8
  rw [sipB, show l.drop (8 * (q + 1)) = (l.drop 8).drop (8 * q) by rw [List.drop_drop]; congr 1; omega]
  obtain ⟨m, rfl⟩ : ∃ j, m = j + 8 := ⟨m - 8, by omega⟩
  exact W_spS hm hl hk3 c1 (MR hv hk3) (W_sp hL q nl m (l.drop 8) _ (by rw [List.length_drop, hl]; omega) (by omega) (by omega) (hb.drop _) (hv.tk hk3))
theorem Ib {nl : Bool} {m k0 k1 : Nat} {l : Liz} (hl : l.length = m) (hm : m ≤ 1000000) (h0 : k0 < 18446744073709551616) (h1 : k1 < 18446744073709551616) (hb : Bytes l) :
  Pt 43 [] [.iarr .u64 2 [(k0 : Int), (k1 : Int)], .vec nl (.iarr .u8 m l)] [] (.int .u64 ((sipM k0 k1 l : Nat) : Int)) := by
 unfold sipM
 rw [hl]
 exact W_spIn hm h0 h1 (W_sp hm (m / 8) nl m l _ hl rfl hm hb (O9 h0 h1))
theorem Di {x n : Nat} (hx : x < 18446744073709551616) (hn : n < 18446744073709551616) : Pt 42 [] [.int .u64 x, .int .u64 n] [] (.int .u64 ((x * n / 18446744073709551616 : Nat) : Int)) := by
 refine pO Try.func42 (by kernel_rfl) ?_
 have c1 := RB hx hn
 generalize x * n / 18446744073709551616 = a at *
 generalize x * n % 18446744073709551616 = b at *
 refine W.rtA [(3, c9 c1)] [] [_] (ao (c1))
end Go.Proofs
namespace Go.Pm
open Go.Sort
abbrev swL (l : List Int) (i j : Nat) : List Int := (l.set i (l.getD j 0)).set j (l.getD i 0)
theorem Bi (l : List Int) (i : Nat) : l.toArray[i]! = l.getD i 0 := by
 rw [List.getElem!_toArray, List.getElem!_eq_getElem?_getD, List.getD_eq_getElem?_getD]; rfl
theorem BA (l : List Int) (i j : Nat) : swp l.toArray i j = (swL l i j).toArray := by
 unfold swp swL
 rw [Bi, Bi, List.setIfInBounds_toArray, List.setIfInBounds_toArray]
theorem ltI (a b : Int) : ltInt a b = decide (a < b) := rfl
theorem bite {α : Type} {b : Bool} {p : Prop} [Decidable p] (h : b = decide p) (x y : α) : (if b = true then x else y) = if p then x else y := by
 subst h; simp
def insL (a i : Nat) (l : List Int) : List Int := (insInner ltInt a i l.toArray).toList
theorem Ps (a : Nat) (l : List Int) : insL a 0 l = l := rfl
theorem Hr (a j : Nat) (l : List Int) : insL a (j + 1) l = if a < j + 1 ∧ l.getD (j + 1) 0 < l.getD j 0 then insL a j (swL l (j + 1) j) else l := by
 unfold insL
 rw [insInner, Bi, Bi, BA, bite (p := a < j + 1 ∧ l.getD (j + 1) 0 < l.getD j 0) (by rw [Bool.decide_and]; rfl)]
 split <;> rfl
def insO (a b i : Nat) (l : List Int) : List Int := (insOuter ltInt a b i l.toArray).toList
theorem OY (a b i : Nat) (l : List Int) : insO a b i l = if i < b then insO a b (i + 1) (insL a i l) else l := by
 unfold insO insL
 rw [insOuter]
 split <;> simp
def Eb (hi first root : Nat) (l : List Int) : List Int := (siftDown ltInt hi first root l.toArray).toList
theorem RU (hi first root : Nat) (l : List Int) : Eb hi first root l = if hi ≤ 2 * root + 1 then l else
  if 2 * root + 1 + 1 < hi ∧ l.getD (first + (2 * root + 1)) 0 < l.getD (first + (2 * root + 1) + 1) 0 then
   if ¬ l.getD (first + root) 0 < l.getD (first + (2 * root + 2)) 0 then l else Eb hi first (2 * root + 2) (swL l (first + root) (first + (2 * root + 2)))
  else if ¬ l.getD (first + root) 0 < l.getD (first + (2 * root + 1)) 0 then l else Eb hi first (2 * root + 1) (swL l (first + root) (first + (2 * root + 1))) := by
 unfold Eb
 rw [siftDown]
 simp only [Bi, BA, ltI, ← Bool.decide_and, ← decide_not, decide_eq_true_eq]
 by_cases h : hi ≤ 2 * root + 1
 ·rw [dif_pos h, if_pos h]
 ·rw [dif_neg h, if_neg h]
  by_cases h2 : 2 * root + 1 + 1 < hi ∧ l.getD (first + (2 * root + 1)) 0 < l.getD (first + (2 * root + 1) + 1) 0
  ·rw [if_pos h2, if_pos h2]
   split
   ·rfl
   ·rw [dif_pos (by omega)]
  ·rw [if_neg h2, if_neg h2]
   split <;> rfl
def hbL (hi first k : Nat) (l : List Int) : List Int := (heapBuild ltInt hi first k l.toArray).toList
theorem Q5 (hi first : Nat) (l : List Int) : hbL hi first 0 l = l := rfl
theorem RY (hi first k : Nat) (l : List Int) : hbL hi first (k + 1) l = hbL hi first k (Eb hi first k l) := by
 unfold hbL Eb
 rw [heapBuild, Array.toArray_toList]
def hpL (first k : Nat) (l : List Int) : List Int := (heapPop ltInt first k l.toArray).toList
theorem RG (first : Nat) (l : List Int) : hpL first 0 l = l := rfl
theorem Re (first k : Nat) (l : List Int) : hpL first (k + 1) l = hpL first k (Eb k first 0 (swL l first (first + k))) := by
 unfold hpL Eb
 rw [heapPop, Array.toArray_toList, BA]
def hsL' (l : List Int) (a b : Nat) : List Int := (heapSort ltInt l.toArray a b).toList
theorem hsL'_eq (l : List Int) (a b : Nat) : hsL' l a b = hpL a (b - a) (hbL (b - a) a ((b - a - 1) / 2 + 1) l) := by
 unfold hsL' hpL hbL heapSort
 rw [Array.toArray_toList]
def upL (p : Int → Bool) (l : List Int) (j i : Nat) : Nat := scanUp p l.toArray j i
theorem D7 (p : Int → Bool) (l : List Int) (j i : Nat) : upL p l j i = if i ≤ j ∧ p (l.getD i 0) = true then upL p l j (i + 1) else i := by
 unfold upL
 rw [scanUp, Bi]
 simp only [Bool.and_eq_true, decide_eq_true_eq]
def dnL (p : Int → Bool) (l : List Int) (i j : Nat) : Nat := scanDown p l.toArray i j
theorem GZ (p : Int → Bool) (l : List Int) (i : Nat) : dnL p l i 0 = 0 := rfl
theorem BX (p : Int → Bool) (l : List Int) (i j : Nat) : dnL p l i (j + 1) = if i ≤ j + 1 ∧ p (l.getD (j + 1) 0) = true then dnL p l i j else j + 1 := by
 unfold dnL
 rw [scanDown, Bi]
 simp only [Bool.and_eq_true, decide_eq_true_eq]
theorem EF (p : Int → Bool) (l : List Int) (j i : Nat) : i ≤ upL p l j i := by
 rw [D7]
 split
 ·rename_i h
  have := EF p l j (i + 1)
  omega
 ·exact Nat.le_refl i
termination_by j + 1 - i
theorem Gl (p : Int → Bool) (l : List Int) (j i : Nat) (h : i ≤ j + 1) : upL p l j i ≤ j + 1 := by
 rw [D7]
 split
 ·rename_i h
  exact Gl p l j (i + 1) (by omega)
 ·exact h
termination_by j + 1 - i
theorem ED (p : Int → Bool) (l : List Int) (i : Nat) : ∀ j, dnL p l i j ≤ j
 | 0 => Nat.le_refl 0
 | j + 1 => by
  rw [BX]
  split
  ·have := ED p l i j; omega
  ·exact Nat.le_refl _
theorem Gb (p : Int → Bool) (l : List Int) (i : Nat) : ∀ j, i ≤ j + 1 → i ≤ dnL p l i j + 1
 | 0, h => h
 | j + 1, h => by
  rw [BX]
  split
  ·rename_i g
   exact Gb p l i j (by omega)
  ·exact h
theorem Dz (p : Int → Bool) (l : List Int) (j i : Nat) : ¬ (upL p l j i ≤ j ∧ p (l.getD (upL p l j i) 0) = true) := by
 by_cases h : i ≤ j ∧ p (l.getD i 0) = true
 ·rw [D7, if_pos h]
  exact Dz p l j (i + 1)
 ·rw [D7, if_neg h]
  exact h
termination_by j + 1 - i
decreasing_by omega
theorem Dx (p : Int → Bool) (l : List Int) (i : Nat) (hi : 1 ≤ i) : ∀ j, ¬ (i ≤ dnL p l i j ∧ p (l.getD (dnL p l i j) 0) = true)
 | 0 => by
  rw [GZ]
  omega
 | j + 1 => by
  by_cases h : i ≤ j + 1 ∧ p (l.getD (j + 1) 0) = true
  ·rw [BX, if_pos h]
   exact Dx p l i hi j
  ·rw [BX, if_neg h]
   exact h
def ltP (l : List Int) (a : Nat) (x : Int) : Bool := decide (x < l.getD a 0)
def geP (l : List Int) (a : Nat) (x : Int) : Bool := decide (¬ x < l.getD a 0)
def leP (l : List Int) (a : Nat) (x : Int) : Bool := decide (¬ l.getD a 0 < x)
def gtP (l : List Int) (a : Nat) (x : Int) : Bool := decide (l.getD a 0 < x)
def plL (a i j : Nat) (l : List Int) : Nat × List Int := ((partLoop ltInt a i j l.toArray).1, (partLoop ltInt a i j l.toArray).2.toList)
theorem QE (l : List Int) (a : Nat) : (fun x => ltInt x l.toArray[a]!) = ltP l a := by funext x; rw [Bi]; rfl
theorem QL (l : List Int) (a : Nat) : (fun x => !ltInt x l.toArray[a]!) = geP l a := by funext x; rw [Bi, ltI, ← decide_not]; rfl
theorem fun_le (l : List Int) (a : Nat) : (fun x => !ltInt l.toArray[a]! x) = leP l a := by funext x; rw [Bi, ltI, ← decide_not]; rfl
theorem fun_gt (l : List Int) (a : Nat) : (fun x => ltInt l.toArray[a]! x) = gtP l a := by funext x; rw [Bi]; rfl
theorem Qk (a i j : Nat) (l : List Int) (hij : i ≤ j + 1) : plL a i j l = if dnL (geP l a) l (upL (ltP l a) l j i) j < upL (ltP l a) l j i then (dnL (geP l a) l (upL (ltP l a) l j i) j, l)
  else plL a (upL (ltP l a) l j i + 1) (dnL (geP l a) l (upL (ltP l a) l j i) j - 1) (swL l (upL (ltP l a) l j i) (dnL (geP l a) l (upL (ltP l a) l j i) j)) := by
 unfold plL
 rw [partLoop]
 simp only [QE, QL]
 show _ = if dnL (geP l a) l (upL (ltP l a) l j i) j < upL (ltP l a) l j i then _ else _
 have h1 := EF (ltP l a) l j i
 have h2 := ED (geP l a) l (upL (ltP l a) l j i) j
 unfold dnL upL at *
 split
 ·rfl
 ·rw [dif_pos (by omega), BA]
def ptL (l : List Int) (a b pivot : Nat) : Nat × Bool × List Int := ((partition ltInt l.toArray a b pivot).1, (partition ltInt l.toArray a b pivot).2.1, (partition ltInt l.toArray a b pivot).2.2.toList)
theorem Q7 (l m : List Int) (a b pivot i j : Nat) (hm : m = swL l a pivot) (hi : i = upL (ltP m a) m (b - 1) (a + 1)) (hj : j = dnL (geP m a) m i (b - 1)) :
  ptL l a b pivot = if j < i then (j, true, swL m j a) else ((plL a (i + 1) (j - 1) (swL m i j)).1, false, swL (plL a (i + 1) (j - 1) (swL m i j)).2 (plL a (i + 1) (j - 1) (swL m i j)).1 a) := by
 subst hm hi hj
 unfold ptL partition
 rw [BA]
 simp only [QE, QL]
 unfold dnL upL
 split
 ·rw [BA]
 ·rw [BA]
  unfold plL
  dsimp only
  generalize partLoop ltInt a _ _ _ = r
  rw [show swp r.2 r.1 a = swp r.2.toList.toArray r.1 a by rw [Array.toArray_toList], BA]
def peL (a i j : Nat) (l : List Int) : Nat × List Int := ((partEqLoop ltInt a i j l.toArray).1, (partEqLoop ltInt a i j l.toArray).2.toList)
theorem Qo (a i j : Nat) (l : List Int) (hij : i ≤ j + 1) : peL a i j l = if dnL (gtP l a) l (upL (leP l a) l j i) j < upL (leP l a) l j i then (upL (leP l a) l j i, l)
  else peL a (upL (leP l a) l j i + 1) (dnL (gtP l a) l (upL (leP l a) l j i) j - 1) (swL l (upL (leP l a) l j i) (dnL (gtP l a) l (upL (leP l a) l j i) j)) := by
 unfold peL
 rw [partEqLoop]
 simp only [fun_le]
 simp only [fun_gt]
 show _ = if dnL (gtP l a) l (upL (leP l a) l j i) j < upL (leP l a) l j i then _ else _
 have h1 := EF (leP l a) l j i
 have h2 := ED (gtP l a) l (upL (leP l a) l j i) j
 unfold dnL upL at *
 split
 ·rfl
 ·rename_i g
  have g : ¬ scanUp (leP l a) l.toArray j i > scanDown (gtP l a) l.toArray (scanUp (leP l a) l.toArray j i) j := g
  have key : scanDown (gtP l a) l.toArray (scanUp (leP l a) l.toArray j i) j - 1 + 1 - (scanUp (leP l a) l.toArray j i + 1) < j + 1 - i := by omega
  rw [dif_pos key, BA]
def pqL (l : List Int) (a b pivot : Nat) : Nat × List Int := peL a (a + 1) (b - 1) (swL l a pivot)
theorem pqL_eq (l : List Int) (a b pivot : Nat) : partitionEqual ltInt l.toArray a b pivot = ((pqL l a b pivot).1, (pqL l a b pivot).2.toArray) := by
 unfold partitionEqual pqL peL
 rw [BA]
theorem RH (a : Nat) : ∀ (k i j : Nat) (l : List Int), j + 1 - i ≤ k → 1 ≤ i → i ≤ j + 1 → i ≤ (plL a i j l).1 + 1 ∧ (plL a i j l).1 ≤ j
 | k, i, j, l, hk, h1, hij => by
  have u1 := EF (ltP l a) l j i
  have u2 := Gl (ltP l a) l j i hij
  have u3 := Dz (ltP l a) l j i
  have d1 := ED (geP l a) l (upL (ltP l a) l j i) j
  have d2 := Gb (geP l a) l (upL (ltP l a) l j i) j u2
  have d3 := Dx (geP l a) l (upL (ltP l a) l j i) (by omega) j
  rw [Qk a i j l hij]
  generalize hu : upL (ltP l a) l j i = u at *
  generalize hd : dnL (geP l a) l u j = d at *
  by_cases h : d < u
  ·rw [if_pos h]
   dsimp only
   omega
  ·rw [if_neg h]
   have hne : u ≠ d := fun e => by
    rw [e] at u3
    apply d3
    refine ⟨by omega, ?_⟩
    have : ¬ ltP l a (l.getD d 0) = true := fun x => u3 ⟨by omega, x⟩
    unfold geP
    unfold ltP at this
    simpa using this
   cases k with
   | zero => omega
   | succ k =>
    have := RH a k (u + 1) (d - 1) (swL l u d) (by omega) (by omega) (by omega)
    omega
theorem Rm (a : Nat) : ∀ (k i j : Nat) (l : List Int), j + 1 - i ≤ k → 1 ≤ i → i ≤ j + 1 → i ≤ (peL a i j l).1 ∧ (peL a i j l).1 ≤ j + 1
 | k, i, j, l, hk, h1, hij => by
  have u1 := EF (leP l a) l j i
  have u2 := Gl (leP l a) l j i hij
  have u3 := Dz (leP l a) l j i
  have d1 := ED (gtP l a) l (upL (leP l a) l j i) j
  have d2 := Gb (gtP l a) l (upL (leP l a) l j i) j u2
  have d3 := Dx (gtP l a) l (upL (leP l a) l j i) (by omega) j
  rw [Qo a i j l hij]
  generalize hu : upL (leP l a) l j i = u at *
  generalize hd : dnL (gtP l a) l u j = d at *
  by_cases h : d < u
  ·rw [if_pos h]
   dsimp only
   omega
  ·rw [if_neg h]
   have hne : u ≠ d := fun e => by
    rw [e] at u3
    apply d3
    refine ⟨by omega, ?_⟩
    have : ¬ leP l a (l.getD d 0) = true := fun x => u3 ⟨by omega, x⟩
    unfold gtP
    unfold leP at this
    simpa using this
   cases k with
   | zero => omega
   | succ k =>
    have := Rm a k (u + 1) (d - 1) (swL l u d) (by omega) (by omega) (by omega)
    omega
theorem QW (l : List Int) {a b pv : Nat} (hab : a < b) : a ≤ (ptL l a b pv).1 ∧ (ptL l a b pv).1 < b := by
 have u1 := EF (ltP (swL l a pv) a) (swL l a pv) (b - 1) (a + 1)
 have u2 := Gl (ltP (swL l a pv) a) (swL l a pv) (b - 1) (a + 1) (by omega)
 have u3 := Dz (ltP (swL l a pv) a) (swL l a pv) (b - 1) (a + 1)
 have d1 := ED (geP (swL l a pv) a) (swL l a pv) (upL (ltP (swL l a pv) a) (swL l a pv) (b - 1) (a + 1)) (b - 1)
 have d2 := Gb (geP (swL l a pv) a) (swL l a pv) (upL (ltP (swL l a pv) a) (swL l a pv) (b - 1) (a + 1)) (b - 1) u2
 have d3 := Dx (geP (swL l a pv) a) (swL l a pv) (upL (ltP (swL l a pv) a) (swL l a pv) (b - 1) (a + 1)) (by omega) (b - 1)
 rw [Q7 l (swL l a pv) a b pv _ _ rfl rfl rfl]
 generalize swL l a pv = m at *
 generalize upL (ltP m a) m (b - 1) (a + 1) = u at *
 generalize dnL (geP m a) m u (b - 1) = d at *
 by_cases h : d < u
 ·rw [if_pos h]
  dsimp only
  omega
 ·rw [if_neg h]
  have hne : u ≠ d := fun e => by
   rw [e] at u3
   apply d3
   refine ⟨by omega, ?_⟩
   have : ¬ ltP m a (m.getD d 0) = true := fun x => u3 ⟨by omega, x⟩
   unfold geP
   unfold ltP at this
   simpa using this
  have := RH a _ (u + 1) (d - 1) (swL m u d) (Nat.le_refl _) (by omega) (by omega)
  dsimp only
  omega
theorem RF (l : List Int) {a b pv : Nat} (hab : a < b) : a < (pqL l a b pv).1 ∧ (pqL l a b pv).1 ≤ b := by
 have := Rm a _ (a + 1) (b - 1) (swL l a pv) (Nat.le_refl _) (by omega) (by omega)
 unfold pqL
 omega
def ssL (l : List Int) (b i : Nat) : Nat := scanSorted ltInt l.toArray b i
theorem Ih (l : List Int) (b i : Nat) : ssL l b i = if i < b ∧ ¬ l.getD i 0 < l.getD (i - 1) 0 then ssL l b (i + 1) else i := by
 unfold ssL
 rw [scanSorted]
 simp only [Bi, ltI, ← Bool.decide_and, ← decide_not, decide_eq_true_eq]
theorem QM (l : List Int) (b i : Nat) : i ≤ ssL l b i := by
 rw [Ih]
 split
 ·rename_i h
  have := QM l b (i + 1)
  omega
 ·exact Nat.le_refl i
termination_by b - i
theorem Qz (l : List Int) (b i : Nat) (h : i ≤ b) : ssL l b i ≤ b := by
 rw [Ih]
 split
 ·exact Qz l b (i + 1) (by omega)
 ·exact h
termination_by b - i
def sdL (j : Nat) (l : List Int) : List Int := (shiftDown ltInt j l.toArray).toList
theorem QY (l : List Int) : sdL 0 l = l := rfl
theorem Mg (j : Nat) (l : List Int) : sdL (j + 1) l = if ¬ l.getD (j + 1) 0 < l.getD j 0 then l else sdL j (swL l (j + 1) j) := by
 unfold sdL
 rw [shiftDown]
 simp only [Bi, BA, ltI, ← decide_not, decide_eq_true_eq]
 split <;> rfl
def suL (b j : Nat) (l : List Int) : List Int := (shiftUp ltInt b j l.toArray).toList
theorem Qh (b j : Nat) (l : List Int) : suL b j l = if j < b then (if ¬ l.getD j 0 < l.getD (j - 1) 0 then l else suL b (j + 1) (swL l j (j - 1))) else l := by
 unfold suL
 rw [shiftUp]
 simp only [Bi, BA, ltI, ← decide_not, decide_eq_true_eq]
 split
 ·split <;> rfl
 ·rfl
def piL (a b s i : Nat) (l : List Int) : List Int × Bool := ((partialIns ltInt a b s i l.toArray).1.toList, (partialIns ltInt a b s i l.toArray).2)
theorem Qx (a b s i : Nat) (l : List Int) : piL a b (s + 1) i l = if ssL l b i = b then (l, true) else if b - a < 50 then (l, false) else
  piL a b s (ssL l b i) (if 2 ≤ b - ssL l b i then suL b (ssL l b i + 1) (if 2 ≤ ssL l b i - a then sdL (ssL l b i - 1) (swL l (ssL l b i) (ssL l b i - 1)) else swL l (ssL l b i) (ssL l b i - 1)) else (if 2 ≤ ssL l b i - a then sdL (ssL l b i - 1) (swL l (ssL l b i) (ssL l b i - 1)) else swL l (ssL l b i) (ssL l b i - 1))) := by
 unfold piL
 rw [partialIns]
 simp only [BA]
 unfold ssL sdL suL
 generalize scanSorted ltInt l.toArray b i = k
 by_cases h1 : k = b
 ·rw [if_pos h1, if_pos h1]
 ·rw [if_neg h1, if_neg h1]
  by_cases h2 : b - a < 50
  ·rw [if_pos h2, if_pos h2]
  ·rw [if_neg h2, if_neg h2]
   by_cases h3 : 2 ≤ k - a
   ·rw [if_pos h3, if_pos h3]
    by_cases h4 : 2 ≤ b - k
    ·rw [if_pos h4, if_pos h4, Array.toArray_toList, Array.toArray_toList]
    ·rw [if_neg h4, if_neg h4, Array.toArray_toList]
   ·rw [if_neg h3, if_neg h3]
    by_cases h4 : 2 ≤ b - k
    ·rw [if_pos h4, if_pos h4, Array.toArray_toList]
    ·rw [if_neg h4, if_neg h4]
def o2L (l : List Int) (a b s : Nat) : Nat × Nat × Nat := order2 ltInt l.toArray a b s
theorem NF (l : List Int) (a b s : Nat) : o2L l a b s = if l.getD b 0 < l.getD a 0 then (b, a, s + 1) else (a, b, s) := by
 unfold o2L order2
 simp only [Bi, ltI, decide_eq_true_eq]
def mdL (l : List Int) (a b c s : Nat) : Nat × Nat := median ltInt l.toArray a b c s
theorem Nv (l : List Int) (a b c s : Nat) : mdL l a b c s = ((o2L l (o2L l a b s).1 (o2L l (o2L l a b s).2.1 c (o2L l a b s).2.2).1 (o2L l (o2L l a b s).2.1 c (o2L l a b s).2.2).2.2).2.1, (o2L l (o2L l a b s).1 (o2L l (o2L l a b s).2.1 c (o2L l a b s).2.2).1 (o2L l (o2L l a b s).2.1 c (o2L l a b s).2.2).2.2).2.2) := rfl
def hintN : Hint → Int
 | .unknown => 0
 | .increasing => 1
 | .decreasing => 2
def cpL (l : List Int) (a b : Nat) : Nat × Hint := choosePivot ltInt l.toArray a b
def cp1 (l : List Int) (a b : Nat) : Nat × Nat :=
 if 8 ≤ b - a then
  if 50 ≤ b - a then mdL l (mdL l (a + (b - a) / 4 * 1 - 1) (a + (b - a) / 4 * 1) (a + (b - a) / 4 * 1 + 1) 0).1
   (mdL l (a + (b - a) / 4 * 2 - 1) (a + (b - a) / 4 * 2) (a + (b - a) / 4 * 2 + 1) (mdL l (a + (b - a) / 4 * 1 - 1) (a + (b - a) / 4 * 1) (a + (b - a) / 4 * 1 + 1) 0).2).1
   (mdL l (a + (b - a) / 4 * 3 - 1) (a + (b - a) / 4 * 3) (a + (b - a) / 4 * 3 + 1) (mdL l (a + (b - a) / 4 * 2 - 1) (a + (b - a) / 4 * 2) (a + (b - a) / 4 * 2 + 1) (mdL l (a + (b - a) / 4 * 1 - 1) (a + (b - a) / 4 * 1) (a + (b - a) / 4 * 1 + 1) 0).2).2).1
   (mdL l (a + (b - a) / 4 * 3 - 1) (a + (b - a) / 4 * 3) (a + (b - a) / 4 * 3 + 1) (mdL l (a + (b - a) / 4 * 2 - 1) (a + (b - a) / 4 * 2) (a + (b - a) / 4 * 2 + 1) (mdL l (a + (b - a) / 4 * 1 - 1) (a + (b - a) / 4 * 1) (a + (b - a) / 4 * 1 + 1) 0).2).2).2
  else mdL l (a + (b - a) / 4 * 1) (a + (b - a) / 4 * 2) (a + (b - a) / 4 * 3) 0
 else (a + (b - a) / 4 * 2, 0)
theorem NQ (l : List Int) (a b : Nat) : cpL l a b = ((cp1 l a b).1, if (cp1 l a b).2 = 0 then .increasing else if (cp1 l a b).2 = 12 then .decreasing else .unknown) := rfl
theorem Oc (P : Nat → Prop) {l : List Int} {a b s : Nat} (ha : P a) (hb : P b) : P (o2L l a b s).1 ∧ P (o2L l a b s).2.1 := by
 rw [NF]
 split
 ·exact ⟨hb, ha⟩
 ·exact ⟨ha, hb⟩
theorem Jh (P : Nat → Prop) {l : List Int} {a b c s : Nat} (ha : P a) (hb : P b) (hc : P c) : P (mdL l a b c s).1 := by
 rw [Nv]
 have h1 := Oc P (l := l) (s := s) ha hb
 have h2 := Oc P (l := l) (s := (o2L l a b s).2.2) h1.2 hc
 exact (Oc P h1.1 h2.1).2
theorem Qq (l : List Int) {a b : Nat} (hab : a < b) : a ≤ (cp1 l a b).1 ∧ (cp1 l a b).1 < b := by
 unfold cp1
 have h4 : (b - a) / 4 * 1 ≤ (b - a) / 4 := by omega
 split
 ·split
  ·have P : ∀ i, (b - a) / 4 - 1 ≤ i → True := fun _ _ => trivial
   exact Jh (fun x => a ≤ x ∧ x < b) (Jh (fun x => a ≤ x ∧ x < b) ⟨by omega, by omega⟩ ⟨by omega, by omega⟩ ⟨by omega, by omega⟩) (Jh (fun x => a ≤ x ∧ x < b) ⟨by omega, by omega⟩ ⟨by omega, by omega⟩ ⟨by omega, by omega⟩) (Jh (fun x => a ≤ x ∧ x < b) ⟨by omega, by omega⟩ ⟨by omega, by omega⟩ ⟨by omega, by omega⟩)
  ·exact Jh (fun x => a ≤ x ∧ x < b) ⟨by omega, by omega⟩ ⟨by omega, by omega⟩ ⟨by omega, by omega⟩
 ·dsimp only
  omega
def rvL (i j : Nat) (l : List Int) : List Int := (reverseLoop i j l.toArray).toList
theorem Rv (i j : Nat) (l : List Int) : rvL i j l = if i < j then rvL (i + 1) (j - 1) (swL l i j) else l := by
 unfold rvL
 rw [reverseLoop]
 simp only [BA]
 split <;> rfl
def Bq (x : Nat) : Nat := bitsLen x
theorem GM {x k : Nat} (h : x < 2 ^ k) : Bq x ≤ k := by
 unfold Bq bitsLen
 split
 ·omega
 ·rename_i h0
  have := (Nat.log2_lt h0).2 h
  omega
theorem Rn {x : Nat} (h : 256 ≤ x) : Bq x = Bq (x / 256) + 8 := by
 unfold Bq bitsLen
 have h0 : x / 256 ≠ 0 := by omega
 rw [if_neg (by omega), if_neg h0]
 obtain ⟨h1, h2⟩ := (Nat.log2_eq_iff h0).1 rfl
 have h3 : Nat.log2 x = Nat.log2 (x / 256) + 8 := by
  rw [Nat.log2_eq_iff (by omega)]
  rw [Nat.pow_succ] at h2
  refine ⟨?_, ?_⟩
  ·rw [Nat.pow_add]; omega
  ·rw [Nat.pow_succ, Nat.pow_add]; omega
 omega
def bpL (l : List Int) (a b : Nat) : List Int := (breakPatterns l.toArray a b).toList
def xsN (r : Nat) : Nat := ((r ^^^ (r * 8192 % 18446744073709551616)) ^^^ ((r ^^^ (r * 8192 % 18446744073709551616)) / 128)) ^^^ (((r ^^^ (r * 8192 % 18446744073709551616)) ^^^ ((r ^^^ (r * 8192 % 18446744073709551616)) / 128)) * 131072 % 18446744073709551616)
theorem Qe (r : UInt64) : (xorNext r).toNat = xsN r.toNat := by
 unfold xorNext xsN
 simp [UInt64.toNat_xor, UInt64.toNat_shiftLeft, UInt64.toNat_shiftRight, Nat.shiftLeft_eq, Nat.shiftRight_eq_div_pow]
def bo (r len : Nat) : Nat := if len ≤ xsN r &&& (2 ^ Bq len - 1) then (xsN r &&& (2 ^ Bq len - 1)) - len else xsN r &&& (2 ^ Bq len - 1)
theorem Qu {n : Nat} (h : 1 ≤ n) : 2 ^ Bq n ≤ 2 * n := by
 unfold Bq bitsLen
 rw [if_neg (by omega), Nat.pow_succ]
 have := Nat.log2_self_le (n := n) (by omega)
 omega
theorem bpL_eq (l : List Int) (a b len i : Nat) (hl : len = b - a) (h8 : 8 ≤ len) (h64 : len < 18446744073709551616) (hi : i = a + len / 4 * 2 - 1) :
  bpL l a b = swL (swL (swL l i (a + bo len len)) (i + 1) (a + bo (xsN len) len)) (i + 2) (a + bo (xsN (xsN len)) len) := by
 unfold bpL breakPatterns
 dsimp only
 rw [← hl, if_pos h8, ← hi]
 unfold breakStep
 dsimp only
 have e0 : (UInt64.ofNat len).toNat = len := by rw [UInt64.toNat_ofNat']; exact Nat.mod_eq_of_lt h64
 have e1 : (1 <<< bitsLen len) = 2 ^ Bq len := by rw [Nat.shiftLeft_eq, Nat.one_mul]; rfl
 rw [e1]
 simp only [Qe, e0, BA]
 unfold bo
 rfl
def pdL (l : List Int) (a b limit : Nat) (wb wp : Bool) : List Int := (pdq ltInt l.toArray a b limit wb wp).toList
def pd1 (l : List Int) (a b : Nat) (wb : Bool) : List Int := if wb = true then l else bpL l a b
def pd2 (l : List Int) (a b : Nat) (wb : Bool) : List Int := if (cpL (pd1 l a b wb) a b).2 = .decreasing then rvL a (b - 1) (pd1 l a b wb) else pd1 l a b wb
def pdp (l : List Int) (a b : Nat) (wb : Bool) : Nat := if (cpL (pd1 l a b wb) a b).2 = .decreasing then (b - 1) - ((cpL (pd1 l a b wb) a b).1 - a) else (cpL (pd1 l a b wb) a b).1
theorem Nr (l : List Int) (a b limit : Nat) (wb wp : Bool) : pdL l a b limit wb wp =
  if b - a ≤ 12 then insO a b (a + 1) l else
  if limit = 0 then hsL' l a b else
  let lim := if wb = true then limit else limit - 1
  let inc := (cpL (pd1 l a b wb) a b).2 ≠ .unknown
  let pi := if wb = true ∧ wp = true ∧ inc then piL a b 5 (a + 1) (pd2 l a b wb) else (pd2 l a b wb, false)
  if pi.2 = true then pi.1 else
  if 0 < a ∧ ¬ pi.1.getD (a - 1) 0 < pi.1.getD (pdp l a b wb) 0 then
   if a < (pqL pi.1 a b (pdp l a b wb)).1 ∧ (pqL pi.1 a b (pdp l a b wb)).1 ≤ b then pdL (pqL pi.1 a b (pdp l a b wb)).2 (pqL pi.1 a b (pdp l a b wb)).1 b lim wb wp else (pqL pi.1 a b (pdp l a b wb)).2
  else
   let r := ptL pi.1 a b (pdp l a b wb)
   if a ≤ r.1 ∧ r.1 < b then
    if r.1 - a < b - r.1 then pdL (pdL r.2.2 a r.1 lim true true) (r.1 + 1) b lim (decide ((b - a) / 8 ≤ r.1 - a)) r.2.1
    else pdL (pdL r.2.2 (r.1 + 1) b lim true true) a r.1 lim (decide ((b - a) / 8 ≤ b - r.1)) r.2.1
   else r.2.2 := by
 unfold pdL
 rw [pdq]
 by_cases h1 : b - a ≤ 12
 ·rw [if_pos h1, if_pos h1]; rfl
 rw [if_neg h1, if_neg h1]
 by_cases h2 : limit = 0
 ·rw [if_pos h2, if_pos h2]; rfl
 rw [if_neg h2, if_neg h2]
 have e1 : (if (!wb) = true then breakPatterns l.toArray a b else l.toArray) = (pd1 l a b wb).toArray := by cases wb <;> simp [pd1, bpL]
 have e2 : (if (!wb) = true then limit - 1 else limit) = if wb = true then limit else limit - 1 := by cases wb <;> rfl
 have e3 : choosePivot ltInt (pd1 l a b wb).toArray a b = cpL (pd1 l a b wb) a b := rfl
 have e4 : (if (cpL (pd1 l a b wb) a b).2 = .decreasing then reverseRange (pd1 l a b wb).toArray a b else (pd1 l a b wb).toArray) = (pd2 l a b wb).toArray := by
  unfold pd2
  split
  ·unfold reverseRange rvL; rw [Array.toArray_toList]
  ·rfl
 have e5 : (if (cpL (pd1 l a b wb) a b).2 = .decreasing then b - 1 - ((cpL (pd1 l a b wb) a b).1 - a) else (cpL (pd1 l a b wb) a b).1) = pdp l a b wb := rfl
 have e6 : ((if (cpL (pd1 l a b wb) a b).2 = .decreasing then Hint.increasing else (cpL (pd1 l a b wb) a b).2) = .increasing) ↔ (cpL (pd1 l a b wb) a b).2 ≠ .unknown := by
  cases (cpL (pd1 l a b wb) a b).2 <;> decide
 dsimp only
 rw [e1, e3, e4, e5]
 simp only [e2, e6, Bool.and_eq_true, decide_eq_true_eq, and_assoc]
 have e7 : (if wb = true ∧ wp = true ∧ (cpL (pd1 l a b wb) a b).2 ≠ .unknown then partialInsertionSort ltInt (pd2 l a b wb).toArray a b else ((pd2 l a b wb).toArray, false)) =
   ((if wb = true ∧ wp = true ∧ (cpL (pd1 l a b wb) a b).2 ≠ .unknown then piL a b 5 (a + 1) (pd2 l a b wb) else (pd2 l a b wb, false)).1.toArray, (if wb = true ∧ wp = true ∧ (cpL (pd1 l a b wb) a b).2 ≠ .unknown then piL a b 5 (a + 1) (pd2 l a b wb) else (pd2 l a b wb, false)).2) := by
  split
  ·unfold piL partialInsertionSort; rw [Array.toArray_toList]
  ·rfl
 rw [e7]
 generalize (if wb = true ∧ wp = true ∧ (cpL (pd1 l a b wb) a b).2 ≠ .unknown then piL a b 5 (a + 1) (pd2 l a b wb) else (pd2 l a b wb, false)) = pi
 generalize pdp l a b wb = pv
 obtain ⟨m, done⟩ := pi
 dsimp only
 by_cases h3 : done = true
 ·rw [if_pos h3, if_pos h3]
 rw [if_neg h3, if_neg h3]
 simp only [Bi, ltI, gt_iff_lt, ← decide_not, decide_eq_true_eq]
 by_cases h4 : 0 < a ∧ ¬ m.getD (a - 1) 0 < m.getD pv 0
 ·rw [if_pos h4, if_pos h4, pqL_eq]
  dsimp only
  split <;> rfl
 ·rw [if_neg h4, if_neg h4]
  have e8 : partition ltInt m.toArray a b pv = ((ptL m a b pv).1, (ptL m a b pv).2.1, (ptL m a b pv).2.2.toArray) := by unfold ptL; rw [Array.toArray_toList]
  rw [e8]
  dsimp only
  split
  ·split <;> simp only [Array.toArray_toList] <;> rfl
  ·rfl
def tlL (l : List Int) (a b pv lim : Nat) (wb wp : Bool) : List Int :=
 if 0 < a ∧ ¬ l.getD (a - 1) 0 < l.getD pv 0 then pdL (pqL l a b pv).2 (pqL l a b pv).1 b lim wb wp
 else if (ptL l a b pv).1 - a < b - (ptL l a b pv).1 then pdL (pdL (ptL l a b pv).2.2 a (ptL l a b pv).1 lim true true) ((ptL l a b pv).1 + 1) b lim (decide ((b - a) / 8 ≤ (ptL l a b pv).1 - a)) (ptL l a b pv).2.1
 else pdL (pdL (ptL l a b pv).2.2 ((ptL l a b pv).1 + 1) b lim true true) a (ptL l a b pv).1 lim (decide ((b - a) / 8 ≤ b - (ptL l a b pv).1)) (ptL l a b pv).2.1
theorem PO (l : List Int) {a b k : Nat} {wb wp : Bool} (h : a + 12 < b) : pdL l a b (k + 1) wb wp =
  if (if wb = true ∧ wp = true ∧ (cpL (pd1 l a b wb) a b).2 ≠ .unknown then piL a b 5 (a + 1) (pd2 l a b wb) else (pd2 l a b wb, false)).2 = true then (if wb = true ∧ wp = true ∧ (cpL (pd1 l a b wb) a b).2 ≠ .unknown then piL a b 5 (a + 1) (pd2 l a b wb) else (pd2 l a b wb, false)).1
  else tlL (if wb = true ∧ wp = true ∧ (cpL (pd1 l a b wb) a b).2 ≠ .unknown then piL a b 5 (a + 1) (pd2 l a b wb) else (pd2 l a b wb, false)).1 a b (pdp l a b wb) (if wb = true then k + 1 else k) wb wp := by
 rw [Nr, if_neg (by omega), if_neg (by omega)]
 dsimp only
 rw [Nat.add_sub_cancel]
 generalize (if wb = true ∧ wp = true ∧ (cpL (pd1 l a b wb) a b).2 ≠ .unknown then piL a b 5 (a + 1) (pd2 l a b wb) else (pd2 l a b wb, false)) = pi
 obtain ⟨m, d⟩ := pi
 dsimp only
 by_cases hd : d = true
 ·rw [if_pos hd, if_pos hd]
 ·rw [if_neg hd, if_neg hd]
  unfold tlL
  generalize pdp l a b wb = pv
  have h1 := RF m (pv := pv) (show a < b by omega)
  have h2 := QW m (pv := pv) (show a < b by omega)
  by_cases hc : 0 < a ∧ ¬ m.getD (a - 1) 0 < m.getD pv 0
  ·rw [if_pos hc, if_pos hc, if_pos h1]
  ·rw [if_neg hc, if_neg hc, if_pos h2]
theorem Pf (l : List Int) {a b k : Nat} {wb wp : Bool} (h : b ≤ a + 12) : pdL l a b k wb wp = insO a b (a + 1) l := by
 rw [Nr, if_pos (by omega)]
theorem Ri (l : List Int) {a b : Nat} {wb wp : Bool} (h : a + 12 < b) : pdL l a b 0 wb wp = hsL' l a b := by
 rw [Nr, if_neg (by omega), if_pos rfl]
theorem R5 (l : List Int) : pdL l 0 l.length (Bq l.length) true true = l.mergeSort (fun x y => decide (x ≤ y)) := sortInt l
end Go.Pm
namespace Go.Proofs
open Go Go.Pe Go.Pm
set_option maxRecDepth 100000
set_option linter.unusedVariables false
theorem PD (x : Int) : Pt 85 [] [.int .u64 x] [] (.bool false) := by
 refine pO Try.func85 (by kernel_rfl) ?_
 refine W.rtA [(3, aF)] [] [(x != x) = false] (ao (bne_eq_false_iff_eq.2 (by omega)))
theorem MN (x y : Int) : Pt 71 [] [.int .u64 x, .int .u64 y] [] (.bool (decide (x < y))) := by
 refine pO Try.func71 (by kernel_rfl) ?_
 refine W.rtA [(2, aK (PV.bool false))] [] [Pt 85 [] [U6 x] [] (PV.bool false)] (ao (PD _))
theorem AU (x y : Int) (h : x < y) : Pt 71 [] [.int .u64 x, .int .u64 y] [] (.bool true) := by
 have := MN x y
 rwa [decide_eq_true h] at this
theorem Bn (x y : Int) (h : ¬ x < y) : Pt 71 [] [.int .u64 x, .int .u64 y] [] (.bool false) := by
 have := MN x y
 rwa [decide_eq_false h] at this
def Ac (n : Nat) (l : List Int) : Row := ⟨.iarr .u64 n l, false⟩
def qO (n a b i : Nat) (l : List Int) : DS := ⟨[(0, .ref 0 [] 1 0 n), (1, .int .i64 a), (2, .int .i64 b), (6, .int .i64 i)], [(0, Ac n l)]⟩
def qI (n a b i j : Nat) (l : List Int) : DS := ⟨[(0, .ref 0 [] 1 0 n), (1, .int .i64 a), (2, .int .i64 b), (6, .int .i64 i), (7, .int .i64 j)], [(0, Ac n l)]⟩
theorem W_qI {n a b i : Nat} {hout : Lrz} {res : PV} (hn : n < 1000000) (hb : b ≤ n) (hi : i < b) : ∀ (j : Nat) (l : List Int), j ≤ i →
   Wt Try.f89 [0] hout res (Aa Try.f89 0) (qO n a b (i + 1) (insL a j l)) → Wt Try.f89 [0] hout res (Aa Try.f89 1) (qI n a b i j l)
  | 0, l, _, h => by
    rw [Ps] at h
    refine W.sgA 0 [(0, aV (I6 0)), (16, aV (I6 ↑(i + 1)))] [(0, 0)] (qO n a b (i + 1) l) [I6 ↑(0 : Nat) = I6 0, I6 (IntKind.wrap .i64 ((i:Int) + 1)) = I6 ↑(i + 1)] (ac (cg (by omega)) (ao (wj (by omega)))) ?_
    exact h
  | j + 1, l, hj, h => by
    by_cases ha : a < j + 1
    · by_cases hc : l.getD (j + 1) 0 < l.getD j 0
      · rw [Hr, if_pos ⟨ha, hc⟩] at h
        have h' := W_qI hn hb hi j (swL l (j + 1) j) (by omega) h
        clear h
        refine W.sgA 1 [(2, aT), (6, aV (PV.at 0 [Stp.idx (j + 1) 1])), (10, aV (I6 j)), (11, aV (PV.at 0 [Stp.idx j 1])), (13, aK (PV.bool true)), (19, aV (I6 j)), (22, aV (I6 j)), (23, aV (PV.at 0 [Stp.idx j 1])), (27, aV (PV.at 0 [Stp.idx (j + 1) 1])), (29, aV (PV.at 0 [Stp.idx (j + 1) 1])), (31, aV (PV.at 0 [Stp.idx j 1])), (34, aV (I6 j))] [(0, 0)] (qI n a b i j (swL l (j + 1) j)) [decide ((↑(j + 1) : Int) > (a:Int)) = true, PV.at 0 [Stp.idx (0 + Int.toNat (↑(j + 1) : Int)) 1] = PV.at 0 [Stp.idx (j + 1) 1], 0 ≤ (↑(j + 1) : Int), (↑(j + 1) : Int) < (n:Int), j + 1 < n, I6 (IntKind.wrap .i64 ((↑(j + 1) : Int) - 1)) = I6 j, PV.at 0 [Stp.idx (0 + j) 1] = PV.at 0 [Stp.idx j 1], 0 ≤ (j:Int), (j:Int) < (n:Int), j < n, Pt 71 [] [U6 (List.getD l (j + 1) (0 : Int)), U6 (List.getD l j (0 : Int))] [] (PV.bool true), I6 (IntKind.wrap .i64 ((↑(j + 1) : Int) - 1)) = I6 j, I6 (IntKind.wrap .i64 ((↑(j + 1) : Int) - 1)) = I6 j, PV.at 0 [Stp.idx (0 + j) 1] = PV.at 0 [Stp.idx j 1], 0 ≤ (j:Int), (j:Int) < (n:Int), j < n, PV.at 0 [Stp.idx (0 + Int.toNat (↑(j + 1) : Int)) 1] = PV.at 0 [Stp.idx (j + 1) 1], 0 ≤ (↑(j + 1) : Int), (↑(j + 1) : Int) < (n:Int), j + 1 < n, PV.at 0 [Stp.idx (0 + Int.toNat (↑(j + 1) : Int)) 1] = PV.at 0 [Stp.idx (j + 1) 1], 0 ≤ (↑(j + 1) : Int), (↑(j + 1) : Int) < (n:Int), j + 1 < n, PV.at 0 [Stp.idx (0 + j) 1] = PV.at 0 [Stp.idx j 1], 0 ≤ (j:Int), (j:Int) < (n:Int), j < n, I6 (IntKind.wrap .i64 ((↑(j + 1) : Int) - 1)) = I6 j] (ac (dT (by omega)) (ac (by (rw [show Int.toNat (↑(j + 1) : Int) = j + 1 by omega]; simp only [Nat.zero_add])) (ob3 (by omega) (ac (cg (Ab (by omega) (by omega) (by omega))) (ac (by simp only [Nat.zero_add]) (ob3 (by omega) (ac (AU _ _ (by first | omega | decide)) (ac (cg (Ab (by omega) (by omega) (by omega))) (ac (cg (Ab (by omega) (by omega) (by omega))) (ac (by simp only [Nat.zero_add]) (ob3 (by omega) (ac (by (rw [show Int.toNat (↑(j + 1) : Int) = j + 1 by omega]; simp only [Nat.zero_add])) (ob3 (by omega) (ac (by (rw [show Int.toNat (↑(j + 1) : Int) = j + 1 by omega]; simp only [Nat.zero_add])) (ob3 (by omega) (ac (by simp only [Nat.zero_add]) (ob3 (by omega) (ao (cg (Ab (by omega) (by omega) (by omega))))))))))))))))))))) ?_
        exact h'
      · rw [Hr, if_neg (fun x => hc x.2)] at h
        refine W.sgA 0 [(2, aT), (6, aV (PV.at 0 [Stp.idx (j + 1) 1])), (10, aV (I6 j)), (11, aV (PV.at 0 [Stp.idx j 1])), (13, aK (PV.bool false)), (16, aV (I6 ↑(i + 1)))] [(0, 0)] (qO n a b (i + 1) l) [decide ((↑(j + 1) : Int) > (a:Int)) = true, PV.at 0 [Stp.idx (0 + Int.toNat (↑(j + 1) : Int)) 1] = PV.at 0 [Stp.idx (j + 1) 1], 0 ≤ (↑(j + 1) : Int), (↑(j + 1) : Int) < (n:Int), j + 1 < n, I6 (IntKind.wrap .i64 ((↑(j + 1) : Int) - 1)) = I6 j, PV.at 0 [Stp.idx (0 + j) 1] = PV.at 0 [Stp.idx j 1], 0 ≤ (j:Int), (j:Int) < (n:Int), j < n, Pt 71 [] [U6 (List.getD l (j + 1) (0 : Int)), U6 (List.getD l j (0 : Int))] [] (PV.bool false), I6 (IntKind.wrap .i64 ((i:Int) + 1)) = I6 ↑(i + 1)] (ac (dT (by omega)) (ac (by (rw [show Int.toNat (↑(j + 1) : Int) = j + 1 by omega]; simp only [Nat.zero_add])) (ob3 (by omega) (ac (cg (Ab (by omega) (by omega) (by omega))) (ac (by simp only [Nat.zero_add]) (ob3 (by omega) (ac (Bn _ _ (by first | omega | decide)) (ao (wj (by omega)))))))))) ?_
        exact h
    · rw [Hr, if_neg (fun x => ha x.1)] at h
      refine W.sgA 0 [(2, aF), (16, aV (I6 ↑(i + 1)))] [(0, 0)] (qO n a b (i + 1) l) [decide ((↑(j + 1) : Int) > (a:Int)) = false, I6 (IntKind.wrap .i64 ((i:Int) + 1)) = I6 ↑(i + 1)] (ac (dF (by omega)) (ao (wj (by omega)))) ?_
      exact h
theorem W_qOE {n a b i : Nat} {l : Liz} (h : ¬ i < b) : Wt Try.f89 [0] [(0, Ac n l)] (.tup []) (Aa Try.f89 0) (qO n a b i l) := by
 refine W.rtA [(2, aF)] [(0, 0)] [decide ((i:Int) < (b:Int)) = false] (ao (dF (by omega)))
theorem W_qOS {n a b i : Nat} {l : Liz} {hout : Lrz} {res : PV} (h : i < b) (hb : b ≤ n) (hn : n < 1000000) (hw : Wt Try.f89 [0] hout res (Aa Try.f89 1) (qI n a b i i l)) :
  Wt Try.f89 [0] hout res (Aa Try.f89 0) (qO n a b i l) := by
 refine W.sgA 1 [(2, aT)] [(0, 0)] (qI n a b i i l) [decide ((i:Int) < (b:Int)) = true] (ao (dT (by omega))) ?_
 exact hw
theorem W_qO {n a b : Nat} (hn : n < 1000000) (hb : b ≤ n) : ∀ (k i : Nat) (l : List Int), b ≤ i + k →
  Wt Try.f89 [0] [(0, Ac n (insO a b i l))] (.tup []) (Aa Try.f89 0) (qO n a b i l)
 | 0, i, l, h => by
  rw [OY, if_neg (by omega)]
  exact W_qOE (by omega)
 | k + 1, i, l, h => by
  rw [OY]
  by_cases hi : i < b
  ·rw [if_pos hi]
   exact W_qOS hi hb hn (W_qI hn hb hi i l (Nat.le_refl i) (W_qO hn hb k (i + 1) _ (by omega)))
  ·rw [if_neg hi]
   exact W_qOE hi
theorem Pg {n a b : Nat} (hn : n < 1000000) (hb : b ≤ n) (ha : a ≤ n) (l : List Int) : Pt 89 [(0, Ac n l)] [.ref 0 [] 1 0 n, .int .i64 a, .int .i64 b] [(0, Ac n (insO a b (a + 1) l))] (.tup []) := by
 refine pO Try.func89 (by kernel_rfl) ?_
 have hw := W_qO (a := a) hn hb b (a + 1) l (by omega)
 refine W.sgA 0 [(1, aV (I6 ↑(a + 1)))] [(0, 0)] (qO n a b (a + 1) l) [I6 (IntKind.wrap .i64 ((a:Int) + 1)) = I6 ↑(a + 1)] (ao (wj (by omega))) ?_
 exact hw
def qS (n hi first root : Nat) (l : List Int) : DS := ⟨[(0, .ref 0 [] 1 0 n), (2, .int .i64 hi), (3, .int .i64 first), (8, .int .i64 root)], [(0, Ac n l)]⟩
theorem KG (hi first root : Nat) (l : List Int) : Eb hi first root l = if hi ≤ 2 * root + 1 then l else
  if 2 * root + 2 < hi ∧ l.getD (first + 2 * root + 1) 0 < l.getD (first + 2 * root + 2) 0 then
   if ¬ l.getD (first + root) 0 < l.getD (first + 2 * root + 2) 0 then l else Eb hi first (2 * root + 2) (swL l (first + root) (first + 2 * root + 2))
  else if ¬ l.getD (first + root) 0 < l.getD (first + 2 * root + 1) 0 then l else Eb hi first (2 * root + 1) (swL l (first + root) (first + 2 * root + 1)) := by
 rw [RU]
 rfl
theorem W_qSE {n hi first root : Nat} {l : Liz} (hn : n < 1000000) (hr : root < 4000000) (h : hi ≤ 2 * root + 1) : Wt Try.f100 [0] [(0, Ac n l)] (.tup []) (Aa Try.f100 0) (qS n hi first root l) := by
 refine W.rtA [(1, aV (I6 ↑(2 * root))), (2, aV (I6 ↑(2 * root + 1))), (6, aT)] [(0, 0)] [I6 (IntKind.wrap .i64 (2 * (root:Int))) = I6 ↑(2 * root), I6 (IntKind.wrap .i64 ((↑(2 * root) : Int) + 1)) = I6 ↑(2 * root + 1), decide ((↑(2 * root + 1) : Int) ≥ (hi:Int)) = true] (ac (wj (by omega)) (ac (wj (by omega)) (ao (dT (by omega)))))
theorem W_qS1 {n hi first root : Nat} {l : Liz} (hn : n < 1000000) (hf : first + hi ≤ n) (h : ¬ hi ≤ 2 * root + 1) (g : 2 * root + 2 < hi) (g2 : l.getD (first + 2 * root + 1) 0 < l.getD (first + 2 * root + 2) 0) (g3 : ¬ l.getD (first + root) 0 < l.getD (first + 2 * root + 2) 0) :
  Wt Try.f100 [0] [(0, Ac n l)] (.tup []) (Aa Try.f100 0) (qS n hi first root l) := by
 refine W.rtA [(1, aV (I6 ↑(2 * root))), (2, aV (I6 ↑(2 * root + 1))), (6, aF), (8, aV (I6 ↑(2 * root + 2))), (10, aT), (15, aV (I6 ↑(first + 2 * root + 1))), (16, aV (PV.at 0 [Stp.idx (first + 2 * root + 1) 1])), (21, aV (I6 ↑(first + 2 * root + 1))), (22, aV (I6 ↑(first + 2 * root + 2))), (23, aV (PV.at 0 [Stp.idx (first + 2 * root + 2) 1])), (25, aK (PV.bool true)), (28, aV (I6 ↑(2 * root + 2))), (33, aV (I6 ↑(first + root))), (34, aV (PV.at 0 [Stp.idx (first + root) 1])), (39, aV (I6 ↑(first + 2 * root + 2))), (40, aV (PV.at 0 [Stp.idx (first + 2 * root + 2) 1])), (42, aK (PV.bool false))] [(0, 0)] [I6 (IntKind.wrap .i64 (2 * (root:Int))) = I6 ↑(2 * root), I6 (IntKind.wrap .i64 ((↑(2 * root) : Int) + 1)) = I6 ↑(2 * root + 1), decide ((↑(2 * root + 1) : Int) ≥ (hi:Int)) = false, I6 (IntKind.wrap .i64 ((↑(2 * root + 1) : Int) + 1)) = I6 ↑(2 * root + 2), decide ((↑(2 * root + 2) : Int) < (hi:Int)) = true, I6 (IntKind.wrap .i64 ((first:Int) + (↑(2 * root + 1) : Int))) = I6 ↑(first + 2 * root + 1), PV.at 0 [Stp.idx (0 + Int.toNat (↑(first + 2 * root + 1) : Int)) 1] = PV.at 0 [Stp.idx (first + 2 * root + 1) 1], 0 ≤ (↑(first + 2 * root + 1) : Int), (↑(first + 2 * root + 1) : Int) < (n:Int), first + 2 * root + 1 < n, I6 (IntKind.wrap .i64 ((first:Int) + (↑(2 * root + 1) : Int))) = I6 ↑(first + 2 * root + 1), I6 (IntKind.wrap .i64 ((↑(first + 2 * root + 1) : Int) + 1)) = I6 ↑(first + 2 * root + 2), PV.at 0 [Stp.idx (0 + Int.toNat (↑(first + 2 * root + 2) : Int)) 1] = PV.at 0 [Stp.idx (first + 2 * root + 2) 1], 0 ≤ (↑(first + 2 * root + 2) : Int), (↑(first + 2 * root + 2) : Int) < (n:Int), first + 2 * root + 2 < n, Pt 71 [] [U6 (List.getD l (first + 2 * root + 1) (0 : Int)), U6 (List.getD l (first + 2 * root + 2) (0 : Int))] [] (PV.bool true), I6 (IntKind.wrap .i64 ((↑(2 * root + 1) : Int) + 1)) = I6 ↑(2 * root + 2), I6 (IntKind.wrap .i64 ((first:Int) + (root:Int))) = I6 ↑(first + root), PV.at 0 [Stp.idx (0 + Int.toNat (↑(first + root) : Int)) 1] = PV.at 0 [Stp.idx (first + root) 1], 0 ≤ (↑(first + root) : Int), (↑(first + root) : Int) < (n:Int), first + root < n, I6 (IntKind.wrap .i64 ((first:Int) + (↑(2 * root + 2) : Int))) = I6 ↑(first + 2 * root + 2), PV.at 0 [Stp.idx (0 + Int.toNat (↑(first + 2 * root + 2) : Int)) 1] = PV.at 0 [Stp.idx (first + 2 * root + 2) 1], 0 ≤ (↑(first + 2 * root + 2) : Int), (↑(first + 2 * root + 2) : Int) < (n:Int), first + 2 * root + 2 < n, Pt 71 [] [U6 (List.getD l (first + root) (0 : Int)), U6 (List.getD l (first + 2 * root + 2) (0 : Int))] [] (PV.bool false)] (ac (wj (by omega)) (ac (wj (by omega)) (ac (dF (by omega)) (ac (wj (by omega)) (ac (dT (by omega)) (ac (wj (by omega)) (ac (by (rw [show Int.toNat (↑(first + 2 * root + 1) : Int) = first + 2 * root + 1 by omega]; simp only [Nat.zero_add])) (ob3 (by omega) (ac (wj (by omega)) (ac (wj (by omega)) (ac (by (rw [show Int.toNat (↑(first + 2 * root + 2) : Int) = first + 2 * root + 2 by omega]; simp only [Nat.zero_add])) (ob3 (by omega) (ac (AU _ _ (by first | omega | decide)) (ac (wj (by omega)) (ac (wj (by omega)) (ac (by (rw [show Int.toNat (↑(first + root) : Int) = first + root by omega]; simp only [Nat.zero_add])) (ob3 (by omega) (ac (wj (by omega)) (ac (by (rw [show Int.toNat (↑(first + 2 * root + 2) : Int) = first + 2 * root + 2 by omega]; simp only [Nat.zero_add])) (ob3 (by omega) (ao (Bn _ _ (by first | omega | decide)))))))))))))))))))))))
theorem W_qS2 {n hi first root : Nat} {l : Liz} {hout : Lrz} {res : PV} (hn : n < 1000000) (hf : first + hi ≤ n) (h : ¬ hi ≤ 2 * root + 1) (g : 2 * root + 2 < hi) (g2 : l.getD (first + 2 * root + 1) 0 < l.getD (first + 2 * root + 2) 0) (g3 : l.getD (first + root) 0 < l.getD (first + 2 * root + 2) 0)
  (hw : Wt Try.f100 [0] hout res (Aa Try.f100 0) (qS n hi first (2 * root + 2) (swL l (first + root) (first + 2 * root + 2)))) :
  Wt Try.f100 [0] hout res (Aa Try.f100 0) (qS n hi first root l) := by
 refine W.sgA 0 [(1, aV (I6 ↑(2 * root))), (2, aV (I6 ↑(2 * root + 1))), (6, aF), (8, aV (I6 ↑(2 * root + 2))), (10, aT), (15, aV (I6 ↑(first + 2 * root + 1))), (16, aV (PV.at 0 [Stp.idx (first + 2 * root + 1) 1])), (21, aV (I6 ↑(first + 2 * root + 1))), (22, aV (I6 ↑(first + 2 * root + 2))), (23, aV (PV.at 0 [Stp.idx (first + 2 * root + 2) 1])), (25, aK (PV.bool true)), (28, aV (I6 ↑(2 * root + 2))), (33, aV (I6 ↑(first + root))), (34, aV (PV.at 0 [Stp.idx (first + root) 1])), (39, aV (I6 ↑(first + 2 * root + 2))), (40, aV (PV.at 0 [Stp.idx (first + 2 * root + 2) 1])), (42, aK (PV.bool true)), (47, aV (I6 ↑(first + root))), (51, aV (I6 ↑(first + 2 * root + 2))), (55, aV (I6 ↑(first + 2 * root + 2))), (56, aV (PV.at 0 [Stp.idx (first + 2 * root + 2) 1])), (61, aV (I6 ↑(first + root))), (62, aV (PV.at 0 [Stp.idx (first + root) 1])), (64, aV (PV.at 0 [Stp.idx (first + root) 1])), (66, aV (PV.at 0 [Stp.idx (first + 2 * root + 2) 1]))] [(0, 0)] (qS n hi first (2 * root + 2) (swL l (first + root) (first + 2 * root + 2))) [I6 (IntKind.wrap .i64 (2 * (root:Int))) = I6 ↑(2 * root), I6 (IntKind.wrap .i64 ((↑(2 * root) : Int) + 1)) = I6 ↑(2 * root + 1), decide ((↑(2 * root + 1) : Int) ≥ (hi:Int)) = false, I6 (IntKind.wrap .i64 ((↑(2 * root + 1) : Int) + 1)) = I6 ↑(2 * root + 2), decide ((↑(2 * root + 2) : Int) < (hi:Int)) = true, I6 (IntKind.wrap .i64 ((first:Int) + (↑(2 * root + 1) : Int))) = I6 ↑(first + 2 * root + 1), PV.at 0 [Stp.idx (0 + Int.toNat (↑(first + 2 * root + 1) : Int)) 1] = PV.at 0 [Stp.idx (first + 2 * root + 1) 1], 0 ≤ (↑(first + 2 * root + 1) : Int), (↑(first + 2 * root + 1) : Int) < (n:Int), first + 2 * root + 1 < n, I6 (IntKind.wrap .i64 ((first:Int) + (↑(2 * root + 1) : Int))) = I6 ↑(first + 2 * root + 1), I6 (IntKind.wrap .i64 ((↑(first + 2 * root + 1) : Int) + 1)) = I6 ↑(first + 2 * root + 2), PV.at 0 [Stp.idx (0 + Int.toNat (↑(first + 2 * root + 2) : Int)) 1] = PV.at 0 [Stp.idx (first + 2 * root + 2) 1], 0 ≤ (↑(first + 2 * root + 2) : Int), (↑(first + 2 * root + 2) : Int) < (n:Int), first + 2 * root + 2 < n, Pt 71 [] [U6 (List.getD l (first + 2 * root + 1) (0 : Int)), U6 (List.getD l (first + 2 * root + 2) (0 : Int))] [] (PV.bool true), I6 (IntKind.wrap .i64 ((↑(2 * root + 1) : Int) + 1)) = I6 ↑(2 * root + 2), I6 (IntKind.wrap .i64 ((first:Int) + (root:Int))) = I6 ↑(first + root), PV.at 0 [Stp.idx (0 + Int.toNat (↑(first + root) : Int)) 1] = PV.at 0 [Stp.idx (first + root) 1], 0 ≤ (↑(first + root) : Int), (↑(first + root) : Int) < (n:Int), first + root < n, I6 (IntKind.wrap .i64 ((first:Int) + (↑(2 * root + 2) : Int))) = I6 ↑(first + 2 * root + 2), PV.at 0 [Stp.idx (0 + Int.toNat (↑(first + 2 * root + 2) : Int)) 1] = PV.at 0 [Stp.idx (first + 2 * root + 2) 1], 0 ≤ (↑(first + 2 * root + 2) : Int), (↑(first + 2 * root + 2) : Int) < (n:Int), first + 2 * root + 2 < n, Pt 71 [] [U6 (List.getD l (first + root) (0 : Int)), U6 (List.getD l (first + 2 * root + 2) (0 : Int))] [] (PV.bool true), I6 (IntKind.wrap .i64 ((first:Int) + (root:Int))) = I6 ↑(first + root), I6 (IntKind.wrap .i64 ((first:Int) + (↑(2 * root + 2) : Int))) = I6 ↑(first + 2 * root + 2), I6 (IntKind.wrap .i64 ((first:Int) + (↑(2 * root + 2) : Int))) = I6 ↑(first + 2 * root + 2), PV.at 0 [Stp.idx (0 + Int.toNat (↑(first + 2 * root + 2) : Int)) 1] = PV.at 0 [Stp.idx (first + 2 * root + 2) 1], 0 ≤ (↑(first + 2 * root + 2) : Int), (↑(first + 2 * root + 2) : Int) < (n:Int), first + 2 * root + 2 < n, I6 (IntKind.wrap .i64 ((first:Int) + (root:Int))) = I6 ↑(first + root), PV.at 0 [Stp.idx (0 + Int.toNat (↑(first + root) : Int)) 1] = PV.at 0 [Stp.idx (first + root) 1], 0 ≤ (↑(first + root) : Int), (↑(first + root) : Int) < (n:Int), first + root < n, PV.at 0 [Stp.idx (0 + Int.toNat (↑(first + root) : Int)) 1] = PV.at 0 [Stp.idx (first + root) 1], 0 ≤ (↑(first + root) : Int), (↑(first + root) : Int) < (n:Int), first + root < n, PV.at 0 [Stp.idx (0 + Int.toNat (↑(first + 2 * root + 2) : Int)) 1] = PV.at 0 [Stp.idx (first + 2 * root + 2) 1], 0 ≤ (↑(first + 2 * root + 2) : Int), (↑(first + 2 * root + 2) : Int) < (n:Int), first + 2 * root + 2 < n] (ac (wj (by omega)) (ac (wj (by omega)) (ac (dF (by omega)) (ac (wj (by omega)) (ac (dT (by omega)) (ac (wj (by omega)) (ac (by (rw [show Int.toNat (↑(first + 2 * root + 1) : Int) = first + 2 * root + 1 by omega]; simp only [Nat.zero_add])) (ob3 (by omega) (ac (wj (by omega)) (ac (wj (by omega)) (ac (by (rw [show Int.toNat (↑(first + 2 * root + 2) : Int) = first + 2 * root + 2 by omega]; simp only [Nat.zero_add])) (ob3 (by omega) (ac (AU _ _ (by first | omega | decide)) (ac (wj (by omega)) (ac (wj (by omega)) (ac (by (rw [show Int.toNat (↑(first + root) : Int) = first + root by omega]; simp only [Nat.zero_add])) (ob3 (by omega) (ac (wj (by omega)) (ac (by (rw [show Int.toNat (↑(first + 2 * root + 2) : Int) = first + 2 * root + 2 by omega]; simp only [Nat.zero_add])) (ob3 (by omega) (ac (AU _ _ (by first | omega | decide)) (ac (wj (by omega)) (ac (wj (by omega)) (ac (wj (by omega)) (ac (by (rw [show Int.toNat (↑(first + 2 * root + 2) : Int) = first + 2 * root + 2 by omega]; simp only [Nat.zero_add])) (ob3 (by omega) (ac (wj (by omega)) (ac (by (rw [show Int.toNat (↑(first + root) : Int) = first + root by omega]; simp only [Nat.zero_add])) (ob3 (by omega) (ac (by (rw [show Int.toNat (↑(first + root) : Int) = first + root by omega]; simp only [Nat.zero_add])) (ob3 (by omega) (ac (by (rw [show Int.toNat (↑(first + 2 * root + 2) : Int) = first + 2 * root + 2 by omega]; simp only [Nat.zero_add])) (ob2 (by omega) (ao (by omega))))))))))))))))))))))))))))))))))) ?_
 exact hw
theorem W_qS3 {n hi first root : Nat} {l : Liz} (hn : n < 1000000) (hf : first + hi ≤ n) (h : ¬ hi ≤ 2 * root + 1) (g : ¬ (2 * root + 2 < hi ∧ l.getD (first + 2 * root + 1) 0 < l.getD (first + 2 * root + 2) 0)) (g3 : ¬ l.getD (first + root) 0 < l.getD (first + 2 * root + 1) 0) :
  Wt Try.f100 [0] [(0, Ac n l)] (.tup []) (Aa Try.f100 0) (qS n hi first root l) := by
 by_cases g1 : 2 * root + 2 < hi
 ·have g2 : ¬ l.getD (first + 2 * root + 1) 0 < l.getD (first + 2 * root + 2) 0 := fun x => g ⟨g1, x⟩
  refine W.rtA [(1, aV (I6 ↑(2 * root))), (2, aV (I6 ↑(2 * root + 1))), (6, aF), (8, aV (I6 ↑(2 * root + 2))), (10, aT), (15, aV (I6 ↑(first + 2 * root + 1))), (16, aV (PV.at 0 [Stp.idx (first + 2 * root + 1) 1])), (21, aV (I6 ↑(first + 2 * root + 1))), (22, aV (I6 ↑(first + 2 * root + 2))), (23, aV (PV.at 0 [Stp.idx (first + 2 * root + 2) 1])), (25, aK (PV.bool false)), (30, aV (I6 ↑(first + root))), (31, aV (PV.at 0 [Stp.idx (first + root) 1])), (36, aV (I6 ↑(first + 2 * root + 1))), (37, aV (PV.at 0 [Stp.idx (first + 2 * root + 1) 1])), (39, aK (PV.bool false))] [(0, 0)] [I6 (IntKind.wrap .i64 (2 * (root:Int))) = I6 ↑(2 * root), I6 (IntKind.wrap .i64 ((↑(2 * root) : Int) + 1)) = I6 ↑(2 * root + 1), decide ((↑(2 * root + 1) : Int) ≥ (hi:Int)) = false, I6 (IntKind.wrap .i64 ((↑(2 * root + 1) : Int) + 1)) = I6 ↑(2 * root + 2), decide ((↑(2 * root + 2) : Int) < (hi:Int)) = true, I6 (IntKind.wrap .i64 ((first:Int) + (↑(2 * root + 1) : Int))) = I6 ↑(first + 2 * root + 1), PV.at 0 [Stp.idx (0 + Int.toNat (↑(first + 2 * root + 1) : Int)) 1] = PV.at 0 [Stp.idx (first + 2 * root + 1) 1], 0 ≤ (↑(first + 2 * root + 1) : Int), (↑(first + 2 * root + 1) : Int) < (n:Int), first + 2 * root + 1 < n, I6 (IntKind.wrap .i64 ((first:Int) + (↑(2 * root + 1) : Int))) = I6 ↑(first + 2 * root + 1), I6 (IntKind.wrap .i64 ((↑(first + 2 * root + 1) : Int) + 1)) = I6 ↑(first + 2 * root + 2), PV.at 0 [Stp.idx (0 + Int.toNat (↑(first + 2 * root + 2) : Int)) 1] = PV.at 0 [Stp.idx (first + 2 * root + 2) 1], 0 ≤ (↑(first + 2 * root + 2) : Int), (↑(first + 2 * root + 2) : Int) < (n:Int), first + 2 * root + 2 < n, Pt 71 [] [U6 (List.getD l (first + 2 * root + 1) (0 : Int)), U6 (List.getD l (first + 2 * root + 2) (0 : Int))] [] (PV.bool false), I6 (IntKind.wrap .i64 ((first:Int) + (root:Int))) = I6 ↑(first + root), PV.at 0 [Stp.idx (0 + Int.toNat (↑(first + root) : Int)) 1] = PV.at 0 [Stp.idx (first + root) 1], 0 ≤ (↑(first + root) : Int), (↑(first + root) : Int) < (n:Int), first + root < n, I6 (IntKind.wrap .i64 ((first:Int) + (↑(2 * root + 1) : Int))) = I6 ↑(first + 2 * root + 1), PV.at 0 [Stp.idx (0 + Int.toNat (↑(first + 2 * root + 1) : Int)) 1] = PV.at 0 [Stp.idx (first + 2 * root + 1) 1], 0 ≤ (↑(first + 2 * root + 1) : Int), (↑(first + 2 * root + 1) : Int) < (n:Int), first + 2 * root + 1 < n, Pt 71 [] [U6 (List.getD l (first + root) (0 : Int)), U6 (List.getD l (first + 2 * root + 1) (0 : Int))] [] (PV.bool false)] (ac (wj (by omega)) (ac (wj (by omega)) (ac (dF (by omega)) (ac (wj (by omega)) (ac (dT (by omega)) (ac (wj (by omega)) (ac (by (rw [show Int.toNat (↑(first + 2 * root + 1) : Int) = first + 2 * root + 1 by omega]; simp only [Nat.zero_add])) (ob3 (by omega) (ac (wj (by omega)) (ac (wj (by omega)) (ac (by (rw [show Int.toNat (↑(first + 2 * root + 2) : Int) = first + 2 * root + 2 by omega]; simp only [Nat.zero_add])) (ob3 (by omega) (ac (Bn _ _ (by first | omega | decide)) (ac (wj (by omega)) (ac (by (rw [show Int.toNat (↑(first + root) : Int) = first + root by omega]; simp only [Nat.zero_add])) (ob3 (by omega) (ac (wj (by omega)) (ac (by (rw [show Int.toNat (↑(first + 2 * root + 1) : Int) = first + 2 * root + 1 by omega]; simp only [Nat.zero_add])) (ob3 (by omega) (ao (Bn _ _ (by first | omega | decide))))))))))))))))))))))
 ·refine W.rt [(1, aV (I6 (↑(2 * root) : Int))), (2, aV (I6 (↑(2 * root + 1) : Int))), (6, aF), (8, aV (I6 (↑(2 * root + 2) : Int))), (10, aF), (30, aV (I6 (↑(first + root) : Int))), (31, aV (PV.at 0 [Stp.idx (first + root) 1])), (36, aV (I6 (↑(first + 2 * root + 1) : Int))), (37, aV (PV.at 0 [Stp.idx (first + 2 * root + 1) 1])), (39, aK (PV.bool false))] [(0, 0)] [I6 (IntKind.wrap .i64 (2 * (root:Int))) = I6 (↑(2 * root) : Int), I6 (IntKind.wrap .i64 ((↑(2 * root) : Int) + 1)) = I6 (↑(2 * root + 1) : Int), decide ((↑(2 * root + 1) : Int) ≥ (hi:Int)) = false, I6 (IntKind.wrap .i64 ((↑(2 * root + 1) : Int) + 1)) = I6 (↑(2 * root + 2) : Int), decide ((↑(2 * root + 2) : Int) < (hi:Int)) = false, I6 (IntKind.wrap .i64 ((first:Int) + (root:Int))) = I6 (↑(first + root) : Int), PV.at 0 [Stp.idx (0 + Int.toNat (↑(first + root) : Int)) 1] = PV.at 0 [Stp.idx (first + root) 1], 0 ≤ (↑(first + root) : Int), (↑(first + root) : Int) < (n:Int), first + root < n, I6 (IntKind.wrap .i64 ((first:Int) + (↑(2 * root + 1) : Int))) = I6 (↑(first + 2 * root + 1) : Int), PV.at 0 [Stp.idx (0 + Int.toNat (↑(first + 2 * root + 1) : Int)) 1] = PV.at 0 [Stp.idx (first + 2 * root + 1) 1], 0 ≤ (↑(first + 2 * root + 1) : Int), (↑(first + 2 * root + 1) : Int) < (n:Int), first + 2 * root + 1 < n, Pt 71 [] [U6 (List.getD l (first + root) (0 : Int)), U6 (List.getD l (first + 2 * root + 1) (0 : Int))] [] (PV.bool false)] (by kernel_rfl) (ac (cg (Ab rfl (by omega) (by omega))) (ac (cg (Ab rfl (by omega) (by omega))) (ac (dF (by omega)) (ac (cg (Ab rfl (by omega) (by omega))) (ac (dF (by omega)) (ac (cg (Ab rfl (by omega) (by omega))) (ac (by (rw [show Int.toNat (↑(first + root) : Int) = first + root by omega]; simp only [Nat.zero_add])) (ac (by omega) (ac (by omega) (ac (by omega) (ac (cg (Ab rfl (by omega) (by omega))) (ac (by (rw [show Int.toNat (↑(first + 2 * root + 1) : Int) = first + 2 * root + 1 by omega]; simp only [Nat.zero_add])) (ac (by omega) (ac (by omega) (ac (by omega) (ao (Bn _ _ (by first | omega | decide))))))))))))))))))
theorem W_qS4 {n hi first root : Nat} {l : Liz} {hout : Lrz} {res : PV} (hn : n < 1000000) (hf : first + hi ≤ n) (h : ¬ hi ≤ 2 * root + 1) (g : ¬ (2 * root + 2 < hi ∧ l.getD (first + 2 * root + 1) 0 < l.getD (first + 2 * root + 2) 0)) (g3 : l.getD (first + root) 0 < l.getD (first + 2 * root + 1) 0)
  (hw : Wt Try.f100 [0] hout res (Aa Try.f100 0) (qS n hi first (2 * root + 1) (swL l (first + root) (first + 2 * root + 1)))) :
  Wt Try.f100 [0] hout res (Aa Try.f100 0) (qS n hi first root l) := by
 by_cases g1 : 2 * root + 2 < hi
 ·have g2 : ¬ l.getD (first + 2 * root + 1) 0 < l.getD (first + 2 * root + 2) 0 := fun x => g ⟨g1, x⟩
  refine W.sgA 0 [(1, aV (I6 ↑(2 * root))), (2, aV (I6 ↑(2 * root + 1))), (6, aF), (8, aV (I6 ↑(2 * root + 2))), (10, aT), (15, aV (I6 ↑(first + 2 * root + 1))), (16, aV (PV.at 0 [Stp.idx (first + 2 * root + 1) 1])), (21, aV (I6 ↑(first + 2 * root + 1))), (22, aV (I6 ↑(first + 2 * root + 2))), (23, aV (PV.at 0 [Stp.idx (first + 2 * root + 2) 1])), (25, aK (PV.bool false)), (30, aV (I6 ↑(first + root))), (31, aV (PV.at 0 [Stp.idx (first + root) 1])), (36, aV (I6 ↑(first + 2 * root + 1))), (37, aV (PV.at 0 [Stp.idx (first + 2 * root + 1) 1])), (39, aK (PV.bool true)), (44, aV (I6 ↑(first + root))), (48, aV (I6 ↑(first + 2 * root + 1))), (52, aV (I6 ↑(first + 2 * root + 1))), (53, aV (PV.at 0 [Stp.idx (first + 2 * root + 1) 1])), (58, aV (I6 ↑(first + root))), (59, aV (PV.at 0 [Stp.idx (first + root) 1])), (61, aV (PV.at 0 [Stp.idx (first + root) 1])), (63, aV (PV.at 0 [Stp.idx (first + 2 * root + 1) 1]))] [(0, 0)] (qS n hi first (2 * root + 1) (swL l (first + root) (first + 2 * root + 1))) [I6 (IntKind.wrap .i64 (2 * (root:Int))) = I6 ↑(2 * root), I6 (IntKind.wrap .i64 ((↑(2 * root) : Int) + 1)) = I6 ↑(2 * root + 1), decide ((↑(2 * root + 1) : Int) ≥ (hi:Int)) = false, I6 (IntKind.wrap .i64 ((↑(2 * root + 1) : Int) + 1)) = I6 ↑(2 * root + 2), decide ((↑(2 * root + 2) : Int) < (hi:Int)) = true, I6 (IntKind.wrap .i64 ((first:Int) + (↑(2 * root + 1) : Int))) = I6 ↑(first + 2 * root + 1), PV.at 0 [Stp.idx (0 + Int.toNat (↑(first + 2 * root + 1) : Int)) 1] = PV.at 0 [Stp.idx (first + 2 * root + 1) 1], 0 ≤ (↑(first + 2 * root + 1) : Int), (↑(first + 2 * root + 1) : Int) < (n:Int), first + 2 * root + 1 < n, I6 (IntKind.wrap .i64 ((first:Int) + (↑(2 * root + 1) : Int))) = I6 ↑(first + 2 * root + 1), I6 (IntKind.wrap .i64 ((↑(first + 2 * root + 1) : Int) + 1)) = I6 ↑(first + 2 * root + 2), PV.at 0 [Stp.idx (0 + Int.toNat (↑(first + 2 * root + 2) : Int)) 1] = PV.at 0 [Stp.idx (first + 2 * root + 2) 1], 0 ≤ (↑(first + 2 * root + 2) : Int), (↑(first + 2 * root + 2) : Int) < (n:Int), first + 2 * root + 2 < n, Pt 71 [] [U6 (List.getD l (first + 2 * root + 1) (0 : Int)), U6 (List.getD l (first + 2 * root + 2) (0 : Int))] [] (PV.bool false), I6 (IntKind.wrap .i64 ((first:Int) + (root:Int))) = I6 ↑(first + root), PV.at 0 [Stp.idx (0 + Int.toNat (↑(first + root) : Int)) 1] = PV.at 0 [Stp.idx (first + root) 1], 0 ≤ (↑(first + root) : Int), (↑(first + root) : Int) < (n:Int), first + root < n, I6 (IntKind.wrap .i64 ((first:Int) + (↑(2 * root + 1) : Int))) = I6 ↑(first + 2 * root + 1), PV.at 0 [Stp.idx (0 + Int.toNat (↑(first + 2 * root + 1) : Int)) 1] = PV.at 0 [Stp.idx (first + 2 * root + 1) 1], 0 ≤ (↑(first + 2 * root + 1) : Int), (↑(first + 2 * root + 1) : Int) < (n:Int), first + 2 * root + 1 < n, Pt 71 [] [U6 (List.getD l (first + root) (0 : Int)), U6 (List.getD l (first + 2 * root + 1) (0 : Int))] [] (PV.bool true), I6 (IntKind.wrap .i64 ((first:Int) + (root:Int))) = I6 ↑(first + root), I6 (IntKind.wrap .i64 ((first:Int) + (↑(2 * root + 1) : Int))) = I6 ↑(first + 2 * root + 1), I6 (IntKind.wrap .i64 ((first:Int) + (↑(2 * root + 1) : Int))) = I6 ↑(first + 2 * root + 1), PV.at 0 [Stp.idx (0 + Int.toNat (↑(first + 2 * root + 1) : Int)) 1] = PV.at 0 [Stp.idx (first + 2 * root + 1) 1], 0 ≤ (↑(first + 2 * root + 1) : Int), (↑(first + 2 * root + 1) : Int) < (n:Int), first + 2 * root + 1 < n, I6 (IntKind.wrap .i64 ((first:Int) + (root:Int))) = I6 ↑(first + root), PV.at 0 [Stp.idx (0 + Int.toNat (↑(first + root) : Int)) 1] = PV.at 0 [Stp.idx (first + root) 1], 0 ≤ (↑(first + root) : Int), (↑(first + root) : Int) < (n:Int), first + root < n, PV.at 0 [Stp.idx (0 + Int.toNat (↑(first + root) : Int)) 1] = PV.at 0 [Stp.idx (first + root) 1], 0 ≤ (↑(first + root) : Int), (↑(first + root) : Int) < (n:Int), first + root < n, PV.at 0 [Stp.idx (0 + Int.toNat (↑(first + 2 * root + 1) : Int)) 1] = PV.at 0 [Stp.idx (first + 2 * root + 1) 1], 0 ≤ (↑(first + 2 * root + 1) : Int), (↑(first + 2 * root + 1) : Int) < (n:Int), first + 2 * root + 1 < n] (ac (wj (by omega)) (ac (wj (by omega)) (ac (dF (by omega)) (ac (wj (by omega)) (ac (dT (by omega)) (ac (wj (by omega)) (ac (by (rw [show Int.toNat (↑(first + 2 * root + 1) : Int) = first + 2 * root + 1 by omega]; simp only [Nat.zero_add])) (ob3 (by omega) (ac (wj (by omega)) (ac (wj (by omega)) (ac (by (rw [show Int.toNat (↑(first + 2 * root + 2) : Int) = first + 2 * root + 2 by omega]; simp only [Nat.zero_add])) (ob3 (by omega) (ac (Bn _ _ (by first | omega | decide)) (ac (wj (by omega)) (ac (by (rw [show Int.toNat (↑(first + root) : Int) = first + root by omega]; simp only [Nat.zero_add])) (ob3 (by omega) (ac (wj (by omega)) (ac (by (rw [show Int.toNat (↑(first + 2 * root + 1) : Int) = first + 2 * root + 1 by omega]; simp only [Nat.zero_add])) (ob3 (by omega) (ac (AU _ _ (by first | omega | decide)) (ac (wj (by omega)) (ac (wj (by omega)) (ac (wj (by omega)) (ac (by (rw [show Int.toNat (↑(first + 2 * root + 1) : Int) = first + 2 * root + 1 by omega]; simp only [Nat.zero_add])) (ob3 (by omega) (ac (wj (by omega)) (ac (by (rw [show Int.toNat (↑(first + root) : Int) = first + root by omega]; simp only [Nat.zero_add])) (ob3 (by omega) (ac (by (rw [show Int.toNat (↑(first + root) : Int) = first + root by omega]; simp only [Nat.zero_add])) (ob3 (by omega) (ac (by (rw [show Int.toNat (↑(first + 2 * root + 1) : Int) = first + 2 * root + 1 by omega]; simp only [Nat.zero_add])) (ob2 (by omega) (ao (by omega)))))))))))))))))))))))))))))))))) ?_
  exact hw
 ·refine W.sg 0 [(1, aV (I6 (↑(2 * root) : Int))), (2, aV (I6 (↑(2 * root + 1) : Int))), (6, aF), (8, aV (I6 (↑(2 * root + 2) : Int))), (10, aF), (30, aV (I6 (↑(first + root) : Int))), (31, aV (PV.at 0 [Stp.idx (first + root) 1])), (36, aV (I6 (↑(first + 2 * root + 1) : Int))), (37, aV (PV.at 0 [Stp.idx (first + 2 * root + 1) 1])), (39, aK (PV.bool true)), (44, aV (I6 (↑(first + root) : Int))), (48, aV (I6 (↑(first + 2 * root + 1) : Int))), (52, aV (I6 (↑(first + 2 * root + 1) : Int))), (53, aV (PV.at 0 [Stp.idx (first + 2 * root + 1) 1])), (58, aV (I6 (↑(first + root) : Int))), (59, aV (PV.at 0 [Stp.idx (first + root) 1])), (61, aV (PV.at 0 [Stp.idx (first + root) 1])), (63, aV (PV.at 0 [Stp.idx (first + 2 * root + 1) 1]))] [(0, 0)] (qS n hi first (2 * root + 1) (swL l (first + root) (first + 2 * root + 1))) [I6 (IntKind.wrap .i64 (2 * (root:Int))) = I6 (↑(2 * root) : Int), I6 (IntKind.wrap .i64 ((↑(2 * root) : Int) + 1)) = I6 (↑(2 * root + 1) : Int), decide ((↑(2 * root + 1) : Int) ≥ (hi:Int)) = false, I6 (IntKind.wrap .i64 ((↑(2 * root + 1) : Int) + 1)) = I6 (↑(2 * root + 2) : Int), decide ((↑(2 * root + 2) : Int) < (hi:Int)) = false, I6 (IntKind.wrap .i64 ((first:Int) + (root:Int))) = I6 (↑(first + root) : Int), PV.at 0 [Stp.idx (0 + Int.toNat (↑(first + root) : Int)) 1] = PV.at 0 [Stp.idx (first + root) 1], 0 ≤ (↑(first + root) : Int), (↑(first + root) : Int) < (n:Int), first + root < n, I6 (IntKind.wrap .i64 ((first:Int) + (↑(2 * root + 1) : Int))) = I6 (↑(first + 2 * root + 1) : Int), PV.at 0 [Stp.idx (0 + Int.toNat (↑(first + 2 * root + 1) : Int)) 1] = PV.at 0 [Stp.idx (first + 2 * root + 1) 1], 0 ≤ (↑(first + 2 * root + 1) : Int), (↑(first + 2 * root + 1) : Int) < (n:Int), first + 2 * root + 1 < n, Pt 71 [] [U6 (List.getD l (first + root) (0 : Int)), U6 (List.getD l (first + 2 * root + 1) (0 : Int))] [] (PV.bool true), I6 (IntKind.wrap .i64 ((first:Int) + (root:Int))) = I6 (↑(first + root) : Int), I6 (IntKind.wrap .i64 ((first:Int) + (↑(2 * root + 1) : Int))) = I6 (↑(first + 2 * root + 1) : Int), I6 (IntKind.wrap .i64 ((first:Int) + (↑(2 * root + 1) : Int))) = I6 (↑(first + 2 * root + 1) : Int), PV.at 0 [Stp.idx (0 + Int.toNat (↑(first + 2 * root + 1) : Int)) 1] = PV.at 0 [Stp.idx (first + 2 * root + 1) 1], 0 ≤ (↑(first + 2 * root + 1) : Int), (↑(first + 2 * root + 1) : Int) < (n:Int), first + 2 * root + 1 < n, I6 (IntKind.wrap .i64 ((first:Int) + (root:Int))) = I6 (↑(first + root) : Int), PV.at 0 [Stp.idx (0 + Int.toNat (↑(first + root) : Int)) 1] = PV.at 0 [Stp.idx (first + root) 1], 0 ≤ (↑(first + root) : Int), (↑(first + root) : Int) < (n:Int), first + root < n, PV.at 0 [Stp.idx (0 + Int.toNat (↑(first + root) : Int)) 1] = PV.at 0 [Stp.idx (first + root) 1], 0 ≤ (↑(first + root) : Int), (↑(first + root) : Int) < (n:Int), first + root < n, PV.at 0 [Stp.idx (0 + Int.toNat (↑(first + 2 * root + 1) : Int)) 1] = PV.at 0 [Stp.idx (first + 2 * root + 1) 1], 0 ≤ (↑(first + 2 * root + 1) : Int), (↑(first + 2 * root + 1) : Int) < (n:Int), first + 2 * root + 1 < n] (by kernel_rfl) (ac (cg (Ab rfl (by omega) (by omega))) (ac (cg (Ab rfl (by omega) (by omega))) (ac (dF (by omega)) (ac (cg (Ab rfl (by omega) (by omega))) (ac (dF (by omega)) (ac (cg (Ab rfl (by omega) (by omega))) (ac (by (rw [show Int.toNat (↑(first + root) : Int) = first + root by omega]; simp only [Nat.zero_add])) (ac (by omega) (ac (by omega) (ac (by omega) (ac (cg (Ab rfl (by omega) (by omega))) (ac (by (rw [show Int.toNat (↑(first + 2 * root + 1) : Int) = first + 2 * root + 1 by omega]; simp only [Nat.zero_add])) (ac (by omega) (ac (by omega) (ac (by omega) (ac (AU _ _ (by first | omega | decide)) (ac (cg (Ab rfl (by omega) (by omega))) (ac (cg (Ab rfl (by omega) (by omega))) (ac (cg (Ab rfl (by omega) (by omega))) (ac (by (rw [show Int.toNat (↑(first + 2 * root + 1) : Int) = first + 2 * root + 1 by omega]; simp only [Nat.zero_add])) (ac (by omega) (ac (by omega) (ac (by omega) (ac (cg (Ab rfl (by omega) (by omega))) (ac (by (rw [show Int.toNat (↑(first + root) : Int) = first + root by omega]; simp only [Nat.zero_add])) (ac (by omega) (ac (by omega) (ac (by omega) (ac (by (rw [show Int.toNat (↑(first + root) : Int) = first + root by omega]; simp only [Nat.zero_add])) (ac (by omega) (ac (by omega) (ac (by omega) (ac (by (rw [show Int.toNat (↑(first + 2 * root + 1) : Int) = first + 2 * root + 1 by omega]; simp only [Nat.zero_add])) (ac (by omega) (ac (by omega) (ao (by omega))))))))))))))))))))))))))))))))))))) ?_
  exact hw
theorem W_qS {n hi first : Nat} (hn : n < 1000000) (hf : first + hi ≤ n) : ∀ (k root : Nat) (l : List Int), hi ≤ root + k → root < 3000000 →
  Wt Try.f100 [0] [(0, Ac n (Eb hi first root l))] (.tup []) (Aa Try.f100 0) (qS n hi first root l)
 | 0, root, l, h, hr => by
  rw [KG, if_pos (by omega)]
  exact W_qSE hn (by omega) (by omega)
 | k + 1, root, l, h, hr => by
  rw [KG]
  by_cases h1 : hi ≤ 2 * root + 1
  ·rw [if_pos h1]
   exact W_qSE hn (by omega) h1
  ·rw [if_neg h1]
   by_cases h2 : 2 * root + 2 < hi ∧ l.getD (first + 2 * root + 1) 0 < l.getD (first + 2 * root + 2) 0
   ·rw [if_pos h2]
    by_cases h3 : l.getD (first + root) 0 < l.getD (first + 2 * root + 2) 0
    ·rw [if_neg (not_not_intro h3)]
     exact W_qS2 hn hf h1 h2.1 h2.2 h3 (W_qS hn hf k _ _ (by omega) (by omega))
    ·rw [if_pos h3]
     exact W_qS1 hn hf h1 h2.1 h2.2 h3
   ·rw [if_neg h2]
    by_cases h3 : l.getD (first + root) 0 < l.getD (first + 2 * root + 1) 0
    ·rw [if_neg (not_not_intro h3)]
     exact W_qS4 hn hf h1 h2 h3 (W_qS hn hf k _ _ (by omega) (by omega))
    ·rw [if_pos h3]
     exact W_qS3 hn hf h1 h2 h3
theorem Ph {n hi first root : Nat} (hn : n < 1000000) (hf : first + hi ≤ n) (hr : root < 3000000) (l : List Int) : Pt 100 [(0, Ac n l)] [.ref 0 [] 1 0 n, .int .i64 root, .int .i64 hi, .int .i64 first] [(0, Ac n (Eb hi first root l))] (.tup []) := by
 refine pO Try.func100 (by kernel_rfl) ?_
 have hw := W_qS hn hf hi root l (by omega) hr
 refine W.sgA 0 [] [(0, 0)] (qS n hi first root l) [] trivial ?_
 exact hw
def qH (n a hi : Nat) (i : Int) (l : List Int) : DS := ⟨[(0, .ref 0 [] 1 0 n), (6, .int .i64 a), (7, .int .i64 0), (8, .int .i64 hi), (9, .int .i64 i)], [(0, Ac n l)]⟩
def qP (n a : Nat) (i : Int) (l : List Int) : DS := ⟨[(0, .ref 0 [] 1 0 n), (6, .int .i64 a), (7, .int .i64 0), (10, .int .i64 i)], [(0, Ac n l)]⟩
theorem W_qHS {n a hi k : Nat} {l m : Liz} {hout : Lrz} {res : PV} (hn : n < 1000000) (hk : k < 3000000) (c1 : Pt 100 [(0, Ac n l)] [.ref 0 [] 1 0 n, .int .i64 k, .int .i64 hi, .int .i64 a] [(0, Ac n m)] (.tup []))
  (hw : Wt Try.f90 [0] hout res (Aa Try.f90 0) (qH n a hi ((k : Int) - 1) m)) :
  Wt Try.f90 [0] hout res (Aa Try.f90 0) (qH n a hi (k : Int) l) := by
 refine W.sgA 0 [(6, cC true [(0, 0)] c1), (8, aV (I6 ((k:Int) - 1)))] [(0, 0)] (qH n a hi ((k : Int) - 1) m) [_, I6 (IntKind.wrap .i64 ((k:Int) - 1)) = I6 ((k:Int) - 1)] (ac (c1) (ao (wj (by omega)))) ?_
 exact hw
theorem W_qHE {n a hi : Nat} {l : Liz} {hout : Lrz} {res : PV} (hn : n < 1000000) (hf : hi ≤ n)
  (hw : Wt Try.f90 [0] hout res (Aa Try.f90 1) (qP n a ((hi : Int) - 1) l)) :
  Wt Try.f90 [0] hout res (Aa Try.f90 0) (qH n a hi (-1) l) := by
 refine W.sgA 1 [(3, aV (I6 ((hi:Int) - 1)))] [(0, 0)] (qP n a ((hi : Int) - 1) l) [I6 (IntKind.wrap .i64 ((hi:Int) - 1)) = I6 ((hi:Int) - 1)] (ao (wj (by omega))) ?_
 exact hw
theorem W_qPE {n a : Nat} {l : Liz} : Wt Try.f90 [0] [(0, Ac n l)] (.tup []) (Aa Try.f90 1) (qP n a (-1) l) := by
 refine W.rtA [] [(0, 0)] [] trivial
theorem W_qPS {n a k : Nat} {l m : Liz} {hout : Lrz} {res : PV} (hn : n < 1000000) (hf : a + k < n) (c1 : Pt 100 [(0, Ac n (swL l a (a + k)))] [.ref 0 [] 1 0 n, .int .i64 0, .int .i64 k, .int .i64 a] [(0, Ac n m)] (.tup []))
  (hw : Wt Try.f90 [0] hout res (Aa Try.f90 1) (qP n a ((k : Int) - 1) m)) :
  Wt Try.f90 [0] hout res (Aa Try.f90 1) (qP n a (k : Int) l) := by
 unfold swL at c1
 refine W.sgA 1 [(7, aV (I6 ↑(a + k))), (11, aV (I6 ↑(a + k))), (12, aV (PV.at 0 [Stp.idx (a + k) 1])), (16, aV (PV.at 0 [Stp.idx a 1])), (18, aV (PV.at 0 [Stp.idx a 1])), (20, aV (PV.at 0 [Stp.idx (a + k) 1])), (26, cC true [(0, 0)] c1), (28, aV (I6 ((k:Int) - 1)))] [(0, 0)] (qP n a ((k : Int) - 1) m) [I6 (IntKind.wrap .i64 ((a:Int) + (k:Int))) = I6 ↑(a + k), I6 (IntKind.wrap .i64 ((a:Int) + (k:Int))) = I6 ↑(a + k), PV.at 0 [Stp.idx (0 + Int.toNat (↑(a + k) : Int)) 1] = PV.at 0 [Stp.idx (a + k) 1], 0 ≤ (↑(a + k) : Int), (↑(a + k) : Int) < (n:Int), a + k < n, PV.at 0 [Stp.idx (0 + a) 1] = PV.at 0 [Stp.idx a 1], 0 ≤ (a:Int), (a:Int) < (n:Int), a < n, PV.at 0 [Stp.idx (0 + a) 1] = PV.at 0 [Stp.idx a 1], 0 ≤ (a:Int), (a:Int) < (n:Int), a < n, PV.at 0 [Stp.idx (0 + Int.toNat (↑(a + k) : Int)) 1] = PV.at 0 [Stp.idx (a + k) 1], 0 ≤ (↑(a + k) : Int), (↑(a + k) : Int) < (n:Int), a + k < n, _, I6 (IntKind.wrap .i64 ((k:Int) - 1)) = I6 ((k:Int) - 1)] (ac (wj (by omega)) (ac (wj (by omega)) (ac (by (rw [show Int.toNat (↑(a + k) : Int) = a + k by omega]; simp only [Nat.zero_add])) (ob3 (by omega) (ac (by simp only [Nat.zero_add]) (ob3 (by omega) (ac (by simp only [Nat.zero_add]) (ob3 (by omega) (ac (by (rw [show Int.toNat (↑(a + k) : Int) = a + k by omega]; simp only [Nat.zero_add])) (ob3 (by omega) (ac (c1) (ao (wj (by omega)))))))))))))) ?_
 exact hw
theorem W_qP {n a : Nat} (hn : n < 1000000) : ∀ (k : Nat) (l : List Int), a + k ≤ n → Wt Try.f90 [0] [(0, Ac n (hpL a k l))] (.tup []) (Aa Try.f90 1) (qP n a ((k : Int) - 1) l)
 | 0, l, h => by
  rw [RG]
  exact W_qPE
 | k + 1, l, h => by
  rw [Re, show (((k + 1 : Nat) : Int) - 1) = (k : Int) by omega]
  exact W_qPS hn (by omega) (Ph (root := 0) hn (by omega) (by omega) _) (W_qP hn k _ (by omega))
theorem W_qH {n a hi : Nat} {hout : Lrz} {res : PV} (hn : n < 1000000) (hf : a + hi ≤ n) : ∀ (k : Nat) (l : List Int), k ≤ 2000000 →
  Wt Try.f90 [0] hout res (Aa Try.f90 0) (qH n a hi (-1) (hbL hi a k l)) →
  Wt Try.f90 [0] hout res (Aa Try.f90 0) (qH n a hi ((k : Int) - 1) l)
 | 0, l, h, hw => by
  rw [Q5] at hw
  exact hw
 | k + 1, l, h, hw => by
  rw [RY] at hw
  rw [show (((k + 1 : Nat) : Int) - 1) = (k : Int) by omega]
  exact W_qHS hn (by omega) (Ph hn hf (by omega) l) (W_qH hn hf k _ (by omega) hw)
theorem pc_heap {n a b : Nat} (hn : n < 1000000) (hb : b ≤ n) (hab : a + 2 ≤ b) (l : List Int) : Pt 90 [(0, Ac n l)] [.ref 0 [] 1 0 n, .int .i64 a, .int .i64 b] [(0, Ac n (hsL' l a b))] (.tup []) := by
 refine pO Try.func90 (by kernel_rfl) ?_
 rw [hsL'_eq]
 have hw := W_qH hn (show a + (b - a) ≤ n by omega) ((b - a - 1) / 2 + 1) l (by omega) (W_qHE hn (by omega) (W_qP hn (b - a) _ (by omega)))
 rw [show (((b - a - 1) / 2 + 1 : Nat) : Int) - 1 = (((b - a - 1) / 2 : Nat) : Int) by omega] at hw
 obtain ⟨q, rfl⟩ : ∃ q, b = a + q := ⟨b - a, by omega⟩
 rw [Nat.add_sub_cancel_left] at hw ⊢
 have he : ((q : Int) - 1).tdiv 2 = (((q - 1) / 2 : Nat) : Int) := by
  rw [Int.tdiv_eq_ediv_of_nonneg (by omega)]
  omega
 have hr : (q - 1) / 2 < 1000000 := by omega
 generalize (q - 1) / 2 = r at *
 refine W.sgA 0 [(5, aV (I6 q)), (8, aV (I6 ((q:Int) - 1))), (9, aV (I6 r))] [(0, 0)] (qH n a q (r : Int) l) [I6 (IntKind.wrap .i64 ((↑(a + q) : Int) - (a:Int))) = I6 q, I6 (IntKind.wrap .i64 ((q:Int) - 1)) = I6 ((q:Int) - 1), I6 (IntKind.wrap .i64 (Int.tdiv ((q:Int) - 1) (2 : Int))) = I6 r, (2 : Int) ≠ 0] (ac (cg (Ab (by omega) (by omega) (by omega))) (ac (wj (by omega)) (ac (cg (Ab he (by omega) (by omega))) (ao (by omega))))) ?_
 exact hw
def qR (n : Nat) (i j : Nat) (l : List Int) : DS := ⟨[(0, .ref 0 [] 1 0 n), (6, .int .i64 i), (7, .int .i64 j)], [(0, Ac n l)]⟩
theorem W_qRE {n i j : Nat} {l : Liz} (h : ¬ i < j) : Wt Try.f93 [0] [(0, Ac n l)] (.tup []) (Aa Try.f93 0) (qR n i j l) := by
 refine W.rtA [(2, aF)] [(0, 0)] [decide ((i:Int) < (j:Int)) = false] (ao (dF (by omega)))
theorem W_qRS {n i j : Nat} {l : Liz} {hout : Lrz} {res : PV} (hn : n < 1000000) (hj : j + 1 < n) (h : i < j + 1) (hw : Wt Try.f93 [0] hout res (Aa Try.f93 0) (qR n (i + 1) j (swL l i (j + 1)))) :
  Wt Try.f93 [0] hout res (Aa Try.f93 0) (qR n i (j + 1) l) := by
 refine W.sgA 0 [(2, aT), (9, aV (PV.at 0 [Stp.idx (j + 1) 1])), (13, aV (PV.at 0 [Stp.idx i 1])), (15, aV (PV.at 0 [Stp.idx i 1])), (17, aV (PV.at 0 [Stp.idx (j + 1) 1])), (20, aV (I6 ↑(i + 1))), (23, aV (I6 j))] [(0, 0)] (qR n (i + 1) j (swL l i (j + 1))) [decide ((i:Int) < (↑(j + 1) : Int)) = true, PV.at 0 [Stp.idx (0 + Int.toNat (↑(j + 1) : Int)) 1] = PV.at 0 [Stp.idx (j + 1) 1], 0 ≤ (↑(j + 1) : Int), (↑(j + 1) : Int) < (n:Int), j + 1 < n, PV.at 0 [Stp.idx (0 + i) 1] = PV.at 0 [Stp.idx i 1], 0 ≤ (i:Int), (i:Int) < (n:Int), i < n, PV.at 0 [Stp.idx (0 + i) 1] = PV.at 0 [Stp.idx i 1], 0 ≤ (i:Int), (i:Int) < (n:Int), i < n, PV.at 0 [Stp.idx (0 + Int.toNat (↑(j + 1) : Int)) 1] = PV.at 0 [Stp.idx (j + 1) 1], 0 ≤ (↑(j + 1) : Int), (↑(j + 1) : Int) < (n:Int), j + 1 < n, I6 (IntKind.wrap .i64 ((i:Int) + 1)) = I6 ↑(i + 1), I6 (IntKind.wrap .i64 ((↑(j + 1) : Int) - 1)) = I6 j] (ac (dT (by omega)) (ac (by (rw [show Int.toNat (↑(j + 1) : Int) = j + 1 by omega]; simp only [Nat.zero_add])) (ob3 (by omega) (ac (by simp only [Nat.zero_add]) (ob3 (by omega) (ac (by simp only [Nat.zero_add]) (ob3 (by omega) (ac (by (rw [show Int.toNat (↑(j + 1) : Int) = j + 1 by omega]; simp only [Nat.zero_add])) (ob3 (by omega) (ac (wj (by omega)) (ao (cg (Ab (by omega) (by omega) (by omega)))))))))))))) ?_
 exact hw
theorem W_qR {n : Nat} (hn : n < 1000000) : ∀ (j i : Nat) (l : List Int), j < n → Wt Try.f93 [0] [(0, Ac n (rvL i j l))] (.tup []) (Aa Try.f93 0) (qR n i j l)
 | 0, i, l, h => by
  rw [Rv, if_neg (by omega)]
  exact W_qRE (by omega)
 | j + 1, i, l, h => by
  rw [Rv]
  by_cases hi : i < j + 1
  ·rw [if_pos hi]
   exact W_qRS hn h hi (W_qR hn j (i + 1) _ (by omega))
  ·rw [if_neg hi]
   exact W_qRE hi
theorem OJ {n a b : Nat} (hn : n < 1000000) (hb : b < n) (l : List Int) : Pt 93 [(0, Ac n l)] [.ref 0 [] 1 0 n, .int .i64 a, .int .i64 ((b + 1 : Nat) : Int)] [(0, Ac n (rvL a b l))] (.tup []) := by
 refine pO Try.func93 (by kernel_rfl) ?_
 have hw := W_qR hn b a l hb
 refine W.sgA 0 [(3, aV (I6 b))] [(0, 0)] (qR n a b l) [I6 (IntKind.wrap .i64 ((↑(b + 1) : Int) - 1)) = I6 b] (ao (cg (Ab (by omega) (by omega) (by omega)))) ?_
 exact hw
end Go.Proofs
namespace Go.Proofs
open Go Go.Pe Go.Pm
set_option maxRecDepth 100000
set_option linter.unusedVariables false
def qT (n a i j : Nat) (l : List Int) : DS := ⟨[(0, .ref 0 [] 1 0 n), (1, .int .i64 a), (10, .int .i64 i), (11, .int .i64 j)], [(0, Ac n l)]⟩
theorem W_u0S {n a i j : Nat} {l : Liz} {hout : Lrz} {res : PV} (hn : n < 1000000) (ha : a < n) (hj : j < n) (h1 : i ≤ j) (h2 : l.getD i 0 < l.getD a 0) (hw : Wt Try.f96 [0] hout res (Aa Try.f96 0) (qT n a (i + 1) j l)) : Wt Try.f96 [0] hout res (Aa Try.f96 0) (qT n a i j l) := by
 refine W.sgA 0 [(2, aT), (6, aV (PV.at 0 [Stp.idx i 1])), (10, aV (PV.at 0 [Stp.idx a 1])), (12, aK (PV.bool true)), (15, aV (I6 ↑(i + 1)))] [(0, 0)] (qT n a (i + 1) j l) [decide ((i:Int) ≤ (j:Int)) = true, PV.at 0 [Stp.idx (0 + i) 1] = PV.at 0 [Stp.idx i 1], 0 ≤ (i:Int), (i:Int) < (n:Int), i < n, PV.at 0 [Stp.idx (0 + a) 1] = PV.at 0 [Stp.idx a 1], 0 ≤ (a:Int), (a:Int) < (n:Int), a < n, Pt 71 [] [U6 (List.getD l i (0 : Int)), U6 (List.getD l a (0 : Int))] [] (PV.bool true), I6 (IntKind.wrap .i64 ((i:Int) + 1)) = I6 ↑(i + 1)] (ac (dT (by omega)) (ac (by simp only [Nat.zero_add]) (ob3 (by omega) (ac (by simp only [Nat.zero_add]) (ob3 (by omega) (ac (AU _ _ (by first | omega | decide)) (ao (wj (by omega))))))))) ?_
 exact hw
theorem W_u0E {n a i j : Nat} {l : Liz} {hout : Lrz} {res : PV} (hn : n < 1000000) (ha : a < n) (hj : j < n) (h1 : ¬ (i ≤ j ∧ l.getD i 0 < l.getD a 0)) (hw : Wt Try.f96 [0] hout res (Aa Try.f96 1) (qT n a i j l)) : Wt Try.f96 [0] hout res (Aa Try.f96 0) (qT n a i j l) := by
 by_cases g : i ≤ j
 ·have g2 : ¬ l.getD i 0 < l.getD a 0 := fun x => h1 ⟨g, x⟩
  refine W.sgA 1 [(2, aT), (6, aV (PV.at 0 [Stp.idx i 1])), (10, aV (PV.at 0 [Stp.idx a 1])), (12, aK (PV.bool false))] [(0, 0)] (qT n a i j l) [decide ((i:Int) ≤ (j:Int)) = true, PV.at 0 [Stp.idx (0 + i) 1] = PV.at 0 [Stp.idx i 1], 0 ≤ (i:Int), (i:Int) < (n:Int), i < n, PV.at 0 [Stp.idx (0 + a) 1] = PV.at 0 [Stp.idx a 1], 0 ≤ (a:Int), (a:Int) < (n:Int), a < n, Pt 71 [] [U6 (List.getD l i (0 : Int)), U6 (List.getD l a (0 : Int))] [] (PV.bool false)] (ac (dT (by omega)) (ac (by simp only [Nat.zero_add]) (ob3 (by omega) (ac (by simp only [Nat.zero_add]) (ob3 (by omega) (ao (Bn _ _ (by first | omega | decide)))))))) ?_
  exact hw
 ·refine W.sg 1 [(2, aF)] [(0, 0)] (qT n a i j l) [decide ((i:Int) ≤ (j:Int)) = false] (by kernel_rfl) (ao (dF (by omega))) ?_
  exact hw
theorem W_u0 {n a i j : Nat} {l : Liz} {hout : Lrz} {res : PV} (hn : n < 1000000) (ha : a < n) (hj : j < n) (hw : Wt Try.f96 [0] hout res (Aa Try.f96 1) (qT n a (upL (ltP l a) l j i) j l)) : Wt Try.f96 [0] hout res (Aa Try.f96 0) (qT n a i j l) := by
 by_cases h : i ≤ j ∧ l.getD i 0 < l.getD a 0
 ·rw [D7, if_pos ⟨h.1, decide_eq_true h.2⟩] at hw
  exact W_u0S hn ha hj h.1 h.2 (W_u0 hn ha hj hw)
 ·rw [D7, if_neg (fun x => h ⟨x.1, of_decide_eq_true x.2⟩)] at hw
  exact W_u0E hn ha hj h hw
termination_by j + 1 - i
theorem W_u3S {n a i j : Nat} {l : Liz} {hout : Lrz} {res : PV} (hn : n < 1000000) (ha : a < n) (hj : j < n) (h1 : i ≤ j) (h2 : l.getD i 0 < l.getD a 0) (hw : Wt Try.f96 [0] hout res (Aa Try.f96 3) (qT n a (i + 1) j l)) : Wt Try.f96 [0] hout res (Aa Try.f96 3) (qT n a i j l) := by
 refine W.sgA 3 [(2, aT), (6, aV (PV.at 0 [Stp.idx i 1])), (10, aV (PV.at 0 [Stp.idx a 1])), (12, aK (PV.bool true)), (15, aV (I6 ↑(i + 1)))] [(0, 0)] (qT n a (i + 1) j l) [decide ((i:Int) ≤ (j:Int)) = true, PV.at 0 [Stp.idx (0 + i) 1] = PV.at 0 [Stp.idx i 1], 0 ≤ (i:Int), (i:Int) < (n:Int), i < n, PV.at 0 [Stp.idx (0 + a) 1] = PV.at 0 [Stp.idx a 1], 0 ≤ (a:Int), (a:Int) < (n:Int), a < n, Pt 71 [] [U6 (List.getD l i (0 : Int)), U6 (List.getD l a (0 : Int))] [] (PV.bool true), I6 (IntKind.wrap .i64 ((i:Int) + 1)) = I6 ↑(i + 1)] (ac (dT (by omega)) (ac (by simp only [Nat.zero_add]) (ob3 (by omega) (ac (by simp only [Nat.zero_add]) (ob3 (by omega) (ac (AU _ _ (by first | omega | decide)) (ao (wj (by omega))))))))) ?_
 exact hw
theorem W_u3E {n a i j : Nat} {l : Liz} {hout : Lrz} {res : PV} (hn : n < 1000000) (ha : a < n) (hj : j < n) (h1 : ¬ (i ≤ j ∧ l.getD i 0 < l.getD a 0)) (hw : Wt Try.f96 [0] hout res (Aa Try.f96 4) (qT n a i j l)) : Wt Try.f96 [0] hout res (Aa Try.f96 3) (qT n a i j l) := by
 by_cases g : i ≤ j
 ·have g2 : ¬ l.getD i 0 < l.getD a 0 := fun x => h1 ⟨g, x⟩
  refine W.sgA 4 [(2, aT), (6, aV (PV.at 0 [Stp.idx i 1])), (10, aV (PV.at 0 [Stp.idx a 1])), (12, aK (PV.bool false))] [(0, 0)] (qT n a i j l) [decide ((i:Int) ≤ (j:Int)) = true, PV.at 0 [Stp.idx (0 + i) 1] = PV.at 0 [Stp.idx i 1], 0 ≤ (i:Int), (i:Int) < (n:Int), i < n, PV.at 0 [Stp.idx (0 + a) 1] = PV.at 0 [Stp.idx a 1], 0 ≤ (a:Int), (a:Int) < (n:Int), a < n, Pt 71 [] [U6 (List.getD l i (0 : Int)), U6 (List.getD l a (0 : Int))] [] (PV.bool false)] (ac (dT (by omega)) (ac (by simp only [Nat.zero_add]) (ob3 (by omega) (ac (by simp only [Nat.zero_add]) (ob3 (by omega) (ao (Bn _ _ (by first | omega | decide)))))))) ?_
  exact hw
 ·refine W.sg 4 [(2, aF)] [(0, 0)] (qT n a i j l) [decide ((i:Int) ≤ (j:Int)) = false] (by kernel_rfl) (ao (dF (by omega))) ?_
  exact hw
theorem W_u3 {n a i j : Nat} {l : Liz} {hout : Lrz} {res : PV} (hn : n < 1000000) (ha : a < n) (hj : j < n) (hw : Wt Try.f96 [0] hout res (Aa Try.f96 4) (qT n a (upL (ltP l a) l j i) j l)) : Wt Try.f96 [0] hout res (Aa Try.f96 3) (qT n a i j l) := by
 by_cases h : i ≤ j ∧ l.getD i 0 < l.getD a 0
 ·rw [D7, if_pos ⟨h.1, decide_eq_true h.2⟩] at hw
  exact W_u3S hn ha hj h.1 h.2 (W_u3 hn ha hj hw)
 ·rw [D7, if_neg (fun x => h ⟨x.1, of_decide_eq_true x.2⟩)] at hw
  exact W_u3E hn ha hj h hw
termination_by j + 1 - i
theorem W_d1S {n a i j : Nat} {l : Liz} {hout : Lrz} {res : PV} (hn : n < 1000000) (ha : a < n) (hj : j + 1 < n) (h1 : i ≤ j + 1) (h2 : ¬ l.getD (j + 1) 0 < l.getD a 0) (hw : Wt Try.f96 [0] hout res (Aa Try.f96 1) (qT n a i j l)) : Wt Try.f96 [0] hout res (Aa Try.f96 1) (qT n a i (j + 1) l) := by
 refine W.sgA 1 [(2, aT), (6, aV (PV.at 0 [Stp.idx (j + 1) 1])), (10, aV (PV.at 0 [Stp.idx a 1])), (12, aK (PV.bool false)), (16, aV (I6 j))] [(0, 0)] (qT n a i j l) [decide ((i:Int) ≤ (↑(j + 1) : Int)) = true, PV.at 0 [Stp.idx (0 + Int.toNat (↑(j + 1) : Int)) 1] = PV.at 0 [Stp.idx (j + 1) 1], 0 ≤ (↑(j + 1) : Int), (↑(j + 1) : Int) < (n:Int), j + 1 < n, PV.at 0 [Stp.idx (0 + a) 1] = PV.at 0 [Stp.idx a 1], 0 ≤ (a:Int), (a:Int) < (n:Int), a < n, Pt 71 [] [U6 (List.getD l (j + 1) (0 : Int)), U6 (List.getD l a (0 : Int))] [] (PV.bool false), I6 (IntKind.wrap .i64 ((↑(j + 1) : Int) - 1)) = I6 j] (ac (dT (by omega)) (ac (by (rw [show Int.toNat (↑(j + 1) : Int) = j + 1 by omega]; simp only [Nat.zero_add])) (ob3 (by omega) (ac (by simp only [Nat.zero_add]) (ob3 (by omega) (ac (Bn _ _ (by first | omega | decide)) (ao (cg (Ab (by omega) (by omega) (by omega)))))))))) ?_
 exact hw
theorem W_d1R {n a i j : Nat} {l : Liz} (hn : n < 1000000) (ha : a < n) (hj : j < n) (h1 : j < i) : Wt Try.f96 [0] [(0, Ac n (swL l j a))] (.tup [.int .i64 j, .bool true]) (Aa Try.f96 1) (qT n a i j l) := by
 refine W.rtA [(2, aF), (17, aT), (24, aV (PV.at 0 [Stp.idx a 1])), (28, aV (PV.at 0 [Stp.idx j 1])), (30, aV (PV.at 0 [Stp.idx j 1])), (32, aV (PV.at 0 [Stp.idx a 1]))] [(0, 0)] [decide ((i:Int) ≤ (j:Int)) = false, decide ((i:Int) > (j:Int)) = true, PV.at 0 [Stp.idx (0 + a) 1] = PV.at 0 [Stp.idx a 1], 0 ≤ (a:Int), (a:Int) < (n:Int), a < n, PV.at 0 [Stp.idx (0 + j) 1] = PV.at 0 [Stp.idx j 1], 0 ≤ (j:Int), (j:Int) < (n:Int), j < n, PV.at 0 [Stp.idx (0 + j) 1] = PV.at 0 [Stp.idx j 1], 0 ≤ (j:Int), (j:Int) < (n:Int), j < n, PV.at 0 [Stp.idx (0 + a) 1] = PV.at 0 [Stp.idx a 1], 0 ≤ (a:Int), (a:Int) < (n:Int), a < n] (ac (dF (by omega)) (ac (dT (by omega)) (ac (by simp only [Nat.zero_add]) (ob3 (by omega) (ac (by simp only [Nat.zero_add]) (ob3 (by omega) (ac (by simp only [Nat.zero_add]) (ob3 (by omega) (ac (by simp only [Nat.zero_add]) (ob2 (by omega) (ao (by omega))))))))))))
theorem W_d1E {n a i j : Nat} {l : Liz} {hout : Lrz} {res : PV} (hn : n < 1000000) (ha : a < n) (hj : j + 1 < n) (h1 : i ≤ j + 1) (h2 : l.getD (j + 1) 0 < l.getD a 0) (hw : Wt Try.f96 [0] hout res (Aa Try.f96 2) (qT n a (i + 1) j (swL l i (j + 1)))) : Wt Try.f96 [0] hout res (Aa Try.f96 1) (qT n a i (j + 1) l) := by
 refine W.sgA 2 [(2, aT), (6, aV (PV.at 0 [Stp.idx (j + 1) 1])), (10, aV (PV.at 0 [Stp.idx a 1])), (12, aK (PV.bool true)), (17, aF), (24, aV (PV.at 0 [Stp.idx (j + 1) 1])), (28, aV (PV.at 0 [Stp.idx i 1])), (30, aV (PV.at 0 [Stp.idx i 1])), (32, aV (PV.at 0 [Stp.idx (j + 1) 1])), (35, aV (I6 ↑(i + 1))), (38, aV (I6 j))] [(0, 0)] (qT n a (i + 1) j (swL l i (j + 1))) [decide ((i:Int) ≤ (↑(j + 1) : Int)) = true, PV.at 0 [Stp.idx (0 + Int.toNat (↑(j + 1) : Int)) 1] = PV.at 0 [Stp.idx (j + 1) 1], 0 ≤ (↑(j + 1) : Int), (↑(j + 1) : Int) < (n:Int), j + 1 < n, PV.at 0 [Stp.idx (0 + a) 1] = PV.at 0 [Stp.idx a 1], 0 ≤ (a:Int), (a:Int) < (n:Int), a < n, Pt 71 [] [U6 (List.getD l (j + 1) (0 : Int)), U6 (List.getD l a (0 : Int))] [] (PV.bool true), decide ((i:Int) > (↑(j + 1) : Int)) = false, PV.at 0 [Stp.idx (0 + Int.toNat (↑(j + 1) : Int)) 1] = PV.at 0 [Stp.idx (j + 1) 1], 0 ≤ (↑(j + 1) : Int), (↑(j + 1) : Int) < (n:Int), j + 1 < n, PV.at 0 [Stp.idx (0 + i) 1] = PV.at 0 [Stp.idx i 1], 0 ≤ (i:Int), (i:Int) < (n:Int), i < n, PV.at 0 [Stp.idx (0 + i) 1] = PV.at 0 [Stp.idx i 1], 0 ≤ (i:Int), (i:Int) < (n:Int), i < n, PV.at 0 [Stp.idx (0 + Int.toNat (↑(j + 1) : Int)) 1] = PV.at 0 [Stp.idx (j + 1) 1], 0 ≤ (↑(j + 1) : Int), (↑(j + 1) : Int) < (n:Int), j + 1 < n, I6 (IntKind.wrap .i64 ((i:Int) + 1)) = I6 ↑(i + 1), I6 (IntKind.wrap .i64 ((↑(j + 1) : Int) - 1)) = I6 j] (ac (dT (by omega)) (ac (by (rw [show Int.toNat (↑(j + 1) : Int) = j + 1 by omega]; simp only [Nat.zero_add])) (ob3 (by omega) (ac (by simp only [Nat.zero_add]) (ob3 (by omega) (ac (AU _ _ (by first | omega | decide)) (ac (dF (by omega)) (ac (by (rw [show Int.toNat (↑(j + 1) : Int) = j + 1 by omega]; simp only [Nat.zero_add])) (ob3 (by omega) (ac (by simp only [Nat.zero_add]) (ob3 (by omega) (ac (by simp only [Nat.zero_add]) (ob3 (by omega) (ac (by (rw [show Int.toNat (↑(j + 1) : Int) = j + 1 by omega]; simp only [Nat.zero_add])) (ob3 (by omega) (ac (wj (by omega)) (ao (cg (Ab (by omega) (by omega) (by omega)))))))))))))))))))) ?_
 exact hw
theorem W_d1 {n a i : Nat} {l : Liz} {hout : Lrz} {res : PV} (hn : n < 1000000) (ha : a < n) : ∀ j, j < n → Wt Try.f96 [0] hout res (Aa Try.f96 1) (qT n a i (dnL (geP l a) l i j) l) → Wt Try.f96 [0] hout res (Aa Try.f96 1) (qT n a i j l)
 | 0, hj, hw => by
  rw [GZ] at hw
  exact hw
 | j + 1, hj, hw => by
  by_cases h : i ≤ j + 1 ∧ ¬ l.getD (j + 1) 0 < l.getD a 0
  ·rw [BX, if_pos ⟨h.1, decide_eq_true h.2⟩] at hw
   exact W_d1S hn ha hj h.1 h.2 (W_d1 hn ha j (by omega) hw)
  ·rw [BX, if_neg (fun x => h ⟨x.1, of_decide_eq_true x.2⟩)] at hw
   exact hw
theorem W_d4S {n a i j : Nat} {l : Liz} {hout : Lrz} {res : PV} (hn : n < 1000000) (ha : a < n) (hj : j + 1 < n) (h1 : i ≤ j + 1) (h2 : ¬ l.getD (j + 1) 0 < l.getD a 0) (hw : Wt Try.f96 [0] hout res (Aa Try.f96 4) (qT n a i j l)) : Wt Try.f96 [0] hout res (Aa Try.f96 4) (qT n a i (j + 1) l) := by
 refine W.sgA 4 [(2, aT), (6, aV (PV.at 0 [Stp.idx (j + 1) 1])), (10, aV (PV.at 0 [Stp.idx a 1])), (12, aK (PV.bool false)), (16, aV (I6 j))] [(0, 0)] (qT n a i j l) [decide ((i:Int) ≤ (↑(j + 1) : Int)) = true, PV.at 0 [Stp.idx (0 + Int.toNat (↑(j + 1) : Int)) 1] = PV.at 0 [Stp.idx (j + 1) 1], 0 ≤ (↑(j + 1) : Int), (↑(j + 1) : Int) < (n:Int), j + 1 < n, PV.at 0 [Stp.idx (0 + a) 1] = PV.at 0 [Stp.idx a 1], 0 ≤ (a:Int), (a:Int) < (n:Int), a < n, Pt 71 [] [U6 (List.getD l (j + 1) (0 : Int)), U6 (List.getD l a (0 : Int))] [] (PV.bool false), I6 (IntKind.wrap .i64 ((↑(j + 1) : Int) - 1)) = I6 j] (ac (dT (by omega)) (ac (by (rw [show Int.toNat (↑(j + 1) : Int) = j + 1 by omega]; simp only [Nat.zero_add])) (ob3 (by omega) (ac (by simp only [Nat.zero_add]) (ob3 (by omega) (ac (Bn _ _ (by first | omega | decide)) (ao (cg (Ab (by omega) (by omega) (by omega)))))))))) ?_
 exact hw
theorem W_d4R {n a i j : Nat} {l : Liz} (hn : n < 1000000) (ha : a < n) (hj : j < n) (h1 : j < i) : Wt Try.f96 [0] [(0, Ac n (swL l j a))] (.tup [.int .i64 j, .bool false]) (Aa Try.f96 4) (qT n a i j l) := by
 refine W.rtA [(2, aF), (17, aT), (24, aV (PV.at 0 [Stp.idx a 1])), (28, aV (PV.at 0 [Stp.idx j 1])), (30, aV (PV.at 0 [Stp.idx j 1])), (32, aV (PV.at 0 [Stp.idx a 1]))] [(0, 0)] [decide ((i:Int) ≤ (j:Int)) = false, decide ((i:Int) > (j:Int)) = true, PV.at 0 [Stp.idx (0 + a) 1] = PV.at 0 [Stp.idx a 1], 0 ≤ (a:Int), (a:Int) < (n:Int), a < n, PV.at 0 [Stp.idx (0 + j) 1] = PV.at 0 [Stp.idx j 1], 0 ≤ (j:Int), (j:Int) < (n:Int), j < n, PV.at 0 [Stp.idx (0 + j) 1] = PV.at 0 [Stp.idx j 1], 0 ≤ (j:Int), (j:Int) < (n:Int), j < n, PV.at 0 [Stp.idx (0 + a) 1] = PV.at 0 [Stp.idx a 1], 0 ≤ (a:Int), (a:Int) < (n:Int), a < n] (ac (dF (by omega)) (ac (dT (by omega)) (ac (by simp only [Nat.zero_add]) (ob3 (by omega) (ac (by simp only [Nat.zero_add]) (ob3 (by omega) (ac (by simp only [Nat.zero_add]) (ob3 (by omega) (ac (by simp only [Nat.zero_add]) (ob2 (by omega) (ao (by omega))))))))))))
theorem W_d4E {n a i j : Nat} {l : Liz} {hout : Lrz} {res : PV} (hn : n < 1000000) (ha : a < n) (hj : j + 1 < n) (h1 : i ≤ j + 1) (h2 : l.getD (j + 1) 0 < l.getD a 0) (hw : Wt Try.f96 [0] hout res (Aa Try.f96 2) (qT n a (i + 1) j (swL l i (j + 1)))) : Wt Try.f96 [0] hout res (Aa Try.f96 4) (qT n a i (j + 1) l) := by
 refine W.sgA 2 [(2, aT), (6, aV (PV.at 0 [Stp.idx (j + 1) 1])), (10, aV (PV.at 0 [Stp.idx a 1])), (12, aK (PV.bool true)), (17, aF), (24, aV (PV.at 0 [Stp.idx (j + 1) 1])), (28, aV (PV.at 0 [Stp.idx i 1])), (30, aV (PV.at 0 [Stp.idx i 1])), (32, aV (PV.at 0 [Stp.idx (j + 1) 1])), (35, aV (I6 ↑(i + 1))), (38, aV (I6 j))] [(0, 0)] (qT n a (i + 1) j (swL l i (j + 1))) [decide ((i:Int) ≤ (↑(j + 1) : Int)) = true, PV.at 0 [Stp.idx (0 + Int.toNat (↑(j + 1) : Int)) 1] = PV.at 0 [Stp.idx (j + 1) 1], 0 ≤ (↑(j + 1) : Int), (↑(j + 1) : Int) < (n:Int), j + 1 < n, PV.at 0 [Stp.idx (0 + a) 1] = PV.at 0 [Stp.idx a 1], 0 ≤ (a:Int), (a:Int) < (n:Int), a < n, Pt 71 [] [U6 (List.getD l (j + 1) (0 : Int)), U6 (List.getD l a (0 : Int))] [] (PV.bool true), decide ((i:Int) > (↑(j + 1) : Int)) = false, PV.at 0 [Stp.idx (0 + Int.toNat (↑(j + 1) : Int)) 1] = PV.at 0 [Stp.idx (j + 1) 1], 0 ≤ (↑(j + 1) : Int), (↑(j + 1) : Int) < (n:Int), j + 1 < n, PV.at 0 [Stp.idx (0 + i) 1] = PV.at 0 [Stp.idx i 1], 0 ≤ (i:Int), (i:Int) < (n:Int), i < n, PV.at 0 [Stp.idx (0 + i) 1] = PV.at 0 [Stp.idx i 1], 0 ≤ (i:Int), (i:Int) < (n:Int), i < n, PV.at 0 [Stp.idx (0 + Int.toNat (↑(j + 1) : Int)) 1] = PV.at 0 [Stp.idx (j + 1) 1], 0 ≤ (↑(j + 1) : Int), (↑(j + 1) : Int) < (n:Int), j + 1 < n, I6 (IntKind.wrap .i64 ((i:Int) + 1)) = I6 ↑(i + 1), I6 (IntKind.wrap .i64 ((↑(j + 1) : Int) - 1)) = I6 j] (ac (dT (by omega)) (ac (by (rw [show Int.toNat (↑(j + 1) : Int) = j + 1 by omega]; simp only [Nat.zero_add])) (ob3 (by omega) (ac (by simp only [Nat.zero_add]) (ob3 (by omega) (ac (AU _ _ (by first | omega | decide)) (ac (dF (by omega)) (ac (by (rw [show Int.toNat (↑(j + 1) : Int) = j + 1 by omega]; simp only [Nat.zero_add])) (ob3 (by omega) (ac (by simp only [Nat.zero_add]) (ob3 (by omega) (ac (by simp only [Nat.zero_add]) (ob3 (by omega) (ac (by (rw [show Int.toNat (↑(j + 1) : Int) = j + 1 by omega]; simp only [Nat.zero_add])) (ob3 (by omega) (ac (wj (by omega)) (ao (cg (Ab (by omega) (by omega) (by omega)))))))))))))))))))) ?_
 exact hw
theorem W_d4 {n a i : Nat} {l : Liz} {hout : Lrz} {res : PV} (hn : n < 1000000) (ha : a < n) : ∀ j, j < n → Wt Try.f96 [0] hout res (Aa Try.f96 4) (qT n a i (dnL (geP l a) l i j) l) → Wt Try.f96 [0] hout res (Aa Try.f96 4) (qT n a i j l)
 | 0, hj, hw => by
  rw [GZ] at hw
  exact hw
 | j + 1, hj, hw => by
  by_cases h : i ≤ j + 1 ∧ ¬ l.getD (j + 1) 0 < l.getD a 0
  ·rw [BX, if_pos ⟨h.1, decide_eq_true h.2⟩] at hw
   exact W_d4S hn ha hj h.1 h.2 (W_d4 hn ha j (by omega) hw)
  ·rw [BX, if_neg (fun x => h ⟨x.1, of_decide_eq_true x.2⟩)] at hw
   exact hw
theorem W_p2 {n a i j : Nat} {l : Liz} {hout : Lrz} {res : PV} (hn : n < 1000000) (ha : a < n) (hw : Wt Try.f96 [0] hout res (Aa Try.f96 3) (qT n a i j l)) : Wt Try.f96 [0] hout res (Aa Try.f96 2) (qT n a i j l) := by
 refine W.sgA 3 [] [(0, 0)] (qT n a i j l) [] trivial ?_
 exact hw
theorem W_pl {n a : Nat} (hn : n < 1000000) (ha : a < n) : ∀ (k i j : Nat) (l : List Int), j + 1 - i ≤ k → 1 ≤ i → i ≤ j + 1 → j < n →
  Wt Try.f96 [0] [(0, Ac n (swL (plL a i j l).2 (plL a i j l).1 a))] (.tup [.int .i64 (plL a i j l).1, .bool false]) (Aa Try.f96 2) (qT n a i j l)
 | k, i, j, l, hk, h1, hij, hj => by
  have u1 := EF (ltP l a) l j i
  have u2 := Gl (ltP l a) l j i hij
  have d1 := ED (geP l a) l (upL (ltP l a) l j i) j
  have d2 := Gb (geP l a) l (upL (ltP l a) l j i) j u2
  have d3 := Dx (geP l a) l (upL (ltP l a) l j i) (by omega) j
  rw [Qk a i j l hij]
  refine W_p2 hn ha (W_u3 hn ha hj (W_d4 hn ha j hj ?_))
  by_cases h : dnL (geP l a) l (upL (ltP l a) l j i) j < upL (ltP l a) l j i
  ·rw [if_pos h]
   exact W_d4R hn ha (by omega) h
  ·rw [if_neg h]
   obtain ⟨q, hq⟩ : ∃ q, dnL (geP l a) l (upL (ltP l a) l j i) j = q + 1 := ⟨dnL (geP l a) l (upL (ltP l a) l j i) j - 1, by omega⟩
   have h3 : l.getD (q + 1) 0 < l.getD a 0 := by
    rw [hq] at d3
    have : ¬ geP l a (l.getD (q + 1) 0) = true := fun x => d3 ⟨by omega, x⟩
    unfold geP at this
    simpa using this
   have hne : upL (ltP l a) l j i ≠ q + 1 := fun e => by
    have u3 := Dz (ltP l a) l j i
    rw [e] at u3
    exact u3 ⟨by omega, decide_eq_true h3⟩
   rw [hq] at h d1 d2 ⊢
   rw [Nat.add_sub_cancel]
   cases k with
   | zero => omega
   | succ k => exact W_d4E hn ha (by omega) (by omega) h3 (W_pl hn ha k _ _ _ (by omega) (by omega) (by omega) (by omega))
theorem pc_part {n a b pv : Nat} (hn : n < 1000000) (hab : a ≤ pv) (hpb : pv < b + 1) (hb : b < n) (hab2 : a + 1 ≤ b + 1) (l : List Int) : Pt 96 [(0, Ac n l)] [.ref 0 [] 1 0 n, .int .i64 a, .int .i64 ((b + 1 : Nat) : Int), .int .i64 pv] [(0, Ac n (ptL l a (b + 1) pv).2.2)] (.tup [.int .i64 (ptL l a (b + 1) pv).1, .bool (ptL l a (b + 1) pv).2.1]) := by
 refine pO Try.func96 (by kernel_rfl) ?_
 have key : Wt Try.f96 [0] [(0, Ac n (ptL l a (b + 1) pv).2.2)] (.tup [.int .i64 (ptL l a (b + 1) pv).1, .bool (ptL l a (b + 1) pv).2.1]) (Aa Try.f96 0) (qT n a (a + 1) b (swL l a pv)) := by
  generalize hm : swL l a pv = m
  have ha : a < n := by omega
  have u1 := EF (ltP m a) m b (a + 1)
  have u2 := Gl (ltP m a) m b (a + 1) (by omega)
  have d1 := ED (geP m a) m (upL (ltP m a) m b (a + 1)) b
  have d2 := Gb (geP m a) m (upL (ltP m a) m b (a + 1)) b u2
  have d3 := Dx (geP m a) m (upL (ltP m a) m b (a + 1)) (by omega) b
  rw [Q7 l m a (b + 1) pv _ _ hm.symm rfl rfl, Nat.add_sub_cancel]
  refine W_u0 hn ha hb (W_d1 hn ha b hb ?_)
  by_cases h : dnL (geP m a) m (upL (ltP m a) m b (a + 1)) b < upL (ltP m a) m b (a + 1)
  ·rw [if_pos h]
   exact W_d1R hn ha (by omega) h
  ·rw [if_neg h]
   obtain ⟨q, hq⟩ : ∃ q, dnL (geP m a) m (upL (ltP m a) m b (a + 1)) b = q + 1 := ⟨dnL (geP m a) m (upL (ltP m a) m b (a + 1)) b - 1, by omega⟩
   have h3 : m.getD (q + 1) 0 < m.getD a 0 := by
    rw [hq] at d3
    have : ¬ geP m a (m.getD (q + 1) 0) = true := fun x => d3 ⟨by omega, x⟩
    unfold geP at this
    simpa using this
   have hne : upL (ltP m a) m b (a + 1) ≠ q + 1 := fun e => by
    have u3 := Dz (ltP m a) m b (a + 1)
    rw [e] at u3
    exact u3 ⟨by omega, decide_eq_true h3⟩
   rw [hq] at h d1 d2 ⊢
   rw [Nat.add_sub_cancel]
   exact W_d1E hn ha (by omega) (by omega) h3 (W_pl hn ha _ _ _ _ (Nat.le_refl _) (by omega) (by omega) (by omega))
 generalize ptL l a (b + 1) pv = r at *
 refine W.sgA 0 [(8, aV (PV.at 0 [Stp.idx pv 1])), (12, aV (PV.at 0 [Stp.idx a 1])), (14, aV (PV.at 0 [Stp.idx a 1])), (16, aV (PV.at 0 [Stp.idx pv 1])), (19, aV (I6 ↑(a + 1))), (21, aV (I6 b))] [(0, 0)] (qT n a (a + 1) b (swL l a pv)) [PV.at 0 [Stp.idx (0 + pv) 1] = PV.at 0 [Stp.idx pv 1], 0 ≤ (pv:Int), (pv:Int) < (n:Int), pv < n, PV.at 0 [Stp.idx (0 + a) 1] = PV.at 0 [Stp.idx a 1], 0 ≤ (a:Int), (a:Int) < (n:Int), a < n, PV.at 0 [Stp.idx (0 + a) 1] = PV.at 0 [Stp.idx a 1], 0 ≤ (a:Int), (a:Int) < (n:Int), a < n, PV.at 0 [Stp.idx (0 + pv) 1] = PV.at 0 [Stp.idx pv 1], 0 ≤ (pv:Int), (pv:Int) < (n:Int), pv < n, I6 (IntKind.wrap .i64 ((a:Int) + 1)) = I6 ↑(a + 1), I6 (IntKind.wrap .i64 ((↑(b + 1) : Int) - 1)) = I6 b] (ac (by simp only [Nat.zero_add]) (ob3 (by omega) (ac (by simp only [Nat.zero_add]) (ob3 (by omega) (ac (by simp only [Nat.zero_add]) (ob3 (by omega) (ac (by simp only [Nat.zero_add]) (ob3 (by omega) (ac (wj (by omega)) (ao (cg (Ab (by omega) (by omega) (by omega))))))))))))) ?_
 exact key
def qU (n a i j : Nat) (l : List Int) : DS := ⟨[(0, .ref 0 [] 1 0 n), (1, .int .i64 a), (9, .int .i64 i), (10, .int .i64 j)], [(0, Ac n l)]⟩
theorem W_e0 {n a i j : Nat} {l : Liz} {hout : Lrz} {res : PV} (hn : n < 1000000) (ha : a < n) (hw : Wt Try.f95 [0] hout res (Aa Try.f95 1) (qU n a i j l)) : Wt Try.f95 [0] hout res (Aa Try.f95 0) (qU n a i j l) := by
 refine W.sgA 1 [] [(0, 0)] (qU n a i j l) [] trivial ?_
 exact hw
theorem W_e1S {n a i j : Nat} {l : Liz} {hout : Lrz} {res : PV} (hn : n < 1000000) (ha : a < n) (hj : j < n) (h1 : i ≤ j) (h2 : ¬ l.getD a 0 < l.getD i 0) (hw : Wt Try.f95 [0] hout res (Aa Try.f95 1) (qU n a (i + 1) j l)) : Wt Try.f95 [0] hout res (Aa Try.f95 1) (qU n a i j l) := by
 refine W.sgA 1 [(2, aT), (6, aV (PV.at 0 [Stp.idx a 1])), (10, aV (PV.at 0 [Stp.idx i 1])), (12, aK (PV.bool false)), (16, aV (I6 ↑(i + 1)))] [(0, 0)] (qU n a (i + 1) j l) [decide ((i:Int) ≤ (j:Int)) = true, PV.at 0 [Stp.idx (0 + a) 1] = PV.at 0 [Stp.idx a 1], 0 ≤ (a:Int), (a:Int) < (n:Int), a < n, PV.at 0 [Stp.idx (0 + i) 1] = PV.at 0 [Stp.idx i 1], 0 ≤ (i:Int), (i:Int) < (n:Int), i < n, Pt 71 [] [U6 (List.getD l a (0 : Int)), U6 (List.getD l i (0 : Int))] [] (PV.bool false), I6 (IntKind.wrap .i64 ((i:Int) + 1)) = I6 ↑(i + 1)] (ac (dT (by omega)) (ac (by simp only [Nat.zero_add]) (ob3 (by omega) (ac (by simp only [Nat.zero_add]) (ob3 (by omega) (ac (Bn _ _ (by first | omega | decide)) (ao (wj (by omega))))))))) ?_
 exact hw
theorem W_e1E {n a i j : Nat} {l : Liz} {hout : Lrz} {res : PV} (hn : n < 1000000) (ha : a < n) (hj : j < n) (h1 : ¬ (i ≤ j ∧ ¬ l.getD a 0 < l.getD i 0)) (hw : Wt Try.f95 [0] hout res (Aa Try.f95 2) (qU n a i j l)) : Wt Try.f95 [0] hout res (Aa Try.f95 1) (qU n a i j l) := by
 by_cases g : i ≤ j
 ·have g2 : l.getD a 0 < l.getD i 0 := Classical.byContradiction fun x => h1 ⟨g, x⟩
  refine W.sgA 2 [(2, aT), (6, aV (PV.at 0 [Stp.idx a 1])), (10, aV (PV.at 0 [Stp.idx i 1])), (12, aK (PV.bool true))] [(0, 0)] (qU n a i j l) [decide ((i:Int) ≤ (j:Int)) = true, PV.at 0 [Stp.idx (0 + a) 1] = PV.at 0 [Stp.idx a 1], 0 ≤ (a:Int), (a:Int) < (n:Int), a < n, PV.at 0 [Stp.idx (0 + i) 1] = PV.at 0 [Stp.idx i 1], 0 ≤ (i:Int), (i:Int) < (n:Int), i < n, Pt 71 [] [U6 (List.getD l a (0 : Int)), U6 (List.getD l i (0 : Int))] [] (PV.bool true)] (ac (dT (by omega)) (ac (by simp only [Nat.zero_add]) (ob3 (by omega) (ac (by simp only [Nat.zero_add]) (ob3 (by omega) (ao (AU _ _ (by first | omega | decide)))))))) ?_
  exact hw
 ·refine W.sg 2 [(2, aF)] [(0, 0)] (qU n a i j l) [decide ((i:Int) ≤ (j:Int)) = false] (by kernel_rfl) (ao (dF (by omega))) ?_
  exact hw
theorem W_e1 {n a i j : Nat} {l : Liz} {hout : Lrz} {res : PV} (hn : n < 1000000) (ha : a < n) (hj : j < n) (hw : Wt Try.f95 [0] hout res (Aa Try.f95 2) (qU n a (upL (leP l a) l j i) j l)) : Wt Try.f95 [0] hout res (Aa Try.f95 1) (qU n a i j l) := by
 by_cases h : i ≤ j ∧ ¬ l.getD a 0 < l.getD i 0
 ·rw [D7, if_pos ⟨h.1, decide_eq_true h.2⟩] at hw
  exact W_e1S hn ha hj h.1 h.2 (W_e1 hn ha hj hw)
 ·rw [D7, if_neg (fun x => h ⟨x.1, of_decide_eq_true x.2⟩)] at hw
  exact W_e1E hn ha hj h hw
termination_by j + 1 - i
theorem W_e2S {n a i j : Nat} {l : Liz} {hout : Lrz} {res : PV} (hn : n < 1000000) (ha : a < n) (hj : j + 1 < n) (h1 : i ≤ j + 1) (h2 : l.getD a 0 < l.getD (j + 1) 0) (hw : Wt Try.f95 [0] hout res (Aa Try.f95 2) (qU n a i j l)) : Wt Try.f95 [0] hout res (Aa Try.f95 2) (qU n a i (j + 1) l) := by
 refine W.sgA 2 [(2, aT), (6, aV (PV.at 0 [Stp.idx a 1])), (10, aV (PV.at 0 [Stp.idx (j + 1) 1])), (12, aK (PV.bool true)), (15, aV (I6 j))] [(0, 0)] (qU n a i j l) [decide ((i:Int) ≤ (↑(j + 1) : Int)) = true, PV.at 0 [Stp.idx (0 + a) 1] = PV.at 0 [Stp.idx a 1], 0 ≤ (a:Int), (a:Int) < (n:Int), a < n, PV.at 0 [Stp.idx (0 + Int.toNat (↑(j + 1) : Int)) 1] = PV.at 0 [Stp.idx (j + 1) 1], 0 ≤ (↑(j + 1) : Int), (↑(j + 1) : Int) < (n:Int), j + 1 < n, Pt 71 [] [U6 (List.getD l a (0 : Int)), U6 (List.getD l (j + 1) (0 : Int))] [] (PV.bool true), I6 (IntKind.wrap .i64 ((↑(j + 1) : Int) - 1)) = I6 j] (ac (dT (by omega)) (ac (by simp only [Nat.zero_add]) (ob3 (by omega) (ac (by (rw [show Int.toNat (↑(j + 1) : Int) = j + 1 by omega]; simp only [Nat.zero_add])) (ob3 (by omega) (ac (AU _ _ (by first | omega | decide)) (ao (cg (Ab (by omega) (by omega) (by omega)))))))))) ?_
 exact hw
theorem W_e2R {n a i j : Nat} {l : Liz} (hn : n < 1000000) (ha : a < n) (hj : j < n) (h1 : j < i) : Wt Try.f95 [0] [(0, Ac n l)] (.int .i64 i) (Aa Try.f95 2) (qU n a i j l) := by
 refine W.rtA [(2, aF), (16, aT)] [(0, 0)] [decide ((i:Int) ≤ (j:Int)) = false, decide ((i:Int) > (j:Int)) = true] (ac (dF (by omega)) (ao (dT (by omega))))
theorem W_e2E {n a i j : Nat} {l : Liz} {hout : Lrz} {res : PV} (hn : n < 1000000) (ha : a < n) (hj : j + 1 < n) (h1 : i ≤ j + 1) (h2 : ¬ l.getD a 0 < l.getD (j + 1) 0) (hw : Wt Try.f95 [0] hout res (Aa Try.f95 0) (qU n a (i + 1) j (swL l i (j + 1)))) : Wt Try.f95 [0] hout res (Aa Try.f95 2) (qU n a i (j + 1) l) := by
 refine W.sgA 0 [(2, aT), (6, aV (PV.at 0 [Stp.idx a 1])), (10, aV (PV.at 0 [Stp.idx (j + 1) 1])), (12, aK (PV.bool false)), (16, aF), (23, aV (PV.at 0 [Stp.idx (j + 1) 1])), (27, aV (PV.at 0 [Stp.idx i 1])), (29, aV (PV.at 0 [Stp.idx i 1])), (31, aV (PV.at 0 [Stp.idx (j + 1) 1])), (34, aV (I6 ↑(i + 1))), (37, aV (I6 j))] [(0, 0)] (qU n a (i + 1) j (swL l i (j + 1))) [decide ((i:Int) ≤ (↑(j + 1) : Int)) = true, PV.at 0 [Stp.idx (0 + a) 1] = PV.at 0 [Stp.idx a 1], 0 ≤ (a:Int), (a:Int) < (n:Int), a < n, PV.at 0 [Stp.idx (0 + Int.toNat (↑(j + 1) : Int)) 1] = PV.at 0 [Stp.idx (j + 1) 1], 0 ≤ (↑(j + 1) : Int), (↑(j + 1) : Int) < (n:Int), j + 1 < n, Pt 71 [] [U6 (List.getD l a (0 : Int)), U6 (List.getD l (j + 1) (0 : Int))] [] (PV.bool false), decide ((i:Int) > (↑(j + 1) : Int)) = false, PV.at 0 [Stp.idx (0 + Int.toNat (↑(j + 1) : Int)) 1] = PV.at 0 [Stp.idx (j + 1) 1], 0 ≤ (↑(j + 1) : Int), (↑(j + 1) : Int) < (n:Int), j + 1 < n, PV.at 0 [Stp.idx (0 + i) 1] = PV.at 0 [Stp.idx i 1], 0 ≤ (i:Int), (i:Int) < (n:Int), i < n, PV.at 0 [Stp.idx (0 + i) 1] = PV.at 0 [Stp.idx i 1], 0 ≤ (i:Int), (i:Int) < (n:Int), i < n, PV.at 0 [Stp.idx (0 + Int.toNat (↑(j + 1) : Int)) 1] = PV.at 0 [Stp.idx (j + 1) 1], 0 ≤ (↑(j + 1) : Int), (↑(j + 1) : Int) < (n:Int), j + 1 < n, I6 (IntKind.wrap .i64 ((i:Int) + 1)) = I6 ↑(i + 1), I6 (IntKind.wrap .i64 ((↑(j + 1) : Int) - 1)) = I6 j] (ac (dT (by omega)) (ac (by simp only [Nat.zero_add]) (ob3 (by omega) (ac (by (rw [show Int.toNat (↑(j + 1) : Int) = j + 1 by omega]; simp only [Nat.zero_add])) (ob3 (by omega) (ac (Bn _ _ (by first | omega | decide)) (ac (dF (by omega)) (ac (by (rw [show Int.toNat (↑(j + 1) : Int) = j + 1 by omega]; simp only [Nat.zero_add])) (ob3 (by omega) (ac (by simp only [Nat.zero_add]) (ob3 (by omega) (ac (by simp only [Nat.zero_add]) (ob3 (by omega) (ac (by (rw [show Int.toNat (↑(j + 1) : Int) = j + 1 by omega]; simp only [Nat.zero_add])) (ob3 (by omega) (ac (wj (by omega)) (ao (cg (Ab (by omega) (by omega) (by omega)))))))))))))))))))) ?_
 exact hw
theorem W_e2 {n a i : Nat} {l : Liz} {hout : Lrz} {res : PV} (hn : n < 1000000) (ha : a < n) : ∀ j, j < n → Wt Try.f95 [0] hout res (Aa Try.f95 2) (qU n a i (dnL (gtP l a) l i j) l) → Wt Try.f95 [0] hout res (Aa Try.f95 2) (qU n a i j l)
 | 0, hj, hw => by
  rw [GZ] at hw
  exact hw
 | j + 1, hj, hw => by
  by_cases h : i ≤ j + 1 ∧ l.getD a 0 < l.getD (j + 1) 0
  ·rw [BX, if_pos ⟨h.1, decide_eq_true h.2⟩] at hw
   exact W_e2S hn ha hj h.1 h.2 (W_e2 hn ha j (by omega) hw)
  ·rw [BX, if_neg (fun x => h ⟨x.1, of_decide_eq_true x.2⟩)] at hw
   exact hw
theorem W_pe {n a : Nat} (hn : n < 1000000) (ha : a < n) : ∀ (k i j : Nat) (l : List Int), j + 1 - i ≤ k → 1 ≤ i → i ≤ j + 1 → j < n →
  Wt Try.f95 [0] [(0, Ac n (peL a i j l).2)] (.int .i64 (peL a i j l).1) (Aa Try.f95 0) (qU n a i j l)
 | k, i, j, l, hk, h1, hij, hj => by
  have u1 := EF (leP l a) l j i
  have u2 := Gl (leP l a) l j i hij
  have d1 := ED (gtP l a) l (upL (leP l a) l j i) j
  have d2 := Gb (gtP l a) l (upL (leP l a) l j i) j u2
  have d3 := Dx (gtP l a) l (upL (leP l a) l j i) (by omega) j
  rw [Qo a i j l hij]
  refine W_e0 hn ha (W_e1 hn ha hj (W_e2 hn ha j hj ?_))
  by_cases h : dnL (gtP l a) l (upL (leP l a) l j i) j < upL (leP l a) l j i
  ·rw [if_pos h]
   exact W_e2R hn ha (by omega) h
  ·rw [if_neg h]
   obtain ⟨q, hq⟩ : ∃ q, dnL (gtP l a) l (upL (leP l a) l j i) j = q + 1 := ⟨dnL (gtP l a) l (upL (leP l a) l j i) j - 1, by omega⟩
   have h3 : ¬ l.getD a 0 < l.getD (q + 1) 0 := by
    rw [hq] at d3
    have : ¬ gtP l a (l.getD (q + 1) 0) = true := fun x => d3 ⟨by omega, x⟩
    unfold gtP at this
    simpa using this
   have hne : upL (leP l a) l j i ≠ q + 1 := fun e => by
    have u3 := Dz (leP l a) l j i
    rw [e] at u3
    exact u3 ⟨by omega, decide_eq_true h3⟩
   rw [hq] at h d1 d2 ⊢
   rw [Nat.add_sub_cancel]
   cases k with
   | zero => omega
   | succ k => exact W_e2E hn ha (by omega) (by omega) h3 (W_pe hn ha k _ _ _ (by omega) (by omega) (by omega) (by omega))
theorem PG {n a b pv : Nat} (hn : n < 1000000) (hab : a ≤ pv) (hpb : pv < b + 1) (hb : b < n) (hab2 : a + 1 ≤ b + 1) (l : List Int) : Pt 95 [(0, Ac n l)] [.ref 0 [] 1 0 n, .int .i64 a, .int .i64 ((b + 1 : Nat) : Int), .int .i64 pv] [(0, Ac n (pqL l a (b + 1) pv).2)] (.int .i64 (pqL l a (b + 1) pv).1) := by
 refine pO Try.func95 (by kernel_rfl) ?_
 have key := W_pe hn (show a < n by omega) _ (a + 1) b (swL l a pv) (Nat.le_refl _) (by omega) (by omega) hb
 unfold pqL
 rw [Nat.add_sub_cancel]
 generalize peL a (a + 1) b (swL l a pv) = r at *
 refine W.sgA 0 [(7, aV (PV.at 0 [Stp.idx pv 1])), (11, aV (PV.at 0 [Stp.idx a 1])), (13, aV (PV.at 0 [Stp.idx a 1])), (15, aV (PV.at 0 [Stp.idx pv 1])), (18, aV (I6 ↑(a + 1))), (20, aV (I6 b))] [(0, 0)] (qU n a (a + 1) b (swL l a pv)) [PV.at 0 [Stp.idx (0 + pv) 1] = PV.at 0 [Stp.idx pv 1], 0 ≤ (pv:Int), (pv:Int) < (n:Int), pv < n, PV.at 0 [Stp.idx (0 + a) 1] = PV.at 0 [Stp.idx a 1], 0 ≤ (a:Int), (a:Int) < (n:Int), a < n, PV.at 0 [Stp.idx (0 + a) 1] = PV.at 0 [Stp.idx a 1], 0 ≤ (a:Int), (a:Int) < (n:Int), a < n, PV.at 0 [Stp.idx (0 + pv) 1] = PV.at 0 [Stp.idx pv 1], 0 ≤ (pv:Int), (pv:Int) < (n:Int), pv < n, I6 (IntKind.wrap .i64 ((a:Int) + 1)) = I6 ↑(a + 1), I6 (IntKind.wrap .i64 ((↑(b + 1) : Int) - 1)) = I6 b] (ac (by simp only [Nat.zero_add]) (ob3 (by omega) (ac (by simp only [Nat.zero_add]) (ob3 (by omega) (ac (by simp only [Nat.zero_add]) (ob3 (by omega) (ac (by simp only [Nat.zero_add]) (ob3 (by omega) (ac (wj (by omega)) (ao (cg (Ab (by omega) (by omega) (by omega))))))))))))) ?_
 exact key
end Go.Proofs
namespace Go.Proofs
open Go Go.Pe Go.Pm
set_option maxRecDepth 100000
set_option linter.unusedVariables false
def CS (s : Nat) : Row := ⟨.int .i64 s, false⟩
theorem pc_o2 {n a b s : Nat} (hn : n < 1000000) (ha : a < n) (hb : b < n) (hs : s < 1000) (l : List Int) : Pt 106 [(0, Ac n l), (1, CS s)] [.ref 0 [] 1 0 n, .int .i64 a, .int .i64 b, .at 1 []] [(0, Ac n l), (1, CS (o2L l a b s).2.2)] (.tup [.int .i64 (o2L l a b s).1, .int .i64 (o2L l a b s).2.1]) := by
 refine pO Try.func106 (by kernel_rfl) ?_
 rw [NF]
 by_cases h : l.getD b 0 < l.getD a 0
 ·rw [if_pos h]
  refine W.rtA [(4, aV (PV.at 0 [Stp.idx b 1])), (8, aV (PV.at 0 [Stp.idx a 1])), (10, aK (PV.bool true)), (14, aV (I6 ↑(s + 1)))] [(0, 0), (1, 1)] [PV.at 0 [Stp.idx (0 + b) 1] = PV.at 0 [Stp.idx b 1], 0 ≤ (b:Int), (b:Int) < (n:Int), b < n, PV.at 0 [Stp.idx (0 + a) 1] = PV.at 0 [Stp.idx a 1], 0 ≤ (a:Int), (a:Int) < (n:Int), a < n, Pt 71 [] [U6 (List.getD l b (0 : Int)), U6 (List.getD l a (0 : Int))] [] (PV.bool true), I6 (IntKind.wrap .i64 ((s:Int) + 1)) = I6 ↑(s + 1)] (ac (by simp only [Nat.zero_add]) (ob3 (by omega) (ac (by simp only [Nat.zero_add]) (ob3 (by omega) (ac (AU _ _ (by first | omega | decide)) (ao (wj (by omega))))))))
 ·rw [if_neg h]
  refine W.rtA [(4, aV (PV.at 0 [Stp.idx b 1])), (8, aV (PV.at 0 [Stp.idx a 1])), (10, aK (PV.bool false))] [(0, 0), (1, 1)] [PV.at 0 [Stp.idx (0 + b) 1] = PV.at 0 [Stp.idx b 1], 0 ≤ (b:Int), (b:Int) < (n:Int), b < n, PV.at 0 [Stp.idx (0 + a) 1] = PV.at 0 [Stp.idx a 1], 0 ≤ (a:Int), (a:Int) < (n:Int), a < n, Pt 71 [] [U6 (List.getD l b (0 : Int)), U6 (List.getD l a (0 : Int))] [] (PV.bool false)] (ac (by simp only [Nat.zero_add]) (ob3 (by omega) (ac (by simp only [Nat.zero_add]) (ob3 (by omega) (ao (Bn _ _ (by first | omega | decide)))))))
theorem Jz {l : List Int} {n a b s : Nat} (ha : a < n) (hb : b < n) : (o2L l a b s).1 < n ∧ (o2L l a b s).2.1 < n ∧ (o2L l a b s).2.2 ≤ s + 1 := by
 rw [NF]
 split
 ·exact ⟨hb, ha, Nat.le_refl _⟩
 ·exact ⟨ha, hb, by dsimp only; omega⟩
theorem NP {l : List Int} {n a b c s : Nat} (ha : a < n) (hb : b < n) (hc : c < n) : (mdL l a b c s).1 < n ∧ (mdL l a b c s).2 ≤ s + 3 := by
 rw [Nv]
 have h1 := Jz (l := l) (s := s) ha hb
 have h2 := Jz (l := l) (s := (o2L l a b s).2.2) h1.2.1 hc
 have h3 := Jz (l := l) (s := (o2L l (o2L l a b s).2.1 c (o2L l a b s).2.2).2.2) h1.1 h2.1
 exact ⟨h3.2.1, by dsimp only; omega⟩
theorem pc_md {n a b c s : Nat} (hn : n < 1000000) (ha : a < n) (hb : b < n) (hc : c < n) (hs : s < 900) (l : List Int) : Pt 104 [(0, Ac n l), (1, CS s)] [.ref 0 [] 1 0 n, .int .i64 a, .int .i64 b, .int .i64 c, .at 1 []] [(0, Ac n l), (1, CS (mdL l a b c s).2)] (.int .i64 (mdL l a b c s).1) := by
 refine pO Try.func104 (by kernel_rfl) ?_
 rw [Nv]
 have h1 := Jz (l := l) (s := s) ha hb
 have c1 := pc_o2 hn ha hb (show s < 1000 by omega) l
 have h2 := Jz (l := l) (s := (o2L l a b s).2.2) h1.2.1 hc
 have c2 := pc_o2 hn h1.2.1 hc (show (o2L l a b s).2.2 < 1000 by omega) l
 have c3 := pc_o2 hn h1.1 h2.1 (show (o2L l (o2L l a b s).2.1 c (o2L l a b s).2.2).2.2 < 1000 by omega) l
 generalize o2L l a b s = r1 at *
 generalize o2L l r1.2.1 c r1.2.2 = r2 at *
 generalize o2L l r1.1 r2.1 r2.2.2 = r3 at *
 refine W.rtA [(5, cC true [(0, 0), (1, 1)] c1), (15, cC true [(0, 0), (1, 1)] c2), (25, cC true [(0, 0), (1, 1)] c3)] [(0, 0), (1, 1)] [_, _, _] (ac (c1) (ac (c2) (ao (c3))))
theorem Np {n a s : Nat} (hn : n < 1000000) (ha : a + 2 < n) (hs : s < 900) (l : List Int) : Pt 103 [(0, Ac n l), (1, CS s)] [.ref 0 [] 1 0 n, .int .i64 ((a + 1 : Nat) : Int), .at 1 []] [(0, Ac n l), (1, CS (mdL l a (a + 1) (a + 2) s).2)] (.int .i64 (mdL l a (a + 1) (a + 2) s).1) := by
 refine pO Try.func103 (by kernel_rfl) ?_
 have c1 := pc_md hn (show a < n by omega) (show a + 1 < n by omega) ha hs l
 generalize mdL l a (a + 1) (a + 2) s = r at *
 refine W.rtA [(3, aV (I6 a)), (6, aV (I6 ↑(a + 2))), (8, cC true [(0, 0), (1, 1)] c1)] [(0, 0), (1, 1)] [I6 (IntKind.wrap .i64 ((↑(a + 1) : Int) - 1)) = I6 a, I6 (IntKind.wrap .i64 ((↑(a + 1) : Int) + 1)) = I6 ↑(a + 2), _] (ac (cg (Ab (by omega) (by omega) (by omega))) (ac (wj (by omega)) (ao (c1))))
theorem pc_cpA {n a b q p s : Nat} {l : Liz} (hn : n < 1000000) (hb : b ≤ n) (hab : a + 12 < b) (hl : b < a + 50) (hq : ((b : Int) - a).tdiv 4 = (q : Int)) (hq2 : 4 * q ≤ b - a)
  (c1 : Pt 104 [(0, Ac n l), (1, CS 0)] [.ref 0 [] 1 0 n, .int .i64 ((a + q : Nat) : Int), .int .i64 ((a + 2 * q : Nat) : Int), .int .i64 ((a + 3 * q : Nat) : Int), .at 1 []] [(0, Ac n l), (1, CS s)] (.int .i64 p)) :
  Pt 92 [(0, Ac n l)] [.ref 0 [] 1 0 n, .int .i64 a, .int .i64 b] [(0, Ac n l)] (.tup [.int .i64 p, .int .i64 (if s = 0 then 1 else if s = 12 then 2 else 0)]) := by
 refine pO Try.func92 (by kernel_rfl) ?_
 by_cases h0 : s = 0
 ·rw [if_pos h0]
  subst h0
  refine W.rtA [(4, aV (I6 ((b:Int) - (a:Int)))), (9, aV (I6 q)), (10, aV (I6 q)), (11, aV (I6 ↑(a + q))), (15, aV (I6 q)), (16, aV (I6 ↑(2 * q))), (17, aV (I6 ↑(a + 2 * q))), (21, aV (I6 q)), (22, aV (I6 ↑(3 * q))), (23, aV (I6 ↑(a + 3 * q))), (26, aT), (28, aF), (33, cC true [(0, 0), (160, 1)] c1), (35, aV (I6 0))] [(0, 0)] [I6 (IntKind.wrap .i64 ((b:Int) - (a:Int))) = I6 ((b:Int) - (a:Int)), I6 (IntKind.wrap .i64 (Int.tdiv ((b:Int) - (a:Int)) (4 : Int))) = I6 q, (4 : Int) ≠ 0, I6 (IntKind.wrap .i64 ((q:Int) * (1 : Int))) = I6 q, I6 (IntKind.wrap .i64 ((a:Int) + (q:Int))) = I6 ↑(a + q), I6 (IntKind.wrap .i64 (Int.tdiv ((b:Int) - (a:Int)) (4 : Int))) = I6 q, (4 : Int) ≠ 0, I6 (IntKind.wrap .i64 ((q:Int) * (2 : Int))) = I6 ↑(2 * q), I6 (IntKind.wrap .i64 ((a:Int) + (↑(2 * q) : Int))) = I6 ↑(a + 2 * q), I6 (IntKind.wrap .i64 (Int.tdiv ((b:Int) - (a:Int)) (4 : Int))) = I6 q, (4 : Int) ≠ 0, I6 (IntKind.wrap .i64 ((q:Int) * (3 : Int))) = I6 ↑(3 * q), I6 (IntKind.wrap .i64 ((a:Int) + (↑(3 * q) : Int))) = I6 ↑(a + 3 * q), decide ((b:Int) - (a:Int) ≥ 8) = true, decide ((b:Int) - (a:Int) ≥ 50) = false, _, I6 ↑(0 : Nat) = I6 0] (ac (wj (by omega)) (ac (cg (Ab hq (by omega) (by omega))) (ac (by omega) (ac (cg (Ab (by omega) (by omega) (by omega))) (ac (wj (by omega)) (ac (cg (Ab hq (by omega) (by omega))) (ac (by omega) (ac (cg (Ab (by omega) (by omega) (by omega))) (ac (wj (by omega)) (ac (cg (Ab hq (by omega) (by omega))) (ac (by omega) (ac (cg (Ab (by omega) (by omega) (by omega))) (ac (wj (by omega)) (ac (dT (by omega)) (ac (dF (by omega)) (ac (c1) (ao (cg (by omega)))))))))))))))))))
 ·rw [if_neg h0]
  by_cases h1 : s = 12
  ·rw [if_pos h1]
   refine W.rtA [(4, aV (I6 ((b:Int) - (a:Int)))), (9, aV (I6 q)), (10, aV (I6 q)), (11, aV (I6 ↑(a + q))), (15, aV (I6 q)), (16, aV (I6 ↑(2 * q))), (17, aV (I6 ↑(a + 2 * q))), (21, aV (I6 q)), (22, aV (I6 ↑(3 * q))), (23, aV (I6 ↑(a + 3 * q))), (26, aT), (28, aF), (33, cC true [(0, 0), (160, 1)] c1), (36, aF), (38, aT)] [(0, 0)] [I6 (IntKind.wrap .i64 ((b:Int) - (a:Int))) = I6 ((b:Int) - (a:Int)), I6 (IntKind.wrap .i64 (Int.tdiv ((b:Int) - (a:Int)) (4 : Int))) = I6 q, (4 : Int) ≠ 0, I6 (IntKind.wrap .i64 ((q:Int) * (1 : Int))) = I6 q, I6 (IntKind.wrap .i64 ((a:Int) + (q:Int))) = I6 ↑(a + q), I6 (IntKind.wrap .i64 (Int.tdiv ((b:Int) - (a:Int)) (4 : Int))) = I6 q, (4 : Int) ≠ 0, I6 (IntKind.wrap .i64 ((q:Int) * (2 : Int))) = I6 ↑(2 * q), I6 (IntKind.wrap .i64 ((a:Int) + (↑(2 * q) : Int))) = I6 ↑(a + 2 * q), I6 (IntKind.wrap .i64 (Int.tdiv ((b:Int) - (a:Int)) (4 : Int))) = I6 q, (4 : Int) ≠ 0, I6 (IntKind.wrap .i64 ((q:Int) * (3 : Int))) = I6 ↑(3 * q), I6 (IntKind.wrap .i64 ((a:Int) + (↑(3 * q) : Int))) = I6 ↑(a + 3 * q), decide ((b:Int) - (a:Int) ≥ 8) = true, decide ((b:Int) - (a:Int) ≥ 50) = false, _, ((s:Int) == 0) = false, ((s:Int) == 12) = true] (ac (wj (by omega)) (ac (cg (Ab hq (by omega) (by omega))) (ac (by omega) (ac (cg (Ab (by omega) (by omega) (by omega))) (ac (wj (by omega)) (ac (cg (Ab hq (by omega) (by omega))) (ac (by omega) (ac (cg (Ab (by omega) (by omega) (by omega))) (ac (wj (by omega)) (ac (cg (Ab hq (by omega) (by omega))) (ac (by omega) (ac (cg (Ab (by omega) (by omega) (by omega))) (ac (wj (by omega)) (ac (dT (by omega)) (ac (dF (by omega)) (ac (c1) (ac (dF (by omega)) (ao (dT (by omega))))))))))))))))))))
  ·rw [if_neg h1]
   refine W.rtA [(4, aV (I6 ((b:Int) - (a:Int)))), (9, aV (I6 q)), (10, aV (I6 q)), (11, aV (I6 ↑(a + q))), (15, aV (I6 q)), (16, aV (I6 ↑(2 * q))), (17, aV (I6 ↑(a + 2 * q))), (21, aV (I6 q)), (22, aV (I6 ↑(3 * q))), (23, aV (I6 ↑(a + 3 * q))), (26, aT), (28, aF), (33, cC true [(0, 0), (160, 1)] c1), (36, aF), (38, aF)] [(0, 0)] [I6 (IntKind.wrap .i64 ((b:Int) - (a:Int))) = I6 ((b:Int) - (a:Int)), I6 (IntKind.wrap .i64 (Int.tdiv ((b:Int) - (a:Int)) (4 : Int))) = I6 q, (4 : Int) ≠ 0, I6 (IntKind.wrap .i64 ((q:Int) * (1 : Int))) = I6 q, I6 (IntKind.wrap .i64 ((a:Int) + (q:Int))) = I6 ↑(a + q), I6 (IntKind.wrap .i64 (Int.tdiv ((b:Int) - (a:Int)) (4 : Int))) = I6 q, (4 : Int) ≠ 0, I6 (IntKind.wrap .i64 ((q:Int) * (2 : Int))) = I6 ↑(2 * q), I6 (IntKind.wrap .i64 ((a:Int) + (↑(2 * q) : Int))) = I6 ↑(a + 2 * q), I6 (IntKind.wrap .i64 (Int.tdiv ((b:Int) - (a:Int)) (4 : Int))) = I6 q, (4 : Int) ≠ 0, I6 (IntKind.wrap .i64 ((q:Int) * (3 : Int))) = I6 ↑(3 * q), I6 (IntKind.wrap .i64 ((a:Int) + (↑(3 * q) : Int))) = I6 ↑(a + 3 * q), decide ((b:Int) - (a:Int) ≥ 8) = true, decide ((b:Int) - (a:Int) ≥ 50) = false, _, ((s:Int) == 0) = false, ((s:Int) == 12) = false] (ac (wj (by omega)) (ac (cg (Ab hq (by omega) (by omega))) (ac (by omega) (ac (cg (Ab (by omega) (by omega) (by omega))) (ac (wj (by omega)) (ac (cg (Ab hq (by omega) (by omega))) (ac (by omega) (ac (cg (Ab (by omega) (by omega) (by omega))) (ac (wj (by omega)) (ac (cg (Ab hq (by omega) (by omega))) (ac (by omega) (ac (cg (Ab (by omega) (by omega) (by omega))) (ac (wj (by omega)) (ac (dT (by omega)) (ac (dF (by omega)) (ac (c1) (ac (dF (by omega)) (ao (dF (by omega))))))))))))))))))))
theorem pc_cpB {n a b q p1 p2 p3 s1 s2 s3 p s : Nat} {l : Liz} (hn : n < 1000000) (hb : b ≤ n) (hl : a + 50 ≤ b) (hq : ((b : Int) - a).tdiv 4 = (q : Int)) (hq2 : 4 * q ≤ b - a)
  (c1 : Pt 103 [(0, Ac n l), (1, CS 0)] [.ref 0 [] 1 0 n, .int .i64 ((a + q : Nat) : Int), .at 1 []] [(0, Ac n l), (1, CS s1)] (.int .i64 p1))
  (c2 : Pt 103 [(0, Ac n l), (1, CS s1)] [.ref 0 [] 1 0 n, .int .i64 ((a + 2 * q : Nat) : Int), .at 1 []] [(0, Ac n l), (1, CS s2)] (.int .i64 p2))
  (c3 : Pt 103 [(0, Ac n l), (1, CS s2)] [.ref 0 [] 1 0 n, .int .i64 ((a + 3 * q : Nat) : Int), .at 1 []] [(0, Ac n l), (1, CS s3)] (.int .i64 p3))
  (c4 : Pt 104 [(0, Ac n l), (1, CS s3)] [.ref 0 [] 1 0 n, .int .i64 p1, .int .i64 p2, .int .i64 p3, .at 1 []] [(0, Ac n l), (1, CS s)] (.int .i64 p)) :
  Pt 92 [(0, Ac n l)] [.ref 0 [] 1 0 n, .int .i64 a, .int .i64 b] [(0, Ac n l)] (.tup [.int .i64 p, .int .i64 (if s = 0 then 1 else if s = 12 then 2 else 0)]) := by
 refine pO Try.func92 (by kernel_rfl) ?_
 by_cases h0 : s = 0
 ·rw [if_pos h0]
  subst h0
  refine W.rtA [(4, aV (I6 ((b:Int) - (a:Int)))), (9, aV (I6 q)), (10, aV (I6 q)), (11, aV (I6 ↑(a + q))), (15, aV (I6 q)), (16, aV (I6 ↑(2 * q))), (17, aV (I6 ↑(a + 2 * q))), (21, aV (I6 q)), (22, aV (I6 ↑(3 * q))), (23, aV (I6 ↑(a + 3 * q))), (26, aT), (28, aT), (31, cC true [(0, 0), (160, 1)] c1), (35, cC true [(0, 0), (160, 1)] c2), (39, cC true [(0, 0), (160, 1)] c3), (45, cC true [(0, 0), (160, 1)] c4), (47, aV (I6 0))] [(0, 0)] [I6 (IntKind.wrap .i64 ((b:Int) - (a:Int))) = I6 ((b:Int) - (a:Int)), I6 (IntKind.wrap .i64 (Int.tdiv ((b:Int) - (a:Int)) (4 : Int))) = I6 q, (4 : Int) ≠ 0, I6 (IntKind.wrap .i64 ((q:Int) * (1 : Int))) = I6 q, I6 (IntKind.wrap .i64 ((a:Int) + (q:Int))) = I6 ↑(a + q), I6 (IntKind.wrap .i64 (Int.tdiv ((b:Int) - (a:Int)) (4 : Int))) = I6 q, (4 : Int) ≠ 0, I6 (IntKind.wrap .i64 ((q:Int) * (2 : Int))) = I6 ↑(2 * q), I6 (IntKind.wrap .i64 ((a:Int) + (↑(2 * q) : Int))) = I6 ↑(a + 2 * q), I6 (IntKind.wrap .i64 (Int.tdiv ((b:Int) - (a:Int)) (4 : Int))) = I6 q, (4 : Int) ≠ 0, I6 (IntKind.wrap .i64 ((q:Int) * (3 : Int))) = I6 ↑(3 * q), I6 (IntKind.wrap .i64 ((a:Int) + (↑(3 * q) : Int))) = I6 ↑(a + 3 * q), decide ((b:Int) - (a:Int) ≥ 8) = true, decide ((b:Int) - (a:Int) ≥ 50) = true, _, _, _, _, I6 ↑(0 : Nat) = I6 0] (ac (wj (by omega)) (ac (cg (Ab hq (by omega) (by omega))) (ac (by omega) (ac (cg (Ab (by omega) (by omega) (by omega))) (ac (wj (by omega)) (ac (cg (Ab hq (by omega) (by omega))) (ac (by omega) (ac (cg (Ab (by omega) (by omega) (by omega))) (ac (wj (by omega)) (ac (cg (Ab hq (by omega) (by omega))) (ac (by omega) (ac (cg (Ab (by omega) (by omega) (by omega))) (ac (wj (by omega)) (ac (dT (by omega)) (ac (dT (by omega)) (ac (c1) (ac (c2) (ac (c3) (ac (c4) (ao (cg (by omega))))))))))))))))))))))
 ·rw [if_neg h0]
  by_cases h1 : s = 12
  ·rw [if_pos h1]
   refine W.rtA [(4, aV (I6 ((b:Int) - (a:Int)))), (9, aV (I6 q)), (10, aV (I6 q)), (11, aV (I6 ↑(a + q))), (15, aV (I6 q)), (16, aV (I6 ↑(2 * q))), (17, aV (I6 ↑(a + 2 * q))), (21, aV (I6 q)), (22, aV (I6 ↑(3 * q))), (23, aV (I6 ↑(a + 3 * q))), (26, aT), (28, aT), (31, cC true [(0, 0), (160, 1)] c1), (35, cC true [(0, 0), (160, 1)] c2), (39, cC true [(0, 0), (160, 1)] c3), (45, cC true [(0, 0), (160, 1)] c4), (48, aF), (50, aT)] [(0, 0)] [I6 (IntKind.wrap .i64 ((b:Int) - (a:Int))) = I6 ((b:Int) - (a:Int)), I6 (IntKind.wrap .i64 (Int.tdiv ((b:Int) - (a:Int)) (4 : Int))) = I6 q, (4 : Int) ≠ 0, I6 (IntKind.wrap .i64 ((q:Int) * (1 : Int))) = I6 q, I6 (IntKind.wrap .i64 ((a:Int) + (q:Int))) = I6 ↑(a + q), I6 (IntKind.wrap .i64 (Int.tdiv ((b:Int) - (a:Int)) (4 : Int))) = I6 q, (4 : Int) ≠ 0, I6 (IntKind.wrap .i64 ((q:Int) * (2 : Int))) = I6 ↑(2 * q), I6 (IntKind.wrap .i64 ((a:Int) + (↑(2 * q) : Int))) = I6 ↑(a + 2 * q), I6 (IntKind.wrap .i64 (Int.tdiv ((b:Int) - (a:Int)) (4 : Int))) = I6 q, (4 : Int) ≠ 0, I6 (IntKind.wrap .i64 ((q:Int) * (3 : Int))) = I6 ↑(3 * q), I6 (IntKind.wrap .i64 ((a:Int) + (↑(3 * q) : Int))) = I6 ↑(a + 3 * q), decide ((b:Int) - (a:Int) ≥ 8) = true, decide ((b:Int) - (a:Int) ≥ 50) = true, _, _, _, _, ((s:Int) == 0) = false, ((s:Int) == 12) = true] (ac (wj (by omega)) (ac (cg (Ab hq (by omega) (by omega))) (ac (by omega) (ac (cg (Ab (by omega) (by omega) (by omega))) (ac (wj (by omega)) (ac (cg (Ab hq (by omega) (by omega))) (ac (by omega) (ac (cg (Ab (by omega) (by omega) (by omega))) (ac (wj (by omega)) (ac (cg (Ab hq (by omega) (by omega))) (ac (by omega) (ac (cg (Ab (by omega) (by omega) (by omega))) (ac (wj (by omega)) (ac (dT (by omega)) (ac (dT (by omega)) (ac (c1) (ac (c2) (ac (c3) (ac (c4) (ac (dF (by omega)) (ao (dT (by omega)))))))))))))))))))))))
  ·rw [if_neg h1]
   refine W.rtA [(4, aV (I6 ((b:Int) - (a:Int)))), (9, aV (I6 q)), (10, aV (I6 q)), (11, aV (I6 ↑(a + q))), (15, aV (I6 q)), (16, aV (I6 ↑(2 * q))), (17, aV (I6 ↑(a + 2 * q))), (21, aV (I6 q)), (22, aV (I6 ↑(3 * q))), (23, aV (I6 ↑(a + 3 * q))), (26, aT), (28, aT), (31, cC true [(0, 0), (160, 1)] c1), (35, cC true [(0, 0), (160, 1)] c2), (39, cC true [(0, 0), (160, 1)] c3), (45, cC true [(0, 0), (160, 1)] c4), (48, aF), (50, aF)] [(0, 0)] [I6 (IntKind.wrap .i64 ((b:Int) - (a:Int))) = I6 ((b:Int) - (a:Int)), I6 (IntKind.wrap .i64 (Int.tdiv ((b:Int) - (a:Int)) (4 : Int))) = I6 q, (4 : Int) ≠ 0, I6 (IntKind.wrap .i64 ((q:Int) * (1 : Int))) = I6 q, I6 (IntKind.wrap .i64 ((a:Int) + (q:Int))) = I6 ↑(a + q), I6 (IntKind.wrap .i64 (Int.tdiv ((b:Int) - (a:Int)) (4 : Int))) = I6 q, (4 : Int) ≠ 0, I6 (IntKind.wrap .i64 ((q:Int) * (2 : Int))) = I6 ↑(2 * q), I6 (IntKind.wrap .i64 ((a:Int) + (↑(2 * q) : Int))) = I6 ↑(a + 2 * q), I6 (IntKind.wrap .i64 (Int.tdiv ((b:Int) - (a:Int)) (4 : Int))) = I6 q, (4 : Int) ≠ 0, I6 (IntKind.wrap .i64 ((q:Int) * (3 : Int))) = I6 ↑(3 * q), I6 (IntKind.wrap .i64 ((a:Int) + (↑(3 * q) : Int))) = I6 ↑(a + 3 * q), decide ((b:Int) - (a:Int) ≥ 8) = true, decide ((b:Int) - (a:Int) ≥ 50) = true, _, _, _, _, ((s:Int) == 0) = false, ((s:Int) == 12) = false] (ac (wj (by omega)) (ac (cg (Ab hq (by omega) (by omega))) (ac (by omega) (ac (cg (Ab (by omega) (by omega) (by omega))) (ac (wj (by omega)) (ac (cg (Ab hq (by omega) (by omega))) (ac (by omega) (ac (cg (Ab (by omega) (by omega) (by omega))) (ac (wj (by omega)) (ac (cg (Ab hq (by omega) (by omega))) (ac (by omega) (ac (cg (Ab (by omega) (by omega) (by omega))) (ac (wj (by omega)) (ac (dT (by omega)) (ac (dT (by omega)) (ac (c1) (ac (c2) (ac (c3) (ac (c4) (ac (dF (by omega)) (ao (dF (by omega)))))))))))))))))))))))
theorem Qm (s : Nat) : hintN (if s = 0 then .increasing else if s = 12 then .decreasing else .unknown) = if s = 0 then 1 else if s = 12 then 2 else 0 := by
 split
 ·rfl
 ·split <;> rfl
theorem pc_cp {n a b : Nat} (hn : n < 1000000) (hb : b ≤ n) (hab : a + 12 < b) (l : List Int) : Pt 92 [(0, Ac n l)] [.ref 0 [] 1 0 n, .int .i64 a, .int .i64 b] [(0, Ac n l)] (.tup [.int .i64 (cpL l a b).1, .int .i64 (hintN (cpL l a b).2)]) := by
 rw [NQ]
 have hq : ((b : Int) - a).tdiv 4 = (((b - a) / 4 : Nat) : Int) := by
  rw [Int.tdiv_eq_ediv_of_nonneg (by omega)]
  omega
 dsimp only
 rw [Qm]
 unfold cp1
 rw [if_pos (show 8 ≤ b - a by omega)]
 by_cases h : 50 ≤ b - a
 ·rw [if_pos h, Nat.mul_one, Nat.mul_comm _ 2, Nat.mul_comm _ 3]
  have h12 : 12 ≤ (b - a) / 4 := by omega
  have h4 : 4 * ((b - a) / 4) ≤ b - a := by omega
  generalize (b - a) / 4 = q at *
  have k1 : (a + q - 1) + 1 = a + q := by omega
  have k2 : (a + 2 * q - 1) + 1 = a + 2 * q := by omega
  have k3 : (a + 3 * q - 1) + 1 = a + 3 * q := by omega
  have b1 := NP (l := l) (s := 0) (show a + q - 1 < n by omega) (show a + q < n by omega) (show a + q + 1 < n by omega)
  have c1 := Np (s := 0) hn (show (a + q - 1) + 2 < n by omega) (by omega) l
  rw [show (a + q - 1) + 2 = a + q + 1 by omega, k1] at c1
  have b2 := NP (l := l) (s := (mdL l (a + q - 1) (a + q) (a + q + 1) 0).2) (show a + 2 * q - 1 < n by omega) (show a + 2 * q < n by omega) (show a + 2 * q + 1 < n by omega)
  have c2 := Np (s := (mdL l (a + q - 1) (a + q) (a + q + 1) 0).2) hn (show (a + 2 * q - 1) + 2 < n by omega) (by omega) l
  rw [show (a + 2 * q - 1) + 2 = a + 2 * q + 1 by omega, k2] at c2
  generalize mdL l (a + q - 1) (a + q) (a + q + 1) 0 = r1 at *
  generalize mdL l (a + 2 * q - 1) (a + 2 * q) (a + 2 * q + 1) r1.2 = r2 at *
  have b3 := NP (l := l) (s := r2.2) (show a + 3 * q - 1 < n by omega) (show a + 3 * q < n by omega) (show a + 3 * q + 1 < n by omega)
  have c3 := Np (s := r2.2) hn (show (a + 3 * q - 1) + 2 < n by omega) (by omega) l
  rw [show (a + 3 * q - 1) + 2 = a + 3 * q + 1 by omega, k3] at c3
  generalize mdL l (a + 3 * q - 1) (a + 3 * q) (a + 3 * q + 1) r2.2 = r3 at *
  exact pc_cpB hn hb (by omega) hq (by omega) c1 c2 c3 (pc_md hn b1.1 b2.1 b3.1 (by omega) l)
 ·rw [if_neg h, Nat.mul_one, Nat.mul_comm _ 2, Nat.mul_comm _ 3]
  have h4 : 4 * ((b - a) / 4) ≤ b - a := by omega
  generalize (b - a) / 4 = q at *
  exact pc_cpA hn hb hab (by omega) hq (by omega) (pc_md hn (show a + q < n by omega) (show a + 2 * q < n by omega) (show a + 3 * q < n by omega) (by omega) l)
set_option maxHeartbeats 4000000 in
theorem pc_xs {r : Nat} (h : r < 18446744073709551616) : Pt 102 [(1, ⟨.int .u64 r, false⟩)] [.at 1 []] [(1, ⟨.int .u64 (xsN r), false⟩)] (.int .u64 (xsN r)) := by
 refine pO Try.func102 (by kernel_rfl) ?_
 have l1 : r * 8192 % 18446744073709551616 < 18446744073709551616 := Nat.mod_lt _ (by decide)
 have l2 : r ^^^ (r * 8192 % 18446744073709551616) < 18446744073709551616 := Nat.xor_lt_two_pow (n := 64) h l1
 unfold xsN
 generalize ha : r ^^^ (r * 8192 % 18446744073709551616) = a at *
 have ha2 : ((r ^^^ (r * 8192 % 18446744073709551616) : Nat) : Int) = (a : Int) := by rw [ha]
 have l3 : a / 128 < 18446744073709551616 := by omega
 have l4 : a ^^^ (a / 128) < 18446744073709551616 := Nat.xor_lt_two_pow (n := 64) l2 l3
 generalize hb : a ^^^ (a / 128) = b at *
 have hb2 : ((a ^^^ (a / 128) : Nat) : Int) = (b : Int) := by rw [hb]
 clear ha hb
 have l5 : b * 131072 % 18446744073709551616 < 18446744073709551616 := Nat.mod_lt _ (by decide)
 have l6 : b ^^^ (b * 131072 % 18446744073709551616) < 18446744073709551616 := Nat.xor_lt_two_pow (n := 64) l4 l5
 refine W.rtA [(7, aV (U6 ↑(r * 8192 % 18446744073709551616))), (8, aV (U6 ↑(r ^^^ r * 8192 % 18446744073709551616))), (13, aV (U6 a)), (16, aV (U6 a)), (17, aV (U6 ↑(a / 128))), (18, aV (U6 ↑(a ^^^ a / 128))), (23, aV (U6 b)), (26, aV (U6 b)), (27, aV (U6 ↑(b * 131072 % 18446744073709551616))), (28, aV (U6 ↑(b ^^^ b * 131072 % 18446744073709551616)))] (rI 1) [U6 (IntKind.wrap .u64 ((r:Int) * (2 : Int) ^ 13)) = U6 ↑(r * 8192 % 18446744073709551616), (0 : Int) ≤ 13, U6 (bits BinOp.xor .u64 (r:Int) (↑(r * 8192 % 18446744073709551616) : Int)) = U6 ↑(r ^^^ r * 8192 % 18446744073709551616), U6 ↑(r ^^^ r * 8192 % 18446744073709551616) = U6 a, U6 ↑(r ^^^ r * 8192 % 18446744073709551616) = U6 a, U6 (Int.fdiv (a:Int) ((2 : Int) ^ 7)) = U6 ↑(a / 128), (0 : Int) ≤ 7, U6 (bits BinOp.xor .u64 (a:Int) (↑(a / 128) : Int)) = U6 ↑(a ^^^ a / 128), U6 ↑(a ^^^ a / 128) = U6 b, U6 ↑(a ^^^ a / 128) = U6 b, U6 (IntKind.wrap .u64 ((b:Int) * (2 : Int) ^ 17)) = U6 ↑(b * 131072 % 18446744073709551616), (0 : Int) ≤ 17, U6 (bits BinOp.xor .u64 (b:Int) (↑(b * 131072 % 18446744073709551616) : Int)) = U6 ↑(b ^^^ b * 131072 % 18446744073709551616)] (ac (cg (Hl (y := ((13 : Nat) : Int)) rfl rfl)) (ac (by omega) (ac (cg (AZ rfl rfl (by omega) (by omega))) (ac (cg (ha2)) (ac (cg (ha2)) (ac (cg (A7 (y := 7) (s := 7) rfl rfl (by decide) (by omega))) (ac (by omega) (ac (cg (AZ rfl rfl (by omega) (by omega))) (ac (cg (hb2)) (ac (cg (hb2)) (ac (cg (Hl (y := ((17 : Nat) : Int)) rfl rfl)) (ac (by omega) (ao (cg (AZ rfl rfl (by omega) (by omega))))))))))))))))
set_option maxHeartbeats 4000000 in
theorem pc_l64a {x : Nat} (hx : x < 256) : Pt 98 [] [.int .u64 x] [] (.int .i64 (Bq x)) := by
 refine pO Try.func98 (by kernel_rfl) ?_
 have hl := GM (k := 8) hx
 refine W.rtA [(2, Ans.dec false), (4, Ans.dec false), (6, Ans.dec false), (9, Ans.val (PV.int .u8 (↑x : Int))), (10, Ans.val (PV.int .u8 (↑(Bq x) : Int))), (11, Ans.val (PV.int .i64 (↑(Bq x) : Int))), (12, Ans.val (PV.int .i64 (↑(Bq x) : Int)))] [] [decide ((↑x : Int) ≥ (4294967296 : Int)) = false, decide ((↑x : Int) ≥ (65536 : Int)) = false, decide ((↑x : Int) ≥ (256 : Int)) = false, PV.int .u8 (IntKind.wrap .u8 (↑x : Int)) = PV.int .u8 (↑x : Int), PV.int .u8 (Hz (ByteArray.mk #[(0 : UInt8), (1 : UInt8), (2 : UInt8), (2 : UInt8), (3 : UInt8), (3 : UInt8), (3 : UInt8), (3 : UInt8), (4 : UInt8), (4 : UInt8), (4 : UInt8), (4 : UInt8), (4 : UInt8), (4 : UInt8), (4 : UInt8), (4 : UInt8), (5 : UInt8), (5 : UInt8), (5 : UInt8), (5 : UInt8), (5 : UInt8), (5 : UInt8), (5 : UInt8), (5 : UInt8), (5 : UInt8), (5 : UInt8), (5 : UInt8), (5 : UInt8), (5 : UInt8), (5 : UInt8), (5 : UInt8), (5 : UInt8), (6 : UInt8), (6 : UInt8), (6 : UInt8), (6 : UInt8), (6 : UInt8), (6 : UInt8), (6 : UInt8), (6 : UInt8), (6 : UInt8), (6 : UInt8), (6 : UInt8), (6 : UInt8), (6 : UInt8), (6 : UInt8), (6 : UInt8), (6 : UInt8), (6 : UInt8), (6 : UInt8), (6 : UInt8), (6 : UInt8), (6 : UInt8), (6 : UInt8), (6 : UInt8), (6 : UInt8), (6 : UInt8), (6 : UInt8), (6 : UInt8), (6 : UInt8), (6 : UInt8), (6 : UInt8), (6 : UInt8), (6 : UInt8), (7 : UInt8), (7 : UInt8), (7 : UInt8), (7 : UInt8), (7 : UInt8), (7 : UInt8), (7 : UInt8), (7 : UInt8), (7 : UInt8), (7 : UInt8), (7 : UInt8), (7 : UInt8), (7 : UInt8), (7 : UInt8), (7 : UInt8), (7 : UInt8), (7 : UInt8), (7 : UInt8), (7 : UInt8), (7 : UInt8), (7 : UInt8), (7 : UInt8), (7 : UInt8), (7 : UInt8), (7 : UInt8), (7 : UInt8), (7 : UInt8), (7 : UInt8), (7 : UInt8), (7 : UInt8), (7 : UInt8), (7 : UInt8), (7 : UInt8), (7 : UInt8), (7 : UInt8), (7 : UInt8), (7 : UInt8), (7 : UInt8), (7 : UInt8), (7 : UInt8), (7 : UInt8), (7 : UInt8), (7 : UInt8), (7 : UInt8), (7 : UInt8), (7 : UInt8), (7 : UInt8), (7 : UInt8), (7 : UInt8), (7 : UInt8), (7 : UInt8), (7 : UInt8), (7 : UInt8), (7 : UInt8), (7 : UInt8), (7 : UInt8), (7 : UInt8), (7 : UInt8), (7 : UInt8), (7 : UInt8), (7 : UInt8), (7 : UInt8), (7 : UInt8), (7 : UInt8), (8 : UInt8), (8 : UInt8), (8 : UInt8), (8 : UInt8), (8 : UInt8), (8 : UInt8), (8 : UInt8), (8 : UInt8), (8 : UInt8), (8 : UInt8), (8 : UInt8), (8 : UInt8), (8 : UInt8), (8 : UInt8), (8 : UInt8), (8 : UInt8), (8 : UInt8), (8 : UInt8), (8 : UInt8), (8 : UInt8), (8 : UInt8), (8 : UInt8), (8 : UInt8), (8 : UInt8), (8 : UInt8), (8 : UInt8), (8 : UInt8), (8 : UInt8), (8 : UInt8), (8 : UInt8), (8 : UInt8), (8 : UInt8), (8 : UInt8), (8 : UInt8), (8 : UInt8), (8 : UInt8), (8 : UInt8), (8 : UInt8), (8 : UInt8), (8 : UInt8), (8 : UInt8), (8 : UInt8), (8 : UInt8), (8 : UInt8), (8 : UInt8), (8 : UInt8), (8 : UInt8), (8 : UInt8), (8 : UInt8), (8 : UInt8), (8 : UInt8), (8 : UInt8), (8 : UInt8), (8 : UInt8), (8 : UInt8), (8 : UInt8), (8 : UInt8), (8 : UInt8), (8 : UInt8), (8 : UInt8), (8 : UInt8), (8 : UInt8), (8 : UInt8), (8 : UInt8), (8 : UInt8), (8 : UInt8), (8 : UInt8), (8 : UInt8), (8 : UInt8), (8 : UInt8), (8 : UInt8), (8 : UInt8), (8 : UInt8), (8 : UInt8), (8 : UInt8), (8 : UInt8), (8 : UInt8), (8 : UInt8), (8 : UInt8), (8 : UInt8), (8 : UInt8), (8 : UInt8), (8 : UInt8), (8 : UInt8), (8 : UInt8), (8 : UInt8), (8 : UInt8), (8 : UInt8), (8 : UInt8), (8 : UInt8), (8 : UInt8), (8 : UInt8), (8 : UInt8), (8 : UInt8), (8 : UInt8), (8 : UInt8), (8 : UInt8), (8 : UInt8), (8 : UInt8), (8 : UInt8), (8 : UInt8), (8 : UInt8), (8 : UInt8), (8 : UInt8), (8 : UInt8), (8 : UInt8), (8 : UInt8), (8 : UInt8), (8 : UInt8), (8 : UInt8), (8 : UInt8), (8 : UInt8), (8 : UInt8), (8 : UInt8), (8 : UInt8), (8 : UInt8), (8 : UInt8), (8 : UInt8), (8 : UInt8), (8 : UInt8), (8 : UInt8), (8 : UInt8), (8 : UInt8), (8 : UInt8), (8 : UInt8), (8 : UInt8), (8 : UInt8), (8 : UInt8)]) (↑x : Int)) = PV.int .u8 (↑(Bq x) : Int), (0 : Int) ≤ (↑x : Int), (↑x : Int) < (↑(256 : Nat) : Int), PV.int .i64 (IntKind.wrap .i64 (↑(Bq x) : Int)) = PV.int .i64 (↑(Bq x) : Int), PV.int .i64 (IntKind.wrap .i64 ((0 : Int) + (↑(Bq x) : Int))) = PV.int .i64 (↑(Bq x) : Int)] (ac (by exact decide_eq_false (by omega)) (ac (by exact decide_eq_false (by omega)) (ac (by exact decide_eq_false (by omega)) (ac ?_ (ac ?_ (ob2 (by omega) (ac ?_ (ao ?_))))))))
 ·exact cg (w_u8 rfl (by omega) (by omega))
 ·refine cg ?_
  clear hl
  revert hx
  revert x
  decide +kernel
 ·exact cg (Ab rfl (by omega) (by omega))
 ·rw [Int.zero_add]
  exact cg (Ab rfl (by omega) (by omega))
set_option maxHeartbeats 4000000 in
theorem pc_l64b {x : Nat} (hx : x < 65536) (h2 : 256 ≤ x) : Pt 98 [] [.int .u64 x] [] (.int .i64 (Bq x)) := by
 refine pO Try.func98 (by kernel_rfl) ?_
 rw [Rn h2]
 have hy : x / 256 < 256 := by omega
 have hl := GM (k := 8) hy
 refine W.rtA [(2, Ans.dec false), (4, Ans.dec false), (6, Ans.dec true), (8, Ans.val (PV.int .u64 (↑(x / (256 : Nat)) : Int))), (11, Ans.val (PV.int .i64 (8 : Int))), (15, Ans.val (PV.int .u8 (↑(x / (256 : Nat)) : Int))), (16, Ans.val (PV.int .u8 (↑(Bq (x / (256 : Nat))) : Int))), (17, Ans.val (PV.int .i64 (↑(Bq (x / (256 : Nat))) : Int))), (18, Ans.val (PV.int .i64 (↑(Bq (x / (256 : Nat)) + (8 : Nat)) : Int)))] [] [decide ((↑x : Int) ≥ (4294967296 : Int)) = false, decide ((↑x : Int) ≥ (65536 : Int)) = false, decide ((↑x : Int) ≥ (256 : Int)) = true, PV.int .u64 (Int.fdiv (↑x : Int) ((2 : Int) ^ (8 : Nat))) = PV.int .u64 (↑(x / (256 : Nat)) : Int), (0 : Int) ≤ 8, PV.int .i64 (IntKind.wrap .i64 ((0 : Int) + (8 : Int))) = PV.int .i64 8, PV.int .u8 (IntKind.wrap .u8 (↑(x / (256 : Nat)) : Int)) = PV.int .u8 (↑(x / (256 : Nat)) : Int), PV.int .u8 (Hz (ByteArray.mk #[(0 : UInt8), (1 : UInt8), (2 : UInt8), (2 : UInt8), (3 : UInt8), (3 : UInt8), (3 : UInt8), (3 : UInt8), (4 : UInt8), (4 : UInt8), (4 : UInt8), (4 : UInt8), (4 : UInt8), (4 : UInt8), (4 : UInt8), (4 : UInt8), (5 : UInt8), (5 : UInt8), (5 : UInt8), (5 : UInt8), (5 : UInt8), (5 : UInt8), (5 : UInt8), (5 : UInt8), (5 : UInt8), (5 : UInt8), (5 : UInt8), (5 : UInt8), (5 : UInt8), (5 : UInt8), (5 : UInt8), (5 : UInt8), (6 : UInt8), (6 : UInt8), (6 : UInt8), (6 : UInt8), (6 : UInt8), (6 : UInt8), (6 : UInt8), (6 : UInt8), (6 : UInt8), (6 : UInt8), (6 : UInt8), (6 : UInt8), (6 : UInt8), (6 : UInt8), (6 : UInt8), (6 : UInt8), (6 : UInt8), (6 : UInt8), (6 : UInt8), (6 : UInt8), (6 : UInt8), (6 : UInt8), (6 : UInt8), (6 : UInt8), (6 : UInt8), (6 : UInt8), (6 : UInt8), (6 : UInt8), (6 : UInt8), (6 : UInt8), (6 : UInt8), (6 : UInt8), (7 : UInt8), (7 : UInt8), (7 : UInt8), (7 : UInt8), (7 : UInt8), (7 : UInt8), (7 : UInt8), (7 : UInt8), (7 : UInt8), (7 : UInt8), (7 : UInt8), (7 : UInt8), (7 : UInt8), (7 : UInt8), (7 : UInt8), (7 : UInt8), (7 : UInt8), (7 : UInt8), (7 : UInt8), (7 : UInt8), (7 : UInt8), (7 : UInt8), (7 : UInt8), (7 : UInt8), (7 : UInt8), (7 : UInt8), (7 : UInt8), (7 : UInt8), (7 : UInt8), (7 : UInt8), (7 : UInt8), (7 : UInt8), (7 : UInt8), (7 : UInt8), (7 : UInt8), (7 : UInt8), (7 : UInt8), (7 : UInt8), (7 : UInt8), (7 : UInt8), (7 : UInt8), (7 : UInt8), (7 : UInt8), (7 : UInt8), (7 : UInt8), (7 : UInt8), (7 : UInt8), (7 : UInt8), (7 : UInt8), (7 : UInt8), (7 : UInt8), (7 : UInt8), (7 : UInt8), (7 : UInt8), (7 : UInt8), (7 : UInt8), (7 : UInt8), (7 : UInt8), (7 : UInt8), (7 : UInt8), (7 : UInt8), (7 : UInt8), (7 : UInt8), (7 : UInt8), (8 : UInt8), (8 : UInt8), (8 : UInt8), (8 : UInt8), (8 : UInt8), (8 : UInt8), (8 : UInt8), (8 : UInt8), (8 : UInt8), (8 : UInt8), (8 : UInt8), (8 : UInt8), (8 : UInt8), (8 : UInt8), (8 : UInt8), (8 : UInt8), (8 : UInt8), (8 : UInt8), (8 : UInt8), (8 : UInt8), (8 : UInt8), (8 : UInt8), (8 : UInt8), (8 : UInt8), (8 : UInt8), (8 : UInt8), (8 : UInt8), (8 : UInt8), (8 : UInt8), (8 : UInt8), (8 : UInt8), (8 : UInt8), (8 : UInt8), (8 : UInt8), (8 : UInt8), (8 : UInt8), (8 : UInt8), (8 : UInt8), (8 : UInt8), (8 : UInt8), (8 : UInt8), (8 : UInt8), (8 : UInt8), (8 : UInt8), (8 : UInt8), (8 : UInt8), (8 : UInt8), (8 : UInt8), (8 : UInt8), (8 : UInt8), (8 : UInt8), (8 : UInt8), (8 : UInt8), (8 : UInt8), (8 : UInt8), (8 : UInt8), (8 : UInt8), (8 : UInt8), (8 : UInt8), (8 : UInt8), (8 : UInt8), (8 : UInt8), (8 : UInt8), (8 : UInt8), (8 : UInt8), (8 : UInt8), (8 : UInt8), (8 : UInt8), (8 : UInt8), (8 : UInt8), (8 : UInt8), (8 : UInt8), (8 : UInt8), (8 : UInt8), (8 : UInt8), (8 : UInt8), (8 : UInt8), (8 : UInt8), (8 : UInt8), (8 : UInt8), (8 : UInt8), (8 : UInt8), (8 : UInt8), (8 : UInt8), (8 : UInt8), (8 : UInt8), (8 : UInt8), (8 : UInt8), (8 : UInt8), (8 : UInt8), (8 : UInt8), (8 : UInt8), (8 : UInt8), (8 : UInt8), (8 : UInt8), (8 : UInt8), (8 : UInt8), (8 : UInt8), (8 : UInt8), (8 : UInt8), (8 : UInt8), (8 : UInt8), (8 : UInt8), (8 : UInt8), (8 : UInt8), (8 : UInt8), (8 : UInt8), (8 : UInt8), (8 : UInt8), (8 : UInt8), (8 : UInt8), (8 : UInt8), (8 : UInt8), (8 : UInt8), (8 : UInt8), (8 : UInt8), (8 : UInt8), (8 : UInt8), (8 : UInt8), (8 : UInt8), (8 : UInt8), (8 : UInt8), (8 : UInt8), (8 : UInt8), (8 : UInt8), (8 : UInt8), (8 : UInt8), (8 : UInt8)]) (↑(x / (256 : Nat)) : Int)) = PV.int .u8 (↑(Bq (x / (256 : Nat))) : Int), (0 : Int) ≤ (↑(x / (256 : Nat)) : Int), (↑(x / (256 : Nat)) : Int) < (↑(256 : Nat) : Int), PV.int .i64 (IntKind.wrap .i64 (↑(Bq (x / (256 : Nat))) : Int)) = PV.int .i64 (↑(Bq (x / (256 : Nat))) : Int), PV.int .i64 (IntKind.wrap .i64 ((8 : Int) + (↑(Bq (x / (256 : Nat))) : Int))) = PV.int .i64 (↑(Bq (x / (256 : Nat)) + (8 : Nat)) : Int)] (ac (by exact decide_eq_false (by omega)) (ac (by exact decide_eq_false (by omega)) (ac (by exact decide_eq_true (by omega)) (ac (by exact congrArg (PV.int _) (A7 (y := 8) (s := 8) rfl rfl (by decide) (by omega))) (ac (by omega) (ac (by exact congrArg (PV.int _) (Ab rfl (by omega) (by omega))) (ac ?_ (ac ?_ (ob2 (by omega) (ac (by exact congrArg (PV.int _) (Ab rfl (by omega) (by omega))) (ao ?_)))))))))))
 ·exact cg (w_u8 rfl (by omega) (by omega))
 ·refine cg ?_
  clear hl
  generalize x / 256 = y at *
  clear hx h2
  revert hy
  revert y
  decide +kernel
 all_goals exact cg (Ab (by omega) (by omega) (by omega))
theorem pc_l64 {x : Nat} (hx : x < 65536) : Pt 98 [] [.int .u64 x] [] (.int .i64 (Bq x)) := by
 by_cases h : x < 256
 ·exact pc_l64a h
 ·exact pc_l64b hx (by omega)
theorem OP {x : Nat} (hx : x < 65536) : Pt 79 [] [.int .u64 x] [] (.int .i64 (Bq x)) := by
 refine pO Try.func79 (by kernel_rfl) ?_
 have c1 := pc_l64 hx
 generalize Bq x = r at *
 refine W.rtA [(2, c9 c1)] [] [_] (ao (c1))
theorem pc_npot {x : Nat} (hx : x < 65536) : Pt 101 [] [.int .i64 x] [] (.int .u64 ((2 ^ Bq x : Nat) : Int)) := by
 refine pO Try.func101 (by kernel_rfl) ?_
 have c1 := OP hx
 have hl := GM (k := 16) hx
 generalize Bq x = r at *
 have hp : 2 ^ r ≤ 2 ^ 16 := Nat.pow_le_pow_right (by omega) hl
 have hs : ((1 * 2 ^ r % 18446744073709551616 : Nat) : Int) = ((2 ^ r : Nat) : Int) := by
  rw [Nat.one_mul, Nat.mod_eq_of_lt (by omega)]
 refine W.rtA [(2, aV (U6 x)), (3, c9 c1), (4, aV (U6 ↑(1 * 2 ^ r % 18446744073709551616))), (5, aV (U6 ↑(2 ^ r)))] [] [U6 (IntKind.wrap .u64 (x:Int)) = U6 x, _, U6 (IntKind.wrap .u64 ((1 : Int) * (2 : Int) ^ min r 64)) = U6 ↑(1 * 2 ^ r % 18446744073709551616), 0 ≤ (r:Int), U6 ↑(1 * 2 ^ r % 18446744073709551616) = U6 ↑(2 ^ r)] (ac (cg (Au rfl (by omega) (by omega))) (ac (c1) (ac (cg (Hl (y := ((r : Nat) : Int)) rfl rfl)) (ac (by omega) (ao (cg (hs)))))))
end Go.Proofs
namespace Go.Proofs
open Go Go.Pe Go.Pm
set_option maxRecDepth 100000
set_option linter.unusedVariables false
def rowR (r : Nat) : Row := ⟨.int .u64 r, false⟩
def qB (n a len z r i : Nat) (l : List Int) : DS := ⟨[(0, .ref 0 [] 1 0 n), (1, .int .i64 a), (6, .int .i64 len), (7, .at 1 []), (8, .int .u64 z), (9, .int .i64 i)], [(0, Ac n l), (1, rowR r)]⟩
theorem W_bpE {n a len z r i q : Nat} {l : Liz} (hn : n < 65536) (hq : (len : Int).tdiv 4 = (q : Int)) (hq2 : 4 * q ≤ len) (hl : a + len ≤ n) (hi : i = a + 2 * q + 2) : Wt Try.f91 [0] [(0, Ac n l)] (.tup []) (Aa Try.f91 0) (qB n a len z r i l) := by
 refine W.rtA [(3, aV (I6 q)), (4, aV (I6 ↑(2 * q))), (5, aV (I6 ↑(a + 2 * q))), (6, aV (I6 ↑(a + 2 * q + 1))), (7, aF)] [(0, 0)] [I6 (IntKind.wrap .i64 (Int.tdiv (len:Int) (4 : Int))) = I6 q, (4 : Int) ≠ 0, I6 (IntKind.wrap .i64 ((q:Int) * (2 : Int))) = I6 ↑(2 * q), I6 (IntKind.wrap .i64 ((a:Int) + (↑(2 * q) : Int))) = I6 ↑(a + 2 * q), I6 (IntKind.wrap .i64 ((↑(a + 2 * q) : Int) + 1)) = I6 ↑(a + 2 * q + 1), decide ((i:Int) ≤ (↑(a + 2 * q + 1) : Int)) = false] (ac (cg (Ab hq (by omega) (by omega))) (ac (by omega) (ac (cg (Ab (by omega) (by omega) (by omega))) (ac (wj (by omega)) (ac (wj (by omega)) (ao (dF (by omega))))))))
theorem W_bpS {n a len z r t i q o : Nat} {l : Liz} {hout : Lrz} {res : PV} (hn : n < 65536) (hq : (len : Int).tdiv 4 = (q : Int)) (hq2 : 4 * q ≤ len) (hl : a + len ≤ n) (hz1 : 1 ≤ z) (hz : z ≤ 131072) (hi : i < a + 2 * q + 2) (hin : i < n) (ht : t < 18446744073709551616) (ho : t &&& (z - 1) = o) (ho2 : o < 2 * len)
  (c1 : Pt 102 [(1, rowR r)] [.at 1 []] [(1, rowR t)] (.int .u64 t))
  (hw : Wt Try.f91 [0] hout res (Aa Try.f91 0) (qB n a len z t (i + 1) (swL l i (a + if len ≤ o then o - len else o)))) :
  Wt Try.f91 [0] hout res (Aa Try.f91 0) (qB n a len z r i l) := by
 have he : bits .and .u64 (t : Int) ((z : Int) - 1) = (o : Int) := by
  rw [L9 (a := t) (b := z - 1) rfl (by omega) ht (by omega), ho]
 by_cases h : len ≤ o
 ·rw [if_pos h] at hw
  obtain ⟨w, hw2⟩ : ∃ w, o = len + w := ⟨o - len, by omega⟩
  subst hw2
  rw [Nat.add_sub_cancel_left] at hw
  refine W.sgA 0 [(3, aV (I6 q)), (4, aV (I6 ↑(2 * q))), (5, aV (I6 ↑(a + 2 * q))), (6, aV (I6 ↑(a + 2 * q + 1))), (7, aT), (8, cC true [(1, 1)] c1), (10, aV (U6 ((z:Int) - 1))), (11, aV (U6 ↑(len + w))), (12, aV (I6 ↑(len + w))), (16, aT), (19, aV (I6 w)), (26, aV (I6 ↑(a + w))), (30, aV (I6 ↑(a + w))), (31, aV (PV.at 0 [Stp.idx (a + w) 1])), (35, aV (PV.at 0 [Stp.idx i 1])), (37, aV (PV.at 0 [Stp.idx i 1])), (39, aV (PV.at 0 [Stp.idx (a + w) 1])), (42, aV (I6 ↑(i + 1)))] [(0, 0), (1, 1)] (qB n a len z t (i + 1) (swL l i (a + w))) [I6 (IntKind.wrap .i64 (Int.tdiv (len:Int) (4 : Int))) = I6 q, (4 : Int) ≠ 0, I6 (IntKind.wrap .i64 ((q:Int) * (2 : Int))) = I6 ↑(2 * q), I6 (IntKind.wrap .i64 ((a:Int) + (↑(2 * q) : Int))) = I6 ↑(a + 2 * q), I6 (IntKind.wrap .i64 ((↑(a + 2 * q) : Int) + 1)) = I6 ↑(a + 2 * q + 1), decide ((i:Int) ≤ (↑(a + 2 * q + 1) : Int)) = true, _, U6 (IntKind.wrap .u64 ((z:Int) - 1)) = U6 ((z:Int) - 1), U6 (bits BinOp.and .u64 (t:Int) ((z:Int) - 1)) = U6 ↑(len + w), I6 (IntKind.wrap .i64 (↑(len + w) : Int)) = I6 ↑(len + w), decide ((↑(len + w) : Int) ≥ (len:Int)) = true, I6 (IntKind.wrap .i64 ((↑(len + w) : Int) - (len:Int))) = I6 w, I6 (IntKind.wrap .i64 ((a:Int) + (w:Int))) = I6 ↑(a + w), I6 (IntKind.wrap .i64 ((a:Int) + (w:Int))) = I6 ↑(a + w), PV.at 0 [Stp.idx (0 + Int.toNat (↑(a + w) : Int)) 1] = PV.at 0 [Stp.idx (a + w) 1], 0 ≤ (↑(a + w) : Int), (↑(a + w) : Int) < (n:Int), a + w < n, PV.at 0 [Stp.idx (0 + i) 1] = PV.at 0 [Stp.idx i 1], 0 ≤ (i:Int), (i:Int) < (n:Int), i < n, PV.at 0 [Stp.idx (0 + i) 1] = PV.at 0 [Stp.idx i 1], 0 ≤ (i:Int), (i:Int) < (n:Int), i < n, PV.at 0 [Stp.idx (0 + Int.toNat (↑(a + w) : Int)) 1] = PV.at 0 [Stp.idx (a + w) 1], 0 ≤ (↑(a + w) : Int), (↑(a + w) : Int) < (n:Int), a + w < n, I6 (IntKind.wrap .i64 ((i:Int) + 1)) = I6 ↑(i + 1)] (ac (cg (Ab hq (by omega) (by omega))) (ac (by omega) (ac (cg (Ab (by omega) (by omega) (by omega))) (ac (wj (by omega)) (ac (wj (by omega)) (ac (dT (by omega)) (ac (c1) (ac (cg (Au rfl (by omega) (by omega))) (ac (cg (he)) (ac (wj (by omega)) (ac (dT (by omega)) (ac (cg (Ab (by omega) (by omega) (by omega))) (ac (wj (by omega)) (ac (wj (by omega)) (ac (by (rw [show Int.toNat (↑(a + w) : Int) = a + w by omega]; simp only [Nat.zero_add])) (ob3 (by omega) (ac (by simp only [Nat.zero_add]) (ob3 (by omega) (ac (by simp only [Nat.zero_add]) (ob3 (by omega) (ac (by (rw [show Int.toNat (↑(a + w) : Int) = a + w by omega]; simp only [Nat.zero_add])) (ob3 (by omega) (ao (wj (by omega))))))))))))))))))))))))) ?_
  exact hw
 ·rw [if_neg h] at hw
  refine W.sgA 0 [(3, aV (I6 q)), (4, aV (I6 ↑(2 * q))), (5, aV (I6 ↑(a + 2 * q))), (6, aV (I6 ↑(a + 2 * q + 1))), (7, aT), (8, cC true [(1, 1)] c1), (10, aV (U6 ((z:Int) - 1))), (11, aV (U6 o)), (12, aV (I6 o)), (16, aF), (22, aV (I6 ↑(a + o))), (26, aV (I6 ↑(a + o))), (27, aV (PV.at 0 [Stp.idx (a + o) 1])), (31, aV (PV.at 0 [Stp.idx i 1])), (33, aV (PV.at 0 [Stp.idx i 1])), (35, aV (PV.at 0 [Stp.idx (a + o) 1])), (38, aV (I6 ↑(i + 1)))] [(0, 0), (1, 1)] (qB n a len z t (i + 1) (swL l i (a + o))) [I6 (IntKind.wrap .i64 (Int.tdiv (len:Int) (4 : Int))) = I6 q, (4 : Int) ≠ 0, I6 (IntKind.wrap .i64 ((q:Int) * (2 : Int))) = I6 ↑(2 * q), I6 (IntKind.wrap .i64 ((a:Int) + (↑(2 * q) : Int))) = I6 ↑(a + 2 * q), I6 (IntKind.wrap .i64 ((↑(a + 2 * q) : Int) + 1)) = I6 ↑(a + 2 * q + 1), decide ((i:Int) ≤ (↑(a + 2 * q + 1) : Int)) = true, _, U6 (IntKind.wrap .u64 ((z:Int) - 1)) = U6 ((z:Int) - 1), U6 (bits BinOp.and .u64 (t:Int) ((z:Int) - 1)) = U6 o, I6 (IntKind.wrap .i64 (o:Int)) = I6 o, decide ((o:Int) ≥ (len:Int)) = false, I6 (IntKind.wrap .i64 ((a:Int) + (o:Int))) = I6 ↑(a + o), I6 (IntKind.wrap .i64 ((a:Int) + (o:Int))) = I6 ↑(a + o), PV.at 0 [Stp.idx (0 + Int.toNat (↑(a + o) : Int)) 1] = PV.at 0 [Stp.idx (a + o) 1], 0 ≤ (↑(a + o) : Int), (↑(a + o) : Int) < (n:Int), a + o < n, PV.at 0 [Stp.idx (0 + i) 1] = PV.at 0 [Stp.idx i 1], 0 ≤ (i:Int), (i:Int) < (n:Int), i < n, PV.at 0 [Stp.idx (0 + i) 1] = PV.at 0 [Stp.idx i 1], 0 ≤ (i:Int), (i:Int) < (n:Int), i < n, PV.at 0 [Stp.idx (0 + Int.toNat (↑(a + o) : Int)) 1] = PV.at 0 [Stp.idx (a + o) 1], 0 ≤ (↑(a + o) : Int), (↑(a + o) : Int) < (n:Int), a + o < n, I6 (IntKind.wrap .i64 ((i:Int) + 1)) = I6 ↑(i + 1)] (ac (cg (Ab hq (by omega) (by omega))) (ac (by omega) (ac (cg (Ab (by omega) (by omega) (by omega))) (ac (wj (by omega)) (ac (wj (by omega)) (ac (dT (by omega)) (ac (c1) (ac (cg (Au rfl (by omega) (by omega))) (ac (cg (he)) (ac (wj (by omega)) (ac (dF (by omega)) (ac (wj (by omega)) (ac (wj (by omega)) (ac (by (rw [show Int.toNat (↑(a + o) : Int) = a + o by omega]; simp only [Nat.zero_add])) (ob3 (by omega) (ac (by simp only [Nat.zero_add]) (ob3 (by omega) (ac (by simp only [Nat.zero_add]) (ob3 (by omega) (ac (by (rw [show Int.toNat (↑(a + o) : Int) = a + o by omega]; simp only [Nat.zero_add])) (ob3 (by omega) (ao (wj (by omega)))))))))))))))))))))))) ?_
  exact hw
theorem NK {r : Nat} (h : r < 18446744073709551616) : xsN r < 18446744073709551616 := by
 have l1 : r * 8192 % 18446744073709551616 < 18446744073709551616 := Nat.mod_lt _ (by decide)
 have l2 : r ^^^ (r * 8192 % 18446744073709551616) < 18446744073709551616 := Nat.xor_lt_two_pow (n := 64) h l1
 unfold xsN
 generalize r ^^^ (r * 8192 % 18446744073709551616) = a at *
 have l3 : a / 128 < 18446744073709551616 := by omega
 have l4 : a ^^^ (a / 128) < 18446744073709551616 := Nat.xor_lt_two_pow (n := 64) l2 l3
 generalize a ^^^ (a / 128) = b at *
 have l5 : b * 131072 % 18446744073709551616 < 18446744073709551616 := Nat.mod_lt _ (by decide)
 exact Nat.xor_lt_two_pow (n := 64) l4 l5
theorem W_bpI {n a b len q : Nat} {l : Liz} {hout : Lrz} {res : PV} (hn : n < 65536) (hb : b ≤ n) (hlen : b = a + len) (h8 : 8 ≤ len) (hq : (len : Int).tdiv 4 = (q : Int)) (hq2 : 4 * q ≤ len) (hq3 : 2 ≤ q) {z : Nat} (hz : z ≤ 131072) (c1 : Pt 101 [] [.int .i64 len] [] (.int .u64 z))
  (hw : Wt Try.f91 [0] hout res (Aa Try.f91 0) (qB n a len z len (a + 2 * q - 1) l)) :
  Wt Try.f91 [0] hout res (startAt Try.f91) ⟨Gg 0 [.ref 0 [] 1 0 n, .int .i64 a, .int .i64 b], [(0, Ac n l)]⟩ := by
 subst hlen
 obtain ⟨w, hw2⟩ : ∃ w, a + 2 * q = w + 1 := ⟨a + 2 * q - 1, by omega⟩
 have hw3 : (a : Int) + 2 * (q : Int) = (w : Int) + 1 := by omega
 rw [hw2, Nat.add_sub_cancel] at hw
 refine W.seg [(2, aV (I6 len)), (5, aT), (7, aV (U6 len)), (11, c9 c1), (15, aV (I6 q)), (16, aV (I6 ↑(2 * q))), (17, aV (I6 ↑(a + 2 * q))), (18, aV (I6 ((a:Int) + 2 * (q:Int) - 1)))] [(0, 0), (192, 1)] (qB n a len z len w l) (todo' := Aa Try.f91 0) [I6 (IntKind.wrap .i64 ((↑(a + len) : Int) - (a:Int))) = I6 len, decide ((len:Int) ≥ 8) = true, U6 (IntKind.wrap .u64 (len:Int)) = U6 len, _, I6 (IntKind.wrap .i64 (Int.tdiv (len:Int) (4 : Int))) = I6 q, (4 : Int) ≠ 0, I6 (IntKind.wrap .i64 ((q:Int) * (2 : Int))) = I6 ↑(2 * q), I6 (IntKind.wrap .i64 ((a:Int) + (↑(2 * q) : Int))) = I6 ↑(a + 2 * q), I6 (IntKind.wrap .i64 ((↑(a + 2 * q) : Int) - 1)) = I6 ((a:Int) + 2 * (q:Int) - 1), rr (PV.ref 0 [] 1 0 n), rr (I6 a), rr (I6 len), rr (PV.at 1 []), rr (U6 z), I6 ((a:Int) + 2 * (q:Int) - 1) = I6 w, rr (B6 n l), rr (U6 len)] (by kernel_rfl) (ac (cg (Ab (by omega) (by omega) (by omega))) (ac (dT (by omega)) (ac (cg (Au rfl (by omega) (by omega))) (ac (c1) (ac (cg (Ab hq (by omega) (by omega))) (ac (by omega) (ac (cg (Ab (by omega) (by omega) (by omega))) (ac (wj (by omega)) (ac (wj (by omega)) (ac rfl (ac rfl (ac rfl (ac rfl (ac rfl (ac (cg (by omega)) (ac rfl (ao rfl))))))))))))))))) ?_
 exact hw
theorem pc_bp {n a b : Nat} (hn : n < 65536) (hb : b ≤ n) (h8 : a + 8 ≤ b) (l : List Int) : Pt 91 [(0, Ac n l)] [.ref 0 [] 1 0 n, .int .i64 a, .int .i64 b] [(0, Ac n (bpL l a b))] (.tup []) := by
 refine pO Try.func91 (by kernel_rfl) ?_
 obtain ⟨len, hlen⟩ : ∃ len, b = a + len := ⟨b - a, by omega⟩
 have hq : (len : Int).tdiv 4 = ((len / 4 : Nat) : Int) := (Int.ofNat_tdiv len 4).symm
 have hz := GM (k := 16) (show len < 2 ^ 16 by omega)
 have hz2 : 2 ^ Bq len ≤ 131072 := Nat.le_trans (Nat.pow_le_pow_right (by omega) hz) (by decide)
 have hz1 : 1 ≤ 2 ^ Bq len := Nat.one_le_two_pow
 have hzl := Qu (show 1 ≤ len by omega)
 have k0 : len < 18446744073709551616 := by omega
 have k1 := NK k0
 have k2 := NK k1
 have k3 := NK k2
 have an : ∀ t, t &&& (2 ^ Bq len - 1) < 2 * len := fun t => by
  have := @Nat.and_le_right t (2 ^ Bq len - 1)
  omega
 rw [bpL_eq l a b len (a + 2 * (len / 4) - 1) (by omega) (by omega) k0 (by rw [Nat.mul_comm])]
 refine W_bpI hn hb hlen (by omega) hq (by omega) (by omega) hz2 (pc_npot (by omega)) ?_
 refine W_bpS (q := len / 4) hn hq (by omega) (by omega) hz1 hz2 (by omega) (by omega) k1 rfl (an _) (pc_xs k0) ?_
 refine W_bpS (q := len / 4) hn hq (by omega) (by omega) hz1 hz2 (by omega) (by omega) k2 rfl (an _) (pc_xs k1) ?_
 refine W_bpS (q := len / 4) hn hq (by omega) (by omega) hz1 hz2 (by omega) (by omega) k3 rfl (an _) (pc_xs k2) ?_
 exact W_bpE hn hq (by omega) (by omega) (by omega)
def q5 (n a b i s : Nat) (l : List Int) : DS := ⟨[(0, .ref 0 [] 1 0 n), (1, .int .i64 a), (2, .int .i64 b), (7, .int .i64 i), (8, .int .i64 s)], [(0, Ac n l)]⟩
def q5d (n a b i s k : Nat) (l : List Int) : DS := ⟨[(0, .ref 0 [] 1 0 n), (1, .int .i64 a), (2, .int .i64 b), (7, .int .i64 i), (8, .int .i64 s), (9, .int .i64 k)], [(0, Ac n l)]⟩
def q5u (n a b i s k : Nat) (l : List Int) : DS := ⟨[(0, .ref 0 [] 1 0 n), (1, .int .i64 a), (2, .int .i64 b), (7, .int .i64 i), (8, .int .i64 s), (10, .int .i64 k)], [(0, Ac n l)]⟩
theorem W_i0E {n a b i : Nat} {l : Liz} : Wt Try.f94 [0] [(0, Ac n l)] (.bool false) (Aa Try.f94 0) (q5 n a b i 5 l) := by
 refine W.rtA [(0, aV (I6 5))] [(0, 0)] [I6 ↑(5 : Nat) = I6 5] (ao (cg (by omega)))
theorem W_i0 {n a b i s : Nat} {l : Liz} {hout : Lrz} {res : PV} (hn : n < 1000000) (hb : b ≤ n) (hs : s < 5) (hw : Wt Try.f94 [0] hout res (Aa Try.f94 1) (q5 n a b i s l)) : Wt Try.f94 [0] hout res (Aa Try.f94 0) (q5 n a b i s l) := by
 refine W.sgA 1 [(1, aT)] [(0, 0)] (q5 n a b i s l) [decide ((s:Int) < 5) = true] (ao (dT (by omega))) ?_
 exact hw
theorem W_i1S {n a b i s : Nat} {l : Liz} {hout : Lrz} {res : PV} (hn : n < 1000000) (hb : b ≤ n) (hs : s < 5) (h1 : i + 1 < b) (h2 : ¬ l.getD (i + 1) 0 < l.getD i 0) (hw : Wt Try.f94 [0] hout res (Aa Try.f94 1) (q5 n a b (i + 2) s l)) : Wt Try.f94 [0] hout res (Aa Try.f94 1) (q5 n a b (i + 1) s l) := by
 refine W.sgA 1 [(2, aT), (6, aV (PV.at 0 [Stp.idx (i + 1) 1])), (10, aV (I6 i)), (11, aV (PV.at 0 [Stp.idx i 1])), (13, aK (PV.bool false)), (17, aV (I6 ↑(i + 2)))] [(0, 0)] (q5 n a b (i + 2) s l) [decide ((↑(i + 1) : Int) < (b:Int)) = true, PV.at 0 [Stp.idx (0 + Int.toNat (↑(i + 1) : Int)) 1] = PV.at 0 [Stp.idx (i + 1) 1], 0 ≤ (↑(i + 1) : Int), (↑(i + 1) : Int) < (n:Int), i + 1 < n, I6 (IntKind.wrap .i64 ((↑(i + 1) : Int) - 1)) = I6 i, PV.at 0 [Stp.idx (0 + i) 1] = PV.at 0 [Stp.idx i 1], 0 ≤ (i:Int), (i:Int) < (n:Int), i < n, Pt 71 [] [U6 (List.getD l (i + 1) (0 : Int)), U6 (List.getD l i (0 : Int))] [] (PV.bool false), I6 (IntKind.wrap .i64 ((↑(i + 1) : Int) + 1)) = I6 ↑(i + 2)] (ac (dT (by omega)) (ac (by (rw [show Int.toNat (↑(i + 1) : Int) = i + 1 by omega]; simp only [Nat.zero_add])) (ob3 (by omega) (ac (cg (Ab (by omega) (by omega) (by omega))) (ac (by simp only [Nat.zero_add]) (ob3 (by omega) (ac (Bn _ _ (by first | omega | decide)) (ao (wj (by omega)))))))))) ?_
 exact hw
theorem W_i1T {n a i s : Nat} {l : Liz} (hn : n < 1000000) (hb : i + 1 ≤ n) : Wt Try.f94 [0] [(0, Ac n l)] (.bool true) (Aa Try.f94 1) (q5 n a (i + 1) (i + 1) s l) := by
 refine W.rtA [(2, aF), (18, aT)] [(0, 0)] [decide ((↑(i + 1) : Int) < (↑(i + 1) : Int)) = false, ((↑(i + 1) : Int) == (↑(i + 1) : Int)) = true] (ac (dF (by omega)) (ao (dT (by omega))))
theorem W_i1F {n a b i s : Nat} {l : Liz} (hn : n < 1000000) (hb : b ≤ n) (h1 : i + 1 < b) (h2 : l.getD (i + 1) 0 < l.getD i 0) (h3 : b < a + 50) (ha : a ≤ b) : Wt Try.f94 [0] [(0, Ac n l)] (.bool false) (Aa Try.f94 1) (q5 n a b (i + 1) s l) := by
 refine W.rtA [(2, aT), (6, aV (PV.at 0 [Stp.idx (i + 1) 1])), (10, aV (I6 i)), (11, aV (PV.at 0 [Stp.idx i 1])), (13, aK (PV.bool true)), (18, aF), (21, aV (I6 ((b:Int) - (a:Int)))), (22, aT)] [(0, 0)] [decide ((↑(i + 1) : Int) < (b:Int)) = true, PV.at 0 [Stp.idx (0 + Int.toNat (↑(i + 1) : Int)) 1] = PV.at 0 [Stp.idx (i + 1) 1], 0 ≤ (↑(i + 1) : Int), (↑(i + 1) : Int) < (n:Int), i + 1 < n, I6 (IntKind.wrap .i64 ((↑(i + 1) : Int) - 1)) = I6 i, PV.at 0 [Stp.idx (0 + i) 1] = PV.at 0 [Stp.idx i 1], 0 ≤ (i:Int), (i:Int) < (n:Int), i < n, Pt 71 [] [U6 (List.getD l (i + 1) (0 : Int)), U6 (List.getD l i (0 : Int))] [] (PV.bool true), ((↑(i + 1) : Int) == (b:Int)) = false, I6 (IntKind.wrap .i64 ((b:Int) - (a:Int))) = I6 ((b:Int) - (a:Int)), decide ((b:Int) - (a:Int) < 50) = true] (ac (dT (by omega)) (ac (by (rw [show Int.toNat (↑(i + 1) : Int) = i + 1 by omega]; simp only [Nat.zero_add])) (ob3 (by omega) (ac (cg (Ab (by omega) (by omega) (by omega))) (ac (by simp only [Nat.zero_add]) (ob3 (by omega) (ac (AU _ _ (by first | omega | decide)) (ac (dF (by omega)) (ac (wj (by omega)) (ao (dT (by omega))))))))))))
theorem W_i1D {n a b i s : Nat} {l : Liz} {hout : Lrz} {res : PV} (hn : n < 1000000) (hb : b ≤ n) (hs : s < 5) (h1 : i + 1 < b) (h2 : l.getD (i + 1) 0 < l.getD i 0) (h3 : a + 50 ≤ b) (h4 : a + 2 ≤ i + 1) (hw : Wt Try.f94 [0] hout res (Aa Try.f94 2) (q5d n a b (i + 1) s i (swL l (i + 1) i))) : Wt Try.f94 [0] hout res (Aa Try.f94 1) (q5 n a b (i + 1) s l) := by
 refine W.sgA 2 [(2, aT), (6, aV (PV.at 0 [Stp.idx (i + 1) 1])), (10, aV (I6 i)), (11, aV (PV.at 0 [Stp.idx i 1])), (13, aK (PV.bool true)), (18, aF), (21, aV (I6 ((b:Int) - (a:Int)))), (22, aF), (27, aV (I6 i)), (30, aV (I6 i)), (31, aV (PV.at 0 [Stp.idx i 1])), (35, aV (PV.at 0 [Stp.idx (i + 1) 1])), (37, aV (PV.at 0 [Stp.idx (i + 1) 1])), (39, aV (PV.at 0 [Stp.idx i 1])), (43, aV (I6 ((i:Int) + 1 - (a:Int)))), (44, aT), (46, aV (I6 i))] [(0, 0)] (q5d n a b (i + 1) s i (swL l (i + 1) i)) [decide ((↑(i + 1) : Int) < (b:Int)) = true, PV.at 0 [Stp.idx (0 + Int.toNat (↑(i + 1) : Int)) 1] = PV.at 0 [Stp.idx (i + 1) 1], 0 ≤ (↑(i + 1) : Int), (↑(i + 1) : Int) < (n:Int), i + 1 < n, I6 (IntKind.wrap .i64 ((↑(i + 1) : Int) - 1)) = I6 i, PV.at 0 [Stp.idx (0 + i) 1] = PV.at 0 [Stp.idx i 1], 0 ≤ (i:Int), (i:Int) < (n:Int), i < n, Pt 71 [] [U6 (List.getD l (i + 1) (0 : Int)), U6 (List.getD l i (0 : Int))] [] (PV.bool true), ((↑(i + 1) : Int) == (b:Int)) = false, I6 (IntKind.wrap .i64 ((b:Int) - (a:Int))) = I6 ((b:Int) - (a:Int)), decide ((b:Int) - (a:Int) < 50) = false, I6 (IntKind.wrap .i64 ((↑(i + 1) : Int) - 1)) = I6 i, I6 (IntKind.wrap .i64 ((↑(i + 1) : Int) - 1)) = I6 i, PV.at 0 [Stp.idx (0 + i) 1] = PV.at 0 [Stp.idx i 1], 0 ≤ (i:Int), (i:Int) < (n:Int), i < n, PV.at 0 [Stp.idx (0 + Int.toNat (↑(i + 1) : Int)) 1] = PV.at 0 [Stp.idx (i + 1) 1], 0 ≤ (↑(i + 1) : Int), (↑(i + 1) : Int) < (n:Int), i + 1 < n, PV.at 0 [Stp.idx (0 + Int.toNat (↑(i + 1) : Int)) 1] = PV.at 0 [Stp.idx (i + 1) 1], 0 ≤ (↑(i + 1) : Int), (↑(i + 1) : Int) < (n:Int), i + 1 < n, PV.at 0 [Stp.idx (0 + i) 1] = PV.at 0 [Stp.idx i 1], 0 ≤ (i:Int), (i:Int) < (n:Int), i < n, I6 (IntKind.wrap .i64 ((↑(i + 1) : Int) - (a:Int))) = I6 ((i:Int) + 1 - (a:Int)), decide ((i:Int) + 1 - (a:Int) ≥ 2) = true, I6 (IntKind.wrap .i64 ((↑(i + 1) : Int) - 1)) = I6 i] (ac (dT (by omega)) (ac (by (rw [show Int.toNat (↑(i + 1) : Int) = i + 1 by omega]; simp only [Nat.zero_add])) (ob3 (by omega) (ac (cg (Ab (by omega) (by omega) (by omega))) (ac (by simp only [Nat.zero_add]) (ob3 (by omega) (ac (AU _ _ (by first | omega | decide)) (ac (dF (by omega)) (ac (wj (by omega)) (ac (dF (by omega)) (ac (cg (Ab (by omega) (by omega) (by omega))) (ac (cg (Ab (by omega) (by omega) (by omega))) (ac (by simp only [Nat.zero_add]) (ob3 (by omega) (ac (by (rw [show Int.toNat (↑(i + 1) : Int) = i + 1 by omega]; simp only [Nat.zero_add])) (ob3 (by omega) (ac (by (rw [show Int.toNat (↑(i + 1) : Int) = i + 1 by omega]; simp only [Nat.zero_add])) (ob3 (by omega) (ac (by simp only [Nat.zero_add]) (ob3 (by omega) (ac (wj (by omega)) (ac (dT (by omega)) (ao (cg (Ab (by omega) (by omega) (by omega)))))))))))))))))))))))))) ?_
 exact hw
theorem W_i1U {n a b i s : Nat} {l : Liz} {hout : Lrz} {res : PV} (hn : n < 1000000) (hb : b ≤ n) (hs : s < 5) (h1 : i + 1 < b) (h2 : l.getD (i + 1) 0 < l.getD i 0) (h3 : a + 50 ≤ b) (h4 : ¬ a + 2 ≤ i + 1) (h6 : a ≤ i) (h5 : i + 1 + 2 ≤ b) (hw : Wt Try.f94 [0] hout res (Aa Try.f94 3) (q5u n a b (i + 1) s (i + 2) (swL l (i + 1) i))) : Wt Try.f94 [0] hout res (Aa Try.f94 1) (q5 n a b (i + 1) s l) := by
 refine W.sgA 3 [(2, aT), (6, aV (PV.at 0 [Stp.idx (i + 1) 1])), (10, aV (I6 i)), (11, aV (PV.at 0 [Stp.idx i 1])), (13, aK (PV.bool true)), (18, aF), (21, aV (I6 ((b:Int) - (a:Int)))), (22, aF), (27, aV (I6 i)), (30, aV (I6 i)), (31, aV (PV.at 0 [Stp.idx i 1])), (35, aV (PV.at 0 [Stp.idx (i + 1) 1])), (37, aV (PV.at 0 [Stp.idx (i + 1) 1])), (39, aV (PV.at 0 [Stp.idx i 1])), (43, aV (I6 ((i:Int) + 1 - (a:Int)))), (44, aF), (47, aV (I6 ((b:Int) - (i:Int) - 1))), (48, aT), (50, aV (I6 ↑(i + 2)))] [(0, 0)] (q5u n a b (i + 1) s (i + 2) (swL l (i + 1) i)) [decide ((↑(i + 1) : Int) < (b:Int)) = true, PV.at 0 [Stp.idx (0 + Int.toNat (↑(i + 1) : Int)) 1] = PV.at 0 [Stp.idx (i + 1) 1], 0 ≤ (↑(i + 1) : Int), (↑(i + 1) : Int) < (n:Int), i + 1 < n, I6 (IntKind.wrap .i64 ((↑(i + 1) : Int) - 1)) = I6 i, PV.at 0 [Stp.idx (0 + i) 1] = PV.at 0 [Stp.idx i 1], 0 ≤ (i:Int), (i:Int) < (n:Int), i < n, Pt 71 [] [U6 (List.getD l (i + 1) (0 : Int)), U6 (List.getD l i (0 : Int))] [] (PV.bool true), ((↑(i + 1) : Int) == (b:Int)) = false, I6 (IntKind.wrap .i64 ((b:Int) - (a:Int))) = I6 ((b:Int) - (a:Int)), decide ((b:Int) - (a:Int) < 50) = false, I6 (IntKind.wrap .i64 ((↑(i + 1) : Int) - 1)) = I6 i, I6 (IntKind.wrap .i64 ((↑(i + 1) : Int) - 1)) = I6 i, PV.at 0 [Stp.idx (0 + i) 1] = PV.at 0 [Stp.idx i 1], 0 ≤ (i:Int), (i:Int) < (n:Int), i < n, PV.at 0 [Stp.idx (0 + Int.toNat (↑(i + 1) : Int)) 1] = PV.at 0 [Stp.idx (i + 1) 1], 0 ≤ (↑(i + 1) : Int), (↑(i + 1) : Int) < (n:Int), i + 1 < n, PV.at 0 [Stp.idx (0 + Int.toNat (↑(i + 1) : Int)) 1] = PV.at 0 [Stp.idx (i + 1) 1], 0 ≤ (↑(i + 1) : Int), (↑(i + 1) : Int) < (n:Int), i + 1 < n, PV.at 0 [Stp.idx (0 + i) 1] = PV.at 0 [Stp.idx i 1], 0 ≤ (i:Int), (i:Int) < (n:Int), i < n, I6 (IntKind.wrap .i64 ((↑(i + 1) : Int) - (a:Int))) = I6 ((i:Int) + 1 - (a:Int)), decide ((i:Int) + 1 - (a:Int) ≥ 2) = false, I6 (IntKind.wrap .i64 ((b:Int) - (↑(i + 1) : Int))) = I6 ((b:Int) - (i:Int) - 1), decide ((b:Int) - (i:Int) - 1 ≥ (2 : Int)) = true, I6 (IntKind.wrap .i64 ((↑(i + 1) : Int) + 1)) = I6 ↑(i + 2)] (ac (dT (by omega)) (ac (by (rw [show Int.toNat (↑(i + 1) : Int) = i + 1 by omega]; simp only [Nat.zero_add])) (ob3 (by omega) (ac (cg (Ab (by omega) (by omega) (by omega))) (ac (by simp only [Nat.zero_add]) (ob3 (by omega) (ac (AU _ _ (by first | omega | decide)) (ac (dF (by omega)) (ac (wj (by omega)) (ac (dF (by omega)) (ac (cg (Ab (by omega) (by omega) (by omega))) (ac (cg (Ab (by omega) (by omega) (by omega))) (ac (by simp only [Nat.zero_add]) (ob3 (by omega) (ac (by (rw [show Int.toNat (↑(i + 1) : Int) = i + 1 by omega]; simp only [Nat.zero_add])) (ob3 (by omega) (ac (by (rw [show Int.toNat (↑(i + 1) : Int) = i + 1 by omega]; simp only [Nat.zero_add])) (ob3 (by omega) (ac (by simp only [Nat.zero_add]) (ob3 (by omega) (ac (wj (by omega)) (ac (dF (by omega)) (ac (cg (Ab (by omega) (by omega) (by omega))) (ac (dT (by omega)) (ao (wj (by omega))))))))))))))))))))))))))) ?_
 exact hw
theorem W_i2S {n a b i s k : Nat} {l : Liz} {hout : Lrz} {res : PV} (hn : n < 1000000) (hb : b ≤ n) (hs : s < 5) (hi : i < b) (h1 : k + 1 < n) (h2 : l.getD (k + 1) 0 < l.getD k 0) (hw : Wt Try.f94 [0] hout res (Aa Try.f94 2) (q5d n a b i s k (swL l (k + 1) k))) : Wt Try.f94 [0] hout res (Aa Try.f94 2) (q5d n a b i s (k + 1) l) := by
 refine W.sgA 2 [(1, aT), (4, aV (PV.at 0 [Stp.idx (k + 1) 1])), (8, aV (I6 k)), (9, aV (PV.at 0 [Stp.idx k 1])), (11, aK (PV.bool true)), (17, aV (I6 k)), (20, aV (I6 k)), (21, aV (PV.at 0 [Stp.idx k 1])), (25, aV (PV.at 0 [Stp.idx (k + 1) 1])), (27, aV (PV.at 0 [Stp.idx (k + 1) 1])), (29, aV (PV.at 0 [Stp.idx k 1])), (32, aV (I6 k))] [(0, 0)] (q5d n a b i s k (swL l (k + 1) k)) [decide ((↑(k + 1) : Int) ≥ 1) = true, PV.at 0 [Stp.idx (0 + Int.toNat (↑(k + 1) : Int)) 1] = PV.at 0 [Stp.idx (k + 1) 1], 0 ≤ (↑(k + 1) : Int), (↑(k + 1) : Int) < (n:Int), k + 1 < n, I6 (IntKind.wrap .i64 ((↑(k + 1) : Int) - 1)) = I6 k, PV.at 0 [Stp.idx (0 + k) 1] = PV.at 0 [Stp.idx k 1], 0 ≤ (k:Int), (k:Int) < (n:Int), k < n, Pt 71 [] [U6 (List.getD l (k + 1) (0 : Int)), U6 (List.getD l k (0 : Int))] [] (PV.bool true), I6 (IntKind.wrap .i64 ((↑(k + 1) : Int) - 1)) = I6 k, I6 (IntKind.wrap .i64 ((↑(k + 1) : Int) - 1)) = I6 k, PV.at 0 [Stp.idx (0 + k) 1] = PV.at 0 [Stp.idx k 1], 0 ≤ (k:Int), (k:Int) < (n:Int), k < n, PV.at 0 [Stp.idx (0 + Int.toNat (↑(k + 1) : Int)) 1] = PV.at 0 [Stp.idx (k + 1) 1], 0 ≤ (↑(k + 1) : Int), (↑(k + 1) : Int) < (n:Int), k + 1 < n, PV.at 0 [Stp.idx (0 + Int.toNat (↑(k + 1) : Int)) 1] = PV.at 0 [Stp.idx (k + 1) 1], 0 ≤ (↑(k + 1) : Int), (↑(k + 1) : Int) < (n:Int), k + 1 < n, PV.at 0 [Stp.idx (0 + k) 1] = PV.at 0 [Stp.idx k 1], 0 ≤ (k:Int), (k:Int) < (n:Int), k < n, I6 (IntKind.wrap .i64 ((↑(k + 1) : Int) - 1)) = I6 k] (ac (dT (by omega)) (ac (by (rw [show Int.toNat (↑(k + 1) : Int) = k + 1 by omega]; simp only [Nat.zero_add])) (ob3 (by omega) (ac (cg (Ab (by omega) (by omega) (by omega))) (ac (by simp only [Nat.zero_add]) (ob3 (by omega) (ac (AU _ _ (by first | omega | decide)) (ac (cg (Ab (by omega) (by omega) (by omega))) (ac (cg (Ab (by omega) (by omega) (by omega))) (ac (by simp only [Nat.zero_add]) (ob3 (by omega) (ac (by (rw [show Int.toNat (↑(k + 1) : Int) = k + 1 by omega]; simp only [Nat.zero_add])) (ob3 (by omega) (ac (by (rw [show Int.toNat (↑(k + 1) : Int) = k + 1 by omega]; simp only [Nat.zero_add])) (ob3 (by omega) (ac (by simp only [Nat.zero_add]) (ob3 (by omega) (ao (cg (Ab (by omega) (by omega) (by omega))))))))))))))))))))) ?_
 exact hw
theorem W_i2U {n a b i s k : Nat} {l : Liz} {hout : Lrz} {res : PV} (hn : n < 1000000) (hb : b ≤ n) (hs : s < 5) (hi : i < b) (h1 : k < n) (h2 : k = 0 ∨ ∃ j, k = j + 1 ∧ ¬ l.getD (j + 1) 0 < l.getD j 0) (h5 : i + 2 ≤ b) (hw : Wt Try.f94 [0] hout res (Aa Try.f94 3) (q5u n a b i s (i + 1) l)) : Wt Try.f94 [0] hout res (Aa Try.f94 2) (q5d n a b i s k l) := by
 rcases h2 with rfl | ⟨j, rfl, h2⟩
 ·refine W.sg 3 [(0, aV (I6 0)), (4, aV (I6 ((b:Int) - (i:Int)))), (5, aT), (7, aV (I6 (↑(i + 1) : Int)))] [(0, 0)] (q5u n a b i s (i + 1) l) [I6 (↑(0 : Nat) : Int) = I6 0, I6 (IntKind.wrap .i64 ((b:Int) - (i:Int))) = I6 ((b:Int) - (i:Int)), decide ((b:Int) - (i:Int) ≥ 2) = true, I6 (IntKind.wrap .i64 ((i:Int) + 1)) = I6 (↑(i + 1) : Int)] (by kernel_rfl) (ac (cg (by omega)) (ac (cg (Ab rfl (by omega) (by omega))) (ac (dT (by omega)) (ao (cg (Ab rfl (by omega) (by omega))))))) ?_
  exact hw
 ·refine W.sg 3 [(1, aT), (4, aV (PV.at 0 [Stp.idx (j + 1) 1])), (8, aV (I6 (j:Int))), (9, aV (PV.at 0 [Stp.idx j 1])), (11, aK (PV.bool false)), (15, aV (I6 ((b:Int) - (i:Int)))), (16, aT), (18, aV (I6 (↑(i + 1) : Int)))] [(0, 0)] (q5u n a b i s (i + 1) l) [decide ((↑(j + 1) : Int) ≥ 1) = true, PV.at 0 [Stp.idx (0 + Int.toNat (↑(j + 1) : Int)) 1] = PV.at 0 [Stp.idx (j + 1) 1], 0 ≤ (↑(j + 1) : Int), (↑(j + 1) : Int) < (n:Int), j + 1 < n, I6 (IntKind.wrap .i64 ((↑(j + 1) : Int) - 1)) = I6 (j:Int), PV.at 0 [Stp.idx (0 + j) 1] = PV.at 0 [Stp.idx j 1], 0 ≤ (j:Int), (j:Int) < (n:Int), j < n, Pt 71 [] [U6 (List.getD l (j + 1) (0 : Int)), U6 (List.getD l j (0 : Int))] [] (PV.bool false), I6 (IntKind.wrap .i64 ((b:Int) - (i:Int))) = I6 ((b:Int) - (i:Int)), decide ((b:Int) - (i:Int) ≥ 2) = true, I6 (IntKind.wrap .i64 ((i:Int) + 1)) = I6 (↑(i + 1) : Int)] (by kernel_rfl) (ac (dT (by omega)) (ac (by (rw [show Int.toNat (↑(j + 1) : Int) = j + 1 by omega]; simp only [Nat.zero_add])) (ac (by omega) (ac (by omega) (ac (by omega) (ac (cg (Ab (by omega) (by omega) (by omega))) (ac (by simp only [Nat.zero_add]) (ac (by omega) (ac (by omega) (ac (by omega) (ac (Bn _ _ (by first | omega | decide)) (ac (cg (Ab rfl (by omega) (by omega))) (ac (dT (by omega)) (ao (cg (Ab rfl (by omega) (by omega))))))))))))))))) ?_
  exact hw
theorem W_i2N {n a b i s k : Nat} {l : Liz} {hout : Lrz} {res : PV} (hn : n < 1000000) (hb : b ≤ n) (hs : s < 5) (hi : i < b) (h1 : k < n) (h2 : k = 0 ∨ ∃ j, k = j + 1 ∧ ¬ l.getD (j + 1) 0 < l.getD j 0) (h5 : ¬ i + 2 ≤ b) (hw : Wt Try.f94 [0] hout res (Aa Try.f94 0) (q5 n a b i (s + 1) l)) : Wt Try.f94 [0] hout res (Aa Try.f94 2) (q5d n a b i s k l) := by
 rcases h2 with rfl | ⟨j, rfl, h2⟩
 ·refine W.sg 0 [(0, aV (I6 0)), (4, aV (I6 ((b:Int) - (i:Int)))), (5, aF), (7, aV (I6 (↑(s + 1) : Int)))] [(0, 0)] (q5 n a b i (s + 1) l) [I6 (↑(0 : Nat) : Int) = I6 0, I6 (IntKind.wrap .i64 ((b:Int) - (i:Int))) = I6 ((b:Int) - (i:Int)), decide ((b:Int) - (i:Int) ≥ 2) = false, I6 (IntKind.wrap .i64 ((s:Int) + 1)) = I6 (↑(s + 1) : Int)] (by kernel_rfl) (ac (cg (by omega)) (ac (cg (Ab rfl (by omega) (by omega))) (ac (dF (by omega)) (ao (cg (Ab rfl (by omega) (by omega))))))) ?_
  exact hw
 ·refine W.sg 0 [(1, aT), (4, aV (PV.at 0 [Stp.idx (j + 1) 1])), (8, aV (I6 (j:Int))), (9, aV (PV.at 0 [Stp.idx j 1])), (11, aK (PV.bool false)), (15, aV (I6 ((b:Int) - (i:Int)))), (16, aF), (18, aV (I6 (↑(s + 1) : Int)))] [(0, 0)] (q5 n a b i (s + 1) l) [decide ((↑(j + 1) : Int) ≥ 1) = true, PV.at 0 [Stp.idx (0 + Int.toNat (↑(j + 1) : Int)) 1] = PV.at 0 [Stp.idx (j + 1) 1], 0 ≤ (↑(j + 1) : Int), (↑(j + 1) : Int) < (n:Int), j + 1 < n, I6 (IntKind.wrap .i64 ((↑(j + 1) : Int) - 1)) = I6 (j:Int), PV.at 0 [Stp.idx (0 + j) 1] = PV.at 0 [Stp.idx j 1], 0 ≤ (j:Int), (j:Int) < (n:Int), j < n, Pt 71 [] [U6 (List.getD l (j + 1) (0 : Int)), U6 (List.getD l j (0 : Int))] [] (PV.bool false), I6 (IntKind.wrap .i64 ((b:Int) - (i:Int))) = I6 ((b:Int) - (i:Int)), decide ((b:Int) - (i:Int) ≥ 2) = false, I6 (IntKind.wrap .i64 ((s:Int) + 1)) = I6 (↑(s + 1) : Int)] (by kernel_rfl) (ac (dT (by omega)) (ac (by (rw [show Int.toNat (↑(j + 1) : Int) = j + 1 by omega]; simp only [Nat.zero_add])) (ac (by omega) (ac (by omega) (ac (by omega) (ac (cg (Ab (by omega) (by omega) (by omega))) (ac (by simp only [Nat.zero_add]) (ac (by omega) (ac (by omega) (ac (by omega) (ac (Bn _ _ (by first | omega | decide)) (ac (cg (Ab rfl (by omega) (by omega))) (ac (dF (by omega)) (ao (cg (Ab rfl (by omega) (by omega))))))))))))))))) ?_
  exact hw
theorem W_i3S {n a b i s k : Nat} {l : Liz} {hout : Lrz} {res : PV} (hn : n < 1000000) (hb : b ≤ n) (hs : s < 5) (hi : i < b) (h1 : k + 1 < b) (h2 : l.getD (k + 1) 0 < l.getD k 0) (hw : Wt Try.f94 [0] hout res (Aa Try.f94 3) (q5u n a b i s (k + 2) (swL l (k + 1) k))) : Wt Try.f94 [0] hout res (Aa Try.f94 3) (q5u n a b i s (k + 1) l) := by
 refine W.sgA 3 [(2, aT), (5, aV (PV.at 0 [Stp.idx (k + 1) 1])), (9, aV (I6 k)), (10, aV (PV.at 0 [Stp.idx k 1])), (12, aK (PV.bool true)), (18, aV (I6 k)), (21, aV (I6 k)), (22, aV (PV.at 0 [Stp.idx k 1])), (26, aV (PV.at 0 [Stp.idx (k + 1) 1])), (28, aV (PV.at 0 [Stp.idx (k + 1) 1])), (30, aV (PV.at 0 [Stp.idx k 1])), (33, aV (I6 ↑(k + 2)))] [(0, 0)] (q5u n a b i s (k + 2) (swL l (k + 1) k)) [decide ((↑(k + 1) : Int) < (b:Int)) = true, PV.at 0 [Stp.idx (0 + Int.toNat (↑(k + 1) : Int)) 1] = PV.at 0 [Stp.idx (k + 1) 1], 0 ≤ (↑(k + 1) : Int), (↑(k + 1) : Int) < (n:Int), k + 1 < n, I6 (IntKind.wrap .i64 ((↑(k + 1) : Int) - 1)) = I6 k, PV.at 0 [Stp.idx (0 + k) 1] = PV.at 0 [Stp.idx k 1], 0 ≤ (k:Int), (k:Int) < (n:Int), k < n, Pt 71 [] [U6 (List.getD l (k + 1) (0 : Int)), U6 (List.getD l k (0 : Int))] [] (PV.bool true), I6 (IntKind.wrap .i64 ((↑(k + 1) : Int) - 1)) = I6 k, I6 (IntKind.wrap .i64 ((↑(k + 1) : Int) - 1)) = I6 k, PV.at 0 [Stp.idx (0 + k) 1] = PV.at 0 [Stp.idx k 1], 0 ≤ (k:Int), (k:Int) < (n:Int), k < n, PV.at 0 [Stp.idx (0 + Int.toNat (↑(k + 1) : Int)) 1] = PV.at 0 [Stp.idx (k + 1) 1], 0 ≤ (↑(k + 1) : Int), (↑(k + 1) : Int) < (n:Int), k + 1 < n, PV.at 0 [Stp.idx (0 + Int.toNat (↑(k + 1) : Int)) 1] = PV.at 0 [Stp.idx (k + 1) 1], 0 ≤ (↑(k + 1) : Int), (↑(k + 1) : Int) < (n:Int), k + 1 < n, PV.at 0 [Stp.idx (0 + k) 1] = PV.at 0 [Stp.idx k 1], 0 ≤ (k:Int), (k:Int) < (n:Int), k < n, I6 (IntKind.wrap .i64 ((↑(k + 1) : Int) + 1)) = I6 ↑(k + 2)] (ac (dT (by omega)) (ac (by (rw [show Int.toNat (↑(k + 1) : Int) = k + 1 by omega]; simp only [Nat.zero_add])) (ob3 (by omega) (ac (cg (Ab (by omega) (by omega) (by omega))) (ac (by simp only [Nat.zero_add]) (ob3 (by omega) (ac (AU _ _ (by first | omega | decide)) (ac (cg (Ab (by omega) (by omega) (by omega))) (ac (cg (Ab (by omega) (by omega) (by omega))) (ac (by simp only [Nat.zero_add]) (ob3 (by omega) (ac (by (rw [show Int.toNat (↑(k + 1) : Int) = k + 1 by omega]; simp only [Nat.zero_add])) (ob3 (by omega) (ac (by (rw [show Int.toNat (↑(k + 1) : Int) = k + 1 by omega]; simp only [Nat.zero_add])) (ob3 (by omega) (ac (by simp only [Nat.zero_add]) (ob3 (by omega) (ao (wj (by omega)))))))))))))))))))) ?_
 exact hw
theorem W_i3E {n a b i s k : Nat} {l : Liz} {hout : Lrz} {res : PV} (hn : n < 1000000) (hb : b ≤ n) (hs : s < 5) (hi : i < b) (h2 : ¬ (k + 1 < b ∧ l.getD (k + 1) 0 < l.getD k 0)) (hw : Wt Try.f94 [0] hout res (Aa Try.f94 0) (q5 n a b i (s + 1) l)) : Wt Try.f94 [0] hout res (Aa Try.f94 3) (q5u n a b i s (k + 1) l) := by
 by_cases g : k + 1 < b
 ·have g2 : ¬ l.getD (k + 1) 0 < l.getD k 0 := fun x => h2 ⟨g, x⟩
  refine W.sgA 0 [(2, aT), (5, aV (PV.at 0 [Stp.idx (k + 1) 1])), (9, aV (I6 k)), (10, aV (PV.at 0 [Stp.idx k 1])), (12, aK (PV.bool false)), (15, aV (I6 ↑(s + 1)))] [(0, 0)] (q5 n a b i (s + 1) l) [decide ((↑(k + 1) : Int) < (b:Int)) = true, PV.at 0 [Stp.idx (0 + Int.toNat (↑(k + 1) : Int)) 1] = PV.at 0 [Stp.idx (k + 1) 1], 0 ≤ (↑(k + 1) : Int), (↑(k + 1) : Int) < (n:Int), k + 1 < n, I6 (IntKind.wrap .i64 ((↑(k + 1) : Int) - 1)) = I6 k, PV.at 0 [Stp.idx (0 + k) 1] = PV.at 0 [Stp.idx k 1], 0 ≤ (k:Int), (k:Int) < (n:Int), k < n, Pt 71 [] [U6 (List.getD l (k + 1) (0 : Int)), U6 (List.getD l k (0 : Int))] [] (PV.bool false), I6 (IntKind.wrap .i64 ((s:Int) + 1)) = I6 ↑(s + 1)] (ac (dT (by omega)) (ac (by (rw [show Int.toNat (↑(k + 1) : Int) = k + 1 by omega]; simp only [Nat.zero_add])) (ob3 (by omega) (ac (cg (Ab (by omega) (by omega) (by omega))) (ac (by simp only [Nat.zero_add]) (ob3 (by omega) (ac (Bn _ _ (by first | omega | decide)) (ao (wj (by omega)))))))))) ?_
  exact hw
 ·refine W.sg 0 [(2, aF), (4, aV (I6 (↑(s + 1) : Int)))] [(0, 0)] (q5 n a b i (s + 1) l) [decide ((↑(k + 1) : Int) < (b:Int)) = false, I6 (IntKind.wrap .i64 ((s:Int) + 1)) = I6 (↑(s + 1) : Int)] (by kernel_rfl) (ac (dF (by omega)) (ao (cg (Ab rfl (by omega) (by omega))))) ?_
  exact hw
theorem W_i3 {n a b i s : Nat} {hout : Lrz} {res : PV} (hn : n < 1000000) (hb : b ≤ n) (hs : s < 5) (hi : i < b) : ∀ (m k : Nat) (l : List Int), b ≤ k + 1 + m → Wt Try.f94 [0] hout res (Aa Try.f94 0) (q5 n a b i (s + 1) (suL b (k + 1) l)) → Wt Try.f94 [0] hout res (Aa Try.f94 3) (q5u n a b i s (k + 1) l)
 | 0, k, l, hm, hw => by
  rw [Qh, if_neg (by omega)] at hw
  exact W_i3E hn hb hs hi (by omega) hw
 | m + 1, k, l, hm, hw => by
  rw [Qh] at hw
  by_cases h1 : k + 1 < b
  ·rw [if_pos h1] at hw
   by_cases h2 : l.getD (k + 1) 0 < l.getD k 0
   ·rw [if_neg (by simpa using h2)] at hw
    exact W_i3S hn hb hs hi h1 h2 (W_i3 hn hb hs hi m (k + 1) _ (by omega) hw)
   ·rw [if_pos (by simpa using h2)] at hw
    exact W_i3E hn hb hs hi (fun x => h2 x.2) hw
  ·rw [if_neg h1] at hw
   exact W_i3E hn hb hs hi (fun x => h1 x.1) hw
theorem W_i2 {n a b i s : Nat} {hout : Lrz} {res : PV} (hn : n < 1000000) (hb : b ≤ n) (hs : s < 5) (hi : i < b) : ∀ (k : Nat) (l : List Int), k < n → Wt Try.f94 [0] hout res (Aa Try.f94 0) (q5 n a b i (s + 1) (if 2 ≤ b - i then suL b (i + 1) (sdL k l) else sdL k l)) → Wt Try.f94 [0] hout res (Aa Try.f94 2) (q5d n a b i s k l)
 | 0, l, hk, hw => by
  rw [QY] at hw
  by_cases h5 : 2 ≤ b - i
  ·rw [if_pos h5] at hw
   exact W_i2U hn hb hs hi hk (.inl rfl) (by omega) (W_i3 hn hb hs hi b i l (by omega) hw)
  ·rw [if_neg h5] at hw
   exact W_i2N hn hb hs hi hk (.inl rfl) (by omega) hw
 | k + 1, l, hk, hw => by
  by_cases h2 : l.getD (k + 1) 0 < l.getD k 0
  ·rw [Mg, if_neg (not_not_intro h2)] at hw
   exact W_i2S hn hb hs hi hk h2 (W_i2 hn hb hs hi k _ (by omega) hw)
  ·rw [Mg, if_pos h2] at hw
   by_cases h5 : 2 ≤ b - i
   ·rw [if_pos h5] at hw
    exact W_i2U hn hb hs hi hk (.inr ⟨k, rfl, h2⟩) (by omega) (W_i3 hn hb hs hi b i l (by omega) hw)
   ·rw [if_neg h5] at hw
    exact W_i2N hn hb hs hi hk (.inr ⟨k, rfl, h2⟩) (by omega) hw
theorem W_i1 {n a b s : Nat} {l : Liz} {hout : Lrz} {res : PV} (hn : n < 1000000) (hb : b ≤ n) (hs : s < 5) : ∀ (m i : Nat), b ≤ i + 1 + m → Wt Try.f94 [0] hout res (Aa Try.f94 1) (q5 n a b (ssL l b (i + 1)) s l) → Wt Try.f94 [0] hout res (Aa Try.f94 1) (q5 n a b (i + 1) s l)
 | 0, i, hm, hw => by
  rw [Ih, if_neg (by omega)] at hw
  exact hw
 | m + 1, i, hm, hw => by
  rw [Ih] at hw
  by_cases h : i + 1 < b ∧ ¬ l.getD (i + 1) 0 < l.getD i 0
  ·rw [if_pos (by simpa using h)] at hw
   exact W_i1S hn hb hs h.1 h.2 (W_i1 hn hb hs m (i + 1) (by omega) hw)
  ·rw [if_neg (by simpa using h)] at hw
   exact hw
theorem MW (l : List Int) (b i : Nat) (h : i ≤ b) (h1 : ssL l b i ≠ b) : l.getD (ssL l b i) 0 < l.getD (ssL l b i - 1) 0 := by
 by_cases g : i < b ∧ ¬ l.getD i 0 < l.getD (i - 1) 0
 ·have e : ssL l b i = ssL l b (i + 1) := by rw [Ih, if_pos g]
  rw [e] at h1 ⊢
  exact MW l b (i + 1) (by omega) h1
 ·have e : ssL l b i = i := by rw [Ih, if_neg g]
  rw [e] at h1 ⊢
  exact Classical.byContradiction fun x => g ⟨by omega, x⟩
termination_by b - i
theorem W_pi {n a b : Nat} (hn : n < 1000000) (hb : b ≤ n) (hab : a < b) : ∀ (c s i : Nat) (l : List Int), s + c = 5 → a ≤ i → i + 1 ≤ b →
  Wt Try.f94 [0] [(0, Ac n (piL a b c (i + 1) l).1)] (.bool (piL a b c (i + 1) l).2) (Aa Try.f94 0) (q5 n a b (i + 1) s l)
 | 0, s, i, l, hc, h1, h2 => by
  obtain rfl : s = 5 := by omega
  exact W_i0E
 | c + 1, s, i, l, hc, h1, h2 => by
  have hs : s < 5 := by omega
  rw [Qx]
  have hge := QM l b (i + 1)
  have hle := Qz l b (i + 1) h2
  have hst := MW l b (i + 1) h2
  refine W_i0 hn hb hs (W_i1 hn hb hs b i (by omega) ?_)
  obtain ⟨j, hj⟩ : ∃ j, ssL l b (i + 1) = j + 1 := ⟨ssL l b (i + 1) - 1, by omega⟩
  rw [hj] at hge hle hst ⊢
  rw [Nat.add_sub_cancel] at hst ⊢
  by_cases g1 : j + 1 = b
  ·rw [if_pos g1]
   subst g1
   exact W_i1T hn hb
  ·rw [if_neg g1]
   have hl := hst g1
   by_cases g2 : b - a < 50
   ·rw [if_pos g2]
    exact W_i1F hn hb (by omega) hl (by omega) (by omega)
   ·rw [if_neg g2]
    by_cases g3 : 2 ≤ j + 1 - a
    ·rw [if_pos g3]
     refine W_i1D hn hb hs (by omega) hl (by omega) (by omega) (W_i2 hn hb hs (by omega) j _ (by omega) ?_)
     exact W_pi hn hb hab c (s + 1) j _ (by omega) (by omega) (by omega)
    ·rw [if_neg g3]
     have g4 : 2 ≤ b - (j + 1) := by omega
     rw [if_pos g4]
     refine W_i1U hn hb hs (by omega) hl (by omega) (by omega) (by omega) (by omega) (W_i3 hn hb hs (by omega) b (j + 1) _ (by omega) ?_)
     exact W_pi hn hb hab c (s + 1) j _ (by omega) (by omega) (by omega)
theorem pc_pi {n a b : Nat} (hn : n < 1000000) (hb : b ≤ n) (hab : a < b) (l : List Int) : Pt 94 [(0, Ac n l)] [.ref 0 [] 1 0 n, .int .i64 a, .int .i64 b] [(0, Ac n (piL a b 5 (a + 1) l).1)] (.bool (piL a b 5 (a + 1) l).2) := by
 refine pO Try.func94 (by kernel_rfl) ?_
 have hw := W_pi hn hb hab 5 0 a l (by omega) (by omega) (by omega)
 generalize piL a b 5 (a + 1) l = r at *
 refine W.sgA 0 [(2, aV (I6 ↑(a + 1)))] [(0, 0)] (q5 n a b (a + 1) 0 l) [I6 (IntKind.wrap .i64 ((a:Int) + 1)) = I6 ↑(a + 1)] (ao (wj (by omega))) ?_
 exact hw
end Go.Proofs
