/- Merged texts: the pure machine and what the walks show. Conditions: as each statement says. -/
import Derived.Test.YtfecpjikhlangaaGreatDoorQ2
namespace Go.Pm
/-- the words of a number, the lowest first -/
def uw (v : Nat) : List Int := [((v % 18446744073709551616 : Nat) : Int), ((v / 18446744073709551616 % 18446744073709551616 : Nat) : Int), ((v / 18446744073709551616 / 18446744073709551616 % 18446744073709551616 : Nat) : Int), ((v / 18446744073709551616 / 18446744073709551616 / 18446744073709551616 % 18446744073709551616 : Nat) : Int)]
/-- 2^256 -/
def W256 : Nat := 115792089237316195423570985008687907853269984665640564039457584007913129639936
/-- the number of four words -/
def wu (a b c d : Nat) : Nat := a + 18446744073709551616 * (b + 18446744073709551616 * (c + 18446744073709551616 * d))
theorem uw_wu {a b c d : Nat} (ha : a < 18446744073709551616) (hb : b < 18446744073709551616) (hc : c < 18446744073709551616) (hd : d < 18446744073709551616) : uw (wu a b c d) = [(a : Int), (b : Int), (c : Int), (d : Int)] := by
  have e1 : wu a b c d % 18446744073709551616 = a := by unfold wu; omega
  have e2 : wu a b c d / 18446744073709551616 = b + 18446744073709551616 * (c + 18446744073709551616 * d) := by unfold wu; omega
  have e3 : (b + 18446744073709551616 * (c + 18446744073709551616 * d)) / 18446744073709551616 = c + 18446744073709551616 * d := by omega
  have e4 : (c + 18446744073709551616 * d) / 18446744073709551616 = d := by omega
  unfold uw
  rw [e1, e2, e3, e4]
  congr 2
  · omega
  · congr 1
    · omega
    · congr 1
      omega
theorem wu_lt {a b c d : Nat} (ha : a < 18446744073709551616) (hb : b < 18446744073709551616) (hc : c < 18446744073709551616) (hd : d < 18446744073709551616) : wu a b c d < W256 := by unfold wu W256; omega
theorem wu_uw (v : Nat) (h : v < W256) : wu (v % 18446744073709551616) (v / 18446744073709551616 % 18446744073709551616) (v / 18446744073709551616 / 18446744073709551616 % 18446744073709551616) (v / 18446744073709551616 / 18446744073709551616 / 18446744073709551616 % 18446744073709551616) = v := by
  unfold wu W256 at *; omega
theorem uw_eq {v a b c d : Nat} (hv : v = wu a b c d) (ha : a < 18446744073709551616) (hb : b < 18446744073709551616) (hc : c < 18446744073709551616) (hd : d < 18446744073709551616) : [(a : Int), (b : Int), (c : Int), (d : Int)] = uw v := by
  subst hv; exact (uw_wu ha hb hc hd).symm
theorem uw_inj {v w : Nat} (hv : v < W256) (hw : w < W256) (h : uw v = uw w) : v = w := by
  simp only [uw, List.cons.injEq, Int.natCast_inj, and_true] at h
  rw [← wu_uw v hv, ← wu_uw w hw, h.1, h.2.1, h.2.2.1, h.2.2.2]
theorem uw_of {l : List Int} (h : l.length = 4) (hw : ∀ x ∈ l, 0 ≤ x ∧ x ≤ 18446744073709551615) : ∃ v, v < W256 ∧ l = uw v := by
  match l, h with
  | [a, b, c, d], _ =>
    have ha := hw a (by simp)
    have hb := hw b (by simp)
    have hc := hw c (by simp)
    have hd := hw d (by simp)
    refine ⟨wu a.toNat b.toNat c.toNat d.toNat, wu_lt (by omega) (by omega) (by omega) (by omega), ?_⟩
    rw [uw_wu (by omega) (by omega) (by omega) (by omega)]
    rw [Int.toNat_of_nonneg ha.1, Int.toNat_of_nonneg hb.1, Int.toNat_of_nonneg hc.1, Int.toNat_of_nonneg hd.1]
theorem words_of {v : Nat} (h : v < W256) : ∃ a b c d, a < 18446744073709551616 ∧ b < 18446744073709551616 ∧ c < 18446744073709551616 ∧ d < 18446744073709551616 ∧ v = wu a b c d ∧ uw v = [(a : Int), (b : Int), (c : Int), (d : Int)] := by
  refine ⟨v % 18446744073709551616, v / 18446744073709551616 % 18446744073709551616, v / 18446744073709551616 / 18446744073709551616 % 18446744073709551616, v / 18446744073709551616 / 18446744073709551616 / 18446744073709551616 % 18446744073709551616, by omega, by omega, by omega, by omega, (wu_uw v h).symm, rfl⟩
theorem add_words (a0 a1 a2 a3 b0 b1 b2 b3 : Nat) :
    wu a0 a1 a2 a3 + wu b0 b1 b2 b3 = wu ((a0 + b0) % 18446744073709551616) ((a1 + b1 + (a0 + b0) / 18446744073709551616) % 18446744073709551616)
      ((a2 + b2 + (a1 + b1 + (a0 + b0) / 18446744073709551616) / 18446744073709551616) % 18446744073709551616)
      ((a3 + b3 + (a2 + b2 + (a1 + b1 + (a0 + b0) / 18446744073709551616) / 18446744073709551616) / 18446744073709551616) % 18446744073709551616)
      + W256 * ((a3 + b3 + (a2 + b2 + (a1 + b1 + (a0 + b0) / 18446744073709551616) / 18446744073709551616) / 18446744073709551616) / 18446744073709551616) := by
  unfold wu W256
  generalize h0 : (a0 + b0) / 18446744073709551616 = c0
  have e0 : (a0 + b0) % 18446744073709551616 + 18446744073709551616 * c0 = a0 + b0 := by omega
  generalize (a0 + b0) % 18446744073709551616 = s0 at *
  generalize h1 : (a1 + b1 + c0) / 18446744073709551616 = c1
  have e1 : (a1 + b1 + c0) % 18446744073709551616 + 18446744073709551616 * c1 = a1 + b1 + c0 := by omega
  generalize (a1 + b1 + c0) % 18446744073709551616 = s1 at *
  generalize h2 : (a2 + b2 + c1) / 18446744073709551616 = c2
  have e2 : (a2 + b2 + c1) % 18446744073709551616 + 18446744073709551616 * c2 = a2 + b2 + c1 := by omega
  generalize (a2 + b2 + c1) % 18446744073709551616 = s2 at *
  generalize h3 : (a3 + b3 + c2) / 18446744073709551616 = c3
  have e3 : (a3 + b3 + c2) % 18446744073709551616 + 18446744073709551616 * c3 = a3 + b3 + c2 := by omega
  generalize (a3 + b3 + c2) % 18446744073709551616 = s3 at *
  clear h0 h1 h2 h3
  omega
/-- How many bits a number has. -/
def blen (v : Nat) : Nat := if v = 0 then 0 else Nat.log2 v + 1
theorem blen_le {v k : Nat} : blen v ≤ k ↔ v < 2 ^ k := by
  unfold blen
  split
  · subst_vars
    simp [Nat.two_pow_pos]
  · rename_i h
    rw [← Nat.log2_lt h]
    omega
theorem blen_eq {v k : Nat} (h1 : v < 2 ^ k) (h2 : k = 0 ∨ 2 ^ (k - 1) ≤ v) : blen v = k := by
  have h := blen_le.2 h1
  rcases h2 with h2 | h2
  · omega
  · have : ¬ blen v ≤ k - 1 := fun e => by have := blen_le.1 e; omega
    omega
theorem lt_blen (v : Nat) : v < 2 ^ blen v := blen_le.1 (Nat.le_refl _)
theorem blen_low {v : Nat} (h : 0 < v) : 2 ^ (blen v - 1) ≤ v := by
  apply Nat.le_of_not_lt
  intro h1
  have h2 := blen_le.2 h1
  have h3 : blen v = 0 := by omega
  have := lt_blen v
  rw [h3] at this
  omega
theorem blen_div {v k : Nat} (h : 2 ^ k ≤ v) : blen (v / 2 ^ k) + k = blen v := by
  have hp := Nat.two_pow_pos k
  have h0 : 0 < v / 2 ^ k := Nat.div_pos h hp
  have h1 := lt_blen (v / 2 ^ k)
  have h2 := blen_low h0
  symm
  refine blen_eq ?_ (.inr ?_)
  · rw [Nat.pow_add]
    exact (Nat.div_lt_iff_lt_mul hp).1 h1
  · have hb : 0 < blen (v / 2 ^ k) := by
      apply Nat.pos_of_ne_zero
      intro e
      rw [e] at h1
      omega
    rw [show blen (v / 2 ^ k) + k - 1 = (blen (v / 2 ^ k) - 1) + k by omega, Nat.pow_add]
    exact (Nat.le_div_iff_mul_le hp).1 h2
/-- What is borrowed. -/
def bor (a b c : Nat) : Nat := if a < b + c then 1 else 0
theorem bor_le (a b c : Nat) : bor a b c ≤ 1 := by unfold bor; split <;> omega
theorem sub_word {a b c : Nat} (ha : a < 18446744073709551616) (hb : b < 18446744073709551616) (hc : c ≤ 1) : (a + 18446744073709551616 - b - c) % 18446744073709551616 + b + c = a + 18446744073709551616 * bor a b c := by unfold bor; split <;> omega
theorem sub_words {a0 a1 a2 a3 b0 b1 b2 b3 c0 c1 c2 c3 s0 s1 s2 s3 : Nat} (e0 : s0 + b0 + 0 = a0 + 18446744073709551616 * c0) (e1 : s1 + b1 + c0 = a1 + 18446744073709551616 * c1) (e2 : s2 + b2 + c1 = a2 + 18446744073709551616 * c2) (e3 : s3 + b3 + c2 = a3 + 18446744073709551616 * c3) :
    wu s0 s1 s2 s3 + wu b0 b1 b2 b3 = wu a0 a1 a2 a3 + W256 * c3 := by
  unfold wu W256
  omega
end Go.Pm
namespace Go.Pm
/-- the n lowest digits -/
def dgn : Nat → Nat → List Int
  | 0, _ => []
  | n + 1, v => ((v % 65536 : Nat) : Int) :: dgn n (v / 65536)
theorem dgn_length : ∀ (n v : Nat), (dgn n v).length = n
  | 0, _ => rfl
  | n + 1, v => by simp [dgn, dgn_length n]
theorem div_pow_succ (v i : Nat) : v / 65536 / 65536 ^ i = v / 65536 ^ (i + 1) := by
  rw [Nat.div_div_eq_div_mul, Nat.pow_succ, Nat.mul_comm]
theorem dgn_getD : ∀ {n v i : Nat}, i < n → (dgn n v).getD i 0 = ((v / 65536 ^ i % 65536 : Nat) : Int)
  | n + 1, v, 0, _ => by simp [dgn]
  | n + 1, v, i + 1, h => by
    have := dgn_getD (v := v / 65536) (by omega : i < n)
    rw [div_pow_succ] at this
    simpa [dgn] using this
theorem dgn_snoc : ∀ (n v : Nat), dgn (n + 1) v = dgn n v ++ [((v / 65536 ^ n % 65536 : Nat) : Int)]
  | 0, v => by simp [dgn]
  | n + 1, v => by
    have h := dgn_snoc n (v / 65536)
    rw [div_pow_succ] at h
    rw [dgn, h]
    rfl
theorem dgn_take : ∀ {k n : Nat} (v : Nat), k ≤ n → (dgn n v).take k = dgn k v
  | 0, n, v, _ => by simp [dgn]
  | k + 1, n + 1, v, h => by simp [dgn, dgn_take (v / 65536) (by omega : k ≤ n)]
theorem dgn_zero : ∀ (n : Nat), dgn n 0 = List.replicate n 0
  | 0 => rfl
  | n + 1 => by
    rw [dgn, List.replicate_succ, Nat.zero_div, dgn_zero n]; rfl
/-- one digit becomes another one -/
theorem dgn_set : ∀ {n i lo d hi x : Nat}, i < n → lo < 65536 ^ i → d < 65536 → x < 65536 → (dgn n (lo + 65536 ^ i * (d + 65536 * hi))).set i (x : Int) = dgn n (lo + 65536 ^ i * (x + 65536 * hi))
  | n + 1, 0, lo, d, hi, x, _, hl, hd, hx => by
    have : lo = 0 := by simpa using hl
    subst this
    simp only [Nat.pow_zero, Nat.one_mul, Nat.zero_add, dgn, List.set_cons_zero]
    rw [show (d + 65536 * hi) / 65536 = hi by omega, show (x + 65536 * hi) / 65536 = hi by omega, show (x + 65536 * hi) % 65536 = x by omega]
  | n + 1, i + 1, lo, d, hi, x, h, hl, hd, hx => by
    have e : ∀ y, (lo + 65536 ^ (i + 1) * y) / 65536 = lo / 65536 + 65536 ^ i * y := fun y => by
      rw [Nat.pow_succ, Nat.mul_comm (65536 ^ i) 65536, Nat.mul_assoc, Nat.add_mul_div_left _ _ (by omega)]
    have e' : ∀ y, (lo + 65536 ^ (i + 1) * y) % 65536 = lo % 65536 := fun y => by
      rw [Nat.pow_succ, Nat.mul_comm (65536 ^ i) 65536, Nat.mul_assoc, Nat.add_mul_mod_self_left]
    simp only [dgn, List.set_cons_succ, e, e']
    rw [dgn_set (by omega) (by rw [Nat.div_lt_iff_lt_mul (by omega)]; rwa [Nat.pow_succ] at hl) hd hx]
/-- how many digits a number has -/
def nd (v : Nat) : Nat := (blen v + 15) / 16
theorem pow16 (n : Nat) : 65536 ^ n = 2 ^ (16 * n) := by rw [Nat.pow_mul]
theorem nd_le {v n : Nat} : nd v ≤ n ↔ v < 65536 ^ n := by
  rw [pow16, ← blen_le]; unfold nd; omega
theorem lt_nd (v : Nat) : v < 65536 ^ nd v := nd_le.1 (Nat.le_refl _)
theorem nd_eq {v n : Nat} (h1 : v < 65536 ^ n) (h2 : n = 0 ∨ 65536 ^ (n - 1) ≤ v) : nd v = n := by
  have h := nd_le.2 h1
  rcases h2 with h2 | h2
  · omega
  · have : ¬ nd v ≤ n - 1 := fun e => by have := nd_le.1 e; omega
    omega
theorem nd_low {v : Nat} (h : 0 < v) : 65536 ^ (nd v - 1) ≤ v ∧ 0 < nd v := by
  have h0 : 0 < nd v := by
    apply Nat.pos_of_ne_zero
    intro e
    have := lt_nd v
    rw [e] at this
    omega
  refine ⟨Nat.le_of_not_lt fun h1 => ?_, h0⟩
  have := nd_le.2 h1
  omega
theorem nd_zero : nd 0 = 0 := rfl
theorem nd_eq_zero {v : Nat} : nd v = 0 ↔ v = 0 := by
  constructor
  · intro e
    have := lt_nd v
    rw [e] at this
    omega
  · rintro rfl; rfl
/-- the digits of a number -/
def dg (v : Nat) : List Int := dgn (nd v) v
theorem dg_length (v : Nat) : (dg v).length = nd v := dgn_length _ _
theorem div_nd {v i : Nat} (h : nd v ≤ i) : v / 65536 ^ i = 0 := Nat.div_eq_of_lt (nd_le.1 h)
theorem dg_getD (v i : Nat) : (dg v).getD i 0 = ((v / 65536 ^ i % 65536 : Nat) : Int) := by
  by_cases h : i < nd v
  · exact dgn_getD h
  · rw [div_nd (by omega), List.getD_eq_getElem?_getD, List.getElem?_eq_none (by rw [dg_length]; omega)]; rfl
/-- what the digits stand for, one by one -/
theorem div_digit (v i : Nat) : v / 65536 ^ i = v / 65536 ^ i % 65536 + 65536 * (v / 65536 ^ (i + 1)) := by
  have := div_pow_succ v i
  rw [Nat.div_div_eq_div_mul, Nat.mul_comm, ← Nat.div_div_eq_div_mul] at this
  omega
theorem less_len {a b : Nat} (h : nd a ≠ nd b) : decide (a < b) = decide (nd a < nd b) := by
  rw [decide_eq_decide]
  constructor
  · intro hl
    have := nd_le.2 (Nat.lt_trans hl (lt_nd b))
    omega
  · intro hl
    have h1 := nd_low (v := b) (by apply Nat.pos_of_ne_zero; rintro rfl; rw [nd_zero] at hl; omega)
    have h2 : a < 65536 ^ (nd b - 1) := nd_le.1 (by omega)
    omega
theorem less_digit {a b i : Nat} (h : a / 65536 ^ (i + 1) = b / 65536 ^ (i + 1)) (hne : a / 65536 ^ i % 65536 ≠ b / 65536 ^ i % 65536) : decide (a < b) = decide (a / 65536 ^ i % 65536 < b / 65536 ^ i % 65536) := by
  have ha := div_digit a i
  have hb := div_digit b i
  rw [h] at ha
  have hp : 0 < 65536 ^ i := Nat.pow_pos (by omega)
  rw [decide_eq_decide]
  have ea := Nat.div_add_mod a (65536 ^ i)
  have eb := Nat.div_add_mod b (65536 ^ i)
  have la := Nat.mod_lt a hp
  have lb := Nat.mod_lt b hp
  generalize a / 65536 ^ i % 65536 = x at *
  generalize b / 65536 ^ i % 65536 = y at *
  generalize b / 65536 ^ (i + 1) = z at *
  constructor
  · intro hl
    apply Nat.lt_of_not_le
    intro hle
    have : y + 1 ≤ x := by omega
    have h1 : 65536 ^ i * (b / 65536 ^ i + 1) ≤ 65536 ^ i * (a / 65536 ^ i) := Nat.mul_le_mul_left _ (by omega)
    rw [Nat.mul_add] at h1
    omega
  · intro hl
    have h1 : 65536 ^ i * (a / 65536 ^ i + 1) ≤ 65536 ^ i * (b / 65536 ^ i) := Nat.mul_le_mul_left _ (by omega)
    rw [Nat.mul_add] at h1
    omega
theorem div_digit' (v i : Nat) : v / 65536 ^ (i + 1) = v / 65536 ^ i / 65536 := by rw [Nat.pow_succ, Nat.div_div_eq_div_mul]
theorem add_step {a b c i x y : Nat} (h : (a + b) / 65536 ^ i = a / 65536 ^ i + b / 65536 ^ i + c) (hx : a / 65536 ^ i % 65536 = x) (hy : b / 65536 ^ i % 65536 = y) :
    (a + b) / 65536 ^ i % 65536 = (c + x + y) % 65536 ∧ (a + b) / 65536 ^ (i + 1) = a / 65536 ^ (i + 1) + b / 65536 ^ (i + 1) + (c + x + y) / 65536 := by
  rw [div_digit', div_digit', div_digit']
  generalize (a + b) / 65536 ^ i = s at *
  omega
theorem nd_add (a b : Nat) : nd (a + b) ≤ max (nd a) (nd b) + 1 := by
  rw [nd_le]
  have h1 : a < 65536 ^ max (nd a) (nd b) := nd_le.1 (Nat.le_max_left _ _)
  have h2 : b < 65536 ^ max (nd a) (nd b) := nd_le.1 (Nat.le_max_right _ _)
  rw [Nat.pow_succ]
  omega
theorem sub_step {a b d c i x y : Nat} (h : a / 65536 ^ i = b / 65536 ^ i + d / 65536 ^ i + c) (hx : a / 65536 ^ i % 65536 = x) (hy : b / 65536 ^ i % 65536 = y) :
    (c + y ≤ x → c ≤ 1 → d / 65536 ^ i % 65536 = x - c - y ∧ a / 65536 ^ (i + 1) = b / 65536 ^ (i + 1) + d / 65536 ^ (i + 1) + 0) ∧
    (x < c + y → c ≤ 1 → d / 65536 ^ i % 65536 = x + 65536 - c - y ∧ a / 65536 ^ (i + 1) = b / 65536 ^ (i + 1) + d / 65536 ^ (i + 1) + 1) := by
  rw [div_digit', div_digit', div_digit']
  generalize a / 65536 ^ i = s at *
  constructor
  · intro h1 h2; omega
  · intro h1 h2; omega
theorem half_step {a i h c x : Nat} (hh : a / 65536 ^ (i + 1) = 2 * h + c) (hc : c < 2) (hx : a / 65536 ^ i % 65536 = x) :
    a / 65536 ^ i = 2 * (h * 65536 + (65536 * c + x) / 2) + (65536 * c + x) % 2 ∧ (65536 * c + x) / 2 < 65536 := by
  rw [div_digit'] at hh
  omega
theorem mul_step {V n W c x y i j : Nat} (h : V + c * 65536 ^ (i + j) = W) (d : Nat) (hd : V / 65536 ^ (i + j) % 65536 = d) (hn : n = d + c + x * y) :
    V = V % 65536 ^ (i + j) + 65536 ^ (i + j) * (d + 65536 * (V / 65536 ^ (i + j + 1))) ∧
    (V % 65536 ^ (i + j) + 65536 ^ (i + j) * (n % 65536 + 65536 * (V / 65536 ^ (i + j + 1)))) + n / 65536 * 65536 ^ (i + j + 1) = W + x * y * 65536 ^ (i + j) := by
  have e1 := Nat.div_add_mod V (65536 ^ (i + j))
  have e2 := div_digit V (i + j)
  rw [hd] at e2
  generalize V % 65536 ^ (i + j) = lo at *
  generalize V / 65536 ^ (i + j + 1) = hi at *
  rw [Nat.pow_succ]
  generalize V / 65536 ^ (i + j) = q at *
  subst e2
  generalize 65536 ^ (i + j) = p at *
  refine ⟨by omega, ?_⟩
  have e3 : n / 65536 * (p * 65536) = p * (65536 * (n / 65536)) := by rw [Nat.mul_comm p, ← Nat.mul_assoc, Nat.mul_comm (n / 65536), Nat.mul_comm _ p]
  have e4 := Nat.div_add_mod n 65536
  have e5 : p * (n % 65536 + 65536 * hi) + p * (65536 * (n / 65536)) = p * (n + 65536 * hi) := by rw [← Nat.mul_add]; congr 1; omega
  rw [e3, Nat.add_assoc, e5, hn, ← h, ← e1]
  have e6 : p * (d + c + x * y + 65536 * hi) = p * (d + 65536 * hi) + c * p + x * y * p := by
    simp only [Nat.add_mul, Nat.mul_comm p]; omega
  omega
end Go.Pm
namespace Go.Proofs
open Go Go.Pe Go.Pm
set_option maxRecDepth 100000
set_option linter.unusedVariables false
/-- a number as a slice of digits -/
def bv (nl : Bool) (v : Nat) : PV := .vec nl (.iarr .i64 (nd v) (dg v))
def dsTrim (nl : Bool) (m : Nat) (l : List Int) (n : Nat) : DS := ⟨[(0, .vec nl (.iarr .i64 m l)), (3, .int .i64 n)], []⟩
theorem W_trim {nl : Bool} {m v : Nat} (hm : m ≤ 1000000) : ∀ (n : Nat), n ≤ m → v < 65536 ^ n →
    W Tryz.prog G0 Tryz.f41 [] [] (bv nl v) (loopAt Tryz.f41 0) (dsTrim nl m (dgn m v) n)
  | 0, hn, hv => by
    have : v = 0 := by simpa using hv
    subst this
    refine W.ret [(0, aV (I6 0)), (11, aV (I6 0))] [] [I6 (↑(0 : Nat) : Int) = I6 0, I6 (↑(0 : Nat) : Int) = I6 0, (0 : Int) ≤ (0 : Int), (0 : Int) ≤ (0 : Int), 0 ≤ (m:Int), PV.vec nl (BI 0 []) = PV.vec nl (BI 0 (dg 0))] (by kernel_rfl) (ac (cg (by omega)) (ac (cg (by omega)) (ac (by omega) (ac (by omega) (ac (by omega) (ao rfl))))))
  | n + 1, hn, hv => by
    have hg : (dgn m v).getD n 0 = ((v / 65536 ^ n % 65536 : Nat) : Int) := dgn_getD (by omega)
    by_cases h0 : v / 65536 ^ n % 65536 = 0
    · refine W.seg [(1, aT), (5, aV (I6 (n:Int))), (7, aV (I6 (↑(v / 65536 ^ n % 65536) : Int))), (8, aT), (11, aV (I6 (n:Int)))] [] (dsTrim nl m (dgn m v) n) (todo' := loopAt Tryz.f41 0) [decide ((↑(n + 1) : Int) > 0) = true, I6 (IntKind.wrap .i64 ((↑(n + 1) : Int) - 1)) = I6 (n:Int), 0 ≤ (n:Int), (n:Int) < (m:Int), I6 (List.getD (dgn m v) n (0 : Int)) = I6 (↑(v / 65536 ^ n % 65536) : Int), n < m, ((↑(v / 65536 ^ n % 65536) : Int) == 0) = true, I6 (IntKind.wrap .i64 ((↑(n + 1) : Int) - 1)) = I6 (n:Int), rr (PV.vec nl (BI m (dgn m v))), rr (I6 (n:Int))] (by kernel_rfl) (ac (decide_eq_true (by omega)) (ac (cg (w_i64 (by omega) (by omega) (by omega))) (ac (by omega) (ac (by omega) (ac (cg (hg)) (ac (by omega) (ac (decide_eq_true (by omega)) (ac (cg (w_i64 (by omega) (by omega) (by omega))) (ac rfl (ao rfl)))))))))) ?_
      refine W_trim hm n (by omega) ?_
      have h1 : v / 65536 ^ n < 65536 := by rw [Nat.div_lt_iff_lt_mul (Nat.pow_pos (by omega)), ← Nat.pow_succ']; exact hv
      refine (Nat.div_eq_zero_iff_lt (Nat.pow_pos (by omega))).1 ?_
      generalize v / 65536 ^ n = q at *
      omega
    · refine W.ret [(1, aT), (5, aV (I6 (n:Int))), (7, aV (I6 (↑(v / 65536 ^ n % 65536) : Int))), (8, aF), (12, aV (PV.vec nl (BI (n + 1) (List.take (n + 1) (dgn m v)))))] [] [decide ((↑(n + 1) : Int) > 0) = true, I6 (IntKind.wrap .i64 ((↑(n + 1) : Int) - 1)) = I6 (n:Int), 0 ≤ (n:Int), (n:Int) < (m:Int), I6 (List.getD (dgn m v) n (0 : Int)) = I6 (↑(v / 65536 ^ n % 65536) : Int), n < m, ((↑(v / 65536 ^ n % 65536) : Int) == 0) = false, PV.vec nl (BI (Int.toNat ((↑(n + 1) : Int) - 0)) (List.take (Int.toNat ((↑(n + 1) : Int) - 0)) (dgn m v))) = PV.vec nl (BI (n + 1) (List.take (n + 1) (dgn m v))), (0 : Int) ≤ (0 : Int), 0 ≤ (↑(n + 1) : Int), (↑(n + 1) : Int) ≤ (m:Int), PV.vec nl (BI (n + 1) (List.take (n + 1) (dgn m v))) = PV.vec nl (BI (nd v) (dg v))] (by kernel_rfl) (ac (decide_eq_true (by omega)) (ac (cg (w_i64 (by omega) (by omega) (by omega))) (ac (by omega) (ac (by omega) (ac (cg (hg)) (ac (by omega) (ac (decide_eq_false (by omega)) (ac (by simp only [Int.sub_zero, Int.toNat_natCast]) (ac (by omega) (ac (by omega) (ac (by omega) (ao ?_))))))))))))
      rw [dgn_take v hn]
      have h1 : 0 < v / 65536 ^ n := by generalize v / 65536 ^ n = q at *; omega
      have h2 : 65536 ^ n ≤ v := by
        apply Nat.le_of_not_lt
        intro h
        rw [Nat.div_eq_of_lt h] at h1
        omega
      unfold dg
      rw [nd_eq hv (.inr h2)]
theorem pc_trim {nl : Bool} {m v : Nat} (hm : m ≤ 1000000) (hv : v < 65536 ^ m) : PC Tryz.prog G0 41 [] [.vec nl (.iarr .i64 m (dgn m v))] [] (bv nl v) := by
  refine PC.of (fn := Tryz.f41) (c := bodyOf Tryz.f41) Tryz.func41 (by kernel_rfl) (by kernel_rfl) (by kernel_rfl) (by kernel_rfl) ?_
  refine W.seg [] [] (dsTrim nl m (dgn m v) m) (todo' := loopAt Tryz.f41 0) [rr (PV.vec nl (BI m (dgn m v))), rr (I6 (m:Int))] (by kernel_rfl) (ac rfl (ao rfl)) ?_
  exact W_trim hm m (Nat.le_refl m) hv
def dsLess (na nb : Bool) (a b : Nat) (i : Int) : DS := ⟨[(0, bv na a), (1, bv nb b), (5, .int .i64 i)], []⟩
theorem W_less {na nb : Bool} {a b : Nat} (hn : nd a = nd b) (hm : nd b ≤ 1000000) : ∀ (n : Nat), n ≤ nd b → a / 65536 ^ n = b / 65536 ^ n →
    W Tryz.prog G0 Tryz.f19 [] [] (.bool (decide (a < b))) (loopAt Tryz.f19 0) (dsLess na nb a b ((n : Int) - 1))
  | 0, hi, he => by
    have : a = b := by simpa using he
    subst this
    have h : decide (a < a) = false := by simp
    rw [h]
    refine W.ret [(0, aV (I6 (-1)))] [] [I6 ((↑(0 : Nat) : Int) - 1) = I6 (-1), rr (PV.bool false)] (by kernel_rfl) (ac (cg (by omega)) (ao rfl))
  | n + 1, hi, he => by
    have ha := dg_getD a n
    have hb := dg_getD b n
    have hx := div_digit a n
    have hy := div_digit b n
    by_cases h0 : a / 65536 ^ n % 65536 = b / 65536 ^ n % 65536
    · refine W.seg [(0, aV (I6 (n:Int))), (3, aV (I6 (n:Int))), (5, aV (I6 (↑(a / 65536 ^ n % 65536) : Int))), (7, aV (I6 (n:Int))), (9, aV (I6 (↑(b / 65536 ^ n % 65536) : Int))), (10, aF), (11, aV (I6 (n:Int))), (12, aV (I6 ((n:Int) - 1)))] [] (dsLess na nb a b ((n:Int) - 1)) (todo' := loopAt Tryz.f19 0) [I6 ((↑(n + 1) : Int) - 1) = I6 (n:Int), I6 ((↑(n + 1) : Int) - 1) = I6 (n:Int), 0 ≤ (n:Int), (n:Int) < (↑(nd a) : Int), I6 (List.getD (dg a) n (0 : Int)) = I6 (↑(a / 65536 ^ n % 65536) : Int), n < nd a, I6 ((↑(n + 1) : Int) - 1) = I6 (n:Int), 0 ≤ (n:Int), (n:Int) < (↑(nd b) : Int), I6 (List.getD (dg b) n (0 : Int)) = I6 (↑(b / 65536 ^ n % 65536) : Int), n < nd b, ((↑(a / 65536 ^ n % 65536) : Int) != (↑(b / 65536 ^ n % 65536) : Int)) = false, I6 ((↑(n + 1) : Int) - 1) = I6 (n:Int), I6 (IntKind.wrap .i64 ((n:Int) - 1)) = I6 ((n:Int) - 1), rr (PV.vec na (BI (nd a) (dg a))), rr (PV.vec nb (BI (nd b) (dg b))), rr (I6 ((n:Int) - 1))] (by kernel_rfl) (ac (cg (by omega)) (ac (cg (by omega)) (ac (by omega) (ac (by omega) (ac (cg (ha)) (ac (by omega) (ac (cg (by omega)) (ac (by omega) (ac (by omega) (ac (cg (hb)) (ac (by omega) (ac (bne_eq_false_iff_eq.2 (by omega)) (ac (cg (by omega)) (ac (cg (w_i64 rfl (by omega) (by omega))) (ac rfl (ac rfl (ao rfl))))))))))))))))) ?_
      exact W_less hn hm n (by omega) (by rw [hx, hy, h0, he])
    · rw [less_digit he h0]
      refine W.ret [(0, aV (I6 (n:Int))), (3, aV (I6 (n:Int))), (5, aV (I6 (↑(a / 65536 ^ n % 65536) : Int))), (7, aV (I6 (n:Int))), (9, aV (I6 (↑(b / 65536 ^ n % 65536) : Int))), (10, aT), (12, aV (I6 (n:Int))), (14, aV (I6 (↑(a / 65536 ^ n % 65536) : Int))), (16, aV (I6 (n:Int))), (18, aV (I6 (↑(b / 65536 ^ n % 65536) : Int)))] [] [I6 ((↑(n + 1) : Int) - 1) = I6 (n:Int), I6 ((↑(n + 1) : Int) - 1) = I6 (n:Int), 0 ≤ (n:Int), (n:Int) < (↑(nd a) : Int), I6 (List.getD (dg a) n (0 : Int)) = I6 (↑(a / 65536 ^ n % 65536) : Int), n < nd a, I6 ((↑(n + 1) : Int) - 1) = I6 (n:Int), 0 ≤ (n:Int), (n:Int) < (↑(nd b) : Int), I6 (List.getD (dg b) n (0 : Int)) = I6 (↑(b / 65536 ^ n % 65536) : Int), n < nd b, ((↑(a / 65536 ^ n % 65536) : Int) != (↑(b / 65536 ^ n % 65536) : Int)) = true, I6 ((↑(n + 1) : Int) - 1) = I6 (n:Int), 0 ≤ (n:Int), (n:Int) < (↑(nd a) : Int), I6 (List.getD (dg a) n (0 : Int)) = I6 (↑(a / 65536 ^ n % 65536) : Int), n < nd a, I6 ((↑(n + 1) : Int) - 1) = I6 (n:Int), 0 ≤ (n:Int), (n:Int) < (↑(nd b) : Int), I6 (List.getD (dg b) n (0 : Int)) = I6 (↑(b / 65536 ^ n % 65536) : Int), n < nd b, PV.bool (decide ((↑(a / 65536 ^ n % 65536) : Int) < (↑(b / 65536 ^ n % 65536) : Int))) = PV.bool (decide (a / 65536 ^ n % 65536 < b / 65536 ^ n % 65536))] (by kernel_rfl) (ac (cg (by omega)) (ac (cg (by omega)) (ac (by omega) (ac (by omega) (ac (cg (ha)) (ac (by omega) (ac (cg (by omega)) (ac (by omega) (ac (by omega) (ac (cg (hb)) (ac (by omega) (ac (bne_iff_ne.2 (by omega)) (ac (cg (by omega)) (ac (by omega) (ac (by omega) (ac (cg (ha)) (ac (by omega) (ac (cg (by omega)) (ac (by omega) (ac (by omega) (ac (cg (hb)) (ac (by omega) (ao ?_)))))))))))))))))))))))
      simp only [Int.ofNat_lt]
theorem pc_bLess {na nb : Bool} {a b : Nat} (ha : nd a ≤ 1000000) (hb : nd b ≤ 1000000) : PC Tryz.prog G0 19 [] [bv na a, bv nb b] [] (.bool (decide (a < b))) := by
  refine PC.of (fn := Tryz.f19) (c := bodyOf Tryz.f19) Tryz.func19 (by kernel_rfl) (by kernel_rfl) (by kernel_rfl) (by kernel_rfl) ?_
  by_cases h : nd a = nd b
  · refine W.seg [(5, aF), (8, aV (I6 ((↑(nd a) : Int) - 1)))] [] (dsLess na nb a b ((↑(nd b) : Int) - 1)) (todo' := loopAt Tryz.f19 0) [((↑(nd a) : Int) != (↑(nd b) : Int)) = false, I6 (IntKind.wrap .i64 ((↑(nd a) : Int) - 1)) = I6 ((↑(nd a) : Int) - 1), rr (PV.vec na (BI (nd a) (dg a))), rr (PV.vec nb (BI (nd b) (dg b))), I6 ((↑(nd a) : Int) - 1) = I6 ((↑(nd b) : Int) - 1)] (by kernel_rfl) (ac (bne_eq_false_iff_eq.2 (by omega)) (ac (cg (w_i64 rfl (by omega) (by omega))) (ac rfl (ac rfl (ao (cg (by omega))))))) ?_
    exact W_less h hb (nd b) (Nat.le_refl _) (by rw [div_nd (by omega), div_nd (by omega)])
  · rw [less_len h]
    refine W.ret [(5, aT)] [] [((↑(nd a) : Int) != (↑(nd b) : Int)) = true, PV.bool (decide ((↑(nd a) : Int) < (↑(nd b) : Int))) = PV.bool (decide (nd a < nd b))] (by kernel_rfl) (ac (bne_iff_ne.2 (by omega)) (ao (by (simp; done))))
end Go.Proofs
namespace Go.Proofs
open Go Go.Pe Go.Pm
set_option maxRecDepth 100000
set_option linter.unusedVariables false
def rowI (n : Nat) (l : List Int) : Row := ⟨.iarr .i64 n l, false⟩
def dsAdd0 (na nb : Bool) (a b : Nat) : DS := ⟨[(0, bv na a), (1, bv nb b), (5, .vec true (.iarr .i64 0 [])), (6, .int .i64 0), (7, .int .i64 0)], []⟩
def dsAdd (na nb : Bool) (a b i : Nat) (l : List Int) (c : Nat) : DS := ⟨[(0, bv na a), (1, bv nb b), (5, .ref 1 [] 1 0 i), (6, .int .i64 c), (7, .int .i64 i)], [(1, rowI i l)]⟩
theorem W_add {na nb : Bool} {a b M : Nat} (hM : M = max (nd a) (nd b)) (hm : M ≤ 100000) : ∀ (k i c : Nat) (l : List Int), i + k = M + 1 → 0 < i → c ≤ 1 → l = dgn i (a + b) → (a + b) / 65536 ^ i = a / 65536 ^ i + b / 65536 ^ i + c →
    W Tryz.prog G0 Tryz.f110 [] [] (bv false (a + b)) (loopAt Tryz.f110 0) (dsAdd na nb a b i l c)
  | 0, i, c, l, hk, hi, hc, hl, h => by
    have hlt : a + b < 65536 ^ i := nd_le.1 (by have := nd_add a b; omega)
    have c0 : c = 0 := by rw [Nat.div_eq_of_lt hlt, div_nd (by omega), div_nd (by omega)] at h; omega
    subst c0
    have hll : l.length = i := by rw [hl, dgn_length]
    have ht := pc_trim (nl := false) (m := i) (by omega) hlt
    rw [← hl] at ht
    refine W.ret [(3, aF), (8, aF), (11, aV (I6 0)), (15, Ans.calla false [] [] [PV.vec false (BI i l)] [] (PV.vec false (BI (nd (a + b)) (dg (a + b)))))] [] [decide ((i:Int) < (↑(nd a) : Int)) = false, decide ((i:Int) < (↑(nd b) : Int)) = false, I6 (↑(0 : Nat) : Int) = I6 0, 0 + i ≤ i, rr ([] : List (Nat × Row)), ([PV.vec false (BI i (List.take i l))] : List PV) = [PV.vec false (BI i l)], PC Tryz.prog G0 41 [] [PV.vec false (BI i l)] [] (PV.vec false (BI (nd (a + b)) (dg (a + b)))), rr (PV.vec false (BI (nd (a + b)) (dg (a + b))))] (by kernel_rfl) (ac (decide_eq_false (by omega)) (ac (decide_eq_false (by omega)) (ac (cg (by omega)) (ac (by omega) (ac rfl (ac (by rw [List.take_of_length_le (show List.length l ≤ i by omega)]) (ac (ht) (ao rfl))))))))
  | k + 1, i, c, l, hk, hi, hc, hl, h => by
    have hll : l.length = i := by rw [hl, dgn_length]
    have hx := dg_getD a i
    have hy := dg_getD b i
    obtain ⟨e1, e2⟩ := add_step h rfl rfl
    have hs := dgn_snoc i (a + b)
    rw [e1, ← hl] at hs
    have lx : a / 65536 ^ i % 65536 < 65536 := Nat.mod_lt _ (by omega)
    have ly : b / 65536 ^ i % 65536 < 65536 := Nat.mod_lt _ (by omega)
    have zx : nd a ≤ i → a / 65536 ^ i % 65536 = 0 := fun hz => by rw [div_nd hz]
    have zy : nd b ≤ i → b / 65536 ^ i % 65536 = 0 := fun hz => by rw [div_nd hz]
    have wx : nd a ≤ i → a / 65536 ^ i = 0 := div_nd
    have wy : nd b ≤ i → b / 65536 ^ i = 0 := div_nd
    generalize a / 65536 ^ i % 65536 = x at *
    generalize b / 65536 ^ i % 65536 = y at *
    have hc' : (c + x + y) / 65536 ≤ 1 := by omega
    by_cases ha : i < nd a
    · by_cases hb : i < nd b
      · refine W.seg [(3, aT), (19, aT), (24, aV (I6 (x:Int))), (25, aV (I6 (↑(c + x) : Int))), (30, aT), (35, aV (I6 (y:Int))), (36, aV (I6 (↑(c + x + y) : Int))), (40, aV (I6 (↑((c + x + y) % 65536) : Int))), (42, Ans.ups [(1, none), (736, some (Row.mk (BI (i + 1) (l ++ [(↑((c + x + y) % 65536) : Int)])) false))]), (45, aV (I6 (↑((c + x + y) / 65536) : Int))), (48, aV (I6 (↑(i + 1) : Int)))] [(736, 1)] (dsAdd na nb a b (i + 1) (l ++ [(↑((c + x + y) % 65536) : Int)]) ((c + x + y) / 65536)) (todo' := loopAt Tryz.f110 0) [decide ((i:Int) < (↑(nd a) : Int)) = true, decide ((i:Int) < (↑(nd a) : Int)) = true, 0 ≤ (i:Int), (i:Int) < (↑(nd a) : Int), I6 (List.getD (dg a) i (0 : Int)) = I6 (x:Int), i < nd a, I6 (IntKind.wrap .i64 ((c:Int) + (x:Int))) = I6 (↑(c + x) : Int), decide ((i:Int) < (↑(nd b) : Int)) = true, 0 ≤ (i:Int), (i:Int) < (↑(nd b) : Int), I6 (List.getD (dg b) i (0 : Int)) = I6 (y:Int), i < nd b, I6 (IntKind.wrap .i64 ((↑(c + x) : Int) + (y:Int))) = I6 (↑(c + x + y) : Int), I6 (Int.tmod (↑(c + x + y) : Int) (65536 : Int)) = I6 (↑((c + x + y) % 65536) : Int), (65536 : Int) ≠ (0 : Int), ([(1, none), (736, some (Row.mk (BI (i + 1) (List.take i l ++ [(↑((c + x + y) % 65536) : Int)])) false))] : List (Nat × Option Row)) = [(1, none), (736, some (Row.mk (BI (i + 1) (l ++ [(↑((c + x + y) % 65536) : Int)])) false))], 1 ≤ 1, 0 + i = i, (i + 1) * 8 ≤ 140737488355328, i + 1 ≤ 9223372036854775807, I6 (IntKind.wrap .i64 (Int.tdiv (↑(c + x + y) : Int) (65536 : Int))) = I6 (↑((c + x + y) / 65536) : Int), (65536 : Int) ≠ (0 : Int), I6 (IntKind.wrap .i64 ((i:Int) + 1)) = I6 (↑(i + 1) : Int), rr (PV.vec na (BI (nd a) (dg a))), rr (PV.vec nb (BI (nd b) (dg b))), rr (PV.ref 1 [] 1 0 (i + 1)), rr (I6 (↑((c + x + y) / 65536) : Int)), rr (I6 (↑(i + 1) : Int)), rr (BI (i + 1) (l ++ [(↑((c + x + y) % 65536) : Int)]))] (by kernel_rfl) (ac (decide_eq_true (by omega)) (ac (decide_eq_true (by omega)) (ac (by omega) (ac (by omega) (ac (cg (hx)) (ac (by omega) (ac (cg (w_i64 rfl (by omega) (by omega))) (ac (decide_eq_true (by omega)) (ac (by omega) (ac (by omega) (ac (cg (hy)) (ac (by omega) (ac (cg (w_i64 rfl (by omega) (by omega))) (ac (cg rfl) (ac (by omega) (ac (by rw [List.take_of_length_le (show List.length l ≤ i by omega)]) (ac (by omega) (ac (by omega) (ac (by omega) (ac (by omega) (ac (cg (w_i64 rfl (by omega) (by omega))) (ac (by omega) (ac (cg (w_i64 rfl (by omega) (by omega))) (ac rfl (ac rfl (ac rfl (ac rfl (ac rfl (ao rfl))))))))))))))))))))))))))))) ?_
        exact W_add hM hm k (i + 1) _ _ (by omega) (by omega) hc' hs.symm e2
      · have := zy (by omega)
        subst this
        refine W.seg [(3, aT), (19, aT), (24, aV (I6 (x:Int))), (25, aV (I6 (↑(c + x) : Int))), (30, aF), (33, aV (I6 (↑((c + x) % 65536) : Int))), (35, Ans.ups [(1, none), (624, some (Row.mk (BI (i + 1) (l ++ [(↑((c + x) % 65536) : Int)])) false))]), (38, aV (I6 (↑((c + x) / 65536) : Int))), (41, aV (I6 (↑(i + 1) : Int)))] [(624, 1)] (dsAdd na nb a b (i + 1) (l ++ [(↑((c + x) % 65536) : Int)]) ((c + x) / 65536)) (todo' := loopAt Tryz.f110 0) [decide ((i:Int) < (↑(nd a) : Int)) = true, decide ((i:Int) < (↑(nd a) : Int)) = true, 0 ≤ (i:Int), (i:Int) < (↑(nd a) : Int), I6 (List.getD (dg a) i (0 : Int)) = I6 (x:Int), i < nd a, I6 (IntKind.wrap .i64 ((c:Int) + (x:Int))) = I6 (↑(c + x) : Int), decide ((i:Int) < (↑(nd b) : Int)) = false, I6 (Int.tmod (↑(c + x) : Int) (65536 : Int)) = I6 (↑((c + x) % 65536) : Int), (65536 : Int) ≠ (0 : Int), ([(1, none), (624, some (Row.mk (BI (i + 1) (List.take i l ++ [(↑((c + x) % 65536) : Int)])) false))] : List (Nat × Option Row)) = [(1, none), (624, some (Row.mk (BI (i + 1) (l ++ [(↑((c + x) % 65536) : Int)])) false))], 1 ≤ 1, 0 + i = i, (i + 1) * 8 ≤ 140737488355328, i + 1 ≤ 9223372036854775807, I6 (IntKind.wrap .i64 (Int.tdiv (↑(c + x) : Int) (65536 : Int))) = I6 (↑((c + x) / 65536) : Int), (65536 : Int) ≠ (0 : Int), I6 (IntKind.wrap .i64 ((i:Int) + 1)) = I6 (↑(i + 1) : Int), rr (PV.vec na (BI (nd a) (dg a))), rr (PV.vec nb (BI (nd b) (dg b))), rr (PV.ref 1 [] 1 0 (i + 1)), rr (I6 (↑((c + x) / 65536) : Int)), rr (I6 (↑(i + 1) : Int)), rr (BI (i + 1) (l ++ [(↑((c + x) % 65536) : Int)]))] (by kernel_rfl) (ac (decide_eq_true (by omega)) (ac (decide_eq_true (by omega)) (ac (by omega) (ac (by omega) (ac (cg (hx)) (ac (by omega) (ac (cg (w_i64 rfl (by omega) (by omega))) (ac (decide_eq_false (by omega)) (ac (cg rfl) (ac (by omega) (ac (by rw [List.take_of_length_le (show List.length l ≤ i by omega)]) (ac (by omega) (ac (by omega) (ac (by omega) (ac (by omega) (ac (cg (w_i64 rfl (by omega) (by omega))) (ac (by omega) (ac (cg (w_i64 rfl (by omega) (by omega))) (ac rfl (ac rfl (ac rfl (ac rfl (ac rfl (ao rfl)))))))))))))))))))))))) ?_
        exact W_add hM hm k (i + 1) _ _ (by omega) (by omega) hc' hs.symm e2
    · by_cases hb : i < nd b
      · have := zx (by omega)
        subst this
        refine W.seg [(3, aF), (8, aT), (19, aF), (23, aT), (28, aV (I6 (y:Int))), (29, aV (I6 (↑(c + y) : Int))), (33, aV (I6 (↑((c + y) % 65536) : Int))), (35, Ans.ups [(1, none), (624, some (Row.mk (BI (i + 1) (l ++ [(↑((c + y) % 65536) : Int)])) false))]), (38, aV (I6 (↑((c + y) / 65536) : Int))), (41, aV (I6 (↑(i + 1) : Int)))] [(624, 1)] (dsAdd na nb a b (i + 1) (l ++ [(↑((c + y) % 65536) : Int)]) ((c + y) / 65536)) (todo' := loopAt Tryz.f110 0) [decide ((i:Int) < (↑(nd a) : Int)) = false, decide ((i:Int) < (↑(nd b) : Int)) = true, decide ((i:Int) < (↑(nd a) : Int)) = false, decide ((i:Int) < (↑(nd b) : Int)) = true, 0 ≤ (i:Int), (i:Int) < (↑(nd b) : Int), I6 (List.getD (dg b) i (0 : Int)) = I6 (y:Int), i < nd b, I6 (IntKind.wrap .i64 ((c:Int) + (y:Int))) = I6 (↑(c + y) : Int), I6 (Int.tmod (↑(c + y) : Int) (65536 : Int)) = I6 (↑((c + y) % 65536) : Int), (65536 : Int) ≠ (0 : Int), ([(1, none), (624, some (Row.mk (BI (i + 1) (List.take i l ++ [(↑((c + y) % 65536) : Int)])) false))] : List (Nat × Option Row)) = [(1, none), (624, some (Row.mk (BI (i + 1) (l ++ [(↑((c + y) % 65536) : Int)])) false))], 1 ≤ 1, 0 + i = i, (i + 1) * 8 ≤ 140737488355328, i + 1 ≤ 9223372036854775807, I6 (IntKind.wrap .i64 (Int.tdiv (↑(c + y) : Int) (65536 : Int))) = I6 (↑((c + y) / 65536) : Int), (65536 : Int) ≠ (0 : Int), I6 (IntKind.wrap .i64 ((i:Int) + 1)) = I6 (↑(i + 1) : Int), rr (PV.vec na (BI (nd a) (dg a))), rr (PV.vec nb (BI (nd b) (dg b))), rr (PV.ref 1 [] 1 0 (i + 1)), rr (I6 (↑((c + y) / 65536) : Int)), rr (I6 (↑(i + 1) : Int)), rr (BI (i + 1) (l ++ [(↑((c + y) % 65536) : Int)]))] (by kernel_rfl) (ac (decide_eq_false (by omega)) (ac (decide_eq_true (by omega)) (ac (decide_eq_false (by omega)) (ac (decide_eq_true (by omega)) (ac (by omega) (ac (by omega) (ac (cg (hy)) (ac (by omega) (ac (cg (w_i64 rfl (by omega) (by omega))) (ac (cg rfl) (ac (by omega) (ac (by rw [List.take_of_length_le (show List.length l ≤ i by omega)]) (ac (by omega) (ac (by omega) (ac (by omega) (ac (by omega) (ac (cg (w_i64 rfl (by omega) (by omega))) (ac (by omega) (ac (cg (w_i64 rfl (by omega) (by omega))) (ac rfl (ac rfl (ac rfl (ac rfl (ac rfl (ao rfl))))))))))))))))))))))))) ?_
        exact W_add hM hm k (i + 1) _ _ (by omega) (by omega) hc' hs.symm e2
      · have := zx (by omega)
        subst this
        have := zy (by omega)
        subst this
        by_cases h0 : c = 0
        · subst h0
          have hlt : a + b < 65536 ^ i := (Nat.div_eq_zero_iff_lt (Nat.pow_pos (by omega))).1 (by rw [h, wx (by omega), wy (by omega)])
          have ht := pc_trim (nl := false) (m := i) (by omega) hlt
          rw [← hl] at ht
          refine W.ret [(3, aF), (8, aF), (11, aV (I6 0)), (15, Ans.calla false [] [] [PV.vec false (BI i l)] [] (PV.vec false (BI (nd (a + b)) (dg (a + b)))))] [] [decide ((i:Int) < (↑(nd a) : Int)) = false, decide ((i:Int) < (↑(nd b) : Int)) = false, I6 (↑(0 : Nat) : Int) = I6 0, 0 + i ≤ i, rr ([] : List (Nat × Row)), ([PV.vec false (BI i (List.take i l))] : List PV) = [PV.vec false (BI i l)], PC Tryz.prog G0 41 [] [PV.vec false (BI i l)] [] (PV.vec false (BI (nd (a + b)) (dg (a + b)))), rr (PV.vec false (BI (nd (a + b)) (dg (a + b))))] (by kernel_rfl) (ac (decide_eq_false (by omega)) (ac (decide_eq_false (by omega)) (ac (cg (by omega)) (ac (by omega) (ac rfl (ac (by rw [List.take_of_length_le (show List.length l ≤ i by omega)]) (ac (ht) (ao rfl))))))))
        · refine W.seg [(3, aF), (8, aF), (12, aT), (19, aF), (23, aF), (26, aV (I6 (↑(c % 65536) : Int))), (28, Ans.ups [(1, none), (512, some (Row.mk (BI (i + 1) (l ++ [(↑(c % 65536) : Int)])) false))]), (31, aV (I6 (↑(c / 65536) : Int))), (34, aV (I6 (↑(i + 1) : Int)))] [(512, 1)] (dsAdd na nb a b (i + 1) (l ++ [(↑(c % 65536) : Int)]) (c / 65536)) (todo' := loopAt Tryz.f110 0) [decide ((i:Int) < (↑(nd a) : Int)) = false, decide ((i:Int) < (↑(nd b) : Int)) = false, decide ((c:Int) > 0) = true, decide ((i:Int) < (↑(nd a) : Int)) = false, decide ((i:Int) < (↑(nd b) : Int)) = false, I6 (Int.tmod (c:Int) (65536 : Int)) = I6 (↑(c % 65536) : Int), (65536 : Int) ≠ (0 : Int), ([(1, none), (512, some (Row.mk (BI (i + 1) (List.take i l ++ [(↑(c % 65536) : Int)])) false))] : List (Nat × Option Row)) = [(1, none), (512, some (Row.mk (BI (i + 1) (l ++ [(↑(c % 65536) : Int)])) false))], 1 ≤ 1, 0 + i = i, (i + 1) * 8 ≤ 140737488355328, i + 1 ≤ 9223372036854775807, I6 (IntKind.wrap .i64 (Int.tdiv (c:Int) (65536 : Int))) = I6 (↑(c / 65536) : Int), (65536 : Int) ≠ (0 : Int), I6 (IntKind.wrap .i64 ((i:Int) + 1)) = I6 (↑(i + 1) : Int), rr (PV.vec na (BI (nd a) (dg a))), rr (PV.vec nb (BI (nd b) (dg b))), rr (PV.ref 1 [] 1 0 (i + 1)), rr (I6 (↑(c / 65536) : Int)), rr (I6 (↑(i + 1) : Int)), rr (BI (i + 1) (l ++ [(↑(c % 65536) : Int)]))] (by kernel_rfl) (ac (decide_eq_false (by omega)) (ac (decide_eq_false (by omega)) (ac (decide_eq_true (by omega)) (ac (decide_eq_false (by omega)) (ac (decide_eq_false (by omega)) (ac (cg rfl) (ac (by omega) (ac (by rw [List.take_of_length_le (show List.length l ≤ i by omega)]) (ac (by omega) (ac (by omega) (ac (by omega) (ac (by omega) (ac (cg (w_i64 rfl (by omega) (by omega))) (ac (by omega) (ac (cg (w_i64 rfl (by omega) (by omega))) (ac rfl (ac rfl (ac rfl (ac rfl (ac rfl (ao rfl))))))))))))))))))))) ?_
          exact W_add hM hm k (i + 1) _ _ (by omega) (by omega) hc' hs.symm e2
theorem pc_bAdd {na nb : Bool} {a b : Nat} (ha : nd a ≤ 100000) (hb : nd b ≤ 100000) : PC Tryz.prog G0 110 [] [bv na a, bv nb b] [] (bv (decide (a + b = 0)) (a + b)) := by
  refine PC.of (fn := Tryz.f110) (c := bodyOf Tryz.f110) Tryz.func110 (by kernel_rfl) (by kernel_rfl) (by kernel_rfl) (by kernel_rfl) ?_
  refine W.seg [] [] (dsAdd0 na nb a b) (todo' := loopAt Tryz.f110 0) [rr (PV.vec na (BI (nd a) (dg a))), rr (PV.vec nb (BI (nd b) (dg b))), rr (PV.vec true (BI 0 [])), rr (I6 0), rr (I6 0)] (by kernel_rfl) (ac rfl (ac rfl (ac rfl (ac rfl (ao rfl))))) ?_
  by_cases h0 : a + b = 0
  · have h1 : a = 0 := by omega
    have h2 : b = 0 := by omega
    subst h1; subst h2
    have ht := pc_trim (nl := true) (m := 0) (v := 0) (by omega) (by omega)
    refine W.ret [(2, aV (I6 0)), (7, aV (I6 0)), (15, aK (PV.vec true (BI 0 (dg 0))))] [] [I6 (↑(0 : Nat) : Int) = I6 0, I6 (↑(0 : Nat) : Int) = I6 0, PC Tryz.prog G0 41 [] [PV.vec true (BI 0 [])] [] (PV.vec true (BI 0 (dg 0))), PV.vec true (BI 0 (dg 0)) = PV.vec true (BI 0 (dg (0 + 0)))] (by kernel_rfl) (ac (cg (by omega)) (ac (cg (by omega)) (ac (ht) (ao rfl))))
  · have hf : decide (a + b = 0) = false := decide_eq_false h0
    rw [hf]
    have h : (a + b) / 65536 ^ 0 = a / 65536 ^ 0 + b / 65536 ^ 0 + 0 := by simp
    have hx := dg_getD a 0
    have hy := dg_getD b 0
    obtain ⟨e1, e2⟩ := add_step h rfl rfl
    have hs := dgn_snoc 0 (a + b)
    rw [e1] at hs
    have lx : a / 65536 ^ 0 % 65536 < 65536 := Nat.mod_lt _ (by omega)
    have ly : b / 65536 ^ 0 % 65536 < 65536 := Nat.mod_lt _ (by omega)
    have zx : nd a ≤ 0 → a / 65536 ^ 0 % 65536 = 0 := fun hz => by rw [div_nd hz]
    have zy : nd b ≤ 0 → b / 65536 ^ 0 % 65536 = 0 := fun hz => by rw [div_nd hz]
    generalize a / 65536 ^ 0 % 65536 = x at *
    generalize b / 65536 ^ 0 % 65536 = y at *
    have hc' : (0 + x + y) / 65536 ≤ 1 := by omega
    have hM : max (nd a) (nd b) ≤ 100000 := by omega
    by_cases ha : 0 < nd a
    · by_cases hb : 0 < nd b
      · simp only [Nat.zero_add] at hs hc' e2
        refine W.seg [(3, aT), (19, aT), (24, aV (I6 (x:Int))), (25, aV (I6 (x:Int))), (30, aT), (35, aV (I6 (y:Int))), (36, aV (I6 (↑(x + y) : Int))), (40, aV (I6 (↑((x + y) % 65536) : Int))), (45, aV (I6 (↑((x + y) / 65536) : Int))), (48, aV (I6 1))] [(736, 1)] (dsAdd na nb a b 1 [(↑((x + y) % 65536) : Int)] ((x + y) / 65536)) (todo' := loopAt Tryz.f110 0) [decide (0 < (↑(nd a) : Int)) = true, decide (0 < (↑(nd a) : Int)) = true, (0 : Int) ≤ (0 : Int), 0 < (↑(nd a) : Int), I6 (List.getD (dg a) 0 (0 : Int)) = I6 (x:Int), 0 < nd a, I6 (IntKind.wrap .i64 (0 + (x:Int))) = I6 (x:Int), decide (0 < (↑(nd b) : Int)) = true, (0 : Int) ≤ (0 : Int), 0 < (↑(nd b) : Int), I6 (List.getD (dg b) 0 (0 : Int)) = I6 (y:Int), 0 < nd b, I6 (IntKind.wrap .i64 ((x:Int) + (y:Int))) = I6 (↑(x + y) : Int), I6 (Int.tmod (↑(x + y) : Int) (65536 : Int)) = I6 (↑((x + y) % 65536) : Int), (65536 : Int) ≠ (0 : Int), 1 ≤ 1, 0 < 1, 8 ≤ 140737488355328, 1 ≤ 9223372036854775807, I6 (IntKind.wrap .i64 (Int.tdiv (↑(x + y) : Int) (65536 : Int))) = I6 (↑((x + y) / 65536) : Int), (65536 : Int) ≠ (0 : Int), I6 (IntKind.wrap .i64 ((0 : Int) + (1 : Int))) = I6 1, rr (PV.vec na (BI (nd a) (dg a))), rr (PV.vec nb (BI (nd b) (dg b))), rr (PV.ref 1 [] 1 0 1), rr (I6 (↑((x + y) / 65536) : Int)), I6 1 = I6 (↑(1 : Nat) : Int), rr (BI 1 [(↑((x + y) % 65536) : Int)])] (by kernel_rfl) (ac (decide_eq_true (by omega)) (ac (decide_eq_true (by omega)) (ac (by omega) (ac (by omega) (ac (cg (hx)) (ac (by omega) (ac (cg (w_i64 (by omega) (by omega) (by omega))) (ac (decide_eq_true (by omega)) (ac (by omega) (ac (by omega) (ac (cg (hy)) (ac (by omega) (ac (cg (w_i64 rfl (by omega) (by omega))) (ac (cg rfl) (ac (by omega) (ac (by omega) (ac (by omega) (ac (by omega) (ac (by omega) (ac (cg (w_i64 rfl (by omega) (by omega))) (ac (by omega) (ac (cg (w_i64 rfl (by omega) (by omega))) (ac rfl (ac rfl (ac rfl (ac rfl (ac (cg (by omega)) (ao rfl)))))))))))))))))))))))))))) ?_
        exact W_add rfl hM (max (nd a) (nd b)) 1 _ _ (by omega) (by omega) hc' hs.symm e2
      · have := zy (by omega)
        subst this
        simp only [Nat.zero_add, Nat.add_zero] at hs hc' e2
        refine W.seg [(3, aT), (19, aT), (24, aV (I6 (x:Int))), (25, aV (I6 (x:Int))), (30, aF), (33, aV (I6 (↑(x % 65536) : Int))), (38, aV (I6 (↑(x / 65536) : Int))), (41, aV (I6 1))] [(624, 1)] (dsAdd na nb a b 1 [(↑(x % 65536) : Int)] (x / 65536)) (todo' := loopAt Tryz.f110 0) [decide (0 < (↑(nd a) : Int)) = true, decide (0 < (↑(nd a) : Int)) = true, (0 : Int) ≤ (0 : Int), 0 < (↑(nd a) : Int), I6 (List.getD (dg a) 0 (0 : Int)) = I6 (x:Int), 0 < nd a, I6 (IntKind.wrap .i64 (0 + (x:Int))) = I6 (x:Int), decide (0 < (↑(nd b) : Int)) = false, I6 (Int.tmod (x:Int) (65536 : Int)) = I6 (↑(x % 65536) : Int), (65536 : Int) ≠ (0 : Int), 1 ≤ 1, 0 < 1, 8 ≤ 140737488355328, 1 ≤ 9223372036854775807, I6 (IntKind.wrap .i64 (Int.tdiv (x:Int) (65536 : Int))) = I6 (↑(x / 65536) : Int), (65536 : Int) ≠ (0 : Int), I6 (IntKind.wrap .i64 ((0 : Int) + (1 : Int))) = I6 1, rr (PV.vec na (BI (nd a) (dg a))), rr (PV.vec nb (BI (nd b) (dg b))), rr (PV.ref 1 [] 1 0 1), rr (I6 (↑(x / 65536) : Int)), I6 1 = I6 (↑(1 : Nat) : Int), rr (BI 1 [(↑(x % 65536) : Int)])] (by kernel_rfl) (ac (decide_eq_true (by omega)) (ac (decide_eq_true (by omega)) (ac (by omega) (ac (by omega) (ac (cg (hx)) (ac (by omega) (ac (cg (w_i64 (by omega) (by omega) (by omega))) (ac (decide_eq_false (by omega)) (ac (cg rfl) (ac (by omega) (ac (by omega) (ac (by omega) (ac (by omega) (ac (by omega) (ac (cg (w_i64 rfl (by omega) (by omega))) (ac (by omega) (ac (cg (w_i64 rfl (by omega) (by omega))) (ac rfl (ac rfl (ac rfl (ac rfl (ac (cg (by omega)) (ao rfl))))))))))))))))))))))) ?_
        exact W_add rfl hM (max (nd a) (nd b)) 1 _ _ (by omega) (by omega) hc' hs.symm e2
    · have := zx (by omega)
      subst this
      have hb : 0 < nd b := by
        apply Nat.pos_of_ne_zero
        intro e
        have := nd_eq_zero.1 e
        have := nd_eq_zero.1 (show nd a = 0 by omega)
        omega
      simp only [Nat.zero_add] at hs hc' e2
      refine W.seg [(3, aF), (8, aT), (19, aF), (23, aT), (28, aV (I6 (y:Int))), (29, aV (I6 (y:Int))), (33, aV (I6 (↑(y % 65536) : Int))), (38, aV (I6 (↑(y / 65536) : Int))), (41, aV (I6 1))] [(624, 1)] (dsAdd na nb a b 1 [(↑(y % 65536) : Int)] (y / 65536)) (todo' := loopAt Tryz.f110 0) [decide (0 < (↑(nd a) : Int)) = false, decide (0 < (↑(nd b) : Int)) = true, decide (0 < (↑(nd a) : Int)) = false, decide (0 < (↑(nd b) : Int)) = true, (0 : Int) ≤ (0 : Int), 0 < (↑(nd b) : Int), I6 (List.getD (dg b) 0 (0 : Int)) = I6 (y:Int), 0 < nd b, I6 (IntKind.wrap .i64 (0 + (y:Int))) = I6 (y:Int), I6 (Int.tmod (y:Int) (65536 : Int)) = I6 (↑(y % 65536) : Int), (65536 : Int) ≠ (0 : Int), 1 ≤ 1, 0 < 1, 8 ≤ 140737488355328, 1 ≤ 9223372036854775807, I6 (IntKind.wrap .i64 (Int.tdiv (y:Int) (65536 : Int))) = I6 (↑(y / 65536) : Int), (65536 : Int) ≠ (0 : Int), I6 (IntKind.wrap .i64 ((0 : Int) + (1 : Int))) = I6 1, rr (PV.vec na (BI (nd a) (dg a))), rr (PV.vec nb (BI (nd b) (dg b))), rr (PV.ref 1 [] 1 0 1), rr (I6 (↑(y / 65536) : Int)), I6 1 = I6 (↑(1 : Nat) : Int), rr (BI 1 [(↑(y % 65536) : Int)])] (by kernel_rfl) (ac (decide_eq_false (by omega)) (ac (decide_eq_true (by omega)) (ac (decide_eq_false (by omega)) (ac (decide_eq_true (by omega)) (ac (by omega) (ac (by omega) (ac (cg (hy)) (ac (by omega) (ac (cg (w_i64 (by omega) (by omega) (by omega))) (ac (cg rfl) (ac (by omega) (ac (by omega) (ac (by omega) (ac (by omega) (ac (by omega) (ac (cg (w_i64 rfl (by omega) (by omega))) (ac (by omega) (ac (cg (w_i64 rfl (by omega) (by omega))) (ac rfl (ac rfl (ac rfl (ac rfl (ac (cg (by omega)) (ao rfl)))))))))))))))))))))))) ?_
      exact W_add rfl hM (max (nd a) (nd b)) 1 _ _ (by omega) (by omega) hc' hs.symm e2
end Go.Proofs
namespace Go.Pm
theorem half_set {a h c x m n : Nat} (hn : n < m) (hh : a / 65536 ^ (n + 1) = 2 * h + c) (hc : c < 2) (hx : a / 65536 ^ n % 65536 = x) :
    (dgn m (h * 65536 ^ (n + 1))).set n (((65536 * c + x) / 2 : Nat) : Int) = dgn m ((h * 65536 + (65536 * c + x) / 2) * 65536 ^ n) := by
  obtain ⟨_, h2⟩ := half_step hh hc hx
  have h3 := dgn_set (n := m) (i := n) (lo := 0) (d := 0) (hi := h) (x := (65536 * c + x) / 2) hn (Nat.pow_pos (by omega)) (by omega) h2
  rw [Nat.zero_add, Nat.zero_add, Nat.zero_add] at h3
  have e1 : h * 65536 ^ (n + 1) = 65536 ^ n * (65536 * h) := by rw [Nat.pow_succ, Nat.mul_comm h, Nat.mul_assoc]
  have e2 : (h * 65536 + (65536 * c + x) / 2) * 65536 ^ n = 65536 ^ n * ((65536 * c + x) / 2 + 65536 * h) := by rw [Nat.mul_comm]; congr 1; omega
  rw [e1, e2, h3]
theorem pow16_split (k : Nat) : 2 ^ (k % 16) * 65536 ^ (k / 16) = 2 ^ k := by
  rw [pow16, ← Nat.pow_add]; congr 1; omega
theorem pow_digit {m i n : Nat} (hi : i < 16) (hn : n < m) : (dgn m (2 ^ i * 65536 ^ n)).getD n 0 = ((2 ^ i : Nat) : Int) := by
  rw [dgn_getD hn, Nat.mul_div_cancel _ (Nat.pow_pos (by omega)), Nat.mod_eq_of_lt]
  have := Nat.pow_lt_pow_right (a := 2) (by omega) hi
  simpa using this
theorem pow_set {m n p q : Nat} (hp : p < 65536) (hq : q < 65536) (hn : n < m) : (dgn m (p * 65536 ^ n)).set n (q : Int) = dgn m (q * 65536 ^ n) := by
  have h := dgn_set (n := m) (i := n) (lo := 0) (d := p) (hi := 0) (x := q) hn (Nat.pow_pos (by omega)) hp hq
  simp only [Nat.zero_add, Nat.mul_zero, Nat.add_zero] at h
  rw [Nat.mul_comm p, Nat.mul_comm q, h]
theorem nd_pow (k : Nat) : nd (2 ^ k) = k / 16 + 1 := by
  refine nd_eq ?_ (.inr ?_)
  · rw [pow16]; exact Nat.pow_lt_pow_right (by omega) (by omega)
  · rw [pow16]; exact Nat.pow_le_pow_right (by omega) (by omega)
def wat (v n j : Nat) : Nat := v / 65536 ^ (max n (4 * j)) % 65536 ^ (4 * j + 4 - max n (4 * j))
def wsn (v n : Nat) : List Int := [((wat v n 0 : Nat) : Int), ((wat v n 1 : Nat) : Int), ((wat v n 2 : Nat) : Int), ((wat v n 3 : Nat) : Int)]
theorem wat_lt (v n j : Nat) : wat v n j < 18446744073709551616 := by
  unfold wat
  have h1 : v / 65536 ^ (max n (4 * j)) % 65536 ^ (4 * j + 4 - max n (4 * j)) < 65536 ^ (4 * j + 4 - max n (4 * j)) := Nat.mod_lt _ (Nat.pow_pos (by omega))
  have h2 : 65536 ^ (4 * j + 4 - max n (4 * j)) ≤ 65536 ^ 4 := Nat.pow_le_pow_right (by omega) (by omega)
  have h3 : 65536 ^ 4 = 18446744073709551616 := by decide
  omega
theorem wat_step {v n x : Nat} (hx : v / 65536 ^ n % 65536 = x) : wat v n (n / 4) = 65536 * wat v (n + 1) (n / 4) + x := by
  unfold wat
  rw [show max n (4 * (n / 4)) = n by omega, show max (n + 1) (4 * (n / 4)) = n + 1 by omega, div_digit',
    show 4 * (n / 4) + 4 - n = (4 * (n / 4) + 4 - (n + 1)) + 1 by omega, Nat.pow_succ, Nat.mul_comm (65536 ^ _) 65536, Nat.mod_mul, hx]
  omega
theorem wat_other {v n j : Nat} (h : j ≠ n / 4) : wat v n j = wat v (n + 1) j := by
  unfold wat
  by_cases h1 : n / 4 < j
  · rw [show max n (4 * j) = 4 * j by omega, show max (n + 1) (4 * j) = 4 * j by omega]
  · rw [show 4 * j + 4 - max n (4 * j) = 0 by omega, show 4 * j + 4 - max (n + 1) (4 * j) = 0 by omega]
    simp [Nat.mod_one]
theorem wsn_get {v n : Nat} (hn : n < 16) : (wsn v (n + 1)).getD (n / 4) 0 = ((wat v (n + 1) (n / 4) : Nat) : Int) := by
  have : n / 4 = 0 ∨ n / 4 = 1 ∨ n / 4 = 2 ∨ n / 4 = 3 := by omega
  rcases this with h | h | h | h <;> rw [h] <;> rfl
theorem wsn_set {v n x : Nat} (hn : n < 16) (hx : v / 65536 ^ n % 65536 = x) : (wsn v (n + 1)).set (n / 4) ((65536 * wat v (n + 1) (n / 4) + x : Nat) : Int) = wsn v n := by
  rw [← wat_step hx]
  have : n / 4 = 0 ∨ n / 4 = 1 ∨ n / 4 = 2 ∨ n / 4 = 3 := by omega
  unfold wsn
  rcases this with h | h | h | h
  · rw [wat_other (j := 1) (n := n) (by omega), wat_other (j := 2) (n := n) (by omega), wat_other (j := 3) (n := n) (by omega), h]; rfl
  · rw [wat_other (j := 0) (n := n) (by omega), wat_other (j := 2) (n := n) (by omega), wat_other (j := 3) (n := n) (by omega), h]; rfl
  · rw [wat_other (j := 0) (n := n) (by omega), wat_other (j := 1) (n := n) (by omega), wat_other (j := 3) (n := n) (by omega), h]; rfl
  · rw [wat_other (j := 0) (n := n) (by omega), wat_other (j := 1) (n := n) (by omega), wat_other (j := 2) (n := n) (by omega), h]; rfl
theorem wsn_zero (v : Nat) : wsn v 0 = uw v := by
  unfold wsn wat uw
  simp only [Nat.mul_zero, Nat.zero_max, Nat.max_self, Nat.pow_zero, Nat.div_one, Nat.zero_add, Nat.sub_zero, Nat.mul_one]
  have e : ∀ a b : Nat, v / a / b = v / (a * b) := fun a b => Nat.div_div_eq_div_mul v a b
  rw [e, e, show 4 + 4 - 4 = 4 by omega, show (65536 : Nat) ^ 4 = 18446744073709551616 by decide,
    show (65536 : Nat) ^ (4 * 2) = 18446744073709551616 * 18446744073709551616 by decide, show (65536 : Nat) ^ (4 * 3) = 18446744073709551616 * 18446744073709551616 * 18446744073709551616 by decide]
theorem wat_end {v n : Nat} (h : nd v ≤ n) (j : Nat) : wat v n j = 0 := by
  unfold wat
  rw [div_nd (Nat.le_trans h (Nat.le_max_left _ _)), Nat.zero_mod]
theorem wsn_end {v n : Nat} (h : nd v ≤ n) : wsn v n = [0, 0, 0, 0] := by unfold wsn; rw [wat_end h, wat_end h, wat_end h, wat_end h]; rfl
theorem nd_W256 {v : Nat} : nd v ≤ 16 ↔ v < W256 := by rw [nd_le]; exact Iff.rfl
def wdn : Nat → Nat → List Int
  | 0, _ => []
  | m + 1, v => ((v % 18446744073709551616 : Nat) : Int) :: wdn m (v / 18446744073709551616)
theorem wdn_length : ∀ (m v : Nat), (wdn m v).length = m
  | 0, _ => rfl
  | m + 1, v => by simp [wdn, wdn_length m]
theorem wdn_getD : ∀ {m v i : Nat}, i < m → (wdn m v).getD i 0 = ((v / 18446744073709551616 ^ i % 18446744073709551616 : Nat) : Int)
  | m + 1, v, 0, _ => by simp [wdn]
  | m + 1, v, i + 1, h => by
    have := wdn_getD (v := v / 18446744073709551616) (by omega : i < m)
    rw [Nat.div_div_eq_div_mul, Nat.mul_comm, ← Nat.pow_succ] at this
    simpa [wdn] using this
/-- the digit i of the word j -/
theorem word_digit {v i j w : Nat} (hi : i < 4) (hw : v / 18446744073709551616 ^ j % 18446744073709551616 = w) : v / 65536 ^ (4 * j + i) % 65536 = w / 65536 ^ i % 65536 := by
  rw [← hw, Nat.pow_add, show 65536 ^ (4 * j) = 18446744073709551616 ^ j by rw [Nat.pow_mul], ← Nat.div_div_eq_div_mul]
  generalize v / 18446744073709551616 ^ j = q
  obtain rfl | rfl | rfl | rfl : i = 0 ∨ i = 1 ∨ i = 2 ∨ i = 3 := by omega
  all_goals (simp only [Nat.reducePow]; omega)
end Go.Pm
namespace Go.Proofs
open Go Go.Pe Go.Pm
set_option maxRecDepth 100000
set_option linter.unusedVariables false
def dsSub (na nb : Bool) (a b i : Nat) (l : List Int) (c : Nat) : DS := ⟨[(0, bv na a), (1, bv nb b), (5, .ref 1 [] 1 0 i), (6, .int .i64 c), (7, .int .i64 i)], [(1, rowI i l)]⟩
theorem W_sub {na nb : Bool} {a b d : Nat} (hm : nd a ≤ 100000) (hb : nd b ≤ 100000) (hd : d ≤ a) : ∀ (k i c : Nat) (l : List Int), i + k = nd a → 0 < i → c ≤ 1 → l = dgn i d → a / 65536 ^ i = b / 65536 ^ i + d / 65536 ^ i + c →
    W Tryz.prog G0 Tryz.f111 [] [] (bv false d) (loopAt Tryz.f111 0) (dsSub na nb a b i l c)
  | 0, i, c, l, hk, hi, hc, hl, h => by
    have hlt : d < 65536 ^ i := by rw [show i = nd a by omega]; exact Nat.lt_of_le_of_lt hd (lt_nd a)
    have hll : l.length = i := by rw [hl, dgn_length]
    have ht := pc_trim (nl := false) (m := i) (by omega) hlt
    rw [← hl] at ht
    refine W.ret [(3, aF), (5, Ans.calla false [] [] [PV.vec false (BI i l)] [] (PV.vec false (BI (nd d) (dg d))))] [] [decide ((i:Int) < (↑(nd a) : Int)) = false, 0 + i ≤ i, rr ([] : List (Nat × Row)), ([PV.vec false (BI i (List.take i l))] : List PV) = [PV.vec false (BI i l)], PC Tryz.prog G0 41 [] [PV.vec false (BI i l)] [] (PV.vec false (BI (nd d) (dg d))), rr (PV.vec false (BI (nd d) (dg d)))] (by kernel_rfl) (ac (decide_eq_false (by omega)) (ac (by omega) (ac rfl (ac (by rw [List.take_of_length_le (show List.length l ≤ i by omega)]) (ac (ht) (ao rfl))))))
  | k + 1, i, c, l, hk, hi, hc, hl, h => by
    have hll : l.length = i := by rw [hl, dgn_length]
    have hx := dg_getD a i
    have hy := dg_getD b i
    obtain ⟨g1, g2⟩ := sub_step h rfl rfl
    have hs := dgn_snoc i d
    rw [← hl] at hs
    have lx : a / 65536 ^ i % 65536 < 65536 := Nat.mod_lt _ (by omega)
    have ly : b / 65536 ^ i % 65536 < 65536 := Nat.mod_lt _ (by omega)
    have zy : nd b ≤ i → b / 65536 ^ i % 65536 = 0 := fun hz => by rw [div_nd hz]
    generalize a / 65536 ^ i % 65536 = x at *
    generalize b / 65536 ^ i % 65536 = y at *
    by_cases hbr : c + y ≤ x
    · obtain ⟨e1, e2⟩ := g1 hbr hc
      rw [e1] at hs
      generalize hz : x - c - y = z at *
      by_cases hb : i < nd b
      · have hz' : (x : Int) - c - y = (z : Int) := by omega
        refine W.seg [(3, aT), (7, aV (I6 (x:Int))), (9, aV (I6 ((x:Int) - (c:Int)))), (14, aT), (19, aV (I6 (y:Int))), (20, aV (I6 (z:Int))), (28, Ans.ups [(1, none), (512, some (Row.mk (BI (i + 1) (l ++ [(z:Int)])) false))]), (31, aV (I6 (↑(i + 1) : Int)))] [(512, 1)] (dsSub na nb a b (i + 1) (l ++ [(z:Int)]) 0) (todo' := loopAt Tryz.f111 0) [decide ((i:Int) < (↑(nd a) : Int)) = true, 0 ≤ (i:Int), (i:Int) < (↑(nd a) : Int), I6 (List.getD (dg a) i (0 : Int)) = I6 (x:Int), i < nd a, I6 (IntKind.wrap .i64 ((x:Int) - (c:Int))) = I6 ((x:Int) - (c:Int)), decide ((i:Int) < (↑(nd b) : Int)) = true, 0 ≤ (i:Int), (i:Int) < (↑(nd b) : Int), I6 (List.getD (dg b) i (0 : Int)) = I6 (y:Int), i < nd b, I6 (IntKind.wrap .i64 ((x:Int) - (c:Int) - (y:Int))) = I6 (z:Int), ([(1, none), (512, some (Row.mk (BI (i + 1) (List.take i l ++ [(z:Int)])) false))] : List (Nat × Option Row)) = [(1, none), (512, some (Row.mk (BI (i + 1) (l ++ [(z:Int)])) false))], 1 ≤ 1, 0 + i = i, (i + 1) * 8 ≤ 140737488355328, i + 1 ≤ 9223372036854775807, I6 (IntKind.wrap .i64 ((i:Int) + 1)) = I6 (↑(i + 1) : Int), rr (PV.vec na (BI (nd a) (dg a))), rr (PV.vec nb (BI (nd b) (dg b))), rr (PV.ref 1 [] 1 0 (i + 1)), I6 0 = I6 (↑(0 : Nat) : Int), rr (I6 (↑(i + 1) : Int)), rr (BI (i + 1) (l ++ [(z:Int)]))] (by kernel_rfl) (ac (decide_eq_true (by omega)) (ac (by omega) (ac (by omega) (ac (cg (hx)) (ac (by omega) (ac (cg (w_i64 rfl (by omega) (by omega))) (ac (decide_eq_true (by omega)) (ac (by omega) (ac (by omega) (ac (cg (hy)) (ac (by omega) (ac (cg (w_i64 hz' (by omega) (by omega))) (ac (by rw [List.take_of_length_le (show List.length l ≤ i by omega)]) (ac (by omega) (ac (by omega) (ac (by omega) (ac (by omega) (ac (cg (w_i64 rfl (by omega) (by omega))) (ac rfl (ac rfl (ac rfl (ac (cg (by omega)) (ac rfl (ao rfl)))))))))))))))))))))))) ?_
        exact W_sub hm (by assumption) hd k (i + 1) _ _ (by omega) (by omega) (by omega) hs.symm e2
      · have := zy (by omega)
        subst this
        have hz' : (x : Int) - c = (z : Int) := by omega
        refine W.seg [(3, aT), (7, aV (I6 (x:Int))), (9, aV (I6 (z:Int))), (14, aF), (21, Ans.ups [(1, none), (400, some (Row.mk (BI (i + 1) (l ++ [(z:Int)])) false))]), (24, aV (I6 (↑(i + 1) : Int)))] [(400, 1)] (dsSub na nb a b (i + 1) (l ++ [(z:Int)]) 0) (todo' := loopAt Tryz.f111 0) [decide ((i:Int) < (↑(nd a) : Int)) = true, 0 ≤ (i:Int), (i:Int) < (↑(nd a) : Int), I6 (List.getD (dg a) i (0 : Int)) = I6 (x:Int), i < nd a, I6 (IntKind.wrap .i64 ((x:Int) - (c:Int))) = I6 (z:Int), decide ((i:Int) < (↑(nd b) : Int)) = false, ([(1, none), (400, some (Row.mk (BI (i + 1) (List.take i l ++ [(z:Int)])) false))] : List (Nat × Option Row)) = [(1, none), (400, some (Row.mk (BI (i + 1) (l ++ [(z:Int)])) false))], 1 ≤ 1, 0 + i = i, (i + 1) * 8 ≤ 140737488355328, i + 1 ≤ 9223372036854775807, I6 (IntKind.wrap .i64 ((i:Int) + 1)) = I6 (↑(i + 1) : Int), rr (PV.vec na (BI (nd a) (dg a))), rr (PV.vec nb (BI (nd b) (dg b))), rr (PV.ref 1 [] 1 0 (i + 1)), I6 0 = I6 (↑(0 : Nat) : Int), rr (I6 (↑(i + 1) : Int)), rr (BI (i + 1) (l ++ [(z:Int)]))] (by kernel_rfl) (ac (decide_eq_true (by omega)) (ac (by omega) (ac (by omega) (ac (cg (hx)) (ac (by omega) (ac (cg (w_i64 hz' (by omega) (by omega))) (ac (decide_eq_false (by omega)) (ac (by rw [List.take_of_length_le (show List.length l ≤ i by omega)]) (ac (by omega) (ac (by omega) (ac (by omega) (ac (by omega) (ac (cg (w_i64 rfl (by omega) (by omega))) (ac rfl (ac rfl (ac rfl (ac (cg (by omega)) (ac rfl (ao rfl))))))))))))))))))) ?_
        exact W_sub hm (by assumption) hd k (i + 1) _ _ (by omega) (by omega) (by omega) hs.symm e2
    · obtain ⟨e1, e2⟩ := g2 (by omega) hc
      rw [e1] at hs
      generalize hz : x + 65536 - c - y = z at *
      by_cases hb : i < nd b
      · have hz' : (x : Int) + 65536 - c - y = (z : Int) := by omega
        refine W.seg [(3, aT), (7, aV (I6 (x:Int))), (9, aV (I6 ((x:Int) - (c:Int)))), (14, aT), (19, aV (I6 (y:Int))), (20, aV (I6 ((x:Int) - (c:Int) - (y:Int)))), (24, aT), (26, aV (I6 (z:Int))), (32, Ans.ups [(1, none), (576, some (Row.mk (BI (i + 1) (l ++ [(z:Int)])) false))]), (35, aV (I6 (↑(i + 1) : Int)))] [(576, 1)] (dsSub na nb a b (i + 1) (l ++ [(z:Int)]) 1) (todo' := loopAt Tryz.f111 0) [decide ((i:Int) < (↑(nd a) : Int)) = true, 0 ≤ (i:Int), (i:Int) < (↑(nd a) : Int), I6 (List.getD (dg a) i (0 : Int)) = I6 (x:Int), i < nd a, I6 (IntKind.wrap .i64 ((x:Int) - (c:Int))) = I6 ((x:Int) - (c:Int)), decide ((i:Int) < (↑(nd b) : Int)) = true, 0 ≤ (i:Int), (i:Int) < (↑(nd b) : Int), I6 (List.getD (dg b) i (0 : Int)) = I6 (y:Int), i < nd b, I6 (IntKind.wrap .i64 ((x:Int) - (c:Int) - (y:Int))) = I6 ((x:Int) - (c:Int) - (y:Int)), decide ((x:Int) - (c:Int) - (y:Int) < 0) = true, I6 (IntKind.wrap .i64 ((x:Int) - (c:Int) - (y:Int) + 65536)) = I6 (z:Int), ([(1, none), (576, some (Row.mk (BI (i + 1) (List.take i l ++ [(z:Int)])) false))] : List (Nat × Option Row)) = [(1, none), (576, some (Row.mk (BI (i + 1) (l ++ [(z:Int)])) false))], 1 ≤ 1, 0 + i = i, (i + 1) * 8 ≤ 140737488355328, i + 1 ≤ 9223372036854775807, I6 (IntKind.wrap .i64 ((i:Int) + 1)) = I6 (↑(i + 1) : Int), rr (PV.vec na (BI (nd a) (dg a))), rr (PV.vec nb (BI (nd b) (dg b))), rr (PV.ref 1 [] 1 0 (i + 1)), I6 1 = I6 (↑(1 : Nat) : Int), rr (I6 (↑(i + 1) : Int)), rr (BI (i + 1) (l ++ [(z:Int)]))] (by kernel_rfl) (ac (decide_eq_true (by omega)) (ac (by omega) (ac (by omega) (ac (cg (hx)) (ac (by omega) (ac (cg (w_i64 rfl (by omega) (by omega))) (ac (decide_eq_true (by omega)) (ac (by omega) (ac (by omega) (ac (cg (hy)) (ac (by omega) (ac (cg (w_i64 rfl (by omega) (by omega))) (ac (decide_eq_true (by omega)) (ac (cg (w_i64 (by rw [← hz']; omega) (by omega) (by omega))) (ac (by rw [List.take_of_length_le (show List.length l ≤ i by omega)]) (ac (by omega) (ac (by omega) (ac (by omega) (ac (by omega) (ac (cg (w_i64 rfl (by omega) (by omega))) (ac rfl (ac rfl (ac rfl (ac (cg (by omega)) (ac rfl (ao rfl)))))))))))))))))))))))))) ?_
        exact W_sub hm (by assumption) hd k (i + 1) _ _ (by omega) (by omega) (by omega) hs.symm e2
      · have := zy (by omega)
        subst this
        have hz' : (x : Int) + 65536 - c = (z : Int) := by omega
        refine W.seg [(3, aT), (7, aV (I6 (x:Int))), (9, aV (I6 ((x:Int) - (c:Int)))), (14, aF), (17, aT), (19, aV (I6 (z:Int))), (25, Ans.ups [(1, none), (464, some (Row.mk (BI (i + 1) (l ++ [(z:Int)])) false))]), (28, aV (I6 (↑(i + 1) : Int)))] [(464, 1)] (dsSub na nb a b (i + 1) (l ++ [(z:Int)]) 1) (todo' := loopAt Tryz.f111 0) [decide ((i:Int) < (↑(nd a) : Int)) = true, 0 ≤ (i:Int), (i:Int) < (↑(nd a) : Int), I6 (List.getD (dg a) i (0 : Int)) = I6 (x:Int), i < nd a, I6 (IntKind.wrap .i64 ((x:Int) - (c:Int))) = I6 ((x:Int) - (c:Int)), decide ((i:Int) < (↑(nd b) : Int)) = false, decide ((x:Int) - (c:Int) < 0) = true, I6 (IntKind.wrap .i64 ((x:Int) - (c:Int) + 65536)) = I6 (z:Int), ([(1, none), (464, some (Row.mk (BI (i + 1) (List.take i l ++ [(z:Int)])) false))] : List (Nat × Option Row)) = [(1, none), (464, some (Row.mk (BI (i + 1) (l ++ [(z:Int)])) false))], 1 ≤ 1, 0 + i = i, (i + 1) * 8 ≤ 140737488355328, i + 1 ≤ 9223372036854775807, I6 (IntKind.wrap .i64 ((i:Int) + 1)) = I6 (↑(i + 1) : Int), rr (PV.vec na (BI (nd a) (dg a))), rr (PV.vec nb (BI (nd b) (dg b))), rr (PV.ref 1 [] 1 0 (i + 1)), I6 1 = I6 (↑(1 : Nat) : Int), rr (I6 (↑(i + 1) : Int)), rr (BI (i + 1) (l ++ [(z:Int)]))] (by kernel_rfl) (ac (decide_eq_true (by omega)) (ac (by omega) (ac (by omega) (ac (cg (hx)) (ac (by omega) (ac (cg (w_i64 rfl (by omega) (by omega))) (ac (decide_eq_false (by omega)) (ac (decide_eq_true (by omega)) (ac (cg (w_i64 (by rw [← hz']; omega) (by omega) (by omega))) (ac (by rw [List.take_of_length_le (show List.length l ≤ i by omega)]) (ac (by omega) (ac (by omega) (ac (by omega) (ac (by omega) (ac (cg (w_i64 rfl (by omega) (by omega))) (ac rfl (ac rfl (ac rfl (ac (cg (by omega)) (ac rfl (ao rfl))))))))))))))))))))) ?_
        exact W_sub hm (by assumption) hd k (i + 1) _ _ (by omega) (by omega) (by omega) hs.symm e2
theorem pc_bSub {na nb : Bool} {a b : Nat} (ha : nd a ≤ 100000) (hb : nd b ≤ 100000) (hle : b ≤ a) : PC Tryz.prog G0 111 [] [bv na a, bv nb b] [] (bv (decide (a = 0)) (a - b)) := by
  refine PC.of (fn := Tryz.f111) (c := bodyOf Tryz.f111) Tryz.func111 (by kernel_rfl) (by kernel_rfl) (by kernel_rfl) (by kernel_rfl) ?_
  refine W.seg [] [] (dsAdd0 na nb a b) (todo' := loopAt Tryz.f111 0) [rr (PV.vec na (BI (nd a) (dg a))), rr (PV.vec nb (BI (nd b) (dg b))), rr (PV.vec true (BI 0 [])), rr (I6 0), rr (I6 0)] (by kernel_rfl) (ac rfl (ac rfl (ac rfl (ac rfl (ao rfl))))) ?_
  by_cases h0 : a = 0
  · have h2 : b = 0 := by omega
    subst h0; subst h2
    have ht := pc_trim (nl := true) (m := 0) (v := 0) (by omega) (by omega)
    refine W.ret [(2, aV (I6 0)), (5, aK (PV.vec true (BI 0 (dg 0))))] [] [I6 (↑(0 : Nat) : Int) = I6 0, PC Tryz.prog G0 41 [] [PV.vec true (BI 0 [])] [] (PV.vec true (BI 0 (dg 0))), PV.vec true (BI 0 (dg 0)) = PV.vec true (BI 0 (dg (0 - 0)))] (by kernel_rfl) (ac (cg (by omega)) (ac (ht) (ao rfl)))
  · have hf : decide (a = 0) = false := decide_eq_false h0
    rw [hf]
    have hn0 : 0 < nd a := by
      apply Nat.pos_of_ne_zero
      intro e
      exact h0 (nd_eq_zero.1 e)
    have h : a / 65536 ^ 0 = b / 65536 ^ 0 + (a - b) / 65536 ^ 0 + 0 := by simp only [Nat.pow_zero, Nat.div_one]; omega
    have hd : a - b ≤ a := Nat.sub_le _ _
    generalize a - b = d at *
    have hx := dg_getD a 0
    have hy := dg_getD b 0
    obtain ⟨g1, g2⟩ := sub_step h rfl rfl
    have hs : dgn 1 d = [((d / 65536 ^ 0 % 65536 : Nat) : Int)] := dgn_snoc 0 d
    have lx : a / 65536 ^ 0 % 65536 < 65536 := Nat.mod_lt _ (by omega)
    have ly : b / 65536 ^ 0 % 65536 < 65536 := Nat.mod_lt _ (by omega)
    have zy : nd b ≤ 0 → b / 65536 ^ 0 % 65536 = 0 := fun hz => by rw [div_nd hz]
    generalize a / 65536 ^ 0 % 65536 = x at *
    generalize b / 65536 ^ 0 % 65536 = y at *
    by_cases hbr : 0 + y ≤ x
    · obtain ⟨e1, e2⟩ := g1 hbr (by omega)
      rw [e1] at hs
      generalize hz : x - 0 - y = z at *
      by_cases hb : 0 < nd b
      · have hz' : (x : Int) - y = (z : Int) := by omega
        refine W.seg [(3, aT), (7, aV (I6 (x:Int))), (9, aV (I6 (x:Int))), (14, aT), (19, aV (I6 (y:Int))), (20, aV (I6 (z:Int))), (31, aV (I6 1))] [(512, 1)] (dsSub na nb a b 1 [(z:Int)] 0) (todo' := loopAt Tryz.f111 0) [decide (0 < (↑(nd a) : Int)) = true, (0 : Int) ≤ (0 : Int), 0 < (↑(nd a) : Int), I6 (List.getD (dg a) 0 (0 : Int)) = I6 (x:Int), 0 < nd a, I6 (IntKind.wrap .i64 ((x:Int) - 0)) = I6 (x:Int), decide (0 < (↑(nd b) : Int)) = true, (0 : Int) ≤ (0 : Int), 0 < (↑(nd b) : Int), I6 (List.getD (dg b) 0 (0 : Int)) = I6 (y:Int), 0 < nd b, I6 (IntKind.wrap .i64 ((x:Int) - (y:Int))) = I6 (z:Int), 1 ≤ 1, 0 < 1, 8 ≤ 140737488355328, 1 ≤ 9223372036854775807, I6 (IntKind.wrap .i64 ((0 : Int) + (1 : Int))) = I6 1, rr (PV.vec na (BI (nd a) (dg a))), rr (PV.vec nb (BI (nd b) (dg b))), rr (PV.ref 1 [] 1 0 1), I6 0 = I6 (↑(0 : Nat) : Int), I6 1 = I6 (↑(1 : Nat) : Int), rr (BI 1 [(z:Int)])] (by kernel_rfl) (ac (decide_eq_true (by omega)) (ac (by omega) (ac (by omega) (ac (cg (hx)) (ac (by omega) (ac (cg (w_i64 rfl (by omega) (by omega))) (ac (decide_eq_true (by omega)) (ac (by omega) (ac (by omega) (ac (cg (hy)) (ac (by omega) (ac (cg (w_i64 hz' (by omega) (by omega))) (ac (by omega) (ac (by omega) (ac (by omega) (ac (by omega) (ac (cg (w_i64 rfl (by omega) (by omega))) (ac rfl (ac rfl (ac rfl (ac (cg (by omega)) (ac (cg (by omega)) (ao rfl))))))))))))))))))))))) ?_
        exact W_sub ha (by assumption) hd (nd a - 1) 1 _ _ (by omega) (by omega) (by omega) hs.symm e2
      · have := zy (by omega)
        subst this
        have hz' : (x : Int) = (z : Int) := by omega
        refine W.seg [(3, aT), (7, aV (I6 (x:Int))), (9, aV (I6 (z:Int))), (14, aF), (24, aV (I6 1))] [(400, 1)] (dsSub na nb a b 1 [(z:Int)] 0) (todo' := loopAt Tryz.f111 0) [decide (0 < (↑(nd a) : Int)) = true, (0 : Int) ≤ (0 : Int), 0 < (↑(nd a) : Int), I6 (List.getD (dg a) 0 (0 : Int)) = I6 (x:Int), 0 < nd a, I6 (IntKind.wrap .i64 ((x:Int) - 0)) = I6 (z:Int), decide (0 < (↑(nd b) : Int)) = false, 1 ≤ 1, 0 < 1, 8 ≤ 140737488355328, 1 ≤ 9223372036854775807, I6 (IntKind.wrap .i64 ((0 : Int) + (1 : Int))) = I6 1, rr (PV.vec na (BI (nd a) (dg a))), rr (PV.vec nb (BI (nd b) (dg b))), rr (PV.ref 1 [] 1 0 1), I6 0 = I6 (↑(0 : Nat) : Int), I6 1 = I6 (↑(1 : Nat) : Int), rr (BI 1 [(z:Int)])] (by kernel_rfl) (ac (decide_eq_true (by omega)) (ac (by omega) (ac (by omega) (ac (cg (hx)) (ac (by omega) (ac (cg (w_i64 hz' (by omega) (by omega))) (ac (decide_eq_false (by omega)) (ac (by omega) (ac (by omega) (ac (by omega) (ac (by omega) (ac (cg (w_i64 rfl (by omega) (by omega))) (ac rfl (ac rfl (ac rfl (ac (cg (by omega)) (ac (cg (by omega)) (ao rfl)))))))))))))))))) ?_
        exact W_sub ha (by assumption) hd (nd a - 1) 1 _ _ (by omega) (by omega) (by omega) hs.symm e2
    · obtain ⟨e1, e2⟩ := g2 (by omega) (by omega)
      rw [e1] at hs
      generalize hz : x + 65536 - 0 - y = z at *
      by_cases hb : 0 < nd b
      · have hz' : (x : Int) + 65536 - y = (z : Int) := by omega
        refine W.seg [(3, aT), (7, aV (I6 (x:Int))), (9, aV (I6 (x:Int))), (14, aT), (19, aV (I6 (y:Int))), (20, aV (I6 ((x:Int) - (y:Int)))), (24, aT), (26, aV (I6 (z:Int))), (35, aV (I6 1))] [(576, 1)] (dsSub na nb a b 1 [(z:Int)] 1) (todo' := loopAt Tryz.f111 0) [decide (0 < (↑(nd a) : Int)) = true, (0 : Int) ≤ (0 : Int), 0 < (↑(nd a) : Int), I6 (List.getD (dg a) 0 (0 : Int)) = I6 (x:Int), 0 < nd a, I6 (IntKind.wrap .i64 ((x:Int) - 0)) = I6 (x:Int), decide (0 < (↑(nd b) : Int)) = true, (0 : Int) ≤ (0 : Int), 0 < (↑(nd b) : Int), I6 (List.getD (dg b) 0 (0 : Int)) = I6 (y:Int), 0 < nd b, I6 (IntKind.wrap .i64 ((x:Int) - (y:Int))) = I6 ((x:Int) - (y:Int)), decide ((x:Int) - (y:Int) < 0) = true, I6 (IntKind.wrap .i64 ((x:Int) - (y:Int) + 65536)) = I6 (z:Int), 1 ≤ 1, 0 < 1, 8 ≤ 140737488355328, 1 ≤ 9223372036854775807, I6 (IntKind.wrap .i64 ((0 : Int) + (1 : Int))) = I6 1, rr (PV.vec na (BI (nd a) (dg a))), rr (PV.vec nb (BI (nd b) (dg b))), rr (PV.ref 1 [] 1 0 1), I6 1 = I6 (↑(1 : Nat) : Int), I6 1 = I6 (↑(1 : Nat) : Int), rr (BI 1 [(z:Int)])] (by kernel_rfl) (ac (decide_eq_true (by omega)) (ac (by omega) (ac (by omega) (ac (cg (hx)) (ac (by omega) (ac (cg (w_i64 rfl (by omega) (by omega))) (ac (decide_eq_true (by omega)) (ac (by omega) (ac (by omega) (ac (cg (hy)) (ac (by omega) (ac (cg (w_i64 rfl (by omega) (by omega))) (ac (decide_eq_true (by omega)) (ac (cg (w_i64 (by rw [← hz']; omega) (by omega) (by omega))) (ac (by omega) (ac (by omega) (ac (by omega) (ac (by omega) (ac (cg (w_i64 rfl (by omega) (by omega))) (ac rfl (ac rfl (ac rfl (ac (cg (by omega)) (ac (cg (by omega)) (ao rfl))))))))))))))))))))))))) ?_
        exact W_sub ha (by assumption) hd (nd a - 1) 1 _ _ (by omega) (by omega) (by omega) hs.symm e2
      · have := zy (by omega)
        omega
def dsHalf (na : Bool) (a m : Nat) (l : List Int) (c : Nat) (i : Int) : DS := ⟨[(0, bv na a), (3, .ref 1 [] 1 0 m), (4, .int .i64 c), (5, .int .i64 i)], [(1, rowI m l)]⟩
theorem W_half {na : Bool} {a m : Nat} (hm : m = nd a) (hm1 : m ≤ 100000) : ∀ (n h c : Nat) (l : List Int), n ≤ m → a / 65536 ^ n = 2 * h + c → c < 2 → l = dgn m (h * 65536 ^ n) →
    W Tryz.prog G0 Tryz.f62 [] [] (bv false (a / 2)) (loopAt Tryz.f62 0) (dsHalf na a m l c ((n : Int) - 1))
  | 0, h, c, l, hn, hh, hc, hl => by
    have e : a / 2 = h := by simp only [Nat.pow_zero, Nat.div_one] at hh; omega
    rw [e]
    have hlt : h < 65536 ^ m := by rw [← e, hm]; exact Nat.lt_of_le_of_lt (Nat.div_le_self _ _) (lt_nd a)
    rw [Nat.pow_zero, Nat.mul_one] at hl
    have hll : l.length = m := by rw [hl, dgn_length]
    have ht := pc_trim (nl := false) (m := m) (by omega) hlt
    rw [← hl] at ht
    refine W.ret [(0, aV (I6 (-1))), (3, Ans.calla false [] [] [PV.vec false (BI m l)] [] (PV.vec false (BI (nd h) (dg h))))] [] [I6 ((↑(0 : Nat) : Int) - 1) = I6 (-1), 0 + m ≤ m, rr ([] : List (Nat × Row)), ([PV.vec false (BI m (List.take m l))] : List PV) = [PV.vec false (BI m l)], PC Tryz.prog G0 41 [] [PV.vec false (BI m l)] [] (PV.vec false (BI (nd h) (dg h))), rr (PV.vec false (BI (nd h) (dg h)))] (by kernel_rfl) (ac (cg (by omega)) (ac (by omega) (ac rfl (ac (by rw [List.take_of_length_le (show List.length l ≤ m by omega)]) (ac (ht) (ao rfl))))))
  | n + 1, h, c, l, hn, hh, hc, hl => by
    have hll : l.length = m := by rw [hl, dgn_length]
    have hx := dg_getD a n
    have hset := half_set (m := m) (by omega) hh hc rfl
    obtain ⟨e1, e2⟩ := half_step hh hc rfl
    rw [← hl] at hset
    have lx : a / 65536 ^ n % 65536 < 65536 := Nat.mod_lt _ (by omega)
    generalize a / 65536 ^ n % 65536 = x at *
    refine W.seg [(0, aV (I6 (n:Int))), (3, aV (I6 (↑(65536 * c) : Int))), (5, aV (I6 (n:Int))), (7, aV (I6 (x:Int))), (8, aV (I6 (↑(65536 * c + x) : Int))), (11, aV (I6 (n:Int))), (13, aV (I6 (↑((65536 * c + x) / 2) : Int))), (14, aV (PV.at 1 [Stp.idx n 1])), (17, aV (I6 (↑((65536 * c + x) % 2) : Int))), (19, aV (I6 (n:Int))), (20, aV (I6 ((n:Int) - 1)))] [(1, 1)] (dsHalf na a m (List.set l n (↑((65536 * c + x) / 2) : Int)) ((65536 * c + x) % 2) ((n:Int) - 1)) (todo' := loopAt Tryz.f62 0) [I6 ((↑(n + 1) : Int) - 1) = I6 (n:Int), I6 (IntKind.wrap .i64 ((c:Int) * (65536 : Int))) = I6 (↑(65536 * c) : Int), I6 ((↑(n + 1) : Int) - 1) = I6 (n:Int), 0 ≤ (n:Int), (n:Int) < (↑(nd a) : Int), I6 (List.getD (dg a) n (0 : Int)) = I6 (x:Int), n < nd a, I6 (IntKind.wrap .i64 ((↑(65536 * c) : Int) + (x:Int))) = I6 (↑(65536 * c + x) : Int), I6 ((↑(n + 1) : Int) - 1) = I6 (n:Int), I6 (IntKind.wrap .i64 (Int.tdiv (↑(65536 * c + x) : Int) (2 : Int))) = I6 (↑((65536 * c + x) / 2) : Int), (2 : Int) ≠ (0 : Int), PV.at 1 [Stp.idx (0 + n) 1] = PV.at 1 [Stp.idx n 1], 0 ≤ (n:Int), (n:Int) < (m:Int), n < m, I6 (Int.tmod (↑(65536 * c + x) : Int) (2 : Int)) = I6 (↑((65536 * c + x) % 2) : Int), (2 : Int) ≠ (0 : Int), I6 ((↑(n + 1) : Int) - 1) = I6 (n:Int), I6 (IntKind.wrap .i64 ((n:Int) - 1)) = I6 ((n:Int) - 1), rr (PV.vec na (BI (nd a) (dg a))), rr (PV.ref 1 [] 1 0 m), rr (I6 (↑((65536 * c + x) % 2) : Int)), rr (I6 ((n:Int) - 1)), rr (BI m (List.set l n (↑((65536 * c + x) / 2) : Int)))] (by kernel_rfl) (ac (cg (by omega)) (ac (cg (w_i64 (by omega) (by omega) (by omega))) (ac (cg (by omega)) (ac (by omega) (ac (by omega) (ac (cg (hx)) (ac (by omega) (ac (cg (w_i64 rfl (by omega) (by omega))) (ac (cg (by omega)) (ac (cg (w_i64 rfl (by omega) (by omega))) (ac (by omega) (ac (by simp only [Nat.zero_add]) (ac (by omega) (ac (by omega) (ac (by omega) (ac (cg rfl) (ac (by omega) (ac (cg (by omega)) (ac (cg (w_i64 rfl (by omega) (by omega))) (ac rfl (ac rfl (ac rfl (ac rfl (ao rfl)))))))))))))))))))))))) ?_
    exact W_half hm hm1 n _ _ _ (by omega) e1 (Nat.mod_lt _ (by omega)) hset
theorem pc_bHalf {na : Bool} {a : Nat} (ha : nd a ≤ 100000) : PC Tryz.prog G0 62 [] [bv na a] [] (bv false (a / 2)) := by
  refine PC.of (fn := Tryz.f62) (c := bodyOf Tryz.f62) Tryz.func62 (by kernel_rfl) (by kernel_rfl) (by kernel_rfl) (by kernel_rfl) ?_
  refine W.seg [(3, Ans.vu (PV.ref 112 [] 1 0 (nd a)) [(112, some (Row.mk (BI (nd a) (List.replicate (nd a) (0 : Int))) false))]), (8, aV (I6 ((↑(nd a) : Int) - 1)))] [(112, 1)] (dsHalf na a (nd a) (List.replicate (nd a) (0 : Int)) 0 ((↑(nd a) : Int) - 1)) (todo' := loopAt Tryz.f62 0) [([(112, some (Row.mk (BI (Int.toNat (↑(nd a) : Int)) (List.replicate (Int.toNat (↑(nd a) : Int)) (0 : Int))) false))] : List (Nat × Option Row)) = [(112, some (Row.mk (BI (nd a) (List.replicate (nd a) (0 : Int))) false))], PV.ref 112 [] 1 0 (Int.toNat (↑(nd a) : Int)) = PV.ref 112 [] 1 0 (nd a), 0 ≤ (↑(nd a) : Int), (↑(nd a) : Int) ≤ (↑(nd a) : Int), (↑(nd a) : Int) ≤ 9223372036854775807, (↑(8 : Nat) : Int) * (↑(nd a) : Int) ≤ 140737488355328, I6 (IntKind.wrap .i64 ((↑(nd a) : Int) - 1)) = I6 ((↑(nd a) : Int) - 1), rr (PV.vec na (BI (nd a) (dg a))), rr (PV.ref 1 [] 1 0 (nd a)), I6 0 = I6 (↑(0 : Nat) : Int), rr (I6 ((↑(nd a) : Int) - 1)), rr (BI (nd a) (List.replicate (nd a) (0 : Int)))] (by kernel_rfl) (ac (by simp only [Int.toNat_natCast]) (ac (by simp only [Int.toNat_natCast]) (ac (by omega) (ac (by omega) (ac (by omega) (ac (by omega) (ac (cg (w_i64 rfl (by omega) (by omega))) (ac rfl (ac rfl (ac (cg (by omega)) (ac rfl (ao rfl)))))))))))) ?_
  exact W_half rfl ha (nd a) 0 0 _ (Nat.le_refl _) (by rw [div_nd (Nat.le_refl _)]) (by omega) (by rw [Nat.zero_mul, dgn_zero])
def dsPow (k m : Nat) (l : List Int) (i : Nat) : DS := ⟨[(0, .int .i64 k), (3, .ref 1 [] 1 0 m), (4, .int .i64 i)], [(1, rowI m l)]⟩
theorem W_pow {k : Nat} (hk : k ≤ 1000000) : ∀ (j i : Nat) (l : List Int), i + j = k % 16 → l = dgn (k / 16 + 1) (2 ^ i * 65536 ^ (k / 16)) →
    W Tryz.prog G0 Tryz.f61 [] [] (bv false (2 ^ k)) (loopAt Tryz.f61 0) (dsPow k (k / 16 + 1) l i)
  | 0, i, l, hj, hl => by
    have hll : l.length = k / 16 + 1 := by rw [hl, dgn_length]
    have e : bv false (2 ^ k) = .vec false (.iarr .i64 (k / 16 + 1) l) := by
      rw [hl, show i = k % 16 by omega, pow16_split]
      unfold bv dg
      rw [nd_pow]
    rw [e]
    refine W.ret [(2, aV (I6 (↑(k % 16) : Int))), (3, aF)] [] [I6 (Int.tmod (k:Int) (16 : Int)) = I6 (↑(k % 16) : Int), (16 : Int) ≠ (0 : Int), decide ((i:Int) < (↑(k % 16) : Int)) = false, 0 + (k / 16 + 1) ≤ k / 16 + 1, PV.vec false (BI (k / 16 + 1) (List.take (k / 16 + 1) l)) = PV.vec false (BI (k / 16 + 1) l)] (by kernel_rfl) (ac (cg rfl) (ac (by omega) (ac (decide_eq_false (by omega)) (ac (by omega) (ao ?_)))))
    rw [List.take_of_length_le (by omega)]
  | j + 1, i, l, hj, hl => by
    have hll : l.length = k / 16 + 1 := by rw [hl, dgn_length]
    have hg := pow_digit (m := k / 16 + 1) (i := i) (n := k / 16) (by omega) (by omega)
    have hp1 : 2 ^ i < 65536 := by
      have := Nat.pow_lt_pow_right (a := 2) (by omega) (show i < 16 by omega)
      simpa using this
    have hp2 : 2 ^ (i + 1) < 65536 := by
      have := Nat.pow_lt_pow_right (a := 2) (by omega) (show i + 1 < 16 by omega)
      simpa using this
    have hset := pow_set (m := k / 16 + 1) (n := k / 16) hp1 hp2 (by omega)
    rw [← hl] at hg hset
    rw [Nat.pow_succ, Nat.mul_comm] at hset hp2
    generalize hpp : 2 ^ i = p at *
    refine W.seg [(2, aV (I6 (↑(k % 16) : Int))), (3, aT), (6, aV (I6 (↑(k / 16) : Int))), (7, aV (PV.at 1 [Stp.idx (k / 16) 1])), (8, aV (I6 (p:Int))), (9, aV (I6 (↑(2 * p) : Int))), (10, aV (PV.at 1 [Stp.idx (k / 16) 1])), (13, aV (I6 (↑(i + 1) : Int)))] [(1, 1)] (dsPow k (k / 16 + 1) (List.set l (k / 16) (↑(2 * p) : Int)) (i + 1)) (todo' := loopAt Tryz.f61 0) [I6 (Int.tmod (k:Int) (16 : Int)) = I6 (↑(k % 16) : Int), (16 : Int) ≠ (0 : Int), decide ((i:Int) < (↑(k % 16) : Int)) = true, I6 (IntKind.wrap .i64 (Int.tdiv (k:Int) (16 : Int))) = I6 (↑(k / 16) : Int), (16 : Int) ≠ (0 : Int), PV.at 1 [Stp.idx (0 + Int.toNat (↑(k / 16) : Int)) 1] = PV.at 1 [Stp.idx (k / 16) 1], 0 ≤ (↑(k / 16) : Int), (↑(k / 16) : Int) < (↑(k / 16 + 1) : Int), I6 (List.getD l (k / 16) (0 : Int)) = I6 (p:Int), k / 16 < k / 16 + 1, I6 (IntKind.wrap .i64 ((p:Int) * (2 : Int))) = I6 (↑(2 * p) : Int), PV.at 1 [Stp.idx (0 + Int.toNat (↑(k / 16) : Int)) 1] = PV.at 1 [Stp.idx (k / 16) 1], 0 ≤ (↑(k / 16) : Int), (↑(k / 16) : Int) < (↑(k / 16 + 1) : Int), k / 16 < k / 16 + 1, I6 (IntKind.wrap .i64 ((i:Int) + 1)) = I6 (↑(i + 1) : Int), rr (I6 (k:Int)), rr (PV.ref 1 [] 1 0 (k / 16 + 1)), rr (I6 (↑(i + 1) : Int)), rr (BI (k / 16 + 1) (List.set l (k / 16) (↑(2 * p) : Int)))] (by kernel_rfl) (ac (cg rfl) (ac (by omega) (ac (decide_eq_true (by omega)) (ac (cg (w_i64 rfl (by omega) (by omega))) (ac (by omega) (ac (by simp only [Int.toNat_natCast, Nat.zero_add]) (ac (by omega) (ac (by omega) (ac (cg (hg)) (ac (by omega) (ac (cg (w_i64 (by omega) (by omega) (by omega))) (ac (by simp only [Int.toNat_natCast, Nat.zero_add]) (ac (by omega) (ac (by omega) (ac (by omega) (ac (cg (w_i64 rfl (by omega) (by omega))) (ac rfl (ac rfl (ac rfl (ao rfl)))))))))))))))))))) ?_
    refine W_pow hk j (i + 1) _ (by omega) ?_
    rw [hset, Nat.pow_succ, hpp, Nat.mul_comm 2 p]
theorem pc_bPow {k : Nat} (hk : k ≤ 1000000) : PC Tryz.prog G0 61 [] [.int .i64 k] [] (bv false (2 ^ k)) := by
  refine PC.of (fn := Tryz.f61) (c := bodyOf Tryz.f61) Tryz.func61 (by kernel_rfl) (by kernel_rfl) (by kernel_rfl) (by kernel_rfl) ?_
  have hset := pow_set (m := k / 16 + 1) (n := k / 16) (p := 0) (q := 1) (by omega) (by omega) (by omega)
  rw [Nat.zero_mul, dgn_zero] at hset
  refine W.seg [(2, aV (I6 (↑(k / 16) : Int))), (3, aV (I6 (↑(k / 16 + 1) : Int))), (4, Ans.vu (PV.ref 128 [] 1 0 (k / 16 + 1)) [(128, some (Row.mk (BI (k / 16 + 1) (List.replicate (k / 16 + 1) (0 : Int))) false))]), (8, aV (I6 (↑(k / 16) : Int))), (9, aV (PV.at 128 [Stp.idx (k / 16) 1]))] [(128, 1)] (dsPow k (k / 16 + 1) (List.set (List.replicate (k / 16 + 1) (0 : Int)) (k / 16) (1 : Int)) 0) (todo' := loopAt Tryz.f61 0) [I6 (IntKind.wrap .i64 (Int.tdiv (k:Int) (16 : Int))) = I6 (↑(k / 16) : Int), (16 : Int) ≠ (0 : Int), I6 (IntKind.wrap .i64 ((↑(k / 16) : Int) + 1)) = I6 (↑(k / 16 + 1) : Int), ([(128, some (Row.mk (BI (Int.toNat (↑(k / 16 + 1) : Int)) (List.replicate (Int.toNat (↑(k / 16 + 1) : Int)) (0 : Int))) false))] : List (Nat × Option Row)) = [(128, some (Row.mk (BI (k / 16 + 1) (List.replicate (k / 16 + 1) (0 : Int))) false))], PV.ref 128 [] 1 0 (Int.toNat (↑(k / 16 + 1) : Int)) = PV.ref 128 [] 1 0 (k / 16 + 1), 0 ≤ (↑(k / 16 + 1) : Int), (↑(k / 16 + 1) : Int) ≤ (↑(k / 16 + 1) : Int), (↑(k / 16 + 1) : Int) ≤ 9223372036854775807, (↑(8 : Nat) : Int) * (↑(k / 16 + 1) : Int) ≤ 140737488355328, I6 (IntKind.wrap .i64 (Int.tdiv (k:Int) (16 : Int))) = I6 (↑(k / 16) : Int), (16 : Int) ≠ (0 : Int), PV.at 128 [Stp.idx (0 + Int.toNat (↑(k / 16) : Int)) 1] = PV.at 128 [Stp.idx (k / 16) 1], 0 ≤ (↑(k / 16) : Int), (↑(k / 16) : Int) < (↑(k / 16 + 1) : Int), k / 16 < k / 16 + 1, rr (I6 (k:Int)), rr (PV.ref 1 [] 1 0 (k / 16 + 1)), I6 0 = I6 (↑(0 : Nat) : Int), rr (BI (k / 16 + 1) (List.set (List.replicate (k / 16 + 1) (0 : Int)) (k / 16) (1 : Int)))] (by kernel_rfl) (ac (cg (w_i64 rfl (by omega) (by omega))) (ac (by omega) (ac (cg (w_i64 rfl (by omega) (by omega))) (ac (by simp only [Int.toNat_natCast]) (ac (by simp only [Int.toNat_natCast]) (ac (by omega) (ac (by omega) (ac (by omega) (ac (by omega) (ac (cg (w_i64 rfl (by omega) (by omega))) (ac (by omega) (ac (by simp only [Int.toNat_natCast, Nat.zero_add]) (ac (by omega) (ac (by omega) (ac (by omega) (ac rfl (ac rfl (ac (cg (by omega)) (ao rfl))))))))))))))))))) ?_
  exact W_pow hk (k % 16) 0 _ (by omega) hset
end Go.Proofs
namespace Go.Proofs
open Go Go.Pe Go.Pm
set_option maxRecDepth 100000
set_option linter.unusedVariables false
def wv (nl : Bool) (m : Nat) (ws : List Int) : PV := .vec nl (.iarr .u64 m ws)
def dsOfO (nl : Bool) (m : Nat) (ws : List Int) (j n : Nat) (l : List Int) : DS := ⟨[(0, wv nl m ws), (3, .ref 1 [] 1 0 n), (7, wv nl m ws), (8, .int .i64 m), (9, .int .i64 j)], [(1, rowI n l)]⟩
def dsOfI (nl : Bool) (m : Nat) (ws : List Int) (j n : Nat) (l : List Int) (w i : Nat) : DS := ⟨[(0, wv nl m ws), (3, .ref 1 [] 1 0 n), (5, .int .u64 w), (6, .int .i64 i), (7, wv nl m ws), (8, .int .i64 m), (9, .int .i64 j)], [(1, rowI n l)]⟩
def dsOfO0 (nl : Bool) (m : Nat) (ws : List Int) : DS := ⟨[(0, wv nl m ws), (3, .vec true (.iarr .i64 0 [])), (7, wv nl m ws), (8, .int .i64 m), (9, .int .i64 0)], []⟩
def dsOfI0 (nl : Bool) (m : Nat) (ws : List Int) (w : Nat) : DS := ⟨[(0, wv nl m ws), (3, .vec true (.iarr .i64 0 [])), (5, .int .u64 w), (6, .int .i64 0), (7, wv nl m ws), (8, .int .i64 m), (9, .int .i64 0)], []⟩
theorem W_ofI {nl : Bool} {m v j w0 : Nat} {ws : List Int} {res : PV} (hm : m ≤ 1000) (hj : j < m) (hw : v / 18446744073709551616 ^ j % 18446744073709551616 = w0) (hlw : ws.length = m) : ∀ (k i n w : Nat) (l : List Int), i + k = 4 → 0 < n → n = 4 * j + i → l = dgn n v → w = w0 / 65536 ^ i → w < 18446744073709551616 →
    W Tryz.prog G0 Tryz.f20 [] [] res (loopAt Tryz.f20 0) (dsOfO nl m ws (j + 1) (4 * j + 4) (dgn (4 * j + 4) v)) →
    W Tryz.prog G0 Tryz.f20 [] [] res (loopAt Tryz.f20 1) (dsOfI nl m ws j n l w i)
  | 0, i, n, w, l, hk, h0, hn, hl, hww, hlt, hnext => by
    have e : n = 4 * j + 4 := by omega
    subst e
    have hll : l.length = 4 * j + 4 := by rw [hl, dgn_length]
    rw [← hl] at hnext
    refine W.seg [(1, aF), (2, aV (I6 (↑(j + 1) : Int)))] [(1, 1)] (dsOfO nl m ws (j + 1) (4 * j + 4) l) (todo' := loopAt Tryz.f20 0) [decide ((i:Int) < 4) = false, I6 (IntKind.wrap .i64 ((j:Int) + 1)) = I6 (↑(j + 1) : Int), rr (PV.vec nl (B6 m ws)), rr (PV.ref 1 [] 1 0 (4 * j + 4)), rr (PV.vec nl (B6 m ws)), rr (I6 (m:Int)), rr (I6 (↑(j + 1) : Int)), rr (BI (4 * j + 4) l)] (by kernel_rfl) (ac (decide_eq_false (by omega)) (ac (cg (w_i64 rfl (by omega) (by omega))) (ac rfl (ac rfl (ac rfl (ac rfl (ac rfl (ao rfl)))))))) ?_
    exact hnext
  | k + 1, i, n, w, l, hk, h0, hn, hl, hww, hlt, hnext => by
    have hll : l.length = n := by rw [hl, dgn_length]
    have hs := dgn_snoc n v
    have hd := word_digit (v := v) (i := i) (by omega) hw
    rw [← hn, ← hww] at hd
    rw [hd, ← hl] at hs
    have hww' : w / 65536 = w0 / 65536 ^ (i + 1) := by rw [hww, Nat.pow_succ, Nat.div_div_eq_div_mul]
    refine W.seg [(1, aT), (4, aV (U6 (↑(w % 65536) : Int))), (5, aV (I6 (↑(w % 65536) : Int))), (7, Ans.ups [(1, none), (176, some (Row.mk (BI (n + 1) (l ++ [(↑(w % 65536) : Int)])) false))]), (10, aV (U6 (↑(w / 65536) : Int))), (13, aV (I6 (↑(i + 1) : Int)))] [(176, 1)] (dsOfI nl m ws j (n + 1) (l ++ [(↑(w % 65536) : Int)]) (w / 65536) (i + 1)) (todo' := loopAt Tryz.f20 1) [decide ((i:Int) < 4) = true, U6 (Int.tmod (w:Int) (65536 : Int)) = U6 (↑(w % 65536) : Int), (65536 : Int) ≠ (0 : Int), I6 (IntKind.wrap .i64 (↑(w % 65536) : Int)) = I6 (↑(w % 65536) : Int), ([(1, none), (176, some (Row.mk (BI (n + 1) (List.take n l ++ [(↑(w % 65536) : Int)])) false))] : List (Nat × Option Row)) = [(1, none), (176, some (Row.mk (BI (n + 1) (l ++ [(↑(w % 65536) : Int)])) false))], 1 ≤ 1, 0 + n = n, (n + 1) * 8 ≤ 140737488355328, n + 1 ≤ 9223372036854775807, U6 (IntKind.wrap .u64 (Int.tdiv (w:Int) (65536 : Int))) = U6 (↑(w / 65536) : Int), (65536 : Int) ≠ (0 : Int), I6 (IntKind.wrap .i64 ((i:Int) + 1)) = I6 (↑(i + 1) : Int), rr (PV.vec nl (B6 m ws)), rr (PV.ref 1 [] 1 0 (n + 1)), rr (U6 (↑(w / 65536) : Int)), rr (I6 (↑(i + 1) : Int)), rr (PV.vec nl (B6 m ws)), rr (I6 (m:Int)), rr (I6 (j:Int)), rr (BI (n + 1) (l ++ [(↑(w % 65536) : Int)]))] (by kernel_rfl) (ac (decide_eq_true (by omega)) (ac (cg rfl) (ac (by omega) (ac (cg (w_i64 rfl (by omega) (by omega))) (ac (by rw [List.take_of_length_le (show List.length l ≤ n by omega)]) (ac (by omega) (ac (by omega) (ac (by omega) (ac (by omega) (ac (cg (w_u64 rfl (by omega) (by omega))) (ac (by omega) (ac (cg (w_i64 rfl (by omega) (by omega))) (ac rfl (ac rfl (ac rfl (ac rfl (ac rfl (ac rfl (ac rfl (ao rfl)))))))))))))))))))) ?_
    exact W_ofI hm hj hw hlw k (i + 1) (n + 1) _ _ (by omega) (by omega) (by omega) hs.symm hww' (by omega) hnext
theorem W_ofO {nl : Bool} {m v : Nat} {ws : List Int} (hm : m ≤ 1000) (hws : ws = wdn m v) (hv : v < 65536 ^ (4 * m)) : ∀ (k j n : Nat) (l : List Int), j + k = m → n = 4 * j → 0 < n → l = dgn n v →
    W Tryz.prog G0 Tryz.f20 [] [] (bv false v) (loopAt Tryz.f20 0) (dsOfO nl m ws j n l)
  | 0, j, n, l, hk, hn, h0, hl => by
    have hll : l.length = n := by rw [hl, dgn_length]
    have ht := pc_trim (nl := false) (m := n) (v := v) (by omega) (by rw [show n = 4 * m by omega]; exact hv)
    rw [← hl] at ht
    refine W.ret [(0, aF), (2, Ans.calla false [] [] [PV.vec false (BI n l)] [] (PV.vec false (BI (nd v) (dg v))))] [] [decide ((j:Int) < (m:Int)) = false, 0 + n ≤ n, rr ([] : List (Nat × Row)), ([PV.vec false (BI n (List.take n l))] : List PV) = [PV.vec false (BI n l)], PC Tryz.prog G0 41 [] [PV.vec false (BI n l)] [] (PV.vec false (BI (nd v) (dg v))), rr (PV.vec false (BI (nd v) (dg v)))] (by kernel_rfl) (ac (decide_eq_false (by omega)) (ac (by omega) (ac rfl (ac (by rw [List.take_of_length_le (show List.length l ≤ n by omega)]) (ac (ht) (ao rfl))))))
  | k + 1, j, n, l, hk, hn, h0, hl => by
    have hll : l.length = n := by rw [hl, dgn_length]
    have hlw : ws.length = m := by rw [hws, wdn_length]
    have hg := wdn_getD (v := v) (show j < m by omega)
    have hlt : v / 18446744073709551616 ^ j % 18446744073709551616 < 18446744073709551616 := Nat.mod_lt _ (by omega)
    rw [← hws] at hg
    generalize hw : v / 18446744073709551616 ^ j % 18446744073709551616 = w at *
    refine W.seg [(0, aT), (2, aV (U6 (w:Int)))] [(1, 1)] (dsOfI nl m ws j n l w 0) (todo' := loopAt Tryz.f20 1) [decide ((j:Int) < (m:Int)) = true, 0 ≤ (j:Int), (j:Int) < (m:Int), U6 (List.getD ws j (0 : Int)) = U6 (w:Int), j < m, rr (PV.vec nl (B6 m ws)), rr (PV.ref 1 [] 1 0 n), rr (U6 (w:Int)), I6 0 = I6 (↑(0 : Nat) : Int), rr (PV.vec nl (B6 m ws)), rr (I6 (m:Int)), rr (I6 (j:Int)), rr (BI n l)] (by kernel_rfl) (ac (decide_eq_true (by omega)) (ac (by omega) (ac (by omega) (ac (cg (hg)) (ac (by omega) (ac rfl (ac rfl (ac rfl (ac (cg (by omega)) (ac rfl (ac rfl (ac rfl (ao rfl))))))))))))) ?_
    refine W_ofI hm (by omega) hw hlw 4 0 n w l (by omega) h0 (by omega) hl (by simp) hlt ?_
    exact W_ofO hm hws hv k (j + 1) (4 * j + 4) _ (by omega) (by omega) (by omega) rfl
theorem pc_bOf {nl : Bool} {m v : Nat} {ws : List Int} (h0 : 0 < m) (hm : m ≤ 1000) (hws : ws = wdn m v) (hv : v < 65536 ^ (4 * m)) : PC Tryz.prog G0 20 [] [wv nl m ws] [] (bv false v) := by
  refine PC.of (fn := Tryz.f20) (c := bodyOf Tryz.f20) Tryz.func20 (by kernel_rfl) (by kernel_rfl) (by kernel_rfl) (by kernel_rfl) ?_
  have hlw : ws.length = m := by rw [hws, wdn_length]
  have hg := wdn_getD (v := v) h0
  have hlt : v / 18446744073709551616 ^ 0 % 18446744073709551616 < 18446744073709551616 := Nat.mod_lt _ (by omega)
  rw [← hws] at hg
  generalize hw : v / 18446744073709551616 ^ 0 % 18446744073709551616 = w at *
  have hs : dgn 1 v = [((v / 65536 ^ (4 * 0 + 0) % 65536 : Nat) : Int)] := dgn_snoc 0 v
  rw [word_digit (v := v) (i := 0) (by omega) hw, Nat.pow_zero, Nat.div_one] at hs
  refine W.seg [] [] (dsOfO0 nl m ws) (todo' := loopAt Tryz.f20 0) [rr (PV.vec nl (B6 m ws)), rr (PV.vec true (BI 0 [])), rr (PV.vec nl (B6 m ws)), rr (I6 (m:Int)), rr (I6 0)] (by kernel_rfl) (ac rfl (ac rfl (ac rfl (ac rfl (ao rfl))))) ?_
  refine W.seg [(0, aT), (2, aV (U6 (w:Int)))] [] (dsOfI0 nl m ws w) (todo' := loopAt Tryz.f20 1) [decide (0 < (m:Int)) = true, (0 : Int) ≤ (0 : Int), 0 < (m:Int), U6 (List.getD ws 0 (0 : Int)) = U6 (w:Int), 0 < m, rr (PV.vec nl (B6 m ws)), rr (PV.vec true (BI 0 [])), rr (U6 (w:Int)), rr (I6 0), rr (PV.vec nl (B6 m ws)), rr (I6 (m:Int)), rr (I6 0)] (by kernel_rfl) (ac (decide_eq_true (by omega)) (ac (by omega) (ac (by omega) (ac (cg (hg)) (ac (by omega) (ac rfl (ac rfl (ac rfl (ac rfl (ac rfl (ac rfl (ao rfl)))))))))))) ?_
  refine W.seg [(4, aV (U6 (↑(w % 65536) : Int))), (5, aV (I6 (↑(w % 65536) : Int))), (10, aV (U6 (↑(w / 65536) : Int))), (13, aV (I6 1))] [(176, 1)] (dsOfI nl m ws 0 1 [(↑(w % 65536) : Int)] (w / 65536) 1) (todo' := loopAt Tryz.f20 1) [U6 (Int.tmod (w:Int) (65536 : Int)) = U6 (↑(w % 65536) : Int), (65536 : Int) ≠ (0 : Int), I6 (IntKind.wrap .i64 (↑(w % 65536) : Int)) = I6 (↑(w % 65536) : Int), 1 ≤ 1, 0 < 1, 8 ≤ 140737488355328, 1 ≤ 9223372036854775807, U6 (IntKind.wrap .u64 (Int.tdiv (w:Int) (65536 : Int))) = U6 (↑(w / 65536) : Int), (65536 : Int) ≠ (0 : Int), I6 (IntKind.wrap .i64 ((0 : Int) + (1 : Int))) = I6 1, rr (PV.vec nl (B6 m ws)), rr (PV.ref 1 [] 1 0 1), rr (U6 (↑(w / 65536) : Int)), I6 1 = I6 (↑(1 : Nat) : Int), rr (PV.vec nl (B6 m ws)), rr (I6 (m:Int)), I6 0 = I6 (↑(0 : Nat) : Int), rr (BI 1 [(↑(w % 65536) : Int)])] (by kernel_rfl) (ac (cg rfl) (ac (by omega) (ac (cg (w_i64 rfl (by omega) (by omega))) (ac (by omega) (ac (by omega) (ac (by omega) (ac (by omega) (ac (cg (w_u64 rfl (by omega) (by omega))) (ac (by omega) (ac (cg (w_i64 rfl (by omega) (by omega))) (ac rfl (ac rfl (ac rfl (ac (cg (by omega)) (ac rfl (ac rfl (ac (cg (by omega)) (ao rfl)))))))))))))))))) ?_
  refine W_ofI hm (by omega) hw hlw 3 1 1 _ _ (by omega) (by omega) (by omega) hs.symm (by simp) (by omega) ?_
  exact W_ofO hm hws hv (m - 1) 1 4 _ (by omega) (by omega) (by omega) rfl
def dsWords (na : Bool) (a : Nat) (l : List Int) (i : Int) : DS := ⟨[(0, bv na a), (2, .at 1 []), (3, .at 2 []), (4, .int .i64 i)], [(1, ⟨.iarr .u64 4 [0, 0, 0, 0], false⟩), (2, ⟨.iarr .u64 4 l, false⟩)]⟩
theorem W_words {na : Bool} {a : Nat} (ha : nd a ≤ 16) : ∀ (n : Nat) (l : List Int), n ≤ nd a → l = wsn a n →
    W Tryz.prog G0 Tryz.f64 [] [] (.iarr .u64 4 (uw a)) (loopAt Tryz.f64 0) (dsWords na a l ((n : Int) - 1))
  | 0, l, hn, hl => by
    rw [wsn_zero] at hl
    rw [← hl]
    refine W.ret [(0, aV (I6 (-1)))] [] [I6 ((↑(0 : Nat) : Int) - 1) = I6 (-1), rr (B6 4 l)] (by kernel_rfl) (ac (cg (by omega)) (ao rfl))
  | n + 1, l, hn, hl => by
    have hx := dg_getD a n
    have hg := wsn_get (v := a) (n := n) (by omega)
    have hset := wsn_set (v := a) (n := n) (by omega) rfl
    have hll : l.length = 4 := by rw [hl]; rfl
    have lx : a / 65536 ^ n % 65536 < 65536 := Nat.mod_lt _ (by omega)
    have lw : 65536 * wat a (n + 1) (n / 4) + a / 65536 ^ n % 65536 < 18446744073709551616 := by rw [← wat_step rfl]; exact wat_lt _ _ _
    rw [← hl] at hg hset
    generalize a / 65536 ^ n % 65536 = x at *
    generalize wat a (n + 1) (n / 4) = w at *
    refine W.seg [(0, aV (I6 (n:Int))), (2, aV (I6 (n:Int))), (3, aT), (4, aV (I6 (n:Int))), (5, aV (I6 (↑(n / 4) : Int))), (6, aV (I6 (n:Int))), (7, aV (I6 (↑(n / 4) : Int))), (8, aV (PV.at 2 [Stp.idx (n / 4) 1])), (9, aV (U6 (w:Int))), (10, aV (U6 (↑(65536 * w) : Int))), (12, aV (I6 (n:Int))), (14, aV (I6 (x:Int))), (15, aV (U6 (x:Int))), (16, aV (U6 (↑(65536 * w + x) : Int))), (17, aV (PV.at 2 [Stp.idx (n / 4) 1])), (19, aV (I6 (n:Int))), (20, aV (I6 ((n:Int) - 1)))] [(1, 1), (2, 2)] (dsWords na a (List.set l (n / 4) (↑(65536 * w + x) : Int)) ((n:Int) - 1)) (todo' := loopAt Tryz.f64 0) [I6 ((↑(n + 1) : Int) - 1) = I6 (n:Int), I6 ((↑(n + 1) : Int) - 1) = I6 (n:Int), decide ((n:Int) < 16) = true, I6 ((↑(n + 1) : Int) - 1) = I6 (n:Int), I6 (IntKind.wrap .i64 (Int.tdiv (n:Int) (4 : Int))) = I6 (↑(n / 4) : Int), (4 : Int) ≠ (0 : Int), I6 ((↑(n + 1) : Int) - 1) = I6 (n:Int), I6 (IntKind.wrap .i64 (Int.tdiv (n:Int) (4 : Int))) = I6 (↑(n / 4) : Int), (4 : Int) ≠ (0 : Int), PV.at 2 [Stp.idx (Int.toNat (↑(n / 4) : Int)) 1] = PV.at 2 [Stp.idx (n / 4) 1], 0 ≤ (↑(n / 4) : Int), (↑(n / 4) : Int) < (↑(4 : Nat) : Int), U6 (List.getD l (n / 4) (0 : Int)) = U6 (w:Int), n / 4 < 4, U6 (IntKind.wrap .u64 ((w:Int) * (65536 : Int))) = U6 (↑(65536 * w) : Int), I6 ((↑(n + 1) : Int) - 1) = I6 (n:Int), 0 ≤ (n:Int), (n:Int) < (↑(nd a) : Int), I6 (List.getD (dg a) n (0 : Int)) = I6 (x:Int), n < nd a, U6 (IntKind.wrap .u64 (x:Int)) = U6 (x:Int), U6 (IntKind.wrap .u64 ((↑(65536 * w) : Int) + (x:Int))) = U6 (↑(65536 * w + x) : Int), PV.at 2 [Stp.idx (Int.toNat (↑(n / 4) : Int)) 1] = PV.at 2 [Stp.idx (n / 4) 1], 0 ≤ (↑(n / 4) : Int), (↑(n / 4) : Int) < (↑(4 : Nat) : Int), n / 4 < 4, I6 ((↑(n + 1) : Int) - 1) = I6 (n:Int), I6 (IntKind.wrap .i64 ((n:Int) - 1)) = I6 ((n:Int) - 1), rr (PV.vec na (BI (nd a) (dg a))), rr (PV.at 1 []), rr (PV.at 2 []), rr (I6 ((n:Int) - 1)), rr (B6 4 [(0 : Int), (0 : Int), (0 : Int), (0 : Int)]), rr (B6 4 (List.set l (n / 4) (↑(65536 * w + x) : Int)))] (by kernel_rfl) (ac (cg (by omega)) (ac (cg (by omega)) (ac (decide_eq_true (by omega)) (ac (cg (by omega)) (ac (cg (w_i64 rfl (by omega) (by omega))) (ac (by omega) (ac (cg (by omega)) (ac (cg (w_i64 rfl (by omega) (by omega))) (ac (by omega) (ac (by simp only [Int.toNat_natCast]) (ac (by omega) (ac (by omega) (ac (cg (hg)) (ac (by omega) (ac (cg (w_u64 (by omega) (by omega) (by omega))) (ac (cg (by omega)) (ac (by omega) (ac (by omega) (ac (cg (hx)) (ac (by omega) (ac (cg (w_u64 rfl (by omega) (by omega))) (ac (cg (w_u64 rfl (by omega) (by omega))) (ac (by simp only [Int.toNat_natCast]) (ac (by omega) (ac (by omega) (ac (by omega) (ac (cg (by omega)) (ac (cg (w_i64 rfl (by omega) (by omega))) (ac rfl (ac rfl (ac rfl (ac rfl (ac rfl (ao rfl)))))))))))))))))))))))))))))))))) ?_
    exact W_words ha n _ (by omega) hset
theorem pc_bWords {na : Bool} {a : Nat} (ha : nd a ≤ 16) : PC Tryz.prog G0 64 [] [bv na a] [] (.iarr .u64 4 (uw a)) := by
  refine PC.of (fn := Tryz.f64) (c := bodyOf Tryz.f64) Tryz.func64 (by kernel_rfl) (by kernel_rfl) (by kernel_rfl) (by kernel_rfl) ?_
  refine W.seg [(4, aV (I6 ((↑(nd a) : Int) - 1)))] [(64, 1), (80, 2)] (dsWords na a [(0 : Int), (0 : Int), (0 : Int), (0 : Int)] ((↑(nd a) : Int) - 1)) (todo' := loopAt Tryz.f64 0) [I6 (IntKind.wrap .i64 ((↑(nd a) : Int) - 1)) = I6 ((↑(nd a) : Int) - 1), rr (PV.vec na (BI (nd a) (dg a))), rr (PV.at 1 []), rr (PV.at 2 []), rr (I6 ((↑(nd a) : Int) - 1)), rr (B6 4 [(0 : Int), (0 : Int), (0 : Int), (0 : Int)]), rr (B6 4 [(0 : Int), (0 : Int), (0 : Int), (0 : Int)])] (by kernel_rfl) (ac (cg (w_i64 rfl (by omega) (by omega))) (ac rfl (ac rfl (ac rfl (ac rfl (ac rfl (ao rfl))))))) ?_
  exact W_words ha (nd a) _ (Nat.le_refl _) (wsn_end (Nat.le_refl _)).symm
end Go.Proofs
namespace Go.Pm
theorem mod_pow_succ (v i : Nat) : v % 65536 ^ (i + 1) = v % 65536 ^ i + 65536 ^ i * (v / 65536 ^ i % 65536) := by
  rw [Nat.pow_succ, Nat.mod_mul]
/-- the sum that stands in out, with what is carried -/
def acc (a b i j x : Nat) : Nat := a % 65536 ^ i * b + x * (b % 65536 ^ j) * 65536 ^ i
theorem acc_next {a b i j x y : Nat} (hy : b / 65536 ^ j % 65536 = y) : acc a b i j x + x * y * 65536 ^ (i + j) = acc a b i (j + 1) x := by
  unfold acc
  rw [mod_pow_succ, hy, Nat.pow_add, Nat.mul_add, Nat.add_mul, Nat.add_assoc]
  congr 2
  simp only [Nat.mul_comm, Nat.mul_left_comm, Nat.mul_assoc]
theorem acc_end {a b i j x : Nat} (hj : nd b ≤ j) (hx : a / 65536 ^ i % 65536 = x) : acc a b i j x = a % 65536 ^ (i + 1) * b := by
  unfold acc
  rw [mod_pow_succ, hx, Nat.mod_eq_of_lt (nd_le.1 hj), Nat.add_mul]
  congr 1
  rw [Nat.mul_right_comm, Nat.mul_comm x]
theorem acc_le {a b i j x : Nat} (hx : a / 65536 ^ i % 65536 = x) : acc a b i j x ≤ a % 65536 ^ (i + 1) * b := by
  unfold acc
  rw [mod_pow_succ, hx, Nat.add_mul]
  apply Nat.add_le_add_left
  rw [Nat.mul_right_comm, Nat.mul_comm x]
  exact Nat.mul_le_mul_left _ (Nat.mod_le _ _)
theorem part_lt {a b i : Nat} (hb : 0 < b) : a % 65536 ^ i * b < 65536 ^ (i + nd b) := by
  rw [Nat.pow_add]
  have h1 : a % 65536 ^ i < 65536 ^ i := Nat.mod_lt _ (Nat.pow_pos (by omega))
  have h2 := lt_nd b
  exact Nat.lt_of_lt_of_le (Nat.mul_lt_mul_of_pos_right h1 hb) (Nat.mul_le_mul_left _ (Nat.le_of_lt h2))
theorem part_lt' (a b i : Nat) : a % 65536 ^ i * b < 65536 ^ (i + nd b) := by
  by_cases hb : 0 < b
  · exact part_lt hb
  · have : b = 0 := by omega
    subst this
    rw [Nat.mul_zero]
    exact Nat.pow_pos (by omega)
/-- a carry stands only below the end -/
theorem acc_carry {V c a b i j x : Nat} (hx : a / 65536 ^ i % 65536 = x) (h : V + c * 65536 ^ (i + j) = acc a b i j x) (hc : 0 < c) : i + j < i + 1 + nd b := by
  apply Nat.lt_of_not_le
  intro hle
  have h1 := acc_le (b := b) (j := j) hx
  have h2 := part_lt' a b (i + 1)
  have h3 : 65536 ^ (i + 1 + nd b) ≤ 65536 ^ (i + j) := Nat.pow_le_pow_right (by omega) hle
  have h4 : 1 * 65536 ^ (i + j) ≤ c * 65536 ^ (i + j) := Nat.mul_le_mul_right _ hc
  omega
theorem nd_mul (a b : Nat) : nd (a * b) ≤ nd a + nd b := by
  rw [nd_le]
  have := part_lt' a b (nd a)
  rwa [Nat.mod_eq_of_lt (lt_nd a)] at this
theorem bit_digit {a i : Nat} : a / 65536 ^ (i / 16) % 65536 / 2 ^ (i % 16) % 2 = a / 2 ^ i % 2 := by
  have e : 2 ^ i = 65536 ^ (i / 16) * 2 ^ (i % 16) := by rw [pow16, ← Nat.pow_add]; congr 1; omega
  rw [e, ← Nat.div_div_eq_div_mul]
  generalize a / 65536 ^ (i / 16) = q
  have h : i % 16 < 16 := Nat.mod_lt _ (by omega)
  generalize i % 16 = s at *
  obtain ⟨d, hd⟩ : ∃ d, 16 = s + (1 + d) := ⟨15 - s, by omega⟩
  have e2 : 65536 = 2 ^ s * (2 * 2 ^ d) := by
    rw [show (65536 : Nat) = 2 ^ 16 by decide, hd, Nat.pow_add, Nat.pow_add]
  rw [e2, Nat.mod_mul_right_div_self, Nat.mod_mul_right_mod]
theorem quo_step {a b i q r : Nat} (hq : a / 2 ^ (i + 1) / b = q) (hr : a / 2 ^ (i + 1) % b = r) (hb : 0 < b) (t : Nat) (ht : a / 2 ^ i % 2 = t) :
    (r + r + t < b → a / 2 ^ i / b = q + q ∧ a / 2 ^ i % b = r + r + t) ∧ (b ≤ r + r + t → a / 2 ^ i / b = q + q + 1 ∧ a / 2 ^ i % b = r + r + t - b) := by
  have e : a / 2 ^ i = 2 * (a / 2 ^ (i + 1)) + t := by
    rw [Nat.pow_succ, ← Nat.div_div_eq_div_mul]; omega
  have e2 := Nat.div_add_mod (a / 2 ^ (i + 1)) b
  have lr := Nat.mod_lt (a / 2 ^ (i + 1)) hb
  rw [hq, hr] at e2
  rw [hr] at lr
  generalize a / 2 ^ (i + 1) = A at *
  have e3 : a / 2 ^ i = b * (q + q) + (r + r + t) := by rw [Nat.mul_add]; omega
  rw [e3]
  constructor
  · intro h
    rw [Nat.mul_add_div hb, Nat.div_eq_of_lt h, Nat.mul_add_mod, Nat.mod_eq_of_lt h]
    omega
  · intro h
    have e4 : b * (q + q) + (r + r + t) = b * (q + q + 1) + (r + r + t - b) := by rw [Nat.mul_add b (q + q) 1]; omega
    have h2 : r + r + t - b < b := by omega
    rw [e4, Nat.mul_add_div hb, Nat.div_eq_of_lt h2, Nat.mul_add_mod, Nat.mod_eq_of_lt h2]
    omega
end Go.Pm
namespace Go.Proofs
open Go Go.Pe Go.Pm
set_option maxRecDepth 100000
set_option linter.unusedVariables false
def dsMulO (na nb : Bool) (a b m : Nat) (l : List Int) (i : Nat) : DS := ⟨[(0, bv na a), (1, bv nb b), (5, .ref 1 [] 1 0 m), (6, .int .i64 i)], [(1, rowI m l)]⟩
def dsMulI (na nb : Bool) (a b m : Nat) (l : List Int) (i c j : Nat) : DS := ⟨[(0, bv na a), (1, bv nb b), (5, .ref 1 [] 1 0 m), (6, .int .i64 i), (7, .int .i64 c), (8, .int .i64 j)], [(1, rowI m l)]⟩
theorem W_mulI {na nb : Bool} {a b m i x : Nat} {res : PV} (ha : nd a ≤ 100000) (hb : nd b ≤ 100000) (hm : m = nd a + nd b + 1) (hi : i < nd a) (hx : a / 65536 ^ i % 65536 = x)
    (hnext : ∀ l, l = dgn m (a % 65536 ^ (i + 1) * b) → W Tryz.prog G0 Tryz.f63 [] [] res (loopAt Tryz.f63 0) (dsMulO na nb a b m l (i + 1))) :
    ∀ (k j c V : Nat) (l : List Int), j + k = nd b + 1 → c ≤ 65535 → V + c * 65536 ^ (i + j) = acc a b i j x → l = dgn m V →
    W Tryz.prog G0 Tryz.f63 [] [] res (loopAt Tryz.f63 1) (dsMulI na nb a b m l i c j)
  | 0, j, c, V, l, hk, hc, hV, hl => by
    have c0 : c = 0 := by
      apply Nat.eq_zero_of_not_pos
      intro hp
      have := acc_carry hx hV hp
      omega
    subst c0
    have hll : l.length = m := by rw [hl, dgn_length]
    refine W.seg [(3, aF), (5, aV (I6 0)), (9, aV (I6 (↑(i + 1) : Int)))] [(1, 1)] (dsMulO na nb a b m l (i + 1)) (todo' := loopAt Tryz.f63 0) [decide ((j:Int) < (↑(nd b) : Int)) = false, I6 (↑(0 : Nat) : Int) = I6 0, I6 (IntKind.wrap .i64 ((i:Int) + 1)) = I6 (↑(i + 1) : Int), rr (PV.vec na (BI (nd a) (dg a))), rr (PV.vec nb (BI (nd b) (dg b))), rr (PV.ref 1 [] 1 0 m), rr (I6 (↑(i + 1) : Int)), rr (BI m l)] (by kernel_rfl) (ac (decide_eq_false (by omega)) (ac (cg (by omega)) (ac (cg (w_i64 rfl (by omega) (by omega))) (ac rfl (ac rfl (ac rfl (ac rfl (ao rfl)))))))) ?_
    refine hnext l ?_
    rw [hl, ← acc_end (b := b) (j := j) (by omega) hx, ← hV, Nat.zero_mul, Nat.add_zero]
  | k + 1, j, c, V, l, hk, hc, hV, hl => by
    have hll : l.length = m := by rw [hl, dgn_length]
    have gx := dg_getD a i
    have gy := dg_getD b j
    have lx : x < 65536 := by rw [← hx]; exact Nat.mod_lt _ (by omega)
    have ly : b / 65536 ^ j % 65536 < 65536 := Nat.mod_lt _ (by omega)
    have zy : nd b ≤ j → b / 65536 ^ j % 65536 = 0 := fun hz => by rw [div_nd hz]
    have hcar := fun hp => acc_carry hx hV hp
    have hend := fun hz => acc_end (b := b) (j := j) hz hx
    rw [hx] at gx
    have hnx := fun y hy => acc_next (a := a) (b := b) (i := i) (j := j) (x := x) (y := y) hy
    have hnx := hnx _ rfl
    generalize b / 65536 ^ j % 65536 = y at *
    have hxy : x * y ≤ 65535 * 65535 := Nat.mul_le_mul (by omega) (by omega)
    by_cases hij : i + j < m
    · have hg := dgn_getD (v := V) hij
      have hd : V / 65536 ^ (i + j) % 65536 < 65536 := Nat.mod_lt _ (by omega)
      rw [← hl] at hg
      generalize hdd : V / 65536 ^ (i + j) % 65536 = d at *
      obtain ⟨e1, e2⟩ := mul_step (x := x) (y := y) hV d hdd rfl
      have hset := dgn_set (n := m) (i := i + j) (lo := V % 65536 ^ (i + j)) (d := d) (hi := V / 65536 ^ (i + j + 1)) (x := (d + c + x * y) % 65536) hij (Nat.mod_lt _ (Nat.pow_pos (by omega))) hd (Nat.mod_lt _ (by omega))
      rw [← e1, ← hl] at hset
      rw [hnx] at e2
      by_cases hb : j < nd b
      · refine W.seg [(3, aT), (11, aV (I6 (↑(i + j) : Int))), (12, aV (PV.at 1 [Stp.idx (i + j) 1])), (13, aV (I6 (d:Int))), (15, aV (I6 (↑(d + c) : Int))), (20, aT), (25, aV (I6 (x:Int))), (29, aV (I6 (y:Int))), (30, aV (I6 (↑(x * y) : Int))), (31, aV (I6 (↑(d + c + x * y) : Int))), (36, aV (I6 (↑(i + j) : Int))), (38, aV (I6 (↑((d + c + x * y) % 65536) : Int))), (39, aV (PV.at 1 [Stp.idx (i + j) 1])), (42, aV (I6 (↑((d + c + x * y) / 65536) : Int))), (45, aV (I6 (↑(j + 1) : Int)))] [(1, 1)] (dsMulI na nb a b m (List.set l (i + j) (↑((d + c + x * y) % 65536) : Int)) i ((d + c + x * y) / 65536) (j + 1)) (todo' := loopAt Tryz.f63 1) [decide ((j:Int) < (↑(nd b) : Int)) = true, I6 (IntKind.wrap .i64 ((i:Int) + (j:Int))) = I6 (↑(i + j) : Int), PV.at 1 [Stp.idx (0 + Int.toNat (↑(i + j) : Int)) 1] = PV.at 1 [Stp.idx (i + j) 1], 0 ≤ (↑(i + j) : Int), (↑(i + j) : Int) < (m:Int), I6 (List.getD l (i + j) (0 : Int)) = I6 (d:Int), i + j < m, I6 (IntKind.wrap .i64 ((d:Int) + (c:Int))) = I6 (↑(d + c) : Int), decide ((j:Int) < (↑(nd b) : Int)) = true, 0 ≤ (i:Int), (i:Int) < (↑(nd a) : Int), I6 (List.getD (dg a) i (0 : Int)) = I6 (x:Int), i < nd a, 0 ≤ (j:Int), (j:Int) < (↑(nd b) : Int), I6 (List.getD (dg b) j (0 : Int)) = I6 (y:Int), j < nd b, I6 (IntKind.wrap .i64 ((x:Int) * (y:Int))) = I6 (↑(x * y) : Int), I6 (IntKind.wrap .i64 ((↑(d + c) : Int) + (↑(x * y) : Int))) = I6 (↑(d + c + x * y) : Int), I6 (IntKind.wrap .i64 ((i:Int) + (j:Int))) = I6 (↑(i + j) : Int), I6 (Int.tmod (↑(d + c + x * y) : Int) (65536 : Int)) = I6 (↑((d + c + x * y) % 65536) : Int), (65536 : Int) ≠ (0 : Int), PV.at 1 [Stp.idx (0 + Int.toNat (↑(i + j) : Int)) 1] = PV.at 1 [Stp.idx (i + j) 1], 0 ≤ (↑(i + j) : Int), (↑(i + j) : Int) < (m:Int), i + j < m, I6 (IntKind.wrap .i64 (Int.tdiv (↑(d + c + x * y) : Int) (65536 : Int))) = I6 (↑((d + c + x * y) / 65536) : Int), (65536 : Int) ≠ (0 : Int), I6 (IntKind.wrap .i64 ((j:Int) + 1)) = I6 (↑(j + 1) : Int), rr (PV.vec na (BI (nd a) (dg a))), rr (PV.vec nb (BI (nd b) (dg b))), rr (PV.ref 1 [] 1 0 m), rr (I6 (i:Int)), rr (I6 (↑((d + c + x * y) / 65536) : Int)), rr (I6 (↑(j + 1) : Int)), rr (BI m (List.set l (i + j) (↑((d + c + x * y) % 65536) : Int)))] (by kernel_rfl) (ac (decide_eq_true (by omega)) (ac (cg (w_i64 rfl (by omega) (by omega))) (ac (by simp only [Int.toNat_natCast, Nat.zero_add]) (ac (by omega) (ac (by omega) (ac (cg (hg)) (ac (by omega) (ac (cg (w_i64 rfl (by omega) (by omega))) (ac (decide_eq_true (by omega)) (ac (by omega) (ac (by omega) (ac (cg (gx)) (ac (by omega) (ac (by omega) (ac (by omega) (ac (cg (gy)) (ac (by omega) (ac (cg (w_i64 rfl (by omega) (by omega))) (ac (cg (w_i64 rfl (by omega) (by omega))) (ac (cg (w_i64 rfl (by omega) (by omega))) (ac (cg rfl) (ac (by omega) (ac (by simp only [Int.toNat_natCast, Nat.zero_add]) (ac (by omega) (ac (by omega) (ac (by omega) (ac (cg (w_i64 rfl (by omega) (by omega))) (ac (by omega) (ac (cg (w_i64 rfl (by omega) (by omega))) (ac rfl (ac rfl (ac rfl (ac rfl (ac rfl (ac rfl (ao rfl)))))))))))))))))))))))))))))))))))) ?_
        exact W_mulI ha (by assumption) hm hi hx hnext k (j + 1) _ _ _ (by omega) (by omega) (by rw [← e2, ← Nat.add_assoc i j 1]) hset
      · have := zy (by omega)
        subst this
        rw [Nat.mul_zero, Nat.add_zero] at hset e2
        by_cases c0 : c = 0
        · subst c0
          refine W.seg [(3, aF), (5, aV (I6 0)), (9, aV (I6 (↑(i + 1) : Int)))] [(1, 1)] (dsMulO na nb a b m l (i + 1)) (todo' := loopAt Tryz.f63 0) [decide ((j:Int) < (↑(nd b) : Int)) = false, I6 (↑(0 : Nat) : Int) = I6 0, I6 (IntKind.wrap .i64 ((i:Int) + 1)) = I6 (↑(i + 1) : Int), rr (PV.vec na (BI (nd a) (dg a))), rr (PV.vec nb (BI (nd b) (dg b))), rr (PV.ref 1 [] 1 0 m), rr (I6 (↑(i + 1) : Int)), rr (BI m l)] (by kernel_rfl) (ac (decide_eq_false (by omega)) (ac (cg (by omega)) (ac (cg (w_i64 rfl (by omega) (by omega))) (ac rfl (ac rfl (ac rfl (ac rfl (ao rfl)))))))) ?_
          refine hnext l ?_
          rw [hl, ← hend (by omega), ← hV, Nat.zero_mul, Nat.add_zero]
        · refine W.seg [(3, aF), (6, aT), (11, aV (I6 (↑(i + j) : Int))), (12, aV (PV.at 1 [Stp.idx (i + j) 1])), (13, aV (I6 (d:Int))), (15, aV (I6 (↑(d + c) : Int))), (20, aF), (24, aV (I6 (↑(i + j) : Int))), (26, aV (I6 (↑((d + c) % 65536) : Int))), (27, aV (PV.at 1 [Stp.idx (i + j) 1])), (30, aV (I6 (↑((d + c) / 65536) : Int))), (33, aV (I6 (↑(j + 1) : Int)))] [(1, 1)] (dsMulI na nb a b m (List.set l (i + j) (↑((d + c) % 65536) : Int)) i ((d + c) / 65536) (j + 1)) (todo' := loopAt Tryz.f63 1) [decide ((j:Int) < (↑(nd b) : Int)) = false, decide ((c:Int) > 0) = true, I6 (IntKind.wrap .i64 ((i:Int) + (j:Int))) = I6 (↑(i + j) : Int), PV.at 1 [Stp.idx (0 + Int.toNat (↑(i + j) : Int)) 1] = PV.at 1 [Stp.idx (i + j) 1], 0 ≤ (↑(i + j) : Int), (↑(i + j) : Int) < (m:Int), I6 (List.getD l (i + j) (0 : Int)) = I6 (d:Int), i + j < m, I6 (IntKind.wrap .i64 ((d:Int) + (c:Int))) = I6 (↑(d + c) : Int), decide ((j:Int) < (↑(nd b) : Int)) = false, I6 (IntKind.wrap .i64 ((i:Int) + (j:Int))) = I6 (↑(i + j) : Int), I6 (Int.tmod (↑(d + c) : Int) (65536 : Int)) = I6 (↑((d + c) % 65536) : Int), (65536 : Int) ≠ (0 : Int), PV.at 1 [Stp.idx (0 + Int.toNat (↑(i + j) : Int)) 1] = PV.at 1 [Stp.idx (i + j) 1], 0 ≤ (↑(i + j) : Int), (↑(i + j) : Int) < (m:Int), i + j < m, I6 (IntKind.wrap .i64 (Int.tdiv (↑(d + c) : Int) (65536 : Int))) = I6 (↑((d + c) / 65536) : Int), (65536 : Int) ≠ (0 : Int), I6 (IntKind.wrap .i64 ((j:Int) + 1)) = I6 (↑(j + 1) : Int), rr (PV.vec na (BI (nd a) (dg a))), rr (PV.vec nb (BI (nd b) (dg b))), rr (PV.ref 1 [] 1 0 m), rr (I6 (i:Int)), rr (I6 (↑((d + c) / 65536) : Int)), rr (I6 (↑(j + 1) : Int)), rr (BI m (List.set l (i + j) (↑((d + c) % 65536) : Int)))] (by kernel_rfl) (ac (decide_eq_false (by omega)) (ac (decide_eq_true (by omega)) (ac (cg (w_i64 rfl (by omega) (by omega))) (ac (by simp only [Int.toNat_natCast, Nat.zero_add]) (ac (by omega) (ac (by omega) (ac (cg (hg)) (ac (by omega) (ac (cg (w_i64 rfl (by omega) (by omega))) (ac (decide_eq_false (by omega)) (ac (cg (w_i64 rfl (by omega) (by omega))) (ac (cg rfl) (ac (by omega) (ac (by simp only [Int.toNat_natCast, Nat.zero_add]) (ac (by omega) (ac (by omega) (ac (by omega) (ac (cg (w_i64 rfl (by omega) (by omega))) (ac (by omega) (ac (cg (w_i64 rfl (by omega) (by omega))) (ac rfl (ac rfl (ac rfl (ac rfl (ac rfl (ac rfl (ao rfl))))))))))))))))))))))))))) ?_
          exact W_mulI ha (by assumption) hm hi hx hnext k (j + 1) _ _ _ (by omega) (by omega) (by rw [← e2, ← Nat.add_assoc i j 1]) hset
    · omega
theorem W_mulO {na nb : Bool} {a b m : Nat} (ha : nd a ≤ 100000) (hb : nd b ≤ 100000) (hm : m = nd a + nd b + 1) : ∀ (k i : Nat) (l : List Int), i + k = nd a → l = dgn m (a % 65536 ^ i * b) →
    W Tryz.prog G0 Tryz.f63 [] [] (bv false (a * b)) (loopAt Tryz.f63 0) (dsMulO na nb a b m l i)
  | 0, i, l, hk, hl => by
    have hll : l.length = m := by rw [hl, dgn_length]
    rw [Nat.mod_eq_of_lt (nd_le.1 (by omega))] at hl
    have ht := pc_trim (nl := false) (m := m) (v := a * b) (by omega) (nd_le.1 (by have := nd_mul a b; omega))
    rw [← hl] at ht
    refine W.ret [(3, aF), (5, Ans.calla false [] [] [PV.vec false (BI m l)] [] (PV.vec false (BI (nd (a * b)) (dg (a * b)))))] [] [decide ((i:Int) < (↑(nd a) : Int)) = false, 0 + m ≤ m, rr ([] : List (Nat × Row)), ([PV.vec false (BI m (List.take m l))] : List PV) = [PV.vec false (BI m l)], PC Tryz.prog G0 41 [] [PV.vec false (BI m l)] [] (PV.vec false (BI (nd (a * b)) (dg (a * b)))), rr (PV.vec false (BI (nd (a * b)) (dg (a * b))))] (by kernel_rfl) (ac (decide_eq_false (by omega)) (ac (by omega) (ac rfl (ac (by rw [List.take_of_length_le (show List.length l ≤ m by omega)]) (ac (ht) (ao rfl))))))
  | k + 1, i, l, hk, hl => by
    have hll : l.length = m := by rw [hl, dgn_length]
    refine W.seg [(3, aT)] [(1, 1)] (dsMulI na nb a b m l i 0 0) (todo' := loopAt Tryz.f63 1) [decide ((i:Int) < (↑(nd a) : Int)) = true, rr (PV.vec na (BI (nd a) (dg a))), rr (PV.vec nb (BI (nd b) (dg b))), rr (PV.ref 1 [] 1 0 m), rr (I6 (i:Int)), I6 0 = I6 (↑(0 : Nat) : Int), I6 0 = I6 (↑(0 : Nat) : Int), rr (BI m l)] (by kernel_rfl) (ac (decide_eq_true (by omega)) (ac rfl (ac rfl (ac rfl (ac rfl (ac (cg (by omega)) (ac (cg (by omega)) (ao rfl)))))))) ?_
    refine W_mulI ha hb hm (by omega) rfl ?_ (nd b + 1) 0 0 (a % 65536 ^ i * b) l (by omega) (by omega) ?_ hl
    · intro l hl
      exact W_mulO ha hb hm k (i + 1) l (by omega) hl
    · unfold acc
      rw [Nat.pow_zero, Nat.mod_one, Nat.mul_zero, Nat.zero_mul, Nat.zero_mul]
theorem pc_bMul {na nb : Bool} {a b : Nat} (ha : nd a ≤ 100000) (hb : nd b ≤ 100000) : PC Tryz.prog G0 63 [] [bv na a, bv nb b] [] (bv false (a * b)) := by
  refine PC.of (fn := Tryz.f63) (c := bodyOf Tryz.f63) Tryz.func63 (by kernel_rfl) (by kernel_rfl) (by kernel_rfl) (by kernel_rfl) ?_
  generalize hm : nd a + nd b + 1 = m
  have hm' : ((nd a + nd b + 1 : Nat) : Int) = (m : Int) := by omega
  refine W.seg [(5, aV (I6 (↑(nd a + nd b) : Int))), (6, aV (I6 (m:Int)))] [(176, 1)] (dsMulO na nb a b m (List.replicate m (0 : Int)) 0) (todo' := loopAt Tryz.f63 0) [I6 (IntKind.wrap .i64 ((↑(nd a) : Int) + (↑(nd b) : Int))) = I6 (↑(nd a + nd b) : Int), I6 (IntKind.wrap .i64 ((↑(nd a + nd b) : Int) + 1)) = I6 (m:Int), 0 ≤ (m:Int), (m:Int) ≤ (m:Int), (m:Int) ≤ 9223372036854775807, (↑(8 : Nat) : Int) * (m:Int) ≤ 140737488355328, rr (PV.vec na (BI (nd a) (dg a))), rr (PV.vec nb (BI (nd b) (dg b))), rr (PV.ref 1 [] 1 0 m), I6 0 = I6 (↑(0 : Nat) : Int), rr (BI m (List.replicate m (0 : Int)))] (by kernel_rfl) (ac (cg (w_i64 rfl (by omega) (by omega))) (ac (cg (w_i64 hm' (by omega) (by omega))) (ac (by omega) (ac (by omega) (ac (by omega) (ac (by omega) (ac rfl (ac rfl (ac rfl (ac (cg (by omega)) (ao rfl))))))))))) ?_
  exact W_mulO ha hb hm.symm (nd a) 0 _ (by omega) (by rw [Nat.pow_zero, Nat.mod_one, Nat.zero_mul, dgn_zero])
end Go.Proofs
namespace Go.Proofs
open Go Go.Pe Go.Pm
set_option maxRecDepth 100000
set_option linter.unusedVariables false
def dsQuoO (na nb : Bool) (a b : Nat) (nr : Bool) (q r : Nat) (i : Int) : DS := ⟨[(0, bv na a), (1, bv nb b), (6, bv (decide (q = 0)) q), (7, bv nr r), (8, .int .i64 i)], []⟩
def dsQuoI (na nb : Bool) (a b : Nat) (nr : Bool) (q r : Nat) (i bit k : Nat) : DS := ⟨[(0, bv na a), (1, bv nb b), (6, bv (decide (q = 0)) q), (7, bv nr r), (8, .int .i64 i), (9, .int .i64 bit), (10, .int .i64 k)], []⟩
theorem pc_bInc {na : Bool} {a : Nat} (ha : nd a ≤ 100000) : PC Tryz.prog G0 110 [] [bv na a, .vec false (.iarr .i64 1 [1])] [] (bv false (a + 1)) := by
  have h := pc_bAdd (na := na) (nb := false) (a := a) (b := 1) ha (by decide)
  have e : bv false 1 = .vec false (.iarr .i64 1 [1]) := by rfl
  rw [e, decide_eq_false (by omega : ¬ a + 1 = 0)] at h
  exact h
theorem nd_le_of_le {a b n : Nat} (h : a ≤ b) (hb : nd b ≤ n) : nd a ≤ n := nd_le.2 (Nat.lt_of_le_of_lt h (nd_le.1 hb))
theorem W_quoI {na nb : Bool} {a b i : Nat} {nr : Bool} {q r : Nat} {res : PV} (ha : nd a ≤ 1000) (hb : nd b ≤ 1000) (hq : nd q ≤ 1000) (hr : r < b) (hi : i < 16 * nd a) (x : Nat) (hx : x < 65536) (t : Nat) (ht : x / 2 ^ (i % 16) % 2 = t)
    (h1 : r + r + t < b → ∀ nr', nr' = decide (r + r + t = 0) → W Tryz.prog G0 Tryz.f91 [] [] res (loopAt Tryz.f91 0) (dsQuoO na nb a b nr' (q + q) (r + r + t) ((i : Int) - 1)))
    (h2 : b ≤ r + r + t → ∀ nr', nr' = decide (r + r + t = 0) → W Tryz.prog G0 Tryz.f91 [] [] res (loopAt Tryz.f91 0) (dsQuoO na nb a b nr' (q + q + 1) (r + r + t - b) ((i : Int) - 1))) :
    ∀ (j k bit : Nat), k + j = i % 16 → bit = x / 2 ^ k →
    W Tryz.prog G0 Tryz.f91 [] [] res (loopAt Tryz.f91 1) (dsQuoI na nb a b nr q r i bit k)
  | 0, k, bit, hk, hbit => by
    have hk' : k = i % 16 := by omega
    have hbt : bit % 2 = t := by rw [hbit, hk', ht]
    have hlb : bit < 65536 := by rw [hbit]; exact Nat.lt_of_le_of_lt (Nat.div_le_self _ _) hx
    have nrr : nd r ≤ 1000 := nd_le_of_le (Nat.le_of_lt hr) hb
    have nrr2 : nd (r + r) ≤ 1001 := by have := nd_add r r; omega
    have nrr3 : nd (r + r + 1) ≤ 1002 := by have := nd_add (r + r) 1; have : nd 1 = 1 := rfl; omega
    have nqq : nd (q + q) ≤ 1001 := by have := nd_add q q; omega
    have d1 := pc_bAdd (na := nr) (nb := nr) (a := r) (b := r) (by omega) (by omega)
    have d2 := pc_bAdd (na := decide (q = 0)) (nb := decide (q = 0)) (a := q) (b := q) (by omega) (by omega)
    have d3 := pc_bInc (na := decide (r + r = 0)) (a := r + r) (by omega)
    have d4 := pc_bInc (na := decide (q + q = 0)) (a := q + q) (by omega)
    by_cases h0 : bit % 2 = 1
    · have ht1 : t = 1 := by omega
      subst ht1
      by_cases hlt : r + r + 1 < b
      · have d5 := pc_bLess (na := false) (nb := nb) (a := r + r + 1) (b := b) (by omega) (by omega)
        rw [decide_eq_true hlt] at d5
        refine W.seg [(2, aV (I6 (↑(i % 16) : Int))), (3, aF), (6, Ans.call false [] [] (PV.vec (decide (r + r = 0)) (BI (nd (r + r)) (dg (r + r))))), (9, aV (I6 (↑(bit % 2) : Int))), (10, aT), (13, Ans.call false [] [] (PV.vec false (BI (nd (r + r + 1)) (dg (r + r + 1))))), (17, Ans.call false [] [] (PV.vec (decide (q + q = 0)) (BI (nd (q + q)) (dg (q + q))))), (21, aK (PV.bool true)), (24, aV (I6 ((i:Int) - 1)))] [] (dsQuoO na nb a b false (q + q) (r + r + 1) ((i:Int) - 1)) (todo' := loopAt Tryz.f91 0) [I6 (Int.tmod (i:Int) (16 : Int)) = I6 (↑(i % 16) : Int), (16 : Int) ≠ (0 : Int), decide ((k:Int) < (↑(i % 16) : Int)) = false, PC Tryz.prog G0 110 [] [PV.vec nr (BI (nd r) (dg r)), PV.vec nr (BI (nd r) (dg r))] [] (PV.vec (decide (r + r = 0)) (BI (nd (r + r)) (dg (r + r)))), I6 (Int.tmod (bit:Int) (2 : Int)) = I6 (↑(bit % 2) : Int), (2 : Int) ≠ (0 : Int), ((↑(bit % 2) : Int) == 1) = true, 1 ≤ 1, PC Tryz.prog G0 110 [] [PV.vec (decide (r + r = 0)) (BI (nd (r + r)) (dg (r + r))), PV.vec false (BI 1 [(1 : Int)])] [] (PV.vec false (BI (nd (r + r + 1)) (dg (r + r + 1)))), PC Tryz.prog G0 110 [] [PV.vec (decide (q = 0)) (BI (nd q) (dg q)), PV.vec (decide (q = 0)) (BI (nd q) (dg q))] [] (PV.vec (decide (q + q = 0)) (BI (nd (q + q)) (dg (q + q)))), PC Tryz.prog G0 19 [] [PV.vec false (BI (nd (r + r + 1)) (dg (r + r + 1))), PV.vec nb (BI (nd b) (dg b))] [] (PV.bool true), I6 (IntKind.wrap .i64 ((i:Int) - 1)) = I6 ((i:Int) - 1), rr (PV.vec na (BI (nd a) (dg a))), rr (PV.vec nb (BI (nd b) (dg b))), rr (PV.vec (decide (q + q = 0)) (BI (nd (q + q)) (dg (q + q)))), rr (PV.vec false (BI (nd (r + r + 1)) (dg (r + r + 1)))), rr (I6 ((i:Int) - 1))] (by kernel_rfl) (ac (cg rfl) (ac (by omega) (ac (decide_eq_false (by omega)) (ac (d1) (ac (cg rfl) (ac (by omega) (ac (decide_eq_true (by omega)) (ac (by omega) (ac (d3) (ac (d2) (ac (d5) (ac (cg (w_i64 rfl (by omega) (by omega))) (ac rfl (ac rfl (ac rfl (ac rfl (ao rfl))))))))))))))))) ?_
        exact h1 hlt false (decide_eq_false (by omega)).symm
      · have d5 := pc_bLess (na := false) (nb := nb) (a := r + r + 1) (b := b) (by omega) (by omega)
        rw [decide_eq_false hlt] at d5
        have d6 := pc_bSub (na := false) (nb := nb) (a := r + r + 1) (b := b) (by omega) (by omega) (by omega)
        rw [decide_eq_false (by omega : ¬ r + r + 1 = 0)] at d6
        have hf : decide (q + q + 1 = 0) = false := decide_eq_false (by omega)
        have h2' := h2 (by omega) false (decide_eq_false (by omega)).symm
        unfold dsQuoO at h2'
        rw [hf] at h2'
        refine W.seg [(2, aV (I6 (↑(i % 16) : Int))), (3, aF), (6, Ans.call false [] [] (PV.vec (decide (r + r = 0)) (BI (nd (r + r)) (dg (r + r))))), (9, aV (I6 (↑(bit % 2) : Int))), (10, aT), (13, Ans.call false [] [] (PV.vec false (BI (nd (r + r + 1)) (dg (r + r + 1))))), (17, Ans.call false [] [] (PV.vec (decide (q + q = 0)) (BI (nd (q + q)) (dg (q + q))))), (21, aK (PV.bool false)), (25, Ans.call false [] [] (PV.vec false (BI (nd (r + r + 1 - b)) (dg (r + r + 1 - b))))), (29, Ans.call false [] [] (PV.vec false (BI (nd (q + q + 1)) (dg (q + q + 1))))), (32, aV (I6 ((i:Int) - 1)))] [] (DS.mk [(0, bv na a), (1, bv nb b), (6, bv false (q + q + 1)), (7, bv false (r + r + 1 - b)), (8, I6 ((i:Int) - 1))] []) (todo' := loopAt Tryz.f91 0) [I6 (Int.tmod (i:Int) (16 : Int)) = I6 (↑(i % 16) : Int), (16 : Int) ≠ (0 : Int), decide ((k:Int) < (↑(i % 16) : Int)) = false, PC Tryz.prog G0 110 [] [PV.vec nr (BI (nd r) (dg r)), PV.vec nr (BI (nd r) (dg r))] [] (PV.vec (decide (r + r = 0)) (BI (nd (r + r)) (dg (r + r)))), I6 (Int.tmod (bit:Int) (2 : Int)) = I6 (↑(bit % 2) : Int), (2 : Int) ≠ (0 : Int), ((↑(bit % 2) : Int) == 1) = true, 1 ≤ 1, PC Tryz.prog G0 110 [] [PV.vec (decide (r + r = 0)) (BI (nd (r + r)) (dg (r + r))), PV.vec false (BI 1 [(1 : Int)])] [] (PV.vec false (BI (nd (r + r + 1)) (dg (r + r + 1)))), PC Tryz.prog G0 110 [] [PV.vec (decide (q = 0)) (BI (nd q) (dg q)), PV.vec (decide (q = 0)) (BI (nd q) (dg q))] [] (PV.vec (decide (q + q = 0)) (BI (nd (q + q)) (dg (q + q)))), PC Tryz.prog G0 19 [] [PV.vec false (BI (nd (r + r + 1)) (dg (r + r + 1))), PV.vec nb (BI (nd b) (dg b))] [] (PV.bool false), PC Tryz.prog G0 111 [] [PV.vec false (BI (nd (r + r + 1)) (dg (r + r + 1))), PV.vec nb (BI (nd b) (dg b))] [] (PV.vec false (BI (nd (r + r + 1 - b)) (dg (r + r + 1 - b)))), 1 ≤ 1, PC Tryz.prog G0 110 [] [PV.vec (decide (q + q = 0)) (BI (nd (q + q)) (dg (q + q))), PV.vec false (BI 1 [(1 : Int)])] [] (PV.vec false (BI (nd (q + q + 1)) (dg (q + q + 1)))), I6 (IntKind.wrap .i64 ((i:Int) - 1)) = I6 ((i:Int) - 1), rr (PV.vec na (BI (nd a) (dg a))), rr (PV.vec nb (BI (nd b) (dg b))), rr (PV.vec false (BI (nd (q + q + 1)) (dg (q + q + 1)))), rr (PV.vec false (BI (nd (r + r + 1 - b)) (dg (r + r + 1 - b)))), rr (I6 ((i:Int) - 1))] (by kernel_rfl) (ac (cg rfl) (ac (by omega) (ac (decide_eq_false (by omega)) (ac (d1) (ac (cg rfl) (ac (by omega) (ac (decide_eq_true (by omega)) (ac (by omega) (ac (d3) (ac (d2) (ac (d5) (ac (d6) (ac (by omega) (ac (d4) (ac (cg (w_i64 rfl (by omega) (by omega))) (ac rfl (ac rfl (ac rfl (ac rfl (ao rfl)))))))))))))))))))) ?_
        exact h2'
    · have ht0 : t = 0 := by omega
      subst ht0
      rw [Nat.add_zero] at h1 h2
      by_cases hlt : r + r < b
      · have d5 := pc_bLess (na := decide (r + r = 0)) (nb := nb) (a := r + r) (b := b) (by omega) (by omega)
        rw [decide_eq_true hlt] at d5
        refine W.seg [(2, aV (I6 (↑(i % 16) : Int))), (3, aF), (6, Ans.call false [] [] (PV.vec (decide (r + r = 0)) (BI (nd (r + r)) (dg (r + r))))), (9, aV (I6 (↑(bit % 2) : Int))), (10, aF), (13, Ans.call false [] [] (PV.vec (decide (q + q = 0)) (BI (nd (q + q)) (dg (q + q))))), (17, aK (PV.bool true)), (20, aV (I6 ((i:Int) - 1)))] [] (dsQuoO na nb a b (decide (r + r = 0)) (q + q) (r + r) ((i:Int) - 1)) (todo' := loopAt Tryz.f91 0) [I6 (Int.tmod (i:Int) (16 : Int)) = I6 (↑(i % 16) : Int), (16 : Int) ≠ (0 : Int), decide ((k:Int) < (↑(i % 16) : Int)) = false, PC Tryz.prog G0 110 [] [PV.vec nr (BI (nd r) (dg r)), PV.vec nr (BI (nd r) (dg r))] [] (PV.vec (decide (r + r = 0)) (BI (nd (r + r)) (dg (r + r)))), I6 (Int.tmod (bit:Int) (2 : Int)) = I6 (↑(bit % 2) : Int), (2 : Int) ≠ (0 : Int), ((↑(bit % 2) : Int) == 1) = false, PC Tryz.prog G0 110 [] [PV.vec (decide (q = 0)) (BI (nd q) (dg q)), PV.vec (decide (q = 0)) (BI (nd q) (dg q))] [] (PV.vec (decide (q + q = 0)) (BI (nd (q + q)) (dg (q + q)))), PC Tryz.prog G0 19 [] [PV.vec (decide (r + r = 0)) (BI (nd (r + r)) (dg (r + r))), PV.vec nb (BI (nd b) (dg b))] [] (PV.bool true), I6 (IntKind.wrap .i64 ((i:Int) - 1)) = I6 ((i:Int) - 1), rr (PV.vec na (BI (nd a) (dg a))), rr (PV.vec nb (BI (nd b) (dg b))), rr (PV.vec (decide (q + q = 0)) (BI (nd (q + q)) (dg (q + q)))), rr (PV.vec (decide (r + r = 0)) (BI (nd (r + r)) (dg (r + r)))), rr (I6 ((i:Int) - 1))] (by kernel_rfl) (ac (cg rfl) (ac (by omega) (ac (decide_eq_false (by omega)) (ac (d1) (ac (cg rfl) (ac (by omega) (ac (decide_eq_false (by omega)) (ac (d2) (ac (d5) (ac (cg (w_i64 rfl (by omega) (by omega))) (ac rfl (ac rfl (ac rfl (ac rfl (ao rfl))))))))))))))) ?_
        exact h1 hlt _ rfl
      · have d5 := pc_bLess (na := decide (r + r = 0)) (nb := nb) (a := r + r) (b := b) (by omega) (by omega)
        rw [decide_eq_false hlt] at d5
        have d6 := pc_bSub (na := decide (r + r = 0)) (nb := nb) (a := r + r) (b := b) (by omega) (by omega) (by omega)
        have hf : decide (q + q + 1 = 0) = false := decide_eq_false (by omega)
        have h2' := h2 (by omega) (decide (r + r = 0)) rfl
        unfold dsQuoO at h2'
        rw [hf] at h2'
        refine W.seg [(2, aV (I6 (↑(i % 16) : Int))), (3, aF), (6, Ans.call false [] [] (PV.vec (decide (r + r = 0)) (BI (nd (r + r)) (dg (r + r))))), (9, aV (I6 (↑(bit % 2) : Int))), (10, aF), (13, Ans.call false [] [] (PV.vec (decide (q + q = 0)) (BI (nd (q + q)) (dg (q + q))))), (17, aK (PV.bool false)), (21, Ans.call false [] [] (PV.vec (decide (r + r = 0)) (BI (nd (r + r - b)) (dg (r + r - b))))), (25, Ans.call false [] [] (PV.vec false (BI (nd (q + q + 1)) (dg (q + q + 1))))), (28, aV (I6 ((i:Int) - 1)))] [] (DS.mk [(0, bv na a), (1, bv nb b), (6, bv false (q + q + 1)), (7, bv (decide (r + r = 0)) (r + r - b)), (8, I6 ((i:Int) - 1))] []) (todo' := loopAt Tryz.f91 0) [I6 (Int.tmod (i:Int) (16 : Int)) = I6 (↑(i % 16) : Int), (16 : Int) ≠ (0 : Int), decide ((k:Int) < (↑(i % 16) : Int)) = false, PC Tryz.prog G0 110 [] [PV.vec nr (BI (nd r) (dg r)), PV.vec nr (BI (nd r) (dg r))] [] (PV.vec (decide (r + r = 0)) (BI (nd (r + r)) (dg (r + r)))), I6 (Int.tmod (bit:Int) (2 : Int)) = I6 (↑(bit % 2) : Int), (2 : Int) ≠ (0 : Int), ((↑(bit % 2) : Int) == 1) = false, PC Tryz.prog G0 110 [] [PV.vec (decide (q = 0)) (BI (nd q) (dg q)), PV.vec (decide (q = 0)) (BI (nd q) (dg q))] [] (PV.vec (decide (q + q = 0)) (BI (nd (q + q)) (dg (q + q)))), PC Tryz.prog G0 19 [] [PV.vec (decide (r + r = 0)) (BI (nd (r + r)) (dg (r + r))), PV.vec nb (BI (nd b) (dg b))] [] (PV.bool false), PC Tryz.prog G0 111 [] [PV.vec (decide (r + r = 0)) (BI (nd (r + r)) (dg (r + r))), PV.vec nb (BI (nd b) (dg b))] [] (PV.vec (decide (r + r = 0)) (BI (nd (r + r - b)) (dg (r + r - b)))), 1 ≤ 1, PC Tryz.prog G0 110 [] [PV.vec (decide (q + q = 0)) (BI (nd (q + q)) (dg (q + q))), PV.vec false (BI 1 [(1 : Int)])] [] (PV.vec false (BI (nd (q + q + 1)) (dg (q + q + 1)))), I6 (IntKind.wrap .i64 ((i:Int) - 1)) = I6 ((i:Int) - 1), rr (PV.vec na (BI (nd a) (dg a))), rr (PV.vec nb (BI (nd b) (dg b))), rr (PV.vec false (BI (nd (q + q + 1)) (dg (q + q + 1)))), rr (PV.vec (decide (r + r = 0)) (BI (nd (r + r - b)) (dg (r + r - b)))), rr (I6 ((i:Int) - 1))] (by kernel_rfl) (ac (cg rfl) (ac (by omega) (ac (decide_eq_false (by omega)) (ac (d1) (ac (cg rfl) (ac (by omega) (ac (decide_eq_false (by omega)) (ac (d2) (ac (d5) (ac (d6) (ac (by omega) (ac (d4) (ac (cg (w_i64 rfl (by omega) (by omega))) (ac rfl (ac rfl (ac rfl (ac rfl (ao rfl)))))))))))))))))) ?_
        exact h2'
  | j + 1, k, bit, hk, hbit => by
    have hlb : bit < 65536 := by rw [hbit]; exact Nat.lt_of_le_of_lt (Nat.div_le_self _ _) hx
    refine W.seg [(2, aV (I6 (↑(i % 16) : Int))), (3, aT), (5, aV (I6 (↑(bit / 2) : Int))), (8, aV (I6 (↑(k + 1) : Int)))] [] (dsQuoI na nb a b nr q r i (bit / 2) (k + 1)) (todo' := loopAt Tryz.f91 1) [I6 (Int.tmod (i:Int) (16 : Int)) = I6 (↑(i % 16) : Int), (16 : Int) ≠ (0 : Int), decide ((k:Int) < (↑(i % 16) : Int)) = true, I6 (IntKind.wrap .i64 (Int.tdiv (bit:Int) (2 : Int))) = I6 (↑(bit / 2) : Int), (2 : Int) ≠ (0 : Int), I6 (IntKind.wrap .i64 ((k:Int) + 1)) = I6 (↑(k + 1) : Int), rr (PV.vec na (BI (nd a) (dg a))), rr (PV.vec nb (BI (nd b) (dg b))), rr (PV.vec (decide (q = 0)) (BI (nd q) (dg q))), rr (PV.vec nr (BI (nd r) (dg r))), rr (I6 (i:Int)), rr (I6 (↑(bit / 2) : Int)), rr (I6 (↑(k + 1) : Int))] (by kernel_rfl) (ac (cg rfl) (ac (by omega) (ac (decide_eq_true (by omega)) (ac (cg (w_i64 rfl (by omega) (by omega))) (ac (by omega) (ac (cg (w_i64 rfl (by omega) (by omega))) (ac rfl (ac rfl (ac rfl (ac rfl (ac rfl (ac rfl (ao rfl))))))))))))) ?_
    exact W_quoI ha hb hq hr hi x hx t ht h1 h2 j (k + 1) _ (by omega) (by rw [hbit, Nat.pow_succ, Nat.div_div_eq_div_mul])
def qf (a b i : Nat) : Bool := decide (a / 2 ^ (i + 1) % b + a / 2 ^ (i + 1) % b + a / 2 ^ i % 2 = 0)
theorem W_quoO {na nb : Bool} {a b : Nat} (ha : nd a ≤ 1000) (hb : nd b ≤ 1000) (hb0 : 0 < b) : ∀ (i q r : Nat) (nr : Bool), i ≤ 16 * nd a → a / 2 ^ i / b = q → a / 2 ^ i % b = r → nr = qf a b i →
    W Tryz.prog G0 Tryz.f91 [] [] (.tup [bv (decide (a / b = 0)) (a / b), bv (qf a b 0) (a % b)]) (loopAt Tryz.f91 0) (dsQuoO na nb a b nr q r ((i : Int) - 1))
  | 0, q, r, nr, hi, hq, hr, hnr => by
    rw [Nat.pow_zero, Nat.div_one] at hq hr
    rw [hq, hr, ← hnr]
    refine W.ret [(0, aV (I6 (-1)))] [] [I6 ((↑(0 : Nat) : Int) - 1) = I6 (-1), rr (PV.tup [PV.vec (decide (q = 0)) (BI (nd q) (dg q)), PV.vec nr (BI (nd r) (dg r))])] (by kernel_rfl) (ac (cg (by omega)) (ao rfl))
  | i + 1, q, r, nr, hi, hq, hr, hnr => by
    have hg := dg_getD a (i / 16)
    have hx : a / 65536 ^ (i / 16) % 65536 < 65536 := Nat.mod_lt _ (by omega)
    have ht : a / 65536 ^ (i / 16) % 65536 / 2 ^ (i % 16) % 2 = a / 2 ^ i % 2 := bit_digit
    have hrb : r < b := by rw [← hr]; exact Nat.mod_lt _ hb0
    have hqa : q ≤ a := by rw [← hq]; exact Nat.le_trans (Nat.div_le_self _ _) (Nat.div_le_self _ _)
    obtain ⟨g1, g2⟩ := quo_step hq hr hb0 _ rfl
    have hf : qf a b i = decide (r + r + a / 2 ^ i % 2 = 0) := by unfold qf; rw [hr]
    generalize a / 65536 ^ (i / 16) % 65536 = x at *
    refine W.seg [(0, aV (I6 (i:Int))), (3, aV (I6 (i:Int))), (4, aV (I6 (↑(i / 16) : Int))), (5, aV (PV.cptr (BI (nd a) (dg a)) [Stp.idx (i / 16) 1])), (6, aV (I6 (x:Int)))] [] (dsQuoI na nb a b nr q r i x 0) (todo' := loopAt Tryz.f91 1) [I6 ((↑(i + 1) : Int) - 1) = I6 (i:Int), I6 ((↑(i + 1) : Int) - 1) = I6 (i:Int), I6 (IntKind.wrap .i64 (Int.tdiv (i:Int) (16 : Int))) = I6 (↑(i / 16) : Int), (16 : Int) ≠ (0 : Int), PV.cptr (BI (nd a) (dg a)) [Stp.idx (Int.toNat (↑(i / 16) : Int)) 1] = PV.cptr (BI (nd a) (dg a)) [Stp.idx (i / 16) 1], 0 ≤ (↑(i / 16) : Int), (↑(i / 16) : Int) < (↑(nd a) : Int), I6 (List.getD (dg a) (i / 16) (0 : Int)) = I6 (x:Int), i / 16 < nd a, rr (PV.vec na (BI (nd a) (dg a))), rr (PV.vec nb (BI (nd b) (dg b))), rr (PV.vec (decide (q = 0)) (BI (nd q) (dg q))), rr (PV.vec nr (BI (nd r) (dg r))), I6 ((↑(i + 1) : Int) - 1) = I6 (i:Int), rr (I6 (x:Int)), I6 0 = I6 (↑(0 : Nat) : Int)] (by kernel_rfl) (ac (cg (by omega)) (ac (cg (by omega)) (ac (cg (w_i64 rfl (by omega) (by omega))) (ac (by omega) (ac (by simp only [Int.toNat_natCast]) (ac (by omega) (ac (by omega) (ac (cg (hg)) (ac (by omega) (ac rfl (ac rfl (ac rfl (ac rfl (ac (cg (by omega)) (ac rfl (ao (cg (by omega)))))))))))))))))) ?_
    refine W_quoI ha (by assumption) (nd_le_of_le hqa ha) hrb (by omega) x hx _ ht ?_ ?_ (i % 16) 0 x (by omega) (by simp)
    · intro h nr' hn
      obtain ⟨e1, e2⟩ := g1 h
      exact W_quoO ha (by assumption) hb0 i _ _ _ (by omega) e1 e2 (by rw [hf, hn])
    · intro h nr' hn
      obtain ⟨e1, e2⟩ := g2 h
      exact W_quoO ha (by assumption) hb0 i _ _ _ (by omega) e1 e2 (by rw [hf, hn])
theorem pc_bQuo {na nb : Bool} {a b : Nat} (ha : nd a ≤ 1000) (hb : nd b ≤ 1000) (hb0 : 0 < b) : PC Tryz.prog G0 91 [] [bv na a, bv nb b] [] (.tup [bv (decide (a / b = 0)) (a / b), bv (qf a b 0) (a % b)]) := by
  refine PC.of (fn := Tryz.f91) (c := bodyOf Tryz.f91) Tryz.func91 (by kernel_rfl) (by kernel_rfl) (by kernel_rfl) (by kernel_rfl) ?_
  have e0 : a / 2 ^ (16 * nd a) = 0 := by rw [← pow16]; exact div_nd (Nat.le_refl _)
  have e1 : a / 2 ^ (16 * nd a + 1) = 0 := by rw [Nat.pow_succ, ← Nat.div_div_eq_div_mul, e0, Nat.zero_div]
  have hz := W_quoO (na := na) (nb := nb) ha hb hb0 (16 * nd a) 0 0 true (Nat.le_refl _) (by rw [e0, Nat.zero_div]) (by rw [e0, Nat.zero_mod]) (by unfold qf; rw [e0, e1]; simp)
  refine W.seg [(6, aV (I6 (↑(16 * nd a) : Int))), (7, aV (I6 (16 * (↑(nd a) : Int) - 1)))] [] (DS.mk [(0, bv na a), (1, bv nb b), (6, PV.vec true (BI 0 [])), (7, PV.vec true (BI 0 [])), (8, I6 ((↑(16 * nd a) : Int) - 1))] []) (todo' := loopAt Tryz.f91 0) [I6 (IntKind.wrap .i64 (16 * (↑(nd a) : Int))) = I6 (↑(16 * nd a) : Int), I6 (IntKind.wrap .i64 ((↑(16 * nd a) : Int) - 1)) = I6 (16 * (↑(nd a) : Int) - 1), rr (PV.vec na (BI (nd a) (dg a))), rr (PV.vec nb (BI (nd b) (dg b))), rr (PV.vec true (BI 0 [])), rr (PV.vec true (BI 0 [])), I6 (16 * (↑(nd a) : Int) - 1) = I6 ((↑(16 * nd a) : Int) - 1)] (by kernel_rfl) (ac (cg (w_i64 rfl (by omega) (by omega))) (ac (cg (w_i64 rfl (by omega) (by omega))) (ac rfl (ac rfl (ac rfl (ac rfl (ao (cg (by omega))))))))) ?_
  exact hz
end Go.Proofs
namespace Go.Proofs
open Go Go.Pe Go.Pm
set_option maxRecDepth 100000
theorem pc_add64 {x y c : Nat} (hc : c ≤ 1) : PC Tryz.prog G0 57 [] [.int .u64 x, .int .u64 y, .int .u64 c] [] (.tup [.int .u64 (((x + y + c) % 18446744073709551616 : Nat) : Int), .int .u64 (((x + y + c) / 18446744073709551616 : Nat) : Int)]) := by
  refine PC.extern (fn := Tryz.f57) (e := add64Entry) Tryz.func57 (by kernel_rfl) (by kernel_rfl) (by kernel_rfl) (by kernel_rfl) ?_
  intro T ρ w vs hs h
  obtain ⟨rfl, h1, h2, h3⟩ := args3 hs h
  have g1 : (x : Int) ≤ 18446744073709551615 := ((wrap_bounds _ _).1 h1).2
  have g2 : (y : Int) ≤ 18446744073709551615 := ((wrap_bounds _ _).1 h2).2
  refine ⟨_, ?_, RV_tup2 (w_u64 rfl (by omega) (by omega)) (w_u64 rfl (by omega) (by omega))⟩
  rw [run_add64 x y c (by omega) (by omega) (by omega) (by omega)]
  rfl
theorem pc_sub64 {x y c : Nat} (hc : c ≤ 1) : PC Tryz.prog G0 78 [] [.int .u64 x, .int .u64 y, .int .u64 c] [] (.tup [.int .u64 (((x + 18446744073709551616 - y - c) % 18446744073709551616 : Nat) : Int), .int .u64 ((bor x y c : Nat) : Int)]) := by
  refine PC.extern (fn := Tryz.f78) (e := sub64Entry') Tryz.func78 (by kernel_rfl) (by kernel_rfl) (by kernel_rfl) (by kernel_rfl) ?_
  intro T ρ w vs hs h
  obtain ⟨rfl, h1, h2, h3⟩ := args3 hs h
  exact ⟨_, run_sub64' x y c hc w, RV_tup2 (w_u64 rfl (by omega) (by omega)) (w_u64 rfl (by omega) (by have := bor_le x y c; omega))⟩
theorem pc_wOf (x : Nat) (hx : x < 18446744073709551616) : PC Tryz.prog G0 53 [] [.int .u64 x] [] (.iarr .u64 4 (uw x)) := by
  refine PC.of (fn := Tryz.f53) (c := bodyOf Tryz.f53) Tryz.func53 (by kernel_rfl) (by kernel_rfl) (by kernel_rfl) (by kernel_rfl) ?_
  refine W.ret [] [] [B6 4 [(x:Int), (0 : Int), (0 : Int), (0 : Int)] = B6 4 (uw x)] (by kernel_rfl) (ao ?_)
  exact congrArg (PV.iarr .u64 4) (uw_eq (a := x) (b := 0) (c := 0) (d := 0) (by unfold wu; omega) hx (by omega) (by omega) (by omega))
theorem tup_ib {n : Nat} {l l' : List Int} {b b' : Bool} (h : l = l') (h' : b = b') : PV.tup [.iarr .u64 n l, .bool b] = PV.tup [.iarr .u64 n l', .bool b'] := by subst h; subst h'; rfl
set_option maxHeartbeats 4000000 in
theorem pc_wAdd {a b : Nat} (ha : a < W256) (hb : b < W256) : PC Tryz.prog G0 35 [] [.iarr .u64 4 (uw a), .iarr .u64 4 (uw b)] [] (.tup [.iarr .u64 4 (uw ((a + b) % W256)), .bool (decide (W256 ≤ a + b))]) := by
  refine PC.of (fn := Tryz.f35) (c := bodyOf Tryz.f35) Tryz.func35 (by kernel_rfl) (by kernel_rfl) (by kernel_rfl) (by kernel_rfl) ?_
  obtain ⟨a0, a1, a2, a3, p0, p1, p2, p3, rfl, e⟩ := words_of ha
  obtain ⟨b0, b1, b2, b3, q0, q1, q2, q3, rfl, f⟩ := words_of hb
  rw [e, f]
  clear e f
  refine W.seg [] [(64, 1), (80, 2), (96, 3)] (DS.mk [(2, PV.at 1 []), (3, PV.at 2 []), (4, PV.at 3 []), (6, U6 0), (8, I6 0)] [(1, Row.mk (B6 4 [(a0:Int), (a1:Int), (a2:Int), (a3:Int)]) false), (2, Row.mk (B6 4 [(b0:Int), (b1:Int), (b2:Int), (b3:Int)]) false), (3, Row.mk (B6 4 [(0 : Int), (0 : Int), (0 : Int), (0 : Int)]) false)]) (todo' := loopAt Tryz.f35 0) [rr (PV.at 1 []), rr (PV.at 2 []), rr (PV.at 3 []), rr (U6 0), rr (I6 0), rr (B6 4 [(a0:Int), (a1:Int), (a2:Int), (a3:Int)]), rr (B6 4 [(b0:Int), (b1:Int), (b2:Int), (b3:Int)]), rr (B6 4 [(0 : Int), (0 : Int), (0 : Int), (0 : Int)])] (by kernel_rfl) (ac rfl (ac rfl (ac rfl (ac rfl (ac rfl (ac rfl (ac rfl (ao rfl)))))))) ?_
  refine W.seg [(11, aK (PV.tup [U6 (↑((a0 + b0 + 0) % 18446744073709551616) : Int), U6 (↑((a0 + b0 + 0) / 18446744073709551616) : Int)])), (12, aV (PV.tup [U6 (↑((a0 + b0) % 18446744073709551616) : Int), U6 (↑((a0 + b0) / 18446744073709551616) : Int)])), (18, aV (I6 1))] [(1, 1), (2, 2), (3, 3)] (DS.mk [(2, PV.at 1 []), (3, PV.at 2 []), (4, PV.at 3 []), (6, U6 (↑((a0 + b0) / 18446744073709551616) : Int)), (8, I6 1)] [(1, Row.mk (B6 4 [(↑((a0 + b0) % 18446744073709551616) : Int), (a1:Int), (a2:Int), (a3:Int)]) false), (2, Row.mk (B6 4 [(b0:Int), (b1:Int), (b2:Int), (b3:Int)]) false), (3, Row.mk (B6 4 [(0 : Int), (0 : Int), (0 : Int), (0 : Int)]) false)]) (todo' := loopAt Tryz.f35 0) [(0 : Int) ≤ (0 : Int), 0 < (↑(4 : Nat) : Int), 0 < 4, (0 : Int) ≤ (0 : Int), 0 < (↑(4 : Nat) : Int), 0 < 4, PC Tryz.prog G0 57 [] [U6 (a0:Int), U6 (b0:Int), U6 0] [] (PV.tup [U6 (↑((a0 + b0 + 0) % 18446744073709551616) : Int), U6 (↑((a0 + b0 + 0) / 18446744073709551616) : Int)]), PV.tup [U6 (↑((a0 + b0 + 0) % 18446744073709551616) : Int), U6 (↑((a0 + b0 + 0) / 18446744073709551616) : Int)] = PV.tup [U6 (↑((a0 + b0) % 18446744073709551616) : Int), U6 (↑((a0 + b0) / 18446744073709551616) : Int)], (0 : Int) ≤ (0 : Int), 0 < (↑(4 : Nat) : Int), 0 < 4, I6 (IntKind.wrap .i64 ((0 : Int) + (1 : Int))) = I6 1, rr (PV.at 1 []), rr (PV.at 2 []), rr (PV.at 3 []), rr (U6 (↑((a0 + b0) / 18446744073709551616) : Int)), rr (I6 1), rr (B6 4 [(↑((a0 + b0) % 18446744073709551616) : Int), (a1:Int), (a2:Int), (a3:Int)]), rr (B6 4 [(b0:Int), (b1:Int), (b2:Int), (b3:Int)]), rr (B6 4 [(0 : Int), (0 : Int), (0 : Int), (0 : Int)])] (by kernel_rfl) (ac (by omega) (ac (by omega) (ac (by omega) (ac (by omega) (ac (by omega) (ac (by omega) (ac (pc_add64 (by first | omega | decide)) (ac (by simp only [Nat.add_zero]) (ac (by omega) (ac (by omega) (ac (by omega) (ac (cg (w_i64 rfl (by omega) (by omega))) (ac rfl (ac rfl (ac rfl (ac rfl (ac rfl (ac rfl (ac rfl (ao rfl)))))))))))))))))))) ?_
  refine W.seg [(11, aK (PV.tup [U6 (↑((a1 + b1 + (a0 + b0) / 18446744073709551616) % 18446744073709551616) : Int), U6 (↑((a1 + b1 + (a0 + b0) / 18446744073709551616) / 18446744073709551616) : Int)])), (18, aV (I6 2))] [(1, 1), (2, 2), (3, 3)] (DS.mk [(2, PV.at 1 []), (3, PV.at 2 []), (4, PV.at 3 []), (6, U6 (↑((a1 + b1 + (a0 + b0) / 18446744073709551616) / 18446744073709551616) : Int)), (8, I6 2)] [(1, Row.mk (B6 4 [(↑((a0 + b0) % 18446744073709551616) : Int), (↑((a1 + b1 + (a0 + b0) / 18446744073709551616) % 18446744073709551616) : Int), (a2:Int), (a3:Int)]) false), (2, Row.mk (B6 4 [(b0:Int), (b1:Int), (b2:Int), (b3:Int)]) false), (3, Row.mk (B6 4 [(0 : Int), (0 : Int), (0 : Int), (0 : Int)]) false)]) (todo' := loopAt Tryz.f35 0) [(0 : Int) ≤ (1 : Int), 1 < (↑(4 : Nat) : Int), 1 < 4, (0 : Int) ≤ (1 : Int), 1 < (↑(4 : Nat) : Int), 1 < 4, PC Tryz.prog G0 57 [] [U6 (a1:Int), U6 (b1:Int), U6 (↑((a0 + b0) / 18446744073709551616) : Int)] [] (PV.tup [U6 (↑((a1 + b1 + (a0 + b0) / 18446744073709551616) % 18446744073709551616) : Int), U6 (↑((a1 + b1 + (a0 + b0) / 18446744073709551616) / 18446744073709551616) : Int)]), (0 : Int) ≤ (1 : Int), 1 < (↑(4 : Nat) : Int), 1 < 4, I6 (IntKind.wrap .i64 ((1 : Int) + (1 : Int))) = I6 2, rr (PV.at 1 []), rr (PV.at 2 []), rr (PV.at 3 []), rr (U6 (↑((a1 + b1 + (a0 + b0) / 18446744073709551616) / 18446744073709551616) : Int)), rr (I6 2), rr (B6 4 [(↑((a0 + b0) % 18446744073709551616) : Int), (↑((a1 + b1 + (a0 + b0) / 18446744073709551616) % 18446744073709551616) : Int), (a2:Int), (a3:Int)]), rr (B6 4 [(b0:Int), (b1:Int), (b2:Int), (b3:Int)]), rr (B6 4 [(0 : Int), (0 : Int), (0 : Int), (0 : Int)])] (by kernel_rfl) (ac (by omega) (ac (by omega) (ac (by omega) (ac (by omega) (ac (by omega) (ac (by omega) (ac (pc_add64 (by first | omega | decide)) (ac (by omega) (ac (by omega) (ac (by omega) (ac (cg (w_i64 rfl (by omega) (by omega))) (ac rfl (ac rfl (ac rfl (ac rfl (ac rfl (ac rfl (ac rfl (ao rfl))))))))))))))))))) ?_
  refine W.seg [(11, aK (PV.tup [U6 (↑((a2 + b2 + (a1 + b1 + (a0 + b0) / 18446744073709551616) / 18446744073709551616) % 18446744073709551616) : Int), U6 (↑((a2 + b2 + (a1 + b1 + (a0 + b0) / 18446744073709551616) / 18446744073709551616) / 18446744073709551616) : Int)])), (18, aV (I6 3))] [(1, 1), (2, 2), (3, 3)] (DS.mk [(2, PV.at 1 []), (3, PV.at 2 []), (4, PV.at 3 []), (6, U6 (↑((a2 + b2 + (a1 + b1 + (a0 + b0) / 18446744073709551616) / 18446744073709551616) / 18446744073709551616) : Int)), (8, I6 3)] [(1, Row.mk (B6 4 [(↑((a0 + b0) % 18446744073709551616) : Int), (↑((a1 + b1 + (a0 + b0) / 18446744073709551616) % 18446744073709551616) : Int), (↑((a2 + b2 + (a1 + b1 + (a0 + b0) / 18446744073709551616) / 18446744073709551616) % 18446744073709551616) : Int), (a3:Int)]) false), (2, Row.mk (B6 4 [(b0:Int), (b1:Int), (b2:Int), (b3:Int)]) false), (3, Row.mk (B6 4 [(0 : Int), (0 : Int), (0 : Int), (0 : Int)]) false)]) (todo' := loopAt Tryz.f35 0) [(0 : Int) ≤ (2 : Int), 2 < (↑(4 : Nat) : Int), 2 < 4, (0 : Int) ≤ (2 : Int), 2 < (↑(4 : Nat) : Int), 2 < 4, PC Tryz.prog G0 57 [] [U6 (a2:Int), U6 (b2:Int), U6 (↑((a1 + b1 + (a0 + b0) / 18446744073709551616) / 18446744073709551616) : Int)] [] (PV.tup [U6 (↑((a2 + b2 + (a1 + b1 + (a0 + b0) / 18446744073709551616) / 18446744073709551616) % 18446744073709551616) : Int), U6 (↑((a2 + b2 + (a1 + b1 + (a0 + b0) / 18446744073709551616) / 18446744073709551616) / 18446744073709551616) : Int)]), (0 : Int) ≤ (2 : Int), 2 < (↑(4 : Nat) : Int), 2 < 4, I6 (IntKind.wrap .i64 ((2 : Int) + (1 : Int))) = I6 3, rr (PV.at 1 []), rr (PV.at 2 []), rr (PV.at 3 []), rr (U6 (↑((a2 + b2 + (a1 + b1 + (a0 + b0) / 18446744073709551616) / 18446744073709551616) / 18446744073709551616) : Int)), rr (I6 3), rr (B6 4 [(↑((a0 + b0) % 18446744073709551616) : Int), (↑((a1 + b1 + (a0 + b0) / 18446744073709551616) % 18446744073709551616) : Int), (↑((a2 + b2 + (a1 + b1 + (a0 + b0) / 18446744073709551616) / 18446744073709551616) % 18446744073709551616) : Int), (a3:Int)]), rr (B6 4 [(b0:Int), (b1:Int), (b2:Int), (b3:Int)]), rr (B6 4 [(0 : Int), (0 : Int), (0 : Int), (0 : Int)])] (by kernel_rfl) (ac (by omega) (ac (by omega) (ac (by omega) (ac (by omega) (ac (by omega) (ac (by omega) (ac (pc_add64 (by first | omega | decide)) (ac (by omega) (ac (by omega) (ac (by omega) (ac (cg (w_i64 rfl (by omega) (by omega))) (ac rfl (ac rfl (ac rfl (ac rfl (ac rfl (ac rfl (ac rfl (ao rfl))))))))))))))))))) ?_
  refine W.seg [(11, aK (PV.tup [U6 (↑((a3 + b3 + (a2 + b2 + (a1 + b1 + (a0 + b0) / 18446744073709551616) / 18446744073709551616) / 18446744073709551616) % 18446744073709551616) : Int), U6 (↑((a3 + b3 + (a2 + b2 + (a1 + b1 + (a0 + b0) / 18446744073709551616) / 18446744073709551616) / 18446744073709551616) / 18446744073709551616) : Int)])), (18, aV (I6 4))] [(1, 1), (2, 2), (3, 3)] (DS.mk [(2, PV.at 1 []), (3, PV.at 2 []), (4, PV.at 3 []), (6, U6 (↑((a3 + b3 + (a2 + b2 + (a1 + b1 + (a0 + b0) / 18446744073709551616) / 18446744073709551616) / 18446744073709551616) / 18446744073709551616) : Int)), (8, I6 4)] [(1, Row.mk (B6 4 [(↑((a0 + b0) % 18446744073709551616) : Int), (↑((a1 + b1 + (a0 + b0) / 18446744073709551616) % 18446744073709551616) : Int), (↑((a2 + b2 + (a1 + b1 + (a0 + b0) / 18446744073709551616) / 18446744073709551616) % 18446744073709551616) : Int), (↑((a3 + b3 + (a2 + b2 + (a1 + b1 + (a0 + b0) / 18446744073709551616) / 18446744073709551616) / 18446744073709551616) % 18446744073709551616) : Int)]) false), (2, Row.mk (B6 4 [(b0:Int), (b1:Int), (b2:Int), (b3:Int)]) false), (3, Row.mk (B6 4 [(0 : Int), (0 : Int), (0 : Int), (0 : Int)]) false)]) (todo' := loopAt Tryz.f35 0) [(0 : Int) ≤ (3 : Int), 3 < (↑(4 : Nat) : Int), 3 < 4, (0 : Int) ≤ (3 : Int), 3 < (↑(4 : Nat) : Int), 3 < 4, PC Tryz.prog G0 57 [] [U6 (a3:Int), U6 (b3:Int), U6 (↑((a2 + b2 + (a1 + b1 + (a0 + b0) / 18446744073709551616) / 18446744073709551616) / 18446744073709551616) : Int)] [] (PV.tup [U6 (↑((a3 + b3 + (a2 + b2 + (a1 + b1 + (a0 + b0) / 18446744073709551616) / 18446744073709551616) / 18446744073709551616) % 18446744073709551616) : Int), U6 (↑((a3 + b3 + (a2 + b2 + (a1 + b1 + (a0 + b0) / 18446744073709551616) / 18446744073709551616) / 18446744073709551616) / 18446744073709551616) : Int)]), (0 : Int) ≤ (3 : Int), 3 < (↑(4 : Nat) : Int), 3 < 4, I6 (IntKind.wrap .i64 ((3 : Int) + (1 : Int))) = I6 4, rr (PV.at 1 []), rr (PV.at 2 []), rr (PV.at 3 []), rr (U6 (↑((a3 + b3 + (a2 + b2 + (a1 + b1 + (a0 + b0) / 18446744073709551616) / 18446744073709551616) / 18446744073709551616) / 18446744073709551616) : Int)), rr (I6 4), rr (B6 4 [(↑((a0 + b0) % 18446744073709551616) : Int), (↑((a1 + b1 + (a0 + b0) / 18446744073709551616) % 18446744073709551616) : Int), (↑((a2 + b2 + (a1 + b1 + (a0 + b0) / 18446744073709551616) / 18446744073709551616) % 18446744073709551616) : Int), (↑((a3 + b3 + (a2 + b2 + (a1 + b1 + (a0 + b0) / 18446744073709551616) / 18446744073709551616) / 18446744073709551616) % 18446744073709551616) : Int)]), rr (B6 4 [(b0:Int), (b1:Int), (b2:Int), (b3:Int)]), rr (B6 4 [(0 : Int), (0 : Int), (0 : Int), (0 : Int)])] (by kernel_rfl) (ac (by omega) (ac (by omega) (ac (by omega) (ac (by omega) (ac (by omega) (ac (by omega) (ac (pc_add64 (by first | omega | decide)) (ac (by omega) (ac (by omega) (ac (by omega) (ac (cg (w_i64 rfl (by omega) (by omega))) (ac rfl (ac rfl (ac rfl (ac rfl (ac rfl (ac rfl (ac rfl (ao rfl))))))))))))))))))) ?_
  refine W.ret [] [] [PV.tup [B6 4 [(↑((a0 + b0) % 18446744073709551616) : Int), (↑((a1 + b1 + (a0 + b0) / 18446744073709551616) % 18446744073709551616) : Int), (↑((a2 + b2 + (a1 + b1 + (a0 + b0) / 18446744073709551616) / 18446744073709551616) % 18446744073709551616) : Int), (↑((a3 + b3 + (a2 + b2 + (a1 + b1 + (a0 + b0) / 18446744073709551616) / 18446744073709551616) / 18446744073709551616) % 18446744073709551616) : Int)], PV.bool (decide ((↑((a3 + b3 + (a2 + b2 + (a1 + b1 + (a0 + b0) / 18446744073709551616) / 18446744073709551616) / 18446744073709551616) / 18446744073709551616) : Int) > (0 : Int)))] = PV.tup [B6 4 (uw ((wu a0 a1 a2 a3 + wu b0 b1 b2 b3) % W256)), PV.bool (decide (W256 ≤ wu a0 a1 a2 a3 + wu b0 b1 b2 b3))]] (by kernel_rfl) (ao ?_)
  have hs := add_words a0 a1 a2 a3 b0 b1 b2 b3
  refine tup_ib (uw_eq ?_ (by omega) (by omega) (by omega) (by omega)) ?_
  · rw [hs, Nat.add_mul_mod_self_left, Nat.mod_eq_of_lt (wu_lt (by omega) (by omega) (by omega) (by omega))]
  · have hl : wu ((a0 + b0) % 18446744073709551616) ((a1 + b1 + (a0 + b0) / 18446744073709551616) % 18446744073709551616) ((a2 + b2 + (a1 + b1 + (a0 + b0) / 18446744073709551616) / 18446744073709551616) % 18446744073709551616) ((a3 + b3 + (a2 + b2 + (a1 + b1 + (a0 + b0) / 18446744073709551616) / 18446744073709551616) / 18446744073709551616) % 18446744073709551616) < W256 := wu_lt (by omega) (by omega) (by omega) (by omega)
    rw [Bool.eq_iff_iff, decide_eq_true_iff, decide_eq_true_iff]
    rw [hs]
    generalize (a3 + b3 + (a2 + b2 + (a1 + b1 + (a0 + b0) / 18446744073709551616) / 18446744073709551616) / 18446744073709551616) / 18446744073709551616 = c at *
    unfold W256 at *
    omega
set_option maxHeartbeats 4000000 in
theorem pc_wSub {a b : Nat} (ha : a < W256) (hb : b < W256) : PC Tryz.prog G0 59 [] [.iarr .u64 4 (uw a), .iarr .u64 4 (uw b)] [] (.tup [.iarr .u64 4 (uw ((a + W256 - b) % W256)), .bool (decide (a < b))]) := by
  refine PC.of (fn := Tryz.f59) (c := bodyOf Tryz.f59) Tryz.func59 (by kernel_rfl) (by kernel_rfl) (by kernel_rfl) (by kernel_rfl) ?_
  obtain ⟨a0, a1, a2, a3, p0, p1, p2, p3, rfl, e⟩ := words_of ha
  obtain ⟨b0, b1, b2, b3, q0, q1, q2, q3, rfl, f⟩ := words_of hb
  rw [e, f]
  clear e f
  have h0 := bor_le a0 b0 0
  have h1 := bor_le a1 b1 (bor a0 b0 0)
  have h2 := bor_le a2 b2 (bor a1 b1 (bor a0 b0 0))
  have h3 := bor_le a3 b3 (bor a2 b2 (bor a1 b1 (bor a0 b0 0)))
  refine W.seg [] [(64, 1), (80, 2), (96, 3)] (DS.mk [(2, PV.at 1 []), (3, PV.at 2 []), (4, PV.at 3 []), (6, U6 0), (8, I6 0)] [(1, Row.mk (B6 4 [(a0:Int), (a1:Int), (a2:Int), (a3:Int)]) false), (2, Row.mk (B6 4 [(b0:Int), (b1:Int), (b2:Int), (b3:Int)]) false), (3, Row.mk (B6 4 [(0 : Int), (0 : Int), (0 : Int), (0 : Int)]) false)]) (todo' := loopAt Tryz.f59 0) [rr (PV.at 1 []), rr (PV.at 2 []), rr (PV.at 3 []), rr (U6 0), rr (I6 0), rr (B6 4 [(a0:Int), (a1:Int), (a2:Int), (a3:Int)]), rr (B6 4 [(b0:Int), (b1:Int), (b2:Int), (b3:Int)]), rr (B6 4 [(0 : Int), (0 : Int), (0 : Int), (0 : Int)])] (by kernel_rfl) (ac rfl (ac rfl (ac rfl (ac rfl (ac rfl (ac rfl (ac rfl (ao rfl)))))))) ?_
  refine W.seg [(11, aK (PV.tup [U6 (↑((a0 + 18446744073709551616 - b0 - 0) % 18446744073709551616) : Int), U6 (↑(bor a0 b0 0) : Int)])), (12, aV (PV.tup [U6 (↑((a0 + 18446744073709551616 - b0) % 18446744073709551616) : Int), U6 (↑(bor a0 b0 0) : Int)])), (18, aV (I6 1))] [(1, 1), (2, 2), (3, 3)] (DS.mk [(2, PV.at 1 []), (3, PV.at 2 []), (4, PV.at 3 []), (6, U6 (↑(bor a0 b0 0) : Int)), (8, I6 1)] [(1, Row.mk (B6 4 [(↑((a0 + 18446744073709551616 - b0) % 18446744073709551616) : Int), (a1:Int), (a2:Int), (a3:Int)]) false), (2, Row.mk (B6 4 [(b0:Int), (b1:Int), (b2:Int), (b3:Int)]) false), (3, Row.mk (B6 4 [(0 : Int), (0 : Int), (0 : Int), (0 : Int)]) false)]) (todo' := loopAt Tryz.f59 0) [(0 : Int) ≤ (0 : Int), 0 < (↑(4 : Nat) : Int), 0 < 4, (0 : Int) ≤ (0 : Int), 0 < (↑(4 : Nat) : Int), 0 < 4, PC Tryz.prog G0 78 [] [U6 (a0:Int), U6 (b0:Int), U6 0] [] (PV.tup [U6 (↑((a0 + 18446744073709551616 - b0 - 0) % 18446744073709551616) : Int), U6 (↑(bor a0 b0 0) : Int)]), PV.tup [U6 (↑((a0 + 18446744073709551616 - b0 - 0) % 18446744073709551616) : Int), U6 (↑(bor a0 b0 0) : Int)] = PV.tup [U6 (↑((a0 + 18446744073709551616 - b0) % 18446744073709551616) : Int), U6 (↑(bor a0 b0 0) : Int)], (0 : Int) ≤ (0 : Int), 0 < (↑(4 : Nat) : Int), 0 < 4, I6 (IntKind.wrap .i64 ((0 : Int) + (1 : Int))) = I6 1, rr (PV.at 1 []), rr (PV.at 2 []), rr (PV.at 3 []), rr (U6 (↑(bor a0 b0 0) : Int)), rr (I6 1), rr (B6 4 [(↑((a0 + 18446744073709551616 - b0) % 18446744073709551616) : Int), (a1:Int), (a2:Int), (a3:Int)]), rr (B6 4 [(b0:Int), (b1:Int), (b2:Int), (b3:Int)]), rr (B6 4 [(0 : Int), (0 : Int), (0 : Int), (0 : Int)])] (by kernel_rfl) (ac (by omega) (ac (by omega) (ac (by omega) (ac (by omega) (ac (by omega) (ac (by omega) (ac (pc_sub64 (by first | omega | decide)) (ac (by simp only [Nat.sub_zero]) (ac (by omega) (ac (by omega) (ac (by omega) (ac (cg (w_i64 rfl (by omega) (by omega))) (ac rfl (ac rfl (ac rfl (ac rfl (ac rfl (ac rfl (ac rfl (ao rfl)))))))))))))))))))) ?_
  refine W.seg [(11, aK (PV.tup [U6 (↑((a1 + 18446744073709551616 - b1 - bor a0 b0 0) % 18446744073709551616) : Int), U6 (↑(bor a1 b1 (bor a0 b0 0)) : Int)])), (18, aV (I6 2))] [(1, 1), (2, 2), (3, 3)] (DS.mk [(2, PV.at 1 []), (3, PV.at 2 []), (4, PV.at 3 []), (6, U6 (↑(bor a1 b1 (bor a0 b0 0)) : Int)), (8, I6 2)] [(1, Row.mk (B6 4 [(↑((a0 + 18446744073709551616 - b0) % 18446744073709551616) : Int), (↑((a1 + 18446744073709551616 - b1 - bor a0 b0 0) % 18446744073709551616) : Int), (a2:Int), (a3:Int)]) false), (2, Row.mk (B6 4 [(b0:Int), (b1:Int), (b2:Int), (b3:Int)]) false), (3, Row.mk (B6 4 [(0 : Int), (0 : Int), (0 : Int), (0 : Int)]) false)]) (todo' := loopAt Tryz.f59 0) [(0 : Int) ≤ (1 : Int), 1 < (↑(4 : Nat) : Int), 1 < 4, (0 : Int) ≤ (1 : Int), 1 < (↑(4 : Nat) : Int), 1 < 4, PC Tryz.prog G0 78 [] [U6 (a1:Int), U6 (b1:Int), U6 (↑(bor a0 b0 0) : Int)] [] (PV.tup [U6 (↑((a1 + 18446744073709551616 - b1 - bor a0 b0 0) % 18446744073709551616) : Int), U6 (↑(bor a1 b1 (bor a0 b0 0)) : Int)]), (0 : Int) ≤ (1 : Int), 1 < (↑(4 : Nat) : Int), 1 < 4, I6 (IntKind.wrap .i64 ((1 : Int) + (1 : Int))) = I6 2, rr (PV.at 1 []), rr (PV.at 2 []), rr (PV.at 3 []), rr (U6 (↑(bor a1 b1 (bor a0 b0 0)) : Int)), rr (I6 2), rr (B6 4 [(↑((a0 + 18446744073709551616 - b0) % 18446744073709551616) : Int), (↑((a1 + 18446744073709551616 - b1 - bor a0 b0 0) % 18446744073709551616) : Int), (a2:Int), (a3:Int)]), rr (B6 4 [(b0:Int), (b1:Int), (b2:Int), (b3:Int)]), rr (B6 4 [(0 : Int), (0 : Int), (0 : Int), (0 : Int)])] (by kernel_rfl) (ac (by omega) (ac (by omega) (ac (by omega) (ac (by omega) (ac (by omega) (ac (by omega) (ac (pc_sub64 (by first | omega | decide)) (ac (by omega) (ac (by omega) (ac (by omega) (ac (cg (w_i64 rfl (by omega) (by omega))) (ac rfl (ac rfl (ac rfl (ac rfl (ac rfl (ac rfl (ac rfl (ao rfl))))))))))))))))))) ?_
  refine W.seg [(11, aK (PV.tup [U6 (↑((a2 + 18446744073709551616 - b2 - bor a1 b1 (bor a0 b0 0)) % 18446744073709551616) : Int), U6 (↑(bor a2 b2 (bor a1 b1 (bor a0 b0 0))) : Int)])), (18, aV (I6 3))] [(1, 1), (2, 2), (3, 3)] (DS.mk [(2, PV.at 1 []), (3, PV.at 2 []), (4, PV.at 3 []), (6, U6 (↑(bor a2 b2 (bor a1 b1 (bor a0 b0 0))) : Int)), (8, I6 3)] [(1, Row.mk (B6 4 [(↑((a0 + 18446744073709551616 - b0) % 18446744073709551616) : Int), (↑((a1 + 18446744073709551616 - b1 - bor a0 b0 0) % 18446744073709551616) : Int), (↑((a2 + 18446744073709551616 - b2 - bor a1 b1 (bor a0 b0 0)) % 18446744073709551616) : Int), (a3:Int)]) false), (2, Row.mk (B6 4 [(b0:Int), (b1:Int), (b2:Int), (b3:Int)]) false), (3, Row.mk (B6 4 [(0 : Int), (0 : Int), (0 : Int), (0 : Int)]) false)]) (todo' := loopAt Tryz.f59 0) [(0 : Int) ≤ (2 : Int), 2 < (↑(4 : Nat) : Int), 2 < 4, (0 : Int) ≤ (2 : Int), 2 < (↑(4 : Nat) : Int), 2 < 4, PC Tryz.prog G0 78 [] [U6 (a2:Int), U6 (b2:Int), U6 (↑(bor a1 b1 (bor a0 b0 0)) : Int)] [] (PV.tup [U6 (↑((a2 + 18446744073709551616 - b2 - bor a1 b1 (bor a0 b0 0)) % 18446744073709551616) : Int), U6 (↑(bor a2 b2 (bor a1 b1 (bor a0 b0 0))) : Int)]), (0 : Int) ≤ (2 : Int), 2 < (↑(4 : Nat) : Int), 2 < 4, I6 (IntKind.wrap .i64 ((2 : Int) + (1 : Int))) = I6 3, rr (PV.at 1 []), rr (PV.at 2 []), rr (PV.at 3 []), rr (U6 (↑(bor a2 b2 (bor a1 b1 (bor a0 b0 0))) : Int)), rr (I6 3), rr (B6 4 [(↑((a0 + 18446744073709551616 - b0) % 18446744073709551616) : Int), (↑((a1 + 18446744073709551616 - b1 - bor a0 b0 0) % 18446744073709551616) : Int), (↑((a2 + 18446744073709551616 - b2 - bor a1 b1 (bor a0 b0 0)) % 18446744073709551616) : Int), (a3:Int)]), rr (B6 4 [(b0:Int), (b1:Int), (b2:Int), (b3:Int)]), rr (B6 4 [(0 : Int), (0 : Int), (0 : Int), (0 : Int)])] (by kernel_rfl) (ac (by omega) (ac (by omega) (ac (by omega) (ac (by omega) (ac (by omega) (ac (by omega) (ac (pc_sub64 (by first | omega | decide)) (ac (by omega) (ac (by omega) (ac (by omega) (ac (cg (w_i64 rfl (by omega) (by omega))) (ac rfl (ac rfl (ac rfl (ac rfl (ac rfl (ac rfl (ac rfl (ao rfl))))))))))))))))))) ?_
  refine W.seg [(11, aK (PV.tup [U6 (↑((a3 + 18446744073709551616 - b3 - bor a2 b2 (bor a1 b1 (bor a0 b0 0))) % 18446744073709551616) : Int), U6 (↑(bor a3 b3 (bor a2 b2 (bor a1 b1 (bor a0 b0 0)))) : Int)])), (18, aV (I6 4))] [(1, 1), (2, 2), (3, 3)] (DS.mk [(2, PV.at 1 []), (3, PV.at 2 []), (4, PV.at 3 []), (6, U6 (↑(bor a3 b3 (bor a2 b2 (bor a1 b1 (bor a0 b0 0)))) : Int)), (8, I6 4)] [(1, Row.mk (B6 4 [(↑((a0 + 18446744073709551616 - b0) % 18446744073709551616) : Int), (↑((a1 + 18446744073709551616 - b1 - bor a0 b0 0) % 18446744073709551616) : Int), (↑((a2 + 18446744073709551616 - b2 - bor a1 b1 (bor a0 b0 0)) % 18446744073709551616) : Int), (↑((a3 + 18446744073709551616 - b3 - bor a2 b2 (bor a1 b1 (bor a0 b0 0))) % 18446744073709551616) : Int)]) false), (2, Row.mk (B6 4 [(b0:Int), (b1:Int), (b2:Int), (b3:Int)]) false), (3, Row.mk (B6 4 [(0 : Int), (0 : Int), (0 : Int), (0 : Int)]) false)]) (todo' := loopAt Tryz.f59 0) [(0 : Int) ≤ (3 : Int), 3 < (↑(4 : Nat) : Int), 3 < 4, (0 : Int) ≤ (3 : Int), 3 < (↑(4 : Nat) : Int), 3 < 4, PC Tryz.prog G0 78 [] [U6 (a3:Int), U6 (b3:Int), U6 (↑(bor a2 b2 (bor a1 b1 (bor a0 b0 0))) : Int)] [] (PV.tup [U6 (↑((a3 + 18446744073709551616 - b3 - bor a2 b2 (bor a1 b1 (bor a0 b0 0))) % 18446744073709551616) : Int), U6 (↑(bor a3 b3 (bor a2 b2 (bor a1 b1 (bor a0 b0 0)))) : Int)]), (0 : Int) ≤ (3 : Int), 3 < (↑(4 : Nat) : Int), 3 < 4, I6 (IntKind.wrap .i64 ((3 : Int) + (1 : Int))) = I6 4, rr (PV.at 1 []), rr (PV.at 2 []), rr (PV.at 3 []), rr (U6 (↑(bor a3 b3 (bor a2 b2 (bor a1 b1 (bor a0 b0 0)))) : Int)), rr (I6 4), rr (B6 4 [(↑((a0 + 18446744073709551616 - b0) % 18446744073709551616) : Int), (↑((a1 + 18446744073709551616 - b1 - bor a0 b0 0) % 18446744073709551616) : Int), (↑((a2 + 18446744073709551616 - b2 - bor a1 b1 (bor a0 b0 0)) % 18446744073709551616) : Int), (↑((a3 + 18446744073709551616 - b3 - bor a2 b2 (bor a1 b1 (bor a0 b0 0))) % 18446744073709551616) : Int)]), rr (B6 4 [(b0:Int), (b1:Int), (b2:Int), (b3:Int)]), rr (B6 4 [(0 : Int), (0 : Int), (0 : Int), (0 : Int)])] (by kernel_rfl) (ac (by omega) (ac (by omega) (ac (by omega) (ac (by omega) (ac (by omega) (ac (by omega) (ac (pc_sub64 (by first | omega | decide)) (ac (by omega) (ac (by omega) (ac (by omega) (ac (cg (w_i64 rfl (by omega) (by omega))) (ac rfl (ac rfl (ac rfl (ac rfl (ac rfl (ac rfl (ac rfl (ao rfl))))))))))))))))))) ?_
  refine W.ret [] [] [PV.tup [B6 4 [(↑((a0 + 18446744073709551616 - b0) % 18446744073709551616) : Int), (↑((a1 + 18446744073709551616 - b1 - bor a0 b0 0) % 18446744073709551616) : Int), (↑((a2 + 18446744073709551616 - b2 - bor a1 b1 (bor a0 b0 0)) % 18446744073709551616) : Int), (↑((a3 + 18446744073709551616 - b3 - bor a2 b2 (bor a1 b1 (bor a0 b0 0))) % 18446744073709551616) : Int)], PV.bool (decide ((↑(bor a3 b3 (bor a2 b2 (bor a1 b1 (bor a0 b0 0)))) : Int) > (0 : Int)))] = PV.tup [B6 4 (uw ((wu a0 a1 a2 a3 + W256 - wu b0 b1 b2 b3) % W256)), PV.bool (decide (wu a0 a1 a2 a3 < wu b0 b1 b2 b3))]] (by kernel_rfl) (ao ?_)
  have e0 := sub_word (c := 0) p0 q0 (by omega)
  have e1 := sub_word p1 q1 h0
  have e2 := sub_word p2 q2 h1
  have e3 := sub_word p3 q3 h2
  have hs := sub_words e0 e1 e2 e3
  clear e0 e1 e2 e3
  have hl := @wu_lt ((a0 + 18446744073709551616 - b0 - 0) % 18446744073709551616) ((a1 + 18446744073709551616 - b1 - bor a0 b0 0) % 18446744073709551616) ((a2 + 18446744073709551616 - b2 - bor a1 b1 (bor a0 b0 0)) % 18446744073709551616) ((a3 + 18446744073709551616 - b3 - bor a2 b2 (bor a1 b1 (bor a0 b0 0))) % 18446744073709551616) (by omega) (by omega) (by omega) (by omega)
  refine tup_ib (uw_eq ?_ (by omega) (by omega) (by omega) (by omega)) ?_
  · generalize wu ((a0 + 18446744073709551616 - b0 - 0) % 18446744073709551616) ((a1 + 18446744073709551616 - b1 - bor a0 b0 0) % 18446744073709551616) ((a2 + 18446744073709551616 - b2 - bor a1 b1 (bor a0 b0 0)) % 18446744073709551616) ((a3 + 18446744073709551616 - b3 - bor a2 b2 (bor a1 b1 (bor a0 b0 0))) % 18446744073709551616) = s at *
    generalize bor a3 b3 (bor a2 b2 (bor a1 b1 (bor a0 b0 0))) = c at *
    generalize wu a0 a1 a2 a3 = x at *
    generalize wu b0 b1 b2 b3 = y at *
    unfold W256 at *
    omega
  · rw [Bool.eq_iff_iff, decide_eq_true_iff, decide_eq_true_iff]
    generalize wu ((a0 + 18446744073709551616 - b0 - 0) % 18446744073709551616) ((a1 + 18446744073709551616 - b1 - bor a0 b0 0) % 18446744073709551616) ((a2 + 18446744073709551616 - b2 - bor a1 b1 (bor a0 b0 0)) % 18446744073709551616) ((a3 + 18446744073709551616 - b3 - bor a2 b2 (bor a1 b1 (bor a0 b0 0))) % 18446744073709551616) = s at *
    generalize bor a3 b3 (bor a2 b2 (bor a1 b1 (bor a0 b0 0))) = c at *
    generalize wu a0 a1 a2 a3 = x at *
    generalize wu b0 b1 b2 b3 = y at *
    unfold W256 at *
    omega
def cmpN (a b : Nat) : Int := if a < b then -1 else if b < a then 1 else 0
theorem pc_wCmp {a b : Nat} (ha : a < W256) (hb : b < W256) : PC Tryz.prog G0 15 [] [.iarr .u64 4 (uw a), .iarr .u64 4 (uw b)] [] (.int .i64 (cmpN a b)) := by
  refine PC.of (fn := Tryz.f15) (c := bodyOf Tryz.f15) Tryz.func15 (by kernel_rfl) (by kernel_rfl) (by kernel_rfl) (by kernel_rfl) ?_
  obtain ⟨a0, a1, a2, a3, p0, p1, p2, p3, rfl, e⟩ := words_of ha
  obtain ⟨b0, b1, b2, b3, q0, q1, q2, q3, rfl, f⟩ := words_of hb
  rw [e, f]
  clear e f ha hb
  have lt : wu a0 a1 a2 a3 < wu b0 b1 b2 b3 → cmpN (wu a0 a1 a2 a3) (wu b0 b1 b2 b3) = -1 := fun h => by simp [cmpN, h]
  have gt : wu b0 b1 b2 b3 < wu a0 a1 a2 a3 → cmpN (wu a0 a1 a2 a3) (wu b0 b1 b2 b3) = 1 := fun h => by simp [cmpN, h]; omega
  refine W.seg [] [(64, 1), (80, 2)] (DS.mk [(2, PV.at 1 []), (3, PV.at 2 []), (5, I6 3)] [(1, Row.mk (B6 4 [(a0:Int), (a1:Int), (a2:Int), (a3:Int)]) false), (2, Row.mk (B6 4 [(b0:Int), (b1:Int), (b2:Int), (b3:Int)]) false)]) (todo' := loopAt Tryz.f15 0) [rr (PV.at 1 []), rr (PV.at 2 []), rr (I6 3), rr (B6 4 [(a0:Int), (a1:Int), (a2:Int), (a3:Int)]), rr (B6 4 [(b0:Int), (b1:Int), (b2:Int), (b3:Int)])] (by kernel_rfl) (ac rfl (ac rfl (ac rfl (ac rfl (ao rfl))))) ?_
  rcases Nat.lt_trichotomy a3 b3 with h | h | h
  · rw [show cmpN _ _ = -1 from lt (by unfold wu; omega)]
    refine W.ret [(8, aT)] [] [(0 : Int) ≤ (3 : Int), 3 < (↑(4 : Nat) : Int), 3 < 4, (0 : Int) ≤ (3 : Int), 3 < (↑(4 : Nat) : Int), 3 < 4, decide ((a3:Int) < (b3:Int)) = true, rr (I6 (-1))] (by kernel_rfl) (ac (by omega) (ac (by omega) (ac (by omega) (ac (by omega) (ac (by omega) (ac (by omega) (ac (decide_eq_true (by omega)) (ao rfl))))))))
  · subst h
    refine W.seg [(8, aF), (15, aF), (17, aV (I6 2))] [(1, 1), (2, 2)] (DS.mk [(2, PV.at 1 []), (3, PV.at 2 []), (5, I6 2)] [(1, Row.mk (B6 4 [(a0:Int), (a1:Int), (a2:Int), (a3:Int)]) false), (2, Row.mk (B6 4 [(b0:Int), (b1:Int), (b2:Int), (a3:Int)]) false)]) (todo' := loopAt Tryz.f15 0) [(0 : Int) ≤ (3 : Int), 3 < (↑(4 : Nat) : Int), 3 < 4, (0 : Int) ≤ (3 : Int), 3 < (↑(4 : Nat) : Int), 3 < 4, decide ((a3:Int) < (a3:Int)) = false, (0 : Int) ≤ (3 : Int), 3 < (↑(4 : Nat) : Int), 3 < 4, (0 : Int) ≤ (3 : Int), 3 < (↑(4 : Nat) : Int), 3 < 4, decide ((a3:Int) > (a3:Int)) = false, I6 (IntKind.wrap .i64 ((3 : Int) - (1 : Int))) = I6 2, rr (PV.at 1 []), rr (PV.at 2 []), rr (I6 2), rr (B6 4 [(a0:Int), (a1:Int), (a2:Int), (a3:Int)]), rr (B6 4 [(b0:Int), (b1:Int), (b2:Int), (a3:Int)])] (by kernel_rfl) (ac (by omega) (ac (by omega) (ac (by omega) (ac (by omega) (ac (by omega) (ac (by omega) (ac (decide_eq_false (by omega)) (ac (by omega) (ac (by omega) (ac (by omega) (ac (by omega) (ac (by omega) (ac (by omega) (ac (decide_eq_false (by omega)) (ac (cg (w_i64 rfl (by omega) (by omega))) (ac rfl (ac rfl (ac rfl (ac rfl (ao rfl)))))))))))))))))))) ?_
    rcases Nat.lt_trichotomy a2 b2 with h | h | h
    · rw [show cmpN _ _ = -1 from lt (by unfold wu; omega)]
      refine W.ret [(8, aT)] [] [(0 : Int) ≤ (2 : Int), 2 < (↑(4 : Nat) : Int), 2 < 4, (0 : Int) ≤ (2 : Int), 2 < (↑(4 : Nat) : Int), 2 < 4, decide ((a2:Int) < (b2:Int)) = true, rr (I6 (-1))] (by kernel_rfl) (ac (by omega) (ac (by omega) (ac (by omega) (ac (by omega) (ac (by omega) (ac (by omega) (ac (decide_eq_true (by omega)) (ao rfl))))))))
    · subst h
      refine W.seg [(8, aF), (15, aF), (17, aV (I6 1))] [(1, 1), (2, 2)] (DS.mk [(2, PV.at 1 []), (3, PV.at 2 []), (5, I6 1)] [(1, Row.mk (B6 4 [(a0:Int), (a1:Int), (a2:Int), (a3:Int)]) false), (2, Row.mk (B6 4 [(b0:Int), (b1:Int), (a2:Int), (a3:Int)]) false)]) (todo' := loopAt Tryz.f15 0) [(0 : Int) ≤ (2 : Int), 2 < (↑(4 : Nat) : Int), 2 < 4, (0 : Int) ≤ (2 : Int), 2 < (↑(4 : Nat) : Int), 2 < 4, decide ((a2:Int) < (a2:Int)) = false, (0 : Int) ≤ (2 : Int), 2 < (↑(4 : Nat) : Int), 2 < 4, (0 : Int) ≤ (2 : Int), 2 < (↑(4 : Nat) : Int), 2 < 4, decide ((a2:Int) > (a2:Int)) = false, I6 (IntKind.wrap .i64 ((2 : Int) - (1 : Int))) = I6 1, rr (PV.at 1 []), rr (PV.at 2 []), rr (I6 1), rr (B6 4 [(a0:Int), (a1:Int), (a2:Int), (a3:Int)]), rr (B6 4 [(b0:Int), (b1:Int), (a2:Int), (a3:Int)])] (by kernel_rfl) (ac (by omega) (ac (by omega) (ac (by omega) (ac (by omega) (ac (by omega) (ac (by omega) (ac (decide_eq_false (by omega)) (ac (by omega) (ac (by omega) (ac (by omega) (ac (by omega) (ac (by omega) (ac (by omega) (ac (decide_eq_false (by omega)) (ac (cg (w_i64 rfl (by omega) (by omega))) (ac rfl (ac rfl (ac rfl (ac rfl (ao rfl)))))))))))))))))))) ?_
      rcases Nat.lt_trichotomy a1 b1 with h | h | h
      · rw [show cmpN _ _ = -1 from lt (by unfold wu; omega)]
        refine W.ret [(8, aT)] [] [(0 : Int) ≤ (1 : Int), 1 < (↑(4 : Nat) : Int), 1 < 4, (0 : Int) ≤ (1 : Int), 1 < (↑(4 : Nat) : Int), 1 < 4, decide ((a1:Int) < (b1:Int)) = true, rr (I6 (-1))] (by kernel_rfl) (ac (by omega) (ac (by omega) (ac (by omega) (ac (by omega) (ac (by omega) (ac (by omega) (ac (decide_eq_true (by omega)) (ao rfl))))))))
      · subst h
        refine W.seg [(8, aF), (15, aF), (17, aV (I6 0))] [(1, 1), (2, 2)] (DS.mk [(2, PV.at 1 []), (3, PV.at 2 []), (5, I6 0)] [(1, Row.mk (B6 4 [(a0:Int), (a1:Int), (a2:Int), (a3:Int)]) false), (2, Row.mk (B6 4 [(b0:Int), (a1:Int), (a2:Int), (a3:Int)]) false)]) (todo' := loopAt Tryz.f15 0) [(0 : Int) ≤ (1 : Int), 1 < (↑(4 : Nat) : Int), 1 < 4, (0 : Int) ≤ (1 : Int), 1 < (↑(4 : Nat) : Int), 1 < 4, decide ((a1:Int) < (a1:Int)) = false, (0 : Int) ≤ (1 : Int), 1 < (↑(4 : Nat) : Int), 1 < 4, (0 : Int) ≤ (1 : Int), 1 < (↑(4 : Nat) : Int), 1 < 4, decide ((a1:Int) > (a1:Int)) = false, I6 (IntKind.wrap .i64 ((1 : Int) - (1 : Int))) = I6 0, rr (PV.at 1 []), rr (PV.at 2 []), rr (I6 0), rr (B6 4 [(a0:Int), (a1:Int), (a2:Int), (a3:Int)]), rr (B6 4 [(b0:Int), (a1:Int), (a2:Int), (a3:Int)])] (by kernel_rfl) (ac (by omega) (ac (by omega) (ac (by omega) (ac (by omega) (ac (by omega) (ac (by omega) (ac (decide_eq_false (by omega)) (ac (by omega) (ac (by omega) (ac (by omega) (ac (by omega) (ac (by omega) (ac (by omega) (ac (decide_eq_false (by omega)) (ac (cg (w_i64 rfl (by omega) (by omega))) (ac rfl (ac rfl (ac rfl (ac rfl (ao rfl)))))))))))))))))))) ?_
        rcases Nat.lt_trichotomy a0 b0 with h | h | h
        · rw [show cmpN _ _ = -1 from lt (by unfold wu; omega)]
          refine W.ret [(8, aT)] [] [(0 : Int) ≤ (0 : Int), 0 < (↑(4 : Nat) : Int), 0 < 4, (0 : Int) ≤ (0 : Int), 0 < (↑(4 : Nat) : Int), 0 < 4, decide ((a0:Int) < (b0:Int)) = true, rr (I6 (-1))] (by kernel_rfl) (ac (by omega) (ac (by omega) (ac (by omega) (ac (by omega) (ac (by omega) (ac (by omega) (ac (decide_eq_true (by omega)) (ao rfl))))))))
        · subst h
          refine W.seg [(8, aF), (15, aF), (17, aV (I6 (-1)))] [(1, 1), (2, 2)] (DS.mk [(2, PV.at 1 []), (3, PV.at 2 []), (5, I6 (-1))] [(1, Row.mk (B6 4 [(a0:Int), (a1:Int), (a2:Int), (a3:Int)]) false), (2, Row.mk (B6 4 [(a0:Int), (a1:Int), (a2:Int), (a3:Int)]) false)]) (todo' := loopAt Tryz.f15 0) [(0 : Int) ≤ (0 : Int), 0 < (↑(4 : Nat) : Int), 0 < 4, (0 : Int) ≤ (0 : Int), 0 < (↑(4 : Nat) : Int), 0 < 4, decide ((a0:Int) < (a0:Int)) = false, (0 : Int) ≤ (0 : Int), 0 < (↑(4 : Nat) : Int), 0 < 4, (0 : Int) ≤ (0 : Int), 0 < (↑(4 : Nat) : Int), 0 < 4, decide ((a0:Int) > (a0:Int)) = false, I6 (IntKind.wrap .i64 ((0 : Int) - (1 : Int))) = I6 (-1), rr (PV.at 1 []), rr (PV.at 2 []), rr (I6 (-1)), rr (B6 4 [(a0:Int), (a1:Int), (a2:Int), (a3:Int)]), rr (B6 4 [(a0:Int), (a1:Int), (a2:Int), (a3:Int)])] (by kernel_rfl) (ac (by omega) (ac (by omega) (ac (by omega) (ac (by omega) (ac (by omega) (ac (by omega) (ac (decide_eq_false (by omega)) (ac (by omega) (ac (by omega) (ac (by omega) (ac (by omega) (ac (by omega) (ac (by omega) (ac (decide_eq_false (by omega)) (ac (cg (w_i64 rfl (by omega) (by omega))) (ac rfl (ac rfl (ac rfl (ac rfl (ao rfl)))))))))))))))))))) ?_
          rw [show cmpN _ _ = 0 by simp [cmpN]]
          refine W.ret [] [] [rr (I6 0)] (by kernel_rfl) (ao rfl)
        · rw [show cmpN _ _ = 1 from gt (by unfold wu; omega)]
          refine W.ret [(8, aF), (15, aT)] [] [(0 : Int) ≤ (0 : Int), 0 < (↑(4 : Nat) : Int), 0 < 4, (0 : Int) ≤ (0 : Int), 0 < (↑(4 : Nat) : Int), 0 < 4, decide ((a0:Int) < (b0:Int)) = false, (0 : Int) ≤ (0 : Int), 0 < (↑(4 : Nat) : Int), 0 < 4, (0 : Int) ≤ (0 : Int), 0 < (↑(4 : Nat) : Int), 0 < 4, decide ((a0:Int) > (b0:Int)) = true, rr (I6 1)] (by kernel_rfl) (ac (by omega) (ac (by omega) (ac (by omega) (ac (by omega) (ac (by omega) (ac (by omega) (ac (decide_eq_false (by omega)) (ac (by omega) (ac (by omega) (ac (by omega) (ac (by omega) (ac (by omega) (ac (by omega) (ac (decide_eq_true (by omega)) (ao rfl)))))))))))))))
      · rw [show cmpN _ _ = 1 from gt (by unfold wu; omega)]
        refine W.ret [(8, aF), (15, aT)] [] [(0 : Int) ≤ (1 : Int), 1 < (↑(4 : Nat) : Int), 1 < 4, (0 : Int) ≤ (1 : Int), 1 < (↑(4 : Nat) : Int), 1 < 4, decide ((a1:Int) < (b1:Int)) = false, (0 : Int) ≤ (1 : Int), 1 < (↑(4 : Nat) : Int), 1 < 4, (0 : Int) ≤ (1 : Int), 1 < (↑(4 : Nat) : Int), 1 < 4, decide ((a1:Int) > (b1:Int)) = true, rr (I6 1)] (by kernel_rfl) (ac (by omega) (ac (by omega) (ac (by omega) (ac (by omega) (ac (by omega) (ac (by omega) (ac (decide_eq_false (by omega)) (ac (by omega) (ac (by omega) (ac (by omega) (ac (by omega) (ac (by omega) (ac (by omega) (ac (decide_eq_true (by omega)) (ao rfl)))))))))))))))
    · rw [show cmpN _ _ = 1 from gt (by unfold wu; omega)]
      refine W.ret [(8, aF), (15, aT)] [] [(0 : Int) ≤ (2 : Int), 2 < (↑(4 : Nat) : Int), 2 < 4, (0 : Int) ≤ (2 : Int), 2 < (↑(4 : Nat) : Int), 2 < 4, decide ((a2:Int) < (b2:Int)) = false, (0 : Int) ≤ (2 : Int), 2 < (↑(4 : Nat) : Int), 2 < 4, (0 : Int) ≤ (2 : Int), 2 < (↑(4 : Nat) : Int), 2 < 4, decide ((a2:Int) > (b2:Int)) = true, rr (I6 1)] (by kernel_rfl) (ac (by omega) (ac (by omega) (ac (by omega) (ac (by omega) (ac (by omega) (ac (by omega) (ac (decide_eq_false (by omega)) (ac (by omega) (ac (by omega) (ac (by omega) (ac (by omega) (ac (by omega) (ac (by omega) (ac (decide_eq_true (by omega)) (ao rfl)))))))))))))))
  · rw [show cmpN _ _ = 1 from gt (by unfold wu; omega)]
    refine W.ret [(8, aF), (15, aT)] [] [(0 : Int) ≤ (3 : Int), 3 < (↑(4 : Nat) : Int), 3 < 4, (0 : Int) ≤ (3 : Int), 3 < (↑(4 : Nat) : Int), 3 < 4, decide ((a3:Int) < (b3:Int)) = false, (0 : Int) ≤ (3 : Int), 3 < (↑(4 : Nat) : Int), 3 < 4, (0 : Int) ≤ (3 : Int), 3 < (↑(4 : Nat) : Int), 3 < 4, decide ((a3:Int) > (b3:Int)) = true, rr (I6 1)] (by kernel_rfl) (ac (by omega) (ac (by omega) (ac (by omega) (ac (by omega) (ac (by omega) (ac (by omega) (ac (decide_eq_false (by omega)) (ac (by omega) (ac (by omega) (ac (by omega) (ac (by omega) (ac (by omega) (ac (by omega) (ac (decide_eq_true (by omega)) (ao rfl)))))))))))))))
end Go.Proofs
namespace Go.Proofs
open Go Go.Pe Go.Pm
set_option maxRecDepth 100000
def tab8 : ByteArray := ⟨#[0, 1, 2, 2, 3, 3, 3, 3, 4, 4, 4, 4, 4, 4, 4, 4, 5, 5, 5, 5, 5, 5, 5, 5, 5, 5, 5, 5, 5, 5, 5, 5, 6, 6, 6, 6, 6, 6, 6, 6, 6, 6, 6, 6, 6, 6, 6, 6, 6, 6, 6, 6, 6, 6, 6, 6, 6, 6, 6, 6, 6, 6, 6, 6, 7, 7, 7, 7, 7, 7, 7, 7, 7, 7, 7, 7, 7, 7, 7, 7, 7, 7, 7, 7, 7, 7, 7, 7, 7, 7, 7, 7, 7, 7, 7, 7, 7, 7, 7, 7, 7, 7, 7, 7, 7, 7, 7, 7, 7, 7, 7, 7, 7, 7, 7, 7, 7, 7, 7, 7, 7, 7, 7, 7, 7, 7, 7, 7, 8, 8, 8, 8, 8, 8, 8, 8, 8, 8, 8, 8, 8, 8, 8, 8, 8, 8, 8, 8, 8, 8, 8, 8, 8, 8, 8, 8, 8, 8, 8, 8, 8, 8, 8, 8, 8, 8, 8, 8, 8, 8, 8, 8, 8, 8, 8, 8, 8, 8, 8, 8, 8, 8, 8, 8, 8, 8, 8, 8, 8, 8, 8, 8, 8, 8, 8, 8, 8, 8, 8, 8, 8, 8, 8, 8, 8, 8, 8, 8, 8, 8, 8, 8, 8, 8, 8, 8, 8, 8, 8, 8, 8, 8, 8, 8, 8, 8, 8, 8, 8, 8, 8, 8, 8, 8, 8, 8, 8, 8, 8, 8, 8, 8, 8, 8, 8, 8, 8, 8, 8, 8, 8, 8, 8, 8, 8, 8]⟩
theorem tab8_spec : ∀ y : Nat, y < 256 → byteAt tab8 y = (blen y : Nat) := by decide +kernel
theorem blen_256 {y : Nat} (h : y < 256) : blen y ≤ 8 := blen_le.2 h
theorem pc_len64 {x : Nat} (hx : x < 18446744073709551616) : PC Tryz.prog G0 77 [] [.int .u64 x] [] (.int .i64 (blen x)) := by
  refine PC.of (fn := Tryz.f77) (c := bodyOf Tryz.f77) Tryz.func77 (by kernel_rfl) (by kernel_rfl) (by kernel_rfl) (by kernel_rfl) ?_
  have key : ∀ y n : Nat, y < 256 → blen y + n = blen x → byteAt tab8 y = (blen y : Nat) ∧ blen y ≤ 8 ∧ blen x = blen y + n := fun y n h e => ⟨tab8_spec y h, blen_256 h, e.symm⟩
  by_cases c1 : 4294967296 ≤ x
  · have e1 := blen_div (v := x) (k := 32) c1
    by_cases c2 : 65536 ≤ x / 4294967296
    · have e2 := blen_div (v := x / 4294967296) (k := 16) c2
      by_cases c3 : 256 ≤ x / 4294967296 / 65536
      · have e3 := blen_div (v := x / 4294967296 / 65536) (k := 8) c3
        obtain ⟨hb, hl, he⟩ := key (x / 4294967296 / 65536 / 256) 56 (by omega) (by simp only [Nat.reducePow] at e1 e2 e3; omega)
        rw [he]
        refine W.ret [(2, aT), (4, aV (U6 (↑(x / 4294967296) : Int))), (8, aT), (10, aV (U6 (↑(x / 4294967296 / 65536) : Int))), (13, aV (I6 48)), (16, aT), (18, aV (U6 (↑(x / 4294967296 / 65536 / 256) : Int))), (21, aV (I6 56)), (25, aV (U8 (↑(x / 4294967296 / 65536 / 256) : Int))), (26, aV (U8 (↑(blen (x / 4294967296 / 65536 / 256)) : Int))), (27, aV (I6 (↑(blen (x / 4294967296 / 65536 / 256)) : Int))), (28, aV (I6 (↑(blen (x / 4294967296 / 65536 / 256) + 56) : Int)))] [] [decide ((x:Int) ≥ 4294967296) = true, U6 (Int.fdiv (x:Int) ((2 : Int) ^ 32)) = U6 (↑(x / 4294967296) : Int), (0 : Int) ≤ (32 : Int), decide ((↑(x / 4294967296) : Int) ≥ 65536) = true, U6 (Int.fdiv (↑(x / 4294967296) : Int) ((2 : Int) ^ 16)) = U6 (↑(x / 4294967296 / 65536) : Int), (0 : Int) ≤ (16 : Int), I6 (IntKind.wrap .i64 ((32 : Int) + (16 : Int))) = I6 48, decide ((↑(x / 4294967296 / 65536) : Int) ≥ 256) = true, U6 (Int.fdiv (↑(x / 4294967296 / 65536) : Int) ((2 : Int) ^ 8)) = U6 (↑(x / 4294967296 / 65536 / 256) : Int), (0 : Int) ≤ (8 : Int), I6 (IntKind.wrap .i64 ((48 : Int) + (8 : Int))) = I6 56, U8 (IntKind.wrap .u8 (↑(x / 4294967296 / 65536 / 256) : Int)) = U8 (↑(x / 4294967296 / 65536 / 256) : Int), U8 (byteAt tab8 (↑(x / 4294967296 / 65536 / 256) : Int)) = U8 (↑(blen (x / 4294967296 / 65536 / 256)) : Int), 0 ≤ (↑(x / 4294967296 / 65536 / 256) : Int), (↑(x / 4294967296 / 65536 / 256) : Int) < (↑(256 : Nat) : Int), I6 (IntKind.wrap .i64 (↑(blen (x / 4294967296 / 65536 / 256)) : Int)) = I6 (↑(blen (x / 4294967296 / 65536 / 256)) : Int), I6 (IntKind.wrap .i64 (56 + (↑(blen (x / 4294967296 / 65536 / 256)) : Int))) = I6 (↑(blen (x / 4294967296 / 65536 / 256) + 56) : Int), rr (I6 (↑(blen (x / 4294967296 / 65536 / 256) + 56) : Int))] (by kernel_rfl) (ac (decide_eq_true (by omega)) (ac (cg (shrm_u64 (y := 32) (s := 32) rfl rfl (by decide) (by omega))) (ac (by omega) (ac (decide_eq_true (by omega)) (ac (cg (shrm_u64 (y := 16) (s := 16) rfl rfl (by decide) (by omega))) (ac (by omega) (ac (cg (w_i64 rfl (by omega) (by omega))) (ac (decide_eq_true (by omega)) (ac (cg (shrm_u64 (y := 8) (s := 8) rfl rfl (by decide) (by omega))) (ac (by omega) (ac (cg (w_i64 rfl (by omega) (by omega))) (ac (cg (w_u8 rfl (by omega) (by omega))) (ac (cg (hb)) (ac (by omega) (ac (by omega) (ac (cg (w_i64 rfl (by omega) (by omega))) (ac (cg (w_i64 (by omega) (by omega) (by omega))) (ao rfl))))))))))))))))))
      · obtain ⟨hb, hl, he⟩ := key (x / 4294967296 / 65536) 48 (by omega) (by simp only [Nat.reducePow] at e1 e2; omega)
        rw [he]
        refine W.ret [(2, aT), (4, aV (U6 (↑(x / 4294967296) : Int))), (8, aT), (10, aV (U6 (↑(x / 4294967296 / 65536) : Int))), (13, aV (I6 48)), (16, aF), (19, aV (U8 (↑(x / 4294967296 / 65536) : Int))), (20, aV (U8 (↑(blen (x / 4294967296 / 65536)) : Int))), (21, aV (I6 (↑(blen (x / 4294967296 / 65536)) : Int))), (22, aV (I6 (↑(blen (x / 4294967296 / 65536) + 48) : Int)))] [] [decide ((x:Int) ≥ 4294967296) = true, U6 (Int.fdiv (x:Int) ((2 : Int) ^ 32)) = U6 (↑(x / 4294967296) : Int), (0 : Int) ≤ (32 : Int), decide ((↑(x / 4294967296) : Int) ≥ 65536) = true, U6 (Int.fdiv (↑(x / 4294967296) : Int) ((2 : Int) ^ 16)) = U6 (↑(x / 4294967296 / 65536) : Int), (0 : Int) ≤ (16 : Int), I6 (IntKind.wrap .i64 ((32 : Int) + (16 : Int))) = I6 48, decide ((↑(x / 4294967296 / 65536) : Int) ≥ 256) = false, U8 (IntKind.wrap .u8 (↑(x / 4294967296 / 65536) : Int)) = U8 (↑(x / 4294967296 / 65536) : Int), U8 (byteAt tab8 (↑(x / 4294967296 / 65536) : Int)) = U8 (↑(blen (x / 4294967296 / 65536)) : Int), 0 ≤ (↑(x / 4294967296 / 65536) : Int), (↑(x / 4294967296 / 65536) : Int) < (↑(256 : Nat) : Int), I6 (IntKind.wrap .i64 (↑(blen (x / 4294967296 / 65536)) : Int)) = I6 (↑(blen (x / 4294967296 / 65536)) : Int), I6 (IntKind.wrap .i64 (48 + (↑(blen (x / 4294967296 / 65536)) : Int))) = I6 (↑(blen (x / 4294967296 / 65536) + 48) : Int), rr (I6 (↑(blen (x / 4294967296 / 65536) + 48) : Int))] (by kernel_rfl) (ac (decide_eq_true (by omega)) (ac (cg (shrm_u64 (y := 32) (s := 32) rfl rfl (by decide) (by omega))) (ac (by omega) (ac (decide_eq_true (by omega)) (ac (cg (shrm_u64 (y := 16) (s := 16) rfl rfl (by decide) (by omega))) (ac (by omega) (ac (cg (w_i64 rfl (by omega) (by omega))) (ac (decide_eq_false (by omega)) (ac (cg (w_u8 rfl (by omega) (by omega))) (ac (cg (hb)) (ac (by omega) (ac (by omega) (ac (cg (w_i64 rfl (by omega) (by omega))) (ac (cg (w_i64 (by omega) (by omega) (by omega))) (ao rfl)))))))))))))))
    · by_cases c3 : 256 ≤ x / 4294967296
      · have e3 := blen_div (v := x / 4294967296) (k := 8) c3
        obtain ⟨hb, hl, he⟩ := key (x / 4294967296 / 256) 40 (by omega) (by simp only [Nat.reducePow] at e1 e3; omega)
        rw [he]
        refine W.ret [(2, aT), (4, aV (U6 (↑(x / 4294967296) : Int))), (8, aF), (10, aT), (12, aV (U6 (↑(x / 4294967296 / 256) : Int))), (15, aV (I6 40)), (19, aV (U8 (↑(x / 4294967296 / 256) : Int))), (20, aV (U8 (↑(blen (x / 4294967296 / 256)) : Int))), (21, aV (I6 (↑(blen (x / 4294967296 / 256)) : Int))), (22, aV (I6 (↑(blen (x / 4294967296 / 256) + 40) : Int)))] [] [decide ((x:Int) ≥ 4294967296) = true, U6 (Int.fdiv (x:Int) ((2 : Int) ^ 32)) = U6 (↑(x / 4294967296) : Int), (0 : Int) ≤ (32 : Int), decide ((↑(x / 4294967296) : Int) ≥ 65536) = false, decide ((↑(x / 4294967296) : Int) ≥ 256) = true, U6 (Int.fdiv (↑(x / 4294967296) : Int) ((2 : Int) ^ 8)) = U6 (↑(x / 4294967296 / 256) : Int), (0 : Int) ≤ (8 : Int), I6 (IntKind.wrap .i64 ((32 : Int) + (8 : Int))) = I6 40, U8 (IntKind.wrap .u8 (↑(x / 4294967296 / 256) : Int)) = U8 (↑(x / 4294967296 / 256) : Int), U8 (byteAt tab8 (↑(x / 4294967296 / 256) : Int)) = U8 (↑(blen (x / 4294967296 / 256)) : Int), 0 ≤ (↑(x / 4294967296 / 256) : Int), (↑(x / 4294967296 / 256) : Int) < (↑(256 : Nat) : Int), I6 (IntKind.wrap .i64 (↑(blen (x / 4294967296 / 256)) : Int)) = I6 (↑(blen (x / 4294967296 / 256)) : Int), I6 (IntKind.wrap .i64 (40 + (↑(blen (x / 4294967296 / 256)) : Int))) = I6 (↑(blen (x / 4294967296 / 256) + 40) : Int), rr (I6 (↑(blen (x / 4294967296 / 256) + 40) : Int))] (by kernel_rfl) (ac (decide_eq_true (by omega)) (ac (cg (shrm_u64 (y := 32) (s := 32) rfl rfl (by decide) (by omega))) (ac (by omega) (ac (decide_eq_false (by omega)) (ac (decide_eq_true (by omega)) (ac (cg (shrm_u64 (y := 8) (s := 8) rfl rfl (by decide) (by omega))) (ac (by omega) (ac (cg (w_i64 rfl (by omega) (by omega))) (ac (cg (w_u8 rfl (by omega) (by omega))) (ac (cg (hb)) (ac (by omega) (ac (by omega) (ac (cg (w_i64 rfl (by omega) (by omega))) (ac (cg (w_i64 (by omega) (by omega) (by omega))) (ao rfl)))))))))))))))
      · obtain ⟨hb, hl, he⟩ := key (x / 4294967296) 32 (by omega) (by simp only [Nat.reducePow] at e1; omega)
        rw [he]
        refine W.ret [(2, aT), (4, aV (U6 (↑(x / 4294967296) : Int))), (8, aF), (10, aF), (13, aV (U8 (↑(x / 4294967296) : Int))), (14, aV (U8 (↑(blen (x / 4294967296)) : Int))), (15, aV (I6 (↑(blen (x / 4294967296)) : Int))), (16, aV (I6 (↑(blen (x / 4294967296) + 32) : Int)))] [] [decide ((x:Int) ≥ 4294967296) = true, U6 (Int.fdiv (x:Int) ((2 : Int) ^ 32)) = U6 (↑(x / 4294967296) : Int), (0 : Int) ≤ (32 : Int), decide ((↑(x / 4294967296) : Int) ≥ 65536) = false, decide ((↑(x / 4294967296) : Int) ≥ 256) = false, U8 (IntKind.wrap .u8 (↑(x / 4294967296) : Int)) = U8 (↑(x / 4294967296) : Int), U8 (byteAt tab8 (↑(x / 4294967296) : Int)) = U8 (↑(blen (x / 4294967296)) : Int), 0 ≤ (↑(x / 4294967296) : Int), (↑(x / 4294967296) : Int) < (↑(256 : Nat) : Int), I6 (IntKind.wrap .i64 (↑(blen (x / 4294967296)) : Int)) = I6 (↑(blen (x / 4294967296)) : Int), I6 (IntKind.wrap .i64 (32 + (↑(blen (x / 4294967296)) : Int))) = I6 (↑(blen (x / 4294967296) + 32) : Int), rr (I6 (↑(blen (x / 4294967296) + 32) : Int))] (by kernel_rfl) (ac (decide_eq_true (by omega)) (ac (cg (shrm_u64 (y := 32) (s := 32) rfl rfl (by decide) (by omega))) (ac (by omega) (ac (decide_eq_false (by omega)) (ac (decide_eq_false (by omega)) (ac (cg (w_u8 rfl (by omega) (by omega))) (ac (cg (hb)) (ac (by omega) (ac (by omega) (ac (cg (w_i64 rfl (by omega) (by omega))) (ac (cg (w_i64 (by omega) (by omega) (by omega))) (ao rfl))))))))))))
  · by_cases c2 : 65536 ≤ x
    · have e2 := blen_div (v := x) (k := 16) c2
      by_cases c3 : 256 ≤ x / 65536
      · have e3 := blen_div (v := x / 65536) (k := 8) c3
        obtain ⟨hb, hl, he⟩ := key (x / 65536 / 256) 24 (by omega) (by simp only [Nat.reducePow] at e2 e3; omega)
        rw [he]
        refine W.ret [(2, aF), (4, aT), (6, aV (U6 (↑(x / 65536) : Int))), (9, aV (I6 16)), (12, aT), (14, aV (U6 (↑(x / 65536 / 256) : Int))), (17, aV (I6 24)), (21, aV (U8 (↑(x / 65536 / 256) : Int))), (22, aV (U8 (↑(blen (x / 65536 / 256)) : Int))), (23, aV (I6 (↑(blen (x / 65536 / 256)) : Int))), (24, aV (I6 (↑(blen (x / 65536 / 256) + 24) : Int)))] [] [decide ((x:Int) ≥ 4294967296) = false, decide ((x:Int) ≥ 65536) = true, U6 (Int.fdiv (x:Int) ((2 : Int) ^ 16)) = U6 (↑(x / 65536) : Int), (0 : Int) ≤ (16 : Int), I6 (IntKind.wrap .i64 ((0 : Int) + (16 : Int))) = I6 16, decide ((↑(x / 65536) : Int) ≥ 256) = true, U6 (Int.fdiv (↑(x / 65536) : Int) ((2 : Int) ^ 8)) = U6 (↑(x / 65536 / 256) : Int), (0 : Int) ≤ (8 : Int), I6 (IntKind.wrap .i64 ((16 : Int) + (8 : Int))) = I6 24, U8 (IntKind.wrap .u8 (↑(x / 65536 / 256) : Int)) = U8 (↑(x / 65536 / 256) : Int), U8 (byteAt tab8 (↑(x / 65536 / 256) : Int)) = U8 (↑(blen (x / 65536 / 256)) : Int), 0 ≤ (↑(x / 65536 / 256) : Int), (↑(x / 65536 / 256) : Int) < (↑(256 : Nat) : Int), I6 (IntKind.wrap .i64 (↑(blen (x / 65536 / 256)) : Int)) = I6 (↑(blen (x / 65536 / 256)) : Int), I6 (IntKind.wrap .i64 (24 + (↑(blen (x / 65536 / 256)) : Int))) = I6 (↑(blen (x / 65536 / 256) + 24) : Int), rr (I6 (↑(blen (x / 65536 / 256) + 24) : Int))] (by kernel_rfl) (ac (decide_eq_false (by omega)) (ac (decide_eq_true (by omega)) (ac (cg (shrm_u64 (y := 16) (s := 16) rfl rfl (by decide) (by omega))) (ac (by omega) (ac (cg (w_i64 rfl (by omega) (by omega))) (ac (decide_eq_true (by omega)) (ac (cg (shrm_u64 (y := 8) (s := 8) rfl rfl (by decide) (by omega))) (ac (by omega) (ac (cg (w_i64 rfl (by omega) (by omega))) (ac (cg (w_u8 rfl (by omega) (by omega))) (ac (cg (hb)) (ac (by omega) (ac (by omega) (ac (cg (w_i64 rfl (by omega) (by omega))) (ac (cg (w_i64 (by omega) (by omega) (by omega))) (ao rfl))))))))))))))))
      · obtain ⟨hb, hl, he⟩ := key (x / 65536) 16 (by omega) (by simp only [Nat.reducePow] at e2; omega)
        rw [he]
        refine W.ret [(2, aF), (4, aT), (6, aV (U6 (↑(x / 65536) : Int))), (9, aV (I6 16)), (12, aF), (15, aV (U8 (↑(x / 65536) : Int))), (16, aV (U8 (↑(blen (x / 65536)) : Int))), (17, aV (I6 (↑(blen (x / 65536)) : Int))), (18, aV (I6 (↑(blen (x / 65536) + 16) : Int)))] [] [decide ((x:Int) ≥ 4294967296) = false, decide ((x:Int) ≥ 65536) = true, U6 (Int.fdiv (x:Int) ((2 : Int) ^ 16)) = U6 (↑(x / 65536) : Int), (0 : Int) ≤ (16 : Int), I6 (IntKind.wrap .i64 ((0 : Int) + (16 : Int))) = I6 16, decide ((↑(x / 65536) : Int) ≥ 256) = false, U8 (IntKind.wrap .u8 (↑(x / 65536) : Int)) = U8 (↑(x / 65536) : Int), U8 (byteAt tab8 (↑(x / 65536) : Int)) = U8 (↑(blen (x / 65536)) : Int), 0 ≤ (↑(x / 65536) : Int), (↑(x / 65536) : Int) < (↑(256 : Nat) : Int), I6 (IntKind.wrap .i64 (↑(blen (x / 65536)) : Int)) = I6 (↑(blen (x / 65536)) : Int), I6 (IntKind.wrap .i64 (16 + (↑(blen (x / 65536)) : Int))) = I6 (↑(blen (x / 65536) + 16) : Int), rr (I6 (↑(blen (x / 65536) + 16) : Int))] (by kernel_rfl) (ac (decide_eq_false (by omega)) (ac (decide_eq_true (by omega)) (ac (cg (shrm_u64 (y := 16) (s := 16) rfl rfl (by decide) (by omega))) (ac (by omega) (ac (cg (w_i64 rfl (by omega) (by omega))) (ac (decide_eq_false (by omega)) (ac (cg (w_u8 rfl (by omega) (by omega))) (ac (cg (hb)) (ac (by omega) (ac (by omega) (ac (cg (w_i64 rfl (by omega) (by omega))) (ac (cg (w_i64 (by omega) (by omega) (by omega))) (ao rfl)))))))))))))
    · by_cases c3 : 256 ≤ x
      · have e3 := blen_div (v := x) (k := 8) c3
        obtain ⟨hb, hl, he⟩ := key (x / 256) 8 (by omega) (by simp only [Nat.reducePow] at e3; omega)
        rw [he]
        refine W.ret [(2, aF), (4, aF), (6, aT), (8, aV (U6 (↑(x / 256) : Int))), (11, aV (I6 8)), (15, aV (U8 (↑(x / 256) : Int))), (16, aV (U8 (↑(blen (x / 256)) : Int))), (17, aV (I6 (↑(blen (x / 256)) : Int))), (18, aV (I6 (↑(blen (x / 256) + 8) : Int)))] [] [decide ((x:Int) ≥ 4294967296) = false, decide ((x:Int) ≥ 65536) = false, decide ((x:Int) ≥ 256) = true, U6 (Int.fdiv (x:Int) ((2 : Int) ^ 8)) = U6 (↑(x / 256) : Int), (0 : Int) ≤ (8 : Int), I6 (IntKind.wrap .i64 ((0 : Int) + (8 : Int))) = I6 8, U8 (IntKind.wrap .u8 (↑(x / 256) : Int)) = U8 (↑(x / 256) : Int), U8 (byteAt tab8 (↑(x / 256) : Int)) = U8 (↑(blen (x / 256)) : Int), 0 ≤ (↑(x / 256) : Int), (↑(x / 256) : Int) < (↑(256 : Nat) : Int), I6 (IntKind.wrap .i64 (↑(blen (x / 256)) : Int)) = I6 (↑(blen (x / 256)) : Int), I6 (IntKind.wrap .i64 (8 + (↑(blen (x / 256)) : Int))) = I6 (↑(blen (x / 256) + 8) : Int), rr (I6 (↑(blen (x / 256) + 8) : Int))] (by kernel_rfl) (ac (decide_eq_false (by omega)) (ac (decide_eq_false (by omega)) (ac (decide_eq_true (by omega)) (ac (cg (shrm_u64 (y := 8) (s := 8) rfl rfl (by decide) (by omega))) (ac (by omega) (ac (cg (w_i64 rfl (by omega) (by omega))) (ac (cg (w_u8 rfl (by omega) (by omega))) (ac (cg (hb)) (ac (by omega) (ac (by omega) (ac (cg (w_i64 rfl (by omega) (by omega))) (ac (cg (w_i64 (by omega) (by omega) (by omega))) (ao rfl)))))))))))))
      · obtain ⟨hb, hl, he⟩ := key x 0 (by omega) rfl
        refine W.ret [(2, aF), (4, aF), (6, aF), (9, aV (U8 (x:Int))), (10, aV (U8 (↑(blen x) : Int))), (11, aV (I6 (↑(blen x) : Int))), (12, aV (I6 (↑(blen x) : Int)))] [] [decide ((x:Int) ≥ 4294967296) = false, decide ((x:Int) ≥ 65536) = false, decide ((x:Int) ≥ 256) = false, U8 (IntKind.wrap .u8 (x:Int)) = U8 (x:Int), U8 (byteAt tab8 (x:Int)) = U8 (↑(blen x) : Int), 0 ≤ (x:Int), (x:Int) < (↑(256 : Nat) : Int), I6 (IntKind.wrap .i64 (↑(blen x) : Int)) = I6 (↑(blen x) : Int), I6 (IntKind.wrap .i64 (0 + (↑(blen x) : Int))) = I6 (↑(blen x) : Int), rr (I6 (↑(blen x) : Int))] (by kernel_rfl) (ac (decide_eq_false (by omega)) (ac (decide_eq_false (by omega)) (ac (decide_eq_false (by omega)) (ac (cg (w_u8 rfl (by omega) (by omega))) (ac (cg (hb)) (ac (by omega) (ac (by omega) (ac (cg (w_i64 rfl (by omega) (by omega))) (ac (cg (w_i64 (by omega) (by omega) (by omega))) (ao rfl))))))))))
theorem pc_lz64 {x : Nat} (hx : x < 18446744073709551616) : PC Tryz.prog G0 116 [] [.int .u64 x] [] (.int .i64 ((64 - blen x : Nat) : Int)) := by
  refine PC.of (fn := Tryz.f116) (c := bodyOf Tryz.f116) Tryz.func116 (by kernel_rfl) (by kernel_rfl) (by kernel_rfl) (by kernel_rfl) ?_
  have h : blen x ≤ 64 := blen_le.2 hx
  refine W.ret [(2, aK (I6 (↑(blen x) : Int))), (3, aV (I6 (64 - (↑(blen x) : Int))))] [] [PC Tryz.prog G0 77 [] [U6 (x:Int)] [] (I6 (↑(blen x) : Int)), I6 (IntKind.wrap .i64 (64 - (↑(blen x) : Int))) = I6 (64 - (↑(blen x) : Int)), I6 (64 - (↑(blen x) : Int)) = I6 (↑(64 - blen x) : Int)] (by kernel_rfl) (ac (pc_len64 (by first | omega | decide)) (ac (cg (w_i64 rfl (by omega) (by omega))) (ao (cg (by omega)))))
theorem blen_words {a0 a1 a2 a3 : Nat} (p0 : a0 < 18446744073709551616) (p1 : a1 < 18446744073709551616) (p2 : a2 < 18446744073709551616) :
    blen (wu a0 a1 a2 a3) = if a3 ≠ 0 then 192 + blen a3 else if a2 ≠ 0 then 128 + blen a2 else if a1 ≠ 0 then 64 + blen a1 else blen a0 := by
  have hw : wu a0 a1 a2 a3 / 2 ^ 192 = a3 := by
    rw [show (2 : Nat) ^ 192 = 18446744073709551616 * 18446744073709551616 * 18446744073709551616 by decide, ← Nat.div_div_eq_div_mul, ← Nat.div_div_eq_div_mul]
    unfold wu; omega
  split
  · have := blen_div (v := wu a0 a1 a2 a3) (k := 192) (by apply Nat.le_of_not_lt; intro h; rw [Nat.div_eq_of_lt h] at hw; omega)
    rw [hw] at this; omega
  · rename_i h3
    have h3 : a3 = 0 := by omega
    subst h3
    have hw : wu a0 a1 a2 0 / 2 ^ 128 = a2 := by
      rw [show (2 : Nat) ^ 128 = 18446744073709551616 * 18446744073709551616 by decide, ← Nat.div_div_eq_div_mul]
      unfold wu; omega
    split
    · have := blen_div (v := wu a0 a1 a2 0) (k := 128) (by apply Nat.le_of_not_lt; intro h; rw [Nat.div_eq_of_lt h] at hw; omega)
      rw [hw] at this; omega
    · rename_i h2
      have h2 : a2 = 0 := by omega
      subst h2
      have hw : wu a0 a1 0 0 / 2 ^ 64 = a1 := by
        rw [show (2 : Nat) ^ 64 = 18446744073709551616 by decide]
        unfold wu; omega
      split
      · have := blen_div (v := wu a0 a1 0 0) (k := 64) (by apply Nat.le_of_not_lt; intro h; rw [Nat.div_eq_of_lt h] at hw; omega)
        rw [hw] at this; omega
      · rename_i h1
        have h1 : a1 = 0 := by omega
        subst h1
        simp [wu]
theorem pc_wLen {a : Nat} (ha : a < W256) : PC Tryz.prog G0 55 [] [.iarr .u64 4 (uw a)] [] (.int .i64 (blen a)) := by
  refine PC.of (fn := Tryz.f55) (c := bodyOf Tryz.f55) Tryz.func55 (by kernel_rfl) (by kernel_rfl) (by kernel_rfl) (by kernel_rfl) ?_
  obtain ⟨a0, a1, a2, a3, p0, p1, p2, p3, rfl, e⟩ := words_of ha
  rw [e, blen_words p0 p1 p2]
  clear e ha
  have l0 : blen a0 ≤ 64 := blen_le.2 p0
  have l1 : blen a1 ≤ 64 := blen_le.2 p1
  have l2 : blen a2 ≤ 64 := blen_le.2 p2
  have l3 : blen a3 ≤ 64 := blen_le.2 p3
  refine W.seg [] [(64, 1)] (DS.mk [(1, PV.at 1 []), (3, I6 3)] [(1, Row.mk (B6 4 [(a0:Int), (a1:Int), (a2:Int), (a3:Int)]) false)]) (todo' := loopAt Tryz.f55 0) [rr (PV.at 1 []), rr (I6 3), rr (B6 4 [(a0:Int), (a1:Int), (a2:Int), (a3:Int)])] (by kernel_rfl) (ac rfl (ac rfl (ao rfl))) ?_
  by_cases h3 : a3 = 0
  · rw [if_neg (by omega)]
    refine W.seg [(5, aF), (7, aV (I6 2))] [(1, 1)] (DS.mk [(1, PV.at 1 []), (3, I6 2)] [(1, Row.mk (B6 4 [(a0:Int), (a1:Int), (a2:Int), (a3:Int)]) false)]) (todo' := loopAt Tryz.f55 0) [(0 : Int) ≤ (3 : Int), 3 < (↑(4 : Nat) : Int), 3 < 4, ((a3:Int) != 0) = false, I6 (IntKind.wrap .i64 ((3 : Int) - (1 : Int))) = I6 2, rr (PV.at 1 []), rr (I6 2), rr (B6 4 [(a0:Int), (a1:Int), (a2:Int), (a3:Int)])] (by kernel_rfl) (ac (by omega) (ac (by omega) (ac (by omega) (ac (bne_eq_false_iff_eq.2 (by omega)) (ac (cg (w_i64 rfl (by omega) (by omega))) (ac rfl (ac rfl (ao rfl)))))))) ?_
    by_cases h2 : a2 = 0
    · rw [if_neg (by omega)]
      refine W.seg [(5, aF), (7, aV (I6 1))] [(1, 1)] (DS.mk [(1, PV.at 1 []), (3, I6 1)] [(1, Row.mk (B6 4 [(a0:Int), (a1:Int), (a2:Int), (a3:Int)]) false)]) (todo' := loopAt Tryz.f55 0) [(0 : Int) ≤ (2 : Int), 2 < (↑(4 : Nat) : Int), 2 < 4, ((a2:Int) != 0) = false, I6 (IntKind.wrap .i64 ((2 : Int) - (1 : Int))) = I6 1, rr (PV.at 1 []), rr (I6 1), rr (B6 4 [(a0:Int), (a1:Int), (a2:Int), (a3:Int)])] (by kernel_rfl) (ac (by omega) (ac (by omega) (ac (by omega) (ac (bne_eq_false_iff_eq.2 (by omega)) (ac (cg (w_i64 rfl (by omega) (by omega))) (ac rfl (ac rfl (ao rfl)))))))) ?_
      by_cases h1 : a1 = 0
      · rw [if_neg (by omega)]
        refine W.seg [(5, aF), (7, aV (I6 0))] [(1, 1)] (DS.mk [(1, PV.at 1 []), (3, I6 0)] [(1, Row.mk (B6 4 [(a0:Int), (a1:Int), (a2:Int), (a3:Int)]) false)]) (todo' := loopAt Tryz.f55 0) [(0 : Int) ≤ (1 : Int), 1 < (↑(4 : Nat) : Int), 1 < 4, ((a1:Int) != 0) = false, I6 (IntKind.wrap .i64 ((1 : Int) - (1 : Int))) = I6 0, rr (PV.at 1 []), rr (I6 0), rr (B6 4 [(a0:Int), (a1:Int), (a2:Int), (a3:Int)])] (by kernel_rfl) (ac (by omega) (ac (by omega) (ac (by omega) (ac (bne_eq_false_iff_eq.2 (by omega)) (ac (cg (w_i64 rfl (by omega) (by omega))) (ac rfl (ac rfl (ao rfl)))))))) ?_
        by_cases h0 : a0 = 0
        · subst h0
          refine W.seg [(4, aV (U6 0)), (7, aV (I6 (-1)))] [(1, 1)] (DS.mk [(1, PV.at 1 []), (3, I6 (-1))] [(1, Row.mk (B6 4 [(↑(0 : Nat) : Int), (a1:Int), (a2:Int), (a3:Int)]) false)]) (todo' := loopAt Tryz.f55 0) [(0 : Int) ≤ (0 : Int), 0 < (↑(4 : Nat) : Int), U6 (↑(0 : Nat) : Int) = U6 0, 0 < 4, I6 (IntKind.wrap .i64 ((0 : Int) - (1 : Int))) = I6 (-1), rr (PV.at 1 []), rr (I6 (-1)), rr (B6 4 [(↑(0 : Nat) : Int), (a1:Int), (a2:Int), (a3:Int)])] (by kernel_rfl) (ac (by omega) (ac (by omega) (ac (cg (by omega)) (ac (by omega) (ac (cg (w_i64 rfl (by omega) (by omega))) (ac rfl (ac rfl (ao rfl)))))))) ?_
          refine W.ret [] [] [I6 0 = I6 (↑(0 : Nat) : Int)] (by kernel_rfl) (ao (cg (by omega)))
        · refine W.ret [(5, aT), (7, aV (I6 0)), (11, aK (I6 (↑(blen a0) : Int))), (12, aV (I6 (↑(blen a0) : Int)))] [] [(0 : Int) ≤ (0 : Int), 0 < (↑(4 : Nat) : Int), 0 < 4, ((a0:Int) != 0) = true, I6 (IntKind.wrap .i64 ((64 : Int) * (0 : Int))) = I6 0, (0 : Int) ≤ (0 : Int), 0 < (↑(4 : Nat) : Int), 0 < 4, PC Tryz.prog G0 77 [] [U6 (a0:Int)] [] (I6 (↑(blen a0) : Int)), I6 (IntKind.wrap .i64 (0 + (↑(blen a0) : Int))) = I6 (↑(blen a0) : Int), rr (I6 (↑(blen a0) : Int))] (by kernel_rfl) (ac (by omega) (ac (by omega) (ac (by omega) (ac (bne_iff_ne.2 (by omega)) (ac (cg (w_i64 rfl (by omega) (by omega))) (ac (by omega) (ac (by omega) (ac (by omega) (ac (pc_len64 (by first | omega | decide)) (ac (cg (w_i64 (by omega) (by omega) (by omega))) (ao rfl)))))))))))
      · rw [if_pos h1]
        refine W.ret [(5, aT), (7, aV (I6 64)), (11, aK (I6 (↑(blen a1) : Int))), (12, aV (I6 (↑(blen a1 + 64) : Int)))] [] [(0 : Int) ≤ (1 : Int), 1 < (↑(4 : Nat) : Int), 1 < 4, ((a1:Int) != 0) = true, I6 (IntKind.wrap .i64 ((64 : Int) * (1 : Int))) = I6 64, (0 : Int) ≤ (1 : Int), 1 < (↑(4 : Nat) : Int), 1 < 4, PC Tryz.prog G0 77 [] [U6 (a1:Int)] [] (I6 (↑(blen a1) : Int)), I6 (IntKind.wrap .i64 (64 + (↑(blen a1) : Int))) = I6 (↑(blen a1 + 64) : Int), I6 (↑(blen a1 + 64) : Int) = I6 (↑(64 + blen a1) : Int)] (by kernel_rfl) (ac (by omega) (ac (by omega) (ac (by omega) (ac (bne_iff_ne.2 (by omega)) (ac (cg (w_i64 rfl (by omega) (by omega))) (ac (by omega) (ac (by omega) (ac (by omega) (ac (pc_len64 (by first | omega | decide)) (ac (cg (w_i64 (by omega) (by omega) (by omega))) (ao (cg (by omega)))))))))))))
    · rw [if_pos h2]
      refine W.ret [(5, aT), (7, aV (I6 128)), (11, aK (I6 (↑(blen a2) : Int))), (12, aV (I6 (↑(blen a2 + 128) : Int)))] [] [(0 : Int) ≤ (2 : Int), 2 < (↑(4 : Nat) : Int), 2 < 4, ((a2:Int) != 0) = true, I6 (IntKind.wrap .i64 ((64 : Int) * (2 : Int))) = I6 128, (0 : Int) ≤ (2 : Int), 2 < (↑(4 : Nat) : Int), 2 < 4, PC Tryz.prog G0 77 [] [U6 (a2:Int)] [] (I6 (↑(blen a2) : Int)), I6 (IntKind.wrap .i64 (128 + (↑(blen a2) : Int))) = I6 (↑(blen a2 + 128) : Int), I6 (↑(blen a2 + 128) : Int) = I6 (↑(128 + blen a2) : Int)] (by kernel_rfl) (ac (by omega) (ac (by omega) (ac (by omega) (ac (bne_iff_ne.2 (by omega)) (ac (cg (w_i64 rfl (by omega) (by omega))) (ac (by omega) (ac (by omega) (ac (by omega) (ac (pc_len64 (by first | omega | decide)) (ac (cg (w_i64 (by omega) (by omega) (by omega))) (ao (cg (by omega)))))))))))))
  · rw [if_pos h3]
    refine W.ret [(5, aT), (7, aV (I6 192)), (11, aK (I6 (↑(blen a3) : Int))), (12, aV (I6 (↑(blen a3 + 192) : Int)))] [] [(0 : Int) ≤ (3 : Int), 3 < (↑(4 : Nat) : Int), 3 < 4, ((a3:Int) != 0) = true, I6 (IntKind.wrap .i64 ((64 : Int) * (3 : Int))) = I6 192, (0 : Int) ≤ (3 : Int), 3 < (↑(4 : Nat) : Int), 3 < 4, PC Tryz.prog G0 77 [] [U6 (a3:Int)] [] (I6 (↑(blen a3) : Int)), I6 (IntKind.wrap .i64 (192 + (↑(blen a3) : Int))) = I6 (↑(blen a3 + 192) : Int), I6 (↑(blen a3 + 192) : Int) = I6 (↑(192 + blen a3) : Int)] (by kernel_rfl) (ac (by omega) (ac (by omega) (ac (by omega) (ac (bne_iff_ne.2 (by omega)) (ac (cg (w_i64 rfl (by omega) (by omega))) (ac (by omega) (ac (by omega) (ac (by omega) (ac (pc_len64 (by first | omega | decide)) (ac (cg (w_i64 (by omega) (by omega) (by omega))) (ao (cg (by omega)))))))))))))
end Go.Proofs
namespace Go.Pm
theorem pow_split {s : Nat} (hs : s ≤ 64) : 2 ^ s * 2 ^ (64 - s) = 18446744073709551616 := by
  rw [← Nat.pow_add, show s + (64 - s) = 64 by omega]
theorem or_right {x y s : Nat} (hs : s ≤ 64) (hx : x < 18446744073709551616) : x / 2 ^ s ||| y * 2 ^ (64 - s) % 18446744073709551616 = (x + 18446744073709551616 * y) / 2 ^ s % 18446744073709551616 := by
  have hp := pow_split hs
  have hs0 := Nat.two_pow_pos s
  have ht0 := Nat.two_pow_pos (64 - s)
  generalize 2 ^ s = p at *
  have e1 : y * 2 ^ (64 - s) % 18446744073709551616 = 2 ^ (64 - s) * (y % p) := by
    rw [← hp, Nat.mul_comm y, Nat.mul_comm p, Nat.mul_mod_mul_left]
  have e2 : x / p < 2 ^ (64 - s) := by
    rw [Nat.div_lt_iff_lt_mul hs0, Nat.mul_comm, hp]; exact hx
  rw [e1, Nat.or_comm, ← Nat.two_pow_add_eq_or_of_lt e2]
  generalize 2 ^ (64 - s) = q at *
  have e3 : (x + 18446744073709551616 * y) / p = x / p + q * y := by
    rw [← hp, Nat.mul_assoc, Nat.add_mul_div_left _ _ hs0]
  have e4 : y = p * (y / p) + y % p := (Nat.div_add_mod y p).symm
  have e5 : q * y = q * (y % p) + 18446744073709551616 * (y / p) := by
    conv => lhs; rw [e4]
    rw [Nat.mul_add, ← Nat.mul_assoc, Nat.mul_comm q p, hp, Nat.add_comm]
  have e6 : y % p + 1 ≤ p := Nat.mod_lt _ hs0
  have e7 : q * (y % p + 1) ≤ q * p := Nat.mul_le_mul_left _ e6
  rw [Nat.mul_comm q p, hp, Nat.mul_add, Nat.mul_one] at e7
  have e8 : x / p + q * (y % p) < 18446744073709551616 := by omega
  rw [e3, e5, ← Nat.add_assoc, Nat.add_mul_mod_self_left, Nat.mod_eq_of_lt e8, Nat.add_comm]
theorem or_left {x y s : Nat} (hs : s ≤ 64) (hy : y < 18446744073709551616) : x * 2 ^ s % 18446744073709551616 ||| y / 2 ^ (64 - s) = x * 2 ^ s % 18446744073709551616 + y / 2 ^ (64 - s) := by
  have hp := pow_split hs
  have ht0 := Nat.two_pow_pos (64 - s)
  have e1 : x * 2 ^ s % 18446744073709551616 = 2 ^ s * (x % 2 ^ (64 - s)) := by
    rw [← hp, Nat.mul_comm x, Nat.mul_mod_mul_left]
  have e2 : y / 2 ^ (64 - s) < 2 ^ s := by
    rw [Nat.div_lt_iff_lt_mul ht0, hp]; exact hy
  rw [e1, ← Nat.two_pow_add_eq_or_of_lt e2]
/-- the lowest word of a quotient -/
theorem low_shr {x y z s : Nat} (hs : s ≤ 64) : (x + 18446744073709551616 * (y + 18446744073709551616 * z)) / 2 ^ s % 18446744073709551616 = (x + 18446744073709551616 * y) / 2 ^ s % 18446744073709551616 := by
  have hp := pow_split hs
  have hs0 := Nat.two_pow_pos s
  generalize 2 ^ s = p at *
  generalize 2 ^ (64 - s) = q at *
  have e : x + 18446744073709551616 * (y + 18446744073709551616 * z) = (x + 18446744073709551616 * y) + p * (q * 18446744073709551616 * z) := by
    rw [← Nat.mul_assoc p, ← Nat.mul_assoc p, hp, Nat.mul_add, ← Nat.mul_assoc]
    omega
  rw [e, Nat.add_mul_div_left _ _ hs0, Nat.mul_comm q, Nat.mul_assoc, Nat.add_mul_mod_self_left]
theorem div_wu (a b c d : Nat) (ha : a < 18446744073709551616) : wu a b c d / 18446744073709551616 = wu b c d 0 := by unfold wu; omega
theorem wu_low (a b c d s : Nat) (hs : s ≤ 64) : wu a b c d / 2 ^ s % 18446744073709551616 = (a + 18446744073709551616 * b) / 2 ^ s % 18446744073709551616 := low_shr hs
theorem uw_shr {a b c d s : Nat} (hs : s ≤ 64) (ha : a < 18446744073709551616) (hb : b < 18446744073709551616) (hc : c < 18446744073709551616) (hd : d < 18446744073709551616) :
    uw (wu a b c d / 2 ^ s) = [((a / 2 ^ s ||| b * 2 ^ (64 - s) % 18446744073709551616 : Nat) : Int), ((b / 2 ^ s ||| c * 2 ^ (64 - s) % 18446744073709551616 : Nat) : Int), ((c / 2 ^ s ||| d * 2 ^ (64 - s) % 18446744073709551616 : Nat) : Int), ((d / 2 ^ s : Nat) : Int)] := by
  have key : ∀ v : Nat, v / 2 ^ s / 18446744073709551616 = v / 18446744073709551616 / 2 ^ s := fun v => by rw [Nat.div_div_eq_div_mul, Nat.mul_comm, ← Nat.div_div_eq_div_mul]
  unfold uw
  rw [key, key, key, div_wu a b c d ha, div_wu b c d 0 hb, div_wu c d 0 0 hc, wu_low _ _ _ _ s hs, wu_low _ _ _ _ s hs, wu_low _ _ _ _ s hs, wu_low _ _ _ _ s hs, or_right hs ha, or_right hs hb, or_right hs hc, Nat.mul_zero, Nat.add_zero, Nat.mod_eq_of_lt (Nat.lt_of_le_of_lt (Nat.div_le_self d _) hd)]
theorem shl_word (x s : Nat) (hs : s ≤ 64) : x * 2 ^ s = 18446744073709551616 * (x / 2 ^ (64 - s)) + x * 2 ^ s % 18446744073709551616 := by
  have hp := pow_split hs
  have hs0 := Nat.two_pow_pos s
  have : x * 2 ^ s / 18446744073709551616 = x / 2 ^ (64 - s) := by
    rw [← hp, Nat.mul_comm x, Nat.mul_div_mul_left _ _ hs0]
  rw [← this]
  exact (Nat.div_add_mod _ _).symm
theorem uw_shl {a b c d s : Nat} (hs : s ≤ 64) (ha : a < 18446744073709551616) (hb : b < 18446744073709551616) (hc : c < 18446744073709551616) :
    uw (wu a b c d * 2 ^ s % W256) = [((a * 2 ^ s % 18446744073709551616 : Nat) : Int), ((b * 2 ^ s % 18446744073709551616 ||| a / 2 ^ (64 - s) : Nat) : Int), ((c * 2 ^ s % 18446744073709551616 ||| b / 2 ^ (64 - s) : Nat) : Int), ((d * 2 ^ s % 18446744073709551616 ||| c / 2 ^ (64 - s) : Nat) : Int)] := by
  rw [or_left hs ha, or_left hs hb, or_left hs hc]
  have ea := shl_word a s hs
  have eb := shl_word b s hs
  have ec := shl_word c s hs
  have ed := shl_word d s hs
  have hp := pow_split hs
  have ht0 := Nat.two_pow_pos (64 - s)
  have bound : ∀ x y : Nat, y < 18446744073709551616 → x * 2 ^ s % 18446744073709551616 + y / 2 ^ (64 - s) < 18446744073709551616 := by
    intro x y hy
    have e1 : x * 2 ^ s % 18446744073709551616 = 2 ^ s * (x % 2 ^ (64 - s)) := by
      rw [← hp, Nat.mul_comm x, Nat.mul_mod_mul_left]
    have e2 : y / 2 ^ (64 - s) < 2 ^ s := by
      rw [Nat.div_lt_iff_lt_mul ht0, hp]; exact hy
    have e3 : x % 2 ^ (64 - s) + 1 ≤ 2 ^ (64 - s) := Nat.mod_lt _ ht0
    have e4 := Nat.mul_le_mul_left (2 ^ s) e3
    rw [hp, Nat.mul_add, Nat.mul_one] at e4
    omega
  have b1 := bound b a ha
  have b2 := bound c b hb
  have b3 := bound d c hc
  have b0 : a * 2 ^ s % 18446744073709551616 < 18446744073709551616 := Nat.mod_lt _ (by omega)
  refine (uw_eq ?_ b0 b1 b2 b3).symm
  have hl := wu_lt b0 b1 b2 b3
  have e : wu a b c d * 2 ^ s = wu (a * 2 ^ s % 18446744073709551616) (b * 2 ^ s % 18446744073709551616 + a / 2 ^ (64 - s)) (c * 2 ^ s % 18446744073709551616 + b / 2 ^ (64 - s)) (d * 2 ^ s % 18446744073709551616 + c / 2 ^ (64 - s)) + W256 * (d / 2 ^ (64 - s)) := by
    have ex : wu a b c d * 2 ^ s = a * 2 ^ s + 18446744073709551616 * (b * 2 ^ s + 18446744073709551616 * (c * 2 ^ s + 18446744073709551616 * (d * 2 ^ s))) := by
      unfold wu
      simp only [Nat.add_mul, Nat.mul_assoc]
    rw [ex]
    unfold wu W256
    generalize a * 2 ^ s = x0 at *
    generalize b * 2 ^ s = x1 at *
    generalize c * 2 ^ s = x2 at *
    generalize d * 2 ^ s = x3 at *
    generalize a / 2 ^ (64 - s) = c0 at *
    generalize b / 2 ^ (64 - s) = c1 at *
    generalize c / 2 ^ (64 - s) = c2 at *
    generalize d / 2 ^ (64 - s) = c3 at *
    omega
  rw [e, Nat.add_mul_mod_self_left, Nat.mod_eq_of_lt hl]
end Go.Pm
