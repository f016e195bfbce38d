/- The plain operations are right, second part: arithmetic, loads, stores, fields, indexes. No condition. -/
import Derived.Test.YtfecpjikhlangaaPeF
import Derived.Laws.Cells
import Derived.Laws.BitsLemmas
namespace Go.Pe

theorem add_none (b o i : Nat) : (⟨b, o, none⟩ : Addr).add i = ⟨b, o + i, none⟩ := by
  unfold Addr.add
  split
  · rename_i h; subst h; simp
  · rfl
theorem offOf_append : ∀ (p q : List Stp), offOf (p ++ q) = offOf p + offOf q
  | [], q => by simp [offOf]
  | s :: p, q => by simp only [List.cons_append, offOf, offOf_append p q]; omega

theorem wrap_i8 (n : Int) : IntKind.i8.wrap n = (n + 128) % 256 - 128 := by
  simp [IntKind.wrap, IntKind.bits, IntKind.signed]
  split <;> omega
theorem wrap_i16 (n : Int) : IntKind.i16.wrap n = (n + 32768) % 65536 - 32768 := by
  simp [IntKind.wrap, IntKind.bits, IntKind.signed]
  split <;> omega
theorem wrap_form (k : IntKind) : ∃ lo m : Int, 0 < m ∧ k.min = lo ∧ k.max = lo + m - 1 ∧ ∀ n, k.wrap n = (n - lo) % m + lo := by
  cases k
  · exact ⟨-128, 256, by decide, by decide, by decide, fun n => by rw [wrap_i8]; omega⟩
  · exact ⟨-32768, 65536, by decide, by decide, by decide, fun n => by rw [wrap_i16]; omega⟩
  · exact ⟨-2147483648, 4294967296, by decide, by decide, by decide, fun n => by rw [IntKind.wrap_i32]; omega⟩
  · exact ⟨-9223372036854775808, 18446744073709551616, by decide, by decide, by decide, fun n => by rw [IntKind.wrap_i64]; omega⟩
  · exact ⟨0, 256, by decide, by decide, by decide, fun n => by simp [IntKind.wrap, IntKind.bits, IntKind.signed]⟩
  · exact ⟨0, 65536, by decide, by decide, by decide, fun n => by simp [IntKind.wrap, IntKind.bits, IntKind.signed]⟩
  · exact ⟨0, 4294967296, by decide, by decide, by decide, fun n => by simp [IntKind.wrap, IntKind.bits, IntKind.signed]⟩
  · exact ⟨0, 18446744073709551616, by decide, by decide, by decide, fun n => by simp [IntKind.wrap, IntKind.bits, IntKind.signed]⟩
/-- Within its kind's bounds. -/
theorem wrap_bounds (k : IntKind) (n : Int) : k.wrap n = n ↔ k.min ≤ n ∧ n ≤ k.max := by
  obtain ⟨lo, m, hm, h1, h2, h3⟩ := wrap_form k
  rw [h1, h2, h3]
  have a1 := Int.emod_nonneg (n - lo) (Int.ne_of_gt hm)
  have a2 := Int.emod_lt_of_pos (n - lo) hm
  constructor
  · intro h; omega
  · rintro ⟨b1, b2⟩
    rw [Int.emod_eq_of_lt (by omega) (by omega)]
    omega
theorem wrap_wrap (k : IntKind) (n : Int) : k.wrap (k.wrap n) = k.wrap n := by
  rw [wrap_bounds]
  obtain ⟨lo, m, hm, h1, h2, h3⟩ := wrap_form k
  rw [h1, h2, h3]
  have a1 := Int.emod_nonneg (n - lo) (Int.ne_of_gt hm)
  have a2 := Int.emod_lt_of_pos (n - lo) hm
  omega

theorem min_le_zero (k : IntKind) : k.min ≤ 0 ∧ 0 ≤ k.max := by cases k <;> decide

theorem tmod_in {k : IntKind} {x y : Int} (hx : k.wrap x = x) : k.wrap (x.tmod y) = x.tmod y := by
  rw [wrap_bounds] at hx ⊢
  have hz := min_le_zero k
  rcases Int.le_total 0 x with h | h
  · have h1 := Int.tmod_nonneg y h
    have h2 : x.tmod y ≤ x := by
      have := Int.natAbs_tmod x y
      have h3 : x.natAbs % y.natAbs ≤ x.natAbs := Nat.mod_le _ _
      omega
    omega
  · have h1 : x.tmod y ≤ 0 := by
      have h3 := Int.neg_tmod (-x) y
      rw [Int.neg_neg] at h3
      have := Int.tmod_nonneg y (show 0 ≤ -x by omega)
      omega
    have h2 : x ≤ x.tmod y := by
      have := Int.natAbs_tmod x y
      have h3 : x.natAbs % y.natAbs ≤ x.natAbs := Nat.mod_le _ _
      omega
    omega
theorem fdiv_in {k : IntKind} {x : Int} (n : Nat) (hx : k.wrap x = x) : k.wrap (x.fdiv (2 ^ n)) = x.fdiv (2 ^ n) := by
  rw [wrap_bounds] at hx ⊢
  have hz := min_le_zero k
  have hp : (0 : Int) < 2 ^ n := Int.pow_pos (by decide)
  rw [Int.fdiv_eq_ediv_of_nonneg _ (Int.le_of_lt hp)]
  have e := Int.emod_add_mul_ediv x (2 ^ n)
  have m0 := Int.emod_nonneg x (Int.ne_of_gt hp)
  have m1 := Int.emod_lt_of_pos x hp
  generalize x / 2 ^ n = q at *
  generalize (2 : Int) ^ n = d at *
  rcases Int.le_total 0 x with h | h
  · have h1 : 0 ≤ q := by
      rcases Int.lt_or_le q 0 with hq | hq
      · have := Int.mul_le_mul_of_nonneg_left (show q ≤ -1 by omega) (Int.le_of_lt hp)
        omega
      · exact hq
    have h2 : q ≤ d * q := by
      have := Int.mul_le_mul_of_nonneg_right (show 1 ≤ d by omega) h1
      omega
    omega
  · have h1 : q ≤ 0 := by
      rcases Int.lt_or_le 0 q with hq | hq
      · have := Int.mul_le_mul_of_nonneg_left (show 1 ≤ q by omega) (Int.le_of_lt hp)
        omega
      · exact hq
    have h2 : x ≤ q := by
      rcases Int.lt_or_le q x with hq | hq
      · have := Int.mul_le_mul_of_nonneg_left (show q + 1 ≤ x by omega) (Int.le_of_lt hp)
        rw [Int.mul_add] at this
        have h3 := Int.mul_le_mul_of_nonpos_right (show 1 ≤ d by omega) h1
        have h4 : q + 1 ≤ 0 := by omega
        have h5 := Int.mul_le_mul_of_nonpos_right (show 1 ≤ d by omega) h4
        rw [Int.mul_add] at h5
        omega
      · exact hq
    omega

section
variable {C : Ctx} {F : Nat → Prop} {ρ : Pls} {s : St} {a : Act} {w : World} {o : Oper} {k : Nat}

theorem RV.int {w : World} {T : T2} {ρ : Pls} {kd : IntKind} {n : Int} (h : kd.wrap n = n) : RV w T ρ (.int kd n) (.int kd n) :=
  RV.of_leaf rfl (fun _ e => by cases e) (by simpa only [WF] using h) (by simp only [RO]; exact .int _ _)
theorem RV.bool {w : World} {T : T2} {ρ : Pls} (b : Bool) : RV w T ρ (.bool b) (.bool b) :=
  RV.of_leaf rfl (fun _ e => by cases e) trivial (by simp only [RO]; exact .bool _)
theorem RV.str {w : World} {T : T2} {ρ : Pls} {b : ByteArray} (h : b.size ≤ maxLen) : RV w T ρ (.string b) (.str b) :=
  RV.of_leaf rfl (fun _ e => by cases e) trivial (by simp only [RO]; exact .str _ h)

/-- What a plain step that reads nothing makes of the state. -/
theorem Goes.of_ret (h : SimAt C F ρ s a w) {pr : Pr} {v : PV} {ups : List (Nat × Option Row)} {ob : List Prop} {rd : List Nat} (hx : pr.run s.hp = some (v, ups, ob, rd)) (hob : All ob)
    (H : ∀ v ob, pr = .ret v [] ob → All ob → ∃ u, (execOp a.eval o).run C.P w = .ok (.value u) w ∧ (v ≠ .undef → RV w (Tc C ρ s.hp) ρ u v)) (hne : ∃ v ob, pr = .ret v [] ob ∨ pr = .fail) : Goes C F ρ s a w o k v ups := by
  obtain ⟨v', ob', e | e⟩ := hne
  · subst e
    simp only [Pr.run, Option.some.injEq, Prod.mk.injEq] at hx
    obtain ⟨rfl, rfl, rfl, _⟩ := hx
    obtain ⟨u, h1, h2⟩ := H v' ob' rfl hob
    exact Goes.pure h h1 h2
  · subst e
    simp [Pr.run] at hx

theorem arith_run {op : BinOp} {kd : IntKind} {x y : Int} {v : PV} {ob : List Prop} (hs : isShift op = false) (hx : kd.wrap x = x) (he : arith op kd x y = .ret v [] ob) (hob : All ob) (P : Program) (t : TypeId) (X Y : Operand) :
    ∃ u, (do eqGuard op t X Y (.int kd x) (.int kd y); binOp op t (.int kd x) (.int kd y) : Sem Value).run P w = .ok u w ∧ ∀ (T : T2) (ρ : Pls), RV w T ρ u v := by
  have hg : ∀ op, (eqGuard op t X Y (.int kd x) (.int kd y)).run P w = .ok () w := fun op => by
    cases op <;> rfl
  cases op <;> simp only [isShift, Bool.true_eq_false] at hs <;> simp only [arith, Pr.ret.injEq] at he
  all_goals (obtain ⟨rfl, _, rfl⟩ := he)
  case quo =>
    have hy : y ≠ 0 := hob.head
    exact ⟨_, by simp only [Sem.run_bind, hg, Result.andThen_ok, binOp, ne_eq, not_true_eq_false, if_false, Op.intDiv, if_neg hy, Sem.run_pure], fun T ρ => RV.int (wrap_wrap _ _)⟩
  case rem =>
    have hy : y ≠ 0 := hob.head
    exact ⟨_, by simp only [Sem.run_bind, hg, Result.andThen_ok, binOp, ne_eq, not_true_eq_false, if_false, Op.intDiv, if_neg hy, Sem.run_pure], fun T ρ => RV.int (tmod_in hx)⟩
  case add | sub | mul => exact ⟨_, by simp only [Sem.run_bind, hg, Result.andThen_ok, binOp, ne_eq, not_true_eq_false, if_false, Op.intArith, Sem.run_pure], fun T ρ => RV.int (wrap_wrap _ _)⟩
  case and => exact ⟨_, by simp only [Sem.run_bind, hg, Result.andThen_ok, binOp, ne_eq, not_true_eq_false, if_false, intBits_and, Sem.run_pure], fun T ρ => RV.int (wrap_wrap _ _)⟩
  case or => exact ⟨_, by simp only [Sem.run_bind, hg, Result.andThen_ok, binOp, ne_eq, not_true_eq_false, if_false, intBits_or, Sem.run_pure], fun T ρ => RV.int (wrap_wrap _ _)⟩
  case xor => exact ⟨_, by simp only [Sem.run_bind, hg, Result.andThen_ok, binOp, ne_eq, not_true_eq_false, if_false, intBits_xor, Sem.run_pure], fun T ρ => RV.int (wrap_wrap _ _)⟩
  case andNot => exact ⟨_, by simp only [Sem.run_bind, hg, Result.andThen_ok, binOp, ne_eq, not_true_eq_false, if_false, intBits_andNot, Sem.run_pure], fun T ρ => RV.int (wrap_wrap _ _)⟩
  all_goals exact ⟨_, by simp only [Sem.run_bind, hg, Result.andThen_ok, binOp, ne_eq, not_true_eq_false, if_false, Op.intCmp, Sem.run_pure], fun T ρ => RV.bool _⟩

theorem shift_run {op : BinOp} {kd kd' : IntKind} {x y : Int} {v : PV} {ob : List Prop} (hx : kd.wrap x = x) (he : shiftP op kd x y = .ret v [] ob) (hob : All ob) (P : Program) (t : TypeId) (X Y : Operand) :
    ∃ u, (do eqGuard op t X Y (.int kd x) (.int kd' y); binOp op t (.int kd x) (.int kd' y) : Sem Value).run P w = .ok u w ∧ ∀ (T : T2) (ρ : Pls), RV w T ρ u v := by
  have hg : ∀ op, (eqGuard op t X Y (.int kd x) (.int kd' y)).run P w = .ok () w := fun op => by
    cases op <;> rfl
  cases op <;> simp only [shiftP, Pr.ret.injEq, reduceCtorEq] at he
  all_goals (obtain ⟨rfl, _, rfl⟩ := he)
  all_goals (have hy : ¬ y < 0 := by have := hob.head; omega)
  · exact ⟨_, by simp only [Sem.run_bind, hg, Result.andThen_ok, binOp, Op.shift, if_neg hy, Sem.run_pure], fun T ρ => RV.int (wrap_wrap _ _)⟩
  · exact ⟨_, by simp only [Sem.run_bind, hg, Result.andThen_ok, binOp, Op.shift, if_neg hy, Sem.run_pure], fun T ρ => RV.int (fdiv_in _ hx)⟩

theorem str_run {op : BinOp} {x y : ByteArray} {v : PV} {ob : List Prop} (he : strP op x y = .ret v [] ob) (hob : All ob) (P : Program) (t : TypeId) (X Y : Operand) :
    ∃ u, (do eqGuard op t X Y (.string x) (.string y); binOp op t (.string x) (.string y) : Sem Value).run P w = .ok u w ∧ ∀ (T : T2) (ρ : Pls), RV w T ρ u v := by
  have hg : ∀ op, (eqGuard op t X Y (.string x) (.string y)).run P w = .ok () w := fun op => by
    cases op <;> rfl
  cases op <;> simp only [strP, Pr.ret.injEq, reduceCtorEq] at he
  all_goals (obtain ⟨rfl, _, rfl⟩ := he)
  case add =>
    have hm : x.size + y.size ≤ maxLen := hob.head
    have hlt : ¬ ((x.size + y.size : Nat) : Int) > IntKind.i64.max := by
      have e : IntKind.i64.max = 9223372036854775807 := by decide
      rw [e]
      unfold maxLen at hm
      omega
    exact ⟨_, by simp only [Sem.run_bind, hg, Result.andThen_ok, binOp, Op.stringOp, if_neg hlt, Sem.run_pure], fun T ρ => RV.str (by rw [ByteArray.size_append]; exact hm)⟩
  all_goals exact ⟨_, by simp only [Sem.run_bind, hg, Result.andThen_ok, binOp, Op.stringOp, Sem.run_pure], fun T ρ => RV.bool _⟩
end
end Go.Pe
