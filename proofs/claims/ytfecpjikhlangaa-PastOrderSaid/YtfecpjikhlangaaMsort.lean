/- Sorting by insertion, medians: plain lists of numbers. No condition. -/
namespace Go.Pm

def swap (l : List Int) (j : Nat) : List Int := (l.set (j + 1) (l.getD j 0)).set j (l.getD (j + 1) 0)
def sink : Nat → List Int → List Int
  | 0, l => l
  | j + 1, l => if l.getD (j + 1) 0 < l.getD j 0 then sink j (swap l j) else l
def isort : Nat → Nat → List Int → List Int
  | 0, _, l => l
  | k + 1, i, l => isort k (i + 1) (sink i l)

theorem swap_length (l : List Int) (j : Nat) : (swap l j).length = l.length := by simp [swap]
theorem swap_getD {l : List Int} {j : Nat} (h : j + 1 < l.length) (a : Nat) : (swap l j).getD a 0 = if a = j then l.getD (j + 1) 0 else if a = j + 1 then l.getD j 0 else l.getD a 0 := by
  unfold swap
  simp only [List.getD_eq_getElem?_getD, List.getElem?_set, List.length_set]
  by_cases h1 : a = j
  · subst h1
    simp [show a < l.length by omega]
  · by_cases h2 : a = j + 1
    · subst h2
      simp [h]
    · simp [h1, h2, show ¬ j = a by omega, show ¬ j + 1 = a by omega]
theorem swap_perm {l : List Int} {j : Nat} (h : j + 1 < l.length) : (swap l j).Perm l := by
  unfold swap
  have e1 : l.getD j 0 = l[j] := by simp [List.getD_eq_getElem?_getD, show j < l.length by omega]
  have e2 : l.getD (j + 1) 0 = l[j + 1] := by simp [List.getD_eq_getElem?_getD, h]
  rw [e1, e2]
  exact List.set_set_perm h (by omega)
theorem sink_length : ∀ (j : Nat) (l : List Int), (sink j l).length = l.length
  | 0, l => rfl
  | j + 1, l => by
    unfold sink
    split
    · rw [sink_length j, swap_length]
    · rfl
theorem sink_perm : ∀ (j : Nat) (l : List Int), j < l.length → (sink j l).Perm l
  | 0, l, _ => .refl _
  | j + 1, l, h => by
    unfold sink
    split
    · exact (sink_perm j _ (by rw [swap_length]; omega)).trans (swap_perm h)
    · exact .refl _
theorem isort_perm : ∀ (k i : Nat) (l : List Int), i + k ≤ l.length → (isort k i l).Perm l
  | 0, i, l, _ => .refl _
  | k + 1, i, l, h => (isort_perm k (i + 1) _ (by rw [sink_length]; omega)).trans (sink_perm i l (by omega))
theorem isort_length (k i : Nat) (l : List Int) (h : i + k ≤ l.length) : (isort k i l).length = l.length := (isort_perm k i l h).length_eq

def SortedTo (i : Nat) (l : List Int) : Prop := ∀ a b, a < b → b < i → l.getD a 0 ≤ l.getD b 0
theorem sink_sorted : ∀ (j : Nat) (l : List Int) (i : Nat), j ≤ i → i < l.length → (∀ a b, a < b → b ≤ i → a ≠ j → b ≠ j → l.getD a 0 ≤ l.getD b 0) → (∀ b, j < b → b ≤ i → l.getD j 0 ≤ l.getD b 0) → SortedTo (i + 1) (sink j l)
  | 0, l, i, _, _, h1, h2 => fun a b hab hb => by
    show l.getD a 0 ≤ l.getD b 0
    by_cases ha : a = 0
    · subst ha; exact h2 b hab (by omega)
    · exact h1 a b hab (by omega) ha (by omega)
  | j + 1, l, i, hj, hi, h1, h2 => by
    unfold sink
    split
    · rename_i hc
      have hs := swap_getD (l := l) (j := j) (by omega)
      refine sink_sorted j _ i (by omega) (by rw [swap_length]; exact hi) (fun a b hab hb ha' hb' => ?_) (fun b hb hbi => ?_)
      · rw [hs a, hs b, if_neg ha', if_neg hb']
        by_cases e1 : a = j + 1
        · rw [if_pos e1, if_neg (by omega)]
          exact h1 j b (by omega) hb (by omega) (by omega)
        · rw [if_neg e1]
          by_cases e2 : b = j + 1
          · rw [if_pos e2]
            exact h1 a j (by omega) (by omega) e1 (by omega)
          · rw [if_neg e2]
            exact h1 a b hab hb e1 e2
      · rw [hs j, hs b, if_pos rfl, if_neg (by omega)]
        by_cases e2 : b = j + 1
        · rw [if_pos e2]; omega
        · rw [if_neg e2]
          exact h2 b (by omega) hbi
    · rename_i hc
      intro a b hab hb
      by_cases e1 : a = j + 1
      · subst e1; exact h2 b hab (by omega)
      · by_cases e2 : b = j + 1
        · subst e2
          by_cases e3 : a = j
          · subst e3; omega
          · have := h1 a j (by omega) (by omega) (by omega) (by omega)
            omega
        · exact h1 a b hab (by omega) e1 e2
theorem isort_sorted : ∀ (k i : Nat) (l : List Int), i + k ≤ l.length → SortedTo i l → SortedTo (i + k) (isort k i l)
  | 0, i, l, _, h => h
  | k + 1, i, l, hl, h => by
    have := isort_sorted k (i + 1) (sink i l) (by rw [sink_length]; omega) (sink_sorted i l i (Nat.le_refl _) (by omega) (fun a b hab hb _ hb' => h a b hab (by omega)) (fun b hb hbi => by omega))
    rw [show i + (k + 1) = i + 1 + k by omega]
    exact this

/- The middle one. -/
def lt (m : Int) (l : List Int) : Nat := l.countP fun x => decide (x < m)
def eqs (m : Int) (l : List Int) : Nat := l.countP fun x => decide (x = m)
def isM (m : Int) (l : List Int) : Bool := if l = [] then decide (m = 0) else decide (lt m l ≤ l.length / 2) && (decide (l.length / 2 < lt m l + eqs m l) && decide (0 < eqs m l))
def lastU (l : List Int) : List Int := l.drop (l.length - 11)
def middle (l : List Int) : Int := (isort (l.length - 1) 1 l).getD (l.length / 2) 0
def medianM (l : List Int) : Int := if l = [] then 0 else middle (lastU l)

theorem lt_eqs (m : Int) (l : List Int) : lt m l + eqs m l = l.countP fun x => decide (x ≤ m) := by
  induction l with
  | nil => rfl
  | cons x l ih =>
    simp only [lt, eqs, List.countP_cons] at ih ⊢
    by_cases h1 : x < m
    · simp [h1, show ¬ x = m by omega, show x ≤ m by omega]; omega
    · by_cases h2 : x = m
      · subst h2; simp; omega
      · simp [h1, h2, show ¬ x ≤ m by omega]; omega
theorem lt_perm {l l' : List Int} (h : l.Perm l') (m : Int) : lt m l = lt m l' := h.countP_eq _
theorem eqs_perm {l l' : List Int} (h : l.Perm l') (m : Int) : eqs m l = eqs m l' := h.countP_eq _
theorem isM_perm {l l' : List Int} (h : l.Perm l') (m : Int) : isM m l = isM m l' := by
  unfold isM
  rw [lt_perm h, eqs_perm h, h.length_eq]
  by_cases h0 : l = []
  · subst h0
    have := h.symm.eq_nil
    simp [this]
  · rw [if_neg h0, if_neg]
    rintro rfl
    exact h0 h.eq_nil
theorem isM_unique {l : List Int} {m m' : Int} (h0 : l ≠ []) (h : isM m l = true) (h' : isM m' l = true) : m = m' := by
  have key : ∀ a b : Int, isM a l = true → isM b l = true → ¬ a < b := by
    intro a b ha hb hab
    simp only [isM, if_neg h0, Bool.and_eq_true, decide_eq_true_eq] at ha hb
    have e := lt_eqs a l
    have : (l.countP fun x => decide (x ≤ a)) ≤ lt b l := List.countP_mono_left (fun x _ hx => by simp at hx ⊢; omega)
    omega
  have h1 := key m m' h h'
  have h2 := key m' m h' h
  omega
theorem sorted_isM {s : List Int} (h0 : s ≠ []) (h : SortedTo s.length s) : isM (s.getD (s.length / 2) 0) s = true := by
  have hl : 0 < s.length := List.length_pos_iff.2 h0
  have hm : s.length / 2 < s.length := by omega
  generalize hmm : s.getD (s.length / 2) 0 = m
  have hget : ∀ i (hi : i < s.length), s.getD i 0 = s[i] := fun i hi => by simp [List.getD_eq_getElem?_getD, hi]
  simp only [isM, if_neg h0, Bool.and_eq_true, decide_eq_true_eq]
  refine ⟨?_, ?_, ?_⟩
  · unfold lt
    rw [← List.take_append_drop (s.length / 2) s, List.countP_append]
    have h1 : (s.take (s.length / 2)).countP (fun x => decide (x < m)) ≤ s.length / 2 := by
      refine Nat.le_trans List.countP_le_length ?_
      simp; omega
    have h2 : (s.drop (s.length / 2)).countP (fun x => decide (x < m)) = 0 := by
      rw [List.countP_eq_zero]
      intro x hx
      obtain ⟨i, hi, rfl⟩ := List.mem_iff_getElem.1 hx
      simp only [List.length_drop] at hi
      simp only [List.getElem_drop, decide_eq_true_eq, Int.not_lt]
      have := hget (s.length / 2 + i) (by omega)
      rw [← this, ← hmm]
      rcases Nat.eq_zero_or_pos i with h0 | h0
      · subst h0; exact Int.le_refl _
      · exact h _ _ (by omega) (by omega)
    rw [h2]
    have : (List.take (s.length / 2) s ++ List.drop (s.length / 2) s).length = s.length := by simp
    omega
  · rw [lt_eqs]
    rw [← List.take_append_drop (s.length / 2 + 1) s, List.countP_append]
    have h1 : (s.take (s.length / 2 + 1)).countP (fun x => decide (x ≤ m)) = s.length / 2 + 1 := by
      have : (s.take (s.length / 2 + 1)).countP (fun x => decide (x ≤ m)) = (s.take (s.length / 2 + 1)).length := by
        rw [List.countP_eq_length]
        intro x hx
        obtain ⟨i, hi, rfl⟩ := List.mem_iff_getElem.1 hx
        simp only [List.length_take] at hi
        simp only [List.getElem_take, decide_eq_true_eq]
        have := hget i (by omega)
        rw [← this, ← hmm]
        by_cases e : i = s.length / 2
        · subst e; exact Int.le_refl _
        · exact h _ _ (by omega) (by omega)
      rw [this]
      simp; omega
    rw [h1]
    have : (List.take (s.length / 2 + 1) s ++ List.drop (s.length / 2 + 1) s).length = s.length := by simp
    omega
  · unfold eqs
    rw [List.countP_pos_iff]
    refine ⟨m, ?_, by simp⟩
    rw [← hmm, hget _ hm]
    exact List.getElem_mem _
theorem lastU_nil {l : List Int} : lastU l = [] ↔ l = [] := by
  unfold lastU
  rw [List.drop_eq_nil_iff]
  constructor
  · intro h; exact List.eq_nil_of_length_eq_zero (by omega)
  · rintro rfl; simp
theorem middle_isM {l : List Int} (h0 : l ≠ []) : isM (middle l) l = true := by
  have hl : 0 < l.length := List.length_pos_iff.2 h0
  have hp := isort_perm (l.length - 1) 1 l (by omega)
  have hs := isort_sorted (l.length - 1) 1 l (by omega) (fun a b h1 h2 => by omega)
  rw [← isM_perm hp]
  unfold middle
  have hlen := hp.length_eq
  have hs : SortedTo (isort (l.length - 1) 1 l).length (isort (l.length - 1) 1 l) := by
    rw [hlen]
    rwa [show 1 + (l.length - 1) = l.length by omega] at hs
  generalize isort (l.length - 1) 1 l = s at *
  rw [← hlen] at hl ⊢
  exact sorted_isM (fun e => by subst e; simp at hl) hs
theorem medianM_isM (l : List Int) : isM (medianM l) (lastU l) = true := by
  unfold medianM
  by_cases h : l = []
  · subst h; rfl
  · rw [if_neg h]
    exact middle_isM fun e => h (lastU_nil.1 e)
theorem medianM_eq {l : List Int} {m : Int} (h : isM m (lastU l) = true) : m = medianM l := by
  by_cases h0 : l = []
  · subst h0
    simp [isM, lastU] at h
    subst h; rfl
  · exact isM_unique (fun e => h0 (lastU_nil.1 e)) h (medianM_isM l)
theorem medianM_mem {l : List Int} (h : l ≠ []) : medianM l ∈ lastU l := by
  have h1 := medianM_isM l
  have h2 : lastU l ≠ [] := fun e => h (lastU_nil.1 e)
  simp only [isM, if_neg h2, Bool.and_eq_true, decide_eq_true_eq] at h1
  obtain ⟨x, hx, hx2⟩ := List.countP_pos_iff.1 h1.2.2
  simp at hx2
  rwa [← hx2]
theorem medianM_perm {l l' : List Int} (h : (lastU l).Perm (lastU l')) : medianM l = medianM l' := medianM_eq (by rw [← isM_perm h]; exact medianM_isM l)

/- A time that is above the middle one lets it not fall. -/
theorem lastU_snoc (l : List Int) (t : Int) : lastU (l ++ [t]) = (if l.length < 11 then lastU l else (lastU l).tail) ++ [t] := by
  unfold lastU
  split
  · rename_i h
    rw [show (l ++ [t]).length - 11 = 0 by simp; omega, show l.length - 11 = 0 by omega]
    rfl
  · rename_i h
    rw [List.drop_append_of_le_length (by simp), List.tail_drop]
    congr 2
    simp; omega
theorem median_rises {l : List Int} {t : Int} (h : l ≠ []) (ht : medianM l < t) : medianM l ≤ medianM (l ++ [t]) := by
  have h1 := medianM_isM l
  have h2 := medianM_isM (l ++ [t])
  have n1 : lastU l ≠ [] := fun e => h (lastU_nil.1 e)
  have n2 : lastU (l ++ [t]) ≠ [] := fun e => by have := lastU_nil.1 e; simp at this
  simp only [isM, if_neg n1, Bool.and_eq_true, decide_eq_true_eq] at h1
  simp only [isM, if_neg n2, Bool.and_eq_true, decide_eq_true_eq] at h2
  apply Int.not_lt.1
  intro hlt
  generalize medianM (l ++ [t]) = m' at *
  generalize medianM l = m at *
  have e := lt_eqs m' (lastU (l ++ [t]))
  have hle : (lastU (l ++ [t])).countP (fun x => decide (x ≤ m')) ≤ lt m (lastU l) := by
    rw [lastU_snoc, List.countP_append]
    have : ([t].countP fun x => decide (x ≤ m')) = 0 := by simp; omega
    rw [this, Nat.add_zero]
    refine Nat.le_trans ?_ (List.countP_mono_left (l := lastU l) (p := fun x => decide (x ≤ m')) (fun x _ hx => by simp at hx ⊢; omega))
    split
    · exact Nat.le_refl _
    · exact List.Sublist.countP_le (List.tail_sublist _)
  have hlen : (lastU l).length ≤ (lastU (l ++ [t])).length := by simp [lastU]; omega
  have : (lastU l).length / 2 ≤ (lastU (l ++ [t])).length / 2 := Nat.div_le_div_right hlen
  omega
end Go.Pm
