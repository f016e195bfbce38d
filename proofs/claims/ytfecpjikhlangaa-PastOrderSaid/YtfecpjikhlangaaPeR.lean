/- Values that are handed to a call: what they point to is handed over too, or looked at only. No condition. -/
import Derived.Test.YtfecpjikhlangaaPeQ
namespace Go.Pe

def memB (i : Nat) : List Nat → Bool
  | [] => false
  | j :: l => Nat.beq i j || memB i l
def nodupB : List Nat → Bool
  | [] => true
  | i :: l => !memB i l && nodupB l
theorem memB_iff {i : Nat} : ∀ {l : List Nat}, memB i l = true ↔ i ∈ l
  | [] => by simp [memB]
  | j :: l => by
    simp only [memB, Bool.or_eq_true, List.mem_cons, memB_iff (l := l)]
    exact or_congr_left ⟨Nat.eq_of_beq_eq_true, fun e => by subst e; exact Nat.beq_refl i⟩
def keys {α : Type} (l : List (Nat × α)) : List Nat := l.map (·.1)

theorem lookR_mem {α : Type} {i : Nat} {x : α} : ∀ {l : List (Nat × α)}, lookR l i = some x → (i, x) ∈ l
  | [], h => by simp [lookR] at h
  | (j, y) :: l, h => by
    simp only [lookR] at h
    split at h
    · rename_i hb
      have := Nat.eq_of_beq_eq_true hb
      subst this
      simp only [Option.some.injEq] at h
      subst h
      simp
    · exact List.mem_cons_of_mem _ (lookR_mem h)
theorem lookR_none {α : Type} {i : Nat} : ∀ {l : List (Nat × α)}, i ∉ keys l → lookR l i = none
  | [], _ => rfl
  | (j, y) :: l, h => by
    simp only [keys, List.map_cons, List.mem_cons, not_or] at h
    simp only [lookR]
    rw [if_neg, lookR_none (l := l) h.2]
    intro hb
    exact h.1 (Nat.eq_of_beq_eq_true hb).symm
theorem lookR_key {α : Type} {i : Nat} : ∀ {l : List (Nat × α)}, i ∈ keys l → ∃ x, lookR l i = some x
  | [], h => by simp [keys] at h
  | (j, y) :: l, h => by
    simp only [lookR]
    split
    · exact ⟨_, rfl⟩
    · rename_i hb
      simp only [keys, List.map_cons, List.mem_cons] at h
      rcases h with h | h
      · exact absurd (by rw [h]; exact Nat.beq_refl j) hb
      · exact lookR_key (l := l) h
theorem lookR_of {α : Type} {i : Nat} {x : α} : ∀ {l : List (Nat × α)}, nodupB (keys l) = true → (i, x) ∈ l → lookR l i = some x
  | [], _, h => by cases h
  | (j, y) :: l, hn, h => by
    simp only [keys, List.map_cons, nodupB, Bool.and_eq_true, Bool.not_eq_true'] at hn
    simp only [lookR]
    rcases List.mem_cons.1 h with h | h
    · simp only [Prod.mk.injEq] at h
      obtain ⟨rfl, rfl⟩ := h
      rw [if_pos (Nat.beq_refl i)]
    · rw [if_neg, lookR_of hn.2 h]
      intro hb
      have := Nat.eq_of_beq_eq_true hb
      subst this
      have : memB j (l.map (·.1)) = true := memB_iff.2 (List.mem_map.2 ⟨(j, x), h, rfl⟩)
      rw [this] at hn
      exact absurd hn.1 (by simp)
theorem keys_mem {α : Type} {i : Nat} {x : α} {l : List (Nat × α)} (h : (i, x) ∈ l) : i ∈ keys l := List.mem_map.2 ⟨(i, x), h, rfl⟩

theorem applyUps_none : ∀ {ups : List (Nat × Option Row)} {hp : Hp} {c : Nat}, c ∉ keys ups → applyUps hp ups c = hp c
  | [], _, _, _ => rfl
  | (j, y) :: l, hp, c, h => by
    simp only [keys, List.map_cons, List.mem_cons, not_or] at h
    simp only [applyUps]
    rw [applyUps_none (ups := l) h.2, upd_ne _ _ h.1]
theorem applyUps_of : ∀ {ups : List (Nat × Option Row)} {hp : Hp} {c : Nat} {x : Option Row}, nodupB (keys ups) = true → (c, x) ∈ ups → applyUps hp ups c = x
  | [], _, _, _, _, h => by cases h
  | (j, y) :: l, hp, c, x, hn, h => by
    simp only [keys, List.map_cons, nodupB, Bool.and_eq_true, Bool.not_eq_true'] at hn
    simp only [applyUps]
    rcases List.mem_cons.1 h with h | h
    · simp only [Prod.mk.injEq] at h
      obtain ⟨rfl, rfl⟩ := h
      rw [applyUps_none, upd_same]
      intro hm
      have hm' := memB_iff.2 hm
      simp only [keys] at hm'
      rw [hm'] at hn
      exact absurd hn.1 (by simp)
    · exact applyUps_of hn.2 h

/- What a value names. -/
mutual
def refsOf : PV → List Nat
  | .st _ fs => refsOfL fs
  | .at id _ => [id]
  | .ref id _ _ _ _ => [id]
  | _ => []
termination_by structural p => p
def refsOfL : List PV → List Nat
  | [] => []
  | p :: l => refsOf p ++ refsOfL l
termination_by structural l => l
end

/- b: the names that are handed over; what has no such name is looked at, in rs. -/
mutual
def viewV (b : Nat → Option Nat) (rs : Nat → Option Row) : PV → Option (PV × List Prop)
  | .st n fs => match viewL b rs fs with
    | some x => some (.st n x.1, x.2)
    | none => none
  | .tup _ => none
  | .at id p => match b id with
    | some i => some (.at i p, [])
    | none => match rs id with
      | some r => if noref r.c then some (.cptr r.c p, []) else none
      | none => none
  | .ref id p s o n => match b id with
    | some i => some (.ref i p s o n, [])
    | none => match rs id with
      | some r => match node r.c p with
        | some q => if isArr q && Nat.beq s (elSize q) then some (.vec false (sub q o n), [o + n ≤ arrLen q] ++ pathOb r.c p) else none
        | none => none
      | none => none
  | p => some (p, [])
termination_by structural p => p
def viewL (b : Nat → Option Nat) (rs : Nat → Option Row) : List PV → Option (List PV × List Prop)
  | [] => some ([], [])
  | p :: l => match viewV b rs p, viewL b rs l with
    | some x, some y => some (x.1 :: y.1, x.2 ++ y.2)
    | _, _ => none
termination_by structural l => l
end
theorem viewL_cons {b : Nat → Option Nat} {rs : Nat → Option Row} {p : PV} {l m : List PV} {ob : List Prop} (h : viewL b rs (p :: l) = some (m, ob)) : ∃ q r o1 o2, viewV b rs p = some (q, o1) ∧ viewL b rs l = some (r, o2) ∧ m = q :: r ∧ ob = o1 ++ o2 := by
  simp only [viewL] at h
  split at h
  · rename_i x y h1 h2
    simp only [Option.some.injEq, Prod.mk.injEq] at h
    exact ⟨x.1, y.1, x.2, y.2, h1, h2, h.1.symm, h.2.symm⟩
  · cases h
theorem viewL_get {b : Nat → Option Nat} {rs : Nat → Option Row} : ∀ {l m : List PV} {ob : List Prop}, viewL b rs l = some (m, ob) → All ob → m.length = l.length ∧ ∀ (j : Nat) (q : PV), m[j]? = some q → ∃ p o, l[j]? = some p ∧ viewV b rs p = some (q, o) ∧ All o
  | [], m, ob, h, _ => by
    simp only [viewL, Option.some.injEq, Prod.mk.injEq] at h
    obtain ⟨rfl, rfl⟩ := h
    exact ⟨rfl, fun j q hq => by simp at hq⟩
  | p :: l, m, ob, h, ho => by
    obtain ⟨q, r, o1, o2, h1, h2, rfl, rfl⟩ := viewL_cons h
    obtain ⟨e1, e2⟩ := viewL_get h2 ho.right
    refine ⟨by simp [e1], fun j x hx => ?_⟩
    cases j with
    | zero => simp at hx; subst hx; exact ⟨p, o1, rfl, h1, ho.left⟩
    | succ j => simp at hx; simpa using e2 j x hx

def V1 (b : Nat → Option Nat) (rs : Nat → Option Row) (y x : PV) : Prop := ∃ ob, viewV b rs y = some (x, ob) ∧ All ob
def LeafView (b : Nat → Option Nat) (rs : Nat → Option Row) (l m : List PV) : Prop := m.length = l.length ∧ ∀ (j : Nat) (x : PV), m[j]? = some x → ∃ y, l[j]? = some y ∧ V1 b rs y x

section
variable {b : Nat → Option Nat} {rs : Nat → Option Row}
theorem LeafView.single {p q : PV} (h : V1 b rs p q) : LeafView b rs [p] [q] := ⟨rfl, fun j x hx => by
  cases j with
  | zero => simp at hx; subst hx; exact ⟨p, rfl, h⟩
  | succ j => simp at hx⟩
theorem LeafView.append {l l' m m' : List PV} (h : LeafView b rs l m) (h' : LeafView b rs l' m') : LeafView b rs (l ++ l') (m ++ m') := by
  refine ⟨by simp [h.1, h'.1], fun j x hx => ?_⟩
  by_cases hj : j < m.length
  · rw [List.getElem?_append_left hj] at hx
    rw [List.getElem?_append_left (by rw [← h.1]; exact hj)]
    exact h.2 j x hx
  · rw [List.getElem?_append_right (by omega)] at hx
    rw [List.getElem?_append_right (by rw [← h.1]; omega), ← h.1]
    exact h'.2 _ x hx
theorem viewV_noref : ∀ {p : PV}, leaf p = true → noref p = true → isTup p = false → viewV b rs p = some (p, []) := by
  intro p h1 h2 h3
  cases p <;> simp only [leaf, noref, isTup, reduceCtorEq] at h1 h2 h3 <;> rfl

mutual
/-- No tuple in it. -/
def untup : PV → Bool
  | .st _ fs => untupL fs
  | .parr _ _ _ l => untupL l
  | .tup _ => false
  | _ => true
termination_by structural p => p
def untupL : List PV → Bool
  | [] => true
  | p :: l => untup p && untupL l
termination_by structural l => l
end
mutual
theorem untup_flat : ∀ (p : PV), untup p = true → ∀ q ∈ flat p, isTup q = false
  | .st n fs, hu, q, h => untup_flatL fs (by simpa only [untup] using hu) q (by simpa only [flat] using h)
  | .parr s n sh l, hu, q, h => untup_flatL l (by simpa only [untup] using hu) q (by simpa only [flat] using h)
  | .iarr k n l, _, q, h => by
    simp only [flat, List.mem_map] at h
    obtain ⟨x, _, rfl⟩ := h
    rfl
  | .tup _, hu, _, _ => by simp [untup] at hu
  | .int .., _, q, h | .bool _, _, q, h | .str _, _, q, h | .vec .., _, q, h | .cptr .., _, q, h | .at .., _, q, h | .ref .., _, q, h | .nilp, _, q, h | .undef, _, q, h => by
    simp only [flat, List.mem_singleton] at h
    subst h
    rfl
theorem untup_flatL : ∀ (l : List PV), untupL l = true → ∀ q ∈ flatL l, isTup q = false
  | [], _, q, h => by simp [flatL] at h
  | p :: l, hu, q, h => by
    simp only [untupL, Bool.and_eq_true] at hu
    simp only [flatL, List.mem_append] at h
    rcases h with h | h
    · exact untup_flat p hu.1 q h
    · exact untup_flatL l hu.2 q h
end

theorem LeafView.self {l : List PV} (h : ∀ q ∈ l, leaf q = true ∧ noref q = true ∧ isTup q = false) : LeafView b rs l l := ⟨rfl, fun _ x hx => ⟨x, hx, [], viewV_noref (h x (List.mem_of_getElem? hx)).1 (h x (List.mem_of_getElem? hx)).2.1 (h x (List.mem_of_getElem? hx)).2.2, All.nil⟩⟩

mutual
theorem view_flat (hrs : ∀ i r, rs i = some r → WF r.c) : ∀ (p q : PV) (ob : List Prop), WF p → untup p = true → viewV b rs p = some (q, ob) → All ob → size q = size p ∧ Pe.isAgg q = Pe.isAgg p ∧ isTup q = false ∧ WF q ∧ LeafView b rs (flat p) (flat q)
  | .st n fs, q, ob, hw, hu, h, ho => by
    simp only [viewV] at h
    split at h
    · rename_i x hx
      simp only [Option.some.injEq, Prod.mk.injEq] at h
      obtain ⟨rfl, rfl⟩ := h
      simp only [WF] at hw
      obtain ⟨h1, h2, h3⟩ := view_flatL hrs fs x.1 x.2 hw.2 (by simpa only [untup] using hu) hx ho
      exact ⟨rfl, rfl, rfl, by simp only [WF]; exact ⟨by rw [h1]; exact hw.1, h2⟩, h3⟩
    · cases h
  | .parr s n sh l, q, ob, hw, hu, h, _ => by
    simp only [viewV, Option.some.injEq, Prod.mk.injEq] at h
    obtain ⟨rfl, rfl⟩ := h
    exact ⟨rfl, rfl, rfl, hw, LeafView.self fun q hq => ⟨leaf_of_flat _ q hq, noref_of_flat _ hw rfl q hq, untup_flat _ hu q hq⟩⟩
  | .iarr k n l, q, ob, hw, hu, h, _ => by
    simp only [viewV, Option.some.injEq, Prod.mk.injEq] at h
    obtain ⟨rfl, rfl⟩ := h
    exact ⟨rfl, rfl, rfl, hw, LeafView.self fun q hq => ⟨leaf_of_flat _ q hq, noref_of_flat _ hw rfl q hq, untup_flat _ hu q hq⟩⟩
  | .tup _, _, _, _, hu, _, _ => by simp [untup] at hu
  | .at id p, q, ob, _, _, h, ho => by
    have hq : V1 b rs (.at id p) q := ⟨ob, h, ho⟩
    simp only [viewV] at h
    split at h
    · simp only [Option.some.injEq, Prod.mk.injEq] at h
      obtain ⟨rfl, rfl⟩ := h
      exact ⟨rfl, rfl, rfl, trivial, .single hq⟩
    · split at h
      · rename_i r hr
        split at h
        · rename_i hn
          simp only [Option.some.injEq, Prod.mk.injEq] at h
          obtain ⟨rfl, rfl⟩ := h
          exact ⟨rfl, rfl, rfl, by simp only [WF]; exact ⟨hrs _ _ hr, hn⟩, .single hq⟩
        · cases h
      · cases h
  | .ref id p s o n, q, ob, _, _, h, ho => by
    have hq : V1 b rs (.ref id p s o n) q := ⟨ob, h, ho⟩
    simp only [viewV] at h
    split at h
    · simp only [Option.some.injEq, Prod.mk.injEq] at h
      obtain ⟨rfl, rfl⟩ := h
      exact ⟨rfl, rfl, rfl, trivial, .single hq⟩
    · split at h
      · rename_i r hr
        split at h
        · rename_i q' hn
          split at h
          · rename_i hb
            simp only [Bool.and_eq_true] at hb
            simp only [Option.some.injEq, Prod.mk.injEq] at h
            obtain ⟨rfl, rfl⟩ := h
            obtain ⟨n1, _⟩ := node_flat p (hrs _ _ hr) hn ho.tail
            obtain ⟨s1, s2, _⟩ := sub_spec n1 hb.1 ho.head
            exact ⟨rfl, rfl, rfl, by simp only [WF]; exact ⟨s1, s2, fun e => by cases e⟩, .single hq⟩
          · cases h
        · cases h
      · cases h
  | .int .., q, ob, hw, _, h, ho | .bool _, q, ob, hw, _, h, ho | .str _, q, ob, hw, _, h, ho | .vec .., q, ob, hw, _, h, ho | .cptr .., q, ob, hw, _, h, ho | .nilp, q, ob, hw, _, h, ho | .undef, q, ob, hw, _, h, ho => by
    have hq : V1 b rs _ q := ⟨ob, h, ho⟩
    simp only [viewV, Option.some.injEq, Prod.mk.injEq] at h
    obtain ⟨rfl, rfl⟩ := h
    exact ⟨rfl, rfl, rfl, hw, .single hq⟩
theorem view_flatL (hrs : ∀ i r, rs i = some r → WF r.c) : ∀ (l m : List PV) (ob : List Prop), WFL l → untupL l = true → viewL b rs l = some (m, ob) → All ob → sizeL m = sizeL l ∧ WFL m ∧ LeafView b rs (flatL l) (flatL m)
  | [], m, ob, _, _, h, _ => by
    simp only [viewL, Option.some.injEq, Prod.mk.injEq] at h
    obtain ⟨rfl, rfl⟩ := h
    exact ⟨rfl, by simp [WFL], rfl, fun j x hx => by simp [flatL] at hx⟩
  | p :: l, m, ob, hw, hu, h, ho => by
    obtain ⟨q, r, o1, o2, h1, h2, rfl, rfl⟩ := viewL_cons h
    simp only [WFL] at hw
    simp only [untupL, Bool.and_eq_true] at hu
    obtain ⟨a1, _, _, a4, a5⟩ := view_flat hrs p q o1 hw.1 hu.1 h1 ho.left
    obtain ⟨b1, b2, b3⟩ := view_flatL hrs l r o2 hw.2 hu.2 h2 ho.right
    exact ⟨by simp only [sizeL]; omega, by simp only [WFL]; exact ⟨a4, b2⟩, by simp only [flatL]; exact a5.append b3⟩
end

variable {w : World} {T T' : T2} {ρ ρ' : Pls}
theorem V1.rel (hb : RenOk b ρ ρ') (hk : Keeps w T w T') (hrow : ∀ i r, b i = none → rs i = some r → ∃ pl, ρ i = some pl ∧ RowRel w T ρ pl r ∧ ∀ x, pl.off ≤ x → x < pl.off + pl.ext → T' pl.g x)
    {v : Value} {x y : PV} (h : RO w T ρ v y) (hv : V1 b rs y x) : RO w T' ρ' v x := by
  obtain ⟨ob, hv, ho⟩ := hv
  cases y <;> simp only [RO, viewV] at h hv
  case st => cases h
  case tup => cases hv
  case «at» id p =>
    obtain ⟨pl, h1, rfl⟩ := h
    split at hv
    · rename_i i hi
      simp only [Option.some.injEq, Prod.mk.injEq] at hv
      obtain ⟨rfl, rfl⟩ := hv
      exact ⟨pl, hb _ _ _ hi h1, rfl⟩
    · rename_i hi
      split at hv
      · rename_i r hr
        split at hv
        · rename_i hn
          simp only [Option.some.injEq, Prod.mk.injEq] at hv
          obtain ⟨rfl, rfl⟩ := hv
          obtain ⟨pl', p1, p2, p3⟩ := hrow id r hi hr
          rw [h1] at p1
          simp only [Option.some.injEq] at p1
          subst p1
          obtain ⟨c1, _, _, c4⟩ := p2.cellsAt (path := []) (q := r.c) rfl All.nil
          have hsz : size r.c ≤ pl.ext := by obtain ⟨cs, t, fz, g1, g2, g3, g4⟩ := p2; exact g3
          have hex : ∀ j, ∃ u, ∀ q, (flat r.c)[j]? = some q → w.cell? ⟨pl.g, pl.off + j, none⟩ = some u ∧ RO w T ρ u q := by
            intro j
            cases hj : (flat r.c)[j]? with
            | none => exact ⟨Go.undef, fun q hq => by cases hq⟩
            | some q =>
              obtain ⟨u, e1, e2⟩ := c4 j q hj
              exact ⟨u, fun q' hq => by cases hq; exact ⟨by simpa [offOf] using e1, e2⟩⟩
          obtain ⟨us, hus⟩ := Classical.axiomOfChoice hex
          have hjl : ∀ j q, (flat r.c)[j]? = some q → j < size r.c := fun j q hq => by
            have := (List.getElem?_eq_some_iff.1 hq).1
            rw [flat_length _ c1] at this
            exact this
          simp only [RO]
          exact .cptr _ _ _ _ us (fun j q hq => ⟨p3 _ (by omega) (by have := hjl j q hq; omega), (hus j q hq).1⟩) (fun j q hq => ((hus j q hq).2.closed (noref_of_flat _ c1 hn q (List.mem_of_getElem? hq))).keep hk)
        · cases hv
      · cases hv
  case ref id p s o n =>
    obtain ⟨pl, A, c, h1, rfl, h3, h4, h5⟩ := h
    split at hv
    · rename_i i hi
      simp only [Option.some.injEq, Prod.mk.injEq] at hv
      obtain ⟨rfl, rfl⟩ := hv
      exact ⟨pl, A, c, hb _ _ _ hi h1, rfl, h3, h4, h5⟩
    · rename_i hi
      split at hv
      · rename_i r hr
        split at hv
        · rename_i q hq
          split at hv
          · rename_i hcond
            simp only [Bool.and_eq_true] at hcond
            simp only [Option.some.injEq, Prod.mk.injEq] at hv
            obtain ⟨rfl, rfl⟩ := hv
            obtain ⟨pl', p1, p2, p3⟩ := hrow id r hi hr
            rw [h1] at p1
            simp only [Option.some.injEq] at p1
            subst p1
            have hsz := Nat.eq_of_beq_eq_true hcond.2
            obtain ⟨c1, _, c2, c4⟩ := p2.cellsAt hq ho.tail
            obtain ⟨s1, s2, s3, s4, s5⟩ := sub_spec c1 hcond.1 ho.head
            have hext : size r.c ≤ pl.ext := by obtain ⟨cs, t, fz, g1, g2, g3, g4⟩ := p2; exact g3
            simp only [RO]
            rcases Nat.eq_zero_or_pos n with h0 | h0
            · subst h0
              exact .vec0 _ _ _ _ s3 rfl (fun h => by cases h)
            · obtain ⟨rfl, _⟩ := h5 (by omega)
              have hex : ∀ j, ∃ u, ∀ y, (flat (sub q o n))[j]? = some y → w.cell? ⟨pl.g, pl.off + (offOf p + o * s) + j, none⟩ = some u ∧ RO w T ρ u y ∧ noref y = true ∧ offOf p + o * s + j < pl.ext := by
                intro j
                cases hj : (flat (sub q o n))[j]? with
                | none => exact ⟨Go.undef, fun y hy => by cases hy⟩
                | some y =>
                  obtain ⟨u, e1, e2⟩ := c4 _ y (s5 j y hj)
                  refine ⟨u, fun y' hy => ?_⟩
                  cases hy
                  refine ⟨?_, e2, noref_of_flat _ s1 (arr_noref s2) y (List.mem_of_getElem? hj), ?_⟩
                  · rw [← e1, ← hsz]
                    congr 2
                    omega
                  · have := (List.getElem?_eq_some_iff.1 (s5 j y hj)).1
                    rw [flat_length _ c1, ← hsz] at this
                    omega
              obtain ⟨us, hus⟩ := Classical.axiomOfChoice hex
              exact .vec1 _ _ _ _ _ us s3 h3 h4 (fun j y hy => ⟨p3 _ (by omega) (by have := (hus j y hy).2.2.2; omega), (hus j y hy).1⟩) (fun j y hy => ((hus j y hy).2.1.closed (hus j y hy).2.2.1).keep hk)
          · cases hv
        · cases hv
      · cases hv
  all_goals
    simp only [Option.some.injEq, Prod.mk.injEq] at hv
    obtain ⟨rfl, rfl⟩ := hv
    exact RO.of_closed (h.keep hk)

theorem view_rel (hb : RenOk b ρ ρ') (hk : Keeps w T w T') (hrow : ∀ i r, b i = none → rs i = some r → ∃ pl, ρ i = some pl ∧ RowRel w T ρ pl r ∧ ∀ x, pl.off ≤ x → x < pl.off + pl.ext → T' pl.g x) (hrs : ∀ i r, rs i = some r → WF r.c)
    {v : Value} {p q : PV} {ob : List Prop} (hu : untup p = true) (h : RV w T ρ v p) (hv : viewV b rs p = some (q, ob)) (ho : All ob) : RV w T' ρ' v q := by
  obtain ⟨h1, h2, h3, h4, h5⟩ := view_flat hrs p q ob h.1 hu hv ho
  have hp : ∀ vs, p ≠ .tup vs := fun vs e => by subst e; simp [untup] at hu
  have hq : ∀ vs, q ≠ .tup vs := fun vs e => by subst e; simp [isTup] at h3
  refine RV.of_RN h4 hq ?_
  have hn := h.to_RN hp
  unfold RN at hn ⊢
  rw [h2]
  split at hn
  · rename_i ha
    rw [if_pos ha]
    obtain ⟨cs, e1, e2, e3⟩ := hn
    refine ⟨cs, e1, by rw [e2, h1], fun j x u hx hu => ?_⟩
    obtain ⟨y, hy, hxy⟩ := h5.2 j x hx
    exact hxy.rel hb hk hrow (e3 j y u hy hu)
  · rename_i ha
    rw [if_neg ha]
    exact V1.rel hb hk hrow hn ⟨ob, hv, ho⟩
end
end Go.Pe
