/- What the steps of the machine do to the relation: a value put into a slot, a draw, a new block, a store. No condition. -/
import Derived.Test.YtfecpjikhlangaaPeC
namespace Go.Pe

def St.put (s : St) (dst : Option Tmp) (p : PV) : St :=
  match dst with
  | some d => { s with fr := fun i => if i = d then p else s.fr i }
  | none => s

theorem Keeps.refl (w : World) (T : T2) : Keeps w T w T := fun _ _ _ h h' => ⟨h, h'⟩
theorem Ext.refl (ρ : Pls) : Ext ρ ρ := fun _ _ h => h

theorem SimAt.put {C : Ctx} {F : Nat → Prop} {ρ : Pls} {s : St} {a : Act} {w : World} (h : SimAt C F ρ s a w) {dst : Option Tmp} {v : Value} {p : PV}
    (hd : ∀ d, dst = some d → d < C.nt) (hv : p ≠ .undef → RV w (Tc C ρ s.hp) ρ v p) : SimAt C F ρ (s.put dst p) (a.put dst v) w := by
  cases dst with
  | none => exact h
  | some d =>
    refine ⟨h.defers, by simp [Act.put, h.size], fun i hi => ?_, h.heap, h.free, h.inn, h.frame, h.glob⟩
    simp only [St.put] at hi ⊢
    by_cases he : i = d
    · subst he
      have hlt := hd i rfl
      simp only [if_true] at hi ⊢
      refine ⟨hlt, ?_⟩
      have : (a.put (some i) v).tmps.getD i Go.undef = v := by
        have hs := h.size
        simp [Act.put, Array.getD, hs, hlt]
      rw [this]
      exact hv hi
    · simp only [he, if_false] at hi ⊢
      obtain ⟨h1, h2⟩ := h.fr i hi
      refine ⟨h1, ?_⟩
      have : (a.put (some d) v).tmps.getD i Go.undef = a.tmps.getD i Go.undef := by
        have hne : d ≠ i := fun e => he e.symm
        simp [Act.put, Array.getD_eq_getD_getElem?, Array.getElem?_setIfInBounds_ne hne]
      rw [this]
      exact h2

/-- A slot is forgotten. -/
theorem SimAt.forget {C : Ctx} {F : Nat → Prop} {ρ : Pls} {s : St} {a : Act} {w : World} (h : SimAt C F ρ s a w) (dst : Option Tmp) (v : Value) : SimAt C F ρ (s.put dst .undef) (a.put dst v) w := by
  cases dst with
  | none => exact h
  | some d =>
    refine ⟨h.defers, by simp [Act.put, h.size], fun i hi => ?_, h.heap, h.free, h.inn, h.frame, h.glob⟩
    simp only [St.put] at hi ⊢
    by_cases he : i = d
    · simp [he] at hi
    · simp only [he, if_false] at hi ⊢
      obtain ⟨h1, h2⟩ := h.fr i hi
      refine ⟨h1, ?_⟩
      have : (a.put (some d) v).tmps.getD i Go.undef = a.tmps.getD i Go.undef := by
        have hne : d ≠ i := fun e => he e.symm
        simp [Act.put, Array.getD_eq_getD_getElem?, Array.getElem?_setIfInBounds_ne hne]
      rw [this]
      exact h2

theorem RowRel.keep {w w' : World} {T T' : T2} {ρ ρ' : Pls} (hk : Keeps w T w' T') (he : Ext ρ ρ') {pl : Pl} {row : Row} (hb : w'.heap[pl.g]? = w.heap[pl.g]?) (h : RowRel w T ρ pl row) : RowRel w' T' ρ' pl row := by
  obtain ⟨cs, t, fz, h1, h2, h3, h4, h5, h6⟩ := h
  exact ⟨cs, t, fz, hb.trans h1, h2, h3, h4, h5, fun j q u hq hu => (h6 j q u hq hu).keep hk he⟩
theorem RowRel.lt {w : World} {T : T2} {ρ : Pls} {pl : Pl} {row : Row} (h : RowRel w T ρ pl row) : pl.g < w.heap.size := by
  obtain ⟨cs, t, fz, h1, _⟩ := h
  exact (Array.getElem?_eq_some_iff.1 h1).1

theorem SimAt.drew {C : Ctx} {F : Nat → Prop} {ρ : Pls} {s : St} {a : Act} {w : World} (h : SimAt C F ρ s a w) (n : Nat) : SimAt C F ρ s a { w with drawn := n } := by
  have hk : Keeps w (Tc C ρ s.hp) { w with drawn := n } (Tc C ρ s.hp) := fun _ _ _ h h' => ⟨h, h'⟩
  refine ⟨h.defers, h.size, fun i hi => ⟨(h.fr i hi).1, (h.fr i hi).2.keep hk (Ext.refl _)⟩, ⟨fun id row hr => ?_, h.heap.sep⟩, h.free, h.inn, h.frame.drew n, fun g c hg => ⟨(h.glob g c hg).1, (h.glob g c hg).2.1, (h.glob g c hg).2.2.keep hk⟩⟩
  obtain ⟨pl, h1, h2⟩ := h.heap.row id row hr
  exact ⟨pl, h1, h2.keep hk (Ext.refl _) rfl⟩

theorem alloc_old (w : World) (o : Obj) {b : Nat} (h : b < w.heap.size) : (w.alloc o).heap[b]? = w.heap[b]? := by
  show (w.heap.push o)[b]? = _
  rw [Array.getElem?_push, if_neg (by omega)]
theorem alloc_new (w : World) (o : Obj) : (w.alloc o).heap[w.heap.size]? = some o := by
  show (w.heap.push o)[w.heap.size]? = _
  rw [Array.getElem?_push, if_pos rfl]
/-- w' is w with one block more (and draws). -/
structure NewBlk (w w' : World) (cs : Array Value) (t : TypeId) (fz : Nat × Nat) : Prop where
  os : w'.os = w.os
  tape : w'.tape = w.tape
  output : w'.output = w.output
  size : w'.heap.size = w.heap.size + 1
  old : ∀ b, b < w.heap.size → w'.heap[b]? = w.heap[b]?
  new : w'.heap[w.heap.size]? = some (.cells cs t fz)
theorem NewBlk.alloc (w : World) (cs : Array Value) (t : TypeId) (fz : Nat × Nat) : NewBlk w (w.alloc (.cells cs t fz)) cs t fz :=
  ⟨rfl, rfl, rfl, by simp, fun b hb => alloc_old w _ hb, alloc_new w _⟩
theorem NewBlk.drew_alloc (w : World) (n : Nat) (cs : Array Value) (t : TypeId) (fz : Nat × Nat) : NewBlk w (World.alloc { w with drawn := n } (.cells cs t fz)) cs t fz :=
  ⟨rfl, rfl, rfl, by simp, fun b hb => alloc_old { w with drawn := n } _ hb, alloc_new { w with drawn := n } _⟩
theorem FR.newBlk {M : T2} {a w w' : World} {cs : Array Value} {t : TypeId} {fz : Nat × Nat} (h : FR M a w) (hn : NewBlk w w' cs t fz) : FR M a w' :=
  h.trans (M' := M) ⟨hn.os, hn.tape, hn.output, by rw [hn.size]; omega, fun b hb => .inl (hn.old b hb).symm⟩ fun _ _ _ h => h

theorem Keeps.newBlk {C : Ctx} {ρ : Pls} {hp : Hp} {w w' : World} {k : Nat} {row : Row} {pl : Pl} (hold : ∀ b, b < w.heap.size → w'.heap[b]? = w.heap[b]?) (hρ : ρ k = none) (hg : pl.g = w.heap.size) :
    Keeps w (Tc C ρ hp) w' (Tc C (upd ρ k (some pl)) (upd hp k (some row))) := by
  intro b x u hT hc
  have hlt := lt_of_cell? hc
  refine ⟨⟨hT.1, ?_⟩, ?_⟩
  · rintro ⟨id, r, p, h1, h2, h3, h4, h5⟩
    by_cases he : id = k
    · subst he
      rw [upd_same] at h3
      simp only [Option.some.injEq] at h3
      subst h3
      omega
    · rw [upd_ne _ _ he] at h1 h3
      exact hT.2 ⟨id, r, p, h1, h2, h3, h4, h5⟩
  · simp only [World.cell?, hold b hlt] at hc ⊢
    exact hc
theorem Ext.upd {ρ : Pls} {k : Nat} (pl : Pl) (h : ρ k = none) : Ext ρ (upd ρ k (some pl)) := fun id p hp => by
  by_cases he : id = k
  · subst he; rw [h] at hp; cases hp
  · rw [upd_ne _ _ he]; exact hp

/-- A NEW BLOCK, AND A NEW ROW THAT STANDS FOR IT. -/
theorem SimAt.newBlk {C : Ctx} {F : Nat → Prop} {ρ : Pls} {s : St} {a : Act} {w w' : World} (h : SimAt C F ρ s a w) {k : Nat} (hF : F k) {cs : Array Value} {t : TypeId} {fz : Nat × Nat} (hn : NewBlk w w' cs t fz) (c : PV)
    (hw : WF c) (hs : Pe.size c ≤ cs.size) (hfz : ∀ j, j < cs.size → (decide (fz.1 ≤ j) && decide (j < fz.2)) = false)
    (hl : ∀ (j : Nat) (q : PV) (u : Value), (flat c)[j]? = some q → cs[j]? = some u → RO w (Tc C ρ s.hp) ρ u q) :
    SimAt C (fun id => F id ∧ id ≠ k) (upd ρ k (some ⟨w.heap.size, 0, cs.size⟩)) { s with hp := upd s.hp k (some ⟨c, false⟩) } a w' := by
  obtain ⟨hρ, hh⟩ := h.free k hF
  have hk := Keeps.newBlk (C := C) (hp := s.hp) (row := ⟨c, false⟩) (pl := ⟨w.heap.size, 0, cs.size⟩) hn.old hρ rfl
  have he := Ext.upd ⟨w.heap.size, 0, cs.size⟩ hρ
  refine ⟨h.defers, h.size, fun i hi => ⟨(h.fr i hi).1, (h.fr i hi).2.keep hk he⟩, ⟨fun id row hr => ?_, fun id id' row row' pl pl' hne h1 h2 h3 h4 h5 h6 x x1 x2 x3 x4 => ?_⟩, fun id hid => ?_, fun id row pl h1 h3 j hj => ?_, h.frame.newBlk hn, fun g c hg => ⟨(h.glob g c hg).1, (h.glob g c hg).2.1, (h.glob g c hg).2.2.keep hk⟩⟩
  · dsimp only at hr ⊢
    by_cases hid : id = k
    · subst hid
      rw [upd_same] at hr ⊢
      simp only [Option.some.injEq] at hr
      subst hr
      refine ⟨_, rfl, cs, t, fz, hn.new, by simp, hs, hw, fun j hj => by simpa using hfz j hj, fun j q u hq hu => ?_⟩
      simp only [Nat.zero_add] at hu
      exact (hl j q u hq hu).keep hk he
    · rw [upd_ne _ _ hid] at hr ⊢
      obtain ⟨pl, h1, h2⟩ := h.heap.row id row hr
      exact ⟨pl, h1, h2.keep hk he (hn.old _ h2.lt)⟩
  · dsimp only at h1 h3
    by_cases e1 : id = k
    · subst e1
      have e2 : id' ≠ id := Ne.symm hne
      rw [upd_same] at h1 h4
      rw [upd_ne _ _ e2] at h3 h5
      simp only [Option.some.injEq] at h4
      subst h4
      obtain ⟨p, hp1, hp2⟩ := h.heap.row _ _ h3
      rw [h5] at hp1
      simp only [Option.some.injEq] at hp1
      subst hp1
      have := hp2.lt
      simp only at h6
      omega
    · rw [upd_ne _ _ e1] at h1 h4
      by_cases e2 : id' = k
      · subst e2
        rw [upd_same] at h3 h5
        simp only [Option.some.injEq] at h5
        subst h5
        obtain ⟨p, hp1, hp2⟩ := h.heap.row _ _ h1
        rw [h4] at hp1
        simp only [Option.some.injEq] at hp1
        subst hp1
        have := hp2.lt
        simp only at h6
        omega
      · rw [upd_ne _ _ e2] at h3 h5
        exact h.heap.sep id id' row row' pl pl' hne h1 h2 h3 h4 h5 h6 x x1 x2 x3 x4
  · obtain ⟨h1, h2⟩ := h.free id hid.1
    exact ⟨by rw [upd_ne _ _ hid.2]; exact h1, by show upd s.hp k _ id = none; rw [upd_ne _ _ hid.2]; exact h2⟩
  · by_cases hid : id = k
    · subst hid
      rw [upd_same] at h3
      simp only [Option.some.injEq] at h3
      subst h3
      exact .inl h.frame.size
    · have h1' : upd s.hp k (some ⟨c, false⟩) id = some row := h1
      rw [upd_ne _ _ hid] at h1' h3
      exact h.inn id row pl h1' h3 j hj

theorem SimAt.alloc {C : Ctx} {F : Nat → Prop} {ρ : Pls} {s : St} {a : Act} {w : World} (h : SimAt C F ρ s a w) {k : Nat} (hF : F k) (cs : Array Value) (t : TypeId) (fz : Nat × Nat) (c : PV)
    (hw : WF c) (hs : Pe.size c ≤ cs.size) (hfz : ∀ j, j < cs.size → (decide (fz.1 ≤ j) && decide (j < fz.2)) = false)
    (hl : ∀ (j : Nat) (q : PV) (u : Value), (flat c)[j]? = some q → cs[j]? = some u → RO w (Tc C ρ s.hp) ρ u q) :
    SimAt C (fun id => F id ∧ id ≠ k) (upd ρ k (some ⟨w.heap.size, 0, cs.size⟩)) { s with hp := upd s.hp k (some ⟨c, false⟩) } a (w.alloc (.cells cs t fz)) :=
  h.newBlk hF (NewBlk.alloc w cs t fz) c hw hs hfz hl

/- A STORE. -/
theorem setCells_heap (b : Nat) : ∀ (vs : List Value) (o : Nat) (w : World) (cs : Array Value) (t : TypeId) (fz : Nat × Nat), w.heap[b]? = some (.cells cs t fz) → o + vs.length ≤ cs.size →
    ∃ cs' : Array Value, (w.setCells b o vs).heap[b]? = some (.cells cs' t fz) ∧ cs'.size = cs.size ∧ (∀ j, j < vs.length → cs'[o + j]? = vs[j]?) ∧ (∀ j, j < o ∨ o + vs.length ≤ j → cs'[j]? = cs[j]?)
  | [], o, w, cs, t, fz, h, _ => ⟨cs, h, rfl, fun j hj => by simp at hj, fun _ _ => rfl⟩
  | v :: r, o, w, cs, t, fz, h, hl => by
    simp only [List.length_cons] at hl
    have h1 : (w.setCell ⟨b, o, none⟩ v).heap[b]? = some (.cells (cs.setIfInBounds o v) t fz) := by
      simp [World.setCell, Array.getElem?_modify, h]
    obtain ⟨cs', a1, a2, a3, a4⟩ := setCells_heap b r (o + 1) _ _ t fz h1 (by simp; omega)
    refine ⟨cs', a1, by simpa using a2, fun j hj => ?_, fun j hj => ?_⟩
    · cases j with
      | zero =>
        rw [Nat.add_zero, a4 o (by omega)]
        simp [show o < cs.size by omega]
      | succ j =>
        have := a3 j (by simpa using hj)
        rw [show o + (j + 1) = o + 1 + j by omega, this]
        simp
    · simp only [List.length_cons] at hj
      rw [a4 j (by omega), Array.getElem?_setIfInBounds_ne (by omega)]
theorem setCells_other (b : Nat) : ∀ (vs : List Value) (o : Nat) (w : World) (x : Nat), x ≠ b → (w.setCells b o vs).heap[x]? = w.heap[x]?
  | [], _, _, _, _ => rfl
  | v :: r, o, w, x, h => by
    rw [World.setCells, setCells_other b r _ _ x h]
    simp only [World.setCell, Array.getElem?_modify]
    rw [if_neg (by omega)]
theorem setCells_size (b : Nat) : ∀ (vs : List Value) (o : Nat) (w : World), (w.setCells b o vs).heap.size = w.heap.size
  | [], _, _ => rfl
  | v :: r, o, w => by rw [World.setCells, setCells_size b r]; simp [World.setCell]
theorem setCells_rest (b : Nat) : ∀ (vs : List Value) (o : Nat) (w : World), (w.setCells b o vs).os = w.os ∧ (w.setCells b o vs).tape = w.tape ∧ (w.setCells b o vs).output = w.output
  | [], _, _ => ⟨rfl, rfl, rfl⟩
  | v :: r, o, w => by rw [World.setCells]; exact setCells_rest b r _ _

theorem FR.setCells {M : T2} {a w : World} (h : FR M a w) {b o : Nat} {vs : List Value} {cs : Array Value} {t : TypeId} {fz : Nat × Nat} (hb : w.heap[b]? = some (.cells cs t fz)) (hl : o + vs.length ≤ cs.size)
    (hm : ∀ j, j < vs.length → a.heap.size ≤ b ∨ M b (o + j)) : FR M a (w.setCells b o vs) := by
  obtain ⟨cs', a1, a2, a3, a4⟩ := setCells_heap b vs o w cs t fz hb hl
  obtain ⟨r1, r2, r3⟩ := setCells_rest b vs o w
  refine h.trans (M' := fun x y => x = b ∧ o ≤ y ∧ y < o + vs.length) ⟨r1, r2, r3, by rw [setCells_size]; exact Nat.le_refl _, fun x _ => ?_⟩ ?_
  · by_cases hx : x = b
    · subst hx
      refine .inr ⟨cs, cs', t, fz, hb, a1, a2, fun y hy => a4 y ?_⟩
      have : ¬ (o ≤ y ∧ y < o + vs.length) := fun hh => hy ⟨rfl, hh⟩
      omega
    · exact .inl (setCells_other b vs o w x hx).symm
  · rintro x y hx ⟨rfl, h1, h2⟩
    rcases hm (y - o) (by omega) with h | h
    · omega
    · rwa [show o + (y - o) = y by omega] at h

/-- CELLS OF A ROW ARE WRITTEN: from o on; what the row says turns with them. -/
theorem SimAt.write {C : Ctx} {F : Nat → Prop} {ρ : Pls} {s : St} {a : Act} {w : World} (h : SimAt C F ρ s a w) {id : Nat} {row : Row} {pl : Pl} (hr : s.hp id = some row) (hf : row.frz = false) (hρ : ρ id = some pl)
    {c' : PV} {o : Nat} (vs : List Value) (hw' : WF c') (hs' : Pe.size c' ≤ pl.ext) (hle : o + vs.length ≤ pl.ext)
    (hl : ∀ (j : Nat) (q : PV) (u : Value), (flat c')[o + j]? = some q → vs[j]? = some u → RO w (Tc C ρ s.hp) ρ u q)
    (hold : ∀ (j : Nat) (q : PV), j < o ∨ o + vs.length ≤ j → (flat c')[j]? = some q → (flat row.c)[j]? = some q) :
    SimAt C F ρ { s with hp := upd s.hp id (some ⟨c', false⟩) } a (w.setCells pl.g (pl.off + o) vs) := by
  obtain ⟨p0, hp0, hrel⟩ := h.heap.row id row hr
  rw [hρ] at hp0
  simp only [Option.some.injEq] at hp0
  subst hp0
  obtain ⟨cs, t, fz, g1, g2, g3, g4, g5, g6⟩ := hrel
  obtain ⟨cs', a1, a2, a3, a4⟩ := setCells_heap pl.g vs (pl.off + o) w cs t fz g1 (by omega)
  have hMut : ∀ b x, Mut ρ (upd s.hp id (some ⟨c', false⟩)) b x ↔ Mut ρ s.hp b x := by
    intro b x
    constructor
    · rintro ⟨i, r, p, h1, h2, h3⟩
      by_cases he : i = id
      · subst he; exact ⟨i, row, p, hr, hf, h3⟩
      · rw [upd_ne _ _ he] at h1; exact ⟨i, r, p, h1, h2, h3⟩
    · rintro ⟨i, r, p, h1, h2, h3⟩
      by_cases he : i = id
      · subst he; exact ⟨i, ⟨c', false⟩, p, upd_same _ _ _, rfl, h3⟩
      · exact ⟨i, r, p, by rw [upd_ne _ _ he]; exact h1, h2, h3⟩
  have hT : Tc C ρ (upd s.hp id (some ⟨c', false⟩)) = Tc C ρ s.hp := by
    funext b x
    simp only [Tc, hMut]
  have hcell : ∀ b x, ¬ (b = pl.g ∧ pl.off + o ≤ x ∧ x < pl.off + o + vs.length) → (w.setCells pl.g (pl.off + o) vs).cell? ⟨b, x, none⟩ = w.cell? ⟨b, x, none⟩ := by
    intro b x hn
    by_cases hb : b = pl.g
    · subst hb
      rw [cell?_of_heap a1, cell?_of_heap g1]
      refine a4 x ?_
      have : ¬ (pl.off + o ≤ x ∧ x < pl.off + o + vs.length) := fun hh => hn ⟨rfl, hh⟩
      omega
    · simp only [World.cell?, setCells_other _ _ _ _ _ hb]
  have hk : Keeps w (Tc C ρ s.hp) (w.setCells pl.g (pl.off + o) vs) (Tc C ρ (upd s.hp id (some ⟨c', false⟩))) := by
    intro b x u hTb hc
    rw [hT]
    refine ⟨hTb, ?_⟩
    rw [hcell b x, hc]
    rintro ⟨rfl, h1, h2⟩
    exact hTb.2 ⟨id, row, pl, hr, hf, hρ, rfl, by omega, by omega⟩
  refine ⟨h.defers, h.size, fun i hi => ⟨(h.fr i hi).1, (h.fr i hi).2.keep hk (Ext.refl _)⟩, ⟨fun i r hri => ?_, fun i i' r r' p p' hne h1 h2 h3 h4 h5 h6 => ?_⟩, fun i hi => ?_, fun i r p h1 h3 j hj => ?_, ?_, fun g c hg => ⟨(h.glob g c hg).1, (h.glob g c hg).2.1, (h.glob g c hg).2.2.keep hk⟩⟩
  · by_cases he : i = id
    · subst he
      have hri' : upd s.hp i (some ⟨c', false⟩) i = some r := hri
      rw [upd_same] at hri'
      simp only [Option.some.injEq] at hri'
      subst hri'
      refine ⟨pl, hρ, cs', t, fz, a1, by omega, hs', hw', g5, fun j q u hq hu => ?_⟩
      simp only at hq
      by_cases hj : j < o ∨ o + vs.length ≤ j
      · rw [a4 _ (by omega)] at hu
        exact (g6 j q u (hold j q hj hq) hu).keep hk (Ext.refl _)
      · obtain ⟨j', rfl⟩ : ∃ j', j = o + j' := ⟨j - o, by omega⟩
        rw [← Nat.add_assoc, a3 j' (by omega)] at hu
        exact (hl j' q u hq hu).keep hk (Ext.refl _)
    · have hri' : upd s.hp id (some ⟨c', false⟩) i = some r := hri
      rw [upd_ne _ _ he] at hri'
      obtain ⟨p, h1, cs2, t2, fz2, b1, b2, b3, b4, b5, b6⟩ := h.heap.row i r hri'
      by_cases hg : p.g = pl.g
      · rw [hg, g1] at b1
        simp only [Option.some.injEq, Obj.cells.injEq] at b1
        obtain ⟨rfl, rfl, rfl⟩ := b1
        have hsep := h.heap.sep id i row r pl p (Ne.symm he) hr hf hri' hρ h1 hg.symm
        refine ⟨p, h1, cs', t, fz, by rw [hg]; exact a1, by omega, b3, b4, b5, fun j q u hq hu => ?_⟩
        have hjlt : j < p.ext := by
          have := (List.getElem?_eq_some_iff.1 hq).1
          rw [flat_length _ b4] at this
          omega
        rw [a4 _ (by
          by_cases hin : pl.off + o ≤ p.off + j ∧ p.off + j < pl.off + o + vs.length
          · exact (hsep (p.off + j) (by omega) (by omega) (by omega) (by omega)).elim
          · omega)] at hu
        exact (b6 j q u hq hu).keep hk (Ext.refl _)
      · exact ⟨p, h1, RowRel.keep hk (Ext.refl _) (setCells_other _ _ _ _ _ hg) ⟨cs2, t2, fz2, b1, b2, b3, b4, b5, b6⟩⟩
  · have f1 : ∃ r0, s.hp i = some r0 ∧ r0.frz = false := by
      by_cases he : i = id
      · subst he; exact ⟨row, hr, hf⟩
      · have h1' : upd s.hp id (some ⟨c', false⟩) i = some r := h1
        rw [upd_ne _ _ he] at h1'
        exact ⟨r, h1', h2⟩
    have f2 : ∃ r0, s.hp i' = some r0 := by
      by_cases he : i' = id
      · subst he; exact ⟨row, hr⟩
      · have h3' : upd s.hp id (some ⟨c', false⟩) i' = some r' := h3
        rw [upd_ne _ _ he] at h3'
        exact ⟨r', h3'⟩
    obtain ⟨r0, e0, e1⟩ := f1
    obtain ⟨r2, e2⟩ := f2
    exact h.heap.sep i i' r0 r2 p p' hne e0 e1 e2 h4 h5 h6
  · obtain ⟨h1, h2⟩ := h.free i hi
    have he : i ≠ id := fun e => by subst e; rw [h2] at hr; cases hr
    exact ⟨h1, by show upd s.hp id _ i = none; rw [upd_ne _ _ he]; exact h2⟩
  · by_cases he : i = id
    · subst he; exact h.inn i row p hr h3 j hj
    · have h1' : upd s.hp id (some ⟨c', false⟩) i = some r := h1
      rw [upd_ne _ _ he] at h1'
      exact h.inn i r p h1' h3 j hj
  · refine h.frame.setCells g1 (by omega) fun j hj => ?_
    have := h.inn id row pl hr hρ (o + j) (by omega)
    rwa [← Nat.add_assoc] at this
/-- A STORE INTO A ROW: what lies at o of row id is turned. -/
theorem SimAt.store {C : Ctx} {F : Nat → Prop} {ρ : Pls} {s : St} {a : Act} {w : World} (h : SimAt C F ρ s a w) {id : Nat} {row : Row} {pl : Pl} (hr : s.hp id = some row) (hf : row.frz = false) (hρ : ρ id = some pl)
    {v c' : PV} {o : Nat} (hset : SetAt v row.c c' o) (vs : List Value) (hvs : vs.length = Pe.size v)
    (hl : ∀ (j : Nat) (q : PV) (u : Value), (flat v)[j]? = some q → vs[j]? = some u → RO w (Tc C ρ s.hp) ρ u q) :
    SimAt C F ρ { s with hp := upd s.hp id (some ⟨c', false⟩) } a (w.setCells pl.g (pl.off + o) vs) := by
  obtain ⟨hw', hs', hle, hin, hout, _⟩ := hset
  obtain ⟨p0, hp0, hrel⟩ := h.heap.row id row hr
  rw [hρ] at hp0
  simp only [Option.some.injEq] at hp0
  subst hp0
  obtain ⟨cs, t, fz, g1, g2, g3, g4, g5, g6⟩ := hrel
  refine h.write hr hf hρ vs hw' (by omega) (by omega) (fun j q u hq hu => ?_) (fun j q hj hq => ?_)
  · have hjv : j < Pe.size v := by
      have := (List.getElem?_eq_some_iff.1 hu).1
      omega
    rw [hin j hjv] at hq
    exact hl j q u hq hu
  · rw [hout j (by omega)] at hq
    exact hq

/-- A ROW TAKES ANOTHER NAME, AND IS SEEN FROM A LATER CELL ON. -/
theorem SimAt.rename {C : Ctx} {F : Nat → Prop} {ρ : Pls} {s : St} {a : Act} {w : World} (h : SimAt C F ρ s a w) {id k : Nat} {row : Row} {pl : Pl} (hr : s.hp id = some row) (hf : row.frz = false) (hρ : ρ id = some pl) (hF : F k)
    {c' : PV} {o ext : Nat} (hw' : WF c') (hs' : Pe.size c' ≤ ext) (hle : o + ext ≤ pl.ext)
    (hold : ∀ (j : Nat) (q : PV), (flat c')[j]? = some q → (flat row.c)[o + j]? = some q) :
    SimAt C (fun i => F i ∧ i ≠ k) (upd ρ k (some ⟨pl.g, pl.off + o, ext⟩)) { s with hp := upd (upd s.hp id none) k (some ⟨c', false⟩) } a w ∧
      Keeps w (Tc C ρ s.hp) w (Tc C (upd ρ k (some ⟨pl.g, pl.off + o, ext⟩)) (upd (upd s.hp id none) k (some ⟨c', false⟩))) ∧ Ext ρ (upd ρ k (some ⟨pl.g, pl.off + o, ext⟩)) := by
  obtain ⟨hρk, hhk⟩ := h.free k hF
  have hne : id ≠ k := fun e => by subst e; rw [hhk] at hr; cases hr
  obtain ⟨p0, hp0, hrel⟩ := h.heap.row id row hr
  rw [hρ] at hp0
  simp only [Option.some.injEq] at hp0
  subst hp0
  obtain ⟨cs, t, fz, g1, g2, g3, g4, g5, g6⟩ := hrel
  have hMut : ∀ b x, Mut (upd ρ k (some ⟨pl.g, pl.off + o, ext⟩)) (upd (upd s.hp id none) k (some ⟨c', false⟩)) b x → Mut ρ s.hp b x := by
    rintro b x ⟨i, r, p, h1, h2, h3, h4, h5, h6⟩
    by_cases e1 : i = k
    · subst e1
      rw [upd_same] at h3
      simp only [Option.some.injEq] at h3
      subst h3
      exact ⟨id, row, pl, hr, hf, hρ, h4, by simp only at h5; omega, by simp only at h6; omega⟩
    · rw [upd_ne _ _ e1] at h1 h3
      by_cases e2 : i = id
      · subst e2; rw [upd_same] at h1; cases h1
      · rw [upd_ne _ _ e2] at h1
        exact ⟨i, r, p, h1, h2, h3, h4, h5, h6⟩
  have hk : Keeps w (Tc C ρ s.hp) w (Tc C (upd ρ k (some ⟨pl.g, pl.off + o, ext⟩)) (upd (upd s.hp id none) k (some ⟨c', false⟩))) :=
    fun b x u hT hc => ⟨⟨hT.1, fun hm => hT.2 (hMut b x hm)⟩, hc⟩
  have he := Ext.upd ⟨pl.g, pl.off + o, ext⟩ hρk
  have hrow : ∀ i r, upd (upd s.hp id none) k (some ⟨c', false⟩) i = some r → i ≠ k → i ≠ id ∧ s.hp i = some r := by
    intro i r h1 h2
    rw [upd_ne _ _ h2] at h1
    have e2 : i ≠ id := fun e => by subst e; rw [upd_same] at h1; cases h1
    rw [upd_ne _ _ e2] at h1
    exact ⟨e2, h1⟩
  refine ⟨?_, hk, he⟩
  refine ⟨h.defers, h.size, fun i hi => ⟨(h.fr i hi).1, (h.fr i hi).2.keep hk he⟩, ⟨fun i r hri => ?_, fun i i' r r' p p' hne' h1 h2 h3 h4 h5 h6 => ?_⟩, fun i hi => ?_, fun i r p h1 h3 j hj => ?_, h.frame, fun g c hg => ⟨(h.glob g c hg).1, (h.glob g c hg).2.1, (h.glob g c hg).2.2.keep hk⟩⟩
  · by_cases e1 : i = k
    · subst e1
      have hri' : upd (upd s.hp id none) i (some ⟨c', false⟩) i = some r := hri
      rw [upd_same] at hri'
      simp only [Option.some.injEq] at hri'
      subst hri'
      refine ⟨_, upd_same _ _ _, cs, t, fz, g1, by simp only; omega, hs', hw', fun j hj => ?_, fun j q u hq hu => ?_⟩
      · have := g5 (o + j) (by simp only at hj; omega)
        simp only
        rwa [Nat.add_assoc]
      · simp only at hu hq
        rw [Nat.add_assoc] at hu
        exact (g6 (o + j) q u (hold j q hq) hu).keep hk he
    · obtain ⟨e2, hri'⟩ := hrow i r hri e1
      obtain ⟨p, h1, h2⟩ := h.heap.row i r hri'
      exact ⟨p, by rw [upd_ne _ _ e1]; exact h1, h2.keep hk he rfl⟩
  · by_cases e1 : i = k
    · subst e1
      obtain ⟨e2, h3'⟩ := hrow i' r' h3 (Ne.symm hne')
      rw [upd_same] at h4
      rw [upd_ne _ _ (Ne.symm hne')] at h5
      simp only [Option.some.injEq] at h4
      subst h4
      intro x x1 x2 x3 x4
      simp only at x1 x2
      exact h.heap.sep id i' row r' pl p' (Ne.symm e2) hr hf h3' hρ h5 h6 x (by omega) (by omega) x3 x4
    · obtain ⟨e2, h1'⟩ := hrow i r h1 e1
      rw [upd_ne _ _ e1] at h4
      by_cases e3 : i' = k
      · subst e3
        rw [upd_same] at h5
        simp only [Option.some.injEq] at h5
        subst h5
        intro x x1 x2 x3 x4
        simp only at x3 x4
        exact h.heap.sep i id r row p pl e2 h1' h2 hr h4 hρ h6 x x1 x2 (by omega) (by omega)
      · obtain ⟨e4, h3'⟩ := hrow i' r' h3 e3
        rw [upd_ne _ _ e3] at h5
        exact h.heap.sep i i' r r' p p' hne' h1' h2 h3' h4 h5 h6
  · obtain ⟨h1, h2⟩ := h.free i hi.1
    have e2 : i ≠ id := fun e => by subst e; rw [h2] at hr; cases hr
    exact ⟨by rw [upd_ne _ _ hi.2]; exact h1, by show upd (upd s.hp id none) k _ i = none; rw [upd_ne _ _ hi.2, upd_ne _ _ e2]; exact h2⟩
  · by_cases e1 : i = k
    · subst e1
      rw [upd_same] at h3
      simp only [Option.some.injEq] at h3
      subst h3
      have := h.inn id row pl hr hρ (o + j) (by simp only at hj; omega)
      simp only
      rwa [Nat.add_assoc]
    · obtain ⟨e2, h1'⟩ := hrow i r h1 e1
      rw [upd_ne _ _ e1] at h3
      exact h.inn i r p h1' h3 j hj

/-- A ROW IS GIVEN UP: nothing says any more what its cells hold. -/
theorem SimAt.kill {C : Ctx} {F : Nat → Prop} {ρ : Pls} {s : St} {a : Act} {w : World} (h : SimAt C F ρ s a w) (id : Nat) :
    SimAt C F ρ { s with hp := upd s.hp id none } a w ∧ Keeps w (Tc C ρ s.hp) w (Tc C ρ (upd s.hp id none)) := by
  have hrow : ∀ i r, upd s.hp id none i = some r → s.hp i = some r := by
    intro i r h1
    by_cases e : i = id
    · subst e; rw [upd_same] at h1; cases h1
    · rwa [upd_ne _ _ e] at h1
  have hk : Keeps w (Tc C ρ s.hp) w (Tc C ρ (upd s.hp id none)) := fun b x u hT hc => ⟨⟨hT.1, fun ⟨i, r, p, h1, h2⟩ => hT.2 ⟨i, r, p, hrow i r h1, h2⟩⟩, hc⟩
  refine ⟨⟨h.defers, h.size, fun i hi => ⟨(h.fr i hi).1, (h.fr i hi).2.keep hk (Ext.refl _)⟩, ⟨fun i r hri => ?_, fun i i' r r' p p' hne h1 h2 h3 h4 h5 h6 => ?_⟩, fun i hi => ?_, fun i r p h1 h3 => h.inn i r p (hrow i r h1) h3, h.frame,
    fun g c hg => ⟨(h.glob g c hg).1, (h.glob g c hg).2.1, (h.glob g c hg).2.2.keep hk⟩⟩, hk⟩
  · obtain ⟨p, h1, h2⟩ := h.heap.row i r (hrow i r hri)
    exact ⟨p, h1, h2.keep hk (Ext.refl _) rfl⟩
  · exact h.heap.sep i i' r r' p p' hne (hrow i r h1) h2 (hrow i' r' h3) h4 h5 h6
  · obtain ⟨h1, h2⟩ := h.free i hi
    refine ⟨h1, ?_⟩
    show upd s.hp id none i = none
    by_cases e : i = id
    · subst e; rw [upd_same]
    · rw [upd_ne _ _ e]; exact h2
theorem upd_upd {α : Type} (f : Nat → Option α) (i : Nat) (x y : Option α) : upd (upd f i x) i y = upd f i y := by
  funext j
  by_cases e : j = i
  · subst e; rw [upd_same, upd_same]
  · rw [upd_ne _ _ e, upd_ne _ _ e, upd_ne _ _ e]
end Go.Pe
