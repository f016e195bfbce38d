/- A plain state told in other words: rows renamed, given up, frozen; slots forgotten. No condition. -/
import Derived.Test.YtfecpjikhlangaaPeV
namespace Go.Pe

def AllC : List Prop → Prop
  | [] => True
  | [p] => p
  | p :: q :: l => p ∧ AllC (q :: l)
theorem ao {p : Prop} (h : p) : AllC [p] := h
theorem ac {p q : Prop} {l : List Prop} (h : p) (h' : AllC (q :: l)) : AllC (p :: q :: l) := ⟨h, h'⟩
theorem AllC.all : ∀ {l : List Prop}, AllC l → All l
  | [], _ => All.nil
  | [_], h => All.cons h All.nil
  | _ :: _ :: _, h => All.cons h.1 (AllC.all h.2)

/- What the words must mean. -/
def castFr (b : List (Nat × Nat)) (src : DS) : List (Nat × PV) → Option (List Prop)
  | [] => some []
  | x :: l => if isUndef x.2 then castFr b src l else match viewV (lookR b) (lookR src.hp) (getF src.fr x.1), castFr b src l with
    | some q, some m => if untup (getF src.fr x.1) && !isUndef (getF src.fr x.1) then some (q.2 ++ (q.1 = x.2) :: m) else none
    | _, _ => none
def castHp (b : List (Nat × Nat)) (src : DS) : List (Nat × Row) → Option (List Prop)
  | [] => some []
  | x :: l => match lookR (swapL b) x.1 with
    | some i => (match lookR src.hp i with
      | some r => (match ren (lookR b) r.c, castHp b src l with
        | some c, some m => if Nat.blt x.1 64 && (x.2.frz || !r.frz) then some ((c = x.2.c) :: m) else none
        | _, _ => none)
      | none => none)
    | none => none
def castB (b : List (Nat × Nat)) (pins : List Nat) (src tgt : DS) : Option (List Prop) :=
  if nodupB (keys b) && nodupB (keys (swapL b)) && pins.all (fun i => match lookR b i with
      | some j => Nat.beq i j
      | none => false) && (keys (swapL b)).all (fun j => Nat.blt j 64) then (match castFr b src tgt.fr, castHp b src tgt.hp with
    | some m, some m' => some (m ++ m')
    | _, _ => none) else none

theorem castFr_spec {b : List (Nat × Nat)} {src : DS} : ∀ {l : List (Nat × PV)} {m : List Prop}, castFr b src l = some m → All m → ∀ i p, (i, p) ∈ l → p ≠ .undef →
    ∃ ob, viewV (lookR b) (lookR src.hp) (getF src.fr i) = some (p, ob) ∧ All ob ∧ untup (getF src.fr i) = true ∧ getF src.fr i ≠ .undef
  | [], _, _, _, i, p, hi, _ => by cases hi
  | x :: l, m, h, ho, i, p, hi, hp => by
    simp only [castFr] at h
    split at h
    · rename_i hu
      rcases List.mem_cons.1 hi with rfl | hi
      · exfalso
        cases p <;> simp only [isUndef, reduceCtorEq] at hu
        exact hp rfl
      · exact castFr_spec h ho i p hi hp
    · split at h
      · rename_i q m' hq hm
        split at h
        · rename_i hc
          simp only [Bool.and_eq_true, Bool.not_eq_true'] at hc
          simp only [Option.some.injEq] at h
          subst h
          rcases List.mem_cons.1 hi with rfl | hi
          · have he : q.1 = p := ho.right.head
            exact ⟨q.2, by rw [← he]; exact hq, ho.left, hc.1, fun e => by simp [e, isUndef] at hc⟩
          · exact castFr_spec hm ho.right.tail i p hi hp
        · cases h
      · cases h
theorem castHp_spec {b : List (Nat × Nat)} {src : DS} : ∀ {l : List (Nat × Row)} {m : List Prop}, castHp b src l = some m → All m → ∀ j r', (j, r') ∈ l →
    ∃ i r, lookR (swapL b) j = some i ∧ lookR src.hp i = some r ∧ ren (lookR b) r.c = some r'.c ∧ j < 64 ∧ (r'.frz = false → r.frz = false)
  | [], _, _, _, i, p, hi => by cases hi
  | x :: l, m, h, ho, j, r', hi => by
    simp only [castHp] at h
    split at h
    · rename_i i hx
      split at h
      · rename_i r hr
        split at h
        · rename_i c m' hc hm
          split at h
          · rename_i hcond
            simp only [Bool.and_eq_true, Bool.or_eq_true, Bool.not_eq_true'] at hcond
            simp only [Option.some.injEq] at h
            subst h
            rcases List.mem_cons.1 hi with rfl | hi
            · have he : c = r'.c := ho.head
              refine ⟨i, r, hx, hr, by rw [← he]; exact hc, Nat.blt_eq ▸ hcond.1, fun e => ?_⟩
              rcases hcond.2 with h' | h'
              · rw [e] at h'; cases h'
              · exact h'
            · exact castHp_spec hm ho.tail j r' hi
          · cases h
        · cases h
      · cases h
    · cases h

section
variable {C : Ctx} {F : Nat → Prop} {ρ : Pls} {src tgt : DS} {a : Act} {w : World}

def castPls (b : List (Nat × Nat)) (ρ : Pls) : Pls := fun j => (lookR (swapL b) j).bind ρ

structure CastOk (b : List (Nat × Nat)) (pins : List Nat) : Prop where
  k1 : nodupB (keys b) = true
  k2 : nodupB (keys (swapL b)) = true
  pin : ∀ i ∈ pins, lookR b i = some i
  lt : ∀ j i, lookR (swapL b) j = some i → j < 64

theorem castB_spec {b : List (Nat × Nat)} {pins : List Nat} {ob : List Prop} (h : castB b pins src tgt = some ob) (ho : All ob) : CastOk b pins ∧ (∃ m, castFr b src tgt.fr = some m ∧ All m) ∧ ∃ m, castHp b src tgt.hp = some m ∧ All m := by
  unfold castB at h
  split at h
  · rename_i hc
    simp only [Bool.and_eq_true, List.all_eq_true] at hc
    obtain ⟨⟨⟨h1, h2⟩, h3⟩, h4⟩ := hc
    split at h
    · rename_i m m' hm hm'
      simp only [Option.some.injEq] at h
      subst h
      refine ⟨⟨h1, h2, fun i hi => ?_, fun j i hj => Nat.blt_eq ▸ h4 j (keys_mem (lookR_mem hj))⟩, ⟨m, hm, ho.left⟩, m', hm', ho.right⟩
      have := h3 i hi
      split at this
      · rename_i j hj
        rw [hj, Nat.eq_of_beq_eq_true this]
      · cases this
    · cases h
  · cases h

/-- What is turned by nobody stays so under the new words. -/
structure Casts (C : Ctx) (b : List (Nat × Nat)) (ρ : Pls) (src : St) (tgt : Hp) (w : World) : Prop where
  ren : RenOk (lookR b) ρ (castPls b ρ)
  keep : Keeps w (Tc C ρ src.hp) w (Tc C (castPls b ρ) tgt)
  view : ∀ i r, lookR b i = none → src.hp i = some r → ∃ pl, ρ i = some pl ∧ RowRel w (Tc C ρ src.hp) ρ pl r ∧ ∀ x, pl.off ≤ x → x < pl.off + pl.ext → Tc C (castPls b ρ) tgt pl.g x

theorem casts_of (h : SimAt C F ρ src.st a w) {b : List (Nat × Nat)} {pins : List Nat} (hk : CastOk b pins) {hp : List (Nat × Row)} {m : List Prop} (hm : castHp b src hp = some m) (ho : All m) :
    Casts C b ρ src.st (lookR hp) w ∧ HR w (Tc C (castPls b ρ) (lookR hp)) (castPls b ρ) (lookR hp) ∧ (∀ id row pl, lookR hp id = some row → castPls b ρ id = some pl → ∀ j, j < pl.ext → C.w0.heap.size ≤ pl.g ∨ C.M0 pl.g (pl.off + j)) := by
  have hrow : ∀ j r', lookR hp j = some r' → ∃ i r, lookR (swapL b) j = some i ∧ lookR b i = some j ∧ src.st.hp i = some r ∧ ren (lookR b) r.c = some r'.c ∧ (r'.frz = false → r.frz = false) := by
    intro j r' hj
    obtain ⟨i, r, g1, g2, g3, _, g5⟩ := castHp_spec hm ho j r' (lookR_mem hj)
    exact ⟨i, r, g1, lookR_of hk.k1 (swapL_mem.1 (lookR_mem g1)), g2, g3, g5⟩
  have hmut : ∀ b' o, Mut (castPls b ρ) (lookR hp) b' o → ∃ i j r pl, lookR b i = some j ∧ src.st.hp i = some r ∧ r.frz = false ∧ ρ i = some pl ∧ pl.g = b' ∧ pl.off ≤ o ∧ o < pl.off + pl.ext := by
    rintro b' o ⟨j, r', pl, h1, h2, h3, h4, h5, h6⟩
    obtain ⟨i, r, g1, g2, g3, g4, g5⟩ := hrow j r' h1
    simp only [castPls, g1, Option.bind_some] at h3
    exact ⟨i, j, r, pl, g2, g3, g5 h2, h3, h4, h5, h6⟩
  have hkeep : Keeps w (Tc C ρ src.st.hp) w (Tc C (castPls b ρ) (lookR hp)) := by
    intro b' o u hT hc
    refine ⟨⟨hT.1, fun hm' => hT.2 ?_⟩, hc⟩
    obtain ⟨i, j, r, pl, g1, g2, g3, g4, g5⟩ := hmut b' o hm'
    exact ⟨i, r, pl, g2, g3, g4, g5⟩
  have hren : RenOk (lookR b) ρ (castPls b ρ) := by
    intro i j pl h1 h2
    have : lookR (swapL b) j = some i := lookR_of hk.k2 (swapL_mem.2 (lookR_mem h1))
    simp only [castPls, this, Option.bind_some, h2]
  refine ⟨⟨hren, hkeep, fun i r hi hr => ?_⟩, ⟨fun j r' hj => ?_, fun j j' r r' pl pl' hne h1 h2 h3 h4 h5 h6 x x1 x2 x3 x4 => ?_⟩, fun j r' pl h1 h3 x hx => ?_⟩
  · obtain ⟨pl, p1, p2⟩ := h.heap.row i r hr
    refine ⟨pl, p1, p2, fun x x1 x2 => ⟨?_, fun hm' => ?_⟩⟩
    · have := h.inn i r pl hr p1 (x - pl.off) (by omega)
      rw [show pl.off + (x - pl.off) = x by omega] at this
      rcases this with e | e
      · exact .inr (.inr e)
      · exact .inr (.inl e)
    · obtain ⟨i', j', r', pl', g1, g2, g3, g4, g5, g6, g7⟩ := hmut _ _ hm'
      have hne : i' ≠ i := fun e => by subst e; rw [hi] at g1; cases g1
      exact h.heap.sep i' i r' r pl' pl hne g2 g3 hr g4 p1 g5 x g6 g7 x1 x2
  · obtain ⟨i, r, g1, g2, g3, g4, g5⟩ := hrow j r' hj
    obtain ⟨pl, p1, p2⟩ := h.heap.row i r g3
    refine ⟨pl, by simp only [castPls, g1, Option.bind_some, p1], ?_⟩
    have h1 : RowRel w (Tc C (castPls b ρ) (lookR hp)) ρ pl ⟨r.c, r.frz⟩ := RowRel.keep hkeep (Ext.refl _) rfl p2
    exact RowRel.ren (f' := r'.frz) hren h1 g4
  · obtain ⟨i, s, g1, g2, g3, g4, g5⟩ := hrow j r h1
    obtain ⟨i', s', g1', g2', g3', g4', g5'⟩ := hrow j' r' h3
    simp only [castPls, g1, g1', Option.bind_some] at h4 h5
    have hii : i ≠ i' := fun e => by
      subst e
      rw [g2] at g2'
      simp only [Option.some.injEq] at g2'
      exact hne g2'
    exact h.heap.sep i i' s s' pl pl' hii g3 (g5 h2) g3' h4 h5 h6 x x1 x2 x3 x4
  · obtain ⟨i, r, g1, g2, g3, g4, g5⟩ := hrow j r' h1
    simp only [castPls, g1, Option.bind_some] at h3
    exact h.inn i r pl g3 h3 x hx

theorem Casts.rv {b : List (Nat × Nat)} {tgt : Hp} (hc : Casts C b ρ src.st tgt w) (h : SimAt C F ρ src.st a w) {v : Value} {p q : PV} {ob : List Prop} (hu : untup p = true) (hr : RV w (Tc C ρ src.st.hp) ρ v p) (hv : viewV (lookR b) (lookR src.hp) p = some (q, ob)) (ho : All ob) :
    RV w (Tc C (castPls b ρ) tgt) (castPls b ρ) v q :=
  view_rel hc.ren hc.keep (fun i r hi hr => hc.view i r hi hr) (fun i r hr => by
    obtain ⟨pl, _, cs, t', fz, _, _, _, hwf, _⟩ := h.heap.row i r hr
    exact hwf) hu hr hv ho

/-- THE SAME STATE IN OTHER WORDS. -/
theorem SimAt.cast (h : SimAt C F ρ src.st a w) {b : List (Nat × Nat)} {pins : List Nat} {ob : List Prop} (hb : castB b pins src tgt = some ob) (ho : All ob) :
    SimAt C (fun id => 64 ≤ id) (castPls b ρ) tgt.st a w ∧ ∀ i ∈ pins, castPls b ρ i = ρ i := by
  obtain ⟨hk, ⟨m, hm, hmo⟩, m', hm', hmo'⟩ := castB_spec hb ho
  obtain ⟨hc, hhr, hinn⟩ := casts_of h hk hm' hmo'
  refine ⟨⟨h.defers, h.size, fun t ht => ?_, hhr, fun j hj => ⟨?_, ?_⟩, hinn, h.frame, fun g c hg => ⟨(h.glob g c hg).1, (h.glob g c hg).2.1, (h.glob g c hg).2.2.keep hc.keep⟩⟩, fun i hi => ?_⟩
  · have hp : (t, getF tgt.fr t) ∈ tgt.fr := by
      show (t, getF tgt.fr t) ∈ tgt.fr
      have ht' : getF tgt.fr t ≠ .undef := ht
      unfold getF at ht' ⊢
      split at ht'
      · rename_i p hp
        exact lookR_mem hp
      · exact absurd rfl ht'
    obtain ⟨ob', g1, g2, g3, g4⟩ := castFr_spec hm hmo t _ hp ht
    obtain ⟨e1, e2⟩ := h.fr t g4
    exact ⟨e1, hc.rv h g3 e2 g1 g2⟩
  · cases hs : lookR (swapL b) j with
    | none => simp only [castPls, hs, Option.bind_none]
    | some i => have := hk.lt j i hs; omega
  · cases hs : lookR tgt.hp j with
    | none => exact hs
    | some r =>
      obtain ⟨_, _, _, _, _, g, _⟩ := castHp_spec hm' hmo' j r (lookR_mem hs)
      omega
  · have := hk.pin i hi
    have : lookR (swapL b) i = some i := lookR_of hk.k2 (swapL_mem.2 (lookR_mem this))
    simp only [castPls, this, Option.bind_some]
end

/- A result in other words: a tuple too. -/
def viewR (b : Nat → Option Nat) (rs : Nat → Option Row) : PV → Option (PV × List Prop)
  | .tup ps => (match viewL b rs ps with
    | some x => if untupL ps then some (.tup x.1, x.2) else none
    | none => none)
  | p => if untup p then viewV b rs p else none
theorem untupL_mem : ∀ {l : List PV}, untupL l = true → ∀ q ∈ l, untup q = true
  | [], _, q, hq => by cases hq
  | p :: l, hl, q, hq => by
    simp only [untupL, Bool.and_eq_true] at hl
    rcases List.mem_cons.1 hq with rfl | hq
    · exact hl.1
    · exact untupL_mem hl.2 q hq
theorem Casts.rr {C : Ctx} {F : Nat → Prop} {ρ : Pls} {src : DS} {tgt : Hp} {a : Act} {w : World} {b : List (Nat × Nat)} (hc : Casts C b ρ src.st tgt w) (h : SimAt C F ρ src.st a w) {v : Value} {p q : PV} {ob : List Prop} (hr : RV w (Tc C ρ src.st.hp) ρ v p)
    (hv : viewR (lookR b) (lookR src.hp) p = some (q, ob)) (ho : All ob) : RV w (Tc C (castPls b ρ) tgt) (castPls b ρ) v q := by
  have key : ∀ {p : PV}, RV w (Tc C ρ src.st.hp) ρ v p → (if untup p then viewV (lookR b) (lookR src.hp) p else none) = some (q, ob) → RV w (Tc C (castPls b ρ) tgt) (castPls b ρ) v q := by
    intro p hr hv
    split at hv
    · rename_i hu
      exact hc.rv h hu hr hv ho
    · cases hv
  cases p
  case tup ps =>
    simp only [viewR] at hv
    split at hv
    · rename_i x hx
      split at hv
      · rename_i hu
        simp only [Option.some.injEq, Prod.mk.injEq] at hv
        obtain ⟨rfl, rfl⟩ := hv
        obtain ⟨y1, y2⟩ := viewL_get hx ho
        obtain ⟨hw, vs, e1, e2, e3⟩ := hr
        simp only [WF] at hw
        have hel : ∀ (j : Nat) (q : PV) (u : Value), x.1[j]? = some q → vs[j]? = some u → RV w (Tc C (castPls b ρ) tgt) (castPls b ρ) u q ∧ ∀ l, q ≠ .tup l := by
          intro j q u hq hu
          obtain ⟨p, o, g1, g2, g3⟩ := y2 j q hq
          have hmem := List.mem_of_getElem? g1
          have hup := untupL_mem (by assumption) p hmem
          have hpt : ∀ l, p ≠ .tup l := fun l e => by subst e; simp [untup] at hup
          refine ⟨hc.rv h hup (RV.of_RN (WFL_mem hw p hmem) hpt (e3 j p u g1 hu)) g2 g3, fun l e => ?_⟩
          have := (view_flat (b := lookR b) (rs := lookR src.hp) (fun i r hr => by
            obtain ⟨pl, _, cs, t', fz, _, _, _, hwf, _⟩ := h.heap.row i r hr
            exact hwf) p q o (WFL_mem hw p hmem) hup g2 g3).2.2.1
          rw [e] at this
          simp [isTup] at this
        refine ⟨?_, vs, e1, by rw [e2, y1], fun j q u hq hu => (hel j q u hq hu).1.to_RN (hel j q u hq hu).2⟩
        simp only [WF]
        refine WFL_of fun q hq => ?_
        obtain ⟨j, hj, rfl⟩ := List.getElem_of_mem hq
        have hjv : j < vs.size := by rw [e2, ← y1]; exact hj
        exact (hel j _ vs[j] (List.getElem?_eq_getElem hj) (Array.getElem?_eq_getElem hjv)).1.1
      · cases hv
    · cases hv
  all_goals exact key hr hv
end Go.Pe
