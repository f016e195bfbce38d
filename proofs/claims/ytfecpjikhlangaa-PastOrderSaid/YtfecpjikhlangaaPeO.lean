/- Contracts of functions over plain values, and what a call does to the relation. No condition. -/
import Derived.Test.YtfecpjikhlangaaPeP
import Derived.Laws.Externs
namespace Go.Pe

def lookR {α : Type} (l : List (Nat × α)) (i : Nat) : Option α := match l with
  | [] => none
  | x :: r => if Nat.beq x.1 i then some x.2 else lookR r i

mutual
def ren (b : Nat → Option Nat) : PV → Option PV
  | .st n fs => (renL b fs).map (.st n)
  | .tup fs => (renL b fs).map .tup
  | .at id p => (b id).map fun i => .at i p
  | .ref id p s o n => (b id).map fun i => .ref i p s o n
  | p => some p
termination_by structural p => p
def renL (b : Nat → Option Nat) : List PV → Option (List PV)
  | [] => some []
  | p :: l => match ren b p, renL b l with
    | some q, some m => some (q :: m)
    | _, _ => none
termination_by structural l => l
end

theorem renL_cons {b : Nat → Option Nat} {p : PV} {l m : List PV} (h : renL b (p :: l) = some m) : ∃ q r, ren b p = some q ∧ renL b l = some r ∧ m = q :: r := by
  simp only [renL] at h
  split at h
  · rename_i q r h1 h2
    simp only [Option.some.injEq] at h
    exact ⟨q, r, h1, h2, h.symm⟩
  · cases h

mutual
theorem ren_size (b : Nat → Option Nat) : ∀ (p q : PV), ren b p = some q → size q = size p ∧ isAgg q = isAgg p ∧ (WF p → WF q)
  | .st n fs, q, h => by
    simp only [ren, Option.map_eq_some_iff] at h
    obtain ⟨m, hm, rfl⟩ := h
    obtain ⟨h1, h2⟩ := renL_size b fs m hm
    exact ⟨rfl, rfl, fun hw => by simp only [WF] at hw ⊢; exact ⟨by rw [h1]; exact hw.1, h2 hw.2⟩⟩
  | .tup fs, q, h => by
    simp only [ren, Option.map_eq_some_iff] at h
    obtain ⟨m, hm, rfl⟩ := h
    obtain ⟨h1, h2⟩ := renL_size b fs m hm
    exact ⟨rfl, rfl, fun hw => by simp only [WF] at hw ⊢; exact h2 hw⟩
  | .at id p, q, h => by
    simp only [ren, Option.map_eq_some_iff] at h
    obtain ⟨i, _, rfl⟩ := h
    exact ⟨rfl, rfl, fun _ => trivial⟩
  | .ref id p s o n, q, h => by
    simp only [ren, Option.map_eq_some_iff] at h
    obtain ⟨i, _, rfl⟩ := h
    exact ⟨rfl, rfl, fun _ => trivial⟩
  | .int .., q, h | .bool _, q, h | .str _, q, h | .iarr .., q, h | .parr .., q, h | .vec .., q, h | .cptr .., q, h | .nilp, q, h | .undef, q, h => by
    simp only [ren, Option.some.injEq] at h
    subst h
    exact ⟨rfl, rfl, id⟩
theorem renL_size (b : Nat → Option Nat) : ∀ (l m : List PV), renL b l = some m → sizeL m = sizeL l ∧ (WFL l → WFL m)
  | [], m, h => by simp only [renL, Option.some.injEq] at h; subst h; exact ⟨rfl, id⟩
  | p :: l, m, h => by
    obtain ⟨q, r, h1, h2, rfl⟩ := renL_cons h
    obtain ⟨a1, _, a3⟩ := ren_size b p q h1
    obtain ⟨b1, b2⟩ := renL_size b l r h2
    refine ⟨by simp only [sizeL]; omega, fun hw => ?_⟩
    simp only [WFL] at hw ⊢
    exact ⟨a3 hw.1, b2 hw.2⟩
end
theorem renL_length (b : Nat → Option Nat) : ∀ {l m : List PV}, renL b l = some m → m.length = l.length
  | [], m, h => by simp only [renL, Option.some.injEq] at h; subst h; rfl
  | p :: l, m, h => by
    obtain ⟨q, r, h1, h2, rfl⟩ := renL_cons h
    simp [renL_length b h2]
theorem renL_get (b : Nat → Option Nat) : ∀ {l m : List PV}, renL b l = some m → ∀ (j : Nat) (q : PV), m[j]? = some q → ∃ p, l[j]? = some p ∧ ren b p = some q
  | [], m, h, j, q, hq => by simp only [renL, Option.some.injEq] at h; subst h; simp at hq
  | p :: l, m, h, j, q, hq => by
    obtain ⟨q0, r, h1, h2, rfl⟩ := renL_cons h
    cases j with
    | zero => simp at hq; subst hq; exact ⟨p, rfl, h1⟩
    | succ j => simp at hq; simpa using renL_get b h2 j q hq

mutual
theorem ren_noref (b : Nat → Option Nat) : ∀ (p : PV), noref p = true → ren b p = some p
  | .st n fs, h => by simp only [noref] at h; simp only [ren, renL_noref b fs h, Option.map_some]
  | .tup fs, h => by simp only [noref] at h; simp only [ren, renL_noref b fs h, Option.map_some]
  | .at .., h | .ref .., h => by simp [noref] at h
  | .int .., _ | .bool _, _ | .str _, _ | .iarr .., _ | .parr .., _ | .vec .., _ | .cptr .., _ | .nilp, _ | .undef, _ => rfl
theorem renL_noref (b : Nat → Option Nat) : ∀ (l : List PV), norefL l = true → renL b l = some l
  | [], _ => rfl
  | p :: l, h => by
    simp only [norefL, Bool.and_eq_true] at h
    simp only [renL, ren_noref b p h.1, renL_noref b l h.2]
end

/- The leaves of what is renamed are the renamed leaves. -/
def LeafRen (b : Nat → Option Nat) (l m : List PV) : Prop := m.length = l.length ∧ ∀ (j : Nat) (x : PV), m[j]? = some x → ∃ y, l[j]? = some y ∧ ren b y = some x
theorem LeafRen.single {b : Nat → Option Nat} {p q : PV} (h : ren b p = some q) : LeafRen b [p] [q] := ⟨rfl, fun j x hx => by
  cases j with
  | zero => simp at hx; subst hx; exact ⟨p, rfl, h⟩
  | succ j => simp at hx⟩
theorem LeafRen.append {b : Nat → Option Nat} {l l' m m' : List PV} (h : LeafRen b l m) (h' : LeafRen b l' m') : LeafRen b (l ++ l') (m ++ m') := by
  refine ⟨by simp [h.1, h'.1], fun j x hx => ?_⟩
  by_cases hj : j < m.length
  · rw [List.getElem?_append_left hj] at hx
    rw [List.getElem?_append_left (by rw [← h.1]; exact hj)]
    exact h.2 j x hx
  · rw [List.getElem?_append_right (by omega)] at hx
    rw [List.getElem?_append_right (by rw [← h.1]; omega), ← h.1]
    exact h'.2 _ x hx
theorem LeafRen.self {b : Nat → Option Nat} {l : List PV} (h : ∀ q ∈ l, noref q = true) : LeafRen b l l := ⟨rfl, fun _ x hx => ⟨x, hx, ren_noref b x (h x (List.mem_of_getElem? hx))⟩⟩

mutual
theorem ren_flat (b : Nat → Option Nat) : ∀ (p q : PV), WF p → ren b p = some q → LeafRen b (flat p) (flat q)
  | .st n fs, q, hw, h => by
    simp only [ren, Option.map_eq_some_iff] at h
    obtain ⟨m, hm, rfl⟩ := h
    simp only [WF] at hw
    exact ren_flatL b fs m hw.2 hm
  | .parr s n sh l, q, hw, h => by
    simp only [ren, Option.some.injEq] at h
    subst h
    exact LeafRen.self (noref_of_flat _ hw rfl)
  | .iarr k n l, q, hw, h => by
    simp only [ren, Option.some.injEq] at h
    subst h
    exact LeafRen.self (noref_of_flat _ hw rfl)
  | .at id p, q, _, h => by
    have hq := h
    simp only [ren, Option.map_eq_some_iff] at h
    obtain ⟨i, _, rfl⟩ := h
    exact LeafRen.single hq
  | .ref id p s o n, q, _, h => by
    have hq := h
    simp only [ren, Option.map_eq_some_iff] at h
    obtain ⟨i, _, rfl⟩ := h
    exact LeafRen.single hq
  | .tup fs, q, _, h => by
    have hq := h
    simp only [ren, Option.map_eq_some_iff] at h
    obtain ⟨m, _, rfl⟩ := h
    exact LeafRen.single hq
  | .int .., q, _, h | .bool _, q, _, h | .str _, q, _, h | .vec .., q, _, h | .cptr .., q, _, h | .nilp, q, _, h | .undef, q, _, h => by
    have hq := h
    simp only [ren, Option.some.injEq] at h
    subst h
    exact LeafRen.single hq
theorem ren_flatL (b : Nat → Option Nat) : ∀ (l m : List PV), WFL l → renL b l = some m → LeafRen b (flatL l) (flatL m)
  | [], m, _, h => by simp only [renL, Option.some.injEq] at h; subst h; exact ⟨rfl, fun j x hx => by simp [flatL] at hx⟩
  | p :: l, m, hw, h => by
    obtain ⟨q, r, h1, h2, rfl⟩ := renL_cons h
    simp only [WFL] at hw
    simp only [flatL]
    exact (ren_flat b p q hw.1 h1).append (ren_flatL b l r hw.2 h2)
end

section
variable {w : World} {T : T2} {ρ ρ' : Pls} {b : Nat → Option Nat}

/-- The renaming goes with the places. -/
def RenOk (b : Nat → Option Nat) (ρ ρ' : Pls) : Prop := ∀ i j pl, b i = some j → ρ i = some pl → ρ' j = some pl

theorem RO.ren (hr : RenOk b ρ ρ') {v : Value} {p q : PV} (h : RO w T ρ v p) (hq : Pe.ren b p = some q) : RO w T ρ' v q := by
  cases p <;> simp only [RO, Pe.ren, Option.map_eq_some_iff, Option.some.injEq] at h hq
  case «at» => obtain ⟨i, hi, rfl⟩ := hq; obtain ⟨pl, h1, h2⟩ := h; exact ⟨pl, hr _ _ _ hi h1, h2⟩
  case ref => obtain ⟨i, hi, rfl⟩ := hq; obtain ⟨pl, A, c, h1, h2⟩ := h; exact ⟨pl, A, c, hr _ _ _ hi h1, h2⟩
  case st => cases h
  case tup => cases h
  all_goals (subst hq; exact RO.of_closed h)
theorem RN.ren (hr : RenOk b ρ ρ') {v : Value} {p q : PV} (hw : WF p) (h : RN w T ρ v p) (hq : Pe.ren b p = some q) : RN w T ρ' v q := by
  obtain ⟨h1, h2, h3⟩ := ren_size b p q hq
  unfold RN at h ⊢
  rw [h2]
  split at h
  · rename_i ha
    rw [if_pos ha]
    obtain ⟨cs, e1, e2, e3⟩ := h
    refine ⟨cs, e1, by rw [e2, h1], fun j x u hx hu => ?_⟩
    obtain ⟨y, hy, hxy⟩ := (ren_flat b p q hw hq).2 j x hx
    exact (e3 j y u hy hu).ren hr hxy
  · rename_i ha
    rw [if_neg ha]
    exact h.ren hr hq
theorem RV.ren (hr : RenOk b ρ ρ') {v : Value} {p q : PV} (h : RV w T ρ v p) (hq : Pe.ren b p = some q) : RV w T ρ' v q := by
  obtain ⟨h1, h2, h3⟩ := ren_size b p q hq
  refine ⟨h3 h.1, ?_⟩
  have hh := h.2
  have hw := h.1
  cases p
  case tup ps =>
    simp only [Pe.ren, Option.map_eq_some_iff] at hq
    obtain ⟨m, hm, rfl⟩ := hq
    obtain ⟨vs, e1, e2, e3⟩ := hh
    simp only [WF] at hw
    refine ⟨vs, e1, by rw [e2, renL_length b hm], fun j x u hx hu => ?_⟩
    obtain ⟨y, hy, hxy⟩ := renL_get b hm j x hx
    exact (e3 j y u hy hu).ren hr (WFL_mem hw y (List.mem_of_getElem? hy)) hxy
  case st n fs =>
    simp only [Pe.ren, Option.map_eq_some_iff] at hq
    have hq' := hq
    obtain ⟨m, hm, rfl⟩ := hq
    exact RN.ren (p := .st n fs) hr hw hh (by simp only [Pe.ren, Option.map_eq_some_iff]; exact ⟨m, hm, rfl⟩)
  case «at» =>
    simp only [Pe.ren, Option.map_eq_some_iff] at hq
    obtain ⟨i, hi, rfl⟩ := hq
    exact RN.ren hr hw hh (by simp only [Pe.ren, hi, Option.map_some])
  case ref =>
    simp only [Pe.ren, Option.map_eq_some_iff] at hq
    obtain ⟨i, hi, rfl⟩ := hq
    exact RN.ren hr hw hh (by simp only [Pe.ren, hi, Option.map_some])
  all_goals
    have hq' := hq
    simp only [Pe.ren, Option.some.injEq] at hq
    subst hq
    exact RN.ren hr hw hh hq'

theorem RowRel.ren (hr : RenOk b ρ ρ') {pl : Pl} {c c' : PV} {f f' : Bool} (h : RowRel w T ρ pl ⟨c, f⟩) (hq : Pe.ren b c = some c') : RowRel w T ρ' pl ⟨c', f'⟩ := by
  obtain ⟨cs, t, fz, g1, g2, g3, g4, g5, g6⟩ := h
  obtain ⟨h1, h2, h3⟩ := ren_size b c c' hq
  refine ⟨cs, t, fz, g1, g2, by simp only at g3 ⊢; omega, h3 g4, g5, fun j x u hx hu => ?_⟩
  obtain ⟨y, hy, hxy⟩ := (ren_flat b c c' g4 hq).2 j x hx
  exact (g6 j y u hy hu).ren hr hxy
end

def hasBody (P : Program) (f : FuncId) : Prop := ∃ fn, P.funcs[f]? = some fn ∧ fn.body.isSome = true ∧ (fn.name == "runtime.NumGoroutine") = false
/-- A call of f comes to R: f has a body, or the machine stands in for it. -/
def Enters (P : Program) (f : FuncId) (vs : Array Value) (w : World) (R : Ending → World → Prop) : Prop := (hasBody P f ∧ Calls P f vs w R) ∨ ∃ v w', (callFunc f vs).run P w = .ok (.value v) w' ∧ R (.returned v) w'
theorem Enters.mono {P : Program} {f : FuncId} {vs : Array Value} {w : World} {R R' : Ending → World → Prop} (h : Enters P f vs w R) (hr : ∀ e w', R e w' → R' e w') : Enters P f vs w R' := by
  rcases h with ⟨h1, h2⟩ | ⟨v, w', h1, h2⟩
  · exact .inl ⟨h1, h2.mono hr⟩
  · exact .inr ⟨v, w', h1, hr _ _ h2⟩
theorem Enters.calls {P : Program} {f : FuncId} {vs : Array Value} {w : World} {R : Ending → World → Prop} (hb : hasBody P f) (h : Enters P f vs w R) : Calls P f vs w R := by
  rcases h with ⟨_, h2⟩ | ⟨v, w', h1, h2⟩
  · exact h2
  · obtain ⟨fn, hfn, hbody, hname⟩ := hb
    have hb' : fn.body ≠ none := by intro hb; simp [hb] at hbody
    have hname' : fn.name ≠ "runtime.NumGoroutine" := by simpa using hname
    simp [callFunc, hfn, hname', hb'] at h1
/-- THE CONTRACT OF A FUNCTION: called with these rows and arguments it returns, with those rows and that result; nothing else has turned. -/
def PC (P : Program) (G : Nat → Option PV) (f : FuncId) (hin : List (Nat × Row)) (args : List PV) (hout : List (Nat × Row)) (res : PV) : Prop :=
  ∀ (T0 : T2) (ρ : Pls) (w : World) (vs : Array Value), (∀ b o, T0 b o → ¬ Mut ρ (lookR hin) b o) → HR w T0 ρ (lookR hin) → (∀ i, lookR hin i = none → ρ i = none) →
    (∀ g c, G g = some c → WF c ∧ noref c = true ∧ RC w T0 (.pointer (some ⟨g, 0, none⟩)) (.cptr c [])) →
    vs.size = args.length → (∀ (j : Nat) (p : PV) (v : Value), args[j]? = some p → vs[j]? = some v → p ≠ .undef → RV w T0 ρ v p) →
    Enters P f vs w fun e w' => ∃ v ρ', e = .returned v ∧
      RV w' (fun b o => (T0 b o ∨ Mut ρ (lookR hin) b o ∨ w.heap.size ≤ b) ∧ ¬ Mut ρ' (lookR hout) b o) ρ' v res ∧
      HR w' (fun b o => (T0 b o ∨ Mut ρ (lookR hin) b o ∨ w.heap.size ≤ b) ∧ ¬ Mut ρ' (lookR hout) b o) ρ' (lookR hout) ∧
      (∀ i pl, lookR hin i ≠ none → ρ i = some pl → ρ' i = some pl) ∧ FR (Mut ρ (lookR hin)) w w' ∧
      (∀ i row pl, lookR hout i = some row → ρ' i = some pl → ∀ j, j < pl.ext → w.heap.size ≤ pl.g ∨ Mut ρ (lookR hin) pl.g (pl.off + j))
/-- THE CONTRACT OF A FUNCTION THAT THE MACHINE STANDS IN FOR, and that leaves the world alone. -/
theorem PC.extern {P : Program} {G : Nat → Option PV} {f : FuncId} {fn : Func} {args : List PV} {res : PV} {e : Array Value → Sem Value} (hf : P.funcs[f]? = some fn) (hname : (fn.name == "runtime.NumGoroutine") = false) (hb : fn.body.isNone = true) (hn : Extern.findNext fn = none) (he : Extern.find fn = some e)
    (h : ∀ (T : T2) (ρ : Pls) (w : World) (vs : Array Value), vs.size = args.length → (∀ (j : Nat) (p : PV) (v : Value), args[j]? = some p → vs[j]? = some v → p ≠ .undef → RV w T ρ v p) → ∃ v, (e vs).run P w = .ok v w ∧ WF res ∧ noref res = true ∧ RV w T ρ v res) : PC P G f [] args [] res := by
  intro T0 ρ w vs h1 h2 h3 h4 h5 h6
  obtain ⟨v, g1, g2, g3, g4⟩ := h T0 ρ w vs h5 h6
  refine .inr ⟨v, w, ?_, v, ρ, rfl, ?_, ⟨fun i r hi => by simp [lookR] at hi, fun i i' r r' pl pl' _ hi => by simp [lookR] at hi⟩, fun i pl _ hi => hi, FR.refl _ _, fun i r pl hi => by simp [lookR] at hi⟩
  · rw [run_callFunc_extern hf hname hb hn he, g1]; rfl
  · refine g4.keep (fun b o u hT hc => ⟨⟨.inl hT, ?_⟩, hc⟩) (Ext.refl _)
    rintro ⟨i, r, pl, hi, _⟩
    simp [lookR] at hi
end Go.Pe
