/- The relation between the machine's values and memory and the plain ones, and what keeps it. No condition. -/
import Derived.Test.YtfecpjikhlangaaPeB
import Derived.Orders
import Derived.Laws.World
import Derived.Laws.IdiomCopy
import GoSem.ClaimData
namespace Go.Pe

abbrev T2 := Nat → Nat → Prop

inductive RC (w : World) (T : T2) : Value → PV → Prop
  | undef (v : Value) (h : v.oneCell' = true) : RC w T v .undef
  | int (k : IntKind) (n : Int) : RC w T (.int k n) (.int k n)
  | bool (b : Bool) : RC w T (.bool b) (.bool b)
  | str (s : ByteArray) (h : s.size ≤ maxLen) : RC w T (.string s) (.str s)
  | nilp : RC w T (.pointer none) .nilp
  | vec0 (A : Option Addr) (c : Nat) (nl : Bool) (p : PV) (h0 : arrLen p = 0) (hn : nl = A.isNone) (hc : A = none → c = 0) : RC w T (.slice A 0 c) (.vec nl p)
  | vec1 (b o n c : Nat) (p : PV) (us : Nat → Value) (hn : arrLen p = n) (hc : n ≤ c) (hm : c ≤ maxLen)
      (h1 : ∀ j q, (flat p)[j]? = some q → T b (o + j) ∧ w.cell? ⟨b, o + j, none⟩ = some (us j)) (h2 : ∀ j q, (flat p)[j]? = some q → RC w T (us j) q) : RC w T (.slice (some ⟨b, o, none⟩) n c) (.vec false p)
  | cptr (b o : Nat) (p : PV) (path : List Stp) (us : Nat → Value)
      (h1 : ∀ j q, (flat p)[j]? = some q → T b (o + j) ∧ w.cell? ⟨b, o + j, none⟩ = some (us j)) (h2 : ∀ j q, (flat p)[j]? = some q → RC w T (us j) q) : RC w T (.pointer (some ⟨b, o + offOf path, none⟩)) (.cptr p path)

/-- The cells of T that w has, w' has too, as they were, in T'. -/
def Keeps (w : World) (T : T2) (w' : World) (T' : T2) : Prop := ∀ b o u, T b o → w.cell? ⟨b, o, none⟩ = some u → T' b o ∧ w'.cell? ⟨b, o, none⟩ = some u

theorem RC.keep {w w' : World} {T T' : T2} (hk : Keeps w T w' T') {v : Value} {p : PV} (h : RC w T v p) : RC w' T' v p := by
  induction h with
  | undef v h => exact .undef v h
  | int k n => exact .int k n
  | bool b => exact .bool b
  | str s h => exact .str s h
  | nilp => exact .nilp
  | vec0 A c nl p h0 hn hc => exact .vec0 A c nl p h0 hn hc
  | vec1 b o n c p us hn hc hm h1 h2 ih => exact .vec1 b o n c p us hn hc hm (fun j q hq => hk _ _ _ (h1 j q hq).1 (h1 j q hq).2) ih
  | cptr b o p path us h1 h2 ih => exact .cptr b o p path us (fun j q hq => hk _ _ _ (h1 j q hq).1 (h1 j q hq).2) ih

structure Pl where
  g : Nat
  off : Nat
  ext : Nat
structure Row where
  c : PV
  frz : Bool
abbrev Pls := Nat → Option Pl
abbrev Hp := Nat → Option Row

def upd {α : Type} (f : Nat → Option α) (i : Nat) (x : Option α) : Nat → Option α := fun j => if j = i then x else f j
theorem upd_same {α : Type} (f : Nat → Option α) (i : Nat) (x : Option α) : upd f i x i = x := by simp [upd]
theorem upd_ne {α : Type} (f : Nat → Option α) {i j : Nat} (x : Option α) (h : j ≠ i) : upd f i x j = f j := by simp [upd, h]

def Mut (ρ : Pls) (hp : Hp) : T2 := fun b o => ∃ id row pl, hp id = some row ∧ row.frz = false ∧ ρ id = some pl ∧ pl.g = b ∧ pl.off ≤ o ∧ o < pl.off + pl.ext

/-- A leaf's relation. -/
def RO (w : World) (T : T2) (ρ : Pls) (v : Value) : PV → Prop
  | .at id path => ∃ pl, ρ id = some pl ∧ v = .pointer (some ⟨pl.g, pl.off + offOf path, none⟩)
  | .ref id path s off n => ∃ pl A c, ρ id = some pl ∧ v = .slice (some A) n c ∧ n ≤ c ∧ c ≤ maxLen ∧ (0 < c → A = ⟨pl.g, pl.off + (offOf path + off * s), none⟩ ∧ offOf path + off * s + c * s ≤ pl.ext)
  | p => RC w T v p
def RA (w : World) (T : T2) (ρ : Pls) (v : Value) (p : PV) : Prop :=
  ∃ cs : Array Value, v = .agg cs ∧ cs.size = size p ∧ ∀ (j : Nat) (q : PV) (u : Value), (flat p)[j]? = some q → cs[j]? = some u → RO w T ρ u q
/-- A value's relation (no tuple). -/
def RN (w : World) (T : T2) (ρ : Pls) (v : Value) (p : PV) : Prop := if isAgg p then RA w T ρ v p else RO w T ρ v p
def RV (w : World) (T : T2) (ρ : Pls) (v : Value) (p : PV) : Prop :=
  WF p ∧ match p with
    | .tup ps => ∃ vs : Array Value, v = .tuple vs ∧ vs.size = ps.length ∧ ∀ (j : Nat) (q : PV) (u : Value), ps[j]? = some q → vs[j]? = some u → RN w T ρ u q
    | p => RN w T ρ v p

def Ext (ρ ρ' : Pls) : Prop := ∀ id pl, ρ id = some pl → ρ' id = some pl

theorem RO.keep {w w' : World} {T T' : T2} {ρ ρ' : Pls} (hk : Keeps w T w' T') (he : Ext ρ ρ') {v : Value} {p : PV} (h : RO w T ρ v p) : RO w' T' ρ' v p := by
  cases p <;> simp only [RO] at h ⊢
  case «at» => obtain ⟨pl, h1, h2⟩ := h; exact ⟨pl, he _ _ h1, h2⟩
  case ref => obtain ⟨pl, A, c, h1, h2⟩ := h; exact ⟨pl, A, c, he _ _ h1, h2⟩
  all_goals exact h.keep hk
theorem RA.keep {w w' : World} {T T' : T2} {ρ ρ' : Pls} (hk : Keeps w T w' T') (he : Ext ρ ρ') {v : Value} {p : PV} (h : RA w T ρ v p) : RA w' T' ρ' v p := by
  obtain ⟨cs, h1, h2, h3⟩ := h
  exact ⟨cs, h1, h2, fun j q u hq hu => (h3 j q u hq hu).keep hk he⟩
theorem RN.keep {w w' : World} {T T' : T2} {ρ ρ' : Pls} (hk : Keeps w T w' T') (he : Ext ρ ρ') {v : Value} {p : PV} (h : RN w T ρ v p) : RN w' T' ρ' v p := by
  unfold RN at *
  split at h
  · rename_i hp; rw [if_pos hp]; exact h.keep hk he
  · rename_i hp; rw [if_neg hp]; exact h.keep hk he
theorem RV.keep {w w' : World} {T T' : T2} {ρ ρ' : Pls} (hk : Keeps w T w' T') (he : Ext ρ ρ') {v : Value} {p : PV} (h : RV w T ρ v p) : RV w' T' ρ' v p := by
  refine ⟨h.1, ?_⟩
  have h2 := h.2
  cases p
  case tup ps =>
    obtain ⟨vs, a, b, c⟩ := h2
    exact ⟨vs, a, b, fun j q u hq hu => (c j q u hq hu).keep hk he⟩
  all_goals exact RN.keep hk he h2

/-- A value without references stands wherever its cells do. -/
theorem RO.closed {w : World} {T : T2} {ρ : Pls} {v : Value} {p : PV} (hn : noref p = true) (h : RO w T ρ v p) : RC w T v p := by
  cases p <;> simp only [RO, noref, reduceCtorEq] at h hn ⊢ <;> first | exact h | contradiction
theorem RO.of_closed {w : World} {T : T2} {ρ : Pls} {v : Value} {p : PV} (h : RC w T v p) : RO w T ρ v p := by
  cases h <;> simp only [RO] <;> constructor <;> assumption

theorem RC.one {w : World} {T : T2} {v : Value} {p : PV} (h : RC w T v p) : v.oneCell' = true := by cases h <;> first | rfl | assumption
theorem RO.one {w : World} {T : T2} {ρ : Pls} {v : Value} {p : PV} (h : RO w T ρ v p) : v.oneCell' = true := by
  cases p <;> simp only [RO] at h
  case «at» => obtain ⟨_, _, rfl⟩ := h; rfl
  case ref => obtain ⟨_, _, _, _, rfl, _⟩ := h; rfl
  all_goals exact h.one
theorem cells_one {v : Value} (h : v.oneCell' = true) : v.cells = #[v] := by cases v <;> first | rfl | (simp [Value.oneCell'] at h)
theorem RV.of_leaf {w : World} {T : T2} {ρ : Pls} {v : Value} {p : PV} (hl : leaf p = true) (ht : ∀ vs, p ≠ .tup vs) (hw : WF p) (h : RO w T ρ v p) : RV w T ρ v p := by
  refine ⟨hw, ?_⟩
  cases p <;> simp only [Pe.leaf, reduceCtorEq] at hl <;> first | exact absurd rfl (ht _) | (simp only [RN, isAgg, Bool.false_eq_true, if_false]; exact h)
theorem RV.to_leaf {w : World} {T : T2} {ρ : Pls} {v : Value} {p : PV} (hl : Pe.leaf p = true) (ht : ∀ vs, p ≠ .tup vs) (h : RV w T ρ v p) : RO w T ρ v p := by
  have h2 := h.2
  cases p <;> simp only [Pe.leaf, reduceCtorEq] at hl <;> first | exact absurd rfl (ht _) | (simpa only [RN, isAgg, Bool.false_eq_true, if_false] using h2)
theorem RV.of_agg {w : World} {T : T2} {ρ : Pls} {v : Value} {p : PV} (ha : isAgg p = true) (hw : WF p) (h : RA w T ρ v p) : RV w T ρ v p := by
  refine ⟨hw, ?_⟩
  cases p <;> simp only [isAgg, reduceCtorEq] at ha <;> (simp only [RN, isAgg, if_true]; exact h)
theorem RV.to_agg {w : World} {T : T2} {ρ : Pls} {v : Value} {p : PV} (ha : isAgg p = true) (h : RV w T ρ v p) : RA w T ρ v p := by
  have h2 := h.2
  cases p <;> simp only [isAgg, reduceCtorEq] at ha <;> (simpa only [RN, isAgg, if_true] using h2)
theorem RV.of_RN {w : World} {T : T2} {ρ : Pls} {v : Value} {p : PV} (hw : WF p) (ht : ∀ vs, p ≠ .tup vs) (h : RN w T ρ v p) : RV w T ρ v p := by
  refine ⟨hw, ?_⟩
  cases p <;> first | exact absurd rfl (ht _) | exact h
theorem RV.to_RN {w : World} {T : T2} {ρ : Pls} {v : Value} {p : PV} (ht : ∀ vs, p ≠ .tup vs) (h : RV w T ρ v p) : RN w T ρ v p := by
  have h2 := h.2
  cases p <;> first | exact absurd rfl (ht _) | exact h2

/-- THE CELLS OF A VALUE THAT STANDS FOR p: as many as p has, each leaf by leaf. -/
theorem RV.cells_of {w : World} {T : T2} {ρ : Pls} {v : Value} {p : PV} (ht : ∀ vs, p ≠ .tup vs) (h : RV w T ρ v p) :
    v.cells.size = size p ∧ ∀ (j : Nat) (q : PV) (u : Value), (flat p)[j]? = some q → v.cells[j]? = some u → RO w T ρ u q := by
  cases ha : isAgg p with
  | true =>
    obtain ⟨cs, rfl, h1, h2⟩ := h.to_agg ha
    exact ⟨h1, h2⟩
  | false =>
    have hl : Pe.leaf p = true := by rw [Pe.leaf_agg, ha]; rfl
    have hro := h.to_leaf hl ht
    have hs : size p = 1 := by cases p <;> simp only [Pe.leaf, reduceCtorEq] at hl <;> rfl
    have hc : v.cells = #[v] := cells_one hro.one
    refine ⟨by rw [hc, hs]; rfl, fun j q u hq hu => ?_⟩
    rw [flat_leaf hl] at hq
    rw [hc] at hu
    have : j = 0 := by
      have := (List.getElem?_eq_some_iff.1 hq).1
      simp at this; omega
    subst this
    simp at hq hu
    subst hq; subst hu
    exact hro

def RowRel (w : World) (T : T2) (ρ : Pls) (pl : Pl) (row : Row) : Prop :=
  ∃ (cs : Array Value) (t : TypeId) (fz : Nat × Nat), w.heap[pl.g]? = some (.cells cs t fz) ∧ pl.off + pl.ext ≤ cs.size ∧ size row.c ≤ pl.ext ∧ WF row.c ∧
    (∀ j, j < pl.ext → (decide (fz.1 ≤ pl.off + j) && decide (pl.off + j < fz.2)) = false) ∧ (∀ (j : Nat) (q : PV) (u : Value), (flat row.c)[j]? = some q → cs[pl.off + j]? = some u → RO w T ρ u q)

structure HR (w : World) (T : T2) (ρ : Pls) (hp : Hp) : Prop where
  row : ∀ id row, hp id = some row → ∃ pl, ρ id = some pl ∧ RowRel w T ρ pl row
  sep : ∀ id id' row row' pl pl', id ≠ id' → hp id = some row → row.frz = false → hp id' = some row' → ρ id = some pl → ρ id' = some pl' → pl.g = pl'.g →
    ∀ o, pl.off ≤ o → o < pl.off + pl.ext → pl'.off ≤ o → o < pl'.off + pl'.ext → False

theorem cell?_of_heap {w : World} {b : Nat} {cs : Array Value} {t : TypeId} {fz : Nat × Nat} (h : w.heap[b]? = some (.cells cs t fz)) (o : Nat) : w.cell? ⟨b, o, none⟩ = cs[o]? := by
  simp [World.cell?, h]
theorem heap_of_cell? {w : World} {b o : Nat} {u : Value} (h : w.cell? ⟨b, o, none⟩ = some u) : ∃ cs t fz, w.heap[b]? = some (.cells cs t fz) ∧ cs[o]? = some u := by
  simp only [World.cell?] at h
  split at h
  · rename_i c t fz he; exact ⟨c, t, fz, he, by simpa using h⟩
  · cases h
theorem lt_of_cell? {w : World} {b o : Nat} {u : Value} (h : w.cell? ⟨b, o, none⟩ = some u) : b < w.heap.size := by
  obtain ⟨cs, t, fz, he, _⟩ := heap_of_cell? h
  exact (Array.getElem?_eq_some_iff.1 he).1

def BlockKept (M : T2) (b : Nat) (x y : Option Obj) : Prop :=
  x = y ∨ ∃ cs cs' t fz, x = some (.cells cs t fz) ∧ y = some (.cells cs' t fz) ∧ cs'.size = cs.size ∧ ∀ o, ¬ M b o → cs'[o]? = cs[o]?
/-- What a call leaves of the world in which it began: all, but for the cells of M. -/
structure FR (M : T2) (w w' : World) : Prop where
  os : w'.os = w.os
  tape : w'.tape = w.tape
  output : w'.output = w.output
  size : w.heap.size ≤ w'.heap.size
  block : ∀ b, b < w.heap.size → BlockKept M b w.heap[b]? w'.heap[b]?

theorem BlockKept.trans {M : T2} {b : Nat} {x y z : Option Obj} (h : BlockKept M b x y) (h' : BlockKept M b y z) : BlockKept M b x z := by
  rcases h with rfl | ⟨cs, cs', t, fz, rfl, rfl, hs, hc⟩
  · exact h'
  · rcases h' with rfl | ⟨ds, ds', t', fz', he, rfl, hs', hc'⟩
    · exact .inr ⟨cs, cs', t, fz, rfl, rfl, hs, hc⟩
    · simp only [Option.some.injEq, Obj.cells.injEq] at he
      obtain ⟨rfl, rfl, rfl⟩ := he
      exact .inr ⟨cs, ds', t, fz, rfl, rfl, hs'.trans hs, fun o ho => (hc' o ho).trans (hc o ho)⟩
theorem BlockKept.mono {M M' : T2} {b : Nat} {x y : Option Obj} (hm : ∀ o, M b o → M' b o) (h : BlockKept M b x y) : BlockKept M' b x y := by
  rcases h with rfl | ⟨cs, cs', t, fz, rfl, rfl, hs, hc⟩
  · exact .inl rfl
  · exact .inr ⟨cs, cs', t, fz, rfl, rfl, hs, fun o ho => hc o fun h => ho (hm o h)⟩
theorem FR.refl (M : T2) (w : World) : FR M w w := ⟨rfl, rfl, rfl, Nat.le_refl _, fun _ _ => .inl rfl⟩
/-- A step that turns nothing old but cells of M. -/
theorem FR.trans {M M' : T2} {a b c : World} (h : FR M a b) (k : FR M' b c) (hm : ∀ x o, x < a.heap.size → M' x o → M x o) : FR M a c :=
  ⟨k.os.trans h.os, k.tape.trans h.tape, k.output.trans h.output, Nat.le_trans h.size k.size, fun x hx =>
    (h.block x hx).trans ((k.block x (Nat.lt_of_lt_of_le hx h.size)).mono fun o => hm x o hx)⟩
theorem FR.drew {M : T2} {a w : World} (h : FR M a w) (n : Nat) : FR M a { w with drawn := n } := ⟨h.os, h.tape, h.output, h.size, h.block⟩

structure St where
  fr : Nat → PV
  hp : Hp

structure Ctx where
  P : Program
  G : Nat → Option PV
  w0 : World
  T0 : T2
  M0 : T2
  nt : Nat
/-- The cells that nothing turns. -/
def Tc (C : Ctx) (ρ : Pls) (hp : Hp) : T2 := fun b o => (C.T0 b o ∨ C.M0 b o ∨ C.w0.heap.size ≤ b) ∧ ¬ Mut ρ hp b o

/-- The machine stands as the plain state says; F: the names that are free. -/
structure SimAt (C : Ctx) (F : Nat → Prop) (ρ : Pls) (s : St) (a : Act) (w : World) : Prop where
  defers : a.defers = []
  size : a.tmps.size = C.nt
  fr : ∀ i, s.fr i ≠ .undef → i < C.nt ∧ RV w (Tc C ρ s.hp) ρ (a.tmps.getD i Go.undef) (s.fr i)
  heap : HR w (Tc C ρ s.hp) ρ s.hp
  free : ∀ id, F id → ρ id = none ∧ s.hp id = none
  inn : ∀ id row pl, s.hp id = some row → ρ id = some pl → ∀ j, j < pl.ext → C.w0.heap.size ≤ pl.g ∨ C.M0 pl.g (pl.off + j)
  frame : FR C.M0 C.w0 w
  glob : ∀ g c, C.G g = some c → WF c ∧ noref c = true ∧ RC w (Tc C ρ s.hp) (.pointer (some ⟨g, 0, none⟩)) (.cptr c [])
def Sim (C : Ctx) (F : Nat → Prop) (s : St) (a : Act) (w : World) : Prop := ∃ ρ, SimAt C F ρ s a w
end Go.Pe
