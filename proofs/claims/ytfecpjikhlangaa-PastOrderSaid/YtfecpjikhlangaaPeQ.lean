/- What a call does to the relation. No condition. -/
import Derived.Test.YtfecpjikhlangaaPeO
namespace Go.Pe

/- Values that lean on no memory but on rows. -/
mutual
def Sh.free : Sh → Bool
  | .any => false
  | .st _ fs => Sh.freeL fs
  | .parr _ _ e => Sh.free e
  | .vec .. => false
  | _ => true
termination_by structural s => s
def Sh.freeL : List Sh → Bool
  | [] => true
  | s :: l => Sh.free s && Sh.freeL l
termination_by structural l => l
end
mutual
def cellfree : PV → Bool
  | .st _ fs => cellfreeL fs
  | .tup fs => cellfreeL fs
  | .parr _ _ sh _ => Sh.free sh
  | .vec _ c => Nat.beq (arrLen c) 0
  | .cptr .. => false
  | _ => true
termination_by structural p => p
def cellfreeL : List PV → Bool
  | [] => true
  | p :: l => cellfree p && cellfreeL l
termination_by structural l => l
end
theorem cellfreeL_mem : ∀ {l : List PV}, cellfreeL l = true → ∀ q ∈ l, cellfree q = true
  | [], _, q, h => by cases h
  | p :: l, h, q, hq => by
    simp only [cellfreeL, Bool.and_eq_true] at h
    rcases List.mem_cons.1 hq with rfl | hq
    · exact h.1
    · exact cellfreeL_mem h.2 q hq
theorem cellfreeL_of : ∀ {l : List PV}, (∀ q ∈ l, cellfree q = true) → cellfreeL l = true
  | [], _ => rfl
  | p :: l, h => by simp only [cellfreeL, Bool.and_eq_true]; exact ⟨h p (by simp), cellfreeL_of fun q hq => h q (by simp [hq])⟩
mutual
theorem conf_free : ∀ (sh : Sh) (p : PV), conf sh p = true → Sh.free sh = true → cellfree p = true
  | .any, _, _, h => by simp [Sh.free] at h
  | .int k, p, h, _ => by cases p <;> first | rfl | (simp [conf] at h)
  | .bool, p, h, _ => by cases p <;> first | rfl | (simp [conf] at h)
  | .str, p, h, _ => by cases p <;> first | rfl | (simp [conf] at h)
  | .st n shs, p, h, hf => by
    cases p <;> simp only [conf, Bool.and_eq_true, reduceCtorEq] at h
    simp only [cellfree]
    exact confL_free shs _ h.2 (by simpa only [Sh.free] using hf)
  | .iarr k n, p, h, _ => by cases p <;> first | rfl | (simp [conf] at h)
  | .parr s n e, p, h, hf => by
    cases p <;> simp only [conf, Bool.and_eq_true, reduceCtorEq] at h
    simp only [cellfree]
    rw [← Sh.beq_eq _ _ h.2]
    simpa only [Sh.free] using hf
  | .vec s e, _, _, h => by simp [Sh.free] at h
theorem confL_free : ∀ (shs : List Sh) (l : List PV), confL shs l = true → Sh.freeL shs = true → cellfreeL l = true
  | [], l, h, _ => by cases l <;> first | rfl | (simp [confL] at h)
  | sh :: shs, l, h, hf => by
    cases l <;> simp only [confL, Bool.and_eq_true, reduceCtorEq] at h
    simp only [Sh.freeL, Bool.and_eq_true] at hf
    simp only [cellfreeL, Bool.and_eq_true]
    exact ⟨conf_free sh _ h.1 hf.1, confL_free shs _ h.2 hf.2⟩
end
mutual
theorem free_of_flat : ∀ (p : PV), WF p → cellfree p = true → ∀ q ∈ flat p, cellfree q = true
  | .st n fs, hw, hn, q, h => free_of_flatL fs (by simp only [WF] at hw; exact hw.2) (by simpa only [cellfree] using hn) q (by simpa only [flat] using h)
  | .iarr k n l, _, _, q, h => by
    simp only [flat, List.mem_map] at h
    obtain ⟨x, hx, rfl⟩ := h
    rfl
  | .parr s n sh l, hw, hn, q, h => by
    simp only [WF] at hw
    simp only [cellfree] at hn
    exact free_of_flatL l hw.2.1 (cellfreeL_of fun q hq => conf_free sh q (hw.2.2 q hq).2.1 hn) q (by simpa only [flat] using h)
  | .int .., _, hn, q, h | .bool _, _, hn, q, h | .str _, _, hn, q, h | .tup _, _, hn, q, h | .vec .., _, hn, q, h | .cptr .., _, hn, q, h | .at .., _, hn, q, h | .ref .., _, hn, q, h | .nilp, _, hn, q, h | .undef, _, hn, q, h => by
    simp only [flat, List.mem_singleton] at h
    subst h
    exact hn
theorem free_of_flatL : ∀ (l : List PV), WFL l → cellfreeL l = true → ∀ q ∈ flatL l, cellfree q = true
  | [], _, _, q, h => by simp [flatL] at h
  | p :: l, hw, hn, q, h => by
    simp only [WFL] at hw
    simp only [cellfreeL, Bool.and_eq_true] at hn
    simp only [flatL, List.mem_append] at h
    rcases h with h | h
    · exact free_of_flat p hw.1 hn.1 q h
    · exact free_of_flatL l hw.2 hn.2 q h
end
theorem RC.free {w w' : World} {T T' : T2} {v : Value} {p : PV} (hf : cellfree p = true) (h : RC w T v p) : RC w' T' v p := by
  cases h with
  | undef v h => exact .undef v h
  | int k n => exact .int k n
  | bool b => exact .bool b
  | str s h => exact .str s h
  | nilp => exact .nilp
  | vec0 A c nl p h0 hn hc => exact .vec0 A c nl p h0 hn hc
  | vec1 b o n c p us hn hc hm h1 h2 =>
    simp only [cellfree] at hf
    have h0 := Nat.eq_of_beq_eq_true hf
    rw [h0] at hn
    subst hn
    exact .vec0 _ _ _ _ h0 rfl (fun h => by cases h)
  | cptr b o p path us h1 h2 => simp [cellfree] at hf
theorem RO.free {w w' : World} {T T' : T2} {ρ : Pls} {v : Value} {p : PV} (hf : cellfree p = true) (h : RO w T ρ v p) : RO w' T' ρ v p := by
  cases p <;> simp only [RO] at h ⊢ <;> first | exact h | exact h.free hf
theorem RN.free {w w' : World} {T T' : T2} {ρ : Pls} {v : Value} {p : PV} (hw : WF p) (hf : cellfree p = true) (h : RN w T ρ v p) : RN w' T' ρ v p := by
  unfold RN at *
  split at h
  · rename_i hp
    rw [if_pos hp]
    obtain ⟨cs, h1, h2, h3⟩ := h
    exact ⟨cs, h1, h2, fun j q u hq hu => (h3 j q u hq hu).free (free_of_flat p hw hf q (List.mem_of_getElem? hq))⟩
  · rename_i hp; rw [if_neg hp]; exact h.free hf
theorem RV.free {w w' : World} {T T' : T2} {ρ : Pls} {v : Value} {p : PV} (hf : cellfree p = true) (h : RV w T ρ v p) : RV w' T' ρ v p := by
  refine ⟨h.1, ?_⟩
  have h2 := h.2
  have hw := h.1
  cases p
  case tup ps =>
    obtain ⟨vs, a, b, c⟩ := h2
    simp only [WF] at hw
    simp only [cellfree] at hf
    exact ⟨vs, a, b, fun j q u hq hu => (c j q u hq hu).free (WFL_mem hw q (List.mem_of_getElem? hq)) (cellfreeL_mem hf q (List.mem_of_getElem? hq))⟩
  all_goals exact RN.free hw hf h2
theorem RowRel.free {w : World} {T T' : T2} {ρ : Pls} {pl : Pl} {row : Row} (hf : cellfree row.c = true) (h : RowRel w T ρ pl row) : RowRel w T' ρ pl row := by
  obtain ⟨cs, t, fz, h1, h2, h3, h4, h5, h6⟩ := h
  exact ⟨cs, t, fz, h1, h2, h3, h4, h5, fun j q u hq hu => (h6 j q u hq hu).free (free_of_flat _ h4 hf q (List.mem_of_getElem? hq))⟩

/-- A row whose cells lie apart from M stays, where the rest of its block may have turned. -/
theorem RowRel.kept {w w' : World} {T T' : T2} {ρ ρ' : Pls} {M : T2} {pl : Pl} {row : Row} (h : RowRel w T ρ pl row) (hb : BlockKept M pl.g w.heap[pl.g]? w'.heap[pl.g]?) (hm : ∀ o, pl.off ≤ o → o < pl.off + pl.ext → ¬ M pl.g o)
    (hk : Keeps w T w' T') (he : Ext ρ ρ') : RowRel w' T' ρ' pl row := by
  obtain ⟨cs, t, fz, h1, h2, h3, h4, h5, h6⟩ := h
  rcases hb with hb | ⟨ds, ds', t', fz', b1, b2, b3, b4⟩
  · exact ⟨cs, t, fz, by rw [← hb]; exact h1, h2, h3, h4, h5, fun j q u hq hu => (h6 j q u hq hu).keep hk he⟩
  · rw [h1] at b1
    simp only [Option.some.injEq, Obj.cells.injEq] at b1
    obtain ⟨rfl, rfl, rfl⟩ := b1
    refine ⟨ds', t, fz, b2, by omega, h3, h4, h5, fun j q u hq hu => ?_⟩
    have hj : j < size row.c := by
      have := (List.getElem?_eq_some_iff.1 hq).1
      rw [flat_length _ h4] at this
      exact this
    rw [b4 _ (hm _ (by omega) (by omega))] at hu
    exact (h6 j q u hq hu).keep hk he

theorem BlockKept.cell {M : T2} {w w' : World} {b o : Nat} {u : Value} (hb : BlockKept M b w.heap[b]? w'.heap[b]?) (hm : ¬ M b o) (h : w.cell? ⟨b, o, none⟩ = some u) : w'.cell? ⟨b, o, none⟩ = some u := by
  rcases hb with hb | ⟨ds, ds', t', fz', b1, b2, b3, b4⟩
  · simp only [World.cell?, ← hb] at h ⊢; exact h
  · rw [cell?_of_heap b1] at h
    rw [cell?_of_heap b2, b4 o hm]
    exact h

/-- What a call's rows are to the caller's: back: the caller's names of the rows that are handed over; fwd: the callee's names in the caller. -/
structure CallRows (s : St) (F : Nat → Prop) (back fwd : Nat → Option Nat) (hin hout hpn : Hp) (Vw : Nat → Prop) (keep : Bool) : Prop where
  inr : ∀ c i, back c = some i → fwd i = some c ∧ ∃ row c', s.hp c = some row ∧ row.frz = false ∧ ren back row.c = some c' ∧ hin i = some ⟨c', false⟩
  inb : ∀ i, hin i ≠ none → ∃ c, fwd i = some c ∧ back c = some i
  dom : ∀ i c, fwd i = some c → hin i ≠ none ∨ hout i ≠ none
  new : ∀ i, hout i ≠ none → hin i = none → ∃ c, fwd i = some c ∧ F c
  inj : ∀ i j c, fwd i = some c → fwd j = some c → i = j
  out : ∀ i c, fwd i = some c → (hout i = none ∧ hpn c = none) ∨ ∃ row c', hout i = some row ∧ ren fwd row.c = some c' ∧ hpn c = some ⟨c', row.frz⟩
  rest : ∀ c, (∀ i, fwd i ≠ some c) → hpn c = s.hp c ∨ (Vw c ∧ ∃ row, s.hp c = some row ∧ hpn c = some ⟨row.c, true⟩)
  view : ∀ c, Vw c → (∀ i, fwd i ≠ some c) ∧ (keep = false → ∀ row, hpn c = some row → row.frz = true)
  free : keep = true → ∀ i row, hout i = some row → cellfree row.c = true

section
variable {C : Ctx} {F : Nat → Prop} {ρ : Pls} {s : St} {a : Act} {w w' : World}

/-- The callee's places. -/
def inPls (ρ : Pls) (fwd : Nat → Option Nat) (hin : Hp) : Pls := fun i => match hin i with
  | some _ => (fwd i).bind ρ
  | none => none
/-- The cells of the rows that are looked at. -/
def VCells (ρ : Pls) (hp : Hp) (Vw : Nat → Prop) : T2 := fun b o => ∃ c row pl, Vw c ∧ hp c = some row ∧ ρ c = some pl ∧ pl.g = b ∧ pl.off ≤ o ∧ o < pl.off + pl.ext
def callT (C : Ctx) (ρ : Pls) (s : St) (Vw : Nat → Prop) : T2 := fun b o => Tc C ρ s.hp b o ∨ VCells ρ s.hp Vw b o

variable {back fwd : Nat → Option Nat} {hin hout hpn : Hp} {Vw : Nat → Prop} {keep : Bool}

theorem call_in (h : SimAt C F ρ s a w) (hc : CallRows s F back fwd hin hout hpn Vw keep) {i : Nat} {r : Row} (hi : hin i = some r) :
    ∃ c row pl, fwd i = some c ∧ back c = some i ∧ s.hp c = some row ∧ row.frz = false ∧ ren back row.c = some r.c ∧ r.frz = false ∧ ρ c = some pl ∧ inPls ρ fwd hin i = some pl ∧ RowRel w (Tc C ρ s.hp) ρ pl row := by
  obtain ⟨c, h1, h2⟩ := hc.inb i (by rw [hi]; intro e; cases e)
  obtain ⟨_, row, c', g1, g2, g3, g4⟩ := hc.inr c i h2
  rw [hi] at g4
  simp only [Option.some.injEq] at g4
  subst g4
  obtain ⟨pl, p1, p2⟩ := h.heap.row c row g1
  exact ⟨c, row, pl, h1, h2, g1, g2, g3, rfl, p1, by simp only [inPls, hi, h1, Option.bind_some]; exact p1, p2⟩

theorem call_mut (h : SimAt C F ρ s a w) (hc : CallRows s F back fwd hin hout hpn Vw keep) {b o : Nat} (hm : Mut (inPls ρ fwd hin) hin b o) :
    ∃ i c row pl, fwd i = some c ∧ back c = some i ∧ hin i ≠ none ∧ s.hp c = some row ∧ row.frz = false ∧ ρ c = some pl ∧ pl.g = b ∧ pl.off ≤ o ∧ o < pl.off + pl.ext := by
  obtain ⟨i, r, pl, h1, h2, h3, h4, h5, h6⟩ := hm
  obtain ⟨c, row, pl', e1, e2, e3, e4, e5, e6, e7, e8, e9⟩ := call_in h hc h1
  rw [h3] at e8
  simp only [Option.some.injEq] at e8
  subst e8
  exact ⟨i, c, row, pl, e1, e2, (by rw [h1]; intro e; cases e), e3, e4, e7, h4, h5, h6⟩
theorem call_mut' (h : SimAt C F ρ s a w) (hc : CallRows s F back fwd hin hout hpn Vw keep) {b o : Nat} (hm : Mut (inPls ρ fwd hin) hin b o) : Mut ρ s.hp b o := by
  obtain ⟨i, c, row, pl, e1, e2, e0, e3, e4, e5, e6, e7, e8⟩ := call_mut h hc hm
  exact ⟨c, row, pl, e3, e4, e5, e6, e7, e8⟩

/-- The caller's side meets what the contract asks. -/
theorem call_pre (h : SimAt C F ρ s a w) (hc : CallRows s F back fwd hin hout hpn Vw keep) :
    (∀ b o, callT C ρ s Vw b o → ¬ Mut (inPls ρ fwd hin) hin b o) ∧ HR w (callT C ρ s Vw) (inPls ρ fwd hin) hin ∧ (∀ i, hin i = none → inPls ρ fwd hin i = none) ∧
      (∀ g c, C.G g = some c → WF c ∧ noref c = true ∧ RC w (callT C ρ s Vw) (.pointer (some ⟨g, 0, none⟩)) (.cptr c [])) ∧ Keeps w (Tc C ρ s.hp) w (callT C ρ s Vw) ∧ RenOk back ρ (inPls ρ fwd hin) := by
  have hk : Keeps w (Tc C ρ s.hp) w (callT C ρ s Vw) := fun b o u h1 h2 => ⟨.inl h1, h2⟩
  have hren : RenOk back ρ (inPls ρ fwd hin) := by
    intro c i pl h1 h2
    obtain ⟨e1, row, c', _, _, _, e5⟩ := hc.inr c i h1
    simp only [inPls, e5, e1, Option.bind_some]
    exact h2
  refine ⟨fun b o ht hm => ?_, ⟨fun i r hi => ?_, fun i i' r r' pl pl' hne h1 h2 h3 h4 h5 h6 x x1 x2 x3 x4 => ?_⟩, fun i hi => by simp only [inPls, hi], fun g c hg => ⟨(h.glob g c hg).1, (h.glob g c hg).2.1, (h.glob g c hg).2.2.keep hk⟩, hk, hren⟩
  · rcases ht with ht | ⟨c', row', pl', v1, v2, v3, v4, v5, v6⟩
    · exact ht.2 (call_mut' h hc hm)
    · obtain ⟨i, c, row, pl, e1, e2, e0, e3, e4, e5, e6, e7, e8⟩ := call_mut h hc hm
      have hne : c ≠ c' := fun e => by subst e; exact (hc.view c v1).1 i e1
      exact h.heap.sep c c' row row' pl pl' hne e3 e4 v2 e5 v3 (by rw [e6, v4]) o e7 e8 v5 v6
  · obtain ⟨c, row, pl, e1, e2, e3, e4, e5, e6, e7, e8, e9⟩ := call_in h hc hi
    refine ⟨pl, e8, ?_⟩
    have h1 : RowRel w (callT C ρ s Vw) ρ pl ⟨row.c, row.frz⟩ := RowRel.keep hk (Ext.refl _) rfl e9
    have := RowRel.ren (f' := r.frz) hren h1 e5
    exact this
  · obtain ⟨c, row, q, e1, e2, e3, e4, e5, e6, e7, e8, e9⟩ := call_in h hc h1
    obtain ⟨c', row', q', e1', e2', e3', e4', e5', e6', e7', e8', e9'⟩ := call_in h hc h3
    rw [h4] at e8
    rw [h5] at e8'
    simp only [Option.some.injEq] at e8 e8'
    subst e8; subst e8'
    have hcne : c ≠ c' := fun e => by subst e; exact hne (hc.inj i i' c e1 e1')
    exact h.heap.sep c c' row row' pl pl' hcne e3 e4 e3' e7 e7' h6 x x1 x2 x3 x4

/-- The places behind the call. -/
def outPls (ρ ρ' : Pls) (newOf : Nat → Option Nat) : Pls := fun c => match newOf c with
  | some i => ρ' i
  | none => ρ c

/-- newOf tells of a new name whose row it is. -/
def NewOf (fwd : Nat → Option Nat) (hin : Hp) (newOf : Nat → Option Nat) : Prop := ∀ c i, newOf c = some i ↔ (fwd i = some c ∧ hin i = none)

theorem call_post (h : SimAt C F ρ s a w) (hc : CallRows s F back fwd hin hout hpn Vw keep) {newOf : Nat → Option Nat} (hnew : NewOf fwd hin newOf) {ρ' : Pls} {F' : Nat → Prop} (hF' : ∀ c, F' c → F c ∧ newOf c = none)
    {v : Value} {res res' : PV} (hkeep : keep = true → cellfree res = true) (hren : ren fwd res = some res')
    (q1 : RV w' (fun b o => (callT C ρ s Vw b o ∨ Mut (inPls ρ fwd hin) hin b o ∨ w.heap.size ≤ b) ∧ ¬ Mut ρ' hout b o) ρ' v res)
    (q2 : HR w' (fun b o => (callT C ρ s Vw b o ∨ Mut (inPls ρ fwd hin) hin b o ∨ w.heap.size ≤ b) ∧ ¬ Mut ρ' hout b o) ρ' hout)
    (q3 : ∀ i pl, hin i ≠ none → inPls ρ fwd hin i = some pl → ρ' i = some pl) (q4 : FR (Mut (inPls ρ fwd hin) hin) w w')
    (q5 : ∀ i row pl, hout i = some row → ρ' i = some pl → ∀ j, j < pl.ext → w.heap.size ≤ pl.g ∨ Mut (inPls ρ fwd hin) hin pl.g (pl.off + j)) :
    Ext ρ (outPls ρ ρ' newOf) ∧ SimAt C F' (outPls ρ ρ' newOf) { s with hp := hpn } a w' ∧ (RV w' (Tc C (outPls ρ ρ' newOf) hpn) (outPls ρ ρ' newOf) v res') := by
  -- the names
  have hnfwd : ∀ c i, newOf c = some i → fwd i = some c ∧ hin i = none := fun c i e => (hnew c i).1 e
  have hnewF : ∀ c i, newOf c = some i → F c := by
    intro c i e
    obtain ⟨e1, e2⟩ := hnfwd c i e
    rcases hc.dom i c e1 with e3 | e3
    · exact absurd e2 e3
    · obtain ⟨c', e4, e5⟩ := hc.new i e3 e2
      rw [e1] at e4
      simp only [Option.some.injEq] at e4
      subst e4
      exact e5
  have hold : ∀ c, ρ c ≠ none → newOf c = none := by
    intro c e
    cases hn : newOf c with
    | none => rfl
    | some i => exact absurd (h.free c (hnewF c i hn)).1 e
  have hpl : ∀ c, newOf c = none → outPls ρ ρ' newOf c = ρ c := fun c e => by simp only [outPls, e]
  have hpln : ∀ c i, newOf c = some i → outPls ρ ρ' newOf c = ρ' i := fun c i e => by simp only [outPls, e]
  have hext : Ext ρ (outPls ρ ρ' newOf) := fun c pl e => by
    rw [hpl c (hold c (by rw [e]; intro e'; cases e'))]; exact e
  have hfpl : ∀ i c, fwd i = some c → ρ' i = outPls ρ ρ' newOf c ∨ hin i ≠ none := by
    intro i c e
    cases hi : hin i with
    | none => exact .inl (hpln c i ((hnew c i).2 ⟨e, hi⟩)).symm
    | some r => right; intro e'; cases e'
  have hfin : ∀ i c pl, fwd i = some c → hin i ≠ none → ρ c = some pl → ρ' i = some pl ∧ outPls ρ ρ' newOf c = some pl := by
    intro i c pl e1 e2 e3
    have e4 : inPls ρ fwd hin i = some pl := by
      unfold inPls
      split
      · rw [e1, Option.bind_some, e3]
      · rename_i e; exact absurd e e2
    exact ⟨q3 i pl e2 e4, hext c pl e3⟩
  have hrenok : RenOk fwd ρ' (outPls ρ ρ' newOf) := by
    intro i c pl e1 e2
    rcases hfpl i c e1 with e3 | e3
    · rw [← e3]; exact e2
    · obtain ⟨c', e4, e5⟩ := hc.inb i e3
      rw [e1] at e4
      simp only [Option.some.injEq] at e4
      subst e4
      obtain ⟨_, row, _, g1, _⟩ := hc.inr c i e5
      obtain ⟨pl', p1, _⟩ := h.heap.row c row g1
      obtain ⟨p2, p3⟩ := hfin i c pl' e1 e3 p1
      rw [e2] at p2
      simp only [Option.some.injEq] at p2
      subst p2
      exact p3
  -- a row behind the call: of the callee's, or as it was
  have hcase : ∀ c row, hpn c = some row → (∃ i r, fwd i = some c ∧ hout i = some r ∧ ren fwd r.c = some row.c ∧ row.frz = r.frz ∧ ρ' i = outPls ρ ρ' newOf c) ∨
      ((∀ i, fwd i ≠ some c) ∧ ∃ r, s.hp c = some r ∧ row.c = r.c ∧ (row.frz = false → r.frz = false) ∧ (row.frz = r.frz ∨ Vw c) ∧ newOf c = none) := by
    intro c row hrow
    by_cases hf : ∃ i, fwd i = some c
    · obtain ⟨i, hi⟩ := hf
      left
      rcases hc.out i c hi with ⟨_, e⟩ | ⟨r, c', e1, e2, e3⟩
      · rw [hrow] at e; cases e
      · rw [hrow] at e3
        simp only [Option.some.injEq] at e3
        subst e3
        refine ⟨i, r, hi, e1, e2, rfl, ?_⟩
        obtain ⟨pl, p1, _⟩ := q2.row i r e1
        rw [p1, hrenok i c pl hi p1]
    · right
      have hf' : ∀ i, fwd i ≠ some c := fun i e => hf ⟨i, e⟩
      have hnn : newOf c = none := by
        cases hn : newOf c with
        | none => rfl
        | some i => exact absurd (hnfwd c i hn).1 (hf' i)
      refine ⟨hf', ?_⟩
      rcases hc.rest c hf' with e | ⟨e0, r, e1, e2⟩
      · rw [hrow] at e; exact ⟨row, e.symm, rfl, id, .inl rfl, hnn⟩
      · rw [hrow] at e2
        simp only [Option.some.injEq] at e2
        subst e2
        exact ⟨r, e1, rfl, (fun e => by cases e), .inr e0, hnn⟩
  -- a place of the callee's rows: new, or one of those that were handed over
  have hcell : ∀ {b o u}, w.cell? ⟨b, o, none⟩ = some u → ¬ Mut (inPls ρ fwd hin) hin b o → w'.cell? ⟨b, o, none⟩ = some u := fun e hm => (q4.block _ (lt_of_cell? e)).cell hm e
  have hMutNew : ∀ b o, b < w.heap.size → Mut (outPls ρ ρ' newOf) hpn b o → Mut ρ s.hp b o := by
    rintro b o hb ⟨c, row, pl, h1, h2, h3, h4, h5, h6⟩
    rcases hcase c row h1 with ⟨i, r, e1, e2, e3, e4, e5⟩ | ⟨e1, r, e2, e3, e4, e5, e6⟩
    · rcases q5 i r pl e2 (e5.trans h3) (o - pl.off) (by omega) with hg | hg
      · omega
      · rw [h4, show pl.off + (o - pl.off) = o by omega] at hg
        exact call_mut' h hc hg
    · rw [hpl c e6] at h3
      exact ⟨c, r, pl, e2, e4 h2, h3, h4, h5, h6⟩
  have hk : Keeps w (Tc C ρ s.hp) w' (Tc C (outPls ρ ρ' newOf) hpn) := by
    intro b o u hT hcl
    exact ⟨⟨hT.1, fun hm => hT.2 (hMutNew b o (lt_of_cell? hcl) hm)⟩, hcell hcl fun hm => hT.2 (call_mut' h hc hm)⟩
  have hMutOut : ∀ b o, (callT C ρ s Vw b o ∨ Mut (inPls ρ fwd hin) hin b o ∨ w.heap.size ≤ b) → keep = false → Mut (outPls ρ ρ' newOf) hpn b o → Mut ρ' hout b o := by
    rintro b o hT hkp ⟨c, row, pl, h1, h2, h3, h4, h5, h6⟩
    rcases hcase c row h1 with ⟨i, r, e1, e2, e3, e4, e5⟩ | ⟨e1, r, e2, e3, e4, e5, e6⟩
    · exact ⟨i, r, pl, e2, by rw [← e4]; exact h2, e5.trans h3, h4, h5, h6⟩
    · exfalso
      rw [hpl c e6] at h3
      have hcM : Mut ρ s.hp b o := ⟨c, r, pl, e2, e4 h2, h3, h4, h5, h6⟩
      rcases hT with (hT | ⟨c', row', pl', v1, v2, v3, v4, v5, v6⟩) | hT | hT
      · exact hT.2 hcM
      · by_cases hcc : c = c'
        · subst hcc
          have := (hc.view c v1).2 hkp row h1
          rw [h2] at this
          cases this
        · exact h.heap.sep c c' r row' pl pl' hcc e2 (e4 h2) v2 h3 v3 (by rw [h4, v4]) o h5 h6 v5 v6
      · obtain ⟨i, c', row', pl', g1, g2, g0, g3, g4, g5, g6, g7, g8⟩ := call_mut h hc hT
        have hcc : c ≠ c' := fun e => by subst e; exact e1 i g1
        exact h.heap.sep c c' r row' pl pl' hcc e2 (e4 h2) g3 h3 g5 (by rw [h4, g6]) o h5 h6 g7 g8
      · obtain ⟨pl', p1, p2⟩ := h.heap.row c r e2
        rw [h3] at p1
        simp only [Option.some.injEq] at p1
        subst p1
        have := p2.lt
        omega
  have hfirst : ∀ b o, (callT C ρ s Vw b o ∨ Mut (inPls ρ fwd hin) hin b o ∨ w.heap.size ≤ b) → (C.T0 b o ∨ C.M0 b o ∨ C.w0.heap.size ≤ b) := by
    rintro b o ((hT | ⟨c', row', pl', v1, v2, v3, v4, v5, v6⟩) | hT | hT)
    · exact hT.1
    · have := h.inn c' row' pl' v2 v3 (o - pl'.off) (by omega)
      rw [v4, show pl'.off + (o - pl'.off) = o by omega] at this
      rcases this with e | e
      · exact .inr (.inr e)
      · exact .inr (.inl e)
    · obtain ⟨i, c', row', pl', g1, g2, g0, g3, g4, g5, g6, g7, g8⟩ := call_mut h hc hT
      have := h.inn c' row' pl' g3 g5 (o - pl'.off) (by omega)
      rw [g6, show pl'.off + (o - pl'.off) = o by omega] at this
      rcases this with e | e
      · exact .inr (.inr e)
      · exact .inr (.inl e)
    · exact .inr (.inr (Nat.le_trans h.frame.size hT))
  have hk2 : keep = false → Keeps w' (fun b o => (callT C ρ s Vw b o ∨ Mut (inPls ρ fwd hin) hin b o ∨ w.heap.size ≤ b) ∧ ¬ Mut ρ' hout b o) w' (Tc C (outPls ρ ρ' newOf) hpn) :=
    fun hkp b o u hT hcl => ⟨⟨hfirst b o hT.1, fun hm => hT.2 (hMutOut b o hT.1 hkp hm)⟩, hcl⟩
  have hres : RV w' (Tc C (outPls ρ ρ' newOf) hpn) ρ' v res := by
    cases hkp : keep with
    | false => exact q1.keep (hk2 hkp) (Ext.refl _)
    | true => exact q1.free (hkeep hkp)
  have hrowo : ∀ i r, hout i = some r → ∃ pl, ρ' i = some pl ∧ RowRel w' (Tc C (outPls ρ ρ' newOf) hpn) ρ' pl r := by
    intro i r e
    obtain ⟨pl, p1, p2⟩ := q2.row i r e
    refine ⟨pl, p1, ?_⟩
    cases hkp : keep with
    | false => exact RowRel.keep (hk2 hkp) (Ext.refl _) rfl p2
    | true => exact RowRel.free (hc.free hkp i r e) p2
  -- where the extents of a row of the callee's lie
  have hlies : ∀ i r pl x, hout i = some r → ρ' i = some pl → pl.off ≤ x → x < pl.off + pl.ext → w.heap.size ≤ pl.g ∨ Mut (inPls ρ fwd hin) hin pl.g x := by
    intro i r pl x e1 e2 x1 x2
    have := q5 i r pl e1 e2 (x - pl.off) (by omega)
    rwa [show pl.off + (x - pl.off) = x by omega] at this
  have hapart : ∀ i r pl c r' pl' x, hout i = some r → ρ' i = some pl → (∀ i, fwd i ≠ some c) → s.hp c = some r' → ρ c = some pl' → pl.g = pl'.g → pl.off ≤ x → x < pl.off + pl.ext → pl'.off ≤ x → x < pl'.off + pl'.ext → False := by
    intro i r pl c r' pl' x e1 e2 e3 e4 e5 e6 x1 x2 x3 x4
    rcases hlies i r pl x e1 e2 x1 x2 with hg | hg
    · obtain ⟨pl'', p1, p2⟩ := h.heap.row c r' e4
      rw [e5] at p1
      simp only [Option.some.injEq] at p1
      subst p1
      have := p2.lt
      omega
    · obtain ⟨j, c', row', pl2, g1, g2, g0, g3, g4, g5, g6, g7, g8⟩ := call_mut h hc hg
      have hcc : c' ≠ c := fun e => by subst e; exact e3 j g1
      exact h.heap.sep c' c row' r' pl2 pl' hcc g3 g4 e4 g5 e5 (by rw [g6, e6]) x g7 g8 x3 x4
  refine ⟨hext, ⟨h.defers, h.size, fun j hj => ⟨(h.fr j hj).1, (h.fr j hj).2.keep hk hext⟩, ⟨fun c row hrow => ?_, fun c c' row row' pl pl' hne h1 h2 h3 h4 h5 h6 x x1 x2 x3 x4 => ?_⟩, fun c hcF => ?_, fun c row pl h1 h3 j hj => ?_, ?_, fun g c hg => ⟨(h.glob g c hg).1, (h.glob g c hg).2.1, (h.glob g c hg).2.2.keep hk⟩⟩, hres.ren hrenok hren⟩
  · rcases hcase c row hrow with ⟨i, r, e1, e2, e3, e4, e5⟩ | ⟨e1, r, e2, e3, e4, e5, e6⟩
    · obtain ⟨pl, p1, p2⟩ := hrowo i r e2
      refine ⟨pl, by rw [← e5]; exact p1, ?_⟩
      have h1 : RowRel w' (Tc C (outPls ρ ρ' newOf) hpn) ρ' pl ⟨r.c, r.frz⟩ := p2
      exact RowRel.ren (f' := row.frz) hrenok h1 e3
    · obtain ⟨pl, p1, p2⟩ := h.heap.row c r e2
      refine ⟨pl, by rw [hpl c e6]; exact p1, ?_⟩
      have h1 : RowRel w (Tc C ρ s.hp) ρ pl ⟨row.c, row.frz⟩ := by
        obtain ⟨cs, t, fz, g1, g2, g3, g4, g5, g6⟩ := p2
        exact ⟨cs, t, fz, g1, g2, by rw [e3]; exact g3, by rw [e3]; exact g4, g5, by rw [e3]; exact g6⟩
      refine RowRel.kept h1 (q4.block _ p2.lt) (fun o o1 o2 hm => ?_) hk hext
      obtain ⟨j, c', row', pl2, g1, g2, g0, g3, g4, g5, g6, g7, g8⟩ := call_mut h hc hm
      have hcc : c' ≠ c := fun e => by subst e; exact e1 j g1
      exact h.heap.sep c' c row' r pl2 pl hcc g3 g4 e2 g5 p1 g6 o g7 g8 o1 o2
  · rcases hcase c row h1 with ⟨i, r, e1, e2, e3, e4, e5⟩ | ⟨e1, r, e2, e3, e4, e5, e6⟩
    · rcases hcase c' row' h3 with ⟨i', r', e1', e2', e3', e4', e5'⟩ | ⟨e1', r', e2', e3', e4', _, e6'⟩
      · have hii : i ≠ i' := fun e => by
          subst e
          rw [e1] at e1'
          simp only [Option.some.injEq] at e1'
          exact hne e1'
        exact q2.sep i i' r r' pl pl' hii e2 (by rw [← e4]; exact h2) e2' (e5.trans h4) (e5'.trans h5) h6 x x1 x2 x3 x4
      · rw [hpl c' e6'] at h5
        exact hapart i r pl c' r' pl' x e2 (e5.trans h4) e1' e2' h5 h6 x1 x2 x3 x4
    · rcases hcase c' row' h3 with ⟨i', r', e1', e2', e3', e4', e5'⟩ | ⟨e1', r', e2', e3', e4', _, e6'⟩
      · rw [hpl c e6] at h4
        exact hapart i' r' pl' c r pl x e2' (e5'.trans h5) e1 e2 h4 h6.symm x3 x4 x1 x2
      · rw [hpl c e6] at h4
        rw [hpl c' e6'] at h5
        exact h.heap.sep c c' r r' pl pl' hne e2 (e4 h2) e2' h4 h5 h6 x x1 x2 x3 x4
  · obtain ⟨f1, f2⟩ := hF' c hcF
    obtain ⟨g1, g2⟩ := h.free c f1
    refine ⟨by rw [hpl c f2]; exact g1, ?_⟩
    show hpn c = none
    have hnf : ∀ i, fwd i ≠ some c := by
      intro i e
      cases hi : hin i with
      | none => have := (hnew c i).2 ⟨e, hi⟩; rw [f2] at this; cases this
      | some r =>
        obtain ⟨c', row', _, e1, e2, e3, _⟩ := call_in h hc hi
        rw [e] at e1
        simp only [Option.some.injEq] at e1
        subst e1
        rw [g2] at e3
        cases e3
    rcases hc.rest c hnf with e | ⟨_, r, e1, _⟩
    · rw [e]; exact g2
    · rw [g2] at e1; cases e1
  · rcases hcase c row h1 with ⟨i, r, e1, e2, e3, e4, e5⟩ | ⟨e1, r, e2, e3, e4, e5, e6⟩
    · rcases q5 i r pl e2 (e5.trans h3) j hj with hg | hg
      · exact .inl (Nat.le_trans h.frame.size hg)
      · obtain ⟨i', c', row', pl2, g1, g2, g0, g3, g4, g5, g6, g7, g8⟩ := call_mut h hc hg
        have := h.inn c' row' pl2 g3 g5 (pl.off + j - pl2.off) (by omega)
        rwa [g6, show pl2.off + (pl.off + j - pl2.off) = pl.off + j by omega] at this
    · rw [hpl c e6] at h3
      exact h.inn c r pl e2 h3 j hj
  · refine h.frame.trans q4 fun x o hx hm => ?_
    obtain ⟨i', c', row', pl2, g1, g2, g0, g3, g4, g5, g6, g7, g8⟩ := call_mut h hc hm
    have := h.inn c' row' pl2 g3 g5 (o - pl2.off) (by omega)
    rw [g6, show pl2.off + (o - pl2.off) = o by omega] at this
    rcases this with e | e
    · omega
    · exact e
end
end Go.Pe
