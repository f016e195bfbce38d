/- Merged texts: the pure machine and what the walks show. Conditions: as each statement says. -/
import Derived.MapKept
import Derived.WideKeyRuns
import Derived.RangeFuncRecord
import Derived.Carry
import Derived.AtR
import Derived.RangeFuncIn
import Derived.KernelRfl
import Derived.Laws.BitsAllLaws
import Derived.Test.YtnjbfdlcefmlmaaGreatDoorQ1
set_option linter.unusedSimpArgs false
set_option linter.unusedVariables false
namespace Go.Pe
mutual
def Sh.free : Sh → Bool
 | .any => false
 | .st _ fs => Sh.Oq fs
 | .parr _ _ e => Sh.free e
 | .vec .. => false
 | _ => true
termination_by structural s => s
def Sh.Oq : List Sh → Bool
 | [] => true
 | s :: l => Sh.free s && Sh.Oq l
termination_by structural l => l
end
mutual
def Av : PV → Bool
 | .st _ fs => Bh fs
 | .tup fs => Bh fs
 | .parr _ _ sh _ => Sh.free sh
 | .vec _ c => Nat.beq (Aa c) 0
 | .cptr .. | .fb .. => false
 | _ => true
termination_by structural p => p
def Bh : List PV → Bool
 | [] => true
 | p :: l => Av p && Bh l
termination_by structural l => l
end
theorem FX : ∀ {l : List PV}, Bh l = true → ∀ q ∈ l, Av q = true
 | [], _, q, h => by cases h
 | p :: l, h, q, hq => by
  simp only [Bh, Bool.and_eq_true] at h
  rcases List.mem_cons.1 hq with rfl | hq
  ·exact h.1
  ·exact FX h.2 q hq
theorem GU : ∀ {l : List PV}, (∀ q ∈ l, Av q = true) → Bh l = true
 | [], _ => rfl
 | p :: l, h => by simp only [Bh, Bool.and_eq_true]; exact ⟨h p (by simp), GU fun q hq => h q (by simp [hq])⟩
mutual
theorem Kw : ∀ (sh : Sh) (p : PV), conf sh p = true → Sh.free sh = true → Av p = true
 | .any, _, _, h => by simp [Sh.free] at h
 | .int k, p, h, _ => by cases p <;> first | rfl | (simp [conf] at h)
 | .bool, p, h, _ => by cases p <;> first | rfl | (simp [conf] at h)
 | .str, p, h, _ => by cases p <;> first | rfl | (simp [conf] at h)
 | .st n shs, p, h, hf => by
  cases p <;> simp only [conf, Bool.and_eq_true, reduceCtorEq] at h
  simp only [Av]
  exact Jn shs _ h.2 (by simpa only [Sh.free] using hf)
 | .iarr k n, p, h, _ => by cases p <;> first | rfl | (simp [conf] at h)
 | .parr s n e, p, h, hf => by
  cases p <;> simp only [conf, Bool.and_eq_true, reduceCtorEq] at h
  simp only [Av]
  rw [← Sh.beq_eq _ _ h.2]
  simpa only [Sh.free] using hf
 | .vec s e, _, _, h => by simp [Sh.free] at h
theorem Jn : ∀ (shs : List Sh) (l : List PV), EG shs l = true → Sh.Oq shs = true → Bh l = true
 | [], l, h, _ => by cases l <;> first | rfl | (simp [EG] at h)
 | sh :: shs, l, h, hf => by
  cases l <;> simp only [EG, Bool.and_eq_true, reduceCtorEq] at h
  simp only [Sh.Oq, Bool.and_eq_true] at hf
  simp only [Bh, Bool.and_eq_true]
  exact ⟨Kw sh _ h.1 hf.1, Jn shs _ h.2 hf.2⟩
end
mutual
theorem El : ∀ (p : PV), WF p → Av p = true → ∀ q ∈ flat p, Av q = true
 | .st n fs, hw, hn, q, h => DC fs (by simp only [WF] at hw; exact hw.2) (by simpa only [Av] using hn) q (by simpa only [flat] using h)
 | .iarr k n l, _, _, q, h => by
  simp only [flat, List.mem_map] at h
  obtain ⟨x, hx, rfl⟩ := h
  rfl
 | .parr s n sh l, hw, hn, q, h => by
  simp only [WF] at hw
  simp only [Av] at hn
  exact DC l hw.2.1 (GU fun q hq => Kw sh q (hw.2.2 q hq).2.1 hn) q (by simpa only [flat] using h)
 | .int .., _, hn, q, h | .bool _, _, hn, q, h | .str _, _, hn, q, h | .tup _, _, hn, q, h | .vec .., _, hn, q, h | .cptr .., _, hn, q, h | .at .., _, hn, q, h | .ref .., _, hn, q, h | .nilp, _, hn, q, h | .fv _, _, hn, q, h | .fb .., _, hn, q, h | .fn .., _, hn, q, h | .fn2 .., _, hn, q, h | .undef, _, hn, q, h => by
  simp only [flat, List.mem_singleton] at h
  subst h
  exact hn
theorem DC : ∀ (l : List PV), WFL l → Bh l = true → ∀ q ∈ Ag l, Av q = true
 | [], _, _, q, h => by simp [Ag] at h
 | p :: l, hw, hn, q, h => by
  simp only [WFL] at hw
  simp only [Bh, Bool.and_eq_true] at hn
  simp only [Ag, List.mem_append] at h
  rcases h with h | h
  ·exact El p hw.1 hn.1 q h
  ·exact DC l hw.2 hn.2 q h
end
theorem RC.free {w w' : World} {T T' : T2} {v : Value} {p : PV} (hf : Av p = true) (h : RC w T v p) : RC w' T' v p := by
 cases h with
 | undef v h => exact .undef v h
 | int k n => exact .int k n
 | bool b => exact .bool b
 | str s h => exact .str s h
 | nilp => exact .nilp
 | fv v h => exact .fv v h
 | fb f p cs hs h => simp [Av] at hf
 | vec0 A c nl p h0 hn hc => exact .vec0 A c nl p h0 hn hc
 | vec1 b o n c p us hn hc hm h1 h2 =>
  simp only [Av] at hf
  have h0 := Nat.eq_of_beq_eq_true hf
  rw [h0] at hn
  subst hn
  exact .vec0 _ _ _ _ h0 rfl (fun h => by cases h)
 | cptr b o p path us h1 h2 => simp [Av] at hf
theorem RO.free {w w' : World} {T T' : T2} {ρ : Pls} {v : Value} {p : PV} (hf : Av p = true) (h : RO w T ρ v p) : RO w' T' ρ v p := by
 cases p <;> simp only [RO] at h ⊢ <;> first | exact h | exact h.free hf
theorem RN.free {w w' : World} {T T' : T2} {ρ : Pls} {v : Value} {p : PV} (hw : WF p) (hf : Av p = true) (h : RN w T ρ v p) : RN w' T' ρ v p := by
 unfold RN at *
 split at h
 ·rename_i hp
  rw [if_pos hp]
  obtain ⟨cs, h1, h2, h3⟩ := h
  exact ⟨cs, h1, h2, fun j q u hq hu => (h3 j q u hq hu).free (El p hw hf q (List.mem_of_getElem? hq))⟩
 ·rename_i hp; rw [if_neg hp]; exact h.free hf
theorem RV.free {w w' : World} {T T' : T2} {ρ : Pls} {v : Value} {p : PV} (hf : Av p = true) (h : RV w T ρ v p) : RV w' T' ρ v p := by
 refine ⟨h.1, ?_⟩
 have h2 := h.2
 have hw := h.1
 cases p
 case tup ps =>
  obtain ⟨vs, a, b, c⟩ := h2
  simp only [WF] at hw
  simp only [Av] at hf
  exact ⟨vs, a, b, fun j q u hq hu => (c j q u hq hu).free (AC hw q (List.mem_of_getElem? hq)) (FX hf q (List.mem_of_getElem? hq))⟩
 all_goals exact RN.free hw hf h2
theorem Ao.free {w : World} {T T' : T2} {ρ : Pls} {pl : Pl} {row : Row} (hf : Av row.c = true) (h : Ao w T ρ pl row) : Ao w T' ρ pl row := by
 rcases h with h | ⟨cs, t, fz, h1, h2, h3, h4, h5, h6⟩
 ·exact .inl h
 exact .inr ⟨cs, t, fz, h1, h2, h3, h4, h5, fun j q u hq hu => (h6 j q u hq hu).free (El _ h4 hf q (List.mem_of_getElem? hq))⟩
theorem Ao.kept {w w' : World} {T T' : T2} {ρ ρ' : Pls} {M : T2} {pl : Pl} {row : Row} (h : Ao w T ρ pl row) (hb : Bd M pl.g w.heap[pl.g]? w'.heap[pl.g]?) (hm : ∀ o, pl.off ≤ o → o < pl.off + pl.ext → ¬ M pl.g o)
  (hk : Ay w T w' T') (he : Ext ρ ρ') : Ao w' T' ρ' pl row := by
 rcases h with ⟨o1, o2, o3, o4, o5, o, o6, o7⟩ | ⟨cs, t, fz, h1, h2, h3, h4, h5, h6⟩
 ·rcases hb with hb | ⟨_, _, _, _, _, _, m3⟩ | ⟨ds, ds', t', fz', b1, b2, b3, b4⟩
  ·exact .inl ⟨o1, o2, o3, o4, o5, o, by rw [← hb]; exact o6, o7⟩
  ·exact absurd m3 (hm 0 (by omega) (by omega))
  ·rw [o6] at b1
   rw [Option.some.inj b1] at o7
   cases o7.mov
 rcases hb with hb | ⟨p, p', e1, _, m1, _⟩ | ⟨ds, ds', t', fz', b1, b2, b3, b4⟩
 ·exact .inr ⟨cs, t, fz, by rw [← hb]; exact h1, h2, h3, h4, h5, fun j q u hq hu => (h6 j q u hq hu).keep hk he⟩
 ·rw [h1] at e1
  rw [← Option.some.inj e1] at m1
  cases m1
 ·rw [h1] at b1
  simp only [Option.some.injEq, Obj.cells.injEq] at b1
  obtain ⟨rfl, rfl, rfl⟩ := b1
  refine .inr ⟨ds', t, fz, b2, by omega, h3, h4, h5, fun j q u hq hu => ?_⟩
  have hj : j < size row.c := by
   have := (List.getElem?_eq_some_iff.1 hq).1
   rw [Ae _ h4] at this
   exact this
  rw [b4 _ (hm _ (by omega) (by omega))] at hu
  exact (h6 j q u hq hu).keep hk he
theorem Bd.cell {M : T2} {w w' : World} {b o : Nat} {u : Value} (hb : Bd M b w.heap[b]? w'.heap[b]?) (hm : ¬ M b o) (h : w.cell? ⟨b, o, none⟩ = some u) : w'.cell? ⟨b, o, none⟩ = some u := by
 rcases hb with hb | ⟨p, p', e1, _, m1, _⟩ | ⟨ds, ds', t', fz', b1, b2, b3, b4⟩
 ·simp only [World.cell?, ← hb] at h ⊢; exact h
 ·obtain ⟨cs, t, fz, e2, _⟩ := CB h
  rw [e1] at e2
  rw [Option.some.inj e2] at m1
  cases m1
 ·rw [AB b1] at h
  rw [AB b2, b4 o hm]
  exact h
structure Ea (s : St) (F : Nat → Prop) (back fwd : Nat → Option Nat) (hin hout hpn : Hp) (Vw : Nat → Prop) (keep : Bool) : Prop where
 inr : ∀ c i, back c = some i → fwd i = some c ∧ ∃ row c', s.hp c = some row ∧ row.frz = false ∧ ren back row.c = some c' ∧ hin i = some ⟨c', false⟩
 inb : ∀ i, hin i ≠ none → ∃ c, fwd i = some c ∧ back c = some i
 dom : ∀ i c, fwd i = some c → hin i ≠ none ∨ hout i ≠ none
 new : ∀ i, hout i ≠ none → hin i = none → ∃ c, fwd i = some c ∧ F c
 inj : ∀ i j c, fwd i = some c → fwd j = some c → i = j
 out : ∀ i c, fwd i = some c → (hout i = none ∧ hpn c = none) ∨ ∃ row c', hout i = some row ∧ ren fwd row.c = some c' ∧ hpn c = some ⟨c', row.frz⟩
 rest : ∀ c, (∀ i, fwd i ≠ some c) → hpn c = s.hp c ∨ (Vw c ∧ ∃ row, s.hp c = some row ∧ hpn c = some ⟨row.c, true⟩)
 view : ∀ c, Vw c → (∀ i, fwd i ≠ some c) ∧ (keep = false → ∀ row, hpn c = some row → row.frz = true)
 free : keep = true → ∀ i row, hout i = some row → Av row.c = true
section
variable {C : Ctx} {F : Nat → Prop} {ρ : Pls} {s : St} {a : Act} {w w' : World}
def Bv (ρ : Pls) (fwd : Nat → Option Nat) (hin : Hp) : Pls := fun i => match hin i with
 | some _ => (fwd i).bind ρ
 | none => none
def VCells (ρ : Pls) (hp : Hp) (Vw : Nat → Prop) : T2 := fun b o => ∃ c row pl, Vw c ∧ hp c = some row ∧ ρ c = some pl ∧ pl.g = b ∧ pl.off ≤ o ∧ o < pl.off + pl.ext
def EE (C : Ctx) (ρ : Pls) (s : St) (Vw : Nat → Prop) : T2 := fun b o => Tc C ρ s.hp b o ∨ VCells ρ s.hp Vw b o
variable {back fwd : Nat → Option Nat} {hin hout hpn : Hp} {Vw : Nat → Prop} {keep : Bool}
theorem GN (h : Ac C F ρ s a w) (hc : Ea s F back fwd hin hout hpn Vw keep) {i : Nat} {r : Row} (hi : hin i = some r) :
  ∃ c row pl, fwd i = some c ∧ back c = some i ∧ s.hp c = some row ∧ row.frz = false ∧ ren back row.c = some r.c ∧ r.frz = false ∧ ρ c = some pl ∧ Bv ρ fwd hin i = some pl ∧ Ao w (Tc C ρ s.hp) ρ pl row := by
 obtain ⟨c, h1, h2⟩ := hc.inb i (by rw [hi]; intro e; cases e)
 obtain ⟨_, row, c', g1, g2, g3, g4⟩ := hc.inr c i h2
 rw [hi] at g4
 simp only [Option.some.injEq] at g4
 subst g4
 obtain ⟨pl, p1, p2⟩ := h.heap.row c row g1
 exact ⟨c, row, pl, h1, h2, g1, g2, g3, rfl, p1, by simp only [Bv, hi, h1, Option.bind_some]; exact p1, p2⟩
theorem CE (h : Ac C F ρ s a w) (hc : Ea s F back fwd hin hout hpn Vw keep) {b o : Nat} (hm : Mut (Bv ρ fwd hin) hin b o) :
  ∃ i c row pl, fwd i = some c ∧ back c = some i ∧ hin i ≠ none ∧ s.hp c = some row ∧ row.frz = false ∧ ρ c = some pl ∧ pl.g = b ∧ pl.off ≤ o ∧ o < pl.off + pl.ext := by
 obtain ⟨i, r, pl, h1, h2, h3, h4, h5, h6⟩ := hm
 obtain ⟨c, row, pl', e1, e2, e3, e4, e5, e6, e7, e8, e9⟩ := GN h hc h1
 rw [h3] at e8
 simp only [Option.some.injEq] at e8
 subst e8
 exact ⟨i, c, row, pl, e1, e2, (by rw [h1]; intro e; cases e), e3, e4, e7, h4, h5, h6⟩
theorem G5 (h : Ac C F ρ s a w) (hc : Ea s F back fwd hin hout hpn Vw keep) {b o : Nat} (hm : Mut (Bv ρ fwd hin) hin b o) : Mut ρ s.hp b o := by
 obtain ⟨i, c, row, pl, e1, e2, e0, e3, e4, e5, e6, e7, e8⟩ := CE h hc hm
 exact ⟨c, row, pl, e3, e4, e5, e6, e7, e8⟩
theorem Q0 (h : Ac C F ρ s a w) (hc : Ea s F back fwd hin hout hpn Vw keep) :
  (∀ b o, EE C ρ s Vw b o → ¬ Mut (Bv ρ fwd hin) hin b o) ∧ HR w (EE C ρ s Vw) (Bv ρ fwd hin) hin ∧ (∀ i, hin i = none → Bv ρ fwd hin i = none) ∧
   (∀ g c, C.G g = some c → WF c ∧ noref c = true ∧ RC w (EE C ρ s Vw) (.pointer (some ⟨g, 0, none⟩)) (.cptr c [])) ∧ Ay w (Tc C ρ s.hp) w (EE C ρ s Vw) ∧ Fg back ρ (Bv ρ fwd hin) := by
 have hk : Ay w (Tc C ρ s.hp) w (EE C ρ s Vw) := fun b o u h1 h2 => ⟨.inl h1, h2⟩
 have hren : Fg back ρ (Bv ρ fwd hin) := by
  intro c i pl h1 h2
  obtain ⟨e1, row, c', _, _, _, e5⟩ := hc.inr c i h1
  simp only [Bv, e5, e1, Option.bind_some]
  exact h2
 refine ⟨fun b o ht hm => ?_, ⟨fun i r hi => ?_, fun i i' r r' pl pl' hne h1 h2 h3 h4 h5 h6 x x1 x2 x3 x4 => ?_⟩, fun i hi => by simp only [Bv, hi], fun g c hg => ⟨(h.glob g c hg).1, (h.glob g c hg).2.1, (h.glob g c hg).2.2.keep hk⟩, hk, hren⟩
 ·rcases ht with ht | ⟨c', row', pl', v1, v2, v3, v4, v5, v6⟩
  ·exact ht.2 (G5 h hc hm)
  ·obtain ⟨i, c, row, pl, e1, e2, e0, e3, e4, e5, e6, e7, e8⟩ := CE h hc hm
   have hne : c ≠ c' := fun e => by subst e; exact (hc.view c v1).1 i e1
   exact h.heap.sep c c' row row' pl pl' hne e3 e4 v2 e5 v3 (by rw [e6, v4]) o e7 e8 v5 v6
 ·obtain ⟨c, row, pl, e1, e2, e3, e4, e5, e6, e7, e8, e9⟩ := GN h hc hi
  refine ⟨pl, e8, ?_⟩
  have h1 : Ao w (EE C ρ s Vw) ρ pl ⟨row.c, row.frz⟩ := Ao.keep hk (Ext.refl _) rfl e9
  have := Ao.ren (f' := r.frz) hren h1 e5
  exact this
 ·obtain ⟨c, row, q, e1, e2, e3, e4, e5, e6, e7, e8, e9⟩ := GN h hc h1
  obtain ⟨c', row', q', e1', e2', e3', e4', e5', e6', e7', e8', e9'⟩ := GN h hc h3
  rw [h4] at e8
  rw [h5] at e8'
  simp only [Option.some.injEq] at e8 e8'
  subst e8; subst e8'
  have hcne : c ≠ c' := fun e => by subst e; exact hne (hc.inj i i' c e1 e1')
  exact h.heap.sep c c' row row' pl pl' hcne e3 e4 e3' e7 e7' h6 x x1 x2 x3 x4
def Bl (ρ ρ' : Pls) (newOf : Nat → Option Nat) : Pls := fun c => match newOf c with
 | some i => ρ' i
 | none => ρ c
def NewOf (fwd : Nat → Option Nat) (hin : Hp) (newOf : Nat → Option Nat) : Prop := ∀ c i, newOf c = some i ↔ (fwd i = some c ∧ hin i = none)
theorem Pp (h : Ac C F ρ s a w) (hc : Ea s F back fwd hin hout hpn Vw keep) {newOf : Nat → Option Nat} (hnew : NewOf fwd hin newOf) {ρ' : Pls} {F' : Nat → Prop} (hF' : ∀ c, F' c → F c ∧ newOf c = none)
  {v : Value} {res res' : PV} (hkeep : keep = true → Av res = true) (hren : ren fwd res = some res')
  (q1 : RV w' (fun b o => (EE C ρ s Vw b o ∨ Mut (Bv ρ fwd hin) hin b o ∨ w.heap.size ≤ b) ∧ ¬ Mut ρ' hout b o) ρ' v res)
  (q2 : HR w' (fun b o => (EE C ρ s Vw b o ∨ Mut (Bv ρ fwd hin) hin b o ∨ w.heap.size ≤ b) ∧ ¬ Mut ρ' hout b o) ρ' hout)
  (q3 : ∀ i pl, hin i ≠ none → Bv ρ fwd hin i = some pl → ρ' i = some pl) (q4 : FR (Mut (Bv ρ fwd hin) hin) w w')
  (q5 : ∀ i row pl, hout i = some row → ρ' i = some pl → ∀ j, j < pl.ext → w.heap.size ≤ pl.g ∨ Mut (Bv ρ fwd hin) hin pl.g (pl.off + j)) :
  Ext ρ (Bl ρ ρ' newOf) ∧ Ac C F' (Bl ρ ρ' newOf) { s with hp := hpn } a w' ∧ (RV w' (Tc C (Bl ρ ρ' newOf) hpn) (Bl ρ ρ' newOf) v res') := by
 -- the names
 have hnfwd : ∀ c i, newOf c = some i → fwd i = some c ∧ hin i = none := fun c i e => (hnew c i).1 e
 have hnewF : ∀ c i, newOf c = some i → F c := by
  intro c i e
  obtain ⟨e1, e2⟩ := hnfwd c i e
  rcases hc.dom i c e1 with e3 | e3
  ·exact absurd e2 e3
  ·obtain ⟨c', e4, e5⟩ := hc.new i e3 e2
   rw [e1] at e4
   simp only [Option.some.injEq] at e4
   subst e4
   exact e5
 have hold : ∀ c, ρ c ≠ none → newOf c = none := by
  intro c e
  cases hn : newOf c with
  | none => rfl
  | some i => exact absurd (h.free c (hnewF c i hn)).1 e
 have hpl : ∀ c, newOf c = none → Bl ρ ρ' newOf c = ρ c := fun c e => by simp only [Bl, e]
 have hpln : ∀ c i, newOf c = some i → Bl ρ ρ' newOf c = ρ' i := fun c i e => by simp only [Bl, e]
 have hext : Ext ρ (Bl ρ ρ' newOf) := fun c pl e => by
  rw [hpl c (hold c (by rw [e]; intro e'; cases e'))]; exact e
 have hfpl : ∀ i c, fwd i = some c → ρ' i = Bl ρ ρ' newOf c ∨ hin i ≠ none := by
  intro i c e
  cases hi : hin i with
  | none => exact .inl (hpln c i ((hnew c i).2 ⟨e, hi⟩)).symm
  | some r => right; intro e'; cases e'
 have hfin : ∀ i c pl, fwd i = some c → hin i ≠ none → ρ c = some pl → ρ' i = some pl ∧ Bl ρ ρ' newOf c = some pl := by
  intro i c pl e1 e2 e3
  have e4 : Bv ρ fwd hin i = some pl := by
   unfold Bv
   split
   ·rw [e1, Option.bind_some, e3]
   ·rename_i e; exact absurd e e2
  exact ⟨q3 i pl e2 e4, hext c pl e3⟩
 have hrenok : Fg fwd ρ' (Bl ρ ρ' newOf) := by
  intro i c pl e1 e2
  rcases hfpl i c e1 with e3 | e3
  ·rw [← e3]; exact e2
  ·obtain ⟨c', e4, e5⟩ := hc.inb i e3
   rw [e1] at e4
   simp only [Option.some.injEq] at e4
   subst e4
   obtain ⟨_, row, _, g1, _⟩ := hc.inr c i e5
   obtain ⟨pl', p1, _⟩ := h.heap.row c row g1
   obtain ⟨p2, p3⟩ := hfin i c pl' e1 e3 p1
   rw [e2] at p2
   simp only [Option.some.injEq] at p2
   subst p2
   exact p3
 -- a row behind the call: of the callee's, or az it was
 have hcase : ∀ c row, hpn c = some row → (∃ i r, fwd i = some c ∧ hout i = some r ∧ ren fwd r.c = some row.c ∧ row.frz = r.frz ∧ ρ' i = Bl ρ ρ' newOf c) ∨
   ((∀ i, fwd i ≠ some c) ∧ ∃ r, s.hp c = some r ∧ row.c = r.c ∧ (row.frz = false → r.frz = false) ∧ (row.frz = r.frz ∨ Vw c) ∧ newOf c = none) := by
  intro c row hrow
  by_cases hf : ∃ i, fwd i = some c
  ·obtain ⟨i, hi⟩ := hf
   left
   rcases hc.out i c hi with ⟨_, e⟩ | ⟨r, c', e1, e2, e3⟩
   ·rw [hrow] at e; cases e
   ·rw [hrow] at e3
    simp only [Option.some.injEq] at e3
    subst e3
    refine ⟨i, r, hi, e1, e2, rfl, ?_⟩
    obtain ⟨pl, p1, _⟩ := q2.row i r e1
    rw [p1, hrenok i c pl hi p1]
  ·right
   have hf' : ∀ i, fwd i ≠ some c := fun i e => hf ⟨i, e⟩
   have hnn : newOf c = none := by
    cases hn : newOf c with
    | none => rfl
    | some i => exact absurd (hnfwd c i hn).1 (hf' i)
   refine ⟨hf', ?_⟩
   rcases hc.rest c hf' with e | ⟨e0, r, e1, e2⟩
   ·rw [hrow] at e; exact ⟨row, e.symm, rfl, id, .inl rfl, hnn⟩
   ·rw [hrow] at e2
    simp only [Option.some.injEq] at e2
    subst e2
    exact ⟨r, e1, rfl, (fun e => by cases e), .inr e0, hnn⟩
 -- a place of the callee's rows: new, or one of those that were handed over
 have hcell : ∀ {b o u}, w.cell? ⟨b, o, none⟩ = some u → ¬ Mut (Bv ρ fwd hin) hin b o → w'.cell? ⟨b, o, none⟩ = some u := fun e hm => (q4.block _ (Dt e)).cell hm e
 have hMutNew : ∀ b o, b < w.heap.size → Mut (Bl ρ ρ' newOf) hpn b o → Mut ρ s.hp b o := by
  rintro b o hb ⟨c, row, pl, h1, h2, h3, h4, h5, h6⟩
  rcases hcase c row h1 with ⟨i, r, e1, e2, e3, e4, e5⟩ | ⟨e1, r, e2, e3, e4, e5, e6⟩
  ·rcases q5 i r pl e2 (e5.trans h3) (o - pl.off) (by omega) with hg | hg
   ·omega
   ·rw [h4, show pl.off + (o - pl.off) = o by omega] at hg
    exact G5 h hc hg
  ·rw [hpl c e6] at h3
   exact ⟨c, r, pl, e2, e4 h2, h3, h4, h5, h6⟩
 have hk : Ay w (Tc C ρ s.hp) w' (Tc C (Bl ρ ρ' newOf) hpn) := by
  intro b o u hT hcl
  exact ⟨⟨hT.1, fun hm => hT.2 (hMutNew b o (Dt hcl) hm)⟩, hcell hcl fun hm => hT.2 (G5 h hc hm)⟩
 have hMutOut : ∀ b o, (EE C ρ s Vw b o ∨ Mut (Bv ρ fwd hin) hin b o ∨ w.heap.size ≤ b) → keep = false → Mut (Bl ρ ρ' newOf) hpn b o → Mut ρ' hout b o := by
  rintro b o hT hkp ⟨c, row, pl, h1, h2, h3, h4, h5, h6⟩
  rcases hcase c row h1 with ⟨i, r, e1, e2, e3, e4, e5⟩ | ⟨e1, r, e2, e3, e4, e5, e6⟩
  ·exact ⟨i, r, pl, e2, by rw [← e4]; exact h2, e5.trans h3, h4, h5, h6⟩
  ·exfalso
   rw [hpl c e6] at h3
   have hcM : Mut ρ s.hp b o := ⟨c, r, pl, e2, e4 h2, h3, h4, h5, h6⟩
   rcases hT with (hT | ⟨c', row', pl', v1, v2, v3, v4, v5, v6⟩) | hT | hT
   ·exact hT.2 hcM
   ·by_cases hcc : c = c'
    ·subst hcc
     have := (hc.view c v1).2 hkp row h1
     rw [h2] at this
     cases this
    ·exact h.heap.sep c c' r row' pl pl' hcc e2 (e4 h2) v2 h3 v3 (by rw [h4, v4]) o h5 h6 v5 v6
   ·obtain ⟨i, c', row', pl', g1, g2, g0, g3, g4, g5, g6, g7, g8⟩ := CE h hc hT
    have hcc : c ≠ c' := fun e => by subst e; exact e1 i g1
    exact h.heap.sep c c' r row' pl pl' hcc e2 (e4 h2) g3 h3 g5 (by rw [h4, g6]) o h5 h6 g7 g8
   ·obtain ⟨pl', p1, p2⟩ := h.heap.row c r e2
    rw [h3] at p1
    simp only [Option.some.injEq] at p1
    subst p1
    have := p2.lt
    omega
 have hfirst : ∀ b o, (EE C ρ s Vw b o ∨ Mut (Bv ρ fwd hin) hin b o ∨ w.heap.size ≤ b) → (C.T0 b o ∨ C.M0 b o ∨ C.w0.heap.size ≤ b) := by
  rintro b o ((hT | ⟨c', row', pl', v1, v2, v3, v4, v5, v6⟩) | hT | hT)
  ·exact hT.1
  ·have := h.inn c' row' pl' v2 v3 (o - pl'.off) (by omega)
   rw [v4, show pl'.off + (o - pl'.off) = o by omega] at this
   rcases this with e | e
   ·exact .inr (.inr e)
   ·exact .inr (.inl e)
  ·obtain ⟨i, c', row', pl', g1, g2, g0, g3, g4, g5, g6, g7, g8⟩ := CE h hc hT
   have := h.inn c' row' pl' g3 g5 (o - pl'.off) (by omega)
   rw [g6, show pl'.off + (o - pl'.off) = o by omega] at this
   rcases this with e | e
   ·exact .inr (.inr e)
   ·exact .inr (.inl e)
  ·exact .inr (.inr (Nat.le_trans h.frame.size hT))
 have hk2 : keep = false → Ay w' (fun b o => (EE C ρ s Vw b o ∨ Mut (Bv ρ fwd hin) hin b o ∨ w.heap.size ≤ b) ∧ ¬ Mut ρ' hout b o) w' (Tc C (Bl ρ ρ' newOf) hpn) :=
  fun hkp b o u hT hcl => ⟨⟨hfirst b o hT.1, fun hm => hT.2 (hMutOut b o hT.1 hkp hm)⟩, hcl⟩
 have hres : RV w' (Tc C (Bl ρ ρ' newOf) hpn) ρ' v res := by
  cases hkp : keep with
  | false => exact q1.keep (hk2 hkp) (Ext.refl _)
  | true => exact q1.free (hkeep hkp)
 have hrowo : ∀ i r, hout i = some r → ∃ pl, ρ' i = some pl ∧ Ao w' (Tc C (Bl ρ ρ' newOf) hpn) ρ' pl r := by
  intro i r e
  obtain ⟨pl, p1, p2⟩ := q2.row i r e
  refine ⟨pl, p1, ?_⟩
  cases hkp : keep with
  | false => exact Ao.keep (hk2 hkp) (Ext.refl _) rfl p2
  | true => exact Ao.free (hc.free hkp i r e) p2
 -- where the extents of a row of the callee's lie
 have hlies : ∀ i r pl x, hout i = some r → ρ' i = some pl → pl.off ≤ x → x < pl.off + pl.ext → w.heap.size ≤ pl.g ∨ Mut (Bv ρ fwd hin) hin pl.g x := by
  intro i r pl x e1 e2 x1 x2
  have := q5 i r pl e1 e2 (x - pl.off) (by omega)
  rwa [show pl.off + (x - pl.off) = x by omega] at this
 have hapart : ∀ i r pl c r' pl' x, hout i = some r → ρ' i = some pl → (∀ i, fwd i ≠ some c) → s.hp c = some r' → ρ c = some pl' → pl.g = pl'.g → pl.off ≤ x → x < pl.off + pl.ext → pl'.off ≤ x → x < pl'.off + pl'.ext → False := by
  intro i r pl c r' pl' x e1 e2 e3 e4 e5 e6 x1 x2 x3 x4
  rcases hlies i r pl x e1 e2 x1 x2 with hg | hg
  ·obtain ⟨pl'', p1, p2⟩ := h.heap.row c r' e4
   rw [e5] at p1
   simp only [Option.some.injEq] at p1
   subst p1
   have := p2.lt
   omega
  ·obtain ⟨j, c', row', pl2, g1, g2, g0, g3, g4, g5, g6, g7, g8⟩ := CE h hc hg
   have hcc : c' ≠ c := fun e => by subst e; exact e3 j g1
   exact h.heap.sep c' c row' r' pl2 pl' hcc g3 g4 e4 g5 e5 (by rw [g6, e6]) x g7 g8 x3 x4
 refine ⟨hext, ⟨h.defers, h.size, fun j hj => ⟨(h.fr j hj).1, (h.fr j hj).2.keep hk hext⟩, ⟨fun c row hrow => ?_, fun c c' row row' pl pl' hne h1 h2 h3 h4 h5 h6 x x1 x2 x3 x4 => ?_⟩, fun c hcF => ?_, fun c row pl h1 h3 j hj => ?_, ?_, fun g c hg => ⟨(h.glob g c hg).1, (h.glob g c hg).2.1, (h.glob g c hg).2.2.keep hk⟩, C.hX _ _ _ _ hk q4.objs h.amb⟩, hres.ren hrenok hren⟩
 ·rcases hcase c row hrow with ⟨i, r, e1, e2, e3, e4, e5⟩ | ⟨e1, r, e2, e3, e4, e5, e6⟩
  ·obtain ⟨pl, p1, p2⟩ := hrowo i r e2
   refine ⟨pl, by rw [← e5]; exact p1, ?_⟩
   have h1 : Ao w' (Tc C (Bl ρ ρ' newOf) hpn) ρ' pl ⟨r.c, r.frz⟩ := p2
   exact Ao.ren (f' := row.frz) hrenok h1 e3
  ·obtain ⟨pl, p1, p2⟩ := h.heap.row c r e2
   refine ⟨pl, by rw [hpl c e6]; exact p1, ?_⟩
   have h1 : Ao w (Tc C ρ s.hp) ρ pl ⟨row.c, row.frz⟩ := by
    rcases p2 with p2 | ⟨cs, t, fz, g1, g2, g3, g4, g5, g6⟩
    ·exact .inl (by rw [e3]; exact p2)
    ·exact .inr ⟨cs, t, fz, g1, g2, by rw [e3]; exact g3, by rw [e3]; exact g4, g5, by rw [e3]; exact g6⟩
   refine Ao.kept h1 (q4.block _ p2.lt) (fun o o1 o2 hm => ?_) hk hext
   obtain ⟨j, c', row', pl2, g1, g2, g0, g3, g4, g5, g6, g7, g8⟩ := CE h hc hm
   have hcc : c' ≠ c := fun e => by subst e; exact e1 j g1
   exact h.heap.sep c' c row' r pl2 pl hcc g3 g4 e2 g5 p1 g6 o g7 g8 o1 o2
 ·rcases hcase c row h1 with ⟨i, r, e1, e2, e3, e4, e5⟩ | ⟨e1, r, e2, e3, e4, e5, e6⟩
  ·rcases hcase c' row' h3 with ⟨i', r', e1', e2', e3', e4', e5'⟩ | ⟨e1', r', e2', e3', e4', _, e6'⟩
   ·have hii : i ≠ i' := fun e => by
     subst e
     rw [e1] at e1'
     simp only [Option.some.injEq] at e1'
     exact hne e1'
    exact q2.sep i i' r r' pl pl' hii e2 (by rw [← e4]; exact h2) e2' (e5.trans h4) (e5'.trans h5) h6 x x1 x2 x3 x4
   ·rw [hpl c' e6'] at h5
    exact hapart i r pl c' r' pl' x e2 (e5.trans h4) e1' e2' h5 h6 x1 x2 x3 x4
  ·rcases hcase c' row' h3 with ⟨i', r', e1', e2', e3', e4', e5'⟩ | ⟨e1', r', e2', e3', e4', _, e6'⟩
   ·rw [hpl c e6] at h4
    exact hapart i' r' pl' c r pl x e2' (e5'.trans h5) e1 e2 h4 h6.symm x3 x4 x1 x2
   ·rw [hpl c e6] at h4
    rw [hpl c' e6'] at h5
    exact h.heap.sep c c' r r' pl pl' hne e2 (e4 h2) e2' h4 h5 h6 x x1 x2 x3 x4
 ·obtain ⟨f1, f2⟩ := hF' c hcF
  obtain ⟨g1, g2⟩ := h.free c f1
  refine ⟨by rw [hpl c f2]; exact g1, ?_⟩
  show hpn c = none
  have hnf : ∀ i, fwd i ≠ some c := by
   intro i e
   cases hi : hin i with
   | none => have := (hnew c i).2 ⟨e, hi⟩; rw [f2] at this; cases this
   | some r =>
    obtain ⟨c', row', _, e1, e2, e3, _⟩ := GN h hc hi
    rw [e] at e1
    simp only [Option.some.injEq] at e1
    subst e1
    rw [g2] at e3
    cases e3
  rcases hc.rest c hnf with e | ⟨_, r, e1, _⟩
  ·rw [e]; exact g2
  ·rw [g2] at e1; cases e1
 ·rcases hcase c row h1 with ⟨i, r, e1, e2, e3, e4, e5⟩ | ⟨e1, r, e2, e3, e4, e5, e6⟩
  ·rcases q5 i r pl e2 (e5.trans h3) j hj with hg | hg
   ·exact .inl (Nat.le_trans h.frame.size hg)
   ·obtain ⟨i', c', row', pl2, g1, g2, g0, g3, g4, g5, g6, g7, g8⟩ := CE h hc hg
    have := h.inn c' row' pl2 g3 g5 (pl.off + j - pl2.off) (by omega)
    rwa [g6, show pl2.off + (pl.off + j - pl2.off) = pl.off + j by omega] at this
  ·rw [hpl c e6] at h3
   exact h.inn c r pl e2 h3 j hj
 ·refine h.frame.trans q4 fun x o hx hm => ?_
  obtain ⟨i', c', row', pl2, g1, g2, g0, g3, g4, g5, g6, g7, g8⟩ := CE h hc hm
  have := h.inn c' row' pl2 g3 g5 (o - pl2.off) (by omega)
  rw [g6, show pl2.off + (o - pl2.off) = o by omega] at this
  rcases this with e | e
  ·omega
  ·exact e
end
end Go.Pe
namespace Go.Pe
def Co (i : Nat) : List Nat → Bool
 | [] => false
 | j :: l => Nat.beq i j || Co i l
def nodupB : List Nat → Bool
 | [] => true
 | i :: l => !Co i l && nodupB l
theorem Bo {i : Nat} : ∀ {l : List Nat}, Co i l = true ↔ i ∈ l
 | [] => by simp [Co]
 | j :: l => by
  simp only [Co, Bool.or_eq_true, List.mem_cons, Bo (l := l)]
  exact or_congr_left ⟨Nat.eq_of_beq_eq_true, fun e => by subst e; exact Nat.beq_refl i⟩
def keys {α : Type} (l : List (Nat × α)) : List Nat := l.map (·.1)
theorem Ak {α : Type} {i : Nat} {x : α} : ∀ {l : List (Nat × α)}, Ab l i = some x → (i, x) ∈ l
 | [], h => by simp [Ab] at h
 | (j, y) :: l, h => by
  simp only [Ab] at h
  split at h
  ·rename_i hb
   have := Nat.eq_of_beq_eq_true hb
   subst this
   simp only [Option.some.injEq] at h
   subst h
   simp
  ·exact List.mem_cons_of_mem _ (Ak h)
theorem F5 {α : Type} {i : Nat} : ∀ {l : List (Nat × α)}, i ∉ keys l → Ab l i = none
 | [], _ => rfl
 | (j, y) :: l, h => by
  simp only [keys, List.map_cons, List.mem_cons, not_or] at h
  simp only [Ab]
  rw [if_neg, F5 (l := l) h.2]
  intro hb
  exact h.1 (Nat.eq_of_beq_eq_true hb).symm
theorem Cb {α : Type} {i : Nat} : ∀ {l : List (Nat × α)}, i ∈ keys l → ∃ x, Ab l i = some x
 | [], h => by simp [keys] at h
 | (j, y) :: l, h => by
  simp only [Ab]
  split
  ·exact ⟨_, rfl⟩
  ·rename_i hb
   simp only [keys, List.map_cons, List.mem_cons] at h
   rcases h with h | h
   ·exact absurd (by rw [h]; exact Nat.beq_refl j) hb
   ·exact Cb (l := l) h
theorem Cn {α : Type} {i : Nat} {x : α} : ∀ {l : List (Nat × α)}, nodupB (keys l) = true → (i, x) ∈ l → Ab l i = some x
 | [], _, h => by cases h
 | (j, y) :: l, hn, h => by
  simp only [keys, List.map_cons, nodupB, Bool.and_eq_true, Bool.not_eq_true'] at hn
  simp only [Ab]
  rcases List.mem_cons.1 h with h | h
  ·simp only [Prod.mk.injEq] at h
   obtain ⟨rfl, rfl⟩ := h
   rw [if_pos (Nat.beq_refl i)]
  ·rw [if_neg, Cn hn.2 h]
   intro hb
   have := Nat.eq_of_beq_eq_true hb
   subst this
   have : Co j (l.map (·.1)) = true := Bo.2 (List.mem_map.2 ⟨(j, x), h, rfl⟩)
   rw [this] at hn
   exact absurd hn.1 (by simp)
theorem Fu {α : Type} {i : Nat} {x : α} {l : List (Nat × α)} (h : (i, x) ∈ l) : i ∈ keys l := List.mem_map.2 ⟨(i, x), h, rfl⟩
theorem Aw : ∀ {ups : List (Nat × Option Row)} {hp : Hp} {c : Nat}, c ∉ keys ups → Ai hp ups c = hp c
 | [], _, _, _ => rfl
 | (j, y) :: l, hp, c, h => by
  simp only [keys, List.map_cons, List.mem_cons, not_or] at h
  simp only [Ai]
  rw [Aw (ups := l) h.2, upd_ne _ _ h.1]
theorem CK : ∀ {ups : List (Nat × Option Row)} {hp : Hp} {c : Nat} {x : Option Row}, nodupB (keys ups) = true → (c, x) ∈ ups → Ai hp ups c = x
 | [], _, _, _, _, h => by cases h
 | (j, y) :: l, hp, c, x, hn, h => by
  simp only [keys, List.map_cons, nodupB, Bool.and_eq_true, Bool.not_eq_true'] at hn
  simp only [Ai]
  rcases List.mem_cons.1 h with h | h
  ·simp only [Prod.mk.injEq] at h
   obtain ⟨rfl, rfl⟩ := h
   rw [Aw, upd_same]
   intro hm
   have hm' := Bo.2 hm
   simp only [keys] at hm'
   rw [hm'] at hn
   exact absurd hn.1 (by simp)
  ·exact CK hn.2 h
mutual
def refsOf : PV → List Nat
 | .st _ fs => LX fs
 | .at id _ => [id]
 | .ref id _ _ _ _ => [id]
 | .fn _ id => [id]
 | .fn2 _ i j => [i, j]
 | _ => []
termination_by structural p => p
def LX : List PV → List Nat
 | [] => []
 | p :: l => refsOf p ++ LX l
termination_by structural l => l
end

def Dv (rs : Nat → Option Row) (id : Nat) (p : List Stp) (s o n : Nat) : Option (PV × List Prop) := match rs id with
 | some r => (match node r.c p with
  | some q => if Bb q && Nat.beq s (Am q) then some (.vec false (sub q o n), [o + n ≤ Aa q] ++ Ba r.c p) else none
  | none => none)
 | none => none
def G8 (b : Nat → Option Nat) (rs : Nat → Option Row) : List PV → Option (List PV × List Prop)
 | [] => some ([], [])
 | .ref id p s o n :: l => (match b id, Dv rs id p s o n, G8 b rs l with
  | none, some x, some y => some (x.1 :: y.1, x.2 ++ y.2)
  | _, _, _ => none)
 | _ :: _ => none
def shVw : List PV → Sh
 | .vec _ (.iarr k _ _) :: _ => .vec 1 (.int k)
 | .vec _ (.parr s _ e _) :: _ => .vec s e
 | _ => .any
def GV (b : Nat → Option Nat) (rs : Nat → Option Row) (id : Nat) (p : List Stp) (s o n : Nat) : Option (PV × List Prop) := match rs id with
 | some r => (match r.c, p with
  | .st m fs, [] => if Nat.beq s 1 && Nat.beq o 0 && Nat.beq m n then (match G8 b rs fs with
    | some y => if y.1.all fun u => conf (shVw y.1) u then some (.vec false (.parr 1 n (shVw y.1) y.1), y.2) else none
    | none => none) else none
  | _, _ => none)
 | none => none
mutual
def Bp (b : Nat → Option Nat) (rs : Nat → Option Row) : PV → Option (PV × List Prop)
 | .st n fs => match Fx b rs fs with
  | some x => some (.st n x.1, x.2)
  | none => none
 | .tup _ => none
 | .at id p => match b id with
  | some i => some (.at i p, [])
  | none => match rs id with
   | some r => if noref r.c && !AO r.c then some (.cptr r.c p, []) else none
   | none => none
 | .ref id p s o n => match b id with
  | some i => some (.ref i p s o n, [])
  | none => match Dv rs id p s o n with
   | some x => some x
   | none => GV b rs id p s o n
 | .fn f id => match b id with
  | some i => some (.fn f i, [])
  | none => none
 | .fn2 f i j => match b i, b j with
  | some x, some y => some (.fn2 f x y, [])
  | _, _ => none
 | p => some (p, [])
termination_by structural p => p
def Fx (b : Nat → Option Nat) (rs : Nat → Option Row) : List PV → Option (List PV × List Prop)
 | [] => some ([], [])
 | p :: l => match Bp b rs p, Fx b rs l with
  | some x, some y => some (x.1 :: y.1, x.2 ++ y.2)
  | _, _ => none
termination_by structural l => l
end
theorem JR {b : Nat → Option Nat} {rs : Nat → Option Row} {p : PV} {l m : List PV} {ob : List Prop} (h : Fx b rs (p :: l) = some (m, ob)) : ∃ q r o1 o2, Bp b rs p = some (q, o1) ∧ Fx b rs l = some (r, o2) ∧ m = q :: r ∧ ob = o1 ++ o2 := by
 simp only [Fx] at h
 split at h
 ·rename_i x y h1 h2
  simp only [Option.some.injEq, Prod.mk.injEq] at h
  exact ⟨x.1, y.1, x.2, y.2, h1, h2, h.1.symm, h.2.symm⟩
 ·cases h
theorem He {b : Nat → Option Nat} {rs : Nat → Option Row} : ∀ {l m : List PV} {ob : List Prop}, Fx b rs l = some (m, ob) → All ob → m.length = l.length ∧ ∀ (j : Nat) (q : PV), m[j]? = some q → ∃ p o, l[j]? = some p ∧ Bp b rs p = some (q, o) ∧ All o
 | [], m, ob, h, _ => by
  simp only [Fx, Option.some.injEq, Prod.mk.injEq] at h
  obtain ⟨rfl, rfl⟩ := h
  exact ⟨rfl, fun j q hq => by simp at hq⟩
 | p :: l, m, ob, h, ho => by
  obtain ⟨q, r, o1, o2, h1, h2, rfl, rfl⟩ := JR h
  obtain ⟨e1, e2⟩ := He h2 ho.right
  refine ⟨by simp [e1], fun j x hx => ?_⟩
  cases j with
  | zero => simp at hx; subst hx; exact ⟨p, o1, rfl, h1, ho.left⟩
  | succ j => simp at hx; simpa using e2 j x hx
def V1 (b : Nat → Option Nat) (rs : Nat → Option Row) (y x : PV) : Prop := ∃ ob, Bp b rs y = some (x, ob) ∧ All ob
def Br (b : Nat → Option Nat) (rs : Nat → Option Row) (l m : List PV) : Prop := m.length = l.length ∧ ∀ (j : Nat) (x : PV), m[j]? = some x → ∃ y, l[j]? = some y ∧ V1 b rs y x
section
variable {b : Nat → Option Nat} {rs : Nat → Option Row}
theorem Br.single {p q : PV} (h : V1 b rs p q) : Br b rs [p] [q] := ⟨rfl, fun j x hx => by
 cases j with
 | zero => simp at hx; subst hx; exact ⟨p, rfl, h⟩
 | succ j => simp at hx⟩
theorem Br.append {l l' m m' : List PV} (h : Br b rs l m) (h' : Br b rs l' m') : Br b rs (l ++ l') (m ++ m') := by
 refine ⟨by simp [h.1, h'.1], fun j x hx => ?_⟩
 by_cases hj : j < m.length
 ·rw [List.getElem?_append_left hj] at hx
  rw [List.getElem?_append_left (by rw [← h.1]; exact hj)]
  exact h.2 j x hx
 ·rw [List.getElem?_append_right (by omega)] at hx
  rw [List.getElem?_append_right (by rw [← h.1]; omega), ← h.1]
  exact h'.2 _ x hx
theorem MB : ∀ {p : PV}, leaf p = true → noref p = true → AO p = false → Bp b rs p = some (p, []) := by
 intro p h1 h2 h3
 cases p <;> simp only [leaf, noref, AO, reduceCtorEq] at h1 h2 h3 <;> rfl
mutual
def untup : PV → Bool
 | .st _ fs => Bg fs
 | .parr _ _ _ l => Bg l
 | .tup _ => false
 | _ => true
termination_by structural p => p
def Bg : List PV → Bool
 | [] => true
 | p :: l => untup p && Bg l
termination_by structural l => l
end
mutual
theorem F6 : ∀ (p : PV), untup p = true → ∀ q ∈ flat p, AO q = false
 | .st n fs, hu, q, h => E5 fs (by simpa only [untup] using hu) q (by simpa only [flat] using h)
 | .parr s n sh l, hu, q, h => E5 l (by simpa only [untup] using hu) q (by simpa only [flat] using h)
 | .iarr k n l, _, q, h => by
  simp only [flat, List.mem_map] at h
  obtain ⟨x, _, rfl⟩ := h
  rfl
 | .tup _, hu, _, _ => by simp [untup] at hu
 | .int .., _, q, h | .bool _, _, q, h | .str _, _, q, h | .vec .., _, q, h | .cptr .., _, q, h | .at .., _, q, h | .ref .., _, q, h | .nilp, _, q, h | .fv _, _, q, h | .fb .., _, q, h | .fn .., _, q, h | .fn2 .., _, q, h | .undef, _, q, h => by
  simp only [flat, List.mem_singleton] at h
  subst h
  rfl
theorem E5 : ∀ (l : List PV), Bg l = true → ∀ q ∈ Ag l, AO q = false
 | [], _, q, h => by simp [Ag] at h
 | p :: l, hu, q, h => by
  simp only [Bg, Bool.and_eq_true] at hu
  simp only [Ag, List.mem_append] at h
  rcases h with h | h
  ·exact F6 p hu.1 q h
  ·exact E5 l hu.2 q h
end

theorem Br.self {l : List PV} (h : ∀ q ∈ l, leaf q = true ∧ noref q = true ∧ AO q = false) : Br b rs l l := ⟨rfl, fun _ x hx => ⟨x, hx, [], MB (h x (List.mem_of_getElem? hx)).1 (h x (List.mem_of_getElem? hx)).2.1 (h x (List.mem_of_getElem? hx)).2.2, All.nil⟩⟩
theorem J8 (hrs : ∀ i r, rs i = some r → WF r.c) {id : Nat} {p : List Stp} {s o n : Nat} {x : PV × List Prop} (h : Dv rs id p s o n = some x) (ho : All x.2) : (size x.1 = 1 ∧ Pe.isAgg x.1 = false) ∧ WF x.1 ∧ (AO x.1 = false ∧ noref x.1 = true) ∧ flat x.1 = [x.1] := by
 unfold Dv at h
 split at h
 ·rename_i r hr
  split at h
  ·rename_i q' hn
   split at h
   ·rename_i hb
    simp only [Bool.and_eq_true] at hb
    simp only [Option.some.injEq] at h
    subst h
    obtain ⟨n1, _⟩ := Dg p (hrs _ _ hr) hn ho.tail
    obtain ⟨s1, s2, _⟩ := Dl n1 hb.1 ho.head
    exact ⟨⟨rfl, rfl⟩, by simp only [WF]; exact ⟨s1, s2, fun e => by cases e⟩, ⟨rfl, rfl⟩, rfl⟩
   ·cases h
  ·cases h
 ·cases h
theorem Ij : ∀ {l m : List PV} {ob : List Prop}, G8 b rs l = some (m, ob) → All ob → m.length = l.length ∧ Ag l = l ∧ Ar l = l.length ∧
  ∀ (j : Nat) (x : PV), m[j]? = some x → ∃ id p s o n ob', l[j]? = some (.ref id p s o n) ∧ b id = none ∧ Dv rs id p s o n = some (x, ob') ∧ All ob'
 | [], m, ob, h, _ => by
  simp only [G8, Option.some.injEq, Prod.mk.injEq] at h
  obtain ⟨rfl, rfl⟩ := h
  exact ⟨rfl, rfl, rfl, fun j x hx => by simp at hx⟩
 | .ref id p s o n :: l, m, ob, h, ho => by
  simp only [G8] at h
  split at h
  ·rename_i x y hb hx hy
   simp only [Option.some.injEq, Prod.mk.injEq] at h
   obtain ⟨rfl, rfl⟩ := h
   obtain ⟨g1, g2, g3, g4⟩ := Ij hy ho.right
   refine ⟨by simp [g1], by simp only [Ag, flat, g2, List.singleton_append], by simp only [Ar, size, g3, List.length_cons]; omega, fun j z hz => ?_⟩
   cases j with
   | zero => simp at hz; subst hz; exact ⟨id, p, s, o, n, x.2, rfl, hb, hx, ho.left⟩
   | succ j => simp at hz; simpa using g4 j z hz
  ·cases h
 | .st .. :: _, _, _, h, _ | .int .. :: _, _, _, h, _ | .bool _ :: _, _, _, h, _ | .str _ :: _, _, _, h, _ | .iarr .. :: _, _, _, h, _ | .parr .. :: _, _, _, h, _ | .tup _ :: _, _, _, h, _ | .vec .. :: _, _, _, h, _ | .cptr .. :: _, _, _, h, _ | .at .. :: _, _, _, h, _ | .nilp :: _, _, _, h, _ | .fn .. :: _, _, _, h, _ | .fn2 .. :: _, _, _, h, _ | .fv _ :: _, _, _, h, _ | .fb .. :: _, _, _, h, _ | .undef :: _, _, _, h, _ => by simp [G8] at h
theorem Gx : ∀ {m : List PV}, (∀ q ∈ m, flat q = [q]) → Ag m = m
 | [], _ => rfl
 | p :: l, h => by simp only [Ag]; rw [h p (by simp), Gx fun q hq => h q (by simp [hq])]; rfl
theorem Gu (hrs : ∀ i r, rs i = some r → WF r.c) {id : Nat} {p : List Stp} {s o n : Nat} {x : PV × List Prop} (h : GV b rs id p s o n = some x) (ho : All x.2) :
  ∃ r fs us, rs id = some r ∧ r.c = .st n fs ∧ p = [] ∧ s = 1 ∧ o = 0 ∧ x.1 = .vec false (.parr 1 n (shVw us) us) ∧ us.length = n ∧ fs.length = n ∧ Ag fs = fs ∧ Ag us = us ∧ (∀ u ∈ us, WF u ∧ size u = 1 ∧ conf (shVw us) u = true ∧ noref u = true) ∧
   ∀ (j : Nat) (y : PV), us[j]? = some y → ∃ id p s o n ob', fs[j]? = some (.ref id p s o n) ∧ b id = none ∧ Dv rs id p s o n = some (y, ob') ∧ All ob' := by
 unfold GV at h
 split at h
 ·rename_i r hr
  split at h
  ·rename_i m fs hc
   split at h
   ·rename_i hb
    simp only [Bool.and_eq_true, Nat.beq_eq] at hb
    obtain ⟨⟨rfl, rfl⟩, rfl⟩ := hb
    split at h
    ·rename_i y hy
     split at h
     ·rename_i hall
      simp only [Option.some.injEq] at h
      subst h
      obtain ⟨us, ob⟩ := y
      obtain ⟨g1, g2, g3, g4⟩ := Ij hy ho
      have hw := hrs _ _ hr
      rw [hc] at hw
      simp only [WF] at hw
      have hu : ∀ u ∈ us, WF u ∧ size u = 1 ∧ noref u = true ∧ flat u = [u] := fun u hu => by
       obtain ⟨j, hj⟩ := List.mem_iff_getElem?.1 hu
       obtain ⟨id', p', s', o', n', ob', e1, e2, e3, e4⟩ := g4 j u hj
       obtain ⟨w1, w2, w3, w4⟩ := J8 hrs e3 e4
       exact ⟨w2, w1.1, w3.2, w4⟩
      have hl : fs.length = m := by rw [← g3]; exact hw.1
      refine ⟨r, fs, us, hr, hc, rfl, rfl, rfl, rfl, by rw [← hl]; exact g1, hl, g2, Gx fun q hq => (hu q hq).2.2.2, fun u hu' => ?_, g4⟩
      exact ⟨(hu u hu').1, (hu u hu').2.1, List.all_eq_true.1 hall u hu', (hu u hu').2.2.1⟩
     ·cases h
    ·cases h
   ·cases h
  ·cases h
 ·cases h
theorem MU (hrs : ∀ i r, rs i = some r → WF r.c) {id : Nat} {p : List Stp} {s o n : Nat} {x : PV × List Prop} (h : GV b rs id p s o n = some x) (ho : All x.2) : (size x.1 = 1 ∧ Pe.isAgg x.1 = false) ∧ WF x.1 ∧ (AO x.1 = false ∧ noref x.1 = true) := by
 obtain ⟨r, fs, us, g1, g2, g3, g4, g5, g6, g7, g8, g9, g10, g11, g12⟩ := Gu hrs h ho
 rw [g6]
 refine ⟨⟨rfl, rfl⟩, ?_, rfl, rfl⟩
 simp only [WF]
 exact ⟨⟨g7, Bt fun q hq => (g11 q hq).1, fun q hq => ⟨(g11 q hq).2.1, (g11 q hq).2.2.1, (g11 q hq).2.2.2⟩⟩, rfl, fun e => by cases e⟩
mutual
theorem Hl (hrs : ∀ i r, rs i = some r → WF r.c) : ∀ (p q : PV) (ob : List Prop), WF p → untup p = true → Bp b rs p = some (q, ob) → All ob → size q = size p ∧ Pe.isAgg q = Pe.isAgg p ∧ AO q = false ∧ WF q ∧ Br b rs (flat p) (flat q)
 | .st n fs, q, ob, hw, hu, h, ho => by
  simp only [Bp] at h
  split at h
  ·rename_i x hx
   simp only [Option.some.injEq, Prod.mk.injEq] at h
   obtain ⟨rfl, rfl⟩ := h
   simp only [WF] at hw
   obtain ⟨h1, h2, h3⟩ := Ji hrs fs x.1 x.2 hw.2 (by simpa only [untup] using hu) hx ho
   exact ⟨rfl, rfl, rfl, by simp only [WF]; exact ⟨by rw [h1]; exact hw.1, h2⟩, h3⟩
  ·cases h
 | .parr s n sh l, q, ob, hw, hu, h, _ => by
  simp only [Bp, Option.some.injEq, Prod.mk.injEq] at h
  obtain ⟨rfl, rfl⟩ := h
  exact ⟨rfl, rfl, rfl, hw, Br.self fun q hq => ⟨ED _ q hq, AZ _ hw rfl q hq, F6 _ hu q hq⟩⟩
 | .iarr k n l, q, ob, hw, hu, h, _ => by
  simp only [Bp, Option.some.injEq, Prod.mk.injEq] at h
  obtain ⟨rfl, rfl⟩ := h
  exact ⟨rfl, rfl, rfl, hw, Br.self fun q hq => ⟨ED _ q hq, AZ _ hw rfl q hq, F6 _ hu q hq⟩⟩
 | .tup _, _, _, _, hu, _, _ => by simp [untup] at hu
 | .at id p, q, ob, _, _, h, ho => by
  have hq : V1 b rs (.at id p) q := ⟨ob, h, ho⟩
  simp only [Bp] at h
  split at h
  ·simp only [Option.some.injEq, Prod.mk.injEq] at h
   obtain ⟨rfl, rfl⟩ := h
   exact ⟨rfl, rfl, rfl, trivial, .single hq⟩
  ·split at h
   ·rename_i r hr
    split at h
    ·rename_i hn
     simp only [Bool.and_eq_true] at hn
     simp only [Option.some.injEq, Prod.mk.injEq] at h
     obtain ⟨rfl, rfl⟩ := h
     exact ⟨rfl, rfl, rfl, by simp only [WF]; exact ⟨hrs _ _ hr, hn.1⟩, .single hq⟩
    ·cases h
   ·cases h
 | .fn f id, q, ob, _, _, h, ho => by
  have hq : V1 b rs (.fn f id) q := ⟨ob, h, ho⟩
  simp only [Bp] at h
  split at h
  ·simp only [Option.some.injEq, Prod.mk.injEq] at h
   obtain ⟨rfl, rfl⟩ := h
   exact ⟨rfl, rfl, rfl, trivial, .single hq⟩
  ·cases h
 | .fn2 f i j, q, ob, _, _, h, ho => by
  have hq : V1 b rs (.fn2 f i j) q := ⟨ob, h, ho⟩
  simp only [Bp] at h
  split at h
  ·simp only [Option.some.injEq, Prod.mk.injEq] at h
   obtain ⟨rfl, rfl⟩ := h
   exact ⟨rfl, rfl, rfl, trivial, .single hq⟩
  ·cases h
 | .ref id p s o n, q, ob, _, _, h, ho => by
  have hq : V1 b rs (.ref id p s o n) q := ⟨ob, h, ho⟩
  simp only [Bp] at h
  split at h
  ·simp only [Option.some.injEq, Prod.mk.injEq] at h
   obtain ⟨rfl, rfl⟩ := h
   exact ⟨rfl, rfl, rfl, trivial, .single hq⟩
  ·split at h
   ·rename_i x hx
    simp only [Option.some.injEq] at h
    subst h
    obtain ⟨w1, w2, w3, w4⟩ := J8 hrs hx ho
    exact ⟨w1.1, w1.2, w3.1, w2, by rw [w4]; exact .single hq⟩
   ·obtain ⟨w1, w2, w3⟩ := MU hrs h ho
    exact ⟨w1.1, w1.2, w3.1, w2, by rw [Ed (p := q) (by rw [leaf_agg, show Pe.isAgg q = false from w1.2]; rfl)]; exact .single hq⟩
 | .int .., q, ob, hw, _, h, ho | .bool _, q, ob, hw, _, h, ho | .str _, q, ob, hw, _, h, ho | .vec .., q, ob, hw, _, h, ho | .cptr .., q, ob, hw, _, h, ho | .nilp, q, ob, hw, _, h, ho | .fv _, q, ob, hw, _, h, ho | .fb .., q, ob, hw, _, h, ho | .undef, q, ob, hw, _, h, ho => by
  have hq : V1 b rs _ q := ⟨ob, h, ho⟩
  simp only [Bp, Option.some.injEq, Prod.mk.injEq] at h
  obtain ⟨rfl, rfl⟩ := h
  exact ⟨rfl, rfl, rfl, hw, .single hq⟩
theorem Ji (hrs : ∀ i r, rs i = some r → WF r.c) : ∀ (l m : List PV) (ob : List Prop), WFL l → Bg l = true → Fx b rs l = some (m, ob) → All ob → Ar m = Ar l ∧ WFL m ∧ Br b rs (Ag l) (Ag m)
 | [], m, ob, _, _, h, _ => by
  simp only [Fx, Option.some.injEq, Prod.mk.injEq] at h
  obtain ⟨rfl, rfl⟩ := h
  exact ⟨rfl, by simp [WFL], rfl, fun j x hx => by simp [Ag] at hx⟩
 | p :: l, m, ob, hw, hu, h, ho => by
  obtain ⟨q, r, o1, o2, h1, h2, rfl, rfl⟩ := JR h
  simp only [WFL] at hw
  simp only [Bg, Bool.and_eq_true] at hu
  obtain ⟨a1, _, _, a4, a5⟩ := Hl hrs p q o1 hw.1 hu.1 h1 ho.left
  obtain ⟨b1, b2, b3⟩ := Ji hrs l r o2 hw.2 hu.2 h2 ho.right
  exact ⟨by simp only [Ar]; omega, by simp only [WFL]; exact ⟨a4, b2⟩, by simp only [Ag]; exact a5.append b3⟩
end

variable {w : World} {T T' : T2} {ρ ρ' : Pls}
theorem Iw (hk : Ay w T w T') {id : Nat} (hrow : ∀ r, rs id = some r → ∃ pl, ρ id = some pl ∧ Ao w T ρ pl r ∧ ∀ x, pl.off ≤ x → x < pl.off + pl.ext → T' pl.g x) {v : Value} {p : List Stp} {s o n : Nat} {x : PV} {ob : List Prop}
  (h : RO w T ρ v (.ref id p s o n)) (hv : Dv rs id p s o n = some (x, ob)) (ho : All ob) : RC w T' v x := by
 obtain ⟨pl, A, c, h1, rfl, h3, h4, h5⟩ := h
 unfold Dv at hv
 split at hv
 ·rename_i r hr
  split at hv
  ·rename_i q hq
   split at hv
   ·rename_i hcond
    simp only [Bool.and_eq_true] at hcond
    simp only [Option.some.injEq, Prod.mk.injEq] at hv
    obtain ⟨rfl, rfl⟩ := hv
    obtain ⟨pl', p1, p2, p3⟩ := hrow r hr
    rw [h1] at p1
    simp only [Option.some.injEq] at p1
    subst p1
    have hsz := Nat.eq_of_beq_eq_true hcond.2
    obtain ⟨c1, _, c2, c4⟩ := p2.Cy hq (Bf hcond.1) ho.tail
    obtain ⟨s1, s2, s3, s4, s5⟩ := Dl c1 hcond.1 ho.head
    have hext : size r.c ≤ pl.ext := by obtain ⟨cs, t, fz, g1, g2, g3, g4⟩ := p2.cell (Dk hq (Bf hcond.1)); exact g3
    rcases Nat.eq_zero_or_pos n with h0 | h0
    ·subst h0
     exact .vec0 _ _ _ _ s3 rfl (fun h => by cases h)
    ·obtain ⟨rfl, _⟩ := h5 (by omega)
     have hex : ∀ j, ∃ u, ∀ y, (flat (sub q o n))[j]? = some y → w.cell? ⟨pl.g, pl.off + (Af p + o * s) + j, none⟩ = some u ∧ RO w T ρ u y ∧ noref y = true ∧ Af p + o * s + j < pl.ext := by
      intro j
      cases hj : (flat (sub q o n))[j]? with
      | none => exact ⟨Go.undef, fun y hy => by cases hy⟩
      | some y =>
       obtain ⟨u, e1, e2⟩ := c4 _ y (s5 j y hj)
       refine ⟨u, fun y' hy => ?_⟩
       cases hy
       refine ⟨?_, e2, AZ _ s1 (Hu s2) y (List.mem_of_getElem? hj), ?_⟩
       ·rw [← e1, ← hsz]
        congr 2
        omega
       ·have := (List.getElem?_eq_some_iff.1 (s5 j y hj)).1
        rw [Ae _ c1, ← hsz] at this
        omega
     obtain ⟨us, hus⟩ := Classical.axiomOfChoice hex
     exact .vec1 _ _ _ _ _ us s3 h3 h4 (fun j y hy => ⟨p3 _ (by omega) (by have := (hus j y hy).2.2.2; omega), (hus j y hy).1⟩) (fun j y hy => ((hus j y hy).2.1.closed (hus j y hy).2.2.1).keep hk)
   ·cases hv
  ·cases hv
 ·cases hv
theorem V1.rel (hb : Fg b ρ ρ') (hk : Ay w T w T') (hrow : ∀ i r, b i = none → rs i = some r → ∃ pl, ρ i = some pl ∧ Ao w T ρ pl r ∧ ∀ x, pl.off ≤ x → x < pl.off + pl.ext → T' pl.g x) (hrs : ∀ i r, rs i = some r → WF r.c)
  {v : Value} {x y : PV} (h : RO w T ρ v y) (hv : V1 b rs y x) : RO w T' ρ' v x := by
 obtain ⟨ob, hv, ho⟩ := hv
 cases y <;> simp only [RO, Bp] at h hv
 case st => cases h
 case tup => cases hv
 case «at» id p =>
  obtain ⟨pl, h1, rfl⟩ := h
  split at hv
  ·rename_i i hi
   simp only [Option.some.injEq, Prod.mk.injEq] at hv
   obtain ⟨rfl, rfl⟩ := hv
   exact ⟨pl, hb _ _ _ hi h1, rfl⟩
  ·rename_i hi
   split at hv
   ·rename_i r hr
    split at hv
    ·rename_i hn
     simp only [Bool.and_eq_true, Bool.not_eq_true'] at hn
     obtain ⟨hn, htu⟩ := hn
     simp only [Option.some.injEq, Prod.mk.injEq] at hv
     obtain ⟨rfl, rfl⟩ := hv
     obtain ⟨pl', p1, p2, p3⟩ := hrow id r hi hr
     rw [h1] at p1
     simp only [Option.some.injEq] at p1
     subst p1
     obtain ⟨c1, _, _, c4⟩ := p2.Cy (path := []) (q := r.c) rfl htu All.nil
     have hsz : size r.c ≤ pl.ext := by obtain ⟨cs, t, fz, g1, g2, g3, g4⟩ := p2.cell htu; exact g3
     have hex : ∀ j, ∃ u, ∀ q, (flat r.c)[j]? = some q → w.cell? ⟨pl.g, pl.off + j, none⟩ = some u ∧ RO w T ρ u q := by
      intro j
      cases hj : (flat r.c)[j]? with
      | none => exact ⟨Go.undef, fun q hq => by cases hq⟩
      | some q =>
       obtain ⟨u, e1, e2⟩ := c4 j q hj
       exact ⟨u, fun q' hq => by cases hq; exact ⟨by simpa [Af] using e1, e2⟩⟩
     obtain ⟨us, hus⟩ := Classical.axiomOfChoice hex
     have hjl : ∀ j q, (flat r.c)[j]? = some q → j < size r.c := fun j q hq => by
      have := (List.getElem?_eq_some_iff.1 hq).1
      rw [Ae _ c1] at this
      exact this
     simp only [RO]
     exact .cptr _ _ _ _ us (fun j q hq => ⟨p3 _ (by omega) (by have := hjl j q hq; omega), (hus j q hq).1⟩) (fun j q hq => ((hus j q hq).2.closed (AZ _ c1 hn q (List.mem_of_getElem? hq))).keep hk)
    ·cases hv
   ·cases hv
 case fn f id =>
  obtain ⟨pl, h1, rfl⟩ := h
  split at hv
  ·rename_i i hi
   simp only [Option.some.injEq, Prod.mk.injEq] at hv
   obtain ⟨rfl, rfl⟩ := hv
   exact ⟨pl, hb _ _ _ hi h1, rfl⟩
  ·cases hv
 case fn2 f i j =>
  obtain ⟨pl, pl', h1, h2, rfl⟩ := h
  split at hv
  ·rename_i x y hx hy
   simp only [Option.some.injEq, Prod.mk.injEq] at hv
   obtain ⟨rfl, rfl⟩ := hv
   exact ⟨pl, pl', hb _ _ _ hx h1, hb _ _ _ hy h2, rfl⟩
  ·cases hv
 case ref id p s o n =>
  obtain ⟨pl, A, c, h1, rfl, h3, h4, h5⟩ := h
  split at hv
  ·rename_i i hi
   simp only [Option.some.injEq, Prod.mk.injEq] at hv
   obtain ⟨rfl, rfl⟩ := hv
   exact ⟨pl, A, c, hb _ _ _ hi h1, rfl, h3, h4, h5⟩
  ·rename_i hi
   have h0 : RO w T ρ (.slice (some A) n c) (.ref id p s o n) := ⟨pl, A, c, h1, rfl, h3, h4, h5⟩
   split at hv
   ·rename_i y hy
    simp only [Option.some.injEq] at hv
    subst hv
    exact .Be (Iw hk (fun r hr => hrow id r hi hr) h0 hy ho)
   ·obtain ⟨r, fs, us, g1, g2, rfl, rfl, rfl, g6, g7, g8, g9, g10, g11, g12⟩ := Gu hrs hv ho
    simp only at g6
    subst g6
    obtain ⟨pl', p1, p2, p3⟩ := hrow id r hi g1
    rw [h1] at p1
    simp only [Option.some.injEq] at p1
    subst p1
    have htu : AO r.c = false := by rw [g2]; rfl
    obtain ⟨c1, _, _, c4⟩ := p2.Cy (path := []) (q := r.c) rfl htu All.nil
    have hext : size r.c ≤ pl.ext := by obtain ⟨cs, t, fz, g1, g2, g3, g4⟩ := p2.cell htu; exact g3
    have hfl : flat r.c = fs := by rw [g2]; simp only [flat]; exact g9
    simp only [RO]
    rcases Nat.eq_zero_or_pos n with h0' | h0'
    ·subst h0'
     exact .vec0 _ _ _ _ rfl rfl (fun h => by cases h)
    ·obtain ⟨rfl, _⟩ := h5 (by omega)
     have hex : ∀ j, ∃ u, ∀ y, us[j]? = some y → w.cell? ⟨pl.g, pl.off + j, none⟩ = some u ∧ RC w T' u y ∧ j < pl.ext := by
      intro j
      cases hj : us[j]? with
      | none => exact ⟨Go.undef, fun y hy => by cases hy⟩
      | some y =>
       obtain ⟨id', p', s', o', n', ob', e1, e2, e3, e4⟩ := g12 j y hj
       obtain ⟨u, d1, d2⟩ := c4 j _ (by rw [hfl]; exact e1)
       refine ⟨u, fun y' hy => ?_⟩
       cases hy
       refine ⟨by simpa [Af] using d1, Iw hk (fun r hr => hrow id' r e2 hr) d2 e3 e4, ?_⟩
       have := (List.getElem?_eq_some_iff.1 e1).1
       have : size r.c = n := by rw [g2]; rfl
       omega
     obtain ⟨vs, hvs⟩ := Classical.axiomOfChoice hex
     have hfu : flat (.parr 1 n (shVw us) us) = us := by simp only [flat]; exact g10
     have e0 : (⟨pl.g, pl.off + (Af [] + 0 * 1), none⟩ : Addr) = ⟨pl.g, pl.off + 0, none⟩ := by simp [Af]
     rw [e0]
     refine .vec1 _ _ _ _ _ vs rfl h3 h4 (fun j y hy => ?_) (fun j y hy => ?_)
     ·rw [hfu] at hy
      obtain ⟨d1, _, d3⟩ := hvs j y hy
      exact ⟨p3 _ (by omega) (by omega), by rw [Nat.add_zero]; exact d1⟩
     ·rw [hfu] at hy
      exact (hvs j y hy).2.1
 all_goals
  simp only [Option.some.injEq, Prod.mk.injEq] at hv
  obtain ⟨rfl, rfl⟩ := hv
  exact RO.Be (h.keep hk)
theorem JC (hb : Fg b ρ ρ') (hk : Ay w T w T') (hrow : ∀ i r, b i = none → rs i = some r → ∃ pl, ρ i = some pl ∧ Ao w T ρ pl r ∧ ∀ x, pl.off ≤ x → x < pl.off + pl.ext → T' pl.g x) (hrs : ∀ i r, rs i = some r → WF r.c)
  {v : Value} {p q : PV} {ob : List Prop} (hu : untup p = true) (h : RV w T ρ v p) (hv : Bp b rs p = some (q, ob)) (ho : All ob) : RV w T' ρ' v q := by
 obtain ⟨h1, h2, h3, h4, h5⟩ := Hl hrs p q ob h.1 hu hv ho
 have hp : ∀ vs, p ≠ .tup vs := fun vs e => by subst e; simp [untup] at hu
 have hq : ∀ vs, q ≠ .tup vs := fun vs e => by subst e; simp [AO] at h3
 refine RV.of_RN h4 hq ?_
 have hn := h.to_RN hp
 unfold RN at hn ⊢
 rw [h2]
 split at hn
 ·rename_i ha
  rw [if_pos ha]
  obtain ⟨cs, e1, e2, e3⟩ := hn
  refine ⟨cs, e1, by rw [e2, h1], fun j x u hx hu => ?_⟩
  obtain ⟨y, hy, hxy⟩ := h5.2 j x hx
  exact hxy.rel hb hk hrow hrs (e3 j y u hy hu)
 ·rename_i ha
  rw [if_neg ha]
  exact V1.rel hb hk hrow hrs hn ⟨ob, hv, ho⟩
end
end Go.Pe
namespace Go.Pe
def readAll : List Nat → (List (Nat × Row) → Pr) → Pr
 | [], K => K []
 | i :: l, K => .read i fun r => readAll l fun rs => K ((i, r) :: rs)
theorem Dy {hp : Hp} {v : PV} {ups : List (Nat × Option Row)} {ob : List Prop} : ∀ {ids : List Nat} {K : List (Nat × Row) → Pr} {rd : List Nat}, (readAll ids K).run hp = some (v, ups, ob, rd) →
  ∃ rs rd', (K rs).run hp = some (v, ups, ob, rd') ∧ keys rs = ids ∧ ∀ x ∈ rs, hp x.1 = some x.2
 | [], K, rd, h => ⟨[], rd, h, rfl, fun x hx => by cases hx⟩
 | i :: l, K, rd, h => by
  simp only [readAll, Pr.run] at h
  split at h
  ·rename_i r hr
   simp only [Option.map_eq_some_iff, Prod.mk.injEq] at h
   obtain ⟨⟨v', u', o', r'⟩, h1, rfl, rfl, rfl, _⟩ := h
   obtain ⟨rs, rd', g1, g2, g3⟩ := Dy h1
   refine ⟨(i, r) :: rs, rd', g1, by simp only [keys, List.map_cons] at g2 ⊢; rw [g2], fun x hx => ?_⟩
   rcases List.mem_cons.1 hx with rfl | hx
   ·exact hr
   ·exact g3 x hx
  ·cases h
def AQ (l : List (Nat × Nat)) : List (Nat × Nat) := l.map fun x => (x.2, x.1)
theorem Cw {l : List (Nat × Nat)} {i c : Nat} : (i, c) ∈ AQ l ↔ (c, i) ∈ l := by
 simp only [AQ, List.mem_map, Prod.mk.injEq]
 constructor
 ·rintro ⟨x, hx, rfl, rfl⟩; exact hx
 ·intro h; exact ⟨_, h, rfl, rfl⟩
def D7 (b : Nat → Option Nat) (rs : Nat → Option Row) : List (Nat × Nat) → Option (List (Nat × Row))
 | [] => some []
 | x :: l => match rs x.1 with
  | some r => if r.frz then none else match ren b r.c, D7 b rs l with
   | some c, some m => some ((x.2, ⟨c, false⟩) :: m)
   | _, _ => none
  | none => none
theorem EX {b : Nat → Option Nat} {rs : Nat → Option Row} : ∀ {l : List (Nat × Nat)} {m : List (Nat × Row)}, D7 b rs l = some m →
  keys m = keys (AQ l) ∧ ∀ c i, (c, i) ∈ l → ∃ r c', rs c = some r ∧ r.frz = false ∧ ren b r.c = some c' ∧ (i, (⟨c', false⟩ : Row)) ∈ m
 | [], m, h => by simp only [D7, Option.some.injEq] at h; subst h; exact ⟨rfl, fun c i hi => by cases hi⟩
 | x :: l, m, h => by
  simp only [D7] at h
  split at h
  ·rename_i r hr
   split at h
   ·cases h
   ·rename_i hf
    split at h
    ·rename_i c m' hc hm
     simp only [Option.some.injEq] at h
     subst h
     obtain ⟨e1, e2⟩ := EX hm
     refine ⟨by simp only [keys, AQ, List.map_cons] at e1 ⊢; rw [e1], fun c0 i hi => ?_⟩
     rcases List.mem_cons.1 hi with rfl | hi
     ·exact ⟨r, c, hr, by simpa using hf, hc, by simp⟩
     ·obtain ⟨r', c', g1, g2, g3, g4⟩ := e2 c0 i hi
      exact ⟨r', c', g1, g2, g3, List.mem_cons_of_mem _ g4⟩
    ·cases h
  ·cases h
def DY (inv : List (Nat × Nat)) (hout : List (Nat × Row)) (k : Nat) (i : Nat) : Option Nat :=
 match Ab (AQ inv) i with
 | some c => some c
 | none => match Ab hout i with
  | some _ => if Nat.blt i 16 then some (k + i) else none
  | none => none
def Lm (fwd : Nat → Option Nat) (r : Option Row) : Option (Option Row) := match r with
 | some r => (match ren fwd r.c with
  | some c => some (some ⟨c, r.frz⟩)
  | none => none)
 | none => some none
def ER (fwd : Nat → Option Nat) (hout : List (Nat × Row)) : List (Nat × Nat) → Option (List (Nat × Option Row))
 | [] => some []
 | x :: l => match Lm fwd (Ab hout x.2), ER fwd hout l with
  | some r, some m => some ((x.1, r) :: m)
  | _, _ => none
theorem FT {fwd : Nat → Option Nat} {hout : List (Nat × Row)} : ∀ {l : List (Nat × Nat)} {m : List (Nat × Option Row)}, ER fwd hout l = some m →
  keys m = keys l ∧ ∀ c i, (c, i) ∈ l → ∃ r, Lm fwd (Ab hout i) = some r ∧ (c, r) ∈ m
 | [], m, h => by simp only [ER, Option.some.injEq] at h; subst h; exact ⟨rfl, fun c i hi => by cases hi⟩
 | x :: l, m, h => by
  simp only [ER] at h
  split at h
  ·rename_i r m' hr hm
   simp only [Option.some.injEq] at h
   subst h
   obtain ⟨e1, e2⟩ := FT hm
   refine ⟨by simp only [keys, List.map_cons] at e1 ⊢; rw [e1], fun c0 i hi => ?_⟩
   rcases List.mem_cons.1 hi with rfl | hi
   ·exact ⟨r, hr, by simp⟩
   ·obtain ⟨r', g1, g2⟩ := e2 c0 i hi
    exact ⟨r', g1, List.mem_cons_of_mem _ g2⟩
  ·cases h
def FI (fwd : Nat → Option Nat) (k : Nat) (inv : List (Nat × Nat)) : List (Nat × Row) → Option (List (Nat × Option Row))
 | [] => some []
 | x :: l => match Ab (AQ inv) x.1 with
  | some _ => FI fwd k inv l
  | none => if Nat.blt x.1 16 then (match ren fwd x.2.c, FI fwd k inv l with
    | some c, some m => some ((k + x.1, some ⟨c, x.2.frz⟩) :: m)
    | _, _ => none) else none
theorem Eg {fwd : Nat → Option Nat} {k : Nat} {inv : List (Nat × Nat)} : ∀ {l : List (Nat × Row)} {m : List (Nat × Option Row)}, FI fwd k inv l = some m →
  (∀ c ∈ keys m, ∃ i r, c = k + i ∧ i < 16 ∧ (i, r) ∈ l ∧ Ab (AQ inv) i = none) ∧ ∀ i r, (i, r) ∈ l → Ab (AQ inv) i = none → i < 16 ∧ ∃ c, ren fwd r.c = some c ∧ (k + i, some (⟨c, r.frz⟩ : Row)) ∈ m
 | [], m, h => by simp only [FI, Option.some.injEq] at h; subst h; exact ⟨fun c hc => by simp [keys] at hc, fun i r hi => by cases hi⟩
 | x :: l, m, h => by
  simp only [FI] at h
  split at h
  ·rename_i c0 hc0
   obtain ⟨e1, e2⟩ := Eg h
   refine ⟨fun c hc => ?_, fun i r hi hn => ?_⟩
   ·obtain ⟨i, r, g1, g2, g3, g4⟩ := e1 c hc
    exact ⟨i, r, g1, g2, List.mem_cons_of_mem _ g3, g4⟩
   ·rcases List.mem_cons.1 hi with rfl | hi
    ·rw [hc0] at hn; cases hn
    ·exact e2 i r hi hn
  ·rename_i hn0
   split at h
   ·rename_i hb
    split at h
    ·rename_i c m' hc hm
     simp only [Option.some.injEq] at h
     subst h
     obtain ⟨e1, e2⟩ := Eg hm
     have hlt : x.1 < 16 := Nat.blt_eq ▸ hb
     refine ⟨fun c' hc' => ?_, fun i r hi hn => ?_⟩
     ·simp only [keys, List.map_cons, List.mem_cons] at hc'
      rcases hc' with rfl | hc'
      ·exact ⟨x.1, x.2, rfl, hlt, by simp, hn0⟩
      ·obtain ⟨i, r, g1, g2, g3, g4⟩ := e1 c' hc'
       exact ⟨i, r, g1, g2, List.mem_cons_of_mem _ g3, g4⟩
     ·rcases List.mem_cons.1 hi with rfl | hi
      ·exact ⟨hlt, c, hc, by simp⟩
      ·obtain ⟨g1, c', g2, g3⟩ := e2 i r hi hn
       exact ⟨g1, c', g2, List.mem_cons_of_mem _ g3⟩
    ·cases h
   ·cases h
def Ff (rs : Nat → Option Row) : List Nat → Option (List (Nat × Option Row))
 | [] => some []
 | i :: l => match rs i, Ff rs l with
  | some r, some m => some ((i, some ⟨r.c, true⟩) :: m)
  | _, _ => none
theorem DT {rs : Nat → Option Row} : ∀ {l : List Nat} {m : List (Nat × Option Row)}, Ff rs l = some m → keys m = l ∧ ∀ i ∈ l, ∃ r, rs i = some r ∧ (i, some (⟨r.c, true⟩ : Row)) ∈ m
 | [], m, h => by simp only [Ff, Option.some.injEq] at h; subst h; exact ⟨rfl, fun i hi => by cases hi⟩
 | i :: l, m, h => by
  simp only [Ff] at h
  split at h
  ·rename_i r m' hr hm
   simp only [Option.some.injEq] at h
   subst h
   obtain ⟨e1, e2⟩ := DT hm
   refine ⟨by simp only [keys, List.map_cons] at e1 ⊢; rw [e1], fun j hj => ?_⟩
   rcases List.mem_cons.1 hj with rfl | hj
   ·exact ⟨r, hr, by simp⟩
   ·obtain ⟨r', g1, g2⟩ := e2 j hj
    exact ⟨r', g1, List.mem_cons_of_mem _ g2⟩
  ·cases h
def dedup : List Nat → List Nat
 | [] => []
 | i :: l => if Co i l then dedup l else i :: dedup l
def Ll (deep : List Nat) (inv : List (Nat × Nat)) (vals : List PV) : List Nat := (dedup (deep ++ LX vals)).filter fun i => !Co i (keys inv)
def tellC (P : Program) (G : Nat → Option PV) (f : FuncId) (hout : List (Nat × Row)) (res : PV) (hin : List (Nat × Row)) (args : List PV) : Option (List (Nat × Row) × List PV) → List Prop
 | none => [PC P G f hin args hout res]
 | some t => [hin = t.1, args = t.2, PC P G f t.1 t.2 hout res]
theorem NH {P : Program} {G : Nat → Option PV} {f : FuncId} {hout : List (Nat × Row)} {res : PV} {hin : List (Nat × Row)} {args : List PV} : ∀ {t : Option (List (Nat × Row) × List PV)}, All (tellC P G f hout res hin args t) → PC P G f hin args hout res
 | none, h => h.head
 | some t, h => by
  have h1 : hin = t.1 := h.head
  have h2 : args = t.2 := h.tail.head
  rw [h1, h2]
  exact h.tail.tail.head
def callP (P : Program) (G : Nat → Option PV) (f : FuncId) (vals : List PV) (k : Nat) (keep : Bool) (inv : List (Nat × Nat)) (hout : List (Nat × Row)) (res : PV) (told : Option (List (Nat × Row) × List PV)) (deep : List Nat) : Pr :=
 if Bg vals && nodupB (keys inv) && nodupB (keys (AQ inv)) then
  readAll (keys inv ++ Ll deep inv vals) fun rl => match D7 (Ab inv) (Ab rl) inv, Fx (Ab inv) (Ab rl) vals with
   | some hin, some ao => (match ER (DY inv hout k) hout inv, FI (DY inv hout k) k inv hout, (if keep then some [] else Ff (Ab rl) (Ll deep inv vals)), ren (DY inv hout k) res with
    | some u1, some u2, some u3, some v => if nodupB (keys (u1 ++ (u2 ++ u3))) && (!keep || (Av res && hout.all fun x => Av x.2.c)) then .ret v (u1 ++ (u2 ++ u3)) (ao.2 ++ tellC P G f hout res hin ao.1 told) else .fail
    | _, _, _, _ => .fail)
   | _, _ => .fail
 else .fail
def Bu (P : Program) (G : Nat → Option PV) (fr : Nat → PV) : List Operand → List TypeId → List PV
 | [], _ => []
 | x :: l, [] => evO P G 0 fr x :: Bu P G fr l []
 | x :: l, t :: ts => evO P G t fr x :: Bu P G fr l ts
theorem Gb {P : Program} {G : Nat → Option PV} {fr : Nat → PV} : ∀ {l : List Operand} {ts : List TypeId}, (Bu P G fr l ts).length = l.length ∧ ∀ (j : Nat) (p : PV), (Bu P G fr l ts)[j]? = some p → ∃ x t, l[j]? = some x ∧ p = evO P G t fr x
 | [], ts => by simp [Bu]
 | x :: l, [] => by
  obtain ⟨h1, h2⟩ := Gb (P := P) (G := G) (fr := fr) (l := l) (ts := [])
  refine ⟨by simp [Bu, h1], fun j p hp => ?_⟩
  cases j with
  | zero => simp [Bu] at hp; exact ⟨x, 0, rfl, hp.symm⟩
  | succ j => simp [Bu] at hp; simpa using h2 j p hp
 | x :: l, t :: ts => by
  obtain ⟨h1, h2⟩ := Gb (P := P) (G := G) (fr := fr) (l := l) (ts := ts)
  refine ⟨by simp [Bu, h1], fun j p hp => ?_⟩
  cases j with
  | zero => simp [Bu] at hp; exact ⟨x, t, rfl, hp.symm⟩
  | succ j => simp [Bu] at hp; simpa using h2 j p hp
theorem Qp {α : Type} {i : Nat} {l : List (Nat × α)} (h : Ab l i ≠ none) : i ∈ keys l := Classical.byContradiction fun hn => h (F5 hn)
theorem Gn {inv : List (Nat × Nat)} {hout : List (Nat × Row)} {k i c : Nat} (h : Ab (AQ inv) i = some c) : DY inv hout k i = some c := by simp only [DY, h]
theorem BB {inv : List (Nat × Nat)} {hout : List (Nat × Row)} {k i c : Nat} (h : DY inv hout k i = some c) :
  Ab (AQ inv) i = some c ∨ (Ab (AQ inv) i = none ∧ (∃ r, Ab hout i = some r) ∧ i < 16 ∧ c = k + i) := by
 unfold DY at h
 split at h
 ·rename_i c' hc
  simp only [Option.some.injEq] at h
  subst h
  exact .inl hc
 ·rename_i hn
  split at h
  ·rename_i r hr
   split at h
   ·rename_i hb
    simp only [Option.some.injEq] at h
    exact .inr ⟨hn, ⟨r, hr⟩, Nat.blt_eq ▸ hb, h.symm⟩
   ·cases h
  ·cases h
section
variable {C : Ctx} {F : Nat → Prop} {ρ : Pls} {s : St} {a : Act} {w : World} {o : Oper} {k : Nat}
theorem PQ {P : Program} {c : Call} (ho : o.op = .call c) {f : FuncId} {xf : Operand} (hc : c.callee = .value xf) (hv : a.eval xf = .func (.func f) #[] #[]) {K : Act → World → Prop} {Q : Exit → Act → World → Prop}
  (h : Enters P f (c.args.map a.eval) w fun
   | .returned v, w'' => K (a.put o.dst v) w''
   | .panicked chain, w'' => Q (.panic chain) a w''
   | .outgrown, _ => LetsOut Q) : o.wp P a w K Q := by
 rcases h with ⟨⟨fn, hfn, hbody, hname⟩, h⟩ | ⟨v, w', h1, h2⟩
 ·have hrun : (execOp a.eval o).run P w = .ok (.enter f (c.args.map a.eval)) w := by
   have hb : fn.body ≠ none := by intro hb; simp [hb] at hbody
   have hname' : fn.name ≠ "runtime.NumGoroutine" := by simpa using hname
   simp [execOp, ho, resolve, hc, hv, Deferred.ofValue, invoke, callFunc, hfn, hname', hb]
  unfold Oper.wp
  rw [hrun, Oper.upon_enter]
  exact h
 ·refine Cf (u := v) (w' := w') ?_ h2
  have : (execOp a.eval o).run P w = (callFunc f (c.args.map a.eval)).run P w := by
   simp [execOp, ho, resolve, hc, hv, Deferred.ofValue, invoke]
  rw [this, h1]
theorem goes_call (h : Ac C F ρ s a w) (hF : ∀ j, j < 16 → F (k + j)) {c : Call} (ho : o.op = .call c) {f : FuncId} {xf : Operand} (hc : c.callee = .value xf) (hcv : a.eval xf = .func (.func f) #[] #[]) {keep : Bool} {inv : List (Nat × Nat)} {hout : List (Nat × Row)} {res : PV} {told : Option (List (Nat × Row) × List PV)} {deep : List Nat}
  {v : PV} {ups : List (Nat × Option Row)} {ob : List Prop} {rd : List Nat} (hx : (callP C.P C.G f (Bu C.P C.G s.fr c.args.toList c.argTypes.toList) k keep inv hout res told deep).run s.hp = some (v, ups, ob, rd)) (hob : All ob) : Goes C F ρ s a w o k v ups := by
 unfold callP at hx
 split at hx
 ·rename_i hcond
  simp only [Bool.and_eq_true] at hcond
  obtain ⟨⟨hun, hn1⟩, hn2⟩ := hcond
  obtain ⟨rl, rd', hx, hkeys, hrl⟩ := Dy hx
  split at hx
  ·rename_i hin ao hgiven hview
   split at hx
   ·rename_i u1 u2 u3 v' h1 h2 h3 h4
    split at hx
    ·rename_i hlast
     simp only [Bool.and_eq_true, Bool.or_eq_true, Bool.not_eq_true'] at hlast
     obtain ⟨hnd, hkp⟩ := hlast
     simp only [Pr.run, Option.some.injEq, Prod.mk.injEq] at hx
     obtain ⟨rfl, rfl, rfl, _⟩ := hx
     have hob1 : All ao.2 := hob.left
     have hpc : PC C.P C.G f hin ao.1 hout res := NH hob.right
     have hrow : ∀ i r, Ab rl i = some r → s.hp i = some r := fun i r e => hrl _ (Ak e)
     obtain ⟨k1, k2⟩ := EX hgiven
     obtain ⟨b1, b2⟩ := FT h1
     obtain ⟨n1, n2⟩ := Eg h2
     have hinv : ∀ c i, Ab inv c = some i → Ab (AQ inv) i = some c := fun c i e => Cn hn2 (Cw.2 (Ak e))
     have hinv' : ∀ c i, Ab (AQ inv) i = some c → Ab inv c = some i := fun c i e => Cn hn1 (Cw.1 (Ak e))
     have hsn : ∀ i, Ab hin i = none ↔ Ab (AQ inv) i = none := by
      intro i
      constructor
      ·intro e
       cases hs : Ab (AQ inv) i with
       | none => rfl
       | some c =>
        have : i ∈ keys hin := by rw [k1]; exact Fu (Ak hs)
        obtain ⟨x, hx⟩ := Cb this
        rw [e] at hx; cases hx
      ·intro e
       refine F5 ?_
       rw [k1]
       intro hm
       obtain ⟨x, hx⟩ := Cb hm
       rw [e] at hx; cases hx
     have hinvrow : ∀ c i, Ab inv c = some i → ∃ r, s.hp c = some r := fun c i e => by
      obtain ⟨r, c', g1, _⟩ := k2 c i (Ak e)
      exact ⟨r, hrow c r g1⟩
     have hnofree : ∀ c i, Ab inv c = some i → ∀ j, j < 16 → c ≠ k + j := by
      intro c i e j hj he
      obtain ⟨r, hr⟩ := hinvrow c i e
      have := (h.free _ (hF j hj)).2
      rw [← he, hr] at this
      cases this
     generalize hvw : Ll deep inv (Bu C.P C.G s.fr c.args.toList c.argTypes.toList) = vw at *
     have hvinv : ∀ c, c ∈ vw → c ∉ keys inv := by
      intro c hc hm
      rw [← hvw] at hc
      simp only [Ll, List.mem_filter, Bool.not_eq_true'] at hc
      rw [Bo.2 hm] at hc
      exact absurd hc.2 (by simp)
     have hvs : ∀ c, c ∈ vw → ∃ r, Ab rl c = some r ∧ s.hp c = some r := by
      intro c hc
      have : c ∈ keys rl := by rw [hkeys]; exact List.mem_append_right _ hc
      obtain ⟨r, hr⟩ := Cb this
      exact ⟨r, hr, hrow c r hr⟩
     have hcr : Ea s F (Ab inv) (DY inv hout k) (Ab hin) (Ab hout) (Ai s.hp (u1 ++ (u2 ++ u3))) (fun c => c ∈ vw) keep := by
      refine ⟨fun c i e => ?_, fun i e => ?_, fun i c e => ?_, fun i e1 e2 => ?_, fun i j c e1 e2 => ?_, fun i c e => ?_, fun c e => ?_, fun c e => ?_, fun e i row hi => ?_⟩
      ·obtain ⟨r, c', g1, g2, g3, g4⟩ := k2 c i (Ak e)
       exact ⟨Gn (hinv c i e), r, c', hrow c r g1, g2, g3, Cn (by rw [k1]; exact hn2) g4⟩
      ·cases hs : Ab (AQ inv) i with
       | none => exact absurd ((hsn i).2 hs) e
       | some c => exact ⟨c, Gn hs, hinv' c i hs⟩
      ·rcases BB e with e | ⟨_, ⟨r, e⟩, _⟩
       ·left; intro e'; rw [(hsn i).1 e'] at e; cases e
       ·right; rw [e]; intro e'; cases e'
      ·have hs := (hsn i).1 e2
       cases hr : Ab hout i with
       | none => exact absurd hr e1
       | some r =>
        obtain ⟨g1, _⟩ := n2 i r (Ak hr) hs
        refine ⟨k + i, ?_, hF i g1⟩
        simp only [DY, hs, hr]
        rw [if_pos (by rw [Nat.blt_eq]; exact g1)]
      ·rcases BB e1 with e1 | ⟨_, _, l1, e1⟩
       ·rcases BB e2 with e2 | ⟨_, _, l2, e2⟩
        ·have := hinv' c i e1
         rw [hinv' c j e2] at this
         simp only [Option.some.injEq] at this
         exact this.symm
        ·exact absurd e2 (hnofree c i (hinv' c i e1) j l2)
       ·rcases BB e2 with e2 | ⟨_, _, l2, e2⟩
        ·exact absurd e1 (hnofree c j (hinv' c j e2) i l1)
        ·omega
      ·rcases BB e with e | ⟨e0, ⟨r, e⟩, l1, e1⟩
       ·obtain ⟨r, g1, g2⟩ := b2 c i (Ak (hinv' c i e))
        have hr : Ai s.hp (u1 ++ (u2 ++ u3)) c = r := CK hnd (List.mem_append_left _ g2)
        rw [hr]
        unfold Lm at g1
        split at g1
        ·rename_i row hrow
         split at g1
         ·rename_i c' hc'
          simp only [Option.some.injEq] at g1
          exact .inr ⟨row, c', hrow, hc', g1.symm⟩
         ·cases g1
        ·rename_i hrow
         simp only [Option.some.injEq] at g1
         exact .inl ⟨hrow, g1.symm⟩
       ·obtain ⟨_, c', g1, g2⟩ := n2 i r (Ak e) e0
        rw [← e1] at g2
        exact .inr ⟨r, c', e, g1, CK hnd (List.mem_append_right _ (List.mem_append_left _ g2))⟩
      ·by_cases hm : c ∈ keys (u1 ++ (u2 ++ u3))
       ·simp only [keys, List.map_append, List.mem_append] at hm
        rcases hm with hm | hm | hm
        ·exfalso
         have : c ∈ keys inv := by rw [← b1]; exact hm
         obtain ⟨i, hi⟩ := Cb this
         exact e i (Gn (hinv c i hi))
        ·exfalso
         obtain ⟨i, r, g1, g2, g3, g4⟩ := n1 c hm
         obtain ⟨r', hr'⟩ := Cb (Fu g3)
         refine e i ?_
         simp only [DY, g4, hr']
         rw [if_pos (by rw [Nat.blt_eq]; exact g2), g1]
        ·right
         split at h3
         ·simp only [Option.some.injEq] at h3
          subst h3
          simp at hm
         ·obtain ⟨v1, v2⟩ := DT h3
          have hcv : c ∈ vw := by rw [← v1]; exact hm
          obtain ⟨r, g1, g2⟩ := v2 c hcv
          exact ⟨hcv, r, hrow c r g1, CK hnd (List.mem_append_right _ (List.mem_append_right _ g2))⟩
       ·exact .inl (Aw hm)
      ·refine ⟨fun i hi => ?_, fun hk row hr => ?_⟩
       ·rcases BB hi with hi | ⟨_, _, l1, hi⟩
        ·exact hvinv c e (Fu (Ak (hinv' c i hi)))
        ·obtain ⟨r, _, hr⟩ := hvs c e
         have := (h.free _ (hF i l1)).2
         rw [← hi, hr] at this
         cases this
       ·rw [hk] at h3
        simp only [Bool.false_eq_true, if_false] at h3
        obtain ⟨v1, v2⟩ := DT h3
        obtain ⟨r, g1, g2⟩ := v2 c e
        have := CK (hp := s.hp) hnd (List.mem_append_right _ (List.mem_append_right _ g2))
        rw [this] at hr
        simp only [Option.some.injEq] at hr
        rw [← hr]
      ·rcases hkp with hkp | hkp
       ·rw [e] at hkp; cases hkp
       ·have := List.all_eq_true.1 hkp.2 _ (Ak hi)
        exact this
     obtain ⟨p1, p2, p3, p4, p5, p6⟩ := Q0 h hcr
     intro K Q hK
     obtain ⟨z1, z2⟩ := Gb (P := C.P) (G := C.G) (fr := s.fr) (l := c.args.toList) (ts := c.argTypes.toList)
     obtain ⟨y1, y2⟩ := He hview hob1
     refine PQ ho hc hcv (Enters.mono (hpc (EE C ρ s fun c => c ∈ vw) (Bv ρ (DY inv hout k) (Ab hin)) w (c.args.map a.eval) p1 p2 p3 p4 (by rw [y1, z1]; simp) fun j p x hp hv hne => ?_) fun e w' he => ?_)
     ·obtain ⟨q, oq, hq, hvq, hoq⟩ := y2 j p hp
      obtain ⟨xo, t, hxo, rfl⟩ := z2 j q hq
      have hx' : x = a.eval xo := by
       rw [Array.getElem?_map] at hv
       rw [Array.getElem?_toList] at hxo
       rw [hxo] at hv
       simpa using hv.symm
      have hune : evO C.P C.G t s.fr xo ≠ .undef := by
       intro e
       rw [e] at hvq
       simp only [Bp, Option.some.injEq, Prod.mk.injEq] at hvq
       exact hne hvq.1.symm
      have hut : untup (evO C.P C.G t s.fr xo) = true := by
       have : ∀ (l : List PV), Bg l = true → ∀ q ∈ l, untup q = true := by
        intro l
        induction l with
        | nil => intro _ q hq; cases hq
        | cons p l ih =>
         intro hl q hq
         simp only [Bg, Bool.and_eq_true] at hl
         rcases List.mem_cons.1 hq with rfl | hq
         ·exact hl.1
         ·exact ih hl.2 q hq
       exact this _ hun _ (List.mem_of_getElem? hq)
      rw [hx']
      refine JC p6 p5 (fun i r hi hr => ?_) (fun i r hr => ?_) hut (AA h t xo hune) hvq hoq
      ·obtain ⟨pl, e1, e2⟩ := h.heap.row i r (hrow i r hr)
       refine ⟨pl, e1, e2, fun x x1 x2 => .inr ⟨i, r, pl, ?_, hrow i r hr, e1, rfl, x1, x2⟩⟩
       have : i ∈ keys rl := Fu (Ak hr)
       rw [hkeys] at this
       rcases List.mem_append.1 this with hm | hm
       ·obtain ⟨y, hy⟩ := Cb hm
        rw [hi] at hy; cases hy
       ·exact hm
      ·obtain ⟨pl, _, p2⟩ := h.heap.row i r (hrow i r hr)
       exact p2.wf
     ·obtain ⟨u, ρ', rfl, q1, q2, q3, q4, q5⟩ := he
      have hnew : NewOf (DY inv hout k) (Ab hin) (fun c => if k ≤ c ∧ c < k + 16 ∧ Ab hout (c - k) ≠ none ∧ Ab (AQ inv) (c - k) = none then some (c - k) else none) := by
       intro c i
       simp only [Option.ite_none_right_eq_some, Option.some.injEq]
       constructor
       ·rintro ⟨⟨c1, c2, c3, c4⟩, rfl⟩
        refine ⟨?_, (hsn _).2 c4⟩
        cases hr : Ab hout (c - k) with
        | none => exact absurd hr c3
        | some r =>
         simp only [DY, c4, hr]
         rw [if_pos (by rw [Nat.blt_eq]; omega)]
         congr 1
         omega
       ·rintro ⟨e1, e2⟩
        have hs := (hsn i).1 e2
        rcases BB e1 with e | ⟨_, ⟨r, e⟩, l1, e3⟩
        ·rw [hs] at e; cases e
        ·subst e3
         rw [show k + i - k = i by omega]
         exact ⟨⟨by omega, by omega, (by rw [e]; intro e'; cases e'), hs⟩, rfl⟩
      obtain ⟨f0, f1, f2⟩ := Pp h hcr hnew (F' := fun id => F id ∧ (id < k ∨ k + 16 ≤ id)) (fun c hc => ⟨hc.1, by
       rw [if_neg]
       rintro ⟨c1, c2, _⟩
       rcases hc.2 with e | e <;> omega⟩) (res' := v') (fun e => by
        rcases hkp with hkp | hkp
        ·rw [e] at hkp; cases hkp
        ·exact hkp.1) h4 q1 q2 q3 q4 q5
      exact hK u w' _ f0 f1 fun _ => f2
    ·simp [Pr.run] at hx
   ·simp [Pr.run] at hx
  ·simp [Pr.run] at hx
 ·simp [Pr.run] at hx
end
end Go.Pe
namespace Go.Pe
def EH (hp hp' : Hp) : Prop := ∀ i, hp' i = hp i ∨ ∃ row, hp i = some row ∧ hp' i = some ⟨row.c, true⟩
theorem EH.refl (hp : Hp) : EH hp hp := fun _ => .inl rfl
def Fs (rl : List (Nat × Row)) : List (Nat × Option Row) := rl.map fun x => (x.1, some ⟨x.2.c, true⟩)
theorem IE : ∀ {rl : List (Nat × Row)} {hp : Hp}, (∀ x ∈ rl, ∃ row, hp x.1 = some row ∧ row.c = x.2.c) →
  EH hp (Ai hp (Fs rl)) ∧ (∀ x ∈ rl, Ai hp (Fs rl) x.1 = some ⟨x.2.c, true⟩) ∧ ∀ i, i ∉ keys rl → Ai hp (Fs rl) i = hp i
 | [], hp, _ => ⟨EH.refl _, fun x hx => (by cases hx), fun _ _ => rfl⟩
 | y :: l, hp, h => by
  obtain ⟨row, hy, hyc⟩ := h y (by simp)
  have h1 : ∀ x ∈ l, ∃ row, upd hp y.1 (some ⟨y.2.c, true⟩) x.1 = some row ∧ row.c = x.2.c := fun x hx => by
   obtain ⟨r, e1, e2⟩ := h x (by simp [hx])
   by_cases hxy : x.1 = y.1
   ·refine ⟨⟨y.2.c, true⟩, by rw [hxy, upd_same], ?_⟩
    rw [hxy] at e1
    rw [hy] at e1
    cases e1
    exact hyc.symm.trans e2
   ·exact ⟨r, by rw [upd_ne _ _ hxy]; exact e1, e2⟩
  obtain ⟨g1, g2, g3⟩ := IE h1
  have e : Ai hp (Fs (y :: l)) = Ai (upd hp y.1 (some ⟨y.2.c, true⟩)) (Fs l) := rfl
  rw [e]
  have hstep : EH hp (upd hp y.1 (some ⟨y.2.c, true⟩)) := fun i => by
   by_cases hi : i = y.1
   ·subst hi
    exact .inr ⟨row, hy, by rw [upd_same, hyc]⟩
   ·exact .inl (upd_ne _ _ hi)
  refine ⟨fun i => ?_, fun x hx => ?_, fun i hi => ?_⟩
  ·rcases g1 i with h2 | ⟨r, h2, h3⟩
   ·rw [h2]; exact hstep i
   ·rcases hstep i with h4 | ⟨r', h4, h5⟩
    ·exact .inr ⟨r, by rw [← h4]; exact h2, h3⟩
    ·rw [h5] at h2
     cases h2
     exact .inr ⟨r', h4, h3⟩
  ·rcases List.mem_cons.1 hx with rfl | hx
   ·rcases g1 x.1 with h2 | ⟨r, h2, h3⟩
    ·rw [h2, upd_same]
    ·rw [upd_same] at h2
     cases h2
     exact h3
   ·exact g2 x hx
  ·simp only [keys, List.map_cons, List.mem_cons, not_or] at hi
   rw [g3 i hi.2, upd_ne _ _ hi.1]
section
variable {C : Ctx} {F : Nat → Prop} {ρ : Pls} {s : St} {a : Act} {w : World} {o : Oper} {k : Nat}
theorem EH.mut {hp hp' : Hp} (hf : EH hp hp') {b off : Nat} (h : Mut ρ hp' b off) : Mut ρ hp b off := by
 obtain ⟨id, row, pl, h1, h2, h3⟩ := h
 rcases hf id with e | ⟨r, _, e⟩
 ·exact ⟨id, row, pl, by rw [← e]; exact h1, h2, h3⟩
 ·rw [e] at h1
  cases h1
  cases h2
theorem EH.tc {hp hp' : Hp} (hf : EH hp hp') {b off : Nat} (h : Tc C ρ hp b off) : Tc C ρ hp' b off := ⟨h.1, fun hm => h.2 (hf.mut hm)⟩
theorem EH.keeps {hp hp' : Hp} (hf : EH hp hp') : Ay w (Tc C ρ hp) w (Tc C ρ hp') := fun _ _ _ h1 h2 => ⟨hf.tc h1, h2⟩
theorem Ac.freeze (h : Ac C F ρ s a w) {hp' : Hp} (hf : EH s.hp hp') : Ac C F ρ ⟨s.fr, hp'⟩ a w := by
 have hk : Ay w (Tc C ρ s.hp) w (Tc C ρ hp') := hf.keeps
 have back : ∀ {id : Nat} {row : Row}, hp' id = some row → ∃ r, s.hp id = some r ∧ r.c = row.c ∧ (row.frz = false → r.frz = false) := fun {id row} hr => by
  rcases hf id with e | ⟨r, e1, e2⟩
  ·exact ⟨row, by rw [← e]; exact hr, rfl, fun x => x⟩
  ·rw [e2] at hr
   cases hr
   exact ⟨r, e1, rfl, fun x => by cases x⟩
 refine ⟨h.defers, h.size, fun i hi => ⟨(h.fr i hi).1, (h.fr i hi).2.keep hk (Ext.refl _)⟩, ⟨fun id row hr => ?_, fun id id' row row' pl pl' hne h1 h2 h3 => ?_⟩, fun id hi => ⟨(h.free id hi).1, ?_⟩, fun id row pl hr => ?_, h.frame, fun g c hg => ⟨(h.glob g c hg).1, (h.glob g c hg).2.1, (h.glob g c hg).2.2.keep hk⟩, C.hX _ _ _ _ hk (JH.refl _) h.amb⟩
 ·obtain ⟨r, e1, e2, _⟩ := back hr
  obtain ⟨pl, p1, p2⟩ := h.heap.row id r e1
  refine ⟨pl, p1, ?_⟩
  have := p2.keep hk (Ext.refl _) rfl
  rcases this with this | ⟨cs, t, fz, g1, g2, g3, g4, g5, g6⟩
  ·rw [e2] at this; exact .inl this
  rw [e2] at g3 g4 g6
  exact .inr ⟨cs, t, fz, g1, g2, g3, g4, g5, g6⟩
 ·obtain ⟨r, e1, _, e3⟩ := back h1
  obtain ⟨r', e1', _, _⟩ := back h3
  exact h.heap.sep id id' r r' pl pl' hne e1 (e3 h2) e1'
 ·show hp' id = none
  rcases hf id with e | ⟨r, e1, _⟩
  ·rw [e]; exact (h.free id hi).2
  ·rw [(h.free id hi).2] at e1
   cases e1
 ·obtain ⟨r, e1, _, _⟩ := back hr
  exact h.inn id r pl e1
def bI (ids : List Nat) : Nat → Option Nat := fun i => if Co i ids then none else some i
def KQ (b : Nat → Option Nat) (rs : Nat → Option Row) (p : PV) : Option (PV × List Prop) := if untup p then Bp b rs p else none
def D8 (b : Nat → Option Nat) (rs : Nat → Option Row) : List (Nat × PV) → Option (List (Nat × PV) × List Prop)
 | [] => some ([], [])
 | x :: l => match KQ b rs x.2, D8 b rs l with
  | some y, some m => some ((x.1, y.1) :: m.1, y.2 ++ m.2)
  | _, _ => none
theorem Mv {ids : List Nat} {rl : List (Nat × Row)} (h : Ac C F ρ s a w) (hrl : ∀ x ∈ rl, s.hp x.1 = some ⟨x.2.c, true⟩) {v : Value} {p q : PV} {ob : List Prop}
  (hr : RV w (Tc C ρ s.hp) ρ v p) (hv : KQ (bI ids) (Ab rl) p = some (q, ob)) (ho : All ob) : RV w (Tc C ρ s.hp) ρ v q := by
 unfold KQ at hv
 split at hv
 ·rename_i hu
  have hrow : ∀ i r, Ab rl i = some r → ∃ pl, ρ i = some pl ∧ Ao w (Tc C ρ s.hp) ρ pl r ∧ ∀ x, pl.off ≤ x → x < pl.off + pl.ext → Tc C ρ s.hp pl.g x := fun i r hi => by
   have hm := hrl _ (Ak hi)
   simp only at hm
   obtain ⟨pl, p1, p2⟩ := h.heap.row i _ hm
   refine ⟨pl, p1, ?_, fun x hx1 hx2 => ⟨?_, ?_⟩⟩
   ·rcases p2 with p2 | ⟨cs, t, fz, g1, g2, g3, g4, g5, g6⟩
    ·exact .inl p2
    ·exact .inr ⟨cs, t, fz, g1, g2, g3, g4, g5, g6⟩
   ·have := h.inn i _ pl hm p1 (x - pl.off) (by omega)
    rw [show pl.off + (x - pl.off) = x by omega] at this
    rcases this with e | e
    ·exact .inr (.inr e)
    ·exact .inr (.inl e)
   ·rintro ⟨j, row, pl', j1, j2, j3, j4, j5, j6⟩
    have hne : j ≠ i := by
     rintro rfl
     rw [hm] at j1
     cases j1
     cases j2
    exact h.heap.sep j i row _ pl' pl hne j1 j2 hm j3 p1 j4 x j5 j6 hx1 hx2
  refine JC (b := bI ids) (rs := Ab rl) (ρ' := ρ) (fun i j pl hi hp => ?_) (Ay.refl _ _) (fun i r _ hi => hrow i r hi) (fun i r hi => ?_) hu hr hv ho
  ·unfold bI at hi
   split at hi
   ·cases hi
   ·cases hi; exact hp
  ·obtain ⟨pl, _, p2, _⟩ := hrow i r hi
   exact p2.wf
 ·cases hv
theorem Im {b : Nat → Option Nat} {rs : Nat → Option Row} {p q : PV} {ob : List Prop} (hv : KQ b rs p = some (q, ob)) (hq : q ≠ .undef) : p ≠ .undef := by
 rintro rfl
 simp [KQ, untup, Bp] at hv
 exact hq hv.1.symm
theorem FW {ids : List Nat} {rl : List (Nat × Row)} (h : Ac C F ρ s a w) (hrl : ∀ x ∈ rl, s.hp x.1 = some ⟨x.2.c, true⟩) :
  ∀ {l m : List (Nat × PV)} {vs : List (Nat × Value)} {ob : List Prop}, Dm w (Tc C ρ s.hp) ρ l vs → D8 (bI ids) (Ab rl) l = some (m, ob) → All ob → Dm w (Tc C ρ s.hp) ρ m vs
 | [], m, vs, ob, hp, hv, _ => by
  simp only [D8, Option.some.injEq, Prod.mk.injEq] at hv
  obtain ⟨rfl, _⟩ := hv
  exact hp
 | x :: l, m, [], ob, hp, _, _ => hp.elim
 | x :: l, m, y :: vs, ob, hp, hv, ho => by
  obtain ⟨e1, e2, e3⟩ := hp
  simp only [D8] at hv
  split at hv
  ·rename_i z n hz hn
   simp only [Option.some.injEq, Prod.mk.injEq] at hv
   obtain ⟨rfl, rfl⟩ := hv
   exact ⟨e1, fun hne => Mv h hrl (e2 (Im hz hne)) hz ho.left, FW h hrl e3 hn ho.right⟩
  ·cases hv
def Pr.pre (ids : List Nat) (u0 : List (Nat × Option Row)) (ob0 : List Prop) : Pr → Pr
 | .fail => .fail
 | .ret v u o => .ret v (u0 ++ u) (ob0 ++ o)
 | .read id k => if Co id ids then .fail else .read id fun r => (k r).pre ids u0 ob0
theorem Pr.LU {hp hp' : Hp} {ids : List Nat} {u0 : List (Nat × Option Row)} {ob0 : List Prop} (he : ∀ i, Co i ids = false → hp' i = hp i) : ∀ {pr : Pr} {v : PV} {ups : List (Nat × Option Row)} {ob : List Prop} {rd : List Nat}, (pr.pre ids u0 ob0).run hp = some (v, ups, ob, rd) →
  ∃ u o, pr.run hp' = some (v, u, o, rd) ∧ ups = u0 ++ u ∧ ob = ob0 ++ o
 | .fail, _, _, _, _, h => by simp [Pr.pre, Pr.run] at h
 | .ret v0 u o, v, ups, ob, rd, h => by
  simp only [Pr.pre, Pr.run, Option.some.injEq, Prod.mk.injEq] at h
  obtain ⟨rfl, rfl, rfl, rfl⟩ := h
  exact ⟨u, o, rfl, rfl, rfl⟩
 | .read id k, v, ups, ob, rd, h => by
  simp only [Pr.pre] at h
  split at h
  ·simp [Pr.run] at h
  ·rename_i hm
   simp only [Pr.run] at h
   split at h
   ·rename_i r hr
    simp only [Option.map_eq_some_iff, Prod.mk.injEq] at h
    obtain ⟨⟨a1, a2, a3, a4⟩, h1, h2, h3, h4, h5⟩ := h
    simp only at h2 h3 h4 h5
    subst h2; subst h3; subst h4; subst h5
    obtain ⟨u, o, g1, g2, g3⟩ := Pr.LU he h1
    exact ⟨u, o, by simp only [Pr.run, he id (by simpa using hm), hr, g1, Option.map_some], g2, g3⟩
   ·cases h
def stOf : PV → Option PV
 | .parr s n _ l => some (.st (n * s) l)
 | _ => none
theorem Py {c d : PV} (h : stOf c = some d) (hw : WF c) : WF d ∧ size d = size c ∧ flat d = flat c := by
 cases c <;> simp only [stOf, reduceCtorEq, Option.some.injEq] at h
 subst h
 simp only [WF] at hw
 refine ⟨?_, rfl, rfl⟩
 simp only [WF]
 exact ⟨by rw [AY fun q hq => (hw.2.2 q hq).1, hw.1], hw.2.1⟩
def Ha (P : Program) (t : TypeId) (n : Nat) (parts : List (Nat × PV)) (k : Nat) : Pr := match P.underlying t with
 | some (.slice e) => if Nat.ble (n * P.cellsOf e) 16777216 && DN P e then (match (I1 P e n).bind stOf with
  | some c => (match IB c (fun i => some (.fld i (i * P.cellsOf e), P.cellsOf e)) parts with
   | some c' => .ret (.ref k [] (P.cellsOf e) 0 n) [(k, some ⟨c', false⟩)] []
   | none => .fail)
  | none => .fail) else .fail
 | _ => .fail
theorem Kn (h : Ac C F ρ s a w) (hF : F k) {t : TypeId} {n : Nat} {parts : Array (Nat × Operand)} (ho : o.op = .buildSlice t n parts) {ps : List (Nat × PV)} (hps : Dm w (Tc C ρ s.hp) ρ ps (parts.toList.map fun x => (x.1, a.eval x.2)))
  {v : PV} {ups : List (Nat × Option Row)} {ob : List Prop} {rd : List Nat}
  (hx : (Ha C.P t n ps k).run s.hp = some (v, ups, ob, rd)) : Goes C F ρ s a w o k v ups := by
 have hpl : (parts.map fun (i, x) => (i, a.eval x)).toList = parts.toList.map fun x => (x.1, a.eval x.2) := by rw [Array.toList_map]
 unfold Ha at hx
 split at hx
 ·rename_i e hu
  split at hx
  ·rename_i hb
   simp only [Bool.and_eq_true] at hb
   have hlim := Nat.le_of_ble_eq_true hb.1
   have hne := A8 hb.2
   obtain ⟨inf, hi⟩ := Az hne
   split at hx
   ·rename_i c1 hc1
    simp only [Option.bind_eq_some_iff] at hc1
    obtain ⟨c0, hc0, hst⟩ := hc1
    obtain ⟨z, z1, z2, z3, z4, z5⟩ := GM (w := w) hc0 hne
    obtain ⟨t1, t2, t3⟩ := Py hst z3
    split at hx
    ·rename_i c' hc'
     simp only [Pr.run, Option.some.injEq, Prod.mk.injEq] at hx
     obtain ⟨rfl, rfl, _, _⟩ := hx
     obtain ⟨cells', r1, r2, r3, r4, r5, r6⟩ := Fp (w := w) (T := Tc C ρ s.hp) (ρ := ρ) (placeR := fun i => some (i * C.P.cellsOf e, C.P.cellsOf e)) (fun i st n he => by
      simp only [Option.some.injEq, Prod.mk.injEq] at he
      obtain ⟨rfl, rfl⟩ := he
      rfl) _ _ c1 c' ((Array.range (n * C.P.cellsOf e)).map (z.cells[· % z.cells.size]!)) hc' hps t1 (by rw [t2]; simp [z4]) (by unfold DV; rw [t3]; exact z5 _ _)
     have hpos : 1 ≤ C.P.cellsOf e := by omega
     have hn : n ≤ n * C.P.cellsOf e := Nat.le_mul_of_pos_right n hpos
     refine BN h hF (Ct.alloc w cells' e (0, 0)) (n := n) (cap := n) ?_ r2 (by omega) (by simp) r5 (Nat.le_refl _) (by unfold maxLen; omega) (by omega)
     have hexec : (Instr.buildSlice t n (parts.map fun (i, x) => (i, a.eval x))).run C.P w = .ok (.slice (some ⟨w.heap.size, 0, none⟩) n n) (w.alloc (.cells cells' e)) := by
      have hlim' : ¬ n * C.P.cellsOf e > 2 ^ 24 := by omega
      by_cases h0 : n * C.P.cellsOf e = 0
      ·have hcz : ((Array.range (n * C.P.cellsOf e)).map (z.cells[· % z.cells.size]!)) = (Array.range (n * C.P.cellsOf e)).map ((#[] : Array Value)[· % (#[] : Array Value).size]!) := by rw [h0]; simp
       rw [hcz] at r1
       simp only [Instr.buildSlice, Sem.run_bind, run_underlying hu, Result.andThen_ok, Aj hi, if_neg hlim', if_pos h0, Sem.run_pure, hpl, r1]
       rfl
      ·simp only [Instr.buildSlice, Sem.run_bind, run_underlying hu, Result.andThen_ok, Aj hi, if_neg hlim', if_neg h0, Sem.run_pure, z1, hpl, r1]
       rfl
     simp only [execOp, ho, Sem.run_bind, hexec, Result.andThen_ok, Sem.run_pure]
    ·simp [Pr.run] at hx
   ·simp [Pr.run] at hx
  ·simp [Pr.run] at hx
 ·simp [Pr.run] at hx
def rfsP (P : Program) (G : Nat → Option PV) (o : Oper) (fr : Nat → PV) (k : Nat) : Pr := match o.op with
 | .buildSlice t n parts => Ha P t n (Ck (evO P G 0 fr) parts.toList) k
 | _ => .fail
theorem Qe (h : Ac C F ρ s a w) (hF : F k) {v : PV} {ups : List (Nat × Option Row)} {ob : List Prop} {rd : List Nat} (hx : (rfsP C.P C.G o s.fr k).run s.hp = some (v, ups, ob, rd)) : Goes C F ρ s a w o k v ups := by
 unfold rfsP at hx
 split at hx
 ·rename_i t n parts ho
  exact Kn h hF ho (Dc h parts.toList) hx
 ·simp [Pr.run] at hx
def frzP (P : Program) (G : Nat → Option PV) (o : Oper) (fr : Nat → PV) (k : Nat) (ids : List Nat) : Pr := readAll ids fun rl => match o.op with
 | .buildSlice t n parts => (match D8 (bI ids) (Ab rl) (Ck (evO P G 0 fr) parts.toList) with
  | some x => (CG P t n x.1 k).pre ids (Fs rl) x.2
  | none => .fail)
 | .store t x y => (match evO P G 0 fr x with
  | .at id path => (match KQ (bI ids) (Ab rl) (evO P G t fr y) with
   | some q => (JU P t id path q.1).pre ids (Fs rl) q.2
   | none => .fail)
  | _ => .fail)
 | _ => .fail
theorem CP : ∀ (u v : List (Nat × Option Row)) (hp : Hp), Ai hp (u ++ v) = Ai (Ai hp u) v
 | [], _, _ => rfl
 | x :: u, v, hp => by simp only [List.cons_append, Ai]; exact CP u v _
theorem Goes.pre {hp' : Hp} {v : PV} {u0 u : List (Nat × Option Row)} (he : hp' = Ai s.hp u0) (h : Goes C F ρ ⟨s.fr, hp'⟩ a w o k v u) : Goes C F ρ s a w o k v (u0 ++ u) := by
 subst he
 intro K Q hK
 refine h K Q fun x w' ρ' e hs hv => hK x w' ρ' e ?_ ?_
 ·rw [CP]; exact hs
 ·rw [CP]; exact hv
theorem Pk {i : Nat} {rl : List (Nat × Row)} {ids : List Nat} (h : keys rl = ids) (hm : Co i ids = false) : i ∉ keys rl := by
 rw [h]
 intro hi
 rw [Bo.2 hi] at hm
 cases hm
theorem QO (h : Ac C F ρ s a w) (hF : F k) {ids : List Nat} {v : PV} {ups : List (Nat × Option Row)} {ob : List Prop} {rd : List Nat} (hx : (frzP C.P C.G o s.fr k ids).run s.hp = some (v, ups, ob, rd)) (hob : All ob) : Goes C F ρ s a w o k v ups := by
 obtain ⟨rl, rd', h1, h2, h3⟩ := Dy hx
 obtain ⟨f1, f2, f3⟩ := IE (rl := rl) (hp := s.hp) fun x hx => ⟨x.2, h3 x hx, rfl⟩
 have hs := h.freeze f1
 have he : ∀ i, Co i ids = false → Ai s.hp (Fs rl) i = s.hp i := fun i hi => f3 i (Pk h2 hi)
 split at h1
 ·rename_i t n parts ho
  split at h1
  ·rename_i xx hxv
   obtain ⟨u, o', g1, rfl, rfl⟩ := Pr.LU he h1
   refine Goes.pre rfl (Ec hs hF ho (FW hs f2 (Dc hs parts.toList) hxv hob.left) g1)
  ·simp [Pr.run] at h1
 ·rename_i t x y ho
  split at h1
  ·rename_i id path hx0
   split at h1
   ·rename_i q hq
    obtain ⟨u, o', g1, rfl, rfl⟩ := Pr.LU he h1
    refine Goes.pre rfl (H9 hs ho hx0 (fun hne => Mv hs f2 (AA hs t y (Im hq hne)) hq hob.left) g1 hob.right)
   ·simp [Pr.run] at h1
  ·simp [Pr.run] at h1
 ·simp [Pr.run] at h1
end
end Go.Pe
namespace Go.Pe
section
variable {C : Ctx} {F : Nat → Prop} {ρ : Pls} {s : St} {a : Act} {w : World} {o : Oper} {k : Nat}
theorem Ac.newOb (h : Ac C F ρ s a w) {k : Nat} (hF : F k) (o : Obj) (c : PV) (ht : AO c = true) (hw : WF c) (hn : noref c = true) (ho : DR c o) :
  Ac C (fun id => F id ∧ id ≠ k) (upd ρ k (some ⟨w.heap.size, 0, 1⟩)) { s with hp := upd s.hp k (some ⟨c, false⟩) } a (w.alloc o) := by
 obtain ⟨hρ, hh⟩ := h.free k hF
 have hold : ∀ b, b < w.heap.size → (w.alloc o).heap[b]? = w.heap[b]? := fun b hb => alloc_old w o hb
 have hk := Ay.EY (C := C) (hp := s.hp) (row := ⟨c, false⟩) (pl := ⟨w.heap.size, 0, 1⟩) hold hρ rfl
 have he := Ext.upd ⟨w.heap.size, 0, 1⟩ hρ
 refine ⟨h.defers, h.size, fun i hi => ⟨(h.fr i hi).1, (h.fr i hi).2.keep hk he⟩, ⟨fun id row hr => ?_, fun id id' row row' pl pl' hne h1 h2 h3 h4 h5 h6 x x1 x2 x3 x4 => ?_⟩, fun id hid => ?_, fun id row pl h1 h3 j hj => ?_,
  ⟨h.frame.os, h.frame.tape, h.frame.output, by simp; have := h.frame.size; omega, fun b hb => by rw [alloc_old w o (Nat.lt_of_lt_of_le hb h.frame.size)]; exact h.frame.block b hb⟩, fun g c hg => ⟨(h.glob g c hg).1, (h.glob g c hg).2.1, (h.glob g c hg).2.2.keep hk⟩, C.hX _ _ _ _ hk (fun b o hb _ => by rw [hold b (Array.getElem?_eq_some_iff.1 hb).1]; exact hb) h.amb⟩
 ·dsimp only at hr ⊢
  by_cases hid : id = k
  ·subst hid
   rw [upd_same] at hr ⊢
   simp only [Option.some.injEq] at hr
   subst hr
   exact ⟨_, rfl, .inl ⟨ht, hw, hn, rfl, rfl, o, DX w o, ho⟩⟩
  ·rw [upd_ne _ _ hid] at hr ⊢
   obtain ⟨pl, h1, h2⟩ := h.heap.row id row hr
   exact ⟨pl, h1, h2.keep hk he (hold _ h2.lt)⟩
 ·dsimp only at h1 h3
  by_cases e1 : id = k
  ·subst e1
   have e2 : id' ≠ id := Ne.symm hne
   rw [upd_same] at h1 h4
   rw [upd_ne _ _ e2] at h3 h5
   simp only [Option.some.injEq] at h4
   subst h4
   obtain ⟨p, hp1, hp2⟩ := h.heap.row _ _ h3
   rw [h5] at hp1
   simp only [Option.some.injEq] at hp1
   subst hp1
   have := hp2.lt
   simp only at h6
   omega
  ·rw [upd_ne _ _ e1] at h1 h4
   by_cases e2 : id' = k
   ·subst e2
    rw [upd_same] at h3 h5
    simp only [Option.some.injEq] at h5
    subst h5
    obtain ⟨p, hp1, hp2⟩ := h.heap.row _ _ h1
    rw [h4] at hp1
    simp only [Option.some.injEq] at hp1
    subst hp1
    have := hp2.lt
    simp only at h6
    omega
   ·rw [upd_ne _ _ e2] at h3 h5
    exact h.heap.sep id id' row row' pl pl' hne h1 h2 h3 h4 h5 h6 x x1 x2 x3 x4
 ·obtain ⟨h1, h2⟩ := h.free id hid.1
  exact ⟨by rw [upd_ne _ _ hid.2]; exact h1, by show upd s.hp k _ id = none; rw [upd_ne _ _ hid.2]; exact h2⟩
 ·by_cases hid : id = k
  ·subst hid
   rw [upd_same] at h3
   simp only [Option.some.injEq] at h3
   subst h3
   exact .inl h.frame.size
  ·have h1' : upd s.hp k (some ⟨c, false⟩) id = some row := h1
   rw [upd_ne _ _ hid] at h1' h3
   exact h.inn id row pl h1' h3 j hj
theorem Ac.putOb (h : Ac C F ρ s a w) {id : Nat} {row : Row} {pl : Pl} (hr : s.hp id = some row) (hf : row.frz = false) (hρ : ρ id = some pl) (hob : OD w pl row.c) {c' : PV} (o' : Obj) (ht : AO c' = true) (hw : WF c') (hn : noref c' = true) (ho : DR c' o') :
  Ac C F ρ { s with hp := upd s.hp id (some ⟨c', false⟩) } a (w.putObj pl.g o') := by
 obtain ⟨b1, b2, b3, b4, b5, o, b6, b7⟩ := hob
 have hlt : pl.g < w.heap.size := (Array.getElem?_eq_some_iff.1 b6).1
 have hMut : ∀ b x, Mut ρ (upd s.hp id (some ⟨c', false⟩)) b x ↔ Mut ρ s.hp b x := by
  intro b x
  constructor
  ·rintro ⟨i, r, p, h1, h2, h3⟩
   by_cases he : i = id
   ·subst he; exact ⟨i, row, p, hr, hf, h3⟩
   ·rw [upd_ne _ _ he] at h1; exact ⟨i, r, p, h1, h2, h3⟩
  ·rintro ⟨i, r, p, h1, h2, h3⟩
   by_cases he : i = id
   ·subst he; exact ⟨i, ⟨c', false⟩, p, upd_same _ _ _, rfl, h3⟩
   ·exact ⟨i, r, p, by rw [upd_ne _ _ he]; exact h1, h2, h3⟩
 have hT : Tc C ρ (upd s.hp id (some ⟨c', false⟩)) = Tc C ρ s.hp := by
  funext b x
  simp only [Tc, hMut]
 have hk : Ay w (Tc C ρ s.hp) (w.putObj pl.g o') (Tc C ρ (upd s.hp id (some ⟨c', false⟩))) := by
  intro b x u hTb hc
  rw [hT]
  refine ⟨hTb, ?_⟩
  obtain ⟨cs, t, fz, e1, e2⟩ := CB hc
  have hne : b ≠ pl.g := fun e => by
   subst e
   rw [b6] at e1
   rw [Option.some.inj e1] at b7
   cases b7.mov
  simp only [World.cell?, World.putObj_heap_other hne]
  exact hc
 refine ⟨h.defers, h.size, fun i hi => ⟨(h.fr i hi).1, (h.fr i hi).2.keep hk (Ext.refl _)⟩, ⟨fun i r hri => ?_, fun i i' r r' p p' hne h1 h2 h3 h4 h5 h6 => ?_⟩, fun i hi => ?_, fun i r p h1 h3 j hj => ?_, ?_, fun g c hg => ⟨(h.glob g c hg).1, (h.glob g c hg).2.1, (h.glob g c hg).2.2.keep hk⟩, C.hX _ _ _ _ hk (fun b o0 hb hfx => by
  by_cases e : b = pl.g
  ·subst e
   rw [b6] at hb
   have := hfx.2
   rw [← Option.some.inj hb, b7.mov] at this
   cases this
  ·rw [World.putObj_heap_other e]; exact hb) h.amb⟩
 ·by_cases he : i = id
  ·subst he
   have hri' : upd s.hp i (some ⟨c', false⟩) i = some r := hri
   rw [upd_same] at hri'
   simp only [Option.some.injEq] at hri'
   subst hri'
   exact ⟨pl, hρ, .inl ⟨ht, hw, hn, b4, b5, o', World.putObj_heap_same hlt, ho⟩⟩
  ·have hri' : upd s.hp id (some ⟨c', false⟩) i = some r := hri
   rw [upd_ne _ _ he] at hri'
   obtain ⟨p, h1, h2⟩ := h.heap.row i r hri'
   have hg : p.g ≠ pl.g := fun e => by
    have hsep := h.heap.sep id i row r pl p (Ne.symm he) hr hf hri' hρ h1 e.symm
    rcases h2 with ⟨_, _, _, p4, p5, _⟩ | ⟨cs, t, fz, g1, _⟩
    ·exact hsep 0 (by omega) (by omega) (by omega) (by omega)
    ·rw [e, b6] at g1
     rw [Option.some.inj g1] at b7
     cases b7.mov
   exact ⟨p, h1, h2.keep hk (Ext.refl _) (World.putObj_heap_other hg)⟩
 ·have f1 : ∃ r0, s.hp i = some r0 ∧ r0.frz = false := by
   by_cases he : i = id
   ·subst he; exact ⟨row, hr, hf⟩
   ·have h1' : upd s.hp id (some ⟨c', false⟩) i = some r := h1
    rw [upd_ne _ _ he] at h1'
    exact ⟨r, h1', h2⟩
  have f2 : ∃ r0, s.hp i' = some r0 := by
   by_cases he : i' = id
   ·subst he; exact ⟨row, hr⟩
   ·have h3' : upd s.hp id (some ⟨c', false⟩) i' = some r' := h3
    rw [upd_ne _ _ he] at h3'
    exact ⟨r', h3'⟩
  obtain ⟨r0, e0, e1⟩ := f1
  obtain ⟨r2, e2⟩ := f2
  exact h.heap.sep i i' r0 r2 p p' hne e0 e1 e2 h4 h5 h6
 ·obtain ⟨h1, h2⟩ := h.free i hi
  have he : i ≠ id := fun e => by subst e; rw [h2] at hr; cases hr
  exact ⟨h1, by show upd s.hp id _ i = none; rw [upd_ne _ _ he]; exact h2⟩
 ·by_cases he : i = id
  ·subst he; exact h.inn i row p hr h3 j hj
  ·have h1' : upd s.hp id (some ⟨c', false⟩) i = some r := h1
   rw [upd_ne _ _ he] at h1'
   exact h.inn i r p h1' h3 j hj
 ·refine ⟨h.frame.os, h.frame.tape, h.frame.output, by simp; exact h.frame.size, fun b hb => ?_⟩
  by_cases e : b = pl.g
  ·subst e
   have hm : C.M0 pl.g 0 := by
    have := h.inn id row pl hr hρ 0 (by omega)
    rw [b4] at this
    rcases this with e | e
    ·omega
    ·exact e
   refine (h.frame.block _ hb).trans (.inr (.inl ⟨o, o', b6, World.putObj_heap_same hlt, b7.mov, ho.mov, hm⟩))
  ·rw [World.putObj_heap_other e]
   exact h.frame.block b hb
theorem JO {T : T2} {p : PV} {v v' : Value} (h : RV w T ρ v p) (hv : valOf p = some v') : v = v' := by
 cases p <;> simp only [valOf, reduceCtorEq, Option.some.injEq] at hv
 case int k n => subst hv; have := h.AJ rfl (fun _ e => by cases e); simp only [RO] at this; cases this; rfl
 case bool b => subst hv; have := h.AJ rfl (fun _ e => by cases e); simp only [RO] at this; cases this; rfl
 case str s => subst hv; have := h.AJ rfl (fun _ e => by cases e); simp only [RO] at this; cases this; rfl
 case iarr k n l =>
  subst hv
  obtain ⟨cs, rfl, h1, h2⟩ := h.DF rfl
  have hw := h.1
  simp only [WF] at hw
  congr 1
  apply Array.ext'
  apply List.ext_getElem?
  intro j
  simp only [List.getElem?_map]
  cases hl : l[j]? with
  | none =>
   have : l.length ≤ j := List.getElem?_eq_none_iff.1 hl
   simp only [Option.map_none]
   rw [List.getElem?_eq_none_iff]
   simp only [Array.length_toList]
   rw [h1]; show n ≤ j; omega
  | some x =>
   have hj : j < l.length := (List.getElem?_eq_some_iff.1 hl).1
   have hjc : j < cs.size := by rw [h1]; show j < n; omega
   have := h2 j (.int k x) cs[j] (by simp only [flat, List.getElem?_map, hl, Option.map_some]) (Array.getElem?_eq_getElem hjc)
   simp only [RO] at this
   simp only [Option.map_some]
   rw [Array.getElem?_toList, Array.getElem?_eq_getElem hjc]
   generalize cs[j] = u at this ⊢
   cases this
   rfl
theorem OY {T : T2} {k : IntKind} {n : Nat} {l : List Int} (hw : WF (.iarr k n l)) : RV w T ρ (.agg (l.map (Value.int k)).toArray) (.iarr k n l) := by
 refine RV.Hz rfl hw ⟨_, rfl, ?_, fun j q u hq hu => ?_⟩
 ·simp only [WF] at hw
  simp [size, hw.1]
 ·simp only [flat, List.getElem?_map] at hq
  simp only [List.getElem?_toArray, List.getElem?_map] at hu
  cases hl : l[j]? with
  | none => rw [hl] at hq; cases hq
  | some x =>
   rw [hl] at hq hu
   simp only [Option.map_some, Option.some.injEq] at hq hu
   subst hq; subst hu
   simp only [RO]
   exact .int k x
def Iy (ks : List PV) (l : List Int) (es : List MapEntry) (q : PV) (v : Value) (k : IntKind) (r : Option (Nat × Value)) (i : Nat) : Prop :=
 (Cv ks q = false ∧ r = none ∧ BI ks l q = 0) ∨ ∃ j e, Cv ks q = true ∧ r = some (i + j, e.val) ∧ es[j]? = some e ∧ e.key = v ∧ e.val = .int k (BI ks l q) ∧ ∀ x, JP ks l q x = l.set j x
theorem Iy.hit {ks : List PV} {l : List Int} {es : List MapEntry} {q k0 : PV} {n : Int} {e : MapEntry} {v : Value} {k : IntKind} {i : Nat} (h : GX q k0 = true) (hk : e.key = v) (hv : e.val = .int k n) : Iy (k0 :: ks) (n :: l) (e :: es) q v k (some (i, e.val)) i :=
 .inr ⟨0, e, by simp [Cv, h], rfl, rfl, hk, by simp [BI, h, hv], fun x => by simp [JP, h]⟩
theorem Iy.miss {ks : List PV} {l : List Int} {es : List MapEntry} {q k0 : PV} {n : Int} {e : MapEntry} {v : Value} {k : IntKind} {r : Option (Nat × Value)} {i : Nat} (h : GX q k0 = false) (hr : Iy ks l es q v k r (i + 1)) : Iy (k0 :: ks) (n :: l) (e :: es) q v k r i := by
 rcases hr with ⟨h1, h2, h3⟩ | ⟨j, e', h1, h2, h3, h4, h5, h6⟩
 ·exact .inl ⟨by simpa [Cv, h] using h1, h2, by simp [BI, h, h3]⟩
 ·refine .inr ⟨j + 1, e', by simpa [Cv, h] using h1, by rw [h2, show i + 1 + j = i + (j + 1) by omega], by simpa using h3, h4, by simp [BI, h, h5], fun x => by simp [JP, h, h6]⟩
theorem MI {P : Program} {s : ByteArray} {k : IntKind} : ∀ (ks : List PV) (l : List Int) (es : List MapEntry) (i : Nat), ks.map valOf = es.map (fun e => some e.key) → es.map (fun e => e.val) = l.map (Value.int k) → (∀ p ∈ ks, conf .str p = true) →
  ∃ r, Instr.findNow .string (.string s) es i = some r ∧ Iy ks l es (.str s) (.string s) k r i
 | [], l, [], i, _, h2, _ => ⟨none, rfl, .inl ⟨rfl, rfl, by simp [BI]⟩⟩
 | [], l, e :: es, i, h1, _, _ => by simp at h1
 | k0 :: ks, l, [], i, h1, _, _ => by simp at h1
 | k0 :: ks, [], e :: es, i, _, h2, _ => by simp at h2
 | k0 :: ks, n :: l, e :: es, i, h1, h2, h3 => by
  simp only [List.map_cons, List.cons.injEq] at h1 h2
  obtain ⟨t, rfl⟩ : ∃ t, k0 = .str t := by
   have := h3 k0 (by simp)
   cases k0 <;> simp [conf] at this
   exact ⟨_, rfl⟩
  have hk : Value.string t = e.key := by simpa [valOf] using h1.1
  by_cases he : s = t
  ·subst he
   refine ⟨some (i, e.val), ?_, .hit (by simp [GX]) hk.symm h2.1⟩
   have hb : (s == s) = true := by rw [MapKept.bytes_beq]
   simp [Instr.findNow, ← hk, Instr.sameNow, hb]
  ·obtain ⟨r, g1, g2⟩ := MI (P := P) ks l es (i + 1) h1.2 h2.2 fun p hp => h3 p (by simp [hp])
   refine ⟨r, ?_, .miss (by simp [GX, he]) g2⟩
   have hb : (s == t) = false := by
    cases hst : (s == t) with
    | false => rfl
    | true => rw [MapKept.bytes_beq] at hst; exact absurd hst he
   simp [Instr.findNow, ← hk, Instr.sameNow, hb, g1]
theorem Na {P : Program} {kt e0 : TypeId} {n0 : Nat} {ke ke' : IntKind} {lq : List Int} {k : IntKind} (hu : P.underlying kt = some (.array n0 e0)) (hue : P.underlying e0 = some (.int ke')) (hc : P.cellsOf e0 = 1) (hw : WF (.iarr ke n0 lq)) : ∀ (ks : List PV) (l : List Int) (es : List MapEntry) (i : Nat), ks.map valOf = es.map (fun e => some e.key) → es.map (fun e => e.val) = l.map (Value.int k) → (∀ p ∈ ks, conf (.iarr ke n0) p = true ∧ WF p) →
  ∃ r, (Instr.findAsking kt (.agg (lq.map (Value.int ke)).toArray) es i).run P w = .ok r w ∧ Iy ks l es (.iarr ke n0 lq) (.agg (lq.map (Value.int ke)).toArray) k r i
 | [], l, [], i, _, h2, _ => ⟨none, rfl, .inl ⟨rfl, rfl, by simp [BI]⟩⟩
 | [], l, e :: es, i, h1, _, _ => by simp at h1
 | k0 :: ks, l, [], i, h1, _, _ => by simp at h1
 | k0 :: ks, [], e :: es, i, _, h2, _ => by simp at h2
 | k0 :: ks, n :: l, e :: es, i, h1, h2, h3 => by
  simp only [List.map_cons, List.cons.injEq] at h1 h2
  obtain ⟨m, rfl⟩ : ∃ m, k0 = .iarr ke n0 m := by
   have := (h3 k0 (by simp)).1
   cases k0 <;> simp [conf] at this
   rename_i k' n' m
   obtain ⟨a1, a2⟩ := this
   have := IntKind.same_eq a1
   subst this; subst a2
   exact ⟨_, rfl⟩
  have hwk := (h3 _ (List.mem_cons_self ..)).2
  have hk : Value.agg (m.map (Value.int ke)).toArray = e.key := by simpa [valOf] using h1.1
  have heq : (Op.equal kt (.agg (lq.map (Value.int ke)).toArray) e.key).run P w = .ok (decide (lq = m)) w := by
   rw [← hk]
   have hss : IntKind.same ke ke = true := by cases ke <;> rfl
   exact JE (ρ := fun _ => none) (T := fun _ _ => True) 1 10000 kt (.iarr ke n0 lq) (.iarr ke n0 m) _ _ _ (by omega) (by simp [eqT, hu, hue, hc, hss]) (OY hw) (OY hwk)
  by_cases he : lq = m
  ·subst he
   refine ⟨some (i, e.val), ?_, .hit (by simp [GX]) hk.symm h2.1⟩
   simp [Instr.findAsking, heq]
  ·obtain ⟨r, g1, g2⟩ := Na hu hue hc hw ks l es (i + 1) h1.2 h2.2 fun p hp => h3 p (by simp [hp])
   refine ⟨r, ?_, .miss (by simp [GX, he]) g2⟩
   simp [Instr.findAsking, heq, he, g1]
theorem Lr {P : Program} {kt e0 : TypeId} {n0 : Nat} {ke ke' : IntKind} {l : List Int} (em : Bool) (n : Nat) (hu : P.underlying kt = some (.array n0 e0)) (hue : P.underlying e0 = some (.int ke')) (hc : P.cellsOf e0 = 1) (hl : l.length = n0) :
  (Instr.checkKey em (n + 2) kt (.agg (l.map (Value.int ke)).toArray)).run P w = .ok () w := by
 obtain ⟨i, hi⟩ := info_of_underlying hue
 have hsz : (sizeOf e0).run P w = .ok 1 w := by rw [Aj hi, hc]
 rw [Instr.checkKey]
 simp only [Sem.run_bind, run_underlying hu, Result.andThen_ok]
 simp only [Std.Legacy.Range.forIn_eq_forIn_range', Std.Legacy.Range.size, Nat.sub_zero, Nat.add_one_sub_one, Nat.div_one]
 have each : ∀ j ∈ List.range' 0 n0, j < n0 := fun j hj => by
  have := List.mem_range'.1 hj
  omega
 generalize List.range' 0 n0 = is at each
 induction is with
 | nil => simp
 | cons j is ih =>
  have hj := each j (by simp)
  have hg : ((l.map (Value.int ke)).toArray)[j]? = some (.int ke (l[j]'(by omega))) := by
   simp [show j < l.length by omega]
  have hag : (Go.isAgg e0).run P w = .ok false w := by
   simp [Go.isAgg, run_underlying hue]
  have p1 : (part e0 (l.map (Value.int ke)).toArray (j * 1)).run P w = .ok (.int ke (l[j]'(by omega))) w := by
   unfold part
   rw [Sem.run_bind, hag, Result.andThen_ok, Nat.mul_one]
   simp only [Bool.false_eq_true, if_false, hg]
   rfl
  have p2 : (Instr.checkKey em (n + 1) e0 (.int ke (l[j]'(by omega)))).run P w = .ok () w := by
   simp [Instr.checkKey, run_underlying hue]
  simp only [List.forIn_cons, Sem.run_bind, hsz, Result.andThen_ok, p1, p2, Sem.run_pure]
  exact ih (fun y hy => each y (by simp [hy]))
theorem KZ {P : Program} {kt : TypeId} {sh : Sh} {k : IntKind} {ks : List PV} {l : List Int} {es : Array MapEntry} {q : PV} {v : Value} {T : T2} (hkt : keyT P kt sh = true) (hq : conf sh q = true) (hv : RV w T ρ v q)
  (h1 : ks.map valOf = es.toList.map (fun e => some e.key)) (h2 : es.toList.map (fun e => e.val) = l.map (Value.int k)) (hks : ∀ p ∈ ks, conf sh p = true ∧ WF p) :
  (∀ em, (Instr.checkKey em 10000 kt v).run P w = .ok () w) ∧ (∃ r, (Instr.findKey kt v es.toList).run P w = .ok r w ∧ Iy ks l es.toList q v k r 0) ∧ Instr.sameBits 10000 v v = true ∧ valOf q = some v := by
 unfold keyT at hkt
 split at hkt
 ·rename_i hu
  obtain ⟨s, rfl⟩ : ∃ s, q = .str s := by
   cases q <;> simp [conf] at hq
   exact ⟨_, rfl⟩
  have hvs : v = .string s := JO hv rfl
  subst hvs
  obtain ⟨r, g1, g2⟩ := MI (P := P) (s := s) ks l es.toList 0 h1 h2 fun p hp => (hks p hp).1
  exact ⟨fun em => MapKept.run_checkKey hu (by simp [MapKept.IsKey]) em 9999, ⟨r, MapKept.run_findKey hu g1, g2⟩, MapKept.sameBits_self (d := .string) (by simp [MapKept.IsKey]) 10000, rfl⟩
 ·rename_i n0 e0 ke m hu
  split at hkt
  ·rename_i ke' hue
   simp only [Bool.and_eq_true, Nat.beq_eq] at hkt
   obtain ⟨rfl, hc⟩ := hkt
   obtain ⟨lq, rfl⟩ : ∃ lq, q = .iarr ke n0 lq := by
    cases q <;> simp [conf] at hq
    rename_i k' n' m
    obtain ⟨a1, a2⟩ := hq
    have := IntKind.same_eq a1
    subst this; subst a2
    exact ⟨_, rfl⟩
   have hvs : v = .agg (lq.map (Value.int ke)).toArray := JO hv rfl
   subst hvs
   have hw := hv.1
   obtain ⟨r, g1, g2⟩ := Na (w := w) hu hue hc hw ks l es.toList 0 h1 h2 hks
   refine ⟨fun em => Lr em 9998 hu hue hc (by simp only [WF] at hw; exact hw.1), ⟨r, by rw [run_findKey_eq w (by simp [hu])]; exact g1, g2⟩, ?_, rfl⟩
   have hb : ∀ x ∈ (lq.map (Value.int ke)).zip (lq.map (Value.int ke)), Instr.sameBits 9999 x.1 x.2 = true := by
    intro x hx
    obtain ⟨j, hj, e⟩ := List.getElem_of_mem hx
    rw [List.getElem_zip] at e
    rw [← e]
    simp [Instr.sameBits]
   show Instr.sameBits (9999 + 1) (.agg _) (.agg _) = true
   simp only [Instr.sameBits, beq_self_eq_true, Bool.true_and, List.all_eq_true]
   intro x hx
   exact hb x (by simpa using hx)
  ·cases hkt
 ·cases hkt
theorem Mr {P : Program} {t : TypeId} {sh : Sh} {k : IntKind} (h : OM P t sh k = true) : ∃ kt et k', P.underlying t = some (.map kt et) ∧ keyT P kt sh = true ∧ P.underlying et = some (.int k') ∧ k' = k ∧ (P.info? et).bind (·.zero) = some (.int k 0) := by
 unfold OM at h
 split at h
 ·rename_i kt et hu
  simp only [Bool.and_eq_true] at h
  obtain ⟨h1, h2⟩ := h
  split at h2
  ·rename_i k' hue
   simp only [Bool.and_eq_true] at h2
   obtain ⟨h3, h4⟩ := h2
   split at h4
   ·rename_i k2 z hz
    simp only [Bool.and_eq_true, decide_eq_true_eq] at h4
    obtain ⟨h5, rfl⟩ := h4
    have e1 := IntKind.same_eq h3
    have e2 := IntKind.same_eq h5
    subst e1; subst e2
    exact ⟨kt, et, _, hu, h1, hue, rfl, hz⟩
   ·cases h4
  ·cases h2
 ·cases h
theorem M9 {k : IntKind} : ∀ (ks : List PV) (l : List Int) (q : PV), (∀ x ∈ l, k.wrap x = x) → k.wrap (BI ks l q) = BI ks l q
 | [], l, q, _ => by simp [BI]; cases k <;> decide
 | k0 :: ks, [], q, _ => by simp [BI]; cases k <;> decide
 | k0 :: ks, n :: l, q, h => by
  simp only [BI]
  split
  ·exact h n (by simp)
  ·exact M9 ks l q fun x hx => h x (by simp [hx])
theorem Qo {T : T2} {pl : Pl} {row : Row} {s0 n m : Nat} {sh : Sh} {ks : List PV} {k : IntKind} {l : List Int} (h : Ao w T ρ pl row) (hc : row.c = .tup [.tup [.parr s0 n sh ks, .iarr k m l]]) :
  OD w pl row.c ∧ ∃ es clock, w.heap[pl.g]? = some (.map es clock) ∧ ks.map valOf = es.toList.map (fun e => some e.key) ∧ es.toList.map (fun e => e.val) = l.map (Value.int k) ∧ (ks.length = n ∧ ∀ p ∈ ks, size p = s0 ∧ conf sh p = true ∧ WF p ∧ noref p = true) ∧ l.length = m ∧ ∀ x ∈ l, k.wrap x = x := by
 have hob : OD w pl row.c := by
  rcases h with h | ⟨cs, t, fz, g1, g2, g3, g4, g5, g6⟩
  ·exact h
  ·exfalso
   rw [hc] at g3 g6
   simp only [size] at g3
   have hj : pl.off < cs.size := by omega
   have := g6 0 (.tup [.tup [.parr s0 n sh ks, .iarr k m l]]) cs[pl.off] (by simp [flat]) (by rw [Nat.add_zero]; exact Array.getElem?_eq_getElem hj)
   simp only [RO] at this
   generalize cs[pl.off] = u at this
   cases this
 refine ⟨hob, ?_⟩
 obtain ⟨b1, b2, b3, b4, b5, o, b6, b7⟩ := hob
 rw [hc] at b2 b7
 unfold DR at b7
 split at b7
 ·rename_i e1
  simp only [PV.tup.injEq, List.cons.injEq, PV.parr.injEq, PV.iarr.injEq, and_true] at e1
  obtain ⟨⟨_, _, _, rfl⟩, rfl, _, rfl⟩ := e1
  simp only [WF, WFL, and_true] at b2
  obtain ⟨⟨w1, w2, w3⟩, w4, w5⟩ := b2
  exact ⟨_, _, b6, b7.1, b7.2, ⟨w1, fun p hp => ⟨(w3 p hp).1, (w3 p hp).2.1, AC w2 p hp, (w3 p hp).2.2⟩⟩, w4, w5⟩
 ·rename_i e1
  cases e1
 ·exact b7.elim
theorem Ls (h : Ac C F ρ s a w) (hF : F k) {t : TypeId} (ho : o.op = .makeMap t none) {c : PV} (hc : Jj C.P t = some c) : Goes C F ρ s a w o k (.fn 1000000 k) [(k, some ⟨c, false⟩)] := by
 have hcc : AO c = true ∧ WF c ∧ noref c = true ∧ DR c (.map #[] 0) := by
  unfold Jj at hc
  split at hc
  ·split at hc
   ·simp only [Option.some.injEq] at hc
    subst hc
    exact ⟨rfl, by simp [WF, WFL], rfl, rfl, rfl⟩
   ·split at hc
    ·simp only [Option.some.injEq] at hc
     subst hc
     exact ⟨rfl, by simp [WF, WFL], rfl, rfl, rfl⟩
    ·cases hc
   ·cases hc
  ·cases hc
 intro K Q hK
 have h' := h.newOb hF (.map #[] 0) c hcc.1 hcc.2.1 hcc.2.2.1 hcc.2.2.2
 refine Cf (u := .map (some w.heap.size)) (w' := w.alloc (.map #[] 0)) ?_ (hK _ _ _ (Ext.upd _ (h.free k hF).1) (h'.less fun i hi => ⟨hi.1, by omega⟩) fun _ => ?_)
 ·have := RowKit.run_makeMap (P := C.P) t w
  simp only [execOp, ho, Option.map_none, Sem.run_bind, this, Result.andThen_ok, Sem.run_pure]
 ·refine RV.Ap rfl (fun _ e => by cases e) trivial ?_
  exact ⟨⟨w.heap.size, 0, 1⟩, upd_same _ _ _, rfl⟩
theorem OG (h : Ac C F ρ s a w) {x : Operand} {f id : Nat} (hx : evO C.P C.G 0 s.fr x = .fn f id) (hf : Nat.beq f 1000000 = true) : ∃ pl, ρ id = some pl ∧ a.eval x = .map (some pl.g) := by
 have h1 := AA h 0 x (by rw [hx]; intro e; cases e)
 rw [hx] at h1
 obtain ⟨pl, p1, p2⟩ := h1.AJ rfl (fun _ e => by cases e)
 refine ⟨pl, p1, ?_⟩
 rw [p2, Kv, if_pos hf]
theorem MP (h : Ac C F ρ s a w) {t : TypeId} {x i : Operand} {ok : Bool} (ho : o.op = .lookup t x i ok) {f id : Nat} (hx0 : evO C.P C.G 0 s.fr x = .fn f id) (hf : Nat.beq f 1000000 = true) {row : Row} (hr : s.hp id = some row)
  {v : PV} {ups : List (Nat × Option Row)} {ob : List Prop} {rd : List Nat} (hx : (LQ C.P t row.c (evO C.P C.G 0 s.fr i) ok).run s.hp = some (v, ups, ob, rd)) : Goes C F ρ s a w o k v ups := by
 unfold LQ at hx
 split at hx
 ·rename_i s0 n sh ks k0 m l hc
  split at hx
  ·rename_i hb
   simp only [Bool.and_eq_true] at hb
   obtain ⟨b1, b2⟩ := hb
   obtain ⟨kt, et, k', u1, u2, u3, rfl, u4⟩ := Mr b1
   obtain ⟨pl, p1, p2⟩ := OG h hx0 hf
   obtain ⟨pl', p1', hrel⟩ := h.heap.row id row hr
   rw [p1] at p1'
   cases p1'
   obtain ⟨_, es, clock, e1, e2, e3, ⟨_, e4⟩, e5, e6⟩ := Qo hrel hc
   have hqne : evO C.P C.G 0 s.fr i ≠ .undef := fun e => by rw [e] at b2; cases sh <;> simp [keyT] at u2 <;> simp [conf] at b2
   have hv := AA h 0 i hqne
   obtain ⟨f1, ⟨r, f2, f3⟩, _⟩ := KZ u2 b2 hv e2 e3 (fun p hp => ⟨(e4 p hp).2.1, (e4 p hp).2.2.1⟩)
   have hz : (zeroValue et).run C.P w = .ok (.int k' 0) w := by
    cases hi : C.P.info? et with
    | none => simp [hi] at u4
    | some i =>
     simp only [hi, Option.bind_some] at u4
     simp [zeroValue, typeInfo, program, Sem.run, hi, u4]
   have hget : (getObj pl.g).run C.P w = .ok (.map es clock) w := MapKept.run_getObj_map e1
   have hrun : (Instr.lookup t (.map (some pl.g)) (a.eval i) ok).run C.P w = .ok (if ok then .tuple #[.int k' (BI ks l (evO C.P C.G 0 s.fr i)), .bool (Cv ks (evO C.P C.G 0 s.fr i))] else .int k' (BI ks l (evO C.P C.G 0 s.fr i))) w := by
    rcases f3 with ⟨g1, rfl, g3⟩ | ⟨j, e, g1, rfl, g3, g4, g5, g6⟩
    ·simp only [Instr.lookup, Sem.run_bind, run_underlying u1, Result.andThen_ok, hget, Sem.run_pure, f1, f2, hz, g1, g3]
    ·simp only [Instr.lookup, Sem.run_bind, run_underlying u1, Result.andThen_ok, hget, Sem.run_pure, f1, f2, g1, g5]
   have hw : k'.wrap (BI ks l (evO C.P C.G 0 s.fr i)) = BI ks l (evO C.P C.G 0 s.fr i) := M9 _ _ _ e6
   split at hx
   ·rename_i hok
    simp only [Pr.run, Option.some.injEq, Prod.mk.injEq] at hx
    obtain ⟨rfl, rfl, _, _⟩ := hx
    refine Goes.pure h (u := .tuple #[.int k' (BI ks l (evO C.P C.G 0 s.fr i)), .bool (Cv ks (evO C.P C.G 0 s.fr i))]) (by
     rw [hok] at hrun
     simp only [execOp, ho, hok, p2, Sem.run_bind, hrun, if_true, Result.andThen_ok, Sem.run_pure]) fun _ => ?_
    refine ⟨by simp only [WF, WFL]; exact ⟨hw, trivial, trivial⟩, _, rfl, rfl, fun j q u hq hu => ?_⟩
    match j, hq, hu with
    | 0, hq, hu => simp at hq hu; subst hq; subst hu; simp only [RN, isAgg, Bool.false_eq_true, if_false, RO]; exact .int _ _
    | 1, hq, hu => simp at hq hu; subst hq; subst hu; simp only [RN, isAgg, Bool.false_eq_true, if_false, RO]; exact .bool _
    | j + 2, hq, _ => simp at hq
   ·rename_i hok
    simp only [Pr.run, Option.some.injEq, Prod.mk.injEq] at hx
    obtain ⟨rfl, rfl, _, _⟩ := hx
    refine Goes.pure h (u := .int k' (BI ks l (evO C.P C.G 0 s.fr i))) (by
     have hok' : ok = false := by simpa using hok
     rw [hok'] at hrun
     simp only [execOp, ho, hok', p2, Sem.run_bind, hrun, Bool.false_eq_true, if_false, Result.andThen_ok, Sem.run_pure]) fun _ => ?_
    exact RV.Ap rfl (fun _ e => by cases e) (by simp only [WF]; exact hw) (by simp only [RO]; exact .int _ _)
  ·simp [Pr.run] at hx
 ·simp [Pr.run] at hx
theorem EK (h : Ac C F ρ s a w) {t : TypeId} {m q x : Operand} (ho : o.op = .mapUpdate t m q x ∨ o.op = .insert t m q x) {f id : Nat} (hx0 : evO C.P C.G 0 s.fr m = .fn f id) (hf : Nat.beq f 1000000 = true) {row : Row} (hr : s.hp id = some row) {emp : Bool}
  {v : PV} {ups : List (Nat × Option Row)} {ob : List Prop} {rd : List Nat} (hx : (L9 C.P t id row (evO C.P C.G 0 s.fr q) (evO C.P C.G 0 s.fr x) emp).run s.hp = some (v, ups, ob, rd)) (hob : All ob) : Goes C F ρ s a w o k v ups := by
 unfold L9 at hx
 split at hx
 ·simp [Pr.run] at hx
 ·rename_i hfz
  have hfz : row.frz = false := by simpa using hfz
  split at hx
  ·rename_i s0 n sh ks k0 m0 l k1 z hc hxv
   split at hx
   ·rename_i hb
    simp only [Bool.and_eq_true, Nat.beq_eq] at hb
    obtain ⟨⟨⟨b1, b2⟩, b3⟩, b4⟩ := hb
    have b3 := IntKind.same_eq b3
    subst b3
    obtain ⟨kt, et, k', u1, u2, u3, rfl, u4⟩ := Mr b1
    obtain ⟨pl, p1, p2⟩ := OG h hx0 hf
    obtain ⟨pl', p1', hrel⟩ := h.heap.row id row hr
    rw [p1] at p1'
    cases p1'
    obtain ⟨hobr, es, clock, e1, e2, e3, ⟨e7, e4⟩, e5, e6⟩ := Qo hrel hc
    have hqne : evO C.P C.G 0 s.fr q ≠ .undef := fun e => by rw [e] at b2; cases sh <;> simp [keyT] at u2 <;> simp [conf] at b2
    have hv := AA h 0 q hqne
    have hxr := AA h 0 x (by rw [hxv]; intro e; cases e)
    rw [hxv] at hxr
    have hz := hxr.1
    simp only [WF] at hz
    have hxe : a.eval x = .int k' z := JO hxr rfl
    have hnq : noref (evO C.P C.G 0 s.fr q) = true := by
     generalize evO C.P C.G 0 s.fr q = p at b2
     cases sh <;> simp [keyT] at u2 <;> cases p <;> simp [conf] at b2 <;> rfl
    obtain ⟨f1, ⟨r, f2, f3⟩, f4, f5⟩ := KZ u2 b2 hv e2 e3 (fun p hp => ⟨(e4 p hp).2.1, (e4 p hp).2.2.1⟩)
    have hget : (getObj pl.g).run C.P w = .ok (.map es clock) w := MapKept.run_getObj_map e1
    have hset : ∀ o', (setObj pl.g o').run C.P w = .ok () (w.putObj pl.g o') := fun o' => MapKept.run_setObj_map o' e1
    have hlt : pl.g < w.heap.size := (Array.getElem?_eq_some_iff.1 e1).1
    generalize hqv : a.eval q = qv at *
    generalize evO C.P C.G 0 s.fr q = qp at *
    split at hx
    ·simp only [Pr.run, Option.some.injEq, Prod.mk.injEq] at hx
     obtain ⟨rfl, rfl, rfl, _⟩ := hx
     have hhas : Cv ks qp = true := hob.head
     rcases f3 with ⟨g1, _, _⟩ | ⟨j, e, g1, rfl, g3, g4, g5, g6⟩
     ·rw [hhas] at g1; cases g1
     have hjl : j < es.size := by have := (List.getElem?_eq_some_iff.1 g3).1; simpa using this
     have hge : es[j]? = some e := by rw [← Array.getElem?_toList]; exact g3
     have hrun : (Instr.mapUpdate t (.map (some pl.g)) qv (.int k' z)).run C.P w = .ok () (w.putObj pl.g (.map (es.modify j fun e => { e with key := qv, val := .int k' z }) clock)) := by
      have hks : (Instr.keyThatStays (((es[j]?).map (·.key)).getD qv) qv).run C.P w = .ok qv w := by
       rw [hge, Option.map_some, Option.getD_some, g4]
       simp [Instr.keyThatStays, f4]
      simp only [Instr.mapUpdate, Sem.run_bind, run_underlying u1, Result.andThen_ok, hget, f1, f2, hks, hset, Nat.zero_add]
     have hcov : DR (.tup [.tup [.parr s0 n sh ks, .iarr k' m0 (JP ks l qp z)]]) (.map (es.modify j fun e => { e with key := qv, val := .int k' z }) clock) := by
      refine ⟨?_, ?_⟩
      ·rw [e2]
       apply List.ext_getElem?
       intro i
       simp only [List.getElem?_map, Array.getElem?_toList, Array.getElem?_modify]
       by_cases hij : j = i
       ·subst hij; rw [if_pos rfl, hge]; simp [g4]
       ·rw [if_neg hij]
      ·rw [g6]
       apply List.ext_getElem?
       intro i
       have e3i := congrArg (fun L => L[i]?) e3
       simp only [List.getElem?_map, Array.getElem?_toList, Array.getElem?_modify, List.getElem?_set] at e3i ⊢
       by_cases hij : j = i
       ·subst hij
        rw [if_pos rfl, if_pos rfl, hge]
        have hjl2 : j < l.length := by
         have : es.toList.length = l.length := by have := congrArg List.length e3; simpa using this
         simp at this; omega
        rw [if_pos hjl2]; rfl
       ·rw [if_neg hij, if_neg hij]; exact e3i
     have hww : WF (.tup [.tup [.parr s0 n sh ks, .iarr k' m0 (JP ks l qp z)]]) := by
      simp only [WF, WFL, and_true]
      refine ⟨⟨e7, Bt fun p hp => (e4 p hp).2.2.1, fun p hp => ⟨(e4 p hp).1, (e4 p hp).2.1, (e4 p hp).2.2.2⟩⟩, ?_, ?_⟩
      ·rw [g6, List.length_set]; exact e5
      ·rw [g6]
       intro y hy
       rcases List.mem_or_eq_of_mem_set hy with hy | rfl
       ·exact e6 y hy
       ·exact hz
     have h' := h.putOb hr hfz p1 hobr _ rfl hww rfl hcov
     intro K Q hK
     refine Jl (w' := _) ?_ (hK _ _ ρ (Ext.refl _) (h'.less fun _ hi => hi.1) fun hne => absurd rfl hne)
     rcases ho with ho | ho <;> simp only [execOp, ho, p2, hqv, hxe, Sem.run_bind, hrun, Result.andThen_ok, Sem.run_pure]
    ·simp only [Pr.run, Option.some.injEq, Prod.mk.injEq] at hx
     obtain ⟨rfl, rfl, rfl, _⟩ := hx
     have hhas : Cv ks qp = false := hob.head
     obtain ⟨g1, rfl, g3⟩ : Cv ks qp = false ∧ r = none ∧ BI ks l qp = 0 := by
      rcases f3 with h3 | ⟨j, e, g1, _⟩
      ·exact h3
      ·rw [hhas] at g1; cases g1
     have hrun : (Instr.mapUpdate t (.map (some pl.g)) qv (.int k' z)).run C.P w = .ok () (w.putObj pl.g (.map (es.push { key := qv, val := .int k' z, born := clock }) (clock + 1))) := by
      simp only [Instr.mapUpdate, Sem.run_bind, run_underlying u1, Result.andThen_ok, hget, f1, f2, hset]
     have hcov : DR (.tup [.tup [.parr s0 (n + 1) sh (ks ++ [qp]), .iarr k' (m0 + 1) (l ++ [z])]]) (.map (es.push { key := qv, val := .int k' z, born := clock }) (clock + 1)) := by
      refine ⟨?_, ?_⟩
      ·simp [e2, f5]
      ·simp [e3]
     have hww : WF (.tup [.tup [.parr s0 (n + 1) sh (ks ++ [qp]), .iarr k' (m0 + 1) (l ++ [z])]]) := by
      simp only [WF, WFL, and_true]
      refine ⟨⟨by simp [e7], Bt fun p hp => ?_, fun p hp => ?_⟩, by simp [e5], fun y hy => ?_⟩
      ·rcases List.mem_append.1 hp with hp | hp
       ·exact (e4 p hp).2.2.1
       ·simp at hp; subst hp; exact hv.1
      ·rcases List.mem_append.1 hp with hp | hp
       ·exact ⟨(e4 p hp).1, (e4 p hp).2.1, (e4 p hp).2.2.2⟩
       ·simp at hp; subst hp; exact ⟨b4, b2, hnq⟩
      ·rcases List.mem_append.1 hy with hy | hy
       ·exact e6 y hy
       ·simp at hy; subst hy; exact hz
     have h' := h.putOb hr hfz p1 hobr _ rfl hww rfl hcov
     intro K Q hK
     refine Jl (w' := _) ?_ (hK _ _ ρ (Ext.refl _) (h'.less fun _ hi => hi.1) fun hne => absurd rfl hne)
     rcases ho with ho | ho <;> simp only [execOp, ho, p2, hqv, hxe, Sem.run_bind, hrun, Result.andThen_ok, Sem.run_pure]
   ·simp [Pr.run] at hx
  ·simp [Pr.run] at hx
theorem Qf (h : Ac C F ρ s a w) (hF : F k) {emp : Bool} {v : PV} {ups : List (Nat × Option Row)} {ob : List Prop} {rd : List Nat} (hx : (mapP C.P C.G o s.fr k emp).run s.hp = some (v, ups, ob, rd)) (hob : All ob) : Goes C F ρ s a w o k v ups := by
 unfold mapP at hx
 split at hx
 ·rename_i t ho
  split at hx
  ·rename_i c hc
   simp only [Pr.run, Option.some.injEq, Prod.mk.injEq] at hx
   obtain ⟨rfl, rfl, _, _⟩ := hx
   exact Ls h hF ho hc
  ·simp [Pr.run] at hx
 ·rename_i t x i ok ho
  split at hx
  ·rename_i f id hx0
   split at hx
   ·rename_i hf
    simp only [Pr.run] at hx
    split at hx
    ·rename_i row hr
     simp only [Option.map_eq_some_iff, Prod.mk.injEq] at hx
     obtain ⟨⟨v', u', o', r'⟩, h1, rfl, rfl, rfl, _⟩ := hx
     exact MP h ho hx0 hf hr h1
    ·cases hx
   ·simp [Pr.run] at hx
  ·simp [Pr.run] at hx
 ·rename_i t m q x ho
  split at hx
  ·rename_i f id hx0
   split at hx
   ·rename_i hf
    simp only [Pr.run] at hx
    split at hx
    ·rename_i row hr
     simp only [Option.map_eq_some_iff, Prod.mk.injEq] at hx
     obtain ⟨⟨v', u', o', r'⟩, h1, rfl, rfl, rfl, _⟩ := hx
     exact EK h (.inl ho) hx0 hf hr h1 hob
    ·cases hx
   ·simp [Pr.run] at hx
  ·simp [Pr.run] at hx
 ·rename_i t m q x ho
  split at hx
  ·rename_i f id hx0
   split at hx
   ·rename_i hf
    simp only [Pr.run] at hx
    split at hx
    ·rename_i row hr
     simp only [Option.map_eq_some_iff, Prod.mk.injEq] at hx
     obtain ⟨⟨v', u', o', r'⟩, h1, rfl, rfl, rfl, _⟩ := hx
     exact EK h (.inr ho) hx0 hf hr h1 hob
    ·cases hx
   ·simp [Pr.run] at hx
  ·simp [Pr.run] at hx
 ·simp [Pr.run] at hx
end
end Go.Pe
namespace Go.Pe
section
variable {C : Ctx} {F : Nat → Prop} {ρ : Pls} {s : St} {a : Act} {w : World} {o : Oper} {k : Nat}
theorem Jm (h : Ac C F ρ s a w) {sT dT e : TypeId} {x : Operand} (ho : o.op = .convert sT dT x) (hs : C.P.underlying sT = some (.slice e)) (he : C.P.underlying e = some (.int .u8)) (hd : C.P.underlying dT = some .string)
  {v : PV} {ups : List (Nat × Option Row)} {ob : List Prop} {rd : List Nat} (hx : (Ev (evO C.P C.G sT s.fr x) F9).run s.hp = some (v, ups, ob, rd)) (hob : All ob) (hne : ∀ b, evO C.P C.G sT s.fr x ≠ .str b) : Goes C F ρ s a w o k v ups := by
 have hval : ∀ d, (∃ l n, d = PV.iarr .u8 n l) → WF d → ∀ (A : Option Addr) (n c : Nat), a.eval x = .slice A n c → Aa d = n → n ≤ maxLen →
   (0 < n → ∃ b o', A = some ⟨b, o', none⟩ ∧ ∀ (j : Nat) (q : PV), (flat d)[j]? = some q → ∃ u, w.cell? ⟨b, o' + j, none⟩ = some u ∧ RO w (Tc C ρ s.hp) ρ u q) →
   ∀ {v ups ob rd}, (F9 d).run s.hp = some (v, ups, ob, rd) → Goes C F ρ s a w o k v ups := by
  rintro _ ⟨l, m, rfl⟩ hw A n c hv hn hm hc v ups ob rd hr
  simp only [WF] at hw
  simp only [Aa] at hn
  simp only [F9, Pr.run, Option.some.injEq, Prod.mk.injEq] at hr
  obtain ⟨rfl, rfl, _, _⟩ := hr
  refine NE h ho hs he hd hv (by omega) hm fun h0 => ?_
  obtain ⟨b, o', hA, hcell⟩ := hc h0
  refine ⟨b, o', hA, fun j hj => ?_⟩
  obtain ⟨u, g1, g2⟩ := hcell j (.int .u8 l[j]) (by simp [flat, hj])
  simp only [RO] at g2
  cases g2
  exact g1
 have hbytes : ∀ {d v ups ob rd}, (F9 d).run s.hp = some (v, ups, ob, rd) → ∃ l n, d = PV.iarr .u8 n l := by
  intro d v ups ob rd hr
  unfold F9 at hr
  split at hr
  ·exact ⟨_, _, rfl⟩
  ·simp [Pr.run] at hr
 unfold Ev at hx
 split at hx
 ·rename_i nl c hA
  obtain ⟨w1, w2, w3⟩ := CV h hA
  obtain ⟨l, n, rfl⟩ := hbytes hx
  have hv := rfl (a := a.eval x)
  generalize hvx : a.eval x = vx at w3 hv
  cases w3 with
  | vec0 A cc _ _ hl hn _ => exact hval _ ⟨l, n, rfl⟩ w1 A 0 cc hvx hl (by simp [maxLen]) (fun h0 => absurd h0 (by omega)) hx
  | vec1 b o' n' c _ us hn hc hm g1 g2 => exact hval _ ⟨l, n, rfl⟩ w1 _ n' c hvx hn (by omega) (fun _ => ⟨b, o', rfl, fun j q hq => ⟨us j, (g1 j q hq).2, RO.Be (g2 j q hq)⟩⟩) hx
 ·rename_i id path sz off n hA
  simp only [Pr.run] at hx
  split at hx
  ·rename_i row hr
   split at hx
   ·rename_i q hq
    split at hx
    ·rename_i hb
     simp only [Bool.and_eq_true] at hb
     simp only [Option.map_eq_some_iff, Prod.mk.injEq] at hx
     obtain ⟨⟨v', u', o', r'⟩, h1, rfl, rfl, rfl, _⟩ := hx
     obtain ⟨ob', g1, g2⟩ := Pr.JJ h1
     subst g2
     have hle : off + n ≤ Aa q := hob.head
     have hpo : All (Ba row.c path) := (All.tail hob).left
     have hsz := Nat.eq_of_beq_eq_true hb.2
     obtain ⟨pl, A, c, p1, p2, p3, p5, p4⟩ := Cz h hA
     obtain ⟨pl', p1', hrel⟩ := h.heap.row id row hr
     rw [p1] at p1'
     cases p1'
     obtain ⟨c1, _, _, c3⟩ := hrel.Cy hq (Bf hb.1) hpo
     obtain ⟨s1, s2, s3, s4, s5⟩ := Dl c1 hb.1 hle
     obtain ⟨l, m, hlm⟩ := hbytes g1
     refine hval (sub q off n) ⟨l, m, hlm⟩ s1 _ n c p2 s3 (by omega) (fun h0 => ?_) g1
     obtain ⟨rfl, _⟩ := p4 (by omega)
     refine ⟨_, _, rfl, fun j y hy => ?_⟩
     obtain ⟨u, e1, e2⟩ := c3 _ y (s5 j y hy)
     refine ⟨u, ?_, e2⟩
     rw [← e1, ← hsz]
     congr 2
     omega
    ·simp [Pr.run] at hx
   ·simp [Pr.run] at hx
  ·cases hx
 ·rename_i b hA
  exact absurd hA (hne b)
 ·simp [Pr.run] at hx
theorem Pr.Al {hp : Hp} {x : PV × List (Nat × Option Row) × List Prop × List Nat} (h : Pr.fail.run hp = some x) : False := by simp [Pr.run] at h
theorem Km (h : Ac C F ρ s a w) {fn : Fn} {first caps : Array Operand} (ho : o.op = .makeFunc fn first caps) {v : PV} {ups : List (Nat × Option Row)} {ob : List Prop} {rd : List Nat}
  (hx : (G7 fn (first.toList.map fun x => evO C.P C.G 0 s.fr x) (caps.toList.map fun x => evO C.P C.G 0 s.fr x)).run s.hp = some (v, ups, ob, rd)) : Goes C F ρ s a w o k v ups := by
 obtain ⟨first⟩ := first
 obtain ⟨caps⟩ := caps
 simp only at hx
 unfold G7 at hx
 split at hx
 ·rename_i e4 e5 f id e2 e3
  split at hx
  ·exact (Pr.Al hx).elim
  rename_i htag
  simp only [Pr.run, Option.some.injEq, Prod.mk.injEq] at hx
  obtain ⟨rfl, rfl, _, _⟩ := hx
  have h1 : first = [] := by simpa using e2
  subst h1
  obtain ⟨x, rfl⟩ := List.length_eq_one_iff.1 (by have := congrArg List.length e3; simpa using this)
  simp only [List.map_cons, List.map_nil, List.cons.injEq, and_true] at e3
  obtain ⟨pl, p1, p2⟩ := CR h e3
  refine Goes.pure h (u := .func (.func f) #[] #[a.eval x]) ?_ fun _ => ?_
  ·simp only [execOp, ho]
   simp [Instr.makeFunc]
  ·exact RV.Ap rfl (fun _ e => by cases e) trivial ⟨pl, p1, by rw [p2, Kv, if_neg htag]; simp [Af]⟩
 ·rename_i e4 e5 f i j e2 e3
  simp only [Pr.run, Option.some.injEq, Prod.mk.injEq] at hx
  obtain ⟨rfl, rfl, _, _⟩ := hx
  have h1 : first = [] := by simpa using e2
  subst h1
  obtain ⟨x, y, rfl⟩ : ∃ x y, caps = [x, y] := by
   rcases caps with _ | ⟨x, _ | ⟨y, _ | ⟨z, l⟩⟩⟩
   ·simp at e3
   ·simp at e3
   ·exact ⟨x, y, rfl⟩
   ·simp at e3
  simp only [List.map_cons, List.map_nil, List.cons.injEq, and_true] at e3
  obtain ⟨pl, p1, p2⟩ := CR h e3.1
  obtain ⟨pl', q1, q2⟩ := CR h e3.2
  refine Goes.pure h (u := .func (.func f) #[] #[a.eval x, a.eval y]) ?_ fun _ => ?_
  ·simp only [execOp, ho]
   simp [Instr.makeFunc]
  ·exact RV.Ap rfl (fun _ e => by cases e) trivial ⟨pl, pl', p1, q1, by rw [p2, q2]; simp [Af]⟩
 ·rename_i e4 e5 f p e2 e3
  split at hx
  ·rename_i hc
   simp only [Bool.and_eq_true] at hc
   simp only [Pr.run, Option.some.injEq, Prod.mk.injEq] at hx
   obtain ⟨rfl, rfl, _, _⟩ := hx
   have h1 : caps = [] := by simpa using e3
   subst h1
   obtain ⟨x, rfl⟩ := List.length_eq_one_iff.1 (by have := congrArg List.length e2; simpa using this)
   simp only [List.map_cons, List.map_nil, List.cons.injEq, and_true] at e2
   have hr := AA h 0 x (by rw [e2]; intro e; rw [e] at hc; simp [isAgg] at hc)
   rw [e2] at hr
   obtain ⟨cs, q1, q2, q3⟩ := hr.DF hc.1
   refine Goes.pure h (u := .func (.func f) #[a.eval x] #[]) ?_ fun _ => ?_
   ·simp only [execOp, ho]
    simp [Instr.makeFunc]
   ·refine RV.Ap rfl (fun _ e => by cases e) (by simp only [WF]; exact ⟨hr.1, hc.2, hc.1⟩) ?_
    rw [q1]
    exact .fb f p cs q2 fun j q u hq hu => (q3 j q u hq hu).closed (AZ p hr.1 hc.2 q (List.mem_of_getElem? hq))
  ·exact (Pr.Al hx).elim
 ·exact (Pr.Al hx).elim
theorem De (h : Ac C F ρ s a w) (hF : F k) {emp : Bool} {v : PV} {ups : List (Nat × Option Row)} {ob : List Prop} {rd : List Nat} (hx : (exec C.P C.G o s.fr k emp).run s.hp = some (v, ups, ob, rd)) (hob : All ob) : Goes C F ρ s a w o k v ups := by
 unfold exec at hx
 split at hx
 ·rename_i x ho
  simp only [Pr.run, Option.some.injEq, Prod.mk.injEq] at hx
  obtain ⟨rfl, rfl, _, _⟩ := hx
  exact K3 h (.inl ho)
 ·rename_i x ho
  simp only [Pr.run, Option.some.injEq, Prod.mk.injEq] at hx
  obtain ⟨rfl, rfl, _, _⟩ := hx
  exact K3 h (.inr ho)
 ·rename_i c x y ho
  split at hx
  ·rename_i hc
   simp only [Pr.run, Option.some.injEq, Prod.mk.injEq] at hx
   obtain ⟨rfl, rfl, _, _⟩ := hx
   exact KR h ho hc
  ·rename_i hc
   simp only [Pr.run, Option.some.injEq, Prod.mk.injEq] at hx
   obtain ⟨rfl, rfl, _, _⟩ := hx
   exact KR h ho hc
  ·exact (Pr.Al hx).elim
 ·rename_i e ho
  split at hx
  ·rename_i z hz
   simp only [Pr.run, Option.some.injEq, Prod.mk.injEq] at hx
   obtain ⟨rfl, rfl, _, _⟩ := hx
   exact Nn h hF ho hz
  ·exact (Pr.Al hx).elim
 ·rename_i e x ho
  dsimp only at hx
  split at hx
  ·rename_i hg
   simp only [Pr.run, Option.some.injEq, Prod.mk.injEq] at hx
   obtain ⟨rfl, rfl, _, _⟩ := hx
   exact QH h hF ho hg
  ·exact (Pr.Al hx).elim
 ·rename_i t parts ho
  split at hx
  ·rename_i c hc
   simp only [Pr.run, Option.some.injEq, Prod.mk.injEq] at hx
   obtain ⟨rfl, rfl, _, _⟩ := hx
   exact NP h ho hc
  ·exact (Pr.Al hx).elim
 ·rename_i t n parts ho
  exact IL h hF ho hx
 ·rename_i t x ho
  split at hx
  ·rename_i id path hA
   simp only [Pr.run] at hx
   split at hx
   ·rename_i r hr
    simp only [Option.map_eq_some_iff, Prod.mk.injEq] at hx
    obtain ⟨⟨v', u', o', r'⟩, h1, rfl, rfl, rfl, _⟩ := hx
    exact LG h ho hA hr h1 hob
   ·cases hx
  ·rename_i c path hA
   exact J6 h ho hA hx hob
  ·exact (Pr.Al hx).elim
 ·rename_i t x y ho
  split at hx
  ·rename_i id path hA
   exact Og h ho hA hx hob
  ·exact (Pr.Al hx).elim
 ·rename_i x ho
  split at hx
  ·rename_i id path hA
   simp only [Pr.run, Option.some.injEq, Prod.mk.injEq] at hx
   obtain ⟨rfl, rfl, _, _⟩ := hx
   exact FV h ho hA (.inl ⟨_, _, rfl⟩)
  ·rename_i c path hA
   simp only [Pr.run, Option.some.injEq, Prod.mk.injEq] at hx
   obtain ⟨rfl, rfl, _, _⟩ := hx
   exact FV h ho hA (.inr ⟨_, _, rfl⟩)
  ·exact (Pr.Al hx).elim
 ·rename_i op xT x y yT ho
  split at hx
  ·rename_i b hb
   split at hx
   ·rename_i hT
    simp only [Pr.run, Option.some.injEq, Prod.mk.injEq] at hx
    obtain ⟨rfl, rfl, _, _⟩ := hx
    exact Mg h ho hb hT
   ·exact (Pr.Al hx).elim
  ·unfold binQ at hx
   split at hx
   ·rename_i hag
    simp only [Bool.and_eq_true] at hag
    exact Nq h ho hag.1 hag.2 hx
   ·exact NT h ho hx hob
 ·rename_i op xT x ho
  exact PO h ho hx
 ·rename_i sT dT x ho
  split at hx
  ·rename_i nl c hd hA
   split at hx
   ·rename_i e hs
    split at hx
    ·rename_i he
     exact Jm h ho hs he hd (by rw [hA]; exact hx) hob (fun b hb => by rw [hA] at hb; cases hb)
    ·exact (Pr.Al hx).elim
   ·exact (Pr.Al hx).elim
  ·rename_i id path s0 off n hd hA
   split at hx
   ·rename_i e hs
    split at hx
    ·rename_i he
     exact Jm h ho hs he hd (by rw [hA]; exact hx) hob (fun b hb => by rw [hA] at hb; cases hb)
    ·exact (Pr.Al hx).elim
   ·exact (Pr.Al hx).elim
  ·split at hx
   ·rename_i hs
    exact O7 h ho hF hs hx
   ·exact (Pr.Al hx).elim
 ·rename_i t x y ho
  exact PU h hF ho hx hob
 ·rename_i t x lo hi ho
  exact NI h ho hx hob
 ·rename_i t x i ho
  exact Jy h ho hx
 ·rename_i t x i ho
  exact NZ h ho hx
 ·rename_i t x ix ho
  exact Ki h ho hx hob
 ·rename_i t x ix ho
  exact NJ h ho hx hob
 ·rename_i x i ho
  split at hx
  ·rename_i ps hA
   split at hx
   ·rename_i p hp
    simp only [Pr.run, Option.some.injEq, Prod.mk.injEq] at hx
    obtain ⟨rfl, rfl, _, _⟩ := hx
    exact Lj h ho hA hp
   ·exact (Pr.Al hx).elim
  ·exact (Pr.Al hx).elim
 ·rename_i c ho
  split at hx
  ·rename_i hc
   split at hx
   ·exact (Pr.Al hx).elim
   ·rename_i hs
    simp only [sizes, Bool.not_eq_true', Bool.not_eq_false, Bool.and_eq_true] at hs
    exact QI h ho hc (Nat.eq_of_beq_eq_true hs.2) (Nat.eq_of_beq_eq_true hs.1) hx
  ·rename_i hc
   exact Ia h ho (.inl ⟨hc, hx⟩)
  ·rename_i hc
   exact Ia h ho (.inr ⟨hc, hx⟩)
  ·rename_i hc
   split at hx
   ·exact (Pr.Al hx).elim
   ·rename_i hs
    exact NC h ho hc (by simpa using hs) hx hob
  ·rename_i hc
   split at hx
   ·exact (Pr.Al hx).elim
   ·rename_i hs
    exact O6 h ho hc (by simpa using hs) hx hob
  ·rename_i hc
   split at hx
   ·exact (Pr.Al hx).elim
   ·rename_i hs
    exact MR h hF ho hc (by simpa using hs) hx hob
  ·exact (Pr.Al hx).elim
 ·rename_i fn first caps ho
  exact Km h ho hx
 ·exact Qf h hF hx hob
def Pr.setV (p : PV) : Pr → Pr
 | .ret v u o => .ret p u ((v = p) :: o)
 | .fail => .fail
 | .read id k => .read id fun r => (k r).setV p
def Pr.setU (x : List (Nat × Option Row)) : Pr → Pr
 | .ret v u o => .ret v x ((u = x) :: o)
 | .fail => .fail
 | .read id k => .read id fun r => (k r).setU x
theorem Pr.J7 {hp : Hp} {p : PV} : ∀ {pr : Pr} {v : PV} {ups : List (Nat × Option Row)} {ob : List Prop} {rd : List Nat}, (pr.setV p).run hp = some (v, ups, ob, rd) → ∃ v' ob', pr.run hp = some (v', ups, ob', rd) ∧ v = p ∧ ob = (v' = p) :: ob'
 | .ret v0 u o, v, ups, ob, rd, h => by
  simp only [Pr.setV, Pr.run, Option.some.injEq, Prod.mk.injEq] at h
  obtain ⟨rfl, rfl, rfl, rfl⟩ := h
  exact ⟨v0, o, rfl, rfl, rfl⟩
 | .fail, _, _, _, _, h => by simp [Pr.setV, Pr.run] at h
 | .read id k, v, ups, ob, rd, h => by
  simp only [Pr.setV, Pr.run] at h
  split at h
  ·rename_i r hr
   simp only [Option.map_eq_some_iff, Prod.mk.injEq] at h
   obtain ⟨⟨a1, a2, a3, a4⟩, h1, h2, h3, h4, h5⟩ := h
   simp only at h2 h3 h4 h5
   subst h2; subst h3; subst h4; subst h5
   obtain ⟨v', ob', g1, g2, g3⟩ := Pr.J7 h1
   exact ⟨v', ob', by simp only [Pr.run, hr, g1, Option.map_some], g2, g3⟩
  ·cases h
theorem Pr.JM {hp : Hp} {x : List (Nat × Option Row)} : ∀ {pr : Pr} {v : PV} {ups : List (Nat × Option Row)} {ob : List Prop} {rd : List Nat}, (pr.setU x).run hp = some (v, ups, ob, rd) → ∃ u' ob', pr.run hp = some (v, u', ob', rd) ∧ ups = x ∧ ob = (u' = x) :: ob'
 | .ret v0 u o, v, ups, ob, rd, h => by
  simp only [Pr.setU, Pr.run, Option.some.injEq, Prod.mk.injEq] at h
  obtain ⟨rfl, rfl, rfl, rfl⟩ := h
  exact ⟨u, o, rfl, rfl, rfl⟩
 | .fail, _, _, _, _, h => by simp [Pr.setU, Pr.run] at h
 | .read id k, v, ups, ob, rd, h => by
  simp only [Pr.setU, Pr.run] at h
  split at h
  ·rename_i r hr
   simp only [Option.map_eq_some_iff, Prod.mk.injEq] at h
   obtain ⟨⟨a1, a2, a3, a4⟩, h1, h2, h3, h4, h5⟩ := h
   simp only at h2 h3 h4 h5
   subst h2; subst h3; subst h4; subst h5
   obtain ⟨v', ob', g1, g2, g3⟩ := Pr.JM h1
   exact ⟨v', ob', by simp only [Pr.run, hr, g1, Option.map_some], g2, g3⟩
  ·cases h
theorem Pr.OC {hp : Hp} {d : Bool} : ∀ {pr : Pr} {v : PV} {ups : List (Nat × Option Row)} {ob : List Prop} {rd : List Nat}, (pr.dec d).run hp = some (v, ups, ob, rd) → ∃ b ob', pr.run hp = some (.bool b, ups, ob', rd) ∧ v = .bool d ∧ ob = (b = d) :: ob'
 | .ret v0 u o, v, ups, ob, rd, h => by
  cases v0 <;> simp only [Pr.dec, Pr.run, Option.some.injEq, Prod.mk.injEq, reduceCtorEq] at h
  obtain ⟨rfl, rfl, rfl, rfl⟩ := h
  exact ⟨_, o, rfl, rfl, rfl⟩
 | .fail, _, _, _, _, h => by simp [Pr.dec, Pr.run] at h
 | .read id k, v, ups, ob, rd, h => by
  simp only [Pr.dec, Pr.run] at h
  split at h
  ·rename_i r hr
   simp only [Option.map_eq_some_iff, Prod.mk.injEq] at h
   obtain ⟨⟨a1, a2, a3, a4⟩, h1, h2, h3, h4, h5⟩ := h
   simp only at h2 h3 h4 h5
   subst h2; subst h3; subst h4; subst h5
   obtain ⟨v', ob', g1, g2, g3⟩ := Pr.OC h1
   exact ⟨v', ob', by simp only [Pr.run, hr, g1, Option.map_some], g2, g3⟩
  ·cases h
def FD (fr : Nat → PV) : Callee → Option FuncId
 | .value (.func f) => some f
 | .value (.tmp y) => (match fr y with
  | .fv (.func (.func f) x z) => if Nat.beq x.size 0 && Nat.beq z.size 0 then some f else none
  | _ => none)
 | _ => none
theorem C8 (h : Ac C F ρ s a w) {c : Callee} {f : FuncId} (hf : FD s.fr c = some f) : ∃ x, c = .value x ∧ a.eval x = .func (.func f) #[] #[] := by
 unfold FD at hf
 split at hf
 ·simp only [Option.some.injEq] at hf
  subst hf
  exact ⟨_, rfl, rfl⟩
 ·rename_i y
  split at hf
  ·rename_i g x z hy
   split at hf
   ·rename_i hb
    simp only [Option.some.injEq] at hf
    subst hf
    simp only [Bool.and_eq_true] at hb
    have hx := Array.eq_empty_of_size_eq_zero (Nat.eq_of_beq_eq_true hb.1)
    have hz := Array.eq_empty_of_size_eq_zero (Nat.eq_of_beq_eq_true hb.2)
    subst hx
    subst hz
    refine ⟨_, rfl, ?_⟩
    have h1 := (h.fr y (by rw [hy]; intro e; cases e)).2
    rw [hy] at h1
    have h3 := h1.AJ rfl (fun _ e => by cases e)
    simp only [RO] at h3
    show a.tmps.getD y Go.undef = _
    generalize a.tmps.getD y Go.undef = v0 at h3 ⊢
    cases h3
    rfl
   ·cases hf
  ·cases hf
 ·cases hf
def Fq (P : Program) (G : Nat → Option PV) (o : Oper) (fr : Nat → PV) (k : Nat) (keep : Bool) (inv : List (Nat × Nat)) (hout : List (Nat × Row)) (res : PV) (told : Option (List (Nat × Row) × List PV)) (deep : List Nat) : Pr := match o.op with
 | .call c => (match FD fr c.callee with
  | some f => callP P G f (Bu P G fr c.args.toList c.argTypes.toList) k keep inv hout res told deep
  | none => .fail)
 | _ => .fail
def cutU (ids : List Nat) : List (Nat × Option Row) → List (Nat × Option Row)
 | [] => []
 | x :: l => if Co x.1 ids then cutU ids l else x :: cutU ids l
def KE (rl : List (Nat × Row)) (ids : List Nat) : List (Nat × Option Row) → List Prop
 | [] => []
 | x :: l => if Co x.1 ids then (x.2 = Ab rl x.1) :: KE rl ids l else KE rl ids l
def Pr.cut (rl : List (Nat × Row)) (ids : List Nat) : Pr → Pr
 | .ret v u o => .ret v (cutU ids u) (KE rl ids u ++ o)
 | .fail => .fail
 | .read id k => .read id fun r => (k r).cut rl ids
theorem Pr.OQ {hp : Hp} {rl : List (Nat × Row)} {ids : List Nat} : ∀ {p : Pr} {v : PV} {ups : List (Nat × Option Row)} {ob : List Prop} {rd : List Nat}, (p.cut rl ids).run hp = some (v, ups, ob, rd) → ∃ u' ob', p.run hp = some (v, u', ob', rd) ∧ ups = cutU ids u' ∧ ob = KE rl ids u' ++ ob'
 | .fail, v, ups, ob, rd, h => by simp [Pr.cut, Pr.run] at h
 | .ret v0 u0 o0, v, ups, ob, rd, h => by
  simp only [Pr.cut, Pr.run, Option.some.injEq, Prod.mk.injEq] at h
  obtain ⟨rfl, rfl, rfl, rfl⟩ := h
  exact ⟨u0, o0, rfl, rfl, rfl⟩
 | .read id k, v, ups, ob, rd, h => by
  simp only [Pr.cut, Pr.run] at h
  split at h
  ·rename_i r hr
   simp only [Option.map_eq_some_iff, Prod.mk.injEq] at h
   obtain ⟨⟨a1, a2, a3, a4⟩, h1, h2, h3, h4, h5⟩ := h
   simp only at h2 h3 h4 h5
   subst h2; subst h3; subst h4; subst h5
   obtain ⟨u', ob', g1, g2, g3⟩ := Pr.OQ h1
   exact ⟨u', ob', by simp only [Pr.run, hr, g1, Option.map_some], g2, g3⟩
  ·cases h
theorem Gi {rl : List (Nat × Row)} {ids : List Nat} : ∀ {u : List (Nat × Option Row)}, All (KE rl ids u) → ∀ x ∈ u, Co x.1 ids = true → x.2 = Ab rl x.1
 | [], _, x, hx, _ => by cases hx
 | y :: l, h, x, hx, hm => by
  unfold KE at h
  rcases List.mem_cons.1 hx with rfl | hx
  ·rw [if_pos hm] at h
   exact h.head
  ·split at h
   ·exact Gi h.tail x hx hm
   ·exact Gi h x hx hm
theorem Eo {ids : List Nat} : ∀ (u : List (Nat × Option Row)) (hp : Hp), (∀ x ∈ u, Co x.1 ids = true → hp x.1 = x.2) → Ai hp (cutU ids u) = Ai hp u
 | [], _, _ => rfl
 | x :: l, hp, h => by
  unfold cutU
  by_cases hm : Co x.1 ids = true
  ·rw [if_pos hm, Eo l hp fun y hy => h y (List.mem_cons_of_mem _ hy)]
   have e : upd hp x.1 x.2 = hp := by
    funext j
    unfold upd
    split
    ·rename_i hj; rw [hj]; exact (h x List.mem_cons_self hm).symm
    ·rfl
   simp only [Ai, e]
  ·rw [if_neg hm]
   simp only [Ai]
   refine Eo l _ fun y hy hym => ?_
   have hne : y.1 ≠ x.1 := fun e => hm (by rw [← e]; exact hym)
   rw [upd_ne _ _ hne]
   exact h y (List.mem_cons_of_mem _ hy) hym
theorem Goes.cut {ids : List Nat} {v : PV} {u : List (Nat × Option Row)} (h : Goes C F ρ s a w o k v u) (hu : ∀ x ∈ u, Co x.1 ids = true → s.hp x.1 = x.2) : Goes C F ρ s a w o k v (cutU ids u) := by
 unfold Goes at h ⊢
 rw [Eo u s.hp hu]
 exact h
def EO (P : Program) (G : Nat → Option PV) (o : Oper) (fr : Nat → PV) (k : Nat) (ans : Ans) : Pr := match ans with
 | .none => exec P G o fr k false
 | .emp => exec P G o fr k true
 | .dec b => (exec P G o fr k false).dec b
 | .val p => (exec P G o fr k false).setV p
 | .ups u => (exec P G o fr k false).setU u
 | .vu p u => ((exec P G o fr k false).setV p).setU u
 | .call keep inv hout res => Fq P G o fr k keep inv hout res none []
 | .calla keep inv hin args hout res => Fq P G o fr k keep inv hout res (some (hin, args)) []
 | .frz ids => frzP P G o fr k ids
 | .rfs => rfsP P G o fr k
 | .calld deep keep inv hout res told => Fq P G o fr k keep inv hout res told deep
 | .same ids deep keep inv hout res told => readAll ids fun rl => (Fq P G o fr k keep inv hout res told deep).cut rl ids
theorem Ob (h : Ac C F ρ s a w) (hF : ∀ j, j < 16 → F (k + j)) {ans : Ans} {v : PV} {ups : List (Nat × Option Row)} {ob : List Prop} {rd : List Nat} (hx : (EO C.P C.G o s.fr k ans).run s.hp = some (v, ups, ob, rd)) (hob : All ob) : Goes C F ρ s a w o k v ups := by
 have hF0 : F k := hF 0 (by omega)
 cases ans with
 | none => exact De h hF0 hx hob
 | emp => exact De h hF0 hx hob
 | dec b =>
  obtain ⟨b', ob', h1, rfl, rfl⟩ := Pr.OC hx
  have hb : b' = b := hob.head
  subst hb
  exact De h hF0 h1 hob.tail
 | val p =>
  obtain ⟨v', ob', h1, rfl, rfl⟩ := Pr.J7 hx
  have hb : v' = v := hob.head
  subst hb
  exact De h hF0 h1 hob.tail
 | ups u =>
  obtain ⟨u', ob', h1, rfl, rfl⟩ := Pr.JM hx
  have hb : u' = ups := hob.head
  subst hb
  exact De h hF0 h1 hob.tail
 | vu p u =>
  obtain ⟨u', ob', h1, rfl, rfl⟩ := Pr.JM hx
  have hb : u' = ups := hob.head
  subst hb
  obtain ⟨v', ob2, h2, rfl, rfl⟩ := Pr.J7 h1
  have hb : v' = v := hob.tail.head
  subst hb
  exact De h hF0 h2 hob.tail.tail
 | call keep inv hout res =>
  simp only [EO, Fq] at hx
  split at hx
  ·rename_i c ho
   split at hx
   ·rename_i f hc
    obtain ⟨xf, hc, hcv⟩ := C8 h hc
    exact goes_call h hF ho hc hcv hx hob
   ·exact (Pr.Al hx).elim
  ·exact (Pr.Al hx).elim
 | calla keep inv hin args hout res =>
  simp only [EO, Fq] at hx
  split at hx
  ·rename_i c ho
   split at hx
   ·rename_i f hc
    obtain ⟨xf, hc, hcv⟩ := C8 h hc
    exact goes_call h hF ho hc hcv hx hob
   ·exact (Pr.Al hx).elim
  ·exact (Pr.Al hx).elim
 | frz ids => exact QO h hF0 hx hob
 | rfs => exact Qe h hF0 hx
 | calld deep keep inv hout res told =>
  simp only [EO, Fq] at hx
  split at hx
  ·rename_i c ho
   split at hx
   ·rename_i f hc
    obtain ⟨xf, hc, hcv⟩ := C8 h hc
    exact goes_call h hF ho hc hcv hx hob
   ·exact (Pr.Al hx).elim
  ·exact (Pr.Al hx).elim
 | same ids deep keep inv hout res told =>
  simp only [EO] at hx
  obtain ⟨rl, rd', hx, hkeys, hrl⟩ := Dy hx
  obtain ⟨u', ob', h1, rfl, rfl⟩ := Pr.OQ hx
  refine Goes.cut ?_ fun x hxu hm => ?_
  ·simp only [Fq] at h1
   split at h1
   ·rename_i c ho
    split at h1
    ·rename_i f hc
     obtain ⟨xf, hc, hcv⟩ := C8 h hc
     exact goes_call h hF ho hc hcv h1 hob.right
    ·exact (Pr.Al h1).elim
   ·exact (Pr.Al h1).elim
  ·rw [Gi hob.left x hxu hm]
   have hk : x.1 ∈ keys rl := by rw [hkeys]; exact Bo.1 hm
   obtain ⟨r, hr⟩ := Cb hk
   rw [hr]
   exact hrl _ (Ak hr)
end
end Go.Pe
namespace Go.Pe
theorem Pr.KU {hp hp' : Hp} : ∀ {pr : Pr} {v : PV} {ups : List (Nat × Option Row)} {ob : List Prop} {rd : List Nat}, pr.run hp = some (v, ups, ob, rd) → (∀ i ∈ rd, hp' i = hp i) → pr.run hp' = some (v, ups, ob, rd)
 | .ret v0 u o, v, ups, ob, rd, h, _ => h
 | .fail, _, _, _, _, h, _ => by simp [Pr.run] at h
 | .read id k, v, ups, ob, rd, h, hr => by
  simp only [Pr.run] at h ⊢
  split at h
  ·rename_i r hid
   simp only [Option.map_eq_some_iff, Prod.mk.injEq] at h
   obtain ⟨⟨a1, a2, a3, a4⟩, h1, h2, h3, h4, h5⟩ := h
   simp only at h2 h3 h4 h5
   subst h2; subst h3; subst h4; subst h5
   rw [hr id (by simp), hid]
   simp only [Pr.KU h1 fun i hi => hr i (by simp [hi]), Option.map_some]
  ·cases h
section
variable {P : Program} {G : Nat → Option PV} {fr fr' : Nat → PV}
def Ht (fr fr' : Nat → PV) (o : Oper) : Prop := ∀ x ∈ o.op.operands, ∀ t, x = .tmp t → fr' t = fr t
theorem Db {x : Operand} (h : ∀ t, x = .tmp t → fr' t = fr t) (t : TypeId) : evO P G t fr' x = evO P G t fr x := by
 cases x with
 | tmp i => exact h i rfl
 | _ => rfl
theorem BL {t : TypeId} : ∀ {l : List (Nat × Operand)}, (∀ x ∈ l, ∀ t, x.2 = .tmp t → fr' t = fr t) → Ck (evO P G t fr') l = Ck (evO P G t fr) l
 | [], _ => rfl
 | x :: l, h => by
  simp only [Ck, Db (h x (by simp)), BL (l := l) fun y hy => h y (by simp [hy])]
theorem Ei : ∀ {l : List Operand} {ts : List TypeId}, (∀ x ∈ l, ∀ t, x = .tmp t → fr' t = fr t) → Bu P G fr' l ts = Bu P G fr l ts
 | [], _, _ => rfl
 | x :: l, [], h => by simp only [Bu, Db (h x (by simp)), Ei (l := l) fun y hy => h y (by simp [hy])]
 | x :: l, t :: ts, h => by simp only [Bu, Db (h x (by simp)), Ei (l := l) fun y hy => h y (by simp [hy])]
theorem Nz {o : Oper} (k : Nat) (emp : Bool) (h : Ht fr fr' o) : exec P G o fr' k emp = exec P G o fr k emp := by
 have e : ∀ x ∈ o.op.operands, ∀ t, evO P G t fr' x = evO P G t fr x := fun x hx t => Db (h x hx) t
 obtain ⟨dst, op, type, pos, after, guard⟩ := o
 simp only [Ht] at h
 cases op <;> simp only [Op.operands] at e h <;> simp only [exec]
 case call c =>
  have e' : ∀ x ∈ c.args, ∀ t, evO P G t fr' x = evO P G t fr x := fun x hx t => e x (by simp [Call.operands, hx]) t
  have g : ∀ i t, evO P G t fr' (c.args.getD i (.func 0)) = evO P G t fr (c.args.getD i (.func 0)) := by
   intro i t
   by_cases hi : i < c.args.size
   ·have : c.args.getD i (.func 0) = c.args[i] := by simp [Array.getD, hi]
    rw [this]
    exact e' _ (Array.getElem_mem hi) t
   ·have : c.args.getD i (.func 0) = .func 0 := by simp [Array.getD, hi]
    rw [this]
    rfl
  have m : (c.args.toList.map fun x => evO P G 0 fr' x) = c.args.toList.map fun x => evO P G 0 fr x := List.map_congr_left fun x hx => e' x (Array.mem_toList_iff.1 hx) 0
  split <;> first
   | rfl
   | (rw [m])
   | (simp only [g])
 case build t ps => rw [BL fun x hx t ht => h x.2 (by simp; exact ⟨x.1, by simpa using hx⟩) t ht]
 case buildSlice t n ps => rw [BL fun x hx t ht => h x.2 (by simp; exact ⟨x.1, by simpa using hx⟩) t ht]
 case makeFunc f first caps =>
  have m1 : (first.toList.map fun x => evO P G 0 fr' x) = first.toList.map fun x => evO P G 0 fr x := List.map_congr_left fun x hx => e x (by simp at hx ⊢; exact .inl hx) 0
  have m2 : (caps.toList.map fun x => evO P G 0 fr' x) = caps.toList.map fun x => evO P G 0 fr x := List.map_congr_left fun x hx => e x (by simp at hx ⊢; exact .inr hx) 0
  rw [m1, m2]
 case slice t x lo hi mx => cases lo <;> cases hi <;> cases mx <;> first | (simp_all; done) | rfl
 case makeMap t r => cases r <;> rfl
 case lookup t x i ok => simp only [mapP, e x (by simp), e i (by simp)]
 case mapUpdate t m q x => simp only [mapP, e m (by simp), e q (by simp), e x (by simp)]
 case insert t m q x => simp only [mapP, e m (by simp), e q (by simp), e x (by simp)]
 all_goals first
  | rfl
  | (simp_all; done)
  | (simp only [e _ (by simp)])
theorem Me {o : Oper} (k : Nat) (keep : Bool) (inv : List (Nat × Nat)) (hout : List (Nat × Row)) (res : PV) (told : Option (List (Nat × Row) × List PV)) (deep : List Nat) (h : Ht fr fr' o) : Fq P G o fr' k keep inv hout res told deep = Fq P G o fr k keep inv hout res told deep := by
 unfold Fq
 split
 ·rename_i c ho
  rw [Ei fun x hx t ht => h x (by rw [ho]; simp [Op.operands, Call.operands]; exact .inr (by simpa using hx)) t ht]
  have e : FD fr' c.callee = FD fr c.callee := by
   unfold FD
   split
   ·rfl
   ·rename_i y hc
    rw [h (.tmp y) (by rw [ho]; simp [Op.operands, Call.operands, hc]) y rfl]
   ·rfl
  rw [e]
 ·rfl
theorem NW {o : Oper} (k : Nat) (ids : List Nat) (h : Ht fr fr' o) : frzP P G o fr' k ids = frzP P G o fr k ids := by
 unfold frzP
 congr 1
 funext rl
 split
 ·rename_i t n ps ho
  rw [BL fun x hx t ht => h x.2 (by rw [ho]; simp [Op.operands]; exact ⟨x.1, by simpa using hx⟩) t ht]
 ·rename_i t x y ho
  rw [Db (fun t ht => h x (by rw [ho]; simp [Op.operands]) t ht), Db (fun t ht => h y (by rw [ho]; simp [Op.operands]) t ht)]
 ·rfl
theorem Nj {o : Oper} (k : Nat) (h : Ht fr fr' o) : rfsP P G o fr' k = rfsP P G o fr k := by
 unfold rfsP
 split
 ·rename_i t n ps ho
  rw [BL fun x hx t ht => h x.2 (by rw [ho]; simp [Op.operands]; exact ⟨x.1, by simpa using hx⟩) t ht]
 ·rfl
theorem MS {o : Oper} (k : Nat) (ans : Ans) (h : Ht fr fr' o) : EO P G o fr' k ans = EO P G o fr k ans := by
 cases ans <;> simp only [EO, Nz k _ h, Me k _ _ _ _ _ _ h, NW k _ h, Nj k h]
end
structure Eff where
 v : PV
 ups : List (Nat × Option Row)
 ob : List Prop
 rd : List Nat
def Gw (ops : Array Oper) (o : Oper) (fr : Nat → PV) : Option Bool := match o.guard with
 | none => some true
 | some g => match (ops[g.1]?).bind (·.dst) with
  | none => some false
  | some t => match fr t with
   | .bool b => some (b == g.2)
   | .tup _ => some false
   | _ => none
def Jd (P : Program) (G : Nat → Option PV) (ops : Array Oper) (o : Oper) (s : St) (k : Nat) (ans : Ans) : Option Eff := match Gw ops o s.fr with
 | some true => (match (EO P G o s.fr k ans).run s.hp with
  | some x => some ⟨x.1, x.2.1, x.2.2.1, x.2.2.2⟩
  | none => none)
 | some false => some ⟨.tup [], [], [], []⟩
 | none => none
def AU (s : St) (o : Oper) (e : Eff) : St := St.put { s with hp := Ai s.hp e.ups } o.dst e.v
section
variable {C : Ctx} {F : Nat → Prop} {ρ : Pls} {s : St} {a : Act} {w : World} {k : Nat}
theorem Ew (h : Ac C F ρ s a w) {ops : Array Oper} {o : Oper} {b : Bool} (hw : Gw ops o s.fr = some b) (hdst : ∀ (i : Nat) (x : Oper) (d : Nat), ops[i]? = some x → x.dst = some d → d < C.nt) : Region.wanted o (yielded ops a.tmps) = b := by
 unfold Gw at hw
 unfold Region.wanted yielded
 split at hw
 ·rename_i hg
  simp only [Option.some.injEq] at hw
  subst hw
  rw [hg]
 ·rename_i g hg
  rw [hg]
  obtain ⟨j, want⟩ := g
  simp only at hw ⊢
  split at hw
  ·rename_i hn
   simp only [Option.some.injEq] at hw
   subst hw
   rw [hn]
   rfl
  ·rename_i t ht
   rw [ht]
   have htn : t < C.nt := by
    rw [Option.bind_eq_some_iff] at ht
    obtain ⟨x, hx, hd⟩ := ht
    exact hdst j x t hx hd
   have hget : a.tmps[t]? = some (a.tmps.getD t Go.undef) := by
    have := h.size
    simp [Array.getD, this, htn]
   simp only [Option.bind_some, hget]
   split at hw
   ·rename_i b' hb
    have := (h.fr t (by rw [hb]; intro e; cases e)).2
    rw [hb] at this
    have h2 := this.AJ rfl (fun _ e => by cases e)
    simp only [RO] at h2
    generalize a.tmps.getD t Go.undef = v at h2
    cases h2
    simp only [Option.some.injEq] at hw ⊢
    rw [← hw]
    simp
   ·rename_i l hb
    have := (h.fr t (by rw [hb]; intro e; cases e)).2
    rw [hb] at this
    obtain ⟨_, vs, e1, _⟩ := this
    rw [e1]
    simp only [Option.some.injEq] at hw ⊢
    subst hw
    simp
   ·cases hw
theorem Qd (h : Ac C F ρ s a w) (hF : ∀ j, j < 16 → F (k + j)) {ops : Array Oper} {i : Nat} {o : Oper} (ho : ops[i]? = some o) {ans : Ans} {e : Eff} (he : Jd C.P C.G ops o s k ans = some e) (hob : All e.ob)
  (hdst : ∀ (i : Nat) (x : Oper) (d : Nat), ops[i]? = some x → x.dst = some d → d < C.nt) {K : Act → World → Prop} {Q : Exit → Act → World → Prop}
  (hK : ∀ ρ' a' w', Ext ρ ρ' → Ac C (fun id => F id ∧ (id < k ∨ k + 16 ≤ id)) ρ' (AU s o e) a' w' → K a' w') : wpOp C.P ops Q i K a w := by
 unfold wpOp
 rw [ho]
 simp only
 unfold Jd at he
 split at he
 ·rename_i hw
  rw [Ew h hw hdst, if_pos rfl]
  split at he
  ·rename_i x hx
   simp only [Option.some.injEq] at he
   subst he
   left
   refine Ob (v := x.1) (ups := x.2.1) (ob := x.2.2.1) (rd := x.2.2.2) h hF hx hob K Q fun u w' ρ' hx hs hv => hK ρ' _ w' hx ?_
   exact hs.put (fun d hd => hdst i o d ho hd) hv
  ·cases he
 ·rename_i hw
  rw [Ew h hw hdst, if_neg (by simp)]
  simp only [Option.some.injEq] at he
  subst he
  refine hK ρ _ w (Ext.refl _) ?_
  refine Ac.put (h.less fun _ hi => hi.1) (fun d hd => hdst i o d ho hd) fun _ => ?_
  refine ⟨by simp [WF, WFL], #[], rfl, rfl, fun j q u hq hu => ?_⟩
  simp at hq
 ·cases he
end
structure It where
 i : Nat
 o : Oper
 ans : Ans
 e : Eff
def OI (d : Option Nat) (l : List Nat) : Bool := match d with
 | some x => Co x l
 | none => false
def sameB (d d' : Option Nat) : Bool := match d, d' with
 | some x, some y => Nat.beq x y
 | _, _ => false
def KM : List Nat → List Nat → Bool
 | [], _ => false
 | x :: l, m => Co x m || KM l m
def LZ (ops : Array Oper) (x y : It) : Bool :=
 !OI x.o.dst (y.o.looksAt ops) && !OI y.o.dst (x.o.looksAt ops) && !sameB x.o.dst y.o.dst && !KM (keys x.e.ups) y.e.rd && !KM (keys y.e.ups) x.e.rd && !KM (keys x.e.ups) (keys y.e.ups)
theorem Ee : ∀ {l m : List Nat}, KM l m = false → ∀ x ∈ l, x ∉ m
 | [], _, _, x, hx => by cases hx
 | y :: l, m, h, x, hx => by
  simp only [KM, Bool.or_eq_false_iff] at h
  rcases List.mem_cons.1 hx with rfl | hx
  ·intro hm; rw [Bo.2 hm] at h; exact absurd h.1 (by simp)
  ·exact Ee h.2 x hx
theorem JX {d : Option Nat} {l : List Nat} (h : OI d l = false) : ∀ x, d = some x → x ∉ l := by
 rintro x rfl hm
 simp only [OI, Bo.2 hm] at h
 cases h
theorem Nl {d d' : Option Nat} (h : sameB d d' = false) : ∀ x, d = some x → d' ≠ some x := by
 rintro x rfl e
 subst e
 simp [sameB] at h
structure Apart (ops : Array Oper) (x y : It) : Prop where
 s1 : ∀ d, x.o.dst = some d → d ∉ y.o.looksAt ops
 s2 : ∀ d, y.o.dst = some d → d ∉ x.o.looksAt ops
 s3 : ∀ d, x.o.dst = some d → y.o.dst ≠ some d
 r1 : ∀ i ∈ keys x.e.ups, i ∉ y.e.rd
 r2 : ∀ i ∈ keys y.e.ups, i ∉ x.e.rd
 r3 : ∀ i ∈ keys x.e.ups, i ∉ keys y.e.ups
theorem MG {ops : Array Oper} {x y : It} (h : LZ ops x y = true) : Apart ops x y := by
 simp only [LZ, Bool.and_eq_true, Bool.not_eq_true'] at h
 obtain ⟨⟨⟨⟨⟨h1, h2⟩, h3⟩, h4⟩, h5⟩, h6⟩ := h
 exact ⟨JX h1, JX h2, Nl h3, Ee h4, Ee h5, Ee h6⟩
theorem IR {ops : Array Oper} {o : Oper} {t : Nat} (h : .tmp t ∈ o.op.operands) : t ∈ o.looksAt ops :=
 List.mem_append_left _ (List.mem_filterMap.2 ⟨.tmp t, by simpa using h, rfl⟩)
theorem Ko {ops : Array Oper} {o : Oper} {g : Nat × Bool} {t : Nat} (hg : o.guard = some g) (ht : (ops[g.1]?).bind (·.dst) = some t) : t ∈ o.looksAt ops := by
 refine List.mem_append_right _ ?_
 obtain ⟨j, want⟩ := g
 simp only [hg] at ht ⊢
 simp [ht]
theorem Ir {P : Program} {G : Nat → Option PV} {ops : Array Oper} {o : Oper} {s s' : St} {k : Nat} {ans : Ans} {e : Eff} (h : Jd P G ops o s k ans = some e) (h1 : ∀ t ∈ o.looksAt ops, s'.fr t = s.fr t) (h2 : ∀ i ∈ e.rd, s'.hp i = s.hp i) :
  Jd P G ops o s' k ans = some e := by
 have hw : Gw ops o s'.fr = Gw ops o s.fr := by
  unfold Gw
  cases hg : o.guard with
  | none => rfl
  | some g =>
   simp only
   cases ht : (ops[g.1]?).bind (·.dst) with
   | none => rfl
   | some t => simp only [h1 t (Ko hg ht)]
 have hc : EO P G o s'.fr k ans = EO P G o s.fr k ans := MS k ans fun x hx t ht => h1 t (IR (by rw [← ht]; exact hx))
 unfold Jd at h ⊢
 rw [hw]
 split at h
 ·rename_i hw'
  split at h
  ·rename_i x hx
   simp only [Option.some.injEq] at h
   subst h
   rw [hc, Pr.KU (v := x.1) (ups := x.2.1) (ob := x.2.2.1) (rd := x.2.2.2) hx h2]
  ·cases h
 ·exact h
 ·cases h
theorem put_get {s : St} {dst : Option Tmp} {p : PV} {t : Nat} (h : ∀ d, dst = some d → d ≠ t) : (s.put dst p).fr t = s.fr t := by
 cases dst with
 | none => rfl
 | some d => simp only [St.put]; rw [if_neg (fun e => h d rfl e.symm)]
theorem put_hp {s : St} {dst : Option Tmp} {p : PV} : (s.put dst p).hp = s.hp := by cases dst <;> rfl
theorem Kq {u v : List (Nat × Option Row)} (h : ∀ i ∈ keys u, i ∉ keys v) (hp : Hp) : Ai (Ai hp u) v = Ai (Ai hp v) u := by
 funext c
 have look : ∀ (u : List (Nat × Option Row)) (hp hp' : Hp) (c : Nat), c ∈ keys u → Ai hp u c = Ai hp' u c := by
  intro u
  induction u with
  | nil => intro _ _ c hc; simp [keys] at hc
  | cons x u ih =>
   intro hp hp' c hc
   simp only [Ai]
   by_cases hm : c ∈ keys u
   ·exact ih _ _ c hm
   ·rw [Aw hm, Aw hm]
    simp only [keys, List.map_cons, List.mem_cons] at hc hm
    rcases hc with rfl | hc
    ·rw [upd_same, upd_same]
    ·exact absurd hc hm
 by_cases hu : c ∈ keys u
 ·rw [Aw (h c hu)]
  exact look u _ _ c hu
 ·rw [Aw (ups := u) hu]
  by_cases hv : c ∈ keys v
  ·exact look v _ _ c hv
  ·rw [Aw hv, Aw hv, Aw hu]
section
variable {P : Program} {G : Nat → Option PV} {ops : Array Oper} {kf : Nat → Nat}
def Ex (P : Program) (G : Nat → Option PV) (ops : Array Oper) (kf : Nat → Nat) : St → List It → St → Prop
 | s, [], t => s = t
 | s, x :: l, t => (Jd P G ops x.o s (kf x.i) x.ans = some x.e ∧ All x.e.ob) ∧ Ex P G ops kf (AU s x.o x.e) l t
theorem Cu {s : St} {o : Oper} {e : Eff} {t : Nat} (h : ∀ d, o.dst = some d → d ≠ t) : (AU s o e).fr t = s.fr t := put_get h
theorem Da {s : St} {o : Oper} {e : Eff} : (AU s o e).hp = Ai s.hp e.ups := put_hp
theorem MQ {s : St} {x y : It} (h : Apart ops x y) : AU (AU s x.o x.e) y.o y.e = AU (AU s y.o y.e) x.o x.e := by
 have h1 : (AU (AU s x.o x.e) y.o y.e).hp = (AU (AU s y.o y.e) x.o x.e).hp := by
  rw [Da, Da, Da, Da]
  exact Kq h.r3 _
 have h2 : (AU (AU s x.o x.e) y.o y.e).fr = (AU (AU s y.o y.e) x.o x.e).fr := by
  funext t
  by_cases hx : x.o.dst = some t
  ·have hy : ∀ d, y.o.dst = some d → d ≠ t := fun d hd e => h.s3 t hx (by rw [hd, e])
   rw [Cu hy]
   simp only [AU, hx, St.put, if_true]
  ·have hx' : ∀ d, x.o.dst = some d → d ≠ t := fun d hd e => hx (by rw [hd, e])
   rw [Cu (s := AU s y.o y.e) hx']
   by_cases hy : y.o.dst = some t
   ·simp only [AU, hy, St.put, if_true]
   ·have hy' : ∀ d, y.o.dst = some d → d ≠ t := fun d hd e => hy (by rw [hd, e])
    rw [Cu hy', Cu hx', Cu hy']
 generalize AU (AU s x.o x.e) y.o y.e = A at h1 h2 ⊢
 generalize AU (AU s y.o y.e) x.o x.e = B at h1 h2 ⊢
 cases A; cases B
 simp only at h1 h2
 subst h1; subst h2
 rfl
theorem Ex.front : ∀ {A : List It} {x : It} {B : List It} {s t : St}, Ex P G ops kf s (A ++ x :: B) t → (∀ y ∈ A, Apart ops y x) → Ex P G ops kf s (x :: (A ++ B)) t
 | [], _, _, _, _, h, _ => h
 | y :: A, x, B, s, t, h, ha => by
  obtain ⟨⟨h1, h2⟩, h3⟩ := h
  obtain ⟨⟨g1, g2⟩, g3⟩ := Ex.front (A := A) h3 fun z hz => ha z (by simp [hz])
  have hap := ha y (by simp)
  refine ⟨⟨Ir (s := AU s y.o y.e) g1 (fun t ht => (Cu fun d hd e => hap.s1 d hd (by rw [e]; exact ht)).symm) (fun i hi => ?_), g2⟩, ⟨Ir h1 (fun t ht => Cu fun d hd e => hap.s2 d hd (by rw [e]; exact ht)) (fun i hi => ?_), h2⟩, ?_⟩
  ·rw [Da, Aw]
   exact fun hm => hap.r1 i hm hi
  ·rw [Da, Aw]
   exact fun hm => hap.r2 i hm hi
  ·rw [← MQ hap]
   exact g3
def preB (md : Region.Mode) (ops : Array Oper) : Nat → Nat → Nat → Bool
 | 0, _, _ => false
 | f + 1, y, i => match ops[i]? with
  | some o => o.after.toList.any fun e => Region.binds md e && (Nat.beq e.on y || preB md ops f y e.on)
  | none => false
def Fe (md : Region.Mode) (ops : Array Oper) : List It → Bool
 | [] => true
 | x :: l => (l.all fun y => Nat.blt x.i y.i && (LZ ops x y || preB md ops 9 x.i y.i)) && Fe md ops l
def Ot (md : Region.Mode) (l : List It) : Bool := l.all fun x => x.o.after.toList.all fun e => !Region.binds md e || Nat.blt e.on x.i
structure Inv (md : Region.Mode) (ops : Array Oper) (listed : Array Bool) (L : List It) : Prop where
 size : listed.size = ops.size
 mem : ∀ i, listed.getD i true = false → ∃ x ∈ L, x.i = i
 un : ∀ x ∈ L, listed.getD x.i true = false ∧ ops[x.i]? = some x.o
 ord : Fe md ops L = true
 topo : Ot md L = true
 down : ∀ i o, ops[i]? = some o → listed.getD i false = true → ∀ e ∈ o.after, Region.binds md e = true → listed.getD e.on false = true
theorem Gh {md : Region.Mode} : ∀ {A : List It} {x : It} {B : List It}, Fe md ops (A ++ x :: B) = true → (∀ y ∈ A, y.i < x.i ∧ (LZ ops y x = true ∨ preB md ops 9 y.i x.i = true)) ∧ Fe md ops (A ++ B) = true ∧ (∀ y ∈ B, x.i < y.i)
 | [], x, B, h => by
  simp only [List.nil_append, Fe, Bool.and_eq_true, List.all_eq_true] at h
  exact ⟨(fun y hy => by cases hy), h.2, fun y hy => Nat.blt_eq ▸ (h.1 y hy).1⟩
 | z :: A, x, B, h => by
  simp only [List.cons_append, Fe, Bool.and_eq_true, List.all_eq_true] at h
  obtain ⟨a1, a2, a3⟩ := Gh (A := A) h.2
  refine ⟨fun y hy => ?_, ?_, a3⟩
  ·rcases List.mem_cons.1 hy with rfl | hy
   ·have := h.1 x (by simp)
    exact ⟨Nat.blt_eq ▸ this.1, by simpa using this.2⟩
   ·exact a1 y hy
  ·simp only [List.cons_append, Fe, Bool.and_eq_true, List.all_eq_true]
   exact ⟨fun y hy => h.1 y (by rcases List.mem_append.1 hy with hy | hy <;> simp [hy]), a2⟩
theorem K5 {md : Region.Mode} {listed : Array Bool} (down : ∀ i o, ops[i]? = some o → listed.getD i false = true → ∀ e ∈ o.after, Region.binds md e = true → listed.getD e.on false = true) :
  ∀ (f y i : Nat), (∀ o, ops[i]? = some o → ∀ e ∈ o.after, Region.binds md e = true → listed.getD e.on false = true) → preB md ops f y i = true → listed.getD y false = true
 | 0, _, _, _, h => by simp [preB] at h
 | f + 1, y, i, hi, h => by
  simp only [preB] at h
  split at h
  ·rename_i o ho
   simp only [List.any_eq_true, Bool.and_eq_true, Bool.or_eq_true] at h
   obtain ⟨e, he, hb, h⟩ := h
   have hl := hi o ho e (by simpa using he) hb
   rcases h with h | h
   ·rw [← Nat.eq_of_beq_eq_true h]; exact hl
   ·exact K5 down f y e.on (fun o' ho' => down e.on o' ho' hl) h
  ·cases h
theorem getD_both {listed : Array Bool} {i : Nat} (h : listed.getD i true = false) : listed.getD i false = true → False := by
 intro h'
 by_cases hi : i < listed.size
 ·simp [Array.getD, hi] at h h'
  rw [h] at h'; cases h'
 ·simp [Array.getD, hi] at h
theorem PI {listed : Array Bool} {i : Nat} (hi : i < listed.size) (h : ¬ listed.getD i true = false) : listed.getD i false = true := by
 simp [Array.getD, hi] at h ⊢
 exact h
end
section
variable {C : Ctx} {ops : Array Oper} {kf : Nat → Nat} {Q : Exit → Act → World → Prop}
theorem Q7 {md : Region.Mode} (hdst : ∀ (i : Nat) (x : Oper) (d : Nat), ops[i]? = some x → x.dst = some d → d < C.nt) (hkf : ∀ i j, i ≠ j → kf i + 16 ≤ kf j ∨ kf j + 16 ≤ kf i) {N : Nat} {t : St} (hN : ∀ i, i < ops.size → kf i + 16 ≤ N)
  {ρ0 : Pls} (hQ : ∀ ρ a w, Ext ρ0 ρ → Ac C (fun id => N ≤ id) ρ t a w → Q .normal a w) :
  ∀ (fuel : Nat) (listed : Array Bool) (L : List It) (F : Nat → Prop) (ρ : Pls) (s : St) (a : Act) (w : World), Inv md ops listed L → L.length ≤ fuel → Ex C.P C.G ops kf s L t → (∀ x ∈ L, ∀ j, j < 16 → F (kf x.i + j)) → (∀ id, N ≤ id → F id) → Ext ρ0 ρ → Ac C F ρ s a w → wpAny C.P md ops Q fuel listed a w := by
 intro fuel
 have hnil : ∀ {listed : Array Bool} {L : List It}, Inv md ops listed L → L ≠ [] → Region.ready md ops listed ≠ [] := by
  intro listed L hI hL hr
  cases L with
  | nil => exact hL rfl
  | cons x L =>
   have hun := hI.un x (by simp)
   have hlt : x.i < ops.size := (Array.getElem?_eq_some_iff.1 hun.2).1
   have : x.i ∈ Region.ready md ops listed := by
    rw [mem_ready]
    refine ⟨hun.1, x.o, hun.2, fun e he hb => ?_⟩
    have ht := hI.topo
    simp only [Ot, List.all_eq_true] at ht
    have := ht x (by simp) e (by simpa using he)
    simp only [hb, Bool.not_true, Bool.false_or] at this
    have hlt' : e.on < x.i := Nat.blt_eq ▸ this
    refine PI (by rw [hI.size]; omega) fun hun' => ?_
    obtain ⟨y, hy, hyi⟩ := hI.mem e.on hun'
    have ho := Gh (A := []) hI.ord
    rcases List.mem_cons.1 hy with rfl | hy
    ·omega
    ·have := ho.2.2 y hy
     omega
   rw [hr] at this
   cases this
 induction fuel with
 | zero =>
  intro listed L F ρ s a w hI hl hE hF hFN hx0 hs
  have hL : L = [] := List.eq_nil_of_length_eq_zero (by omega)
  subst hL
  simp only [Ex] at hE
  subst hE
  refine ⟨?_, hQ ρ a w hx0 (hs.less hFN)⟩
  apply List.eq_nil_iff_forall_not_mem.2
  intro j hj
  rw [mem_ready] at hj
  obtain ⟨x, hx, _⟩ := hI.mem j hj.1
  cases hx
 | succ fuel ih =>
  intro listed L F ρ s a w hI hl hE hF hFN hx0 hs
  refine ⟨fun hr => ?_, fun i hi => ?_⟩
  ·cases L with
   | nil =>
    simp only [Ex] at hE
    subst hE
    exact hQ ρ a w hx0 (hs.less hFN)
   | cons x L => exact absurd hr (hnil hI (by simp))
  ·rw [mem_ready] at hi
   obtain ⟨hun, o, ho, hpre⟩ := hi
   obtain ⟨x, hx, rfl⟩ := hI.mem i hun
   obtain ⟨A, B, rfl⟩ := List.append_of_mem hx
   obtain ⟨o1, o2, o3⟩ := Gh hI.ord
   have hxo : ops[x.i]? = some x.o := (hI.un x (by simp)).2
   have hap : ∀ y ∈ A, Apart ops y x := fun y hy => by
    rcases (o1 y hy).2 with h | h
    ·exact MG h
    ·exfalso
     have hly := K5 hI.down 9 y.i x.i (fun o' ho' e he hb => by
      rw [ho] at ho'
      simp only [Option.some.injEq] at ho'
      subst ho'
      exact hpre e he hb) h
     exact getD_both (hI.un y (by simp [hy])).1 hly
   obtain ⟨⟨e1, e2⟩, e3⟩ := Ex.front hE hap
   have hxlt : x.i < listed.size := by rw [hI.size]; exact (Array.getElem?_eq_some_iff.1 hxo).1
   have hne : ∀ y ∈ A ++ B, y.i ≠ x.i := fun y hy => by
    rcases List.mem_append.1 hy with hy | hy
    ·have := (o1 y hy).1; omega
    ·have := o3 y hy; omega
   refine Qd hs (hF x (by simp)) hxo e1 e2 hdst fun ρ' a' w' hx' hs' => ih _ (A ++ B) _ ρ' _ a' w' ?_ (by simp at hl ⊢; omega) e3 (fun y hy j hj => ⟨hF y (by rcases List.mem_append.1 hy with hy | hy <;> simp [hy]) j hj, ?_⟩) (fun id hid => ⟨hFN id hid, ?_⟩) (fun i pl hi => hx' i pl (hx0 i pl hi)) hs'
   ·refine ⟨by simp [hI.size], fun j hj => ?_, fun y hy => ?_, o2, ?_, fun j oj hoj hj e he hb => ?_⟩
    ·by_cases hji : x.i = j
     ·subst hji
      simp [Array.getD, hxlt] at hj
     ·rw [getD_set_ne true hji] at hj
      obtain ⟨y, hy, hyj⟩ := hI.mem j hj
      refine ⟨y, ?_, hyj⟩
      simp only [List.mem_append, List.mem_cons] at hy ⊢
      rcases hy with hy | rfl | hy
      ·exact .inl hy
      ·exact absurd hyj hji
      ·exact .inr hy
    ·have hy' : y ∈ A ++ x :: B := by rcases List.mem_append.1 hy with hy | hy <;> simp [hy]
     exact ⟨by rw [getD_set_ne true (Ne.symm (hne y hy))]; exact (hI.un y hy').1, (hI.un y hy').2⟩
    ·have := hI.topo
     simp only [Ot, List.all_eq_true] at this ⊢
     exact fun y hy => this y (by rcases List.mem_append.1 hy with hy | hy <;> simp [hy])
    ·by_cases hji : x.i = j
     ·subst hji
      rw [ho] at hoj
      simp only [Option.some.injEq] at hoj
      subst hoj
      exact getD_set_true (hpre e he hb)
     ·rw [getD_set_ne false hji] at hj
      exact getD_set_true (hI.down j oj hoj hj e he hb)
   ·rcases hkf y.i x.i (hne y hy) with h | h <;> omega
   ·have := hN x.i (by rw [← hI.size]; exact hxlt)
    omega
end
end Go.Pe
namespace Go.Pe
structure DS where
 fr : List (Nat × PV)
 hp : List (Nat × Row)
def AP (l : List (Nat × PV)) (i : Nat) : PV := match Ab l i with
 | some p => p
 | none => .undef
def DS.st (d : DS) : St := ⟨AP d.fr, Ab d.hp⟩
def setF : List (Nat × PV) → Nat → PV → List (Nat × PV)
 | [], i, p => [(i, p)]
 | x :: l, i, p => if Nat.beq x.1 i then (i, p) :: l else x :: setF l i p
def setH : List (Nat × Row) → Nat → Option Row → List (Nat × Row)
 | [], i, o => match o with
  | some r => [(i, r)]
  | none => []
 | x :: l, i, o => if Nat.beq x.1 i then (match o with
   | some r => (i, r) :: l
   | none => setH l i none) else x :: setH l i o
theorem HY {i j : Nat} {p : PV} : ∀ {l : List (Nat × PV)}, Ab (setF l i p) j = if j = i then some p else Ab l j
 | [] => by
  simp only [setF, Ab]
  by_cases h : j = i
  ·subst h; simp
  ·rw [if_neg h, if_neg (fun e => h (Nat.eq_of_beq_eq_true e).symm)]
 | x :: l => by
  simp only [setF]
  by_cases hx : Nat.beq x.1 i = true
  ·rw [if_pos hx]
   have hxi := Nat.eq_of_beq_eq_true hx
   simp only [Ab]
   by_cases h : j = i
   ·subst h; simp
   ·rw [if_neg h, if_neg (fun e => h (Nat.eq_of_beq_eq_true e).symm), if_neg (fun e => h (by have := Nat.eq_of_beq_eq_true e; omega))]
  ·rw [if_neg hx]
   simp only [Ab, HY (l := l)]
   by_cases hj : Nat.beq x.1 j = true
   ·rw [if_pos hj, if_pos hj, if_neg]
    intro e
    subst e
    exact hx hj
   ·rw [if_neg hj, if_neg hj]
theorem Hr {i j : Nat} : ∀ {l : List (Nat × Row)} {o : Option Row}, Ab (setH l i o) j = if j = i then o else Ab l j
 | [], o => by
  cases o with
  | none => simp [setH, Ab]
  | some r =>
   simp only [setH, Ab]
   by_cases h : j = i
   ·subst h; simp
   ·rw [if_neg h, if_neg (fun e => h (Nat.eq_of_beq_eq_true e).symm)]
 | x :: l, o => by
  simp only [setH]
  by_cases hx : Nat.beq x.1 i = true
  ·rw [if_pos hx]
   have hxi := Nat.eq_of_beq_eq_true hx
   cases o with
   | none =>
    simp only [Hr (l := l), Ab]
    by_cases h : j = i
    ·rw [if_pos h, if_pos h]
    ·rw [if_neg h, if_neg h, if_neg (fun e => h (by have := Nat.eq_of_beq_eq_true e; omega))]
   | some r =>
    simp only [Ab]
    by_cases h : j = i
    ·subst h; simp
    ·rw [if_neg h, if_neg (fun e => h (Nat.eq_of_beq_eq_true e).symm), if_neg (fun e => h (by have := Nat.eq_of_beq_eq_true e; omega))]
  ·rw [if_neg hx]
   simp only [Ab, Hr (l := l)]
   by_cases hj : Nat.beq x.1 j = true
   ·rw [if_pos hj, if_pos hj, if_neg]
    intro e
    subst e
    exact hx hj
   ·rw [if_neg hj, if_neg hj]
def Je {α β : Type} : List α → (List α → β) → β
 | [], K => K []
 | x :: l, K => Je l fun m => K (x :: m)
theorem KC {α β : Type} : ∀ (l : List α) (K : List α → β), Je l K = K l
 | [], _ => rfl
 | x :: l, K => by simp only [Je]; exact KC l _
def upsH : List (Nat × Row) → List (Nat × Option Row) → List (Nat × Row)
 | l, [] => l
 | l, u :: r => upsH (setH l u.1 u.2) r
theorem KL : ∀ {u : List (Nat × Option Row)} {l : List (Nat × Row)}, Ab (upsH l u) = Ai (Ab l) u
 | [], _ => rfl
 | x :: u, l => by
  simp only [upsH, Ai]
  rw [KL (u := u)]
  congr 1
  funext j
  rw [Hr]
  rfl
def IU (l : List (Nat × PV)) (dst : Option Nat) (p : PV) : List (Nat × PV) := match dst with
 | some i => setF l i p
 | none => l
def stepD (d : DS) (o : Oper) (e : Eff) : DS := Je (IU d.fr o.dst e.v) fun f => Je (upsH d.hp e.ups) fun h => ⟨f, h⟩
theorem QU (d : DS) (o : Oper) (e : Eff) : (stepD d o e).st = AU d.st o e := by
 simp only [stepD, KC, DS.st, AU, KL]
 cases hd : o.dst with
 | none => rfl
 | some i =>
  simp only [IU, St.put, St.mk.injEq, and_true]
  funext j
  simp only [AP, HY]
  by_cases h : j = i
  ·rw [if_pos h, if_pos h]
  ·rw [if_neg h, if_neg h]
def popA (n : Nat) (az : List (Nat × Ans)) : Ans × List (Nat × Ans) := match az with
 | [] => (.none, [])
 | x :: r => if Nat.beq x.1 n then (x.2, r) else (.none, x :: r)
def DL (P : Program) (G : Nat → Option PV) (ops : Array Oper) : List Oper → Nat → Nat → DS → List (Nat × Ans) → Option (List It × DS × List (Nat × Ans))
 | [], _, _, d, az => some ([], d, az)
 | o :: l, i, n, d, az => match popA n az with
  | (x, az') => match Jd P G ops o d.st (64 + 16 * n) x with
   | some e => match DL P G ops l (i + 1) (n + 1) (stepD d o e) az' with
    | some y => some (⟨i, o, x, e⟩ :: y.1, y.2.1, y.2.2)
    | none => none
   | none => none
def GZ : List It → List Prop
 | [] => []
 | x :: l => x.e.ob ++ GZ l
theorem Fz {P : Program} {G : Nat → Option PV} {ops : Array Oper} {kf : Nat → Nat} {n0 : Nat} (hkf : ∀ i, kf i = 64 + 16 * (n0 + i)) : ∀ {l : List Oper} {i : Nat} {d : DS} {az : List (Nat × Ans)} {its : List It} {d' : DS} {az' : List (Nat × Ans)},
  DL P G ops l i (n0 + i) d az = some (its, d', az') → All (GZ its) → (∀ j o, l[j]? = some o → ops[i + j]? = some o) → its.map (·.i) = List.range' i l.length ∧ (∀ x ∈ its, ops[x.i]? = some x.o) ∧ Ex P G ops kf d.st its d'.st
 | [], i, d, az, its, d', az', h, _, _ => by
  simp only [DL, Option.some.injEq, Prod.mk.injEq] at h
  obtain ⟨rfl, rfl, rfl⟩ := h
  exact ⟨rfl, (fun x hx => by cases hx), rfl⟩
 | o :: l, i, d, az, its, d', az', h, hob, ho => by
  simp only [DL] at h
  split at h
  ·rename_i e he
   split at h
   ·rename_i y hy
    simp only [Option.some.injEq, Prod.mk.injEq] at h
    obtain ⟨rfl, rfl, rfl⟩ := h
    simp only [GZ] at hob
    obtain ⟨h1, h2, h3⟩ := Fz hkf (l := l) (i := i + 1) (its := y.1) (d' := y.2.1) (az' := y.2.2) (by rw [show n0 + (i + 1) = n0 + i + 1 by omega]; exact hy) hob.right (fun j o' hj => by
     have := ho (j + 1) o' (by simpa using hj)
     rwa [show i + (j + 1) = i + 1 + j by omega] at this)
    refine ⟨by simp only [List.map_cons, h1, List.length_cons, List.range'_succ], fun z hz => ?_, ⟨by rw [hkf]; exact he, hob.left⟩, ?_⟩
    ·rcases List.mem_cons.1 hz with rfl | hz
     ·exact ho 0 o rfl
     ·exact h2 z hz
    ·rw [← QU]; exact h3
   ·cases h
  ·cases h
section
variable {C : Ctx} {ops : Array Oper} {kf : Nat → Nat} {Q : Exit → Act → World → Prop}
theorem J4 (hdst : ∀ (i : Nat) (x : Oper) (d : Nat), ops[i]? = some x → x.dst = some d → d < C.nt) {N : Nat} {t : St} {ρ0 : Pls}
  (hQ : ∀ ρ a w, Ext ρ0 ρ → Ac C (fun id => N ≤ id) ρ t a w → Q .normal a w) (hkf : ∀ i j, i ≠ j → kf i + 16 ≤ kf j ∨ kf j + 16 ≤ kf i) (hN : ∀ i, i < ops.size → kf i + 16 ≤ N) :
  ∀ (L : List It) (F : Nat → Prop) (ρ : Pls) (s : St) (a : Act) (w : World), (∀ x ∈ L, ops[x.i]? = some x.o) → (L.map (·.i)).Nodup → Ex C.P C.G ops kf s L t → (∀ x ∈ L, ∀ j, j < 16 → F (kf x.i + j)) → (∀ id, N ≤ id → F id) → Ext ρ0 ρ → Ac C F ρ s a w → wpOps C.P ops Q (L.map (·.i)) a w
 | [], F, ρ, s, a, w, _, _, hE, _, hFN, hx, hs => by
  simp only [Ex] at hE
  subst hE
  exact hQ ρ a w hx (hs.less hFN)
 | x :: L, F, ρ, s, a, w, hm, hnd, hE, hF, hFN, hx, hs => by
  obtain ⟨⟨e1, e2⟩, e3⟩ := hE
  simp only [List.map_cons, List.nodup_cons] at hnd
  rw [List.map_cons, wpOps_cons]
  refine Qd hs (hF x (by simp)) (hm x (by simp)) e1 e2 hdst fun ρ' a' w' hx' hs' => J4 hdst hQ hkf hN L _ ρ' _ a' w' (fun y hy => hm y (by simp [hy])) hnd.2 e3 (fun y hy j hj => ⟨hF y (by simp [hy]) j hj, ?_⟩) (fun id hid => ⟨hFN id hid, ?_⟩) (fun i pl hi => hx' i pl (hx i pl hi)) hs'
  ·have hne : y.i ≠ x.i := fun e => hnd.1 (by rw [← e]; exact List.mem_map.2 ⟨y, hy, rfl⟩)
   rcases hkf y.i x.i hne with h | h <;> omega
  ·have := hN x.i (Array.getElem?_eq_some_iff.1 (hm x (by simp))).1
   omega
def LC (nt : Nat) (ops : Array Oper) : Bool := ops.toList.all fun o => match o.dst with
 | some d => Nat.blt d nt
 | none => true
theorem FK {nt : Nat} (h : LC nt ops = true) : ∀ (i : Nat) (x : Oper) (d : Nat), ops[i]? = some x → x.dst = some d → d < nt := by
 intro i x d hi hd
 simp only [LC, List.all_eq_true] at h
 have := h x (by rw [← Array.getElem?_toList] at hi; exact List.mem_of_getElem? hi)
 rw [hd] at this
 exact Nat.blt_eq ▸ this
def I8 (P : Program) (nt : Nat) (ops : Array Oper) (draw : Bool) (its : List It) : Bool := LC nt ops && (if draw then P.follows .mixedOrders && (Fe .any ops its && Ot .any its) else true)
theorem NA {n : Nat} {ρ : Pls} {a : Act} {w : World} {d d' : DS} {az az' : List (Nat × Ans)} {its : List It} {draw : Bool} (h : Ac C (fun id => 64 + 16 * n ≤ id) ρ d.st a w)
  (hr : DL C.P C.G ops ops.toList 0 n d az = some (its, d', az')) (hob : All (GZ its)) (hb : I8 C.P C.nt ops draw its = true) :
  match draw with
  | false => wpOps C.P ops (fun e a w => e = .normal ∧ ∃ ρ', Ext ρ ρ' ∧ Ac C (fun id => 64 + 16 * (n + ops.size) ≤ id) ρ' d'.st a w) (List.range ops.size) a w
  | true => C.P.follows .mixedOrders = true ∧ wpAny C.P .any ops (fun e a w => e = .normal ∧ ∃ ρ', Ext ρ ρ' ∧ Ac C (fun id => 64 + 16 * (n + ops.size) ≤ id) ρ' d'.st a w) ops.size (Array.replicate ops.size false) a { w with drawn := w.drawn + 1 } := by
 simp only [I8, Bool.and_eq_true] at hb
 obtain ⟨hd, hb⟩ := hb
 have hdst := FK hd
 obtain ⟨h1, h2, h3⟩ := Fz (kf := fun i => 64 + 16 * (n + i)) (n0 := n) (fun _ => rfl) (i := 0) hr hob (fun j o hj => by rw [Nat.zero_add]; rw [Array.getElem?_toList] at hj; exact hj)
 have hmem : ∀ x ∈ its, x.i < ops.size := fun x hx => (Array.getElem?_eq_some_iff.1 (h2 x hx)).1
 have hkf : ∀ i j : Nat, i ≠ j → 64 + 16 * (n + i) + 16 ≤ 64 + 16 * (n + j) ∨ 64 + 16 * (n + j) + 16 ≤ 64 + 16 * (n + i) := fun i j hij => by omega
 have hN : ∀ i, i < ops.size → 64 + 16 * (n + i) + 16 ≤ 64 + 16 * (n + ops.size) := fun i hi => by omega
 have hlen : ops.toList.length = ops.size := Array.length_toList
 cases draw with
 | false =>
  have : List.range ops.size = its.map (·.i) := by rw [h1, hlen, List.range_eq_range']
  simp only
  rw [this]
  exact J4 (ρ0 := ρ) (kf := fun i => 64 + 16 * (n + i)) hdst (fun ρ' a' w' hx hs => ⟨rfl, ρ', hx, hs⟩) hkf hN its _ ρ d.st a w h2 (by rw [h1]; exact List.nodup_range') h3 (fun x hx j hj => by show 64 + 16 * n ≤ _; omega) (fun id hid => by show 64 + 16 * n ≤ _; omega) (Ext.refl _) h
 | true =>
  simp only [if_true, Bool.and_eq_true] at hb
  refine ⟨hb.1, ?_⟩
  refine Q7 (ρ0 := ρ) (kf := fun i => 64 + 16 * (n + i)) hdst hkf hN (fun ρ' a' w' hx hs => ⟨rfl, ρ', hx, hs⟩) ops.size _ its _ ρ d.st a _ ⟨by simp, fun i hi => ?_, fun x hx => ⟨?_, h2 x hx⟩, hb.2.1, hb.2.2, fun i o hi hl => ?_⟩ ?_ h3 (fun x hx j hj => by show 64 + 16 * n ≤ _; omega) (fun id hid => by show 64 + 16 * n ≤ _; omega) (Ext.refl _) (h.drew _)
  ·have hi' : i < ops.size := by
    by_cases hi' : i < ops.size
    ·exact hi'
    ·simp [Array.getD, hi'] at hi
   have : i ∈ its.map (·.i) := by rw [h1, hlen, List.mem_range']; exact ⟨i, hi', by omega⟩
   obtain ⟨x, hx, hxi⟩ := List.mem_map.1 this
   exact ⟨x, hx, hxi⟩
  ·simp [Array.getD, hmem x hx]
  ·exfalso
   have hi' : i < ops.size := (Array.getElem?_eq_some_iff.1 hi).1
   simp [Array.getD, hi'] at hl
  ·have : (its.map (·.i)).length = ops.toList.length := by rw [h1, List.length_range']
   rw [List.length_map, hlen] at this
   omega
def Gc (ops : Array Oper) : Bool := ops.toList.all fun (o : Oper) => match o.op with
 | .defer _ => false
 | _ => true
theorem IK (h : Gc ops = true) : ∀ (i : Nat) (o : Oper) (c : Call), ops[i]? = some o → o.op ≠ .defer c := by
 intro i o c hi hc
 simp only [Gc, List.all_eq_true] at h
 have := h o (by rw [← Array.getElem?_toList] at hi; exact List.mem_of_getElem? hi)
 rw [hc] at this
 cases this
theorem Cx {P : Program} {K : Act → World → Prop} (hd : ∀ (i : Nat) (o : Oper) (c : Call), ops[i]? = some o → o.op ≠ .defer c) (r : List Nat) : ∀ (l : List Nat) (a : Act) (w : World),
  wpOps P ops (fun e a w => e = .normal ∧ K a w) l a w → ∀ (b : Frame) (k : List Item) (cs : List Frame),
  ∃ a' w', K a' w' ∧ Steps P (lone (b.atR a (.inRegion ops (l ++ r) :: k)) cs w) (lone (b.atR a' (.inRegion ops r :: k)) cs w')
 | [], a, w, h, b, k, cs => ⟨a, w, h.2, Steps.refl _ _⟩
 | i :: rest, a, w, h, b, k, cs => by
  rw [List.cons_append]
  simp only [wpOps] at h
  cases ho : ops[i]? with
  | none =>
   simp only [ho] at h
   obtain ⟨a', w', hq, hs⟩ := Cx hd r rest a w h b k cs
   have h1 := stepR_op_skip (P := P) (b := b) (a := a) (k := k) (cs := cs) (w := w) (ops := ops) (i := i) (rest := rest ++ r) (by simp [ho])
   simp only [ho, Option.bind_none, Act.put] at h1
   exact ⟨a', w', hq, .head h1 hs⟩
  | some o =>
   simp only [ho] at h
   by_cases hw : Region.wanted o (yielded ops a.tmps) = true
   ·simp only [hw, if_true] at h
    rcases h with h | ⟨_, a₀, w₀, hq⟩
    case inr => exact absurd hq.1 (by intro e; cases e)
    simp only [Oper.wp, Oper.upon] at h
    have hg := stepGR_op (P := P) (b := b) (k := k) (cs := cs) (w := w) (rest := rest ++ r) ho hw
    rw [Oper.semAt_eq _ _ _ (fun c => hd i o c ho)] at hg
    have hfin : ∀ v, (b.atR a (.inRegion ops (i :: (rest ++ r)) :: k)).finish v = b.atR (a.put o.dst v) (.inRegion ops (rest ++ r) :: k) := by
     intro v; rw [Frame.finish_atR, ho]; rfl
    split at h
    ·rename_i v w' hr
     obtain ⟨a', w'', hq, hs⟩ := Cx hd r rest _ _ h b k cs
     refine ⟨a', w'', hq, .head (step_lone_go ?_) hs⟩
     rw [hg, ← hfin]; simp [stepG.apply, hr]
    ·rename_i w' hr
     obtain ⟨a', w'', hq, hs⟩ := Cx hd r rest _ _ h b k cs
     refine ⟨a', w'', hq, .head (step_lone_go ?_) hs⟩
     rw [hg, ← hfin]; simp [stepG.apply, hr]
    ·rename_i d w' hr
     obtain ⟨a', w'', hq, hs⟩ := Cx hd r rest _ _ h b k cs
     refine ⟨a', w'', hq, .head (step_lone_go ?_) hs⟩
     have : ({ b.atR a (.inRegion ops (i :: (rest ++ r)) :: k) with defers := d :: a.defers } : Frame).finish Go.undef =
       b.atR ({ a with defers := d :: a.defers }.put o.dst Go.undef) (.inRegion ops (rest ++ r) :: k) := by
      have := Frame.finish_atR b { a with defers := d :: a.defers } ops i (rest ++ r) k Go.undef
      rw [ho] at this; exact this
     rw [hg]; simp only [stepG.apply, Sem.runT_eq, hr, GStep.bare_after]
     exact congrArg (fun fr => GStep.go { frame := fr, callers := cs, status := .running, dying := none } w') this
    ·rename_i f args w' hr
     obtain ⟨e, w'', fr, hR, hsteps, _, hleave⟩ := h (b.atR a (.inRegion ops (i :: (rest ++ r)) :: k) :: cs)
     have henter : step P (lone (b.atR a (.inRegion ops (i :: (rest ++ r)) :: k)) cs w) =
       .next (lone (Frame.enter P f args .normal) (b.atR a (.inRegion ops (i :: (rest ++ r)) :: k) :: cs) w') :=
      step_lone_go (by rw [hg]; simp [stepG.apply, hr, Frame.atR])
     cases e with
     | returned v =>
      obtain ⟨a', w₃, hq, hs⟩ := Cx hd r rest _ _ hR b k cs
      refine ⟨a', w₃, hq, .head henter (hsteps.trans (.head ?_ hs))⟩
      rw [← hfin]; exact step_leave_returned hleave
     | panicked chain => exact absurd hR.1 (by intro e; cases e)
     | outgrown =>
      obtain ⟨a₀, w₀, hq⟩ := hR
      exact absurd hq.1 (by intro e; cases e)
    ·rename_i row args w' hr
     obtain ⟨v, w'', hR, hsteps⟩ := h (b.atR a (.inRegion ops (i :: (rest ++ r)) :: k)) cs
     have henter : step P (lone (b.atR a (.inRegion ops (i :: (rest ++ r)) :: k)) cs w) =
       .next (lone (Frame.ofRow P row args .normal) (b.atR a (.inRegion ops (i :: (rest ++ r)) :: k) :: cs) w') :=
      step_lone_go (by rw [hg]; simp [stepG.apply, hr, Frame.atR])
     obtain ⟨a', w₃, hq, hs⟩ := Cx hd r rest _ _ hR b k cs
     refine ⟨a', w₃, hq, .head henter (hsteps.trans ?_)⟩
     rw [hfin]; exact hs
    ·exact absurd h.1 (by intro e; cases e)
    ·exact h.elim
   ·simp only [hw, if_false, Bool.false_eq_true] at h
    obtain ⟨a', w', hq, hs⟩ := Cx hd r rest _ _ h b k cs
    have h1 := stepR_op_skip (P := P) (b := b) (a := a) (k := k) (cs := cs) (w := w) (ops := ops) (i := i) (rest := rest ++ r)
     (by simp [ho]; simpa using hw)
    simp only [ho, Option.bind_some] at h1
    exact ⟨a', w', hq, .head h1 hs⟩
theorem Nw {n : Nat} {ρ : Pls} {a : Act} {w : World} {d d' : DS} {az az' : List (Nat × Ans)} {its : List It} {id : Nat} {draw : Bool} (h : Ac C (fun id => 64 + 16 * n ≤ id) ρ d.st a w)
  (hr : DL C.P C.G ops ops.toList 0 n d az = some (its, d', az')) (hob : All (GZ its)) (hb : I8 C.P C.nt ops draw its = true) (hnd : Gc ops = true) (b : Frame) (k : List Item) (cs : List Frame) :
  ∃ a' w' ρ', Ext ρ ρ' ∧ Ac C (fun id => 64 + 16 * (n + ops.size) ≤ id) ρ' d'.st a' w' ∧ Steps C.P (lone (b.atR a (.code (.region id ops draw) :: k)) cs w) (lone (b.atR a' k) cs w') := by
 have hro := NA h hr hob hb
 have hd := IK hnd
 cases draw with
 | false =>
  obtain ⟨a', w', ⟨ρ', hx, hs⟩, hst⟩ := Cx (K := fun a w => ∃ ρ', Ext ρ ρ' ∧ Ac C (fun id => 64 + 16 * (n + ops.size) ≤ id) ρ' d'.st a w) hd [] _ a w hro b k cs
  rw [List.append_nil] at hst
  exact ⟨a', w', ρ', hx, hs, .head stepR_region (hst.trans (.one stepR_region_end))⟩
 | true =>
  obtain ⟨hm, hro⟩ := hro
  have h1 := wpAny_sound ops.size (w.tape w.drawn (.order b.fn id)) _ a _ hro
  obtain ⟨a', w', ⟨ρ', hx, hs⟩, hst⟩ := Cx (K := fun a w => ∃ ρ', Ext ρ ρ' ∧ Ac C (fun id => 64 + 16 * (n + ops.size) ≤ id) ρ' d'.st a w) hd [] _ a _ h1 b k cs
  rw [List.append_nil] at hst
  refine ⟨a', w', ρ', hx, hs, .head stepR_region_draw ?_⟩
  simp only [Region.schedule, hm, Bool.true_or, if_true]
  exact hst.trans (.one stepR_region_end)
theorem IG {n0 i : Nat} {ρ : Pls} {a : Act} {w : World} {d d' : DS} {az az' : List (Nat × Ans)} {its : List It} {l : List Oper} (h : Ac C (fun id => 64 + 16 * (n0 + i) ≤ id) ρ d.st a w)
  (hr : DL C.P C.G ops l i (n0 + i) d az = some (its, d', az')) (hl : ∀ j o, l[j]? = some o → ops[i + j]? = some o) (hob : All (GZ its)) (hb : LC C.nt ops = true) (hnd : Gc ops = true) (r : List Nat) (b : Frame) (k : List Item) (cs : List Frame) :
  ∃ a' w' ρ', Ext ρ ρ' ∧ Ac C (fun id => 64 + 16 * (n0 + ops.size + i) ≤ id) ρ' d'.st a' w' ∧ Steps C.P (lone (b.atR a (.inRegion ops (List.range' i l.length ++ r) :: k)) cs w) (lone (b.atR a' (.inRegion ops r :: k)) cs w') := by
 have hdst := FK hb
 obtain ⟨h1, h2, h3⟩ := Fz (kf := fun i => 64 + 16 * (n0 + i)) (n0 := n0) (fun _ => rfl) hr hob hl
 have hmem : ∀ x ∈ its, i ≤ x.i ∧ x.i < ops.size := fun x hx => ⟨by
  have : x.i ∈ its.map (·.i) := List.mem_map.2 ⟨x, hx, rfl⟩
  rw [h1, List.mem_range'] at this
  obtain ⟨j, hj, e⟩ := this
  omega, (Array.getElem?_eq_some_iff.1 (h2 x hx)).1⟩
 have hkf : ∀ i j : Nat, i ≠ j → 64 + 16 * (n0 + i) + 16 ≤ 64 + 16 * (n0 + j) ∨ 64 + 16 * (n0 + j) + 16 ≤ 64 + 16 * (n0 + i) := fun i j hij => by omega
 have hN : ∀ i', i' < ops.size → 64 + 16 * (n0 + i') + 16 ≤ 64 + 16 * (n0 + ops.size + i) := fun i hi => by omega
 have hw := J4 (Q := fun e a w => e = .normal ∧ ∃ ρ', Ext ρ ρ' ∧ Ac C (fun id => 64 + 16 * (n0 + ops.size + i) ≤ id) ρ' d'.st a w) (ρ0 := ρ) (kf := fun i => 64 + 16 * (n0 + i)) hdst (fun ρ' a' w' hx hs => ⟨rfl, ρ', hx, hs⟩) hkf hN its _ ρ d.st a w h2 (by rw [h1]; exact List.nodup_range') h3 (fun x hx j hj => by show 64 + 16 * (n0 + i) ≤ _; have := (hmem x hx).1; omega) (fun id hid => by show 64 + 16 * (n0 + i) ≤ _; omega) (Ext.refl _) h
 rw [h1] at hw
 obtain ⟨a', w', ⟨ρ', hx, hs⟩, hst⟩ := Cx (K := fun a w => ∃ ρ', Ext ρ ρ' ∧ Ac C (fun id => 64 + 16 * (n0 + ops.size + i) ≤ id) ρ' d'.st a w) (IK hnd) r _ a w hw b k cs
 exact ⟨a', w', ρ', hx, hs, hst⟩
end
end Go.Pe
namespace Go.Pe
def Cq : List Prop → Prop
 | [] => True
 | [p] => p
 | p :: q :: l => p ∧ Cq (q :: l)
theorem ao {p : Prop} (h : p) : Cq [p] := h
theorem ac {p q : Prop} {l : List Prop} (h : p) (h' : Cq (q :: l)) : Cq (p :: q :: l) := ⟨h, h'⟩
theorem Cq.all : ∀ {l : List Prop}, Cq l → All l
 | [], _ => All.nil
 | [_], h => All.cons h All.nil
 | _ :: _ :: _, h => All.cons h.1 (Cq.all h.2)
def Eh (b : List (Nat × Nat)) (src : DS) : List (Nat × PV) → Option (List Prop)
 | [] => some []
 | x :: l => if BG x.2 then Eh b src l else match Bp (Ab b) (Ab src.hp) (AP src.fr x.1), Eh b src l with
  | some q, some m => if untup (AP src.fr x.1) && !BG (AP src.fr x.1) then some (q.2 ++ (q.1 = x.2) :: m) else none
  | _, _ => none
def EA (b : List (Nat × Nat)) (src : DS) : List (Nat × Row) → Option (List Prop)
 | [] => some []
 | x :: l => match Ab (AQ b) x.1 with
  | some i => (match Ab src.hp i with
   | some r => (match ren (Ab b) r.c, EA b src l with
    | some c, some m => if Nat.blt x.1 64 && (x.2.frz || !r.frz) then some ((c = x.2.c) :: m) else none
    | _, _ => none)
   | none => none)
  | none => none
def Ic (b : List (Nat × Nat)) (pins : List Nat) (src tgt : DS) : Option (List Prop) :=
 if nodupB (keys b) && nodupB (keys (AQ b)) && pins.all (fun i => match Ab b i with
   | some j => Nat.beq i j
   | none => false) && (keys (AQ b)).all (fun j => Nat.blt j 64) then (match Eh b src tgt.fr, EA b src tgt.hp with
  | some m, some m' => some (m ++ m')
  | _, _ => none) else none
theorem EU {b : List (Nat × Nat)} {src : DS} : ∀ {l : List (Nat × PV)} {m : List Prop}, Eh b src l = some m → All m → ∀ i p, (i, p) ∈ l → p ≠ .undef →
  ∃ ob, Bp (Ab b) (Ab src.hp) (AP src.fr i) = some (p, ob) ∧ All ob ∧ untup (AP src.fr i) = true ∧ AP src.fr i ≠ .undef
 | [], _, _, _, i, p, hi, _ => by cases hi
 | x :: l, m, h, ho, i, p, hi, hp => by
  simp only [Eh] at h
  split at h
  ·rename_i hu
   rcases List.mem_cons.1 hi with rfl | hi
   ·exfalso
    cases p <;> simp only [BG, reduceCtorEq] at hu
    exact hp rfl
   ·exact EU h ho i p hi hp
  ·split at h
   ·rename_i q m' hq hm
    split at h
    ·rename_i hc
     simp only [Bool.and_eq_true, Bool.not_eq_true'] at hc
     simp only [Option.some.injEq] at h
     subst h
     rcases List.mem_cons.1 hi with rfl | hi
     ·have he : q.1 = p := ho.right.head
      exact ⟨q.2, by rw [← he]; exact hq, ho.left, hc.1, fun e => by simp [e, BG] at hc⟩
     ·exact EU hm ho.right.tail i p hi hp
    ·cases h
   ·cases h
theorem Fb {b : List (Nat × Nat)} {src : DS} : ∀ {l : List (Nat × Row)} {m : List Prop}, EA b src l = some m → All m → ∀ j r', (j, r') ∈ l →
  ∃ i r, Ab (AQ b) j = some i ∧ Ab src.hp i = some r ∧ ren (Ab b) r.c = some r'.c ∧ j < 64 ∧ (r'.frz = false → r.frz = false)
 | [], _, _, _, i, p, hi => by cases hi
 | x :: l, m, h, ho, j, r', hi => by
  simp only [EA] at h
  split at h
  ·rename_i i hx
   split at h
   ·rename_i r hr
    split at h
    ·rename_i c m' hc hm
     split at h
     ·rename_i hcond
      simp only [Bool.and_eq_true, Bool.or_eq_true, Bool.not_eq_true'] at hcond
      simp only [Option.some.injEq] at h
      subst h
      rcases List.mem_cons.1 hi with rfl | hi
      ·have he : c = r'.c := ho.head
       refine ⟨i, r, hx, hr, by rw [← he]; exact hc, Nat.blt_eq ▸ hcond.1, fun e => ?_⟩
       rcases hcond.2 with h' | h'
       ·rw [e] at h'; cases h'
       ·exact h'
      ·exact Fb hm ho.tail j r' hi
     ·cases h
    ·cases h
   ·cases h
  ·cases h
section
variable {C : Ctx} {F : Nat → Prop} {ρ : Pls} {src tgt : DS} {a : Act} {w : World}
def Aq (b : List (Nat × Nat)) (ρ : Pls) : Pls := fun j => (Ab (AQ b) j).bind ρ
structure P5 (b : List (Nat × Nat)) (pins : List Nat) : Prop where
 k1 : nodupB (keys b) = true
 k2 : nodupB (keys (AQ b)) = true
 pin : ∀ i ∈ pins, Ab b i = some i
 lt : ∀ j i, Ab (AQ b) j = some i → j < 64
theorem Gl {b : List (Nat × Nat)} {pins : List Nat} {ob : List Prop} (h : Ic b pins src tgt = some ob) (ho : All ob) : P5 b pins ∧ (∃ m, Eh b src tgt.fr = some m ∧ All m) ∧ ∃ m, EA b src tgt.hp = some m ∧ All m := by
 unfold Ic at h
 split at h
 ·rename_i hc
  simp only [Bool.and_eq_true, List.all_eq_true] at hc
  obtain ⟨⟨⟨h1, h2⟩, h3⟩, h4⟩ := hc
  split at h
  ·rename_i m m' hm hm'
   simp only [Option.some.injEq] at h
   subst h
   refine ⟨⟨h1, h2, fun i hi => ?_, fun j i hj => Nat.blt_eq ▸ h4 j (Fu (Ak hj))⟩, ⟨m, hm, ho.left⟩, m', hm', ho.right⟩
   have := h3 i hi
   split at this
   ·rename_i j hj
    rw [hj, Nat.eq_of_beq_eq_true this]
   ·cases this
  ·cases h
 ·cases h
structure MF (C : Ctx) (b : List (Nat × Nat)) (ρ : Pls) (src : St) (tgt : Hp) (w : World) : Prop where
 ren : Fg (Ab b) ρ (Aq b ρ)
 keep : Ay w (Tc C ρ src.hp) w (Tc C (Aq b ρ) tgt)
 view : ∀ i r, Ab b i = none → src.hp i = some r → ∃ pl, ρ i = some pl ∧ Ao w (Tc C ρ src.hp) ρ pl r ∧ ∀ x, pl.off ≤ x → x < pl.off + pl.ext → Tc C (Aq b ρ) tgt pl.g x
theorem JF (h : Ac C F ρ src.st a w) {b : List (Nat × Nat)} {pins : List Nat} (hk : P5 b pins) {hp : List (Nat × Row)} {m : List Prop} (hm : EA b src hp = some m) (ho : All m) :
  MF C b ρ src.st (Ab hp) w ∧ HR w (Tc C (Aq b ρ) (Ab hp)) (Aq b ρ) (Ab hp) ∧ (∀ id row pl, Ab hp id = some row → Aq b ρ id = some pl → ∀ j, j < pl.ext → C.w0.heap.size ≤ pl.g ∨ C.M0 pl.g (pl.off + j)) := by
 have hrow : ∀ j r', Ab hp j = some r' → ∃ i r, Ab (AQ b) j = some i ∧ Ab b i = some j ∧ src.st.hp i = some r ∧ ren (Ab b) r.c = some r'.c ∧ (r'.frz = false → r.frz = false) := by
  intro j r' hj
  obtain ⟨i, r, g1, g2, g3, _, g5⟩ := Fb hm ho j r' (Ak hj)
  exact ⟨i, r, g1, Cn hk.k1 (Cw.1 (Ak g1)), g2, g3, g5⟩
 have hmut : ∀ b' o, Mut (Aq b ρ) (Ab hp) b' o → ∃ i j r pl, Ab b i = some j ∧ src.st.hp i = some r ∧ r.frz = false ∧ ρ i = some pl ∧ pl.g = b' ∧ pl.off ≤ o ∧ o < pl.off + pl.ext := by
  rintro b' o ⟨j, r', pl, h1, h2, h3, h4, h5, h6⟩
  obtain ⟨i, r, g1, g2, g3, g4, g5⟩ := hrow j r' h1
  simp only [Aq, g1, Option.bind_some] at h3
  exact ⟨i, j, r, pl, g2, g3, g5 h2, h3, h4, h5, h6⟩
 have hkeep : Ay w (Tc C ρ src.st.hp) w (Tc C (Aq b ρ) (Ab hp)) := by
  intro b' o u hT hc
  refine ⟨⟨hT.1, fun hm' => hT.2 ?_⟩, hc⟩
  obtain ⟨i, j, r, pl, g1, g2, g3, g4, g5⟩ := hmut b' o hm'
  exact ⟨i, r, pl, g2, g3, g4, g5⟩
 have hren : Fg (Ab b) ρ (Aq b ρ) := by
  intro i j pl h1 h2
  have : Ab (AQ b) j = some i := Cn hk.k2 (Cw.2 (Ak h1))
  simp only [Aq, this, Option.bind_some, h2]
 refine ⟨⟨hren, hkeep, fun i r hi hr => ?_⟩, ⟨fun j r' hj => ?_, fun j j' r r' pl pl' hne h1 h2 h3 h4 h5 h6 x x1 x2 x3 x4 => ?_⟩, fun j r' pl h1 h3 x hx => ?_⟩
 ·obtain ⟨pl, p1, p2⟩ := h.heap.row i r hr
  refine ⟨pl, p1, p2, fun x x1 x2 => ⟨?_, fun hm' => ?_⟩⟩
  ·have := h.inn i r pl hr p1 (x - pl.off) (by omega)
   rw [show pl.off + (x - pl.off) = x by omega] at this
   rcases this with e | e
   ·exact .inr (.inr e)
   ·exact .inr (.inl e)
  ·obtain ⟨i', j', r', pl', g1, g2, g3, g4, g5, g6, g7⟩ := hmut _ _ hm'
   have hne : i' ≠ i := fun e => by subst e; rw [hi] at g1; cases g1
   exact h.heap.sep i' i r' r pl' pl hne g2 g3 hr g4 p1 g5 x g6 g7 x1 x2
 ·obtain ⟨i, r, g1, g2, g3, g4, g5⟩ := hrow j r' hj
  obtain ⟨pl, p1, p2⟩ := h.heap.row i r g3
  refine ⟨pl, by simp only [Aq, g1, Option.bind_some, p1], ?_⟩
  have h1 : Ao w (Tc C (Aq b ρ) (Ab hp)) ρ pl ⟨r.c, r.frz⟩ := Ao.keep hkeep (Ext.refl _) rfl p2
  exact Ao.ren (f' := r'.frz) hren h1 g4
 ·obtain ⟨i, s, g1, g2, g3, g4, g5⟩ := hrow j r h1
  obtain ⟨i', s', g1', g2', g3', g4', g5'⟩ := hrow j' r' h3
  simp only [Aq, g1, g1', Option.bind_some] at h4 h5
  have hii : i ≠ i' := fun e => by
   subst e
   rw [g2] at g2'
   simp only [Option.some.injEq] at g2'
   exact hne g2'
  exact h.heap.sep i i' s s' pl pl' hii g3 (g5 h2) g3' h4 h5 h6 x x1 x2 x3 x4
 ·obtain ⟨i, r, g1, g2, g3, g4, g5⟩ := hrow j r' h1
  simp only [Aq, g1, Option.bind_some] at h3
  exact h.inn i r pl g3 h3 x hx
theorem MF.rv {b : List (Nat × Nat)} {tgt : Hp} (hc : MF C b ρ src.st tgt w) (h : Ac C F ρ src.st a w) {v : Value} {p q : PV} {ob : List Prop} (hu : untup p = true) (hr : RV w (Tc C ρ src.st.hp) ρ v p) (hv : Bp (Ab b) (Ab src.hp) p = some (q, ob)) (ho : All ob) :
  RV w (Tc C (Aq b ρ) tgt) (Aq b ρ) v q :=
 JC hc.ren hc.keep (fun i r hi hr => hc.view i r hi hr) (fun i r hr => by
  obtain ⟨pl, _, p2⟩ := h.heap.row i r hr
  exact p2.wf) hu hr hv ho
theorem Ac.cast (h : Ac C F ρ src.st a w) {b : List (Nat × Nat)} {pins : List Nat} {ob : List Prop} (hb : Ic b pins src tgt = some ob) (ho : All ob) :
  Ac C (fun id => 64 ≤ id) (Aq b ρ) tgt.st a w ∧ ∀ i ∈ pins, Aq b ρ i = ρ i := by
 obtain ⟨hk, ⟨m, hm, hmo⟩, m', hm', hmo'⟩ := Gl hb ho
 obtain ⟨hc, hhr, hinn⟩ := JF h hk hm' hmo'
 refine ⟨⟨h.defers, h.size, fun t ht => ?_, hhr, fun j hj => ⟨?_, ?_⟩, hinn, h.frame, fun g c hg => ⟨(h.glob g c hg).1, (h.glob g c hg).2.1, (h.glob g c hg).2.2.keep hc.keep⟩, C.hX _ _ _ _ hc.keep (JH.refl _) h.amb⟩, fun i hi => ?_⟩
 ·have hp : (t, AP tgt.fr t) ∈ tgt.fr := by
   show (t, AP tgt.fr t) ∈ tgt.fr
   have ht' : AP tgt.fr t ≠ .undef := ht
   unfold AP at ht' ⊢
   split at ht'
   ·rename_i p hp
    exact Ak hp
   ·exact absurd rfl ht'
  obtain ⟨ob', g1, g2, g3, g4⟩ := EU hm hmo t _ hp ht
  obtain ⟨e1, e2⟩ := h.fr t g4
  exact ⟨e1, hc.rv h g3 e2 g1 g2⟩
 ·cases hs : Ab (AQ b) j with
  | none => simp only [Aq, hs, Option.bind_none]
  | some i => have := hk.lt j i hs; omega
 ·cases hs : Ab tgt.hp j with
  | none => exact hs
  | some r =>
   obtain ⟨_, _, _, _, _, g, _⟩ := Fb hm' hmo' j r (Ak hs)
   omega
 ·have := hk.pin i hi
  have : Ab (AQ b) i = some i := Cn hk.k2 (Cw.2 (Ak this))
  simp only [Aq, this, Option.bind_some]
end
def Oi (b : Nat → Option Nat) (rs : Nat → Option Row) : PV → Option (PV × List Prop)
 | .tup ps => (match Fx b rs ps with
  | some x => if Bg ps then some (.tup x.1, x.2) else none
  | none => none)
 | p => if untup p then Bp b rs p else none
theorem JG : ∀ {l : List PV}, Bg l = true → ∀ q ∈ l, untup q = true
 | [], _, q, hq => by cases hq
 | p :: l, hl, q, hq => by
  simp only [Bg, Bool.and_eq_true] at hl
  rcases List.mem_cons.1 hq with rfl | hq
  ·exact hl.1
  ·exact JG hl.2 q hq
theorem MF.rr {C : Ctx} {F : Nat → Prop} {ρ : Pls} {src : DS} {tgt : Hp} {a : Act} {w : World} {b : List (Nat × Nat)} (hc : MF C b ρ src.st tgt w) (h : Ac C F ρ src.st a w) {v : Value} {p q : PV} {ob : List Prop} (hr : RV w (Tc C ρ src.st.hp) ρ v p)
  (hv : Oi (Ab b) (Ab src.hp) p = some (q, ob)) (ho : All ob) : RV w (Tc C (Aq b ρ) tgt) (Aq b ρ) v q := by
 have key : ∀ {p : PV}, RV w (Tc C ρ src.st.hp) ρ v p → (if untup p then Bp (Ab b) (Ab src.hp) p else none) = some (q, ob) → RV w (Tc C (Aq b ρ) tgt) (Aq b ρ) v q := by
  intro p hr hv
  split at hv
  ·rename_i hu
   exact hc.rv h hu hr hv ho
  ·cases hv
 cases p
 case tup ps =>
  simp only [Oi] at hv
  split at hv
  ·rename_i x hx
   split at hv
   ·rename_i hu
    simp only [Option.some.injEq, Prod.mk.injEq] at hv
    obtain ⟨rfl, rfl⟩ := hv
    obtain ⟨y1, y2⟩ := He hx ho
    obtain ⟨hw, vs, e1, e2, e3⟩ := hr
    simp only [WF] at hw
    have hel : ∀ (j : Nat) (q : PV) (u : Value), x.1[j]? = some q → vs[j]? = some u → RV w (Tc C (Aq b ρ) tgt) (Aq b ρ) u q ∧ ∀ l, q ≠ .tup l := by
     intro j q u hq hu
     obtain ⟨p, o, g1, g2, g3⟩ := y2 j q hq
     have hmem := List.mem_of_getElem? g1
     have hup := JG (by assumption) p hmem
     have hpt : ∀ l, p ≠ .tup l := fun l e => by subst e; simp [untup] at hup
     refine ⟨hc.rv h hup (RV.of_RN (AC hw p hmem) hpt (e3 j p u g1 hu)) g2 g3, fun l e => ?_⟩
     have := (Hl (b := Ab b) (rs := Ab src.hp) (fun i r hr => by
      obtain ⟨pl, _, p2⟩ := h.heap.row i r hr
      exact p2.wf) p q o (AC hw p hmem) hup g2 g3).2.2.1
     rw [e] at this
     simp [AO] at this
    refine ⟨?_, vs, e1, by rw [e2, y1], fun j q u hq hu => (hel j q u hq hu).1.to_RN (hel j q u hq hu).2⟩
    simp only [WF]
    refine Bt fun q hq => ?_
    obtain ⟨j, hj, rfl⟩ := List.getElem_of_mem hq
    have hjv : j < vs.size := by rw [e2, ← y1]; exact hj
    exact (hel j _ vs[j] (List.getElem?_eq_getElem hj) (Array.getElem?_eq_getElem hjv)).1.1
   ·cases hv
  ·cases hv
 all_goals exact key hr hv
end Go.Pe
namespace Go.Pe
def LH (P : Program) (d : DS) : ResultVar → Option (PV × List Prop)
 | .tmp t => if good (AP d.fr t) then some (AP d.fr t, []) else none
 | .cell x ty => match AP d.fr x with
  | .at id path => (match Ab d.hp id with
   | some r => (match Ig P ty r.c path with
    | .ret v _ ob => some (v, ob)
    | _ => none)
   | none => none)
  | _ => none
def Gf (P : Program) (d : DS) : List ResultVar → Option (List PV × List Prop)
 | [] => some ([], [])
 | x :: l => match LH P d x, Gf P d l with
  | some y, some m => some (y.1 :: m.1, y.2 ++ m.2)
  | _, _ => none
def resM (tmps : Array Value) : ResultVar → Sem Value
 | .tmp t => pure (tmps.getD t Go.undef)
 | .cell y t => do loadVar t (← asAddr (tmps.getD y Go.undef))
def OA : List PV → PV
 | [p] => p
 | l => .tup l
section
variable {C : Ctx} {F : Nat → Prop} {ρ : Pls} {d : DS} {a : Act} {w : World}
theorem NG (h : Ac C F ρ d.st a w) {x : ResultVar} {p : PV} {ob : List Prop} (hx : LH C.P d x = some (p, ob)) (ho : All ob) :
  ∃ v, (resM a.tmps x).run C.P w = .ok v w ∧ RV w (Tc C ρ d.st.hp) ρ v p ∧ ∀ l, p ≠ .tup l := by
 cases x with
 | tmp t =>
  simp only [LH] at hx
  split at hx
  ·rename_i hg
   simp only [Option.some.injEq, Prod.mk.injEq] at hx
   obtain ⟨rfl, rfl⟩ := hx
   obtain ⟨g1, g2⟩ := FE hg
   exact ⟨_, rfl, (h.fr t g2).2, g1⟩
  ·cases hx
 | cell y ty =>
  simp only [LH] at hx
  split at hx
  ·rename_i id path hA
   split at hx
   ·rename_i r hr
    split at hx
    ·rename_i v ups ob' hl
     simp only [Option.some.injEq, Prod.mk.injEq] at hx
     obtain ⟨rfl, rfl⟩ := hx
     have hy : a.tmps.getD y Go.undef = a.eval (.tmp y) := rfl
     have hA' : evO C.P C.G 0 d.st.fr (.tmp y) = .at id path := hA
     obtain ⟨pl, p1, p2⟩ := CR h hA'
     obtain ⟨pl', p1', hrel⟩ := h.heap.row id r hr
     rw [p1] at p1'
     cases p1'
     unfold Ig at hl
     split at hl
     ·rename_i q hq
      split at hl
      ·rename_i hb
       simp only [Pr.ret.injEq] at hl
       obtain ⟨rfl, _, rfl⟩ := hl
       simp only [Bool.and_eq_true, Bool.not_eq_true', beq_iff_eq] at hb
       obtain ⟨c1, _, _, c4⟩ := hrel.Cy hq hb.1.2 ho
       obtain ⟨v, e1, e2⟩ := EQ (P := C.P) (t := ty) c1 (Nat.eq_of_beq_eq_true hb.1.1.1) hb.1.1.2 hb.1.2 hb.2 c4
       refine ⟨v, ?_, e2, fun l e => by subst e; simp [AO] at hb⟩
       simp only [resM, hy, p2, asAddr, Sem.run_bind, Sem.run_pure, Result.andThen_ok]
       exact e1
      ·cases hl
     ·cases hl
    ·cases hx
   ·cases hx
  ·cases hx
theorem Ke (h : Ac C F ρ d.st a w) : ∀ {l : List ResultVar} {ps : List PV} {ob : List Prop}, Gf C.P d l = some (ps, ob) → All ob →
  ∃ vs : List Value, (l.mapM (resM a.tmps)).run C.P w = .ok vs w ∧ vs.length = ps.length ∧ ∀ (j : Nat) (p : PV) (v : Value), ps[j]? = some p → vs[j]? = some v → RV w (Tc C ρ d.st.hp) ρ v p ∧ ∀ l, p ≠ .tup l
 | [], ps, ob, hx, _ => by
  simp only [Gf, Option.some.injEq, Prod.mk.injEq] at hx
  obtain ⟨rfl, rfl⟩ := hx
  exact ⟨[], rfl, rfl, fun j p v hp => by simp at hp⟩
 | x :: l, ps, ob, hx, ho => by
  simp only [Gf] at hx
  split at hx
  ·rename_i y m hy hm
   simp only [Option.some.injEq, Prod.mk.injEq] at hx
   obtain ⟨rfl, rfl⟩ := hx
   obtain ⟨v, e1, e2, e3⟩ := NG h hy ho.left
   obtain ⟨vs, g1, g2, g3⟩ := Ke h hm ho.right
   refine ⟨v :: vs, ?_, by simp [g2], fun j p u hp hu => ?_⟩
   ·rw [List.mapM_cons]
    simp only [Sem.run_bind, Sem.run_pure, e1, Result.andThen_ok, g1]
   ·cases j with
    | zero => simp at hp hu; subst hp; subst hu; exact ⟨e2, e3⟩
    | succ j => simp at hp hu; exact g3 j p u hp hu
  ·cases hx
theorem Il (h : Ac C F ρ d.st a w) {fn : Func} {ps : List PV} {ob : List Prop} (hx : Gf C.P d fn.results.toList = some (ps, ob)) (ho : All ob) :
  ∃ v, (results fn a.tmps).run C.P w = .ok v w ∧ RV w (Tc C ρ d.st.hp) ρ v (OA ps) := by
 obtain ⟨vs, g1, g2, g3⟩ := Ke h hx ho
 have hrun : (results fn a.tmps).run C.P w = .ok (if h : vs.toArray.size = 1 then vs.toArray[0] else .tuple vs.toArray) w := by
  have : results fn a.tmps = (do
    let vs ← fn.results.mapM (resM a.tmps)
    pure (if h : vs.size = 1 then vs[0] else .tuple vs)) := by
   unfold results
   congr 1
  rw [this]
  simp only [Array.mapM_eq_mapM_toList, Sem.run_bind, Sem.run_map, g1]
  rfl
 by_cases h1 : vs.length = 1
 ·obtain ⟨v, rfl⟩ := List.length_eq_one_iff.1 h1
  obtain ⟨p, rfl⟩ := List.length_eq_one_iff.1 (g2.symm.trans h1)
  exact ⟨v, by rw [hrun]; rfl, (g3 0 p v rfl rfl).1⟩
 ·refine ⟨.tuple vs.toArray, by rw [hrun, dif_neg (by simpa using h1)], ?_⟩
  have ht : OA ps = .tup ps := by
   cases ps with
   | nil => rfl
   | cons p l => cases l with
    | nil => exact absurd g2 h1
    | cons q l => rfl
  rw [ht]
  refine ⟨?_, vs.toArray, rfl, by simpa using g2, fun j q u hq hu => ?_⟩
  ·simp only [WF]
   refine Bt fun q hq => ?_
   obtain ⟨j, hj, rfl⟩ := List.getElem_of_mem hq
   exact (g3 j _ (vs[j]'(by omega)) (List.getElem?_eq_getElem hj) (List.getElem?_eq_getElem (by omega))).1.1
  ·rw [List.getElem?_toArray] at hu
   exact (g3 j q u hq hu).1.to_RN (g3 j q u hq hu).2
end
def Qx (n : Nat) : List (Nat × Ans) → Bool
 | [] => false
 | x :: l => Nat.beq x.1 n || Qx n l
def Er (n : Nat) (az : List (Nat × Ans)) : List Oper → Nat → Option Nat
 | [], _ => none
 | o :: l, i => match o.op with
  | .call c => (match c.callee with
   | .value (.tmp _) => if Qx (n + i) az then Er n az l (i + 1) else some i
   | _ => Er n az l (i + 1))
  | _ => Er n az l (i + 1)
def ND (ops : Array Oper) (draw : Bool) (n : Nat) (az : List (Nat × Ans)) : Option Nat := if draw then none else Er n az ops.toList 0
def Ky : List Nat → List Nat → Bool
 | [], [] => true
 | x :: l, y :: m => Nat.beq x y && Ky l m
 | _, _ => false
theorem Mo : ∀ {l m : List Nat}, Ky l m = true → l = m
 | [], [], _ => rfl
 | x :: l, y :: m, h => by
  simp only [Ky, Bool.and_eq_true] at h
  rw [Nat.eq_of_beq_eq_true h.1, Mo h.2]
 | [], _ :: _, h => by simp [Ky] at h
 | _ :: _, [], h => by simp [Ky] at h
def E8 (P : Program) (G : Nat → Option PV) (nt : Nat) : Nat → List Item → Nat → DS → List (Nat × Ans) → Option (List Item × DS × List Prop)
 | 0, _, _, _, _ => none
 | f + 1, todo, n, d, az => match todo with
  | [] => some ([], d, [])
  | .code c :: k => (match c with
   | .skip => E8 P G nt f k n d az
   | .label _ => E8 P G nt f k n d az
   | .seq x y => E8 P G nt f (.code x :: .code y :: k) n d az
   | .cond c x y => (match evO P G 0 d.st.fr c with
    | .bool true => E8 P G nt f (.code x :: k) n d az
    | .bool false => E8 P G nt f (.code y :: k) n d az
    | _ => none)
   | .block id c => E8 P G nt f (.code c :: .inBlock id :: k) n d az
   | .loop c => some (.code c :: .inLoop c :: k, d, [])
   | .exit id => (match exitTo id k with
    | some k' => E8 P G nt f k' n d az
    | none => none)
   | .ret => some (.code .ret :: k, d, [])
   | .rangeFunc g ps x y => some (.code (.rangeFunc g ps x y) :: k, d, [])
   | .region _ ops draw => (match ND ops draw n az with
    | some j => (match DL P G ops (ops.toList.take j) 0 n d az with
     | some y => if Nat.blt j ops.size && (LC nt ops && Gc ops) then some (.inRegion ops (List.range' j (ops.size - j)) :: k, y.2.1, GZ y.1) else none
     | none => none)
    | none => (match DL P G ops ops.toList 0 n d az with
     | some y => if I8 P nt ops draw y.1 && Gc ops then (match E8 P G nt f k (n + ops.size) y.2.1 y.2.2 with
      | some z => some (z.1, z.2.1, GZ y.1 ++ z.2.2)
      | none => none) else none
     | none => none))
   | _ => none)
  | .inBlock _ :: k => E8 P G nt f k n d az
  | .inLoop c :: k => some (.code c :: .inLoop c :: k, d, [])
  | .inRegion ops js :: k => if Ky js (List.range' (ops.size - js.length) js.length) && Nat.ble js.length ops.size && (LC nt ops && Gc ops) then
    (match DL P G ops (ops.toList.drop (ops.size - js.length)) (ops.size - js.length) (n + (ops.size - js.length)) d az with
    | some y => (match E8 P G nt f k (n + ops.size + (ops.size - js.length)) y.2.1 y.2.2 with
     | some z => some (z.1, z.2.1, GZ y.1 ++ z.2.2)
     | none => none)
    | none => none) else none
  | .beginRound :: k => some (.beginRound :: k, d, [])
  | _ => none
def Ends (P : Program) (C : Ctx) (ρ : Pls) (b : Frame) (cs : List Frame) (m : Machine) (t : List Item) (d : DS) : Prop :=
 ∃ M ρ' a' w', Ext ρ ρ' ∧ Ac C (fun id => M ≤ id) ρ' d.st a' w' ∧ Steps P m (lone (b.atR a' t) cs w')
theorem Ends.of_steps {P : Program} {C : Ctx} {ρ : Pls} {b : Frame} {cs : List Frame} {m m' : Machine} {t : List Item} {d : DS} (hs : Steps P m m') (h : Ends P C ρ b cs m' t d) : Ends P C ρ b cs m t d := by
 obtain ⟨M, ρ', a', w', h1, h2, h3⟩ := h
 exact ⟨M, ρ', a', w', h1, h2, hs.trans h3⟩
theorem Bj {C : Ctx} : ∀ {f : Nat} {todo : List Item} {n : Nat} {d : DS} {az : List (Nat × Ans)} {t : List Item} {d' : DS} {ob : List Prop}, E8 C.P C.G C.nt f todo n d az = some (t, d', ob) → All ob →
  ∀ (ρ : Pls) (a : Act) (w : World), Ac C (fun id => 64 + 16 * n ≤ id) ρ d.st a w → ∀ (b : Frame) (cs : List Frame), Ends C.P C ρ b cs (lone (b.atR a todo) cs w) t d'
 | 0, _, _, _, _, _, _, _, h, _ => by simp [E8] at h
 | f + 1, todo, n, d, az, t, d', ob, h, ho => by
  intro ρ a w hs b cs
  simp only [E8] at h
  split at h
  ·simp only [Option.some.injEq, Prod.mk.injEq] at h
   obtain ⟨rfl, rfl, rfl⟩ := h
   exact ⟨_, ρ, a, w, Ext.refl _, hs, .refl _ _⟩
  ·rename_i c k
   split at h
   ·exact .of_steps (.one stepR_skip) (Bj h ho ρ a w hs b cs)
   ·exact .of_steps (.one stepR_label) (Bj h ho ρ a w hs b cs)
   ·exact .of_steps (.one stepR_seq) (Bj h ho ρ a w hs b cs)
   ·split at h
    ·rename_i hc
     have := D5 hs hc
     exact .of_steps (.one (stepR_cond this)) (Bj h ho ρ a w hs b cs)
    ·rename_i hc
     have := D5 hs hc
     exact .of_steps (.one (stepR_cond this)) (Bj h ho ρ a w hs b cs)
    ·cases h
   ·exact .of_steps (.one stepR_block) (Bj h ho ρ a w hs b cs)
   ·simp only [Option.some.injEq, Prod.mk.injEq] at h
    obtain ⟨rfl, rfl, rfl⟩ := h
    exact ⟨_, ρ, a, w, Ext.refl _, hs, .one stepR_loop⟩
   ·split at h
    ·rename_i k' hk
     exact .of_steps (.one (stepR_exit hk)) (Bj h ho ρ a w hs b cs)
    ·cases h
   ·simp only [Option.some.injEq, Prod.mk.injEq] at h
    obtain ⟨rfl, rfl, rfl⟩ := h
    exact ⟨_, ρ, a, w, Ext.refl _, hs, .refl _ _⟩
   ·simp only [Option.some.injEq, Prod.mk.injEq] at h
    obtain ⟨rfl, rfl, rfl⟩ := h
    exact ⟨_, ρ, a, w, Ext.refl _, hs, .refl _ _⟩
   ·rename_i id ops draw
    split at h
    ·rename_i j hj
     have hdraw : draw = false := by
      cases draw with
      | false => rfl
      | true => simp [ND] at hj
     subst hdraw
     split at h
     ·rename_i y hy
      split at h
      ·rename_i hb
       simp only [Bool.and_eq_true] at hb
       simp only [Option.some.injEq, Prod.mk.injEq] at h
       obtain ⟨rfl, rfl, rfl⟩ := h
       have hlt : j < ops.size := Nat.blt_eq ▸ hb.1
       have hln : (ops.toList.take j).length = j := by simp; omega
       obtain ⟨a', w', ρ', hx, hs', hst⟩ := IG (n0 := n) (i := 0) (l := ops.toList.take j) (d' := y.2.1) (az' := y.2.2) (its := y.1) hs hy (fun i o hi => by
        rw [List.getElem?_take] at hi
        split at hi
        ·rw [Nat.zero_add, ← Array.getElem?_toList]; exact hi
        ·cases hi) ho hb.2.1 hb.2.2 (List.range' j (ops.size - j)) b k cs
       refine ⟨_, ρ', a', w', hx, hs', .head stepR_region ?_⟩
       have he : List.range' 0 (ops.toList.take j).length ++ List.range' j (ops.size - j) = List.range ops.size := by
        rw [hln, List.range_eq_range']
        have := List.range'_append_1 (s := 0) (m := j) (n := ops.size - j)
        rw [Nat.zero_add] at this
        rw [this]
        congr 1
        omega
       rw [he] at hst
       exact hst
      ·cases h
     ·cases h
    ·split at h
     ·rename_i y hy
      split at h
      ·rename_i hb
       simp only [Bool.and_eq_true] at hb
       split at h
       ·rename_i z hz
        simp only [Option.some.injEq, Prod.mk.injEq] at h
        obtain ⟨rfl, rfl, rfl⟩ := h
        obtain ⟨a', w', ρ', hx, hs', hst⟩ := Nw (id := id) hs (d' := y.2.1) (az' := y.2.2) (its := y.1) hy ho.left hb.1 hb.2 b k cs
        obtain ⟨M, ρ2, a2, w2, h1, h2, h3⟩ := Bj (t := z.1) (d' := z.2.1) (ob := z.2.2) hz ho.right ρ' a' w' hs' b cs
        exact .of_steps hst ⟨M, ρ2, a2, w2, fun i pl hi => h1 i pl (hx i pl hi), h2, h3⟩
       ·cases h
      ·cases h
     ·cases h
   ·cases h
  ·exact .of_steps (.one stepR_inBlock) (Bj h ho ρ a w hs b cs)
  ·simp only [Option.some.injEq, Prod.mk.injEq] at h
   obtain ⟨rfl, rfl, rfl⟩ := h
   exact ⟨_, ρ, a, w, Ext.refl _, hs, .one stepR_inLoop⟩
  ·rename_i ops js k
   split at h
   ·rename_i hb
    simp only [Bool.and_eq_true] at hb
    obtain ⟨⟨hjs, hle⟩, hd⟩ := hb
    have hjs := Mo hjs
    have hle := Nat.le_of_ble_eq_true hle
    split at h
    ·rename_i y hy
     split at h
     ·rename_i z hz
      simp only [Option.some.injEq, Prod.mk.injEq] at h
      obtain ⟨rfl, rfl, rfl⟩ := h
      have hln : (ops.toList.drop (ops.size - js.length)).length = js.length := by simp; omega
      obtain ⟨a', w', ρ', hx, hs', hst⟩ := IG (n0 := n) (i := ops.size - js.length) (l := ops.toList.drop (ops.size - js.length)) (d' := y.2.1) (az' := y.2.2) (its := y.1) (hs.less fun i hi => by omega) hy (fun i o hi => by
       rw [List.getElem?_drop] at hi
       rw [← Array.getElem?_toList]; exact hi) ho.left hd.1 hd.2 [] b k cs
      rw [hln, ← hjs, List.append_nil] at hst
      obtain ⟨M, ρ2, a2, w2, h1, h2, h3⟩ := Bj (t := z.1) (d' := z.2.1) (ob := z.2.2) hz ho.right ρ' a' w' hs' b cs
      exact .of_steps (hst.trans (.one stepR_region_end)) ⟨M, ρ2, a2, w2, fun i pl hi => h1 i pl (hx i pl hi), h2, h3⟩
     ·cases h
    ·cases h
   ·cases h
  ·simp only [Option.some.injEq, Prod.mk.injEq] at h
   obtain ⟨rfl, rfl, rfl⟩ := h
   exact ⟨_, ρ, a, w, Ext.refl _, hs, .refl _ _⟩
  ·cases h
def Rt (C : Ctx) (pin : Pls) (fn : Func) (hout : List (Nat × Row)) (res : PV) (a : Act) (w : World) : Prop :=
 a.defers = [] ∧ ∃ v ρ', (results fn a.tmps).run C.P w = .ok v w ∧ RV w (Tc C ρ' (Ab hout)) ρ' v res ∧ HR w (Tc C ρ' (Ab hout)) ρ' (Ab hout) ∧ (∀ i pl, pin i = some pl → ρ' i = some pl) ∧ FR C.M0 C.w0 w ∧
  (∀ i row pl, Ab hout i = some row → ρ' i = some pl → ∀ j, j < pl.ext → C.w0.heap.size ≤ pl.g ∨ C.M0 pl.g (pl.off + j))
abbrev Goal := Machine → Prop
abbrev LJ := Ctx → Pls → Frame → List Frame → Goal → Prop
def Back (P : Program) (X : Goal) : Prop := ∀ m m', Steps P m m' → X m' → X m
def WH (P : Program) (G : Nat → Option PV) (fn : Func) (pins : List Nat) (H : LJ) (todo : List Item) (d : DS) : Prop :=
 ∀ (C : Ctx) (pin : Pls) (b : Frame) (cs : List Frame) (X : Goal), H C pin b cs X → Back P X → C.P = P → C.G = G → C.nt = fn.ntmps → (∀ i, pin i ≠ none → i ∈ pins) →
  ∀ (ρ : Pls) (a : Act) (w : World), (∀ i pl, pin i = some pl → ρ i = some pl) → Ac C (fun id => 64 ≤ id) ρ d.st a w → X (lone (b.atR a todo) cs w)
def HRet (fn : Func) (hout : List (Nat × Row)) (res : PV) : LJ := fun C pin b cs X => b.roundOf = none ∧ C.D = [] ∧ ∀ a' w' td, Rt C pin fn hout res a' w' → X (lone { b.atR a' td with mode := .returning } cs w')
def W (P : Program) (G : Nat → Option PV) (fn : Func) (pins : List Nat) (hout : List (Nat × Row)) (res : PV) (todo : List Item) (d : DS) : Prop := WH P G fn pins (HRet fn hout res) todo d
def segB (P : Program) (G : Nat → Option PV) (nt : Nat) (pins : List Nat) (todo : List Item) (d : DS) (az : List (Nat × Ans)) (b : List (Nat × Nat)) (tgt : DS) : Option (List Item × List Prop) :=
 match E8 P G nt 4000 todo 0 d az with
 | some x => (match Ic b pins x.2.1 tgt with
  | some ob => some (x.1, x.2.2 ++ ob)
  | none => none)
 | none => none
def JK : List Item → Bool
 | [] => true
 | .code .ret :: _ => true
 | _ => false
def retB (P : Program) (G : Nat → Option PV) (fn : Func) (pins : List Nat) (todo : List Item) (d : DS) (az : List (Nat × Ans)) (b : List (Nat × Nat)) (hout : List (Nat × Row)) (res : PV) : Option (List Prop) :=
 match E8 P G fn.ntmps 4000 todo 0 d az with
 | some x => if JK x.1 then (match Gf P x.2.1 fn.results.toList, Ic b pins x.2.1 ⟨[], hout⟩ with
   | some r, some ob => (match Oi (Ab b) (Ab x.2.1.hp) (OA r.1) with
    | some q => some (x.2.2 ++ (r.2 ++ (ob ++ (q.2 ++ [q.1 = res]))))
    | none => none)
   | _, _ => none) else none
 | none => none
section
variable {P : Program} {G : Nat → Option PV} {fn : Func} {pins : List Nat} {hout : List (Nat × Row)} {res : PV} {todo : List Item} {d : DS} {H : LJ}
theorem WH.seg (az : List (Nat × Ans)) (b : List (Nat × Nat)) (tgt : DS) {todo' : List Item} (ob : List Prop) (h : segB P G fn.ntmps pins todo d az b tgt = some (todo', ob)) (ho : Cq ob) (hw : WH P G fn pins H todo' tgt) : WH P G fn pins H todo d := by
 have ho := ho.all
 intro C pin fb cs X hH hX hP hG hN hpin ρ a w hp hs
 subst hP; subst hG
 unfold segB at h
 split at h
 ·rename_i x hx
  split at h
  ·rename_i ob' hob'
   simp only [Option.some.injEq, Prod.mk.injEq] at h
   obtain ⟨rfl, rfl⟩ := h
   obtain ⟨M, ρ', a', w', h1, h2, h3⟩ := Bj (C := C) (t := x.1) (d' := x.2.1) (ob := x.2.2) (by rw [hN]; exact hx) ho.left ρ a w hs fb cs
   obtain ⟨c1, c2⟩ := h2.cast hob' ho.right
   exact hX _ _ h3 (hw C pin fb cs X hH hX rfl rfl hN hpin (Aq b ρ') a' w' (fun i pl hi => by rw [c2 i (hpin i (by rw [hi]; intro e; cases e))]; exact h1 i pl (hp i pl hi)) c1)
  ·cases h
 ·cases h
theorem W.seg (az : List (Nat × Ans)) (b : List (Nat × Nat)) (tgt : DS) {todo' : List Item} (ob : List Prop) (h : segB P G fn.ntmps pins todo d az b tgt = some (todo', ob)) (ho : Cq ob) (hw : W P G fn pins hout res todo' tgt) : W P G fn pins hout res todo d :=
 WH.seg az b tgt ob h ho hw
theorem Jq {b : Frame} {cs : List Frame} {a : Act} {w : World} {x : List Item} (hb : b.roundOf = none) (hx : JK x = true) : ∃ td, Steps P (lone (b.atR a x) cs w) (lone { b.atR a td with mode := .returning } cs w) := by
 unfold JK at hx
 split at hx
 ·exact ⟨_, .one (stepR_end hb)⟩
 ·exact ⟨_, .one (stepR_ret hb)⟩
 ·cases hx
theorem W.ret (az : List (Nat × Ans)) (b : List (Nat × Nat)) (ob : List Prop) (h : retB P G fn pins todo d az b hout res = some ob) (ho : Cq ob) : W P G fn pins hout res todo d := by
 have ho := ho.all
 intro C pin fb cs X hH hX hP hG hN hpin ρ a w hp hs
 subst hP; subst hG
 unfold retB at h
 split at h
 ·rename_i x hx
  split at h
  ·rename_i hret
   split at h
   ·rename_i r ob' hr hob'
    split at h
    ·rename_i q hq
     simp only [Option.some.injEq] at h
     subst h
     obtain ⟨M, ρ', a', w', h1, h2, h3⟩ := Bj (C := C) (t := x.1) (d' := x.2.1) (ob := x.2.2) (by rw [hN]; exact hx) ho.left ρ a w hs fb cs
     obtain ⟨td, h4⟩ := Jq (P := C.P) (cs := cs) (a := a') (w := w') hH.1 hret
     have ho1 := ho.right
     have ho2 := ho1.right
     have ho3 := ho2.right
     obtain ⟨hk, _, m', hm', hmo'⟩ := Gl hob' ho2.left
     obtain ⟨hc, hhr, hinn⟩ := JF h2 hk hm' hmo'
     obtain ⟨v, e1, e2⟩ := Il h2 (fn := fn) (ps := r.1) (ob := r.2) hr ho1.left
     have he : q.1 = res := ho3.right.head
     refine hX _ _ (h3.trans h4) (hH.2.2 a' w' td ⟨by rw [h2.defers, hH.2.1], v, Aq b ρ', e1, ?_, hhr, fun i pl hi => ?_, h2.frame, hinn⟩)
     ·rw [← he]
      exact hc.rr h2 e2 (q := q.1) (ob := q.2) hq ho3.left
     ·have hpi := hk.pin i (hpin i (by rw [hi]; intro e; cases e))
      have : Ab (AQ b) i = some i := Cn hk.k2 (Cw.2 (Ak hpi))
      simp only [Aq, this, Option.bind_some]
      exact h1 i pl (hp i pl hi)
    ·cases h
   ·cases h
  ·cases h
 ·cases h
def GJ : Nat → List PV → List (Nat × PV)
 | _, [] => []
 | i, p :: l => (i, p) :: GJ (i + 1) l
theorem Jh : ∀ {l : List PV} {i t : Nat}, Ab (GJ i l) t = if i ≤ t then l[t - i]? else none
 | [], i, t => by simp [GJ, Ab]
 | p :: l, i, t => by
  simp only [GJ, Ab, Jh (l := l)]
  by_cases h : i = t
  ·subst h; simp
  ·rw [if_neg (fun e => h (Nat.eq_of_beq_eq_true e))]
   by_cases hle : i ≤ t
   ·rw [if_pos (by omega), if_pos hle, show t - i = (t - (i + 1)) + 1 by omega]
    simp
   ·rw [if_neg (by omega), if_neg hle]
theorem PC.of {f : FuncId} {c : Code} {hin : List (Nat × Row)} {args : List PV} (hf : P.funcs[f]? = some fn) (hb : fn.body = some c) (hn : (fn.name == "runtime.NumGoroutine") = false) (hl : Nat.ble args.length fn.ntmps = true) (hid : hin.all (fun x => Nat.blt x.1 64 && !x.2.frz) = true)
  (hw : W P G fn (keys hin) hout res [.code c] ⟨GJ 0 args, hin⟩) : PC P G f hin args hout res := by
 intro T0 ρ w vs h1 h2 h3 h4 h5 h6
 refine .inl ⟨⟨fn, hf, by rw [hb]; rfl, hn⟩, ?_⟩
 let C : Ctx := ⟨P, G, w, T0, Mut ρ (Ab hin), fn.ntmps, [], fun _ _ => True, fun _ _ _ _ _ _ _ => trivial⟩
 have hid' : ∀ i r, Ab hin i = some r → i < 64 ∧ r.frz = false := by
  intro i r hi
  have := List.all_eq_true.1 hid _ (Ak hi)
  simp only [Bool.and_eq_true, Bool.not_eq_true'] at this
  exact ⟨Nat.blt_eq ▸ this.1, this.2⟩
 have hl' : vs.size ≤ fn.ntmps := by rw [h5]; exact Nat.le_of_ble_eq_true hl
 have hk : Ay w T0 w (Tc C ρ (Ab hin)) := fun b o u hT hc => ⟨⟨.inl hT, h1 b o hT⟩, hc⟩
 have hsim : Ac C (fun id => 64 ≤ id) ρ (DS.st ⟨GJ 0 args, hin⟩) { tmps := vs ++ Array.replicate (fn.ntmps - vs.size) Go.undef, defers := [] } w := by
  refine ⟨rfl, by show _ = fn.ntmps; simp; omega, fun t ht => ?_, ⟨fun i r hi => ?_, h2.sep⟩, fun i hi => ?_, fun i r pl hi hp j hj => ?_, FR.refl _ _, fun g c hg => ⟨(h4 g c hg).1, (h4 g c hg).2.1, (h4 g c hg).2.2.keep hk⟩, trivial⟩
  ·have ht' : AP (GJ 0 args) t ≠ .undef := ht
   have hg : (DS.st ⟨GJ 0 args, hin⟩).fr t = AP (GJ 0 args) t := rfl
   rw [hg]
   have hlook : Ab (GJ 0 args) t = args[t]? := by rw [Jh]; simp
   unfold AP at ht' ⊢
   rw [hlook] at ht' ⊢
   cases hp : args[t]? with
   | none => rw [hp] at ht'; exact absurd rfl ht'
   | some p =>
    rw [hp] at ht'
    simp only at ht' ⊢
    have hlt : t < vs.size := by rw [h5]; exact (List.getElem?_eq_some_iff.1 hp).1
    refine ⟨by show t < fn.ntmps; omega, ?_⟩
    have : (vs ++ Array.replicate (fn.ntmps - vs.size) Go.undef).getD t Go.undef = vs[t] := by
     simp [Array.getD, hlt]
     intro hx
     omega
    rw [this]
    exact (h6 t p vs[t] hp (Array.getElem?_eq_getElem hlt) ht').keep hk (Ext.refl _)
  ·obtain ⟨pl, p1, p2⟩ := h2.row i r hi
   exact ⟨pl, p1, p2.keep hk (Ext.refl _) rfl⟩
  ·have : Ab hin i = none := by
    cases hr : Ab hin i with
    | none => rfl
    | some r =>
     have := hid' i r hr
     omega
   exact ⟨h3 i this, this⟩
  ·exact .inr ⟨i, r, pl, hi, (hid' i r hi).2, hp, rfl, by omega, by omega⟩
 intro cs
 let b : Frame := { (default : Frame) with fn := f, kind := .normal }
 have henter : Frame.enter P f vs .normal = b.at { tmps := vs ++ Array.replicate (fn.ntmps - vs.size) Go.undef, defers := [] } [.code c] := by
  simp [Frame.enter, Frame.at, hf, hb, b]
 obtain ⟨a', w', td, hsteps, hd, v, ρ', r1, r2, r3, r4, r5, r6⟩ := hw C (fun i => match Ab hin i with
  | some _ => ρ i
  | none => none) b cs (fun m => ∃ a' w' td, Steps P m (lone { b.at a' td with mode := .returning } cs w') ∧ Rt C (fun i => match Ab hin i with
  | some _ => ρ i
  | none => none) fn hout res a' w') ⟨rfl, rfl, fun a' w' td h => ⟨a', w', td, .refl _ _, h⟩⟩ (fun m m' hs ⟨a', w', td, h1, h2⟩ => ⟨a', w', td, hs.trans h1, h2⟩) rfl rfl rfl (fun i hi => Qp fun e => by rw [e] at hi; exact hi rfl) ρ _ w (fun i pl hi => by
   cases hr : Ab hin i with
   | none => rw [hr] at hi; cases hi
   | some r => rw [hr] at hi; exact hi) hsim
 rw [Frame.atR_of_none rfl, ← henter] at hsteps
 exact ⟨.returned v, w', _, ⟨v, ρ', rfl, r2, r3, fun i pl hi hp => r4 i pl (by
  cases hr : Ab hin i with
  | none => exact absurd hr hi
  | some r => simp only [hr]; exact hp), r5, r6⟩, hsteps, rfl, rfl, hd, rfl, fn, hf, r1⟩
end
end Go.Pe
namespace Go.Pe
mutual
def Kc (pins : List Nat) : PV → Bool
 | .st _ fs => Ox pins fs
 | .tup _ => false
 | .at id _ => Co id pins
 | .ref id _ _ _ _ => Co id pins
 | .fn _ id => Co id pins
 | .fn2 _ i j => Co i pins && Co j pins
 | _ => true
termination_by structural p => p
def Ox (pins : List Nat) : List PV → Bool
 | [] => true
 | p :: l => Kc pins p && Ox pins l
termination_by structural l => l
end
def idB (pins : List Nat) : Nat → Option Nat := fun i => if Co i pins then some i else none
mutual
theorem Mt {pins : List Nat} : ∀ (p : PV), Kc pins p = true → ren (idB pins) p = some p
 | .st n fs, h => by simp only [Kc] at h; simp only [ren, KW fs h, Option.map_some]
 | .tup _, h => by simp [Kc] at h
 | .at .., h => by simp only [Kc] at h; simp [ren, idB, h]
 | .ref .., h => by simp only [Kc] at h; simp [ren, idB, h]
 | .fn .., h => by simp only [Kc] at h; simp [ren, idB, h]
 | .fn2 .., h => by simp only [Kc, Bool.and_eq_true] at h; simp [ren, idB, h.1, h.2]
 | .int .., _ | .bool _, _ | .str _, _ | .iarr .., _ | .parr .., _ | .vec .., _ | .cptr .., _ | .nilp, _ | .fv _, _ | .fb .., _ | .undef, _ => rfl
theorem KW {pins : List Nat} : ∀ (l : List PV), Ox pins l = true → EJ (idB pins) l = some l
 | [], _ => rfl
 | p :: l, h => by
  simp only [Ox, Bool.and_eq_true] at h
  simp only [EJ, Mt p h.1, KW l h.2]
end
def FY (pins : List Nat) (ρ : Pls) : Pls := fun i => if Co i pins then ρ i else none
theorem RV.pinned {w : World} {T : T2} {ρ : Pls} {v : Value} {p : PV} {pins : List Nat} (h : RV w T ρ v p) (hp : Kc pins p = true) : RV w T (FY pins ρ) v p :=
 h.ren (fun i j pl hi hpl => by
  simp only [idB] at hi
  split at hi
  ·rename_i hm
   simp only [Option.some.injEq] at hi
   subst hi
   simp only [FY, hm, if_true]
   exact hpl
  ·cases hi) (Mt p hp)
theorem Lc {pins : List Nat} {ρ : Pls} : Ext (FY pins ρ) ρ := fun i pl h => by
 simp only [FY] at h
 split at h
 ·exact h
 ·cases h
theorem KG {pins : List Nat} {ρ : Pls} : ∀ i, FY pins ρ i ≠ none → i ∈ pins := fun i h => by
 simp only [FY] at h
 split at h
 ·rename_i hm; exact Bo.1 hm
 ·exact absurd rfl h
def subB (l m : List Nat) : Bool := l.all fun i => Co i m
theorem K8 {l m : List Nat} (h : subB l m = true) : ∀ i ∈ l, i ∈ m := fun i hi => Bo.1 (List.all_eq_true.1 h i hi)
def K4 (pins : List Nat) (fr0 : List (Nat × PV)) : Bool := fr0.all fun x => Kc pins x.2
def BH (fr0 fr : List (Nat × PV)) : Prop := ∀ i, AP fr0 i ≠ .undef → AP fr0 i = AP fr i
section
variable {C : Ctx} {F : Nat → Prop} {ρ : Pls} {s : St} {a : Act} {w w' : World}
def Q3 : Obj → Bool
 | .cells .. => true
 | _ => false
def Cells (w w' : World) : Prop := ∀ (g : Nat) (o : Obj), w.heap[g]? = some o → (Q3 o || Kt o) = true → w'.heap[g]? = some o
theorem Cells.keeps {T : T2} (h : Cells w w') : Ay w T w' T := fun b o u hT hc => ⟨hT, by
 obtain ⟨cs, t, fz, e1, e2⟩ := CB hc
 rw [AB (h _ _ e1 rfl)]
 exact e2⟩
abbrev Ctx.re (C : Ctx) (nt' : Nat) (D' : List Deferred) (X' : World → T2 → Prop) (hX' : ∀ w T w' T', Ay w T w' T' → JH w w' → X' w T → X' w' T') : Ctx := { C with nt := nt', D := D', X := X', hX := hX' }
theorem Ac.swap (h : Ac C F ρ s a w) (hc : Cells w w') (hfr : FR C.M0 C.w0 w') {nt' : Nat} {D' : List Deferred} {X' : World → T2 → Prop} {hX' : ∀ w T w' T', Ay w T w' T' → JH w w' → X' w T → X' w' T'} {fr' : Nat → PV} {a' : Act}
  (hd : a'.defers = D') (hs : a'.tmps.size = nt') (hf : ∀ i, fr' i ≠ .undef → i < nt' ∧ RV w (Tc C ρ s.hp) ρ (a'.tmps.getD i Go.undef) (fr' i)) (hx : X' w' (Tc C ρ s.hp)) :
  Ac (C.re nt' D' X' hX') F ρ ⟨fr', s.hp⟩ a' w' := by
 have hk : Ay w (Tc C ρ s.hp) w' (Tc C ρ s.hp) := hc.keeps
 refine ⟨hd, hs, fun i hi => ⟨(hf i hi).1, (hf i hi).2.keep hk (Ext.refl _)⟩, ⟨fun id row hr => ?_, h.heap.sep⟩, h.free, h.inn, hfr, fun g c hg => ⟨(h.glob g c hg).1, (h.glob g c hg).2.1, (h.glob g c hg).2.2.keep hk⟩, hx⟩
 obtain ⟨pl, h1, h2⟩ := h.heap.row id row hr
 refine ⟨pl, h1, h2.keep hk (Ext.refl _) ?_⟩
 rcases h2 with ⟨_, _, _, _, _, o, g1, g2⟩ | ⟨cs, t, fz, g1, _⟩
 ·rw [g1]
  exact hc _ _ g1 (by rw [g2.mov]; simp)
 ·rw [g1]
  exact hc _ _ g1 rfl
theorem Cells.put {l : Nat} {o o' : Obj} (hl : w.heap[l]? = some o) (ho : (Q3 o || Kt o) = false) : Cells w (w.putObj l o') := fun _ _ hg hm => by
 rw [World.putObj_heap_other (fun e => by subst e; rw [hl] at hg; rw [← Option.some.inj hg, ho] at hm; cases hm)]
 exact hg
theorem Cells.alloc (o : Obj) : Cells w (w.alloc o) := fun _ _ hg _ => by rw [alloc_old w o (Array.getElem?_eq_some_iff.1 hg).1]; exact hg
theorem Cells.trans {w'' : World} (h : Cells w w') (h' : Cells w' w'') : Cells w w'' := fun _ _ hg hm => h' _ _ (h _ _ hg hm) hm
theorem FR.put {M : T2} {w0 : World} {l : Nat} {o' : Obj} (h : FR M w0 w) (hl : w0.heap.size ≤ l) : FR M w0 (w.putObj l o') :=
 ⟨h.os, h.tape, h.output, by simp; exact h.size, fun b hb => by rw [World.putObj_heap_other (by omega)]; exact h.block b hb⟩
theorem FR.alloc' {M : T2} {w0 : World} (o : Obj) (h : FR M w0 w) : FR M w0 (w.alloc o) :=
 ⟨h.os, h.tape, h.output, by simp; have := h.size; omega, fun b hb => by rw [alloc_old w o (Nat.lt_of_lt_of_le hb h.size)]; exact h.block b hb⟩
end
structure EP (C C1 : Ctx) : Prop where
 P : C.P = C1.P
 G : C.G = C1.G
 w0 : C.w0 = C1.w0
 T0 : C.T0 = C1.T0
 M0 : C.M0 = C1.M0
theorem EP.refl (C : Ctx) : EP C C := ⟨rfl, rfl, rfl, rfl, rfl⟩
theorem EP.trans {C C1 C2 : Ctx} (h : EP C C1) (h' : EP C1 C2) : EP C C2 := ⟨h.P.trans h'.P, h.G.trans h'.G, h.w0.trans h'.w0, h.T0.trans h'.T0, h.M0.trans h'.M0⟩
theorem EP.rt {C C1 : Ctx} (h : EP C C1) {pin : Pls} {fn : Func} {hout : List (Nat × Row)} {res : PV} {a : Act} {w : World} (hr : Rt C pin fn hout res a w) : Rt C1 pin fn hout res a w := by
 obtain ⟨P, G, w0, T0, M0, nt, D, X, hX⟩ := C
 obtain ⟨P', G', w0', T0', M0', nt', D', X', hX'⟩ := C1
 obtain ⟨h1, h2, h3, h4, h5⟩ := h
 simp only at h1 h2 h3 h4 h5
 subst h1; subst h2; subst h3; subst h4; subst h5
 exact hr
def HRetM (fn : Func) (hout : List (Nat × Row)) (res : PV) : LJ := fun C pin b cs X => b.roundOf = none ∧ ∃ r, C.D = [{ target := .collected r, args := #[] }] ∧ C.w0.heap.size ≤ r ∧
 (∀ w T, C.X w T → w.heap[r]? = some (.deferred (some []))) ∧ ∀ a' w' td, Rt C pin fn hout res a' w' → X (lone { b.atR a' td with mode := .returning } cs w')
def WM (P : Program) (G : Nat → Option PV) (fn : Func) (pins : List Nat) (hout : List (Nat × Row)) (res : PV) (todo : List Item) (d : DS) : Prop := WH P G fn pins (HRetM fn hout res) todo d
section
variable {P : Program} {G : Nat → Option PV} {fn : Func} {pins : List Nat} {hout : List (Nat × Row)} {res : PV} {todo : List Item} {d : DS}
theorem WM.ret (az : List (Nat × Ans)) (b : List (Nat × Nat)) (ob : List Prop) (h : retB P G fn pins todo d az b hout res = some ob) (ho : Cq ob) : WM P G fn pins hout res todo d := by
 have ho := ho.all
 intro C pin fb cs X hH hX hP hG hN hpin ρ a w hp hs
 subst hP; subst hG
 unfold retB at h
 split at h
 ·rename_i x hx
  split at h
  ·rename_i hret
   split at h
   ·rename_i r ob' hr hob'
    split at h
    ·rename_i q hq
     simp only [Option.some.injEq] at h
     subst h
     obtain ⟨M, ρ', a', w', h1, h2, h3⟩ := Bj (C := C) (t := x.1) (d' := x.2.1) (ob := x.2.2) (by rw [hN]; exact hx) ho.left ρ a w hs fb cs
     obtain ⟨td, h4⟩ := Jq (P := C.P) (cs := cs) (a := a') (w := w') hH.1 hret
     obtain ⟨g, hD, hg, hgX, hrt⟩ := hH.2
     have hobj := hgX w' _ h2.amb
     have h5 : Steps C.P (lone { fb.atR a' td with mode := .returning } cs w') (lone { fb.atR { a' with defers := [] } td with mode := .returning } cs (w'.putObj g (.deferred none))) :=
      .one (by
       have hst := step_collected (P := C.P) (fr := { fb.atR a' td with mode := .returning }) (cs := cs) (w := w') (ds := []) (d := { target := .collected g, args := #[] }) (r := g) (by simp) (by show a'.defers = _; rw [h2.defers, hD]) rfl (run_takeDeferred hobj)
       exact hst)
     have hs2 : Ac (C.re C.nt [] (fun _ _ => True) (fun _ _ _ _ _ _ _ => trivial)) (fun id => M ≤ id) ρ' ⟨x.2.1.st.fr, x.2.1.st.hp⟩ { a' with defers := [] } (w'.putObj g (.deferred none)) :=
      h2.swap (Cells.put hobj rfl) (h2.frame.put hg) rfl h2.size h2.fr trivial
     have ho1 := ho.right
     have ho2 := ho1.right
     have ho3 := ho2.right
     obtain ⟨hk, _, m', hm', hmo'⟩ := Gl hob' ho2.left
     obtain ⟨hc, hhr, hinn⟩ := JF hs2 hk hm' hmo'
     obtain ⟨v, e1, e2⟩ := Il (d := x.2.1) hs2 (fn := fn) (ps := r.1) (ob := r.2) hr ho1.left
     have he : q.1 = res := ho3.right.head
     refine hX _ _ ((h3.trans h4).trans h5) (hrt { a' with defers := [] } _ td ⟨rfl, v, Aq b ρ', e1, ?_, hhr, fun i pl hi => ?_, hs2.frame, hinn⟩)
     ·rw [← he]
      exact hc.rr hs2 e2 (q := q.1) (ob := q.2) hq ho3.left
     ·have hpi := hk.pin i (hpin i (by rw [hi]; intro e; cases e))
      have : Ab (AQ b) i = some i := Cn hk.k2 (Cw.2 (Ak hpi))
      simp only [Aq, this, Option.bind_some]
      exact h1 i pl (hp i pl hi)
    ·cases h
   ·cases h
  ·cases h
 ·cases h
theorem WM.seg (az : List (Nat × Ans)) (b : List (Nat × Nat)) (tgt : DS) {todo' : List Item} (ob : List Prop) (h : segB P G fn.ntmps pins todo d az b tgt = some (todo', ob)) (ho : Cq ob) (hw : WM P G fn pins hout res todo' tgt) : WM P G fn pins hout res todo d :=
 WH.seg az b tgt ob h ho hw
end
end Go.Pe
namespace Go.Pe
structure CQ where
 fn : Func
 hout : List (Nat × Row)
 res : PV
 pins : List Nat
 fr0 : List (Nat × PV)
 ps : Array Tmp
 asn : Code
 body : Code
 k : List Item
 fi : FuncId
structure Ik where
 C1 : Ctx
 pin1 : Pls
 b1 : Frame
 cs1 : List Frame
 a1 : Act
 w1 : World
 T1 : T2
 r : Nat
 l : Nat
def FZ (R : CQ) (D : Ik) (st : LoopState) (pend : Option Code) : Loop := { state := st, pending := pend, fn := D.b1.fn, tmps := D.a1.tmps, params := R.ps, assign := R.asn, body := R.body, defers := D.r }
def XL (R : CQ) (D : Ik) (st : LoopState) (pend : Option Code) (w1 : World) (T1 : T2) : World → T2 → Prop := fun w T => Ay w1 T1 w T ∧ w.heap[D.r]? = some (.deferred (some [])) ∧ w.heap[D.l]? = some (.loop (FZ R D st pend))
theorem Ay.trans {w w' w'' : World} {T T' T'' : T2} (h : Ay w T w' T') (h' : Ay w' T' w'' T'') : Ay w T w'' T'' := fun b o u h1 h2 => h' b o u (h b o u h1 h2).1 (h b o u h1 h2).2
theorem XL.keep {R : CQ} {D : Ik} {st : LoopState} {pend : Option Code} {w1 : World} {T1 : T2} : ∀ w T w' T', Ay w T w' T' → JH w w' → XL R D st pend w1 T1 w T → XL R D st pend w1 T1 w' T' :=
 fun _ _ _ _ hk ho h => ⟨h.1.trans hk, ho _ _ h.2.1 ⟨(by intro c t f e; cases e), rfl⟩, ho _ _ h.2.2 ⟨(by intro c t f e; cases e), rfl⟩⟩
structure MV (R : CQ) (D : Ik) (C : Ctx) (pin : Pls) (b : Frame) (cs : List Frame) (X : Goal) : Prop where
 ret : HRet R.fn R.hout R.res D.C1 D.pin1 D.b1 D.cs1 X
 same : EP C D.C1
 pin1 : ∀ i, D.pin1 i ≠ none → i ∈ R.pins
 pinE : ∀ i pl, D.pin1 i = some pl → pin i = some pl
 size : D.a1.tmps.size = R.fn.ntmps
 fr : ∀ i, AP R.fr0 i ≠ .undef → i < R.fn.ntmps ∧ RV D.w1 D.T1 pin (D.a1.tmps.getD i Go.undef) (AP R.fr0 i)
 r : C.w0.heap.size ≤ D.r
 l : C.w0.heap.size ≤ D.l
 D0 : C.D = []
 ro : b.roundOf = none
 kind : b.kind = .normal
 bfn : b.fn = R.fi
 cs : cs = D.b1.atR { D.a1 with defers := [{ target := .collected D.r, args := #[] }] } (.inRangeFunc D.l :: R.k) :: D.cs1
def CJ (R : CQ) (l : Nat) (st : LoopState) (pend : Option Code) : LJ := fun C pin b cs X => ∃ D : Ik, D.l = l ∧ MV R D C pin b cs X ∧ C.X = XL R D st pend D.w1 D.T1
structure Jo where
 nI : Nat
 pinsI : List Nat
 frI : List (Nat × PV)
 ops : Array Oper
 j : Nat
 rest : List Nat
 kI : List Item
 dst : Option Tmp
structure Q4 where
 C2 : Ctx
 pin2 : Pls
 b2 : Frame
 cs2 : List Frame
 a2 : Act
 w2 : World
 T2' : T2
structure PT (R : CQ) (Q : Jo) (D : Ik) (E : Q4) (C : Ctx) (pin : Pls) (b : Frame) (cs : List Frame) (X : Goal) : Prop where
 core : MV R D E.C2 E.pin2 E.b2 E.cs2 X
 pin2 : ∀ i, E.pin2 i ≠ none → i ∈ Q.pinsI
 keeps : Ay D.w1 D.T1 E.w2 E.T2'
 same : EP C E.C2
 D0 : C.D = []
 pinE : ∀ i pl, E.pin2 i = some pl → pin i = some pl
 size : E.a2.tmps.size = Q.nI
 fr : ∀ i, AP Q.frI i ≠ .undef → i < Q.nI ∧ RV E.w2 E.T2' pin (E.a2.tmps.getD i Go.undef) (AP Q.frI i)
 def2 : E.a2.defers = []
 ro : b.roundOf = some D.l
 kind : b.kind = .normal
 cs : cs = E.b2.atR E.a2 (.inRegion Q.ops (Q.j :: Q.rest) :: Q.kI) :: E.cs2
 dst : (Q.ops[Q.j]?).bind (·.dst) = Q.dst
def Fw (R : CQ) (Q : Jo) (l : Nat) (st : LoopState) (pend : Option Code) : LJ := fun C pin b cs X => ∃ (D : Ik) (E : Q4), D.l = l ∧ PT R Q D E C pin b cs X ∧ C.X = XL R D st pend E.w2 E.T2'
theorem Hg {l : List (Nat × PV)} {i j : Nat} {p : PV} : AP (setF l i p) j = if j = i then p else AP l j := by
 simp only [AP, HY]
 by_cases h : j = i
 ·rw [if_pos h, if_pos h]
 ·rw [if_neg h, if_neg h]
section
variable {P : Program} {G : Nat → Option PV} {fI : Func} {pinsI pinsR : List Nat} {R : CQ} {Q : Jo} {l : Nat} {st : LoopState} {pend : Option Code} {todo : List Item} {d : DS}
theorem WH.Lx (hf : P.funcs[R.fi]? = some fI) (hres : fI.results = #[]) (hst : st ≠ .busy) (hret : JK todo = true) (hw : WM P G R.fn R.pins R.hout R.res ((pend.map Item.code).toList ++ R.k) ⟨R.fr0, d.hp⟩) : WH P G fI pinsI (CJ R l st pend) todo d := by
 intro C pin fb cs X ⟨D, hl, hc, hXe⟩ hX hP hG hN hpin ρ a w hp hs
 subst hP; subst hG; subst hl
 have amb := hs.amb
 rw [hXe] at amb
 obtain ⟨hk, hr, hlo⟩ := amb
 obtain ⟨td, h1⟩ := Jq (P := C.P) (cs := cs) (a := a) (w := w) hc.ro hret
 have hleave : Frame.leaving C.P { fb.atR a td with mode := .returning } w (.returned (.tuple #[])) :=
  ⟨rfl, by show a.defers = []; rw [hs.defers, hc.D0], hc.kind, fI, by show C.P.funcs[fb.fn]? = _; rw [hc.bfn]; exact hf, by simp [results, hres]⟩
 have hend := run_endLoop (P := C.P) hlo hst
 have h2 : Steps C.P (lone { fb.atR a td with mode := .returning } cs w) (lone (D.b1.atR { D.a1 with defers := [{ target := .collected D.r, args := #[] }] } ((pend.map Item.code).toList ++ R.k)) D.cs1 (w.putObj D.l (.loop { FZ R D st pend with state := .exhausted }))) := by
  rw [hc.cs]
  refine .head (step_leave_returned hleave) ?_
  rw [finish_atR_inRangeFunc]
  exact .one (stepR_endRangeFunc hend)
 refine hX _ _ (h1.trans h2) ?_
 have hne : D.r ≠ D.l := fun e => by rw [e, hlo] at hr; cases hr
 have hsim := hs.swap (w' := w.putObj D.l (.loop { FZ R D st pend with state := .exhausted })) (Cells.put hlo rfl) (hs.frame.put hc.l) (nt' := R.fn.ntmps) (D' := [{ target := .collected D.r, args := #[] }]) (X' := fun w _ => w.heap[D.r]? = some (.deferred (some []))) (hX' := fun _ _ _ _ _ ho h => ho _ _ h ⟨(by intro c t f e; cases e), rfl⟩) (fr' := AP R.fr0) (a' := { D.a1 with defers := [{ target := .collected D.r, args := #[] }] }) rfl hc.size (fun i hi => ⟨(hc.fr i hi).1, ((hc.fr i hi).2.keep hk hp)⟩) (by show _ = _; rw [World.putObj_heap_other hne]; exact hr)
 exact hw (C.re _ _ _ _) D.pin1 D.b1 D.cs1 X ⟨hc.ret.1, D.r, rfl, hc.r, fun _ _ h => h, fun a' w' td h => hc.ret.2.2 a' w' td (EP.rt (C := C.re _ _ _ _) ⟨hc.same.P, hc.same.G, hc.same.w0, hc.same.T0, hc.same.M0⟩ h)⟩ hX rfl rfl rfl hc.pin1 ρ _ _ (fun i pl hi => hp i pl (hc.pinE i pl hi)) hsim
theorem WH.begin {fn : Func} {k : List Item} (hw : WH P G fn pinsR (Fw R Q l .busy none) k d) : WH P G fn pinsR (Fw R Q l .ready none) (.beginRound :: k) d := by
 intro C pin fb cs X ⟨D, E, hl, hc, hXe⟩ hX hP hG hN hpin ρ a w hp hs
 subst hP; subst hG; subst hl
 have amb := hs.amb
 rw [hXe] at amb
 obtain ⟨hk, hr, hlo⟩ := amb
 have hbeg := run_beginRound (P := C.P) hlo rfl
 refine hX _ _ (.one (stepR_beginRound hc.ro hbeg)) ?_
 have hne : D.r ≠ D.l := fun e => by rw [e, hlo] at hr; cases hr
 have hC : Cells w (w.putObj D.l (.loop { FZ R D .ready none with state := .busy })) := Cells.put hlo rfl
 have hcl : C.w0.heap.size ≤ D.l := by rw [hc.same.w0]; exact hc.core.l
 have hsim := hs.swap (w' := w.putObj D.l (.loop { FZ R D .ready none with state := .busy })) hC (hs.frame.put hcl) (nt' := C.nt) (D' := []) (X' := XL R D .busy none E.w2 E.T2') (hX' := XL.keep) (fr' := d.st.fr) (a' := a) (by rw [hs.defers, hc.D0]) hs.size hs.fr ⟨hk.trans hC.keeps, by rw [World.putObj_heap_other hne]; exact hr, World.putObj_heap_same (Array.getElem?_eq_some_iff.1 hlo).1⟩
 exact hw (C.re C.nt [] (XL R D .busy none E.w2 E.T2') XL.keep) pin fb cs X ⟨D, E, rfl, { hc with same := ⟨hc.same.P, hc.same.G, hc.same.w0, hc.same.T0, hc.same.M0⟩, D0 := rfl }, rfl⟩ hX rfl rfl hN hpin ρ _ _ hp hsim
theorem WH.roundEnd {fn : Func} (hdst : ∀ i, Q.dst = some i → i < Q.nI) (hnI : Q.nI = fI.ntmps) (hret : JK todo = true) (hw1 : todo = [] → WH P G fI Q.pinsI (CJ R l .ready none) (.inRegion Q.ops Q.rest :: Q.kI) ⟨IU Q.frI Q.dst (.bool true), d.hp⟩)
  (hw2 : todo ≠ [] → WH P G fI Q.pinsI (CJ R l .done (some .ret)) (.inRegion Q.ops Q.rest :: Q.kI) ⟨IU Q.frI Q.dst (.bool false), d.hp⟩) : WH P G fn pinsR (Fw R Q l .busy none) todo d := by
 intro C pin fb cs X ⟨D, E, hl, hc, hXe⟩ hX hP hG hN hpin ρ a w hp hs
 subst hP; subst hG; subst hl
 have amb := hs.amb
 rw [hXe] at amb
 obtain ⟨hk, hr, hlo⟩ := amb
 have hne : D.r ≠ D.l := fun e => by rw [e, hlo] at hr; cases hr
 have hcl : C.w0.heap.size ≤ D.l := by rw [hc.same.w0]; exact hc.core.l
 have hcr : C.w0.heap.size ≤ D.r := by rw [hc.same.w0]; exact hc.core.r
 -- the iterator's frame with the answer t, the record x
 have main : ∀ (t : Bool) (st : LoopState) (pend : Option Code) (x : Loop), x = FZ R D st pend →
   Steps C.P (lone (fb.atR a todo) cs w) (lone (E.b2.atR (E.a2.put Q.dst (.bool t)) (.inRegion Q.ops Q.rest :: Q.kI)) E.cs2 (w.putObj D.l (.loop x))) →
   WH C.P C.G fI Q.pinsI (CJ R D.l st pend) (.inRegion Q.ops Q.rest :: Q.kI) ⟨IU Q.frI Q.dst (.bool t), d.hp⟩ → X (lone (fb.atR a todo) cs w) := by
  intro t st pend x hx hsteps hw
  subst hx
  refine hX _ _ hsteps ?_
  have hC : Cells w (w.putObj D.l (.loop (FZ R D st pend))) := Cells.put hlo rfl
  have hsim := hs.swap (w' := w.putObj D.l (.loop (FZ R D st pend))) hC (hs.frame.put hcl) (nt' := Q.nI) (D' := []) (X' := XL R D st pend D.w1 D.T1) (hX' := XL.keep) (fr' := AP (IU Q.frI Q.dst (.bool t))) (a' := E.a2.put Q.dst (.bool t)) (by
    cases Q.dst <;> exact hc.def2) (by
    cases hd : Q.dst with
    | none => exact hc.size
    | some i => simp [Act.put, hc.size]) (fun i hi => by
    cases hd : Q.dst with
    | none =>
     rw [hd] at hi
     exact ⟨(hc.fr i hi).1, (hc.fr i hi).2.keep hk hp⟩
    | some t0 =>
     rw [hd] at hi
     simp only [IU, Hg] at hi ⊢
     by_cases he : i = t0
     ·subst he
      have hlt := hdst i hd
      rw [if_pos rfl]
      refine ⟨hlt, ?_⟩
      have : (E.a2.put (some i) (.bool t)).tmps.getD i Go.undef = .bool t := by
       have hs := hc.size
       simp [Act.put, Array.getD, hs, hlt]
      rw [this]
      exact RV.Ap rfl (fun _ e => by cases e) trivial (by simp only [RO]; exact .bool t)
     ·rw [if_neg he] at hi ⊢
      refine ⟨(hc.fr i hi).1, ?_⟩
      have : (E.a2.put (some t0) (.bool t)).tmps.getD i Go.undef = E.a2.tmps.getD i Go.undef := by
       have hne : t0 ≠ i := fun e => he e.symm
       simp [Act.put, Array.getD_eq_getD_getElem?, Array.getElem?_setIfInBounds_ne hne]
      rw [this]
      exact (hc.fr i hi).2.keep hk hp) ⟨(hc.keeps.trans hk).trans hC.keeps, by rw [World.putObj_heap_other hne]; exact hr, World.putObj_heap_same (Array.getElem?_eq_some_iff.1 hlo).1⟩
  exact hw (C.re Q.nI [] (XL R D st pend D.w1 D.T1) XL.keep) E.pin2 E.b2 E.cs2 X ⟨D, rfl, { hc.core with same := ⟨hc.same.P.trans hc.core.same.P, hc.same.G.trans hc.core.same.G, hc.same.w0.trans hc.core.same.w0, hc.same.T0.trans hc.core.same.T0, hc.same.M0.trans hc.core.same.M0⟩, r := hcr, l := hcl, D0 := rfl }, rfl⟩ hX rfl rfl hnI hc.pin2 ρ _ _ (fun i pl hi => hp i pl (hc.pinE i pl hi)) hsim
 unfold JK at hret
 split at hret
 ·refine main true .ready none _ rfl ?_ (hw1 rfl)
  rw [hc.cs]
  have hst := stepR_round_end (b := fb) (a := a) (c := E.b2.atR E.a2 (.inRegion Q.ops (Q.j :: Q.rest) :: Q.kI)) (cs := E.cs2) (w := w) hc.ro hc.kind (run_endRound (P := C.P) none hlo)
  rw [Frame.finish_atR, hc.dst] at hst
  exact .one hst
 ·refine main false .done (some .ret) _ rfl ?_ (hw2 (by intro e; cases e))
  rw [hc.cs]
  rename_i k
  have hst := stepR_round_ret (b := fb) (a := a) (k := k) (c := E.b2.atR E.a2 (.inRegion Q.ops (Q.j :: Q.rest) :: Q.kI)) (cs := E.cs2) (w := w) hc.ro hc.kind (run_endRound (P := C.P) (some .ret) hlo)
  rw [Frame.finish_atR, hc.dst] at hst
  exact .one hst
 ·cases hret
end
end Go.Pe
namespace Go.Pe
def Mq : List (Nat × PV) → List Nat → List PV → List (Nat × PV)
 | fr, t :: ts, p :: ps => Mq (setF fr t p) ts ps
 | fr, _, _ => fr
theorem Ou {w : World} {T : T2} {ρ : Pls} {nt : Nat} : ∀ (ts : List Nat) (ps : List PV) (vs : List Value) (tm : Array Value) (fr : List (Nat × PV)), ts.length = ps.length → vs.length = ps.length → tm.size = nt →
  (∀ i, AP fr i ≠ .undef → i < nt ∧ RV w T ρ (tm.getD i Go.undef) (AP fr i)) → (∀ t ∈ ts, t < nt) → (∀ (j : Nat) (p : PV) (v : Value), ps[j]? = some p → vs[j]? = some v → RV w T ρ v p) →
  ((ts.zip vs).foldl (fun (tmps : Array Value) (x : Nat × Value) => tmps.setIfInBounds x.1 x.2) tm).size = nt ∧
   ∀ i, AP (Mq fr ts ps) i ≠ .undef → i < nt ∧ RV w T ρ (((ts.zip vs).foldl (fun (tmps : Array Value) (x : Nat × Value) => tmps.setIfInBounds x.1 x.2) tm).getD i Go.undef) (AP (Mq fr ts ps) i)
 | [], ps, vs, tm, fr, h1, h2, h3, h4, _, _ => by
  cases ps with
  | nil =>
   simp only [List.zip_nil_left, List.foldl_nil, Mq]
   exact ⟨h3, h4⟩
  | cons p ps => simp at h1
 | t :: ts, [], vs, tm, fr, h1, _, _, _, _, _ => by simp at h1
 | t :: ts, p :: ps, [], tm, fr, _, h2, _, _, _, _ => by simp at h2
 | t :: ts, p :: ps, v :: vs, tm, fr, h1, h2, h3, h4, h5, h6 => by
  simp only [List.zip_cons_cons, List.foldl_cons, Mq]
  refine Ou ts ps vs _ _ (by simpa using h1) (by simpa using h2) (by simp [h3]) (fun i hi => ?_) (fun x hx => h5 x (by simp [hx])) (fun j p v hp hv => h6 (j + 1) p v (by simpa using hp) (by simpa using hv))
  rw [Hg] at hi ⊢
  by_cases he : i = t
  ·subst he
   have hlt := h5 i (by simp)
   rw [if_pos rfl]
   refine ⟨hlt, ?_⟩
   have : (tm.setIfInBounds i v).getD i Go.undef = v := by simp [Array.getD, h3, hlt]
   rw [this]
   exact h6 0 p v rfl rfl
  ·rw [if_neg he] at hi ⊢
   refine ⟨(h4 i hi).1, ?_⟩
   have : (tm.setIfInBounds t v).getD i Go.undef = tm.getD i Go.undef := by
    have hne : t ≠ i := fun e => he e.symm
    simp [Array.getD_eq_getD_getElem?, Array.getElem?_setIfInBounds_ne hne]
   rw [this]
   exact (h4 i hi).2
theorem JA {pins : List Nat} {fr0 : List (Nat × PV)} (h : K4 pins fr0 = true) {i : Nat} (hi : AP fr0 i ≠ .undef) : Kc pins (AP fr0 i) = true := by
 cases hp : Ab fr0 i with
 | none => exact absurd (by simp only [AP, hp]) hi
 | some p =>
  have : AP fr0 i = p := by simp only [AP, hp]
  rw [this]
  exact List.all_eq_true.1 h _ (Ak hp)
section
variable {P : Program} {G : Nat → Option PV} {fI : Func} {pinsI pinsR : List Nat} {R : CQ} {Q : Jo} {d : DS}
theorem W.range {cI : Code} {g : Nat} (args : Nat → List PV)
  (hval : ∀ (C : Ctx) (F : Nat → Prop) (ρ : Pls) (a : Act) (w : World), Ac C F ρ d.st a w → ∃ first caps : Array Value, a.eval (.tmp g) = .func (.func R.fi) first caps ∧ ∀ l, (first ++ #[Value.func (.yield l) #[] #[]] ++ caps).size = (args l).length ∧
   ∀ (j : Nat) (p : PV) (v : Value), (args l)[j]? = some p → (first ++ #[Value.func (.yield l) #[] #[]] ++ caps)[j]? = some v → p ≠ .undef → RV w (Tc C ρ d.st.hp) ρ v p)
  (hf : P.funcs[R.fi]? = some fI) (hb : fI.body = some cI) (hn : (fI.name == "runtime.NumGoroutine") = false) (hlen : ∀ l, (args l).length ≤ fI.ntmps)
  (hpi : subB R.pins pinsI = true) (hkeep : K4 pinsI R.fr0 = true) (hsl : BH R.fr0 d.fr)
  (hw : ∀ l, WH P G fI pinsI (CJ R l .ready none) [.code cI] ⟨GJ 0 (args l), d.hp⟩) :
  W P G R.fn R.pins R.hout R.res (.code (.rangeFunc (.tmp g) R.ps R.asn R.body) :: R.k) d := by
 intro C pin fb cs X hH hX hP hG hN hpin ρ a w hp hs
 subst hP; subst hG
 obtain ⟨first, caps, hev, hargs⟩ := hval C _ ρ a w hs
 obtain ⟨hsz, hrel⟩ := hargs (w.heap.size + 1)
 let D : Ik := ⟨C, pin, fb, cs, a, w, Tc C ρ d.st.hp, w.heap.size, w.heap.size + 1⟩
 let w2 : World := (w.alloc (.deferred (some []))).alloc (.loop (FZ R D .ready none))
 have he : (Instr.enterLoop fb.fn a.tmps R.ps R.asn R.body fb.roundOf).run C.P w = .ok (w.heap.size + 1, [{ target := .collected w.heap.size, args := #[] }]) w2 := by
  rw [hH.1]; exact run_enterLoop_outer fb.fn a.tmps R.ps R.asn R.body
 have hres : (resolve a.eval (rangeCall (.tmp g) (w.heap.size + 1)) 0).run C.P w2 = .ok { target := .fn (.func R.fi) caps, args := first ++ #[Value.func (.yield (w.heap.size + 1)) #[] #[]] } w2 := by
  simp only [resolve, hev, Deferred.ofValue, List.map_toArray, List.map_cons, List.map_nil]
  rfl
 have hn' : fI.name ≠ "runtime.NumGoroutine" := by simpa using hn
 have hinv : ∀ vs0 : Array Value, (invoke (.fn (.func R.fi) caps) vs0).run C.P w2 = .ok (.enter R.fi (vs0 ++ caps)) w2 := by
  intro vs0
  simp [invoke, callFunc, hf, hn', hb]
 have hstep := stepR_rangeFunc (b := fb) (a := a) (k := R.k) (cs := cs) he hres (hinv _)
 generalize hvs : first ++ #[Value.func (.yield (w.heap.size + 1)) #[] #[]] ++ caps = vs at hsz hrel hstep
 let bI : Frame := { (default : Frame) with fn := R.fi, kind := .normal }
 have henter : Frame.enter C.P R.fi vs .normal = bI.atR { tmps := vs ++ Array.replicate (fI.ntmps - vs.size) Go.undef, defers := [] } [.code cI] := by
  simp [Frame.enter, Frame.atR, hf, hb, bI]
  rfl
 rw [henter] at hstep
 have hdef : a.defers = [] := by rw [hs.defers, hH.2.1]
 simp only [hdef, List.append_nil] at hstep
 refine hX _ _ (.one hstep) ?_
 have hC : Cells w w2 := (Cells.alloc _).trans (Cells.alloc _)
 have hlen' : vs.size ≤ fI.ntmps := by rw [hsz]; exact hlen _
 have hsim := hs.swap (w' := w2) hC ((hs.frame.alloc' _).alloc' _) (nt' := fI.ntmps) (D' := []) (X' := XL R D .ready none w (Tc C ρ d.st.hp)) (hX' := XL.keep) (fr' := AP (GJ 0 (args (w.heap.size + 1)))) (a' := { tmps := vs ++ Array.replicate (fI.ntmps - vs.size) Go.undef, defers := [] }) rfl (by simp; omega) (fun t ht => by
   have hlook : Ab (GJ 0 (args (w.heap.size + 1))) t = (args (w.heap.size + 1))[t]? := by rw [Jh]; simp
   unfold AP at ht ⊢
   rw [hlook] at ht ⊢
   cases hp : (args (w.heap.size + 1))[t]? with
   | none => rw [hp] at ht; exact absurd rfl ht
   | some p =>
    rw [hp] at ht
    simp only at ht ⊢
    have hlt : t < vs.size := by rw [hsz]; exact (List.getElem?_eq_some_iff.1 hp).1
    refine ⟨by omega, ?_⟩
    have : (vs ++ Array.replicate (fI.ntmps - vs.size) Go.undef).getD t Go.undef = vs[t] := by
     simp [Array.getD, hlt]
     intro hx
     omega
    rw [this]
    exact hrel t p vs[t] hp (Array.getElem?_eq_getElem hlt) ht) ⟨hC.keeps, by
     show w2.heap[w.heap.size]? = _
     rw [alloc_old (w.alloc (.deferred (some []))) _ (by simp)]
     exact DX w _, by
     show w2.heap[w.heap.size + 1]? = _
     have := DX (w.alloc (.deferred (some []))) (.loop (FZ R D .ready none))
     rw [World.size_alloc] at this
     exact this⟩
 refine hw _ (C.re fI.ntmps [] (XL R D .ready none w (Tc C ρ d.st.hp)) XL.keep) (FY pinsI ρ) bI _ X ⟨D, rfl, ⟨hH, ⟨rfl, rfl, rfl, rfl, rfl⟩, hpin, fun i pl hi => ?_, hs.size.trans hN, fun i hi => ?_, hs.frame.size, Nat.le_succ_of_le hs.frame.size, rfl, rfl, rfl, rfl, rfl⟩, rfl⟩ hX rfl rfl rfl KG ρ _ _ Lc hsim
 ·have hi : pin i = some pl := hi
  simp only [FY, Bo.2 (K8 hpi i (hpin i (by intro e; rw [e] at hi; cases hi))), if_true]
  exact hp i pl hi
 ·have h1 := hsl i hi
  have h2 := JA hkeep hi
  rw [h1] at hi h2 ⊢
  have h3 := hs.fr i hi
  exact ⟨by rw [← hN]; exact h3.1, h3.2.pinned h2⟩
theorem W.rangeFn {cI : Code} {g id : Nat} (hg : AP d.fr g = .fn R.fi id)
  (hf : P.funcs[R.fi]? = some fI) (hb : fI.body = some cI) (hn : (fI.name == "runtime.NumGoroutine") = false) (hlen : (Nat.ble 2 fI.ntmps && !Nat.beq R.fi 1000000) = true)
  (hpi : subB R.pins pinsI = true) (hkeep : K4 pinsI R.fr0 = true) (hsl : BH R.fr0 d.fr)
  (hw : ∀ l, WH P G fI pinsI (CJ R l .ready none) [.code cI] ⟨[(0, .fv (.func (.yield l) #[] #[])), (1, .at id [])], d.hp⟩) :
  W P G R.fn R.pins R.hout R.res (.code (.rangeFunc (.tmp g) R.ps R.asn R.body) :: R.k) d :=
 W.range (fun l => [.fv (.func (.yield l) #[] #[]), .at id []]) (fun C F ρ a w hs => by
  have h1 := hs.fr g (by show AP d.fr g ≠ _; rw [hg]; intro e; cases e)
  have h2 : RV w (Tc C ρ d.st.hp) ρ (a.tmps.getD g Go.undef) (.fn R.fi id) := by rw [← hg]; exact h1.2
  obtain ⟨pl, p1, p2⟩ := h2.AJ rfl (fun _ e => by cases e)
  simp only [Bool.and_eq_true, Bool.not_eq_true'] at hlen
  rw [Kv, if_neg (by rw [hlen.2]; exact Bool.false_ne_true)] at p2
  refine ⟨#[], #[.pointer (some ⟨pl.g, pl.off, none⟩)], p2, fun l => ⟨rfl, fun j p v hp hv _ => ?_⟩⟩
  match j, hp, hv with
  | 0, hp, hv =>
   simp at hp hv
   subst hp; subst hv
   exact RV.Ap rfl (fun _ e => by cases e) trivial (by simp only [RO]; exact .fv _ rfl)
  | 1, hp, hv =>
   simp at hp hv
   subst hp; subst hv
   exact RV.Ap rfl (fun _ e => by cases e) trivial ⟨pl, p1, by simp [Af]⟩
  | j + 2, hp, _ => simp at hp) hf hb hn (fun _ => Nat.le_of_ble_eq_true (by simp only [Bool.and_eq_true] at hlen; exact hlen.1)) hpi hkeep hsl hw
theorem WH.yield {l : Nat} {o : Oper} {c : Call} {y : Nat} {args : List PV} (ho : Q.ops[Q.j]? = some o) (hop : o.op = .call c) (hcal : c.callee = .value (.tmp y)) (hy : AP d.fr y = .fv (.func (.yield l) #[] #[]))
  (hwant : Gw Q.ops o d.st.fr = some true) (hdB : LC fI.ntmps Q.ops = true) (hargs : c.args.toList.map (fun x => evO P G 0 d.st.fr x) = args) (hgood : args.all good = true) (hps : R.ps.toList.length = args.length)
  (hpsB : R.ps.toList.all (fun i => Nat.blt i R.fn.ntmps) = true) (hnI : Q.nI = fI.ntmps) (hdst : o.dst = Q.dst) (hpi : subB Q.pinsI pinsR = true) (hkeep : K4 pinsR Q.frI = true) (hsl : BH Q.frI d.fr)
  (hw : WH P G R.fn pinsR (Fw R Q l .ready none) [.code R.asn, .beginRound, .code R.body] ⟨Mq R.fr0 R.ps.toList args, d.hp⟩) :
  WH P G fI Q.pinsI (CJ R l .ready none) (.inRegion Q.ops (Q.j :: Q.rest) :: Q.kI) d := by
 intro C pin fb cs X ⟨D, hl, hc, hXe⟩ hX hP hG hN hpin ρ a w hp hs
 subst hP; subst hG; subst hl
 have amb := hs.amb
 rw [hXe] at amb
 obtain ⟨hk, hr, hlo⟩ := amb
 have hyv : a.eval (.tmp y) = .func (.yield D.l) #[] #[] := by
  have h1 := (hs.fr y (by show AP d.fr y ≠ _; rw [hy]; intro e; cases e)).2
  have h2 : RV w (Tc C ρ d.st.hp) ρ (a.tmps.getD y Go.undef) (.fv (.func (.yield D.l) #[] #[])) := by rw [← hy]; exact h1
  have h3 := h2.AJ rfl (fun _ e => by cases e)
  simp only [RO] at h3
  show a.tmps.getD y Go.undef = _
  generalize a.tmps.getD y Go.undef = v0 at h3 ⊢
  cases h3
  rfl
 have hlenA : (c.args.map a.eval).size = args.length := by rw [← hargs]; simp
 have hvals : ∀ (j : Nat) (p : PV) (v : Value), args[j]? = some p → (c.args.toList.map a.eval)[j]? = some v → RV w (Tc C ρ d.st.hp) ρ v p := by
  intro j p v hp' hv
  rw [← hargs, List.getElem?_map] at hp'
  rw [List.getElem?_map] at hv
  cases hx : c.args.toList[j]? with
  | none => rw [hx] at hp'; cases hp'
  | some x =>
   rw [hx] at hp' hv
   simp only [Option.map_some, Option.some.injEq] at hp' hv
   subst hp'; subst hv
   refine AA hs 0 x fun e => ?_
   have hg := List.all_eq_true.1 hgood (evO C.P C.G 0 d.st.fr x) (by rw [← hargs]; exact List.mem_map.2 ⟨x, List.mem_of_getElem? hx, rfl⟩)
   rw [e] at hg
   simp [good, BG] at hg
 have hrun : (execOp a.eval o).run C.P w = .ok (.round D.l D.b1.fn ((R.ps.zip (c.args.map a.eval)).foldl (fun tmps (t, a) => tmps.setIfInBounds t a) D.a1.tmps) R.asn R.body) w := by
  have hy1 := run_yield (P := C.P) (args := c.args.map a.eval) hlo (by show _ = R.ps.size; rw [hlenA, ← hps]; simp)
  have h2 : (execOp a.eval o).run C.P w = (Instr.yield D.l (c.args.map a.eval)).run C.P w := by
   simp [execOp, hop, resolve, hcal, Deferred.ofValue, invoke, hyv]
  rw [h2]
  exact hy1
 have hwanted := Ew hs hwant (FK (by rw [hN]; exact hdB))
 have hg := stepGR_op (P := C.P) (b := fb) (a := a) (k := Q.kI) (cs := cs) (w := w) (rest := Q.rest) ho hwanted
 rw [hc.ro, Oper.semAt_none] at hg
 have hstep : step C.P (lone (fb.atR a (.inRegion Q.ops (Q.j :: Q.rest) :: Q.kI)) cs w) =
   .next (lone (Frame.round D.l D.b1.fn ((R.ps.zip (c.args.map a.eval)).foldl (fun tmps (t, a) => tmps.setIfInBounds t a) D.a1.tmps) R.asn R.body .normal) (fb.atR a (.inRegion Q.ops (Q.j :: Q.rest) :: Q.kI) :: cs) w) :=
  step_lone_go (by rw [hg]; simp [stepG.apply, hrun, Frame.atR])
 refine hX _ _ (.one hstep) ?_
 let bR : Frame := { (default : Frame) with fn := D.b1.fn, kind := .normal, roundOf := some D.l }
 generalize htm : (R.ps.zip (c.args.map a.eval)).foldl (fun tmps (t, a) => tmps.setIfInBounds t a) D.a1.tmps = tm
 have hround : Frame.round D.l D.b1.fn tm R.asn R.body .normal = bR.atR { tmps := tm, defers := [] } [.code R.asn, .beginRound, .code R.body] := by
  simp [Frame.round, Frame.atR, bR]
 rw [hround]
 have htm' : tm = (R.ps.toList.zip (c.args.toList.map a.eval)).foldl (fun (tmps : Array Value) (x : Nat × Value) => tmps.setIfInBounds x.1 x.2) D.a1.tmps := by
  rw [← htm, ← Array.foldl_toList, Array.toList_zip, Array.toList_map]
 have hpar := Ou (w := w) (T := Tc C ρ d.st.hp) (ρ := ρ) R.ps.toList args (c.args.toList.map a.eval) D.a1.tmps R.fr0 hps (by rw [← hargs]; simp) hc.size (fun i hi => ⟨(hc.fr i hi).1, (hc.fr i hi).2.keep hk hp⟩) (fun t ht => Nat.blt_eq ▸ List.all_eq_true.1 hpsB t ht) hvals
 rw [← htm'] at hpar
 have hCr : Cells w w := fun _ _ h _ => h
 have hsim := hs.swap (w' := w) hCr hs.frame (nt' := R.fn.ntmps) (D' := []) (X' := XL R D .ready none w (Tc C ρ d.st.hp)) (hX' := XL.keep) (fr' := AP (Mq R.fr0 R.ps.toList args)) (a' := { tmps := tm, defers := [] }) rfl hpar.1 hpar.2 ⟨Ay.refl _ _, hr, hlo⟩
 refine hw (C.re R.fn.ntmps [] (XL R D .ready none w (Tc C ρ d.st.hp)) XL.keep) (FY pinsR ρ) bR _ X ⟨D, ⟨C, pin, fb, cs, a, w, Tc C ρ d.st.hp⟩, rfl, ⟨hc, hpin, hk, ⟨rfl, rfl, rfl, rfl, rfl⟩, rfl, fun i pl hi => ?_, (hs.size.trans hN).trans hnI.symm, fun i hi => ?_, hs.defers.trans hc.D0, rfl, rfl, rfl, ?_⟩, rfl⟩ hX rfl rfl rfl KG ρ _ _ Lc hsim
 ·have hi : pin i = some pl := hi
  simp only [FY, Bo.2 (K8 hpi i (hpin i (by intro e; rw [e] at hi; cases hi))), if_true]
  exact hp i pl hi
 ·have h1 := hsl i hi
  have h2 := JA hkeep hi
  rw [h1] at hi h2 ⊢
  have h3 := hs.fr i hi
  exact ⟨by rw [hnI, ← hN]; exact h3.1, h3.2.pinned h2⟩
 ·rw [ho]; exact hdst
theorem WH.skip {fn : Func} {pins : List Nat} {H : LJ} {ops : Array Oper} {j : Nat} {rest : List Nat} {k : List Item} {o : Oper} (ho : ops[j]? = some o) (hwant : Gw ops o d.st.fr = some false) (hdB : LC fn.ntmps ops = true)
  (hw : WH P G fn pins H (.inRegion ops rest :: k) ⟨IU d.fr o.dst (.tup []), d.hp⟩) : WH P G fn pins H (.inRegion ops (j :: rest) :: k) d := by
 intro C pin fb cs X hH hX hP hG hN hpin ρ a w hp hs
 subst hP; subst hG
 have hd := FK (nt := C.nt) (by rw [hN]; exact hdB)
 have hwanted := Ew hs hwant hd
 have h1 := stepR_op_skip (P := C.P) (b := fb) (a := a) (k := k) (cs := cs) (w := w) (ops := ops) (i := j) (rest := rest) (by simp [ho, hwanted])
 simp only [ho, Option.bind_some] at h1
 refine hX _ _ (.one h1) (hw C pin fb cs X hH hX rfl rfl hN hpin ρ _ _ hp ?_)
 have h2 := Ac.put hs (dst := o.dst) (v := Go.undef) (p := .tup []) (fun i hi => hd j o i ho hi) fun _ => by
  refine ⟨by simp [WF, WFL], #[], rfl, rfl, fun j q u hq hu => ?_⟩
  simp at hq
 have h3 : (DS.mk (IU d.fr o.dst (.tup [])) d.hp).st = d.st.put o.dst (.tup []) := by
  cases hdst : o.dst with
  | none => rfl
  | some i =>
   simp only [IU, DS.st, St.put, St.mk.injEq, and_true]
   funext j
   simp only [Hg]
 rw [h3]
 exact h2
end
end Go.Pe
namespace Go.Pe
def ES (fn : Func) : Code := match fn.body with
 | some c => c
 | none => .skip
def Fy : Code → List Item → List (List Item)
 | .seq x y, k => Fy x (.code y :: k) ++ Fy y k
 | .cond _ x y, k => Fy x k ++ Fy y k
 | .block id c, k => Fy c (.inBlock id :: k)
 | .loop c, k => (.code c :: .inLoop c :: k) :: Fy c (.inLoop c :: k)
 | _, _ => []
def nthL : Nat → List (List Item) → List Item
 | _, [] => []
 | 0, x :: _ => x
 | n + 1, _ :: l => nthL n l
def Gm : Code → List Item → List (List Item)
 | .seq x y, k => Gm x (.code y :: k) ++ Gm y k
 | .cond _ x y, k => Gm x k ++ Gm y k
 | .block id c, k => Gm c (.inBlock id :: k)
 | .loop c, k => Gm c (.inLoop c :: k)
 | .rangeFunc g ps x y, k => [.code (.rangeFunc g ps x y) :: k]
 | .region _ ops draw, k => match ND ops draw 0 [] with
  | some j => [.inRegion ops (List.range' j (ops.size - j)) :: k]
  | none => []
 | _, _ => []
def Ah (fn : Func) (n : Nat) : List Item := nthL n (Gm (ES fn) [])
def rgPs : List Item → Array Tmp | .code (.rangeFunc _ ps _ _) :: _ => ps | _ => #[]
def rgAsn : List Item → Code | .code (.rangeFunc _ _ x _) :: _ => x | _ => .skip
def EW : List Item → Code | .code (.rangeFunc _ _ _ y) :: _ => y | _ => .skip
def rgK : List Item → List Item | _ :: k => k | _ => []
def rgOps : List Item → Array Oper | .inRegion ops _ :: _ => ops | _ => #[]
def rgJ : List Item → Nat | .inRegion _ (j :: _) :: _ => j | _ => 0
def Ga : List Item → List Nat | .inRegion _ (_ :: l) :: _ => l | _ => []
def Lf (t : List Item) : Option Tmp := ((rgOps t)[rgJ t]?).bind (·.dst)
def CZ (fn : Func) (n : Nat) (hout : List (Nat × Row)) (res : PV) (pins : List Nat) (fr0 : List (Nat × PV)) (fi : FuncId) : CQ :=
 ⟨fn, hout, res, pins, fr0, rgPs (Ah fn n), rgAsn (Ah fn n), EW (Ah fn n), rgK (Ah fn n), fi⟩
def roundOf (fI : Func) (n : Nat) (pinsI : List Nat) (frI : List (Nat × PV)) : Jo :=
 ⟨fI.ntmps, pinsI, frI, rgOps (Ah fI n), rgJ (Ah fI n), Ga (Ah fI n), rgK (Ah fI n), Lf (Ah fI n)⟩
def Qv (P : Program) (G : Nat → Option PV) (nt : Nat) (t : List Item) (d : DS) : Option (PV × List PV) := match (rgOps t)[rgJ t]? with
 | some o => (match o.op with
  | .call c => (match c.callee with
   | .value (.tmp y) => (match Gw (rgOps t) o d.st.fr with
    | some true => if LC nt (rgOps t) && (c.args.toList.map (fun x => evO P G 0 d.st.fr x)).all good then some (AP d.fr y, c.args.toList.map (fun x => evO P G 0 d.st.fr x)) else none
    | _ => none)
   | _ => none)
  | _ => none)
 | none => none
def fitB (ps : List Nat) (args : List PV) (nt : Nat) : Bool := Nat.beq ps.length args.length && ps.all fun i => Nat.blt i nt
theorem WH.Er {P : Program} {G : Nat → Option PV} {fI : Func} {n : Nat} {pinsI pinsR : List Nat} {frI : List (Nat × PV)} {R : CQ} {l : Nat} {d : DS} {args : List PV} (ht : Ah fI n = .inRegion (rgOps (Ah fI n)) (rgJ (Ah fI n) :: Ga (Ah fI n)) :: rgK (Ah fI n))
  (hy : Qv P G fI.ntmps (Ah fI n) d = some (.fv (.func (.yield l) #[] #[]), args)) (hfit : fitB R.ps.toList args R.fn.ntmps = true) (hpi : subB pinsI pinsR = true) (hkeep : K4 pinsR frI = true) (hsl : BH frI d.fr)
  (hw : WH P G R.fn pinsR (Fw R (roundOf fI n pinsI frI) l .ready none) [.code R.asn, .beginRound, .code R.body] ⟨Mq R.fr0 R.ps.toList args, d.hp⟩) :
  WH P G fI pinsI (CJ R l .ready none) (Ah fI n) d := by
 rw [ht]
 unfold Qv at hy
 simp only [fitB, Bool.and_eq_true] at hfit
 split at hy
 ·rename_i o ho
  split at hy
  ·rename_i c hc
   split at hy
   ·rename_i y hcal
    split at hy
    ·rename_i hwant
     split at hy
     ·rename_i hb
      simp only [Bool.and_eq_true] at hb
      simp only [Option.some.injEq, Prod.mk.injEq] at hy
      exact WH.yield (Q := roundOf fI n pinsI frI) ho hc hcal hy.1 hwant hb.1 hy.2 (by rw [← hy.2]; exact hb.2) (Nat.eq_of_beq_eq_true hfit.1) hfit.2 rfl (by simp [roundOf, Lf, ho]) hpi hkeep hsl hw
     ·cases hy
    ·cases hy
   ·cases hy
  ·cases hy
 ·cases hy
def NU (fr : List (Nat × PV)) : List (Nat × PV) → Prop
 | [] => True
 | x :: l => AP fr x.1 = x.2 ∧ NU fr l
theorem BH.ofL {fr fr0 : List (Nat × PV)} (h : NU fr fr0) : BH fr0 fr := by
 intro i hi
 cases hp : Ab fr0 i with
 | none => exact absurd (by simp only [AP, hp]) hi
 | some p =>
  have e : AP fr0 i = p := by simp only [AP, hp]
  have : ∀ l : List (Nat × PV), NU fr l → ∀ x ∈ l, AP fr x.1 = x.2 := by
   intro l
   induction l with
   | nil => intro _ x hx; cases hx
   | cons y l ih =>
    intro hl x hx
    rcases List.mem_cons.1 hx with rfl | hx
    ·exact hl.1
    ·exact ih hl.2 x hx
  rw [e]
  exact (this fr0 h _ (Ak hp)).symm
theorem BH.refl (fr : List (Nat × PV)) : BH fr fr := fun _ _ => rfl
theorem W.KA {P : Program} {G : Nat → Option PV} {fn fI : Func} {n : Nat} {pins pinsI : List Nat} {hout : List (Nat × Row)} {res : PV} {fi g id : Nat} {d : DS} (ht : Ah fn n = .code (.rangeFunc (.tmp g) (rgPs (Ah fn n)) (rgAsn (Ah fn n)) (EW (Ah fn n))) :: rgK (Ah fn n))
  (fr0 : List (Nat × PV)) (hg : AP d.fr g = .fn fi id) (hf : P.funcs[fi]? = some fI) (hb : fI.body.isSome = true) (hn : (fI.name == "runtime.NumGoroutine") = false) (hlen : (Nat.ble 2 fI.ntmps && !Nat.beq fi 1000000) = true)
  (hpi : subB pins pinsI = true) (hkeep : K4 pinsI fr0 = true) (hsl : BH fr0 d.fr)
  (hw : ∀ l, WH P G fI pinsI (CJ (CZ fn n hout res pins fr0 fi) l .ready none) [.code (ES fI)] ⟨[(0, .fv (.func (.yield l) #[] #[])), (1, .at id [])], d.hp⟩) :
  W P G fn pins hout res (Ah fn n) d := by
 rw [ht]
 obtain ⟨cI, hcI⟩ := Option.isSome_iff_exists.1 hb
 have : ES fI = cI := by simp [ES, hcI]
 rw [this] at hw
 exact W.rangeFn (R := CZ fn n hout res pins fr0 fi) hg hf hcI hn hlen hpi hkeep hsl hw
def Js : Code → List Item → List (List Item)
 | .seq x y, k => Js x (.code y :: k) ++ Js y k
 | .cond _ x y, k => Js x k ++ Js y k
 | .block id c, k => Js c (.inBlock id :: k)
 | .loop c, k => Js c (.inLoop c :: k)
 | .ret, k => [.code .ret :: k]
 | _, _ => []
def retIn (c : Code) (n : Nat) : List Item := nthL n (Js c [])
def Qw : List Item → Bool
 | .code .ret :: _ => true
 | _ => false
def dstIn (d : Option Tmp) (nt : Nat) : Bool := match d with
 | some i => Nat.blt i nt
 | none => true
theorem Ka {d : Option Tmp} {nt : Nat} (h : dstIn d nt = true) : ∀ i, d = some i → i < nt := by
 intro i hi
 subst hi
 exact Nat.blt_eq ▸ h
section
variable {P : Program} {G : Nat → Option PV} {fn fI : Func} {n l : Nat} {pinsI pinsR : List Nat} {frI : List (Nat × PV)} {R : CQ} {d : DS}
theorem WH.Dz (hdst : dstIn (Lf (Ah fI n)) fI.ntmps = true) (hw : WH P G fI pinsI (CJ R l .ready none) (.inRegion (rgOps (Ah fI n)) (Ga (Ah fI n)) :: rgK (Ah fI n)) ⟨IU frI (Lf (Ah fI n)) (.bool true), d.hp⟩) :
  WH P G fn pinsR (Fw R (roundOf fI n pinsI frI) l .busy none) [] d :=
 WH.roundEnd (Q := roundOf fI n pinsI frI) (Ka hdst) rfl rfl (fun _ => hw) fun h => absurd rfl h
theorem WH.PX {k : List Item} (hk : Qw k = true) (hdst : dstIn (Lf (Ah fI n)) fI.ntmps = true) (hw : WH P G fI pinsI (CJ R l .done (some .ret)) (.inRegion (rgOps (Ah fI n)) (Ga (Ah fI n)) :: rgK (Ah fI n)) ⟨IU frI (Lf (Ah fI n)) (.bool false), d.hp⟩) :
  WH P G fn pinsR (Fw R (roundOf fI n pinsI frI) l .busy none) k d := by
 unfold Qw at hk
 split at hk
 ·exact WH.roundEnd (Q := roundOf fI n pinsI frI) (Ka hdst) rfl rfl (fun h => by cases h) fun _ => hw
 ·cases hk
end
def Ad (fn : Func) (n : Nat) : List Item := nthL n (Fy (ES fn) [])
def Np (c : Code) (n : Nat) : List Item := nthL n (Fy c [])
theorem Dw {e e' : Int} (h : e = e') (h1 : -9223372036854775808 ≤ e') (h2 : e' ≤ 9223372036854775807) : IntKind.i64.wrap e = e' := by subst h; rw [Au]; exact ⟨h1, h2⟩
theorem BC {e e' : Int} (h : e = e') (h1 : 0 ≤ e') (h2 : e' ≤ 18446744073709551615) : IntKind.u64.wrap e = e' := by subst h; rw [Au]; exact ⟨h1, h2⟩
theorem w_u32 {e e' : Int} (h : e = e') (h1 : 0 ≤ e') (h2 : e' ≤ 4294967295) : IntKind.u32.wrap e = e' := by subst h; rw [Au]; exact ⟨h1, h2⟩
theorem pow_min {a s b : Nat} (h : a < 2 ^ b) : a / 2 ^ (min s b) = a / 2 ^ s := by
 by_cases hs : s ≤ b
 ·rw [Nat.min_eq_left hs]
 ·rw [Nat.min_eq_right (by omega), Nat.div_eq_of_lt h, Nat.div_eq_of_lt (Nat.lt_of_lt_of_le h (Nat.pow_le_pow_right (by omega) (by omega)))]
theorem OJ {x y : Int} {a s b : Nat} (hx : x = a) (hy : y = s) (h : a < 2 ^ b) : x.fdiv (2 ^ (min y.toNat b)) = ((a / 2 ^ s : Nat) : Int) := by
 subst hx; subst hy
 rw [Int.toNat_natCast, Int.fdiv_eq_ediv_of_nonneg _ (Int.pow_nonneg (by omega)), ← pow_min h]
 rw [Int.natCast_ediv, Int.natCast_pow]
 rfl
theorem OU (a s b : Nat) : a * 2 ^ (min s b) % 2 ^ b = a * 2 ^ s % 2 ^ b := by
 by_cases hs : s ≤ b
 ·rw [Nat.min_eq_left hs]
 ·rw [Nat.min_eq_right (by omega), Nat.mul_mod_left]
  obtain ⟨d, rfl⟩ : ∃ d, s = b + d := ⟨s - b, by omega⟩
  rw [Nat.pow_add, ← Nat.mul_assoc, Nat.mul_right_comm, Nat.mul_mod_left]
theorem wm_u8 {e : Int} {n : Nat} (h : e = n) : IntKind.u8.wrap e = ((n % 256 : Nat) : Int) := by subst h; simp [IntKind.wrap, IntKind.bits, IntKind.signed]
theorem CO {e : Int} {n : Nat} (h : e = n) : IntKind.u32.wrap e = ((n % 4294967296 : Nat) : Int) := by subst h; simp [IntKind.wrap, IntKind.bits, IntKind.signed]
theorem shl_u32 {x y : Int} {a s : Nat} (hx : x = a) (hy : y = s) : IntKind.u32.wrap (x * 2 ^ (min y.toNat 32)) = ((a * 2 ^ s % 4294967296 : Nat) : Int) := by
 subst hx; subst hy
 rw [CO (n := a * 2 ^ (min s 32)) (by rw [Int.toNat_natCast, Int.natCast_mul, Int.natCast_pow]; rfl)]
 exact congrArg Nat.cast (OU a s 32)
theorem shr_u32 {x y : Int} {a s : Nat} (hx : x = a) (hy : y = s) (h : a < 4294967296) : x.fdiv (2 ^ (min y.toNat 32)) = ((a / 2 ^ s : Nat) : Int) := OJ hx hy h
theorem wm_u64 {e : Int} {n : Nat} (h : e = n) : IntKind.u64.wrap e = ((n % 18446744073709551616 : Nat) : Int) := by subst h; simp [IntKind.wrap, IntKind.bits, IntKind.signed]
theorem shl_u64 {x y : Int} {a s : Nat} (hx : x = a) (hy : y = s) : IntKind.u64.wrap (x * 2 ^ (min y.toNat 64)) = ((a * 2 ^ s % 18446744073709551616 : Nat) : Int) := by
 subst hx; subst hy
 rw [wm_u64 (n := a * 2 ^ (min s 64)) (by rw [Int.toNat_natCast, Int.natCast_mul, Int.natCast_pow]; rfl)]
 exact congrArg Nat.cast (OU a s 64)
theorem OL {x y : Int} {a s : Nat} (hx : x = a) (hy : y = s) (h : a < 18446744073709551616) : x.fdiv (2 ^ (min y.toNat 64)) = ((a / 2 ^ s : Nat) : Int) := OJ hx hy h
theorem Fv {x y : Int} {a b : Nat} (hx : x = a) (hy : y = b) (ha : a < 4294967296) (hb : b < 4294967296) : bits .and .u32 x y = ((a &&& b : Nat) : Int) := by subst hx; subst hy; exact u32_and_nat a b ha hb
theorem bor_u32 {x y : Int} {a b : Nat} (hx : x = a) (hy : y = b) (ha : a < 4294967296) (hb : b < 4294967296) : bits .or .u32 x y = ((a ||| b : Nat) : Int) := by subst hx; subst hy; exact u32_or_nat a b ha hb
theorem BK {x y : Int} {a b : Nat} (hx : x = a) (hy : y = b) (ha : a < 4294967296) (hb : b < 4294967296) : bits .xor .u32 x y = ((a ^^^ b : Nat) : Int) := by subst hx; subst hy; exact u32_xor_nat a b ha hb
theorem Ow {x y : Int} {a b : Nat} (hx : x = a) (hy : y = b) (ha : a < 18446744073709551616) (hb : b < 18446744073709551616) : bits .or .u64 x y = ((a ||| b : Nat) : Int) := by subst hx; subst hy; exact u64_or_nat a b ha hb
theorem M3 {x y : Int} {a s m : Nat} (hx : x = a) (hy : y = s) (hm : 2 ^ s = m) (h : a < 18446744073709551616) : x.fdiv (2 ^ (min y.toNat 64)) = ((a / m : Nat) : Int) := by rw [← hm]; exact OL hx hy h
abbrev I6 (n : Int) : PV := .int .i64 n
abbrev U6 (n : Int) : PV := .int .u64 n
abbrev U3 (n : Int) : PV := .int .u32 n
abbrev U8 (n : Int) : PV := .int .u8 n
abbrev B8 (n : Nat) (l : List Int) : PV := .iarr .u8 n l
abbrev B3 (n : Nat) (l : List Int) : PV := .iarr .u32 n l
abbrev aT : Ans := .dec true
abbrev aF : Ans := .dec false
abbrev aV (p : PV) : Ans := .val p
abbrev aK (p : PV) : Ans := .call true [] [] p
abbrev rr {α : Type} (x : α) : Prop := x = x
theorem cg {k : IntKind} {a b : Int} (h : a = b) : PV.int k a = PV.int k b := congrArg _ h
end Go.Pe
