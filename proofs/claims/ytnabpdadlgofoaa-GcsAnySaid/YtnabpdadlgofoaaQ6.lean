/- Merged texts: the pure machine and what the walks show. Conditions: as each statement says. -/
import Derived.Carry
import Derived.ChangeArms
import Derived.ChangeSame
import Derived.ChangeCalls
import Derived.JoinedOf
import Derived.Handed
import Derived.OpenShut
import Derived.RowKit
import Derived.ProofKit
import Derived.Test.YtnabpdadlgofoaaQ5
set_option linter.unusedSimpArgs false
set_option linter.unusedVariables false
namespace Go.Pe
def OX (P : Program) (tot : Nat) : Nat → List Field → Bool
 | o, [] => Nat.beq o tot
 | o, f :: l => Nat.beq f.offset o && OX P tot (o + P.cellsOf f.type) l
def okT (P : Program) : Nat → TypeId → Bool
 | 0, _ => false
 | d + 1, t => match P.underlying t with
  | some .bool | some (.int _) | some .string => Nat.beq (P.cellsOf t) 1
  | some (.struct fs) => OX P (P.cellsOf t) 0 fs.toList && fs.toList.all fun f => okT P d f.type
  | some (.array n e) => Nat.beq (P.cellsOf t) (n * P.cellsOf e) && EH P e && okT P d e
  | some (.slice e) => Nat.beq (P.cellsOf t) 1 && EH P e && okT P d e
  | _ => false
theorem CG (k : IntKind) : IntKind.same k k = true := by cases k <;> rfl
theorem beq_refl (s : Sh) : Sh.beq s s = true :=
 Sh.rec (motive_1 := fun s => Sh.beq s s = true) (motive_2 := fun l => Sh.ME l l = true) rfl CG rfl rfl (fun _ _ ih => by simp only [Sh.beq, Bool.and_eq_true]; exact ⟨Nat.beq_refl _, ih⟩)
  (fun k _ => by simp only [Sh.beq, Bool.and_eq_true]; exact ⟨CG k, Nat.beq_refl _⟩) (fun _ _ _ ih => by simp only [Sh.beq, Bool.and_eq_true]; exact ⟨⟨Nat.beq_refl _, Nat.beq_refl _⟩, ih⟩)
  (fun _ _ ih => by simp only [Sh.beq, Bool.and_eq_true]; exact ⟨Nat.beq_refl _, ih⟩) rfl (fun _ _ h1 h2 => by simp only [Sh.ME, Bool.and_eq_true]; exact ⟨h1, h2⟩) s
structure Jq (P : Program) (w : World) (T : T2) (d : Nat) (t : TypeId) (cs : List Value) (p : PV) : Prop where
 conf : conf (Cr P d t) p = true
 wf : WF p
 noref : noref p = true
 untup : untup p = true
 size : size p = P.cellsOf t
 len : cs.length = P.cellsOf t
 agg : Pe.isAgg p = BS P t
 rel : ∀ (j : Nat) (q : PV) (u : Value), (flat p)[j]? = some q → cs[j]? = some u → RC w T u q
theorem J5 {α β : Type} {g : α → Option β} : ∀ {l : List α} {xs : List β}, l.mapM g = some xs → ∀ i ∈ l, ∃ y, g i = some y
 | [], _, _, i, hi => by cases hi
 | a :: l, xs, h, i, hi => by
  rw [List.mapM_cons] at h
  simp only [Option.bind_eq_bind, Option.bind_eq_some_iff] at h
  obtain ⟨y, hy, ys, hys, _⟩ := h
  rcases List.mem_cons.1 hi with rfl | hi
  ·exact ⟨y, hy⟩
  ·exact J5 hys i hi
theorem Jc {s : Nat} (hs : 0 < s) : ∀ {l : List PV}, WFL l → (∀ q ∈ l, Pe.size q = s) → ∀ {j : Nat} {q : PV}, (Ak l)[j]? = some q → ∃ p, l[j / s]? = some p ∧ (flat p)[j % s]? = some q
 | [], _, _, j, q, h => by simp [Ak] at h
 | p :: l, hw, hz, j, q, h => by
  simp only [WFL] at hw
  have hl : (flat p).length = s := by rw [Ah p hw.1, hz p (by simp)]
  simp only [Ak] at h
  by_cases hj : j < s
  ·rw [List.getElem?_append_left (by omega)] at h
   refine ⟨p, by rw [Nat.div_eq_of_lt hj]; rfl, by rw [Nat.mod_eq_of_lt hj]; exact h⟩
  ·rw [List.getElem?_append_right (by omega), hl] at h
   obtain ⟨p', h1, h2⟩ := Jc hs hw.2 (fun q hq => hz q (by simp [hq])) h
   have e : j = (j - s) + s := by omega
   refine ⟨p', ?_, ?_⟩
   ·rw [e, Nat.add_div_right _ hs]
    simpa using h1
   ·rw [e, Nat.add_mod_right]; exact h2
def Ct (P : Program) (d : Nat) (e : TypeId) (l : List PV) : PV := match P.underlying e with
 | some (.int k) => .iarr k l.length (l.map PV.num)
 | _ => .parr (P.cellsOf e) l.length (Cr P d e) l
section
variable {P : Program} {w : World} {T : T2}
theorem NM {d : Nat} {e : TypeId} {k : IntKind} (h : P.underlying e = some (.int k)) : Cr P (d + 1) e = .int k := by simp only [Cr, h]
theorem Pk {d : Nat} {t e : TypeId} (h : P.underlying t = some (.slice e)) : Cr P (d + 1) t = .vec (P.cellsOf e) (Cr P d e) := by simp only [Cr, h]
theorem Ho {d : Nat} {e : TypeId} {l : List PV} (hok : okT P d e = true) (hl : ∀ q ∈ l, Pe.conf (Cr P d e) q = true ∧ WF q ∧ Pe.noref q = true ∧ Pe.untup q = true ∧ Pe.size q = P.cellsOf e) :
  WF (Ct P d e l) ∧ BH (Ct P d e l) = true ∧ Ae (Ct P d e l) = l.length ∧ Ar (Ct P d e l) = P.cellsOf e ∧ Pe.untup (Ct P d e l) = true ∧ flat (Ct P d e l) = Ak l ∧ Pe.size (Ct P d e l) = l.length * P.cellsOf e := by
 have hut : BF l = true := by
  clear hok
  induction l with
  | nil => rfl
  | cons p l ih =>
   simp only [BF, Bool.and_eq_true]
   exact ⟨(hl p (by simp)).2.2.2.1, ih fun q hq => hl q (by simp [hq])⟩
 unfold Ct
 split
 ·rename_i k hu
  obtain ⟨d', rfl⟩ : ∃ d', d = d' + 1 := by cases d with
   | zero => simp [okT] at hok
   | succ d => exact ⟨d, rfl⟩
  have h1 : P.cellsOf e = 1 := by
   simp only [okT, hu] at hok
   exact Nat.eq_of_beq_eq_true hok
  have hq : ∀ q ∈ l, ∃ x, q = .int k x ∧ k.wrap x = x := by
   intro q hq
   have := hl q hq
   rw [NM hu] at this
   cases q <;> simp only [Pe.conf, reduceCtorEq, false_and] at this
   rename_i k' x
   have hk := IntKind.same_eq this.1
   subst hk
   exact ⟨x, rfl, by simpa only [WF] using this.2.1⟩
  have hf : (l.map PV.num).map (PV.int k) = l := by
   rw [List.map_map]
   conv => rhs; rw [← List.map_id l]
   refine List.map_congr_left fun q hql => ?_
   obtain ⟨x, rfl, _⟩ := hq q hql
   rfl
  have hfl : Ak l = l := by
   clear hok hf
   induction l with
   | nil => rfl
   | cons p l ih =>
    obtain ⟨x, rfl, _⟩ := hq p (by simp)
    simp only [Ak, flat]
    rw [ih (by simp only [BF, Bool.and_eq_true] at hut; exact hut.2) (fun q hq' => hl q (by simp [hq'])) (fun q hq' => hq q (by simp [hq']))]
    rfl
  refine ⟨?_, rfl, rfl, by simp only [Ar]; omega, rfl, by simp only [flat]; rw [hf, hfl], by simp only [Pe.size]; rw [h1, Nat.mul_one]⟩
  simp only [WF, List.length_map, List.mem_map, true_and]
  rintro x ⟨q, hql, rfl⟩
  obtain ⟨x, rfl, hx⟩ := hq q hql
  exact hx
 ·refine ⟨?_, rfl, rfl, rfl, by simpa only [Pe.untup] using hut, rfl, rfl⟩
  simp only [WF]
  exact ⟨trivial, Cb fun q hq => (hl q hq).2.1, fun q hq => ⟨(hl q hq).2.2.2.2, (hl q hq).1, (hl q hq).2.2.1⟩⟩
theorem OL {d n : Nat} {t e : TypeId} {cs : List Value} (hu : P.underlying t = some (.array n e)) (hc : P.cellsOf t = n * P.cellsOf e) (hok : okT P d e = true) (hs : 0 < P.cellsOf e) (hl : cs.length = P.cellsOf t)
  (h : ∀ i, i < n → ∃ p, Jq P w T d e ((cs.drop (i * P.cellsOf e)).take (P.cellsOf e)) p) : ∃ p, Jq P w T (d + 1) t cs p := by
 have hex : ∀ i, ∃ p, i < n → Jq P w T d e ((cs.drop (i * P.cellsOf e)).take (P.cellsOf e)) p := fun i => by
  by_cases hi : i < n
  ·obtain ⟨p, hp⟩ := h i hi; exact ⟨p, fun _ => hp⟩
  ·exact ⟨.undef, fun h => absurd h hi⟩
 obtain ⟨f, hf⟩ := Classical.axiomOfChoice hex
 have hmem : ∀ q ∈ (List.range n).map f, Pe.conf (Cr P d e) q = true ∧ WF q ∧ Pe.noref q = true ∧ Pe.untup q = true ∧ Pe.size q = P.cellsOf e := by
  intro q hq
  obtain ⟨i, hi, rfl⟩ := List.mem_map.1 hq
  have := hf i (by simpa using hi)
  exact ⟨this.conf, this.wf, this.noref, this.untup, this.size⟩
 obtain ⟨a1, a2, a3, a4, a5, a6, a7⟩ := Ho hok hmem
 have hlen : ((List.range n).map f).length = n := by simp
 refine ⟨Ct P d e ((List.range n).map f), ?_, a1, IX a2, a5, by rw [a7, hlen, hc], hl, ?_, fun j q u hq hu' => ?_⟩
 ·unfold Ct
  simp only [Cr, hu]
  cases hk : P.underlying e with
  | none =>
   simp only [Pe.conf, Bool.and_eq_true, hlen]
   exact ⟨⟨Nat.beq_refl _, Nat.beq_refl _⟩, beq_refl _⟩
  | some dsc => cases dsc with
  | int k =>
   simp only [Pe.conf, Bool.and_eq_true, hlen]
   exact ⟨CG k, Nat.beq_refl _⟩
  | _ =>
   simp only [Pe.conf, Bool.and_eq_true, hlen]
   exact ⟨⟨Nat.beq_refl _, Nat.beq_refl _⟩, beq_refl _⟩
 ·have : Pe.isAgg (Ct P d e ((List.range n).map f)) = true := by unfold Ct; split <;> rfl
  rw [this]
  simp only [BS, hu]
 ·rw [a6] at hq
  have hwl : WFL ((List.range n).map f) := Cb fun q hq => (hmem q hq).2.1
  obtain ⟨p, h1, h2⟩ := Jc hs hwl (fun q hq => (hmem q hq).2.2.2.2) hq
  have hjn : j / P.cellsOf e < n := by have := (List.getElem?_eq_some_iff.1 h1).1; simpa using this
  have hp : p = f (j / P.cellsOf e) := by simp [hjn] at h1; exact h1.symm
  subst hp
  refine (hf _ hjn).rel (j % P.cellsOf e) q u h2 ?_
  rw [List.getElem?_take, if_pos (Nat.mod_lt _ hs), List.getElem?_drop, ← hu']
  congr 1
  rw [Nat.mul_comm]
  exact Nat.div_add_mod j (P.cellsOf e)
theorem Iq {d tot : Nat} {cs : List Value} (hl : cs.length = tot) : ∀ {fs : List Field} {o : Nat}, OX P tot o fs = true → (∀ f ∈ fs, okT P d f.type = true ∧ ∃ p, Jq P w T d f.type ((cs.drop f.offset).take (P.cellsOf f.type)) p) →
  ∃ ps, FH (fs.map fun f => Cr P d f.type) ps = true ∧ WFL ps ∧ CB ps = true ∧ BF ps = true ∧ o + AB ps = tot ∧ ∀ (j : Nat) (q : PV) (u : Value), (Ak ps)[j]? = some q → cs[o + j]? = some u → RC w T u q
 | [], o, h, _ => by
  simp only [OX] at h
  exact ⟨[], rfl, by simp [WFL], rfl, rfl, by simp only [AB]; exact Nat.eq_of_beq_eq_true h, fun j q u hq => by simp [Ak] at hq⟩
 | f :: fs, o, h, hf => by
  simp only [OX, Bool.and_eq_true] at h
  obtain ⟨h1, h2⟩ := h
  have ho := Nat.eq_of_beq_eq_true h1
  obtain ⟨_, p, hp⟩ := hf f (by simp)
  obtain ⟨ps, g1, g2, g3, g4, g5, g6⟩ := Iq hl h2 fun x hx => hf x (by simp [hx])
  refine ⟨p :: ps, by simp only [List.map_cons, FH, Bool.and_eq_true]; exact ⟨hp.conf, g1⟩, by simp only [WFL]; exact ⟨hp.wf, g2⟩, by simp only [CB, Bool.and_eq_true]; exact ⟨hp.noref, g3⟩, by simp only [BF, Bool.and_eq_true]; exact ⟨hp.untup, g4⟩, by simp only [AB, hp.size]; omega, fun j q u hq hu => ?_⟩
  simp only [Ak] at hq
  have hlp : (flat p).length = P.cellsOf f.type := by rw [Ah p hp.wf, hp.size]
  by_cases hj : j < P.cellsOf f.type
  ·rw [List.getElem?_append_left (by omega)] at hq
   refine hp.rel j q u hq ?_
   rw [List.getElem?_take, if_pos hj, List.getElem?_drop, ho]
   exact hu
  ·rw [List.getElem?_append_right (by omega), hlp] at hq
   refine g6 _ q u hq ?_
   rw [← hu]
   congr 1
   omega
end
section
variable {H : Type} {enc : TypeId × Value → H} {P : Program} {w : World} {base : Nat} {spare : Nat → Bool} {held : Bool}
theorem JJ {a : Addr} {n : Nat} {cs : List Value} (h : w.cells? base a n = some cs) : cs.length = n ∧ ∀ j u, cs[j]? = some u → w.cell? (a.add j) = some u := by
 unfold World.cells? at h
 split at h
 ·have : ∀ {l : List Nat} {xs : List Value}, l.mapM (fun i => w.cell? (a.add i)) = some xs → xs.length = l.length ∧ ∀ (j : Nat) (i : Nat) (u : Value), l[j]? = some i → xs[j]? = some u → w.cell? (a.add i) = some u := by
   intro l
   induction l with
   | nil => intro xs h; simp at h; subst h; exact ⟨rfl, fun j i u hi => by simp at hi⟩
   | cons b l ih =>
    intro xs h
    rw [List.mapM_cons] at h
    simp only [Option.bind_eq_bind, Option.bind_eq_some_iff, Option.pure_def, Option.some.injEq] at h
    obtain ⟨y, hy, ys, hys, rfl⟩ := h
    obtain ⟨e1, e2⟩ := ih hys
    refine ⟨by simp [e1], fun j i u hi hu => ?_⟩
    cases j with
    | zero => simp at hi hu; subst hi; subst hu; exact hy
    | succ j => simp at hi hu; exact e2 j i u hi hu
  obtain ⟨e1, e2⟩ := this h
  refine ⟨by simpa using e1, fun j u hu => ?_⟩
  have hj : j < n := by have := (List.getElem?_eq_some_iff.1 hu).1; simp at e1; omega
  exact e2 j j u (by simp [hj]) hu
 ·cases h
theorem Fz : ∀ (d : Nat) (t : TypeId) (fuel : Nat) (cs : List Value) (x : DataW H × List MemPlace), okT P d t = true → DataW.trod enc P w base spare held fuel t cs = some x → ∃ p, Jq P w (fun b _ => b < w.heap.size) d t cs p
 | 0, _, _, _, _, h, _ => by simp [okT] at h
 | d + 1, t, 0, cs, x, _, h => by simp [DataW.trod] at h
 | d + 1, t, fuel + 1, cs, x, hok, h => by
  have hsz : ∀ e, EH P e = true → 0 < P.cellsOf e := fun e he => Nat.pos_of_ne_zero (BA he)
  simp only [okT] at hok
  split at hok
  ·rename_i hu
   have hc := Nat.eq_of_beq_eq_true hok
   obtain ⟨b, rfl, _⟩ := DataW.trod_bool hu h
   refine ⟨.bool b, by simp only [Cr, hu]; rfl, trivial, rfl, rfl, hc.symm, by rw [hc]; rfl, by simp only [BS, hu]; rfl, fun j q u hq hu' => ?_⟩
   cases j with
   | zero => simp [flat] at hq hu'; subst hq; subst hu'; exact .bool b
   | succ j => simp [flat] at hq
  ·rename_i k hu
   have hc := Nat.eq_of_beq_eq_true hok
   obtain ⟨n, rfl, _, hwf⟩ := DataW.trod_int hu h
   have hw : k.wrap n = n := by
    rw [Au]
    simpa [Lit.wf, IntKind.has] using hwf
   refine ⟨.int k n, by simp only [Cr, hu, conf]; cases k <;> rfl, by simp only [WF]; exact hw, rfl, rfl, hc.symm, by rw [hc]; rfl, by simp only [BS, hu]; rfl, fun j q u hq hu' => ?_⟩
   cases j with
   | zero => simp [flat] at hq hu'; subst hq; subst hu'; exact .int k n
   | succ j => simp [flat] at hq
  ·rename_i hu
   have hc := Nat.eq_of_beq_eq_true hok
   obtain ⟨s, rfl, _, hs⟩ := DataW.trod_string hu h
   refine ⟨.str s, by simp only [Cr, hu]; rfl, trivial, rfl, rfl, hc.symm, by rw [hc]; rfl, by simp only [BS, hu]; rfl, fun j q u hq hu' => ?_⟩
   cases j with
   | zero => simp [flat] at hq hu'; subst hq; subst hu'; exact .str s hs
   | succ j => simp [flat] at hq
  ·rename_i fs hu
   simp only [Bool.and_eq_true, List.all_eq_true] at hok
   simp only [DataW.trod, hu] at h
   split at h
   ·rename_i hl
    simp only [Option.map_eq_some_iff] at h
    obtain ⟨xs, hxs, _⟩ := h
    obtain ⟨ps, g1, g2, g3, g4, g5, g6⟩ := Iq (P := P) (w := w) (T := fun b _ => b < w.heap.size) (d := d) hl hok.1 (fun f hf => ⟨hok.2 f hf, by
     obtain ⟨y, hy⟩ := J5 hxs f hf
     exact Fz d f.type fuel _ y (hok.2 f hf) hy⟩)
    refine ⟨.st (P.cellsOf t) ps, by simp only [Cr, hu, conf, Bool.and_eq_true]; exact ⟨Nat.beq_refl _, g1⟩, by simp only [WF]; exact ⟨by omega, g2⟩, by simp only [noref]; exact g3, by simp only [untup]; exact g4, rfl, hl, by simp only [BS, hu]; rfl, fun j q u hq hu' => ?_⟩
    simp only [flat] at hq
    exact g6 j q u hq (by rw [Nat.zero_add]; exact hu')
   ·cases h
  ·rename_i n e hu
   simp only [Bool.and_eq_true] at hok
   have hc := Nat.eq_of_beq_eq_true hok.1.1
   simp only [DataW.trod, hu] at h
   split at h
   ·rename_i hl
    simp only [Option.map_eq_some_iff] at h
    obtain ⟨xs, hxs, _⟩ := h
    exact OL hu hc hok.2 (hsz e hok.1.2) hl fun i hi => by
     obtain ⟨y, hy⟩ := J5 hxs i (by simpa using hi)
     exact Fz d e fuel _ y hok.2 hy
   ·cases h
  ·rename_i e hu
   simp only [Bool.and_eq_true] at hok
   have hc := Nat.eq_of_beq_eq_true hok.1.1
   have hpos := hsz e hok.1.2
   have hone : ∀ (v : Value) (c : PV) (nl : Bool), cs = [v] → WF (.vec nl c) → Pe.conf (Cr P (d + 1) t) (.vec nl c) = true → RC w (fun b _ => b < w.heap.size) v (.vec nl c) → ∃ p, Jq P w (fun b _ => b < w.heap.size) (d + 1) t cs p := by
    rintro v c nl rfl h1 h2 h3
    refine ⟨.vec nl c, h2, h1, rfl, rfl, hc.symm, by rw [hc]; rfl, by simp only [BS, hu]; rfl, fun j q u hq hu' => ?_⟩
    cases j with
    | zero => simp [flat] at hq hu'; subst hq; subst hu'; exact h3
    | succ j => simp [flat] at hq
   have hshape : ∀ l : List PV, ∀ nl, Pe.conf (Cr P (d + 1) t) (.vec nl (Ct P d e l)) = true := by
    intro l nl
    obtain ⟨d', rfl⟩ : ∃ d', d = d' + 1 := by cases d with
     | zero => simp [okT] at hok
     | succ d => exact ⟨d, rfl⟩
    have hsh : Cr P (d' + 1 + 1) t = .vec (P.cellsOf e) (Cr P (d' + 1) e) := Pk hu
    rw [hsh]
    by_cases hk : ∃ k, P.underlying e = some (.int k)
    ·obtain ⟨k, hk⟩ := hk
     have : Ct P (d' + 1) e l = .iarr k l.length (l.map PV.num) := by simp only [Ct, hk]
     rw [this, NM hk]
     simp only [Pe.conf]
     exact CG k
    ·have : Ct P (d' + 1) e l = .parr (P.cellsOf e) l.length (Cr P (d' + 1) e) l := by
      unfold Ct
      split
      ·rename_i k hk'; exact absurd ⟨k, hk'⟩ hk
      ·rfl
     rw [this]
     have hni : Sh.isInt (Cr P (d' + 1) e) = false := by
      cases he : P.underlying e with
      | none => simp only [Cr, he, Sh.isInt]
      | some dsc => cases dsc with
       | int k => exact absurd ⟨k, he⟩ hk
       | array n e' =>
        simp only [Cr, he]
        split <;> rfl
       | _ => simp only [Cr, he, Sh.isInt]
     cases hs2 : Cr P (d' + 1) e with
     | int k => rw [hs2] at hni; simp [Sh.isInt] at hni
     | _ => simp only [Pe.conf, Bool.and_eq_true, Sh.isInt, Bool.not_false, true_and]; exact ⟨Nat.beq_refl _, beq_refl _⟩
   rcases DataW.trod_slice hu h with ⟨hx, _⟩ | ⟨a, len, cap, elems, rest, n, hf, hx, _, _, h1, h2, h3, h4, _⟩
   ·obtain ⟨a1, a2, a3, _⟩ := Ho (P := P) (d := d) (e := e) (l := []) hok.2 (fun q hq => by cases hq)
    exact hone _ (Ct P d e []) true hx (by simp only [WF]; exact ⟨a1, a2, fun _ => a3⟩) (hshape [] true) (.vec0 _ _ _ _ a3 rfl (fun _ => rfl))
   ·have hfu : n = fuel := by omega
    subst hfu
    have hex : ∀ i, ∃ p, i < len → ∃ cs', w.cells? base (a.add (i * P.cellsOf e)) (P.cellsOf e) = some cs' ∧ Jq P w (fun b _ => b < w.heap.size) d e cs' p := fun i => by
     by_cases hi : i < len
     ·have := h4 i hi
      rw [List.getElem?_eq_getElem (by omega), Option.bind_eq_some_iff] at this
      obtain ⟨cs', c1, c2⟩ := this
      obtain ⟨p, hp⟩ := Fz d e n cs' _ hok.2 c2
      exact ⟨p, fun _ => ⟨cs', c1, hp⟩⟩
     ·exact ⟨.undef, fun h => absurd h hi⟩
    obtain ⟨f, hf⟩ := Classical.axiomOfChoice hex
    have hmem : ∀ q ∈ (List.range len).map f, Pe.conf (Cr P d e) q = true ∧ WF q ∧ Pe.noref q = true ∧ Pe.untup q = true ∧ Pe.size q = P.cellsOf e := by
     intro q hq
     obtain ⟨i, hi, rfl⟩ := List.mem_map.1 hq
     obtain ⟨cs', _, hp⟩ := hf i (by simpa using hi)
     exact ⟨hp.conf, hp.wf, hp.noref, hp.untup, hp.size⟩
    obtain ⟨a1, a2, a3, a4, a5, a6, a7⟩ := Ho hok.2 hmem
    have hlen : ((List.range len).map f).length = len := by simp
    rw [hlen] at a3
    rcases Nat.eq_zero_or_pos len with h0 | h0
    ·subst h0
     exact hone _ (Ct P d e ((List.range 0).map f)) false hx (by simp only [WF]; exact ⟨a1, a2, fun e => by cases e⟩) (hshape _ false) (.vec0 _ _ _ _ a3 rfl (fun e => by cases e))
    ·have hsp : a.spot = none := by
      obtain ⟨cs', c1, hp⟩ := hf 0 h0
      obtain ⟨e1, e2⟩ := JJ c1
      have := e2 0 cs'[0] (List.getElem?_eq_getElem (by omega))
      unfold World.cell? at this
      split at this
      ·split at this
       ·cases this
       ·rename_i hs
        simpa [Addr.add] using hs
      ·cases this
     obtain ⟨bk, o, sp⟩ := a
     simp only at hsp
     subst hsp
     have hcell : ∀ j, ∃ u, ∀ q, (flat (Ct P d e ((List.range len).map f)))[j]? = some q → w.cell? ⟨bk, o + j, none⟩ = some u ∧ RC w (fun b _ => b < w.heap.size) u q := by
      intro j
      cases hj : (flat (Ct P d e ((List.range len).map f)))[j]? with
      | none => exact ⟨Go.undef, fun q hq => by cases hq⟩
      | some q =>
       rw [a6] at hj
       obtain ⟨p, p1, p2⟩ := Jc hpos (Cb fun q hq => (hmem q hq).2.1) (fun q hq => (hmem q hq).2.2.2.2) hj
       have hjn : j / P.cellsOf e < len := by have := (List.getElem?_eq_some_iff.1 p1).1; simpa using this
       have hp : p = f (j / P.cellsOf e) := by simp [hjn] at p1; exact p1.symm
       subst hp
       obtain ⟨cs', c1, hp⟩ := hf _ hjn
       obtain ⟨e1, e2⟩ := JJ c1
       have hm : j % P.cellsOf e < cs'.length := by rw [e1]; exact Nat.mod_lt _ hpos
       refine ⟨cs'[j % P.cellsOf e], fun q' hq' => ?_⟩
       cases hq'
       refine ⟨?_, hp.rel _ q _ p2 (List.getElem?_eq_getElem hm)⟩
       have := e2 _ _ (List.getElem?_eq_getElem hm)
       rw [Bt, Bt] at this
       rw [← this]
       congr 2
       rw [Nat.add_assoc, Nat.mul_comm, Nat.div_add_mod]
     obtain ⟨us, hus⟩ := Classical.axiomOfChoice hcell
     exact hone _ (Ct P d e ((List.range len).map f)) false hx (by simp only [WF]; exact ⟨a1, a2, fun e => by cases e⟩) (hshape _ false)
      (.vec1 _ _ _ _ _ us a3 h1 h2 (fun j q hq => ⟨Eh (hus j q hq).1, (hus j q hq).1⟩) (fun j q hq => (hus j q hq).2))
  ·cases hok
end
end Go.Pe
namespace Go.Pe
open Go.ChangeShapes Go.WideShapes Go.ChangeAt Go.RowKit
section
variable {H : Type} {enc : TypeId × Value → H} {P : Program}
theorem PO {f : Func} {s : ChangeSpec} {apart fresh handsOn again : Bool} {W W' : World} {args : Array Value} {v : Value} {ds gs : List (DataW H)} {before pa pv : List MemPlace}
  (hW : DataW.Whole enc P f.params.toList s.vars apart W args.toList ds gs before)
  (hres : ∀ (b : Nat) (sp : Nat → Bool) (hd : Bool), DataW.TrodAll enc P W' b sp hd f.resultTypes.toList (v.resultList f.resultTypes.size) (s.fn H (ds ++ gs)).results [])
  (hargs : ∀ sp : Nat → Bool, (∀ p ∈ before, sp p.block = true) → DataW.TrodAll enc P W' 0 sp true f.params.toList args.toList (s.fn H (ds ++ gs)).args pa)
  (hvars : ∀ sp : Nat → Bool, (∀ p ∈ before, sp p.block = true) → DataW.TrodVars enc P W' sp s.vars (s.fn H (ds ++ gs)).vars pv)
  (hps : before = pa ++ pv) (hb : Below W.heap.size W W')
  (hok : ∀ (j : Nat) (t : TypeId) (r : Value), f.resultTypes[j]? = some t → (v.resultList f.resultTypes.size)[j]? = some r → Value.okWide P W' .any 0 t r) :
  s.post enc P f apart fresh handsOn again W args v W' := by
 have hlt : ∀ p ∈ before, p.block < W.heap.size := fun p hp => hW.lt p hp
 have hold : ∀ p ∈ before, (fun b => decide (b < W.heap.size)) p.block = true := fun p hp => by simpa using hlt p hp
 refine ⟨ds, gs, before, [], pa, pv, hW, hres _ _ _, hargs _ hold, hvars _ hold, World.keptBut_mono (fun p hp => ⟨hp, ?_⟩) (hb.frame (· ∈ before)), fun _ => ?_⟩
 ·rw [hps, List.mem_append] at hp
  exact Or.inr hp
 ·obtain ⟨_, _, _, _, _, hz, hn⟩ := hW
  refine ⟨hok, _, _, ([] ++ pa) ++ pv, ⟨[] ++ pa, pv, trodAll_append (hargs _ (fun _ _ => rfl)) (hres _ _ _), hvars _ (fun _ _ => rfl), rfl, ?_, ?_⟩, ?_⟩
  ·intro b off hp
   have hin : MemPlace.cell b off ∈ before := by rw [hps]; simpa using hp
   rw [hb.frozen (hlt _ hin)]
   exact hz b off hin
  ·intro ha
   have := hn ha
   rw [hps] at this
   simpa using this
  ·intro p hp _
   rw [hps]
   simpa using hp
theorem GK (hl : laidOutB P = true) {W W' : World} (hb : Below W.heap.size W W') {sp : Nat → Bool} : ∀ {ts : List TypeId} {vs : List Value} {ds : List (DataW H)} {ps : List MemPlace}, (∀ t ∈ ts, P.readableRec t = true ∧ t < P.types.size) →
  DataW.TrodAll enc P W 0 (fun _ => true) true ts vs ds ps → (∀ p ∈ ps, sp p.block = true) → DataW.TrodAll enc P W' 0 sp true ts vs ds ps
 | [], [], [], _, _, h, _ => h
 | t :: ts, v :: vs, d :: ds, ps, ht, h, hs => by
  have hlt := h.lt
  obtain ⟨p, q, h1, h2, rfl⟩ := h
  exact ⟨p, q, WideElems.Trod_stays hl (ht t (by simp)).1 (ht t (by simp)).2 h1 (fun x hx => hb.same (hlt x (by simp [hx]))) (fun x hx => hs x (by simp [hx])),
   GK hl hb (fun t ht' => ht t (by simp [ht'])) h2 (fun x hx => hs x (by simp [hx])), rfl⟩
 | [], _ :: _, _, _, _, h, _ => by simp [DataW.TrodAll] at h
 | [], [], _ :: _, _, _, h, _ => by simp [DataW.TrodAll] at h
 | _ :: _, [], _, _, _, h, _ => by simp [DataW.TrodAll] at h
 | _ :: _, _ :: _, [], _, _, h, _ => by simp [DataW.TrodAll] at h
structure Ins (P : Program) (ts : List TypeId) (ps : List PV) : Prop where
 conf : FH (ts.map (Cr P 9)) ps = true
 wf : WFL ps
 untup : BF ps = true
theorem Uo {W : World} {base : Nat} {t : TypeId} {v : Value} {p : PV} (hv : Value.okWide P W .any base t v) (h : Jq P W (fun b _ => b < W.heap.size) 9 t v.cells.toList p) : RV W (fun b _ => b < W.heap.size) (fun _ => none) v p := by
 have hnt : ∀ vs, p ≠ .tup vs := fun vs e => by have := h.untup; subst e; simp [Pe.untup] at this
 cases ha : Pe.isAgg p with
 | true =>
  have hat : BS P t = true := by rw [← h.agg]; exact ha
  have : ∃ cs, v = .agg cs := by
   unfold BS at hat
   unfold Value.okWide at hv
   split at hat
   ·rename_i fs hu
    rw [hu] at hv
    obtain ⟨cs, hc, _⟩ := hv
    exact ⟨cs, hc⟩
   ·rename_i n e hu
    rw [hu] at hv
    obtain ⟨cs, hc, _⟩ := hv
    exact ⟨cs, hc⟩
   ·cases hat
  obtain ⟨cs, rfl⟩ := this
  refine RV.IC ha h.wf ⟨cs, rfl, ?_, fun j q u hq hu => RO.BG (h.rel j q u hq ?_)⟩
  ·have := h.len
   simp only [Value.cells, Array.length_toList] at this
   rw [this, h.size]
  ·simpa [Value.cells] using hu
 | false =>
  have hl : Pe.leaf p = true := by rw [Pe.leaf_agg, ha]; rfl
  have hone : v.cells = #[v] := by
   have hnagg : ∀ cs, v ≠ .agg cs := by
    rintro cs rfl
    have hat : BS P t = false := by rw [← h.agg]; exact ha
    unfold Value.okWide at hv
    unfold BS at hat
    split at hv
    ·rename_i fs hu; rw [hu] at hat; cases hat
    ·rename_i n e hu; rw [hu] at hat; cases hat
    ·unfold Cell.okWide at hv
     split at hv <;> simp_all [Cell.ok]
   cases v <;> first | rfl | exact absurd rfl (hnagg _)
  refine RV.AJ hl hnt h.wf (RO.BG (h.rel 0 p v (by rw [ER hl]; rfl) (by rw [hone]; rfl)))
theorem UF {W : World} {base : Nat} : ∀ {ts : List TypeId} {vs : List Value} {ds : List (DataW H)} {ps : List MemPlace}, (∀ t ∈ ts, okT P 9 t = true) → (∀ (j : Nat) t v, ts[j]? = some t → vs[j]? = some v → Value.okWide P W .any base t v) →
  DataW.TrodAll enc P W 0 (fun _ => true) true ts vs ds ps → ∃ qs, Ins P ts qs ∧ qs.length = vs.length ∧ ∀ (j : Nat) (p : PV) (v : Value), qs[j]? = some p → vs[j]? = some v → RV W (fun b _ => b < W.heap.size) (fun _ => none) v p
 | [], [], [], _, _, _, _ => ⟨[], ⟨rfl, by simp [WFL], rfl⟩, rfl, fun j p v hp => by simp at hp⟩
 | t :: ts, v :: vs, d :: ds, ps, ht, hv, h => by
  obtain ⟨p, q, ⟨fuel, h1⟩, h2, rfl⟩ := h
  obtain ⟨x, hx⟩ := Fz 9 t fuel _ _ (ht t (by simp)) h1
  obtain ⟨qs, g1, g2, g3⟩ := UF (fun t' h' => ht t' (by simp [h'])) (fun j t' v' hj hj' => hv (j + 1) t' v' (by simpa using hj) (by simpa using hj')) h2
  refine ⟨x :: qs, ⟨by simp only [List.map_cons, FH, Bool.and_eq_true]; exact ⟨hx.conf, g1.conf⟩, by simp only [WFL]; exact ⟨hx.wf, g1.wf⟩, by simp only [BF, Bool.and_eq_true]; exact ⟨hx.untup, g1.untup⟩⟩, by simp [g2], fun j p' v' hp hv' => ?_⟩
  cases j with
  | zero =>
   simp at hp hv'
   subst hp; subst hv'
   exact Uo (hv 0 t v rfl rfl) hx
  | succ j => simp at hp hv'; exact g3 j p' v' hp hv'
 | [], _ :: _, _, _, _, _, h => by simp [DataW.TrodAll] at h
 | [], [], _ :: _, _, _, _, h => by simp [DataW.TrodAll] at h
 | _ :: _, [], _, _, _, _, h => by simp [DataW.TrodAll] at h
 | _ :: _, _ :: _, [], _, _, _, h => by simp [DataW.TrodAll] at h
theorem NH {w w' : World} {M : T2} (hM : ∀ b o, ¬ M b o) (h : FR M w w') : Below w.heap.size w w' := by
 refine ⟨h.os, h.tape, h.output, h.size, fun k hk => ?_⟩
 rcases h.block k hk with e | ⟨_, _, _, _, _, _, m3⟩ | ⟨cs, cs', t, fz, e1, e2, e3, e4⟩
 ·exact e.symm
 ·exact absurd m3 (hM k 0)
 ·rw [e1, e2]
  have : cs' = cs := by
   apply Array.ext_getElem?
   intro i
   exact e4 i (hM k i)
  rw [this]
theorem law_calls {f : FuncId} {fn : Func} {s : ChangeSpec} {apart fresh handsOn again : Bool} {tb : TypeId} (hl : laidOutB P = true) (hvars : s.vars = []) (hr : fn.resultTypes = #[tb]) (hb : P.underlying tb = some .bool)
  (hbody : Nl P f) (hspec : ∀ ds : List (DataW H), ds.length = fn.params.toList.length → s.fn H ds = { results := [.lit (.bool true)], args := ds })
  (ht : fn.params.toList.all (fun t => okT P 9 t && P.readableRec t && Nat.blt t P.types.size) = true)
  (hpc : ∀ ps, Ins P fn.params.toList ps → PC P (fun _ => none) f [] ps [] (.bool true))
  {W : World} {base : Nat} {args : Array Value} {ds gs : List (DataW H)} {before : List MemPlace}
  (hval : ∀ (j : Nat) t v, fn.params[j]? = some t → args[j]? = some v → Value.okWide P W .any base t v)
  (hW : DataW.Whole enc P fn.params.toList s.vars apart W args.toList ds gs before) :
  Calls P f args W fun e W' => ∃ v, e = .returned v ∧ s.post enc P fn apart fresh handsOn again W args v W' := by
 have ht' : ∀ t ∈ fn.params.toList, okT P 9 t = true ∧ P.readableRec t = true ∧ t < P.types.size := by
  intro t h
  have := List.all_eq_true.1 ht t h
  simp only [Bool.and_eq_true] at this
  exact ⟨this.1.1, this.1.2, Nat.blt_eq ▸ this.2⟩
 have hW' := hW
 obtain ⟨p, q, hA, hV, rfl, hz, hn⟩ := hW
 rw [hvars] at hV
 obtain ⟨rfl, rfl⟩ := trodVars_none hV
 obtain ⟨l1, l2⟩ := trodAll_length hA
 obtain ⟨qs, g1, g2, g3⟩ := UF (base := base) (fun t h => (ht' t h).1) (fun j t v h1 h2 => hval j t v (by rw [← Array.getElem?_toList]; exact h1) (by rw [← Array.getElem?_toList]; exact h2)) hA
 have hM : ∀ b o, ¬ Mut (fun _ => none) (Ad ([] : List (Nat × Row))) b o := by
  rintro b o ⟨i, r, pl, h1, _⟩
  simp [Ad] at h1
 have hc := hpc qs g1
 refine Calls.mono (Enters.calls hbody (hc (fun b _ => b < W.heap.size) (fun _ => none) W args (fun b o _ => hM b o) ⟨fun i r hi => by simp [Ad] at hi, fun i i' r r' pl pl' _ h1 => by simp [Ad] at h1⟩ (fun _ _ => rfl) (fun g c hg => by cases hg)
  (by rw [g2]; simp) (fun j p v hp hv _ => g3 j p v hp (by rw [Array.getElem?_toList]; exact hv)))) fun e W' he => ?_
 obtain ⟨v, ρ', rfl, r1, _, _, r4, _⟩ := he
 have hvb : v = .bool true := by
  have := r1.A7 rfl (fun _ e => by cases e)
  simp only [RO] at this
  cases this
  rfl
 subst hvb
 have hbel := NH hM r4
 have hsp := hspec ds l2
 refine ⟨_, rfl, PO (pa := p) (pv := []) hW' ?_ ?_ ?_ (by simp) hbel ?_⟩
 ·intro b sp hd
  rw [List.append_nil, hsp, hr]
  exact trodAll_mk1 (shut_bool hb true)
 ·intro sp hs
  rw [List.append_nil, hsp]
  exact GK hl hbel (fun t h => (ht' t h).2) hA (fun x hx => hs x (by simp [hx]))
 ·intro sp hs
  rw [List.append_nil, hsp, hvars]
  rfl
 ·rw [hr]
  exact ok_one (f := { fn with resultTypes := #[tb] }) rfl rfl (okWide_bool_mk hb true)
end
end Go.Pe
