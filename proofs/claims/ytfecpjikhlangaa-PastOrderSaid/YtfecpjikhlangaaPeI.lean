/- The plain operations are right, fourth part: fields and indexes, addresses and values. No condition. -/
import Derived.Test.YtfecpjikhlangaaPeH
namespace Go.Pe

section
variable {C : Ctx} {F : Nat → Prop} {ρ : Pls} {s : St} {a : Act} {w : World} {o : Oper} {k : Nat}

theorem info_of_sz {P : Program} {t : TypeId} (h : P.cellsOf t ≠ 0) : ∃ i, P.info? t = some i := by
  cases hi : P.info? t with
  | none => simp [Program.cellsOf, hi] at h
  | some i => exact ⟨i, rfl⟩
theorem szOk_ne {P : Program} {e : TypeId} (h : szOk P e = true) : P.cellsOf e ≠ 0 := by
  intro h0
  simp [szOk, h0] at h

theorem RV.at_ {w : World} {T : T2} {id : Nat} {pl : Pl} (h : ρ id = some pl) (path : List Stp) {x : Nat} (hx : x = pl.off + offOf path) : RV w T ρ (.pointer (some ⟨pl.g, x, none⟩)) (.at id path) :=
  RV.of_leaf rfl (fun _ e => by cases e) trivial (by simp only [RO]; exact ⟨pl, h, by rw [hx]⟩)
theorem RV.cptr_ {w : World} {T : T2} {v : Value} {c : PV} {path : List Stp} (hw : WF c) (hn : noref c = true) (h : RC w T v (.cptr c path)) (r : List Stp) :
    ∃ b x, v = .pointer (some ⟨b, x, none⟩) ∧ RV w T ρ (.pointer (some ⟨b, x + offOf r, none⟩)) (.cptr c (path ++ r)) := by
  cases h with
  | cptr b o' _ _ us h1 h2 =>
    refine ⟨b, _, rfl, RV.of_leaf rfl (fun _ e => by cases e) (by simp only [WF]; exact ⟨hw, hn⟩) ?_⟩
    simp only [RO]
    rw [Nat.add_assoc, ← offOf_append]
    exact .cptr b o' c _ us h1 h2

theorem goes_fieldAddr (h : SimAt C F ρ s a w) {t : TypeId} {x : Operand} {i : Nat} (ho : o.op = .fieldAddr t x i) {v : PV} {ups : List (Nat × Option Row)} {ob : List Prop} {rd : List Nat}
    (hx : (fieldAddrP C.P t (evO C.P C.G 0 s.fr x) i).run s.hp = some (v, ups, ob, rd)) : Goes C F ρ s a w o k v ups := by
  unfold fieldAddrP at hx
  split at hx
  · rename_i fs hu
    split at hx
    · rename_i f hf
      split at hx
      · simp [Pr.run] at hx
      · rename_i hz
        have hz' : C.P.cellsOf f.type ≠ 0 := by intro e; rw [e] at hz; exact hz rfl
        obtain ⟨inf, hi⟩ := info_of_sz hz'
        have hrun : ∀ b off, (execOp a.eval o).run C.P w = .ok (.value (.pointer (some ⟨b, off + f.offset, none⟩))) w ∨ a.eval x ≠ .pointer (some ⟨b, off, none⟩) := by
          intro b off
          by_cases he : a.eval x = .pointer (some ⟨b, off, none⟩)
          · left
            simp only [execOp, ho, he, Instr.fieldAt, Instr.sureAddr, fieldPlace, Sem.run_bind, run_underlying hu, Result.andThen_ok, hf, Sem.run_pure, sizeOf_run hi, if_neg hz', add_none]
          · exact .inr he
        split at hx
        · rename_i id path hA
          simp only [Pr.run, Option.some.injEq, Prod.mk.injEq] at hx
          obtain ⟨rfl, rfl, _, _⟩ := hx
          obtain ⟨pl, p1, p2⟩ := evO_at h hA
          refine Goes.pure h ((hrun _ _).resolve_right (fun hne => hne p2)) fun _ => RV.at_ p1 _ ?_
          simp only [offOf_append, offOf, Stp.off]; omega
        · rename_i c path hA
          simp only [Pr.run, Option.some.injEq, Prod.mk.injEq] at hx
          obtain ⟨rfl, rfl, _, _⟩ := hx
          obtain ⟨w1, w2, w3⟩ := evO_cptr h hA
          obtain ⟨b, y, p2, p3⟩ := RV.cptr_ (ρ := ρ) w1 w2 w3 [.fld i f.offset]
          exact Goes.pure h ((hrun _ _).resolve_right (fun hne => hne p2)) fun _ => p3
        · simp [Pr.run] at hx
    · simp [Pr.run] at hx
  · simp [Pr.run] at hx

theorem evO_vec (h : SimAt C F ρ s a w) {t : TypeId} {x : Operand} {nl : Bool} {c : PV} (he : evO C.P C.G t s.fr x = .vec nl c) :
    WF c ∧ isArr c = true ∧ RC w (Tc C ρ s.hp) (a.eval x) (.vec nl c) := by
  have := evO_rel h t x (by rw [he]; intro e; cases e)
  rw [he] at this
  have h2 := this.to_leaf rfl (fun _ e => by cases e)
  have h1 := this.1
  simp only [WF] at h1
  simp only [RO] at h2
  exact ⟨h1.1, h1.2.1, h2⟩
theorem evO_ref (h : SimAt C F ρ s a w) {t : TypeId} {x : Operand} {id : Nat} {path : List Stp} {sz off n : Nat} (he : evO C.P C.G t s.fr x = .ref id path sz off n) :
    ∃ pl A c, ρ id = some pl ∧ a.eval x = .slice (some A) n c ∧ n ≤ c ∧ c ≤ maxLen ∧ (0 < c → A = ⟨pl.g, pl.off + (offOf path + off * sz), none⟩ ∧ offOf path + off * sz + c * sz ≤ pl.ext) := by
  have := evO_rel h t x (by rw [he]; intro e; cases e)
  rw [he] at this
  have h2 := this.to_leaf rfl (fun _ e => by cases e)
  simpa only [RO] using h2
theorem arr_noref {c : PV} (h : isArr c = true) : noref c = true := by cases c <;> simp [isArr] at h <;> rfl

theorem goes_indexAddr (h : SimAt C F ρ s a w) {t : TypeId} {x y : Operand} (ho : o.op = .indexAddr t x y) {v : PV} {ups : List (Nat × Option Row)} {ob : List Prop} {rd : List Nat}
    (hx : (indexAddrP C.P t (evO C.P C.G t s.fr x) (evO C.P C.G 0 s.fr y)).run s.hp = some (v, ups, ob, rd)) (hob : All ob) : Goes C F ρ s a w o k v ups := by
  unfold indexAddrP at hx
  split at hx
  · rename_i kd i hI
    obtain ⟨e1, _⟩ := evO_int h hI
    split at hx
    · rename_i n e id path hu hA
      split at hx
      · rename_i hz
        simp only [Pr.run, Option.some.injEq, Prod.mk.injEq] at hx
        obtain ⟨rfl, rfl, rfl, _⟩ := hx
        have h0 := hob.head
        have h1 := hob.tail.head
        obtain ⟨inf, hi⟩ := info_of_sz (szOk_ne hz)
        obtain ⟨pl, p1, p2⟩ := evO_at h hA
        refine Goes.pure h (u := .pointer (some ⟨pl.g, pl.off + offOf path + i.toNat * C.P.cellsOf e, none⟩)) ?_ fun _ => RV.at_ p1 _ ?_
        · simp only [execOp, ho, e1, p2, Instr.indexAt, asIntOf, Sem.run_bind, Sem.run_pure, Result.andThen_ok, run_underlying hu, Instr.sureAddr, h0, h1, and_self, if_true, sizeOf_run hi, add_none]
        · simp only [offOf_append, offOf, Stp.off]; omega
      · simp [Pr.run] at hx
    · rename_i n e c path hu hA
      split at hx
      · rename_i hz
        simp only [Pr.run, Option.some.injEq, Prod.mk.injEq] at hx
        obtain ⟨rfl, rfl, rfl, _⟩ := hx
        have h0 := hob.head
        have h1 := hob.tail.head
        obtain ⟨inf, hi⟩ := info_of_sz (szOk_ne hz)
        obtain ⟨w1, w2, w3⟩ := evO_cptr h hA
        obtain ⟨b, z, p2, p3⟩ := RV.cptr_ (ρ := ρ) w1 w2 w3 [.idx i.toNat (C.P.cellsOf e)]
        refine Goes.pure h ?_ fun _ => p3
        simp only [execOp, ho, e1, p2, Instr.indexAt, asIntOf, Sem.run_bind, Sem.run_pure, Result.andThen_ok, run_underlying hu, Instr.sureAddr, h0, h1, and_self, if_true, sizeOf_run hi, add_none, offOf, Stp.off, Nat.add_zero]
      · simp [Pr.run] at hx
    · rename_i e nl c hu hA
      split at hx
      · rename_i hz
        simp only [Bool.and_eq_true] at hz
        simp only [Pr.run, Option.some.injEq, Prod.mk.injEq] at hx
        obtain ⟨rfl, rfl, rfl, _⟩ := hx
        have h0 := hob.head
        have h1 := hob.tail.head
        obtain ⟨inf, hi⟩ := info_of_sz (szOk_ne hz.2)
        obtain ⟨w1, w2, w3⟩ := evO_vec h hA
        generalize hv : a.eval x = vx at w3
        cases w3 with
        | vec0 A cc _ _ hl _ _ => exfalso; rw [hl] at h1; omega
        | vec1 b o' n cc _ us hn hc hm g1 g2 =>
          refine Goes.pure h (u := .pointer (some ⟨b, o' + offOf [.idx i.toNat (C.P.cellsOf e)], none⟩)) ?_ fun _ => RV.of_leaf rfl (fun _ e => by cases e) (by simp only [WF]; exact ⟨w1, arr_noref w2⟩) (by simp only [RO]; exact .cptr b o' c _ us g1 g2)
          rw [hn] at h1
          simp only [execOp, ho, e1, hv, Instr.indexAt, asIntOf, Sem.run_bind, Sem.run_pure, Result.andThen_ok, run_underlying hu, h0, h1, and_self, if_true, sizeOf_run hi, add_none, offOf, Stp.off, Nat.add_zero]
      · simp [Pr.run] at hx
    · rename_i e id path sz off n hu hA
      split at hx
      · rename_i hz
        simp only [Bool.and_eq_true] at hz
        simp only [Pr.run, Option.some.injEq, Prod.mk.injEq] at hx
        obtain ⟨rfl, rfl, rfl, _⟩ := hx
        have h0 := hob.head
        have h1 := hob.tail.head
        obtain ⟨inf, hi⟩ := info_of_sz (szOk_ne hz.2)
        have hsz := Nat.eq_of_beq_eq_true hz.1
        obtain ⟨pl, A, c, p1, p2, p3, _, p4⟩ := evO_ref h hA
        obtain ⟨rfl, _⟩ := p4 (by omega)
        refine Goes.pure h (u := .pointer (some ⟨pl.g, pl.off + (offOf path + off * sz) + i.toNat * sz, none⟩)) ?_ fun _ => RV.at_ p1 _ ?_
        · simp only [execOp, ho, e1, p2, Instr.indexAt, asIntOf, Sem.run_bind, Sem.run_pure, Result.andThen_ok, run_underlying hu, h0, h1, and_self, if_true, sizeOf_run hi, add_none, hsz]
        · simp only [offOf_append, offOf, Stp.off, Nat.add_mul]; omega
      · simp [Pr.run] at hx
    · simp [Pr.run] at hx
  · simp [Pr.run] at hx

theorem part_run {P : Program} {t : TypeId} {T : T2} {cs : Array Value} {off : Nat} {q : PV} (hw : WF q) (hs : P.cellsOf t = size q) (ha : isAggT P t = Pe.isAgg q) (ht : isTup q = false) (hok : tyOk P t = true)
    (hin : off + size q ≤ cs.size) (hc : ∀ (j : Nat) (x : PV) (u : Value), (flat q)[j]? = some x → cs[off + j]? = some u → RO w T ρ u x) : ∃ v, (part t cs off).run P w = .ok v w ∧ RV w T ρ v q := by
  obtain ⟨i, hi⟩ := info_of_tyOk hok
  have htup : ∀ vs, q ≠ .tup vs := fun vs e => by subst e; cases ht
  unfold part
  rw [Sem.run_bind, isAgg_run hok, Result.andThen_ok, ha]
  cases hg : Pe.isAgg q with
  | true =>
    refine ⟨.agg (cs.extract off (off + size q)), ?_, RV.of_agg hg hw ⟨_, rfl, by simp; omega, fun j x u hx hu => ?_⟩⟩
    · simp only [if_true, Sem.run_bind, sizeOf_run hi, Result.andThen_ok, hs, Sem.run_pure]
    · have hj : j < size q := by
        have := (List.getElem?_eq_some_iff.1 hx).1
        rw [flat_length q hw] at this
        exact this
      refine hc j x u hx ?_
      rw [Array.getElem?_extract, if_pos (by omega)] at hu
      exact hu
  | false =>
    have hl : Pe.leaf q = true := by rw [Pe.leaf_agg, hg]; rfl
    have hs1 : size q = 1 := by cases q <;> simp only [Pe.leaf, reduceCtorEq] at hl <;> rfl
    have hu : cs[off]? = some cs[off] := Array.getElem?_eq_getElem (by omega)
    refine ⟨cs[off], ?_, RV.of_leaf hl htup hw (hc 0 q _ (by rw [flat_leaf hl]; rfl) (by simp))⟩
    simp [hu]

theorem evO_agg (h : SimAt C F ρ s a w) {t : TypeId} {x : Operand} (hne : evO C.P C.G t s.fr x ≠ .undef) (ha : Pe.isAgg (evO C.P C.G t s.fr x) = true) :
    WF (evO C.P C.G t s.fr x) ∧ RA w (Tc C ρ s.hp) ρ (a.eval x) (evO C.P C.G t s.fr x) := by
  have := evO_rel h t x hne
  exact ⟨this.1, this.to_agg ha⟩

theorem goes_field (h : SimAt C F ρ s a w) {t : TypeId} {x : Operand} {i : Nat} (ho : o.op = .field t x i) {v : PV} {ups : List (Nat × Option Row)} {ob : List Prop} {rd : List Nat}
    (hx : (fieldP C.P t (evO C.P C.G t s.fr x) i).run s.hp = some (v, ups, ob, rd)) : Goes C F ρ s a w o k v ups := by
  unfold fieldP at hx
  split at hx
  · rename_i fs hu
    split at hx
    · rename_i f n ps hf hA
      split at hx
      · rename_i q hq
        split at hx
        · rename_i hb
          simp only [Bool.and_eq_true, Bool.not_eq_true', beq_iff_eq] at hb
          obtain ⟨⟨⟨⟨b0, b1⟩, b2⟩, b3⟩, b4⟩ := hb
          simp only [Pr.run, Option.some.injEq, Prod.mk.injEq] at hx
          obtain ⟨rfl, rfl, _, _⟩ := hx
          obtain ⟨w1, cs, w2, w3, w4⟩ := evO_agg h (t := t) (x := x) (by rw [hA]; intro e; cases e) (by rw [hA]; rfl)
          rw [hA] at w1 w3 w4
          have hc : child (.st n ps) (.fld i f.offset) = some q := by simp only [child, b0, if_true, hq]
          obtain ⟨c1, c2, c3, c4⟩ := child_flat w1 hc All.nil
          simp only [Stp.off] at c2 c3
          obtain ⟨u, h1, h2⟩ := part_run (P := C.P) (w := w) (ρ := ρ) (T := Tc C ρ s.hp) (cs := cs) (off := f.offset) c1 (Nat.eq_of_beq_eq_true b1) b2 b3 b4 (by omega) (fun j y u hy hu => by
            have hj : j < size q := by
              have := (List.getElem?_eq_some_iff.1 hy).1
              rw [flat_length q c1] at this
              exact this
            exact w4 _ y u (by rw [c3 j hj]; exact hy) hu)
          exact Goes.pure h (by simp only [execOp, ho, Instr.field, w2, asAgg, Sem.run_bind, run_underlying hu, Result.andThen_ok, hf, Sem.run_pure, h1]) fun _ => h2
        · simp [Pr.run] at hx
      · simp [Pr.run] at hx
    · simp [Pr.run] at hx
  · simp [Pr.run] at hx

theorem goes_index (h : SimAt C F ρ s a w) {t : TypeId} {x y : Operand} (ho : o.op = .index t x y) {v : PV} {ups : List (Nat × Option Row)} {ob : List Prop} {rd : List Nat}
    (hx : (indexP C.P t (evO C.P C.G t s.fr x) (evO C.P C.G 0 s.fr y)).run s.hp = some (v, ups, ob, rd)) (hob : All ob) : Goes C F ρ s a w o k v ups := by
  unfold indexP at hx
  split at hx
  · rename_i kd i hI
    obtain ⟨e1, _⟩ := evO_int h hI
    split at hx
    · rename_i n e hu
      split at hx
      · rename_i harr
        split at hx
        · rename_i q hq
          split at hx
          · rename_i hb
            simp only [Bool.and_eq_true, Bool.not_eq_true', beq_iff_eq] at hb
            obtain ⟨⟨⟨⟨b1, b2⟩, b0⟩, b3⟩, b4⟩ := hb
            simp only [Pr.run, Option.some.injEq, Prod.mk.injEq] at hx
            obtain ⟨rfl, rfl, rfl, _⟩ := hx
            have h0 := hob.head
            have h1 := hob.tail.head
            have b0 := Nat.eq_of_beq_eq_true b0
            have hagg : Pe.isAgg (evO C.P C.G t s.fr x) = true := by
              generalize evO C.P C.G t s.fr x = c at harr
              cases c <;> first | rfl | (simp [isArr] at harr)
            obtain ⟨w1, cs, w2, w3, w4⟩ := evO_agg h (t := t) (x := x) (by intro e; rw [e] at hagg; cases hagg) hagg
            obtain ⟨inf, hi⟩ := info_of_tyOk b4
            obtain ⟨c1, c2, c3, c4⟩ := child_flat w1 hq (All.cons (by omega) All.nil)
            simp only [Stp.off] at c2 c3
            obtain ⟨u, g1, g2⟩ := part_run (P := C.P) (w := w) (ρ := ρ) (T := Tc C ρ s.hp) (cs := cs) (off := i.toNat * C.P.cellsOf e) c1 (Nat.eq_of_beq_eq_true b1) b2 b3 b4 (by omega) (fun j y u hy hu => by
              have hj : j < size q := by
                have := (List.getElem?_eq_some_iff.1 hy).1
                rw [flat_length q c1] at this
                exact this
              exact w4 _ y u (by rw [c3 j hj]; exact hy) hu)
            exact Goes.pure h (by simp only [execOp, ho, Instr.index, w2, e1, asIntOf, Sem.run_bind, run_underlying hu, Result.andThen_ok, Sem.run_pure, h0, h1, and_self, if_true, sizeOf_run hi, g1]) fun _ => g2
          · simp [Pr.run] at hx
        · simp [Pr.run] at hx
      · simp [Pr.run] at hx
    · rename_i b hu hA
      simp only [Pr.run, Option.some.injEq, Prod.mk.injEq] at hx
      obtain ⟨rfl, rfl, rfl, _⟩ := hx
      have h0 := hob.head
      have h1 := hob.tail.head
      obtain ⟨e2, _⟩ := evO_str h hA
      have hlt : i.toNat < b.size := by omega
      have hb : b[i.toNat]? = some b[i.toNat] := by simp [hlt]
      have hv : byteAt b i = (b[i.toNat].toNat : Int) := by
        unfold byteAt
        rw [Array.getD_eq_getD_getElem?, show b.data[i.toNat]? = some b.data[i.toNat] from Array.getElem?_eq_getElem hlt]
        rfl
      refine Goes.pure h (u := .int .u8 (byteAt b i)) ?_ fun _ => RV.int ?_
      · rw [hv]
        have hidx : (Instr.index t (.string b) (.int kd i)).run C.P w = .ok (.int .u8 (b[i.toNat].toNat : Int)) w := by
          simp only [Instr.index, asIntOf, Sem.run_bind, Sem.run_pure, Result.andThen_ok, run_underlying hu]
          rw [if_pos h0, hb]
          rfl
        simp only [execOp, ho, e1, e2, Sem.run_bind]
        rw [hidx]
        rfl
      · rw [hv, wrap_bounds]
        have := b[i.toNat].toNat_lt
        have m1 : IntKind.u8.min = 0 := by decide
        have m2 : IntKind.u8.max = 255 := by decide
        omega
    · simp [Pr.run] at hx
  · simp [Pr.run] at hx

theorem goes_extract (h : SimAt C F ρ s a w) {x : Operand} {i : Nat} (ho : o.op = .extract x i) {ps : List PV} (hA : evO C.P C.G 0 s.fr x = .tup ps) {v : PV} (hi : ps[i]? = some v) : Goes C F ρ s a w o k v [] := by
  have hr := evO_rel h 0 x (by rw [hA]; intro e; cases e)
  rw [hA] at hr
  obtain ⟨hw, vs, h1, h2, h3⟩ := hr
  have hlt : i < vs.size := by have := (List.getElem?_eq_some_iff.1 hi).1; omega
  have hu : vs[i]? = some vs[i] := Array.getElem?_eq_getElem hlt
  simp only [WF] at hw
  have hwv := WFL_mem hw v (List.mem_of_getElem? hi)
  refine Goes.pure h (u := vs[i]) (by simp only [execOp, ho, Instr.extract, h1, hu]; rfl) fun _ => ?_
  have hn := h3 i v _ hi hu
  by_cases ht : ∃ l, v = .tup l
  · obtain ⟨l, rfl⟩ := ht
    simp only [RN, Pe.isAgg, Bool.false_eq_true, if_false, RO] at hn
    generalize vs[i] = u at hn
    cases hn
  · exact RV.of_RN hwv (fun l e => ht ⟨l, e⟩) hn

theorem goes_nilCheck (h : SimAt C F ρ s a w) {x : Operand} (ho : o.op = .nilCheck x) {v : PV} (hA : evO C.P C.G 0 s.fr x = v) (hv : (∃ id path, v = .at id path) ∨ (∃ c path, v = .cptr c path)) : Goes C F ρ s a w o k v [] := by
  have hr := evO_rel h 0 x (by rw [hA]; rcases hv with ⟨_, _, rfl⟩ | ⟨_, _, rfl⟩ <;> intro e <;> cases e)
  rw [hA] at hr
  rcases hv with ⟨id, path, rfl⟩ | ⟨c, path, rfl⟩
  · obtain ⟨pl, p1, p2⟩ := evO_at h hA
    exact Goes.pure h (by simp only [execOp, ho, p2]; rfl) fun _ => by rw [← p2]; exact hr
  · obtain ⟨w1, w2, w3⟩ := evO_cptr h hA
    obtain ⟨b, y, p2, p3⟩ := RV.cptr_ (ρ := ρ) w1 w2 w3 []
    exact Goes.pure h (by simp only [execOp, ho, p2]; rfl) fun _ => by rw [← p2]; exact hr
end
end Go.Pe
