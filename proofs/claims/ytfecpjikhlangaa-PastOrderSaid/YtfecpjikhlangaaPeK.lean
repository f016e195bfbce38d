/- The plain operations are right, sixth part: parts of slices and strings, conversions, build. No condition. -/
import Derived.Test.YtfecpjikhlangaaPeJ
namespace Go.Pe

section
variable {C : Ctx} {F : Nat → Prop} {ρ : Pls} {s : St} {a : Act} {w : World} {o : Oper} {k : Nat}

/- parts of arrays -/
theorem drop0_eq {α : Type} (l : List α) (a : Nat) : drop0 l a = l.drop a := by cases a <;> rfl
theorem flatL_drop {sz : Nat} : ∀ {l : List PV}, WFL l → (∀ q ∈ l, size q = sz) → ∀ a, flatL (l.drop a) = (flatL l).drop (a * sz)
  | [], _, _, a => by simp [flatL]
  | p :: l, hw, hs, 0 => by simp
  | p :: l, hw, hs, a + 1 => by
    simp only [WFL] at hw
    have e := flat_length p hw.1
    rw [hs p (by simp)] at e
    have e2 : (a + 1) * sz = a * sz + sz := by rw [Nat.add_mul]; omega
    have e3 : (flat p).drop ((a + 1) * sz) = [] := List.drop_eq_nil_of_le (by omega)
    rw [List.drop_succ_cons, flatL_drop hw.2 (fun q hq => hs q (by simp [hq])) a, flatL, List.drop_append, e3, e, show (a + 1) * sz - sz = a * sz by omega, List.nil_append]
theorem sub_spec {c : PV} {x n : Nat} (hw : WF c) (ha : isArr c = true) (hb : x + n ≤ arrLen c) :
    WF (sub c x n) ∧ isArr (sub c x n) = true ∧ arrLen (sub c x n) = n ∧ elSize (sub c x n) = elSize c ∧
      ∀ (j : Nat) (q : PV), (flat (sub c x n))[j]? = some q → (flat c)[x * elSize c + j]? = some q := by
  cases c <;> simp only [isArr, reduceCtorEq] at ha
  case iarr kd m l =>
    simp only [arrLen] at hb
    simp only [WF] at hw
    simp only [sub, drop0_eq]
    refine ⟨?_, rfl, rfl, rfl, fun j q hq => ?_⟩
    · simp only [WF]
      refine ⟨by simp; omega, fun y hy => hw.2 y (List.mem_of_mem_drop (List.mem_of_mem_take hy))⟩
    · simp only [flat, elSize, Nat.mul_one, List.getElem?_map] at hq ⊢
      rw [List.getElem?_take] at hq
      split at hq
      · rwa [List.getElem?_drop] at hq
      · simp at hq
  case parr sz m sh l =>
    simp only [arrLen] at hb
    simp only [WF] at hw
    simp only [sub, drop0_eq]
    have hmem : ∀ q ∈ (l.drop x).take n, q ∈ l := fun q hq => List.mem_of_mem_drop (List.mem_of_mem_take hq)
    refine ⟨?_, rfl, rfl, rfl, fun j q hq => ?_⟩
    · simp only [WF]
      exact ⟨by simp; omega, WFL_of fun q hq => WFL_mem hw.2.1 q (hmem q hq), fun q hq => hw.2.2 q (hmem q hq)⟩
    · simp only [flat, elSize] at hq ⊢
      have e1 : flatL (l.drop x) = (flatL l).drop (x * sz) := flatL_drop hw.2.1 (fun q hq => (hw.2.2 q hq).1) x
      have e2 : flatL (l.drop x) = flatL ((l.drop x).take n) ++ flatL ((l.drop x).drop n) := by rw [← flatL_append, List.take_append_drop]
      have hj : j < (flatL ((l.drop x).take n)).length := (List.getElem?_eq_some_iff.1 hq).1
      rw [← List.getElem?_drop, ← e1, e2, List.getElem?_append_left hj]
      exact hq

/-- THE BOUNDS OF A SLICE EXPRESSION WITHOUT A THIRD ONE. -/
theorem bounds_run {P : Program} (isS : Bool) (len cap : Nat) (lo hi : Option Value) (l h : Nat) (hl : lo = none ∧ l = 0 ∨ ∃ kd, lo = some (.int kd l)) (hh : hi = none ∧ h = len ∨ ∃ kd, hi = some (.int kd h)) (h1 : l ≤ h) (h2 : h ≤ cap) :
    (Instr.sliceBounds isS len cap lo hi none).run P w = .ok (l, h, cap) w := by
  have b1 : ∀ (kd : IntKind) (n y : Nat) (code : BoundsCode), n ≤ y → (Instr.sliceBound (.int kd (n : Int)) y code).run P w = .ok n w := by
    intro kd n y code hn
    have hc : (0 : Int) ≤ n ∧ (n : Int) ≤ y := by omega
    simp only [Instr.sliceBound, asIntOf, pure_bind, if_pos hc, Sem.run_pure, Int.toNat_natCast]
  unfold Instr.sliceBounds
  rcases hl with ⟨rfl, rfl⟩ | ⟨kd, rfl⟩ <;> rcases hh with ⟨rfl, rfl⟩ | ⟨kd', rfl⟩
  · rfl
  · simp only [Sem.run_bind, Sem.run_pure, Result.andThen_ok, b1 kd' h cap _ h2]
  · simp only [Sem.run_bind, Sem.run_pure, Result.andThen_ok, b1 kd l h _ h1]
  · simp only [Sem.run_bind, Sem.run_pure, Result.andThen_ok, b1 kd' h cap _ h2, b1 kd l h _ h1]

theorem lo_form (h : SimAt C F ρ s a w) {lo : Option Operand} {l : Int} (he : intOr 0 (lo.map (evO C.P C.G 0 s.fr)) = some l) (h0 : 0 ≤ l) : lo.map a.eval = none ∧ l.toNat = 0 ∨ ∃ kd, lo.map a.eval = some (.int kd (l.toNat : Int)) := by
  cases lo with
  | none => simp only [Option.map_none, intOr, Option.some.injEq] at he; exact .inl ⟨rfl, by omega⟩
  | some x =>
    simp only [Option.map_some] at he ⊢
    generalize hA : evO C.P C.G 0 s.fr x = A at he
    unfold intOr at he
    split at he
    · rename_i heq; cases heq
    · rename_i kd n heq
      simp only [Option.some.injEq] at heq he
      subst he
      rw [heq] at hA
      obtain ⟨e, _⟩ := evO_int h hA
      exact .inr ⟨kd, by rw [e, Int.toNat_of_nonneg h0]⟩
    · cases he
theorem hi_form (h : SimAt C F ρ s a w) {hi : Option Operand} {len : Nat} {m : Int} (he : intOr len (hi.map (evO C.P C.G 0 s.fr)) = some m) (h0 : 0 ≤ m) : hi.map a.eval = none ∧ m.toNat = len ∨ ∃ kd, hi.map a.eval = some (.int kd (m.toNat : Int)) := by
  cases hi with
  | none => simp only [Option.map_none, intOr, Option.some.injEq] at he; exact .inl ⟨rfl, by omega⟩
  | some x =>
    simp only [Option.map_some] at he ⊢
    generalize hA : evO C.P C.G 0 s.fr x = A at he
    unfold intOr at he
    split at he
    · rename_i heq; cases heq
    · rename_i kd n heq
      simp only [Option.some.injEq] at heq he
      subst he
      rw [heq] at hA
      obtain ⟨e, _⟩ := evO_int h hA
      exact .inr ⟨kd, by rw [e, Int.toNat_of_nonneg h0]⟩
    · cases he

theorem goes_slice (h : SimAt C F ρ s a w) {t : TypeId} {x : Operand} {lo hi : Option Operand} (ho : o.op = .slice t x lo hi none) {v : PV} {ups : List (Nat × Option Row)} {ob : List Prop} {rd : List Nat}
    (hx : (sliceP C.P t (evO C.P C.G t s.fr x) (lo.map (evO C.P C.G 0 s.fr)) (hi.map (evO C.P C.G 0 s.fr))).run s.hp = some (v, ups, ob, rd)) (hob : All ob) : Goes C F ρ s a w o k v ups := by
  have hexec : execOp a.eval o = (do pure (.value (← Instr.sliceAt t (a.eval x) (lo.map a.eval) (hi.map a.eval) none)) : Sem Next) := by simp only [execOp, ho, Option.map_none]
  have hrun : ∀ u, (Instr.sliceAt t (a.eval x) (lo.map a.eval) (hi.map a.eval) none).run C.P w = .ok u w → (execOp a.eval o).run C.P w = .ok (.value u) w := by
    intro u hu
    rw [hexec, Sem.run_bind, hu]
    rfl
  unfold sliceP at hx
  split at hx
  · simp [Pr.run] at hx
  · rename_i l hl
    split at hx
    · -- a string
      rename_i b hu hA
      split at hx
      · rename_i m hm
        simp only [Pr.run, Option.some.injEq, Prod.mk.injEq] at hx
        obtain ⟨rfl, rfl, rfl, _⟩ := hx
        have h0 := hob.head; have h1 := hob.tail.head; have h2 := hob.tail.tail.head
        obtain ⟨e, hs⟩ := evO_str h hA
        have hb := bounds_run (P := C.P) (w := w) false b.size b.size _ _ l.toNat m.toNat (lo_form h hl h0) (hi_form h hm (by omega)) (by omega) (by omega)
        refine Goes.pure h (hrun (.string (b.extract l.toNat m.toNat)) ?_) fun _ => RV.str ?_
        · simp only [Instr.sliceAt, Instr.slice, Sem.run_bind, run_underlying hu, Result.andThen_ok, e, Option.isSome_none, Bool.false_eq_true, if_false, Sem.run_pure, hb]
        · rw [ByteArray.size_extract]; omega
      · simp [Pr.run] at hx
    · -- an immutable slice
      rename_i e nl c hu hA
      split at hx
      · rename_i m hm
        split at hx
        · rename_i hz
          simp only [Bool.and_eq_true] at hz
          simp only [Pr.run, Option.some.injEq, Prod.mk.injEq] at hx
          obtain ⟨rfl, rfl, rfl, _⟩ := hx
          have h0 := hob.head; have h1 := hob.tail.head; have h2 := hob.tail.tail.head
          obtain ⟨inf, hi'⟩ := info_of_sz (szOk_ne hz.2)
          have hsz := Nat.eq_of_beq_eq_true hz.1
          obtain ⟨w1, w2, w3⟩ := evO_vec h hA
          obtain ⟨s1, s2, s3, s4, s5⟩ := sub_spec w1 w2 (x := l.toNat) (n := (m - l).toNat) (by omega)
          have hlen : (m - l).toNat = m.toNat - l.toNat := by omega
          generalize hv : a.eval x = vx at w3 hrun
          cases w3 with
          | vec0 A cc _ _ hl0 hn hcn =>
            rw [hl0] at h2 hm
            have hb := bounds_run (P := C.P) (w := w) true 0 cc _ _ l.toNat m.toNat (lo_form h hl h0) (hi_form h hm (by omega)) (by omega) (by omega)
            have e1 : l.toNat = 0 := by omega
            have e2 : m.toNat = 0 := by omega
            refine Goes.pure h (hrun (.slice (if cc = l.toNat then A else A.map (·.add (l.toNat * C.P.cellsOf e))) (m.toNat - l.toNat) (cc - l.toNat)) ?_) fun _ => ?_
            · simp only [Instr.sliceAt, Instr.slice, Sem.run_bind, run_underlying hu, Result.andThen_ok, hb, sizeOf_run hi', Sem.run_pure]
            · refine RV.of_leaf rfl (fun _ e => by cases e) (by simp only [WF]; exact ⟨s1, s2, fun _ => by rw [s3]; omega⟩) ?_
              simp only [RO]
              rw [show m.toNat - l.toNat = 0 by omega]
              refine .vec0 _ _ _ _ (by rw [s3]; omega) ?_ ?_
              · rw [hn]
                split
                · rfl
                · cases A <;> rfl
              · intro hA'
                have : A = none := by
                  split at hA'
                  · exact hA'
                  · simpa using hA'
                have := hcn this
                omega
          | vec1 b o' n cc _ us hn hc hmx g1 g2 =>
            rw [hn] at h2 hm
            have hb := bounds_run (P := C.P) (w := w) true n cc _ _ l.toNat m.toNat (lo_form h hl h0) (hi_form h hm (by omega)) (by omega) (by omega)
            refine Goes.pure h (hrun (.slice (if cc = l.toNat then some ⟨b, o', none⟩ else (some (⟨b, o', none⟩ : Addr)).map (·.add (l.toNat * C.P.cellsOf e))) (m.toNat - l.toNat) (cc - l.toNat)) ?_) fun _ => ?_
            · simp only [Instr.sliceAt, Instr.slice, Sem.run_bind, run_underlying hu, Result.andThen_ok, hb, sizeOf_run hi', Sem.run_pure]
            · refine RV.of_leaf rfl (fun _ e => by cases e) (by simp only [WF]; exact ⟨s1, s2, fun e => by cases e⟩) ?_
              simp only [RO]
              by_cases hcl : cc = l.toNat
              · rw [if_pos hcl, show m.toNat - l.toNat = 0 by omega]
                exact .vec0 _ _ _ _ (by rw [s3]; omega) rfl (fun h => by cases h)
              · rw [if_neg hcl, Option.map_some, add_none, hsz]
                refine .vec1 b _ _ _ _ (fun j => us (l.toNat * elSize c + j)) (by rw [s3, hlen]) (by omega) (by omega) (fun j q hq => ?_) (fun j q hq => ?_)
                · have := g1 _ q (s5 j q hq)
                  rwa [← Nat.add_assoc] at this
                · exact g2 _ q (s5 j q hq)
        · simp [Pr.run] at hx
      · simp [Pr.run] at hx
    · -- a slice of a row
      rename_i e id path sz off n hu hA
      split at hx
      · rename_i m hm
        split at hx
        · rename_i hz
          simp only [Bool.and_eq_true] at hz
          simp only [Pr.run, Option.some.injEq, Prod.mk.injEq] at hx
          obtain ⟨rfl, rfl, rfl, _⟩ := hx
          have h0 := hob.head; have h1 := hob.tail.head; have h2 := hob.tail.tail.head
          obtain ⟨inf, hi'⟩ := info_of_sz (szOk_ne hz.2)
          have hsz := Nat.eq_of_beq_eq_true hz.1
          obtain ⟨pl, A, c, p1, p2, p3, p5, p4⟩ := evO_ref h hA
          have hb := bounds_run (P := C.P) (w := w) true n c _ _ l.toNat m.toNat (lo_form h hl h0) (hi_form h hm (by omega)) (by omega) (by omega)
          have hlen : (m - l).toNat = m.toNat - l.toNat := by omega
          refine Goes.pure h (hrun (.slice (if c = l.toNat then some A else (some A).map (·.add (l.toNat * C.P.cellsOf e))) (m.toNat - l.toNat) (c - l.toNat)) ?_) fun _ => ?_
          · simp only [Instr.sliceAt, Instr.slice, Sem.run_bind, run_underlying hu, Result.andThen_ok, p2, hb, sizeOf_run hi', Sem.run_pure]
          · refine RV.of_leaf rfl (fun _ e => by cases e) trivial ?_
            simp only [RO]
            rw [hlen]
            by_cases hcl : c = l.toNat
            · rw [if_pos hcl]
              exact ⟨pl, A, _, p1, rfl, by omega, by omega, fun hpos => by omega⟩
            · rw [if_neg hcl]
              refine ⟨pl, _, _, p1, rfl, by omega, by omega, fun hpos => ?_⟩
              obtain ⟨rfl, q2⟩ := p4 (by omega)
              have hle : l.toNat ≤ c := by omega
              obtain ⟨d, hd⟩ : ∃ d, c = l.toNat + d := ⟨c - l.toNat, by omega⟩
              refine ⟨by show (⟨_, _, none⟩ : Addr).add _ = _; rw [add_none, hsz, Nat.add_mul]; simp only [Addr.mk.injEq, true_and, and_true]; omega, ?_⟩
              rw [hd, Nat.add_sub_cancel_left]
              rw [hd, Nat.add_mul] at q2
              rw [Nat.add_mul]
              omega
        · simp [Pr.run] at hx
      · simp [Pr.run] at hx
    · -- an array's address
      rename_i n e id path hu hA
      split at hx
      · rename_i m hm
        simp only [Pr.run] at hx
        split at hx
        · rename_i row hr
          split at hx
          · rename_i q hq
            split at hx
            · rename_i hz
              simp only [Bool.and_eq_true] at hz
              obtain ⟨⟨z1, z2⟩, z3⟩ := hz
              simp only [Pr.run, Option.map_some, Option.some.injEq, Prod.mk.injEq] at hx
              obtain ⟨rfl, rfl, rfl, _⟩ := hx
              have h0 := hob.head; have h1 := hob.tail.head; have h2 := hob.tail.tail.head
              have hpo : All (pathOb row.c path) := hob.tail.tail.tail
              obtain ⟨inf, hi'⟩ := info_of_sz (szOk_ne z2)
              have hsz := Nat.eq_of_beq_eq_true z1
              have hmax := Nat.le_of_ble_eq_true z3
              obtain ⟨pl, p1, p2⟩ := evO_at h hA
              obtain ⟨pl', p1', hrel⟩ := h.heap.row id row hr
              rw [p1] at p1'
              cases p1'
              obtain ⟨_, _, c2, _⟩ := hrel.cellsAt hq hpo
              obtain ⟨_, _, _, _, _, r3, _⟩ := hrel
              have hb := bounds_run (P := C.P) (w := w) false n n _ _ l.toNat m.toNat (lo_form h hl h0) (hi_form h hm (by omega)) (by omega) (by omega)
              have hlen : (m - l).toNat = m.toNat - l.toNat := by omega
              refine Goes.pure h (hrun (.slice (some (if n = l.toNat then ⟨pl.g, pl.off + offOf path, none⟩ else (⟨pl.g, pl.off + offOf path, none⟩ : Addr).add (l.toNat * C.P.cellsOf e))) (m.toNat - l.toNat) (n - l.toNat)) ?_) fun _ => ?_
              · simp only [Instr.sliceAt, Sem.run_bind, run_underlying hu, Result.andThen_ok, p2, Instr.sureAddr, Sem.run_pure, hb, sizeOf_run hi']
              · refine RV.of_leaf rfl (fun _ e => by cases e) trivial ?_
                simp only [RO]
                rw [hlen]
                refine ⟨pl, _, _, p1, rfl, by omega, by omega, fun hpos => ?_⟩
                rw [if_neg (by omega), add_none]
                obtain ⟨d, hd⟩ : ∃ d, n = l.toNat + d := ⟨n - l.toNat, by omega⟩
                rw [hsz] at c2
                rw [hd, Nat.add_mul] at c2
                refine ⟨by simp only [Addr.mk.injEq, true_and, and_true]; omega, ?_⟩
                rw [hd, Nat.add_sub_cancel_left]
                omega
            · simp [Pr.run] at hx
          · simp [Pr.run] at hx
        · cases hx
      · simp [Pr.run] at hx
    · simp [Pr.run] at hx
end
end Go.Pe
