/- The plain operations are right, first part: operands, moves, new variables, loads, stores, arithmetic. No condition. -/
import Derived.Test.YtfecpjikhlangaaPeE
namespace Go.Pe

theorem SimAt.less {C : Ctx} {F F' : Nat → Prop} {ρ : Pls} {s : St} {a : Act} {w : World} (h : SimAt C F ρ s a w) (hF : ∀ i, F' i → F i) : SimAt C F' ρ s a w :=
  ⟨h.defers, h.size, h.fr, h.heap, fun i hi => h.free i (hF i hi), h.inn, h.frame, h.glob⟩

theorem wp_value {P : Program} {o : Oper} {a : Act} {w w' : World} {K : Act → World → Prop} {Q : Exit → Act → World → Prop} {u : Value}
    (hr : (execOp a.eval o).run P w = .ok (.value u) w') (hK : K (a.put o.dst u) w') : o.wp P a w K Q := by
  unfold Oper.wp
  rw [hr]
  exact hK
theorem wp_skip' {P : Program} {o : Oper} {a : Act} {w w' : World} {K : Act → World → Prop} {Q : Exit → Act → World → Prop}
    (hr : (execOp a.eval o).run P w = .ok .skip w') (hK : K (a.put o.dst Go.undef) w') : o.wp P a w K Q := by
  unfold Oper.wp
  rw [hr]
  exact hK

/-- What the operation o must do: it ends in a value that stands for v, behind the changes of the rows. -/
def Goes (C : Ctx) (F : Nat → Prop) (ρ : Pls) (s : St) (a : Act) (w : World) (o : Oper) (k : Nat) (v : PV) (ups : List (Nat × Option Row)) : Prop :=
  ∀ (K : Act → World → Prop) (Q : Exit → Act → World → Prop),
    (∀ (u : Value) (w' : World) (ρ' : Pls), Ext ρ ρ' → SimAt C (fun id => F id ∧ (id < k ∨ k + 16 ≤ id)) ρ' { s with hp := applyUps s.hp ups } a w' →
      (v ≠ .undef → RV w' (Tc C ρ' (applyUps s.hp ups)) ρ' u v) → K (a.put o.dst u) w') → o.wp C.P a w K Q

section
variable {C : Ctx} {F : Nat → Prop} {ρ : Pls} {s : St} {a : Act} {w : World} {o : Oper} {k : Nat}

theorem Goes.pure (h : SimAt C F ρ s a w) {v : PV} {u : Value} (hr : (execOp a.eval o).run C.P w = .ok (.value u) w) (hv : v ≠ .undef → RV w (Tc C ρ s.hp) ρ u v) : Goes C F ρ s a w o k v [] :=
  fun _ _ hK => wp_value hr (hK u w ρ (Ext.refl _) (h.less fun _ hi => hi.1) hv)

theorem wfB_WF : ∀ (p : PV), wfB p = true → WF p := by
  intro p
  exact PV.rec (motive_1 := fun p => wfB p = true → WF p) (motive_2 := fun l => wfBL l = true → WFL l)
    (fun k n h => by simpa [wfB, WF] using h) (fun _ _ => trivial) (fun _ _ => trivial)
    (fun n fs ih h => by simp only [wfB, Bool.and_eq_true] at h; exact ⟨Nat.eq_of_beq_eq_true h.1, ih h.2⟩)
    (fun k n l h => by
      simp only [wfB, Bool.and_eq_true, List.all_eq_true, decide_eq_true_eq] at h
      exact ⟨Nat.eq_of_beq_eq_true h.1, h.2⟩)
    (fun s n sh l ih h => by
      simp only [wfB, Bool.and_eq_true, List.all_eq_true] at h
      exact ⟨Nat.eq_of_beq_eq_true h.1.1, ih h.1.2, fun q hq => ⟨Nat.eq_of_beq_eq_true (h.2 q hq).1.1, (h.2 q hq).1.2, (h.2 q hq).2⟩⟩)
    (fun vs _ h => by simp [wfB] at h)
    (fun nl c ih h => by
      simp only [wfB, Bool.and_eq_true, Bool.or_eq_true, Bool.not_eq_true'] at h
      refine ⟨ih h.1.1, h.1.2, fun e => ?_⟩
      rcases h.2 with h2 | h2
      · rw [e] at h2; cases h2
      · exact Nat.eq_of_beq_eq_true h2)
    (fun c path _ h => by simp [wfB] at h)
    (fun _ _ _ => trivial) (fun _ _ _ _ _ _ => trivial) (fun _ => trivial) (fun _ => trivial)
    (fun _ => trivial) (fun p l ih1 ih2 h => by simp only [wfBL, Bool.and_eq_true] at h; exact ⟨ih1 h.1, ih2 h.2⟩) p

theorem leafIs_RC {w : World} {T : T2} {q : PV} {v : Value} (h : leafIs q v = true) : RC w T v q := by
  unfold leafIs at h
  split at h
  · simp only [Bool.and_eq_true, decide_eq_true_eq] at h
    obtain ⟨h1, rfl⟩ := h
    rw [IntKind.same_eq h1]
    exact .int _ _
  · simp only [beq_iff_eq] at h
    subst h
    exact .bool _
  · rename_i x y
    simp only [Bool.and_eq_true] at h
    have h1 := Nat.eq_of_beq_eq_true h.1
    have h2 := Nat.eq_of_beq_eq_true h.2
    have : x = y := by
      obtain ⟨⟨x⟩⟩ := x
      obtain ⟨⟨y⟩⟩ := y
      simp [ByteArray.size] at h1 h2
      subst h1; subst h2; rfl
    subst this
    exact .str _ (by omega)
  · exact .nilp
  · simp only [Bool.and_eq_true] at h
    exact .vec0 _ _ _ _ (Nat.eq_of_beq_eq_true h.2) (by simp [h.1]) (fun _ => rfl)
  · exact .undef _ h
  · cases h
theorem leavesAre_RC {w : World} {T : T2} : ∀ {l : List PV} {m : List Value}, leavesAre l m = true → l.length = m.length ∧ ∀ (j : Nat) (q : PV) (u : Value), l[j]? = some q → m[j]? = some u → RC w T u q
  | [], [], _ => ⟨rfl, fun j q u hq => by simp at hq⟩
  | [], _ :: _, h => by simp [leavesAre] at h
  | _ :: _, [], h => by simp [leavesAre] at h
  | q :: l, v :: m, h => by
    simp only [leavesAre, Bool.and_eq_true] at h
    obtain ⟨h1, h2⟩ := leavesAre_RC (w := w) (T := T) h.2
    refine ⟨by simp [h1], fun j x u hx hu => ?_⟩
    cases j with
    | zero => simp at hx hu; subst hx; subst hu; exact leafIs_RC h.1
    | succ j => simp at hx hu; exact h2 j x u hx hu

theorem zeroOf_spec {P : Program} {t : TypeId} {z : PV} (h : zeroOf P t = some z) :
    ∃ v, (∀ w', (zeroValue t).run P w' = .ok v w') ∧ v.cells.size = size z ∧ size z = P.cellsOf t ∧ WF z ∧ isTup z = false ∧ z ≠ .undef ∧ (∀ (T : T2) (ρ : Pls) (j : Nat) (q : PV) (u : Value), (flat z)[j]? = some q → v.cells[j]? = some u → RO w T ρ u q) := by
  unfold zeroOf at h
  split at h
  · rename_i v hv
    split at h
    · rename_i hb
      simp only [Bool.and_eq_true] at hb
      have h := Option.some.inj h
      subst h
      obtain ⟨⟨⟨h1, h2⟩, h3⟩, h4⟩ := hb
      have hwf := wfB_WF _ h2
      have hl : (flat (zeroPV P 9 t)).length = v.cells.toList.length := (leavesAre_RC (w := w) (T := fun _ _ => True) h1).1
      rw [flat_length _ hwf] at hl
      have ht : isTup (zeroPV P 9 t) = false := by
        simp only [good, Bool.and_eq_true, Bool.not_eq_true'] at h4; exact h4.1
      cases hi : P.info? t with
      | none => simp [hi] at hv
      | some i =>
        simp only [hi, Option.bind_some] at hv
        refine ⟨v, ?_, by simpa using hl.symm, Nat.eq_of_beq_eq_true h3, hwf, ht, ?_, fun T ρ j q u hq hu => ?_⟩
        · intro w'; simp [zeroValue, typeInfo, program, Sem.run, hi, hv]
        · intro he; rw [he] at h4; simp [good, isUndef] at h4
        · exact RO.of_closed ((leavesAre_RC (w := w) (T := T) h1).2 j q u hq (by simpa using hu))
    · cases h
  · cases h

theorem emptyArr_WF (P : Program) (e : TypeId) : WF (emptyArr P e) ∧ isArr (emptyArr P e) = true ∧ arrLen (emptyArr P e) = 0 := by
  unfold emptyArr
  split <;> simp [WF, WFL, isArr, arrLen]

theorem constPV_rel {P : Program} {t : TypeId} {v : Value} {T : T2} (hne : constPV P t v ≠ .undef) : RV w T ρ v (constPV P t v) := by
  unfold constPV at hne ⊢
  split at hne
  · split at hne
    · rename_i hk
      rw [if_pos hk]
      exact RV.of_leaf rfl (fun _ e => by cases e) (by simpa [WF] using hk) (by simp only [RO]; exact .int _ _)
    · exact absurd rfl hne
  · exact RV.of_leaf rfl (fun _ e => by cases e) trivial (by simp only [RO]; exact .bool _)
  · split at hne
    · rename_i hk
      rw [if_pos hk]
      exact RV.of_leaf rfl (fun _ e => by cases e) trivial (by simp only [RO]; exact .str _ (Nat.le_of_ble_eq_true hk))
    · exact absurd rfl hne
  · exact RV.of_leaf rfl (fun _ e => by cases e) trivial (by simp only [RO]; exact .nilp)
  · have key : ∀ c : PV, WF c → isArr c = true → arrLen c = 0 → RV w T ρ (.slice none 0 0) (.vec true c) := fun c h1 h2 h3 =>
      RV.of_leaf rfl (fun _ e => by cases e) (by simp only [WF]; exact ⟨h1, h2, fun _ => h3⟩) (by simp only [RO]; exact .vec0 _ _ _ _ h3 rfl (fun _ => rfl))
    show RV w T ρ _ (nilOf P t)
    unfold nilOf
    split
    · rename_i e _
      obtain ⟨h1, h2, h3⟩ := emptyArr_WF P e
      exact key _ h1 h2 h3
    · exact key _ (by simp [WF, WFL]) rfl rfl
  · exact absurd rfl hne

theorem evO_rel (h : SimAt C F ρ s a w) (t : TypeId) (x : Operand) (hne : evO C.P C.G t s.fr x ≠ .undef) : RV w (Tc C ρ s.hp) ρ (a.eval x) (evO C.P C.G t s.fr x) := by
  cases x with
  | tmp i => exact (h.fr i hne).2
  | const v => exact constPV_rel hne
  | global g =>
    simp only [evO] at hne ⊢
    cases hg : C.G g with
    | none => rw [hg] at hne; exact absurd rfl hne
    | some c =>
      obtain ⟨h1, h2, h3⟩ := h.glob g c hg
      exact RV.of_leaf rfl (fun _ e => by cases e) (by simp only [WF]; exact ⟨h1, h2⟩) (by simp only [RO]; exact h3)
  | func f => exact absurd rfl hne

theorem evO_int (h : SimAt C F ρ s a w) {t : TypeId} {x : Operand} {kd : IntKind} {n : Int} (he : evO C.P C.G t s.fr x = .int kd n) : a.eval x = .int kd n ∧ kd.wrap n = n := by
  have := evO_rel h t x (by rw [he]; intro e; cases e)
  rw [he] at this
  have h2 := this.to_leaf rfl (fun _ e => by cases e)
  simp only [RO] at h2
  generalize hv : a.eval x = v at *
  cases h2
  exact ⟨rfl, this.1⟩
theorem evO_bool (h : SimAt C F ρ s a w) {t : TypeId} {x : Operand} {b : Bool} (he : evO C.P C.G t s.fr x = .bool b) : a.eval x = .bool b := by
  have := evO_rel h t x (by rw [he]; intro e; cases e)
  rw [he] at this
  have h2 := this.to_leaf rfl (fun _ e => by cases e)
  simp only [RO] at h2
  generalize hv : a.eval x = v at *
  cases h2
  rfl
theorem evO_str (h : SimAt C F ρ s a w) {t : TypeId} {x : Operand} {b : ByteArray} (he : evO C.P C.G t s.fr x = .str b) : a.eval x = .string b ∧ b.size ≤ maxLen := by
  have := evO_rel h t x (by rw [he]; intro e; cases e)
  rw [he] at this
  have h2 := this.to_leaf rfl (fun _ e => by cases e)
  simp only [RO] at h2
  generalize hv : a.eval x = v at *
  cases h2
  exact ⟨rfl, by assumption⟩
theorem evO_at (h : SimAt C F ρ s a w) {t : TypeId} {x : Operand} {id : Nat} {path : List Stp} (he : evO C.P C.G t s.fr x = .at id path) :
    ∃ pl, ρ id = some pl ∧ a.eval x = .pointer (some ⟨pl.g, pl.off + offOf path, none⟩) := by
  have := evO_rel h t x (by rw [he]; intro e; cases e)
  rw [he] at this
  have h2 := this.to_leaf rfl (fun _ e => by cases e)
  simpa only [RO] using h2
theorem evO_cptr (h : SimAt C F ρ s a w) {t : TypeId} {x : Operand} {c : PV} {path : List Stp} (he : evO C.P C.G t s.fr x = .cptr c path) :
    WF c ∧ noref c = true ∧ RC w (Tc C ρ s.hp) (a.eval x) (.cptr c path) := by
  have := evO_rel h t x (by rw [he]; intro e; cases e)
  rw [he] at this
  have h2 := this.to_leaf rfl (fun _ e => by cases e)
  have h1 := this.1
  simp only [WF] at h1
  simp only [RO] at h2
  exact ⟨h1.1, h1.2, h2⟩

theorem goes_move (h : SimAt C F ρ s a w) {x : Operand} (ho : o.op = .move x ∨ o.op = .assign x) : Goes C F ρ s a w o k (evO C.P C.G o.type s.fr x) [] :=
  Goes.pure h (by rcases ho with ho | ho <;> simp [execOp, ho]) fun hne => evO_rel h o.type x hne

theorem goes_pick (h : SimAt C F ρ s a w) {c x y : Operand} {b : Bool} (ho : o.op = .pick c x y) (hc : evO C.P C.G o.type s.fr c = .bool b) :
    Goes C F ρ s a w o k (evO C.P C.G o.type s.fr (if b then x else y)) [] := by
  have hc' := evO_bool h hc
  refine Goes.pure h (u := a.eval (if b then x else y)) ?_ fun hne => evO_rel h o.type _ hne
  simp only [execOp, ho, hc', asBool]
  cases b <;> simp

theorem newVar_run {P : Program} (e : TypeId) (v : Value) : (newVar e v).run P w = .ok ⟨w.heap.size, 0, none⟩ (w.alloc (.cells v.cells e)) := by
  rfl

theorem goes_new (h : SimAt C F ρ s a w) (hF : F k) {e : TypeId} {v : Value} {c : PV} (hr : (execOp a.eval o).run C.P w = .ok (.value (.pointer (some ⟨w.heap.size, 0, none⟩))) (w.alloc (.cells v.cells e)))
    (hw : WF c) (hs : v.cells.size = size c) (hl : ∀ (j : Nat) (q : PV) (u : Value), (flat c)[j]? = some q → v.cells[j]? = some u → RO w (Tc C ρ s.hp) ρ u q) :
    Goes C F ρ s a w o k (.at k []) [(k, some ⟨c, false⟩)] := by
  intro K Q hK
  have h' := h.alloc hF v.cells e (0, 0) c hw (by omega) (by simp) hl
  refine wp_value hr (hK _ _ _ (Ext.upd _ (h.free k hF).1) (h'.less fun i hi => ⟨hi.1, by omega⟩) fun _ => ?_)
  refine RV.of_leaf rfl (fun _ e => by cases e) trivial ?_
  simp only [RO]
  exact ⟨_, upd_same _ _ _, by simp [offOf]⟩

theorem goes_alloc (h : SimAt C F ρ s a w) (hF : F k) {e : TypeId} {z : PV} (ho : o.op = .alloc e) (hz : zeroOf C.P e = some z) : Goes C F ρ s a w o k (.at k []) [(k, some ⟨z, false⟩)] := by
  obtain ⟨v, h1, h2, h3, h4, h5, h6, h7⟩ := zeroOf_spec (w := w) hz
  refine goes_new h hF (v := v) (e := e) ?_ h4 h2 (h7 _ _)
  simp only [execOp, ho, Instr.alloc, Sem.run_bind, h1, Result.andThen_ok, newVar_run, Sem.run_pure]

theorem good_spec {v : PV} (h : good v = true) : (∀ vs, v ≠ .tup vs) ∧ v ≠ .undef := by
  refine ⟨fun vs e => ?_, fun e => ?_⟩ <;> (subst e; simp [good, isTup, isUndef] at h)

theorem goes_box (h : SimAt C F ρ s a w) (hF : F k) {e : TypeId} {x : Operand} (ho : o.op = .box e x) (hg : good (evO C.P C.G e s.fr x) = true) :
    Goes C F ρ s a w o k (.at k []) [(k, some ⟨evO C.P C.G e s.fr x, false⟩)] := by
  obtain ⟨h1, h2⟩ := good_spec hg
  have hr := evO_rel h e x h2
  obtain ⟨h3, h4⟩ := hr.cells_of h1
  refine goes_new h hF (v := a.eval x) (e := e) ?_ hr.1 h3 h4
  simp only [execOp, ho, Instr.box, Sem.run_bind, newVar_run, Result.andThen_ok, Sem.run_pure]
end
end Go.Pe
