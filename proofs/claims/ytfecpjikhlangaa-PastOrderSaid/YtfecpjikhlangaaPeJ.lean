/- The plain operations are right, fifth part: comparisons with nil, lengths, greatest and least, parts of slices and strings, conversions, build. No condition. -/
import Derived.Test.YtfecpjikhlangaaPeI
namespace Go.Pe

section
variable {C : Ctx} {F : Nat → Prop} {ρ : Pls} {s : St} {a : Act} {w : World} {o : Oper} {k : Nat}

theorem RV.leafRO {w : World} {T : T2} {v : Value} {p : PV} (h : RV w T ρ v p) (hl : Pe.leaf p = true) (ht : ∀ vs, p ≠ .tup vs) : RO w T ρ v p := h.to_leaf hl ht

theorem goes_len (h : SimAt C F ρ s a w) {c : Call} (ho : o.op = .call c) (hc : c.callee = .builtin .len) (ht : c.argTypes.size = 1) (ha : c.args.size = 1) {v : PV} {ups : List (Nat × Option Row)} {ob : List Prop} {rd : List Nat}
    (hx : (lenP C.P (c.argTypes.getD 0 0) (evO C.P C.G (c.argTypes.getD 0 0) s.fr (c.args.getD 0 (.func 0)))).run s.hp = some (v, ups, ob, rd)) : Goes C F ρ s a w o k v ups := by
  obtain ⟨callee, args, argTypes⟩ := c
  simp only at hc ht ha hx
  subst hc
  obtain ⟨t, rfl⟩ : ∃ t, argTypes = #[t] := by
    obtain ⟨l⟩ := argTypes
    match l, ht with
    | [t], _ => exact ⟨t, rfl⟩
  obtain ⟨x, rfl⟩ : ∃ x, args = #[x] := by
    obtain ⟨l⟩ := args
    match l, ha with
    | [x], _ => exact ⟨x, rfl⟩
  have e1 : (#[t] : Array TypeId).getD 0 0 = t := rfl
  have e2 : (#[x] : Array Operand).getD 0 (.func 0) = x := rfl
  rw [e1, e2] at hx
  have hrun : ∀ u, (Builtin.len_ #[t] o.type #[a.eval x]).run C.P w = .ok u w → (execOp a.eval o).run C.P w = .ok (.value u) w := by
    intro u hu
    simp only [execOp, ho, resolve, Sem.run_bind, Sem.run_pure, Result.andThen_ok, invoke, builtin, List.map_toArray, List.map_cons, List.map_nil, hu]
  unfold lenP at hx
  split at hx
  · rename_i b hu hA
    simp only [Pr.run, Option.some.injEq, Prod.mk.injEq] at hx
    obtain ⟨rfl, rfl, _, _⟩ := hx
    obtain ⟨e, hm⟩ := evO_str h hA
    refine Goes.pure h (hrun (goInt b.size) ?_) fun _ => RV.int ?_
    · simp [Builtin.len_, e, run_underlying hu]
    · rw [wrap_bounds]; have m1 : IntKind.i64.min = -9223372036854775808 := by decide
      have m2 : IntKind.i64.max = 9223372036854775807 := by decide
      unfold maxLen at hm
      omega
  · rename_i n e hu
    split at hx
    · rename_i hm
      have hm := Nat.le_of_ble_eq_true hm
      simp only [Pr.run, Option.some.injEq, Prod.mk.injEq] at hx
      obtain ⟨rfl, rfl, _, _⟩ := hx
      refine Goes.pure h (hrun (goInt n) ?_) fun _ => RV.int ?_
      · generalize a.eval x = vx
        simp only [Builtin.len_, run_underlying hu, Sem.run_bind, Result.andThen_ok, List.getElem?_toArray, List.getElem?_cons_zero]
        cases vx <;> rfl
      · rw [wrap_bounds]; have m1 : IntKind.i64.min = -9223372036854775808 := by decide
        have m2 : IntKind.i64.max = 9223372036854775807 := by decide
        unfold maxLen at hm
        omega
    · simp [Pr.run] at hx
  · rename_i e nl c hu hA
    simp only [Pr.run, Option.some.injEq, Prod.mk.injEq] at hx
    obtain ⟨rfl, rfl, _, _⟩ := hx
    obtain ⟨w1, w2, w3⟩ := evO_vec h hA
    have key : ∃ A cc, a.eval x = .slice A (arrLen c) cc ∧ arrLen c ≤ maxLen := by
      generalize a.eval x = vx at w3
      cases w3 with
      | vec0 A cc _ _ hl _ _ => exact ⟨A, cc, by rw [hl], by omega⟩
      | vec1 b o' n cc _ us hn hc hm g1 g2 => exact ⟨_, cc, by rw [hn], by omega⟩
    obtain ⟨A, cc, e, hm⟩ := key
    refine Goes.pure h (hrun (goInt (arrLen c)) ?_) fun _ => RV.int ?_
    · simp [Builtin.len_, e, run_underlying hu]
    · rw [wrap_bounds]; have m1 : IntKind.i64.min = -9223372036854775808 := by decide
      have m2 : IntKind.i64.max = 9223372036854775807 := by decide
      unfold maxLen at hm
      omega
  · rename_i e id path sz off n hu hA
    simp only [Pr.run, Option.some.injEq, Prod.mk.injEq] at hx
    obtain ⟨rfl, rfl, _, _⟩ := hx
    obtain ⟨pl, A, c, p1, p2, p3, p4, _⟩ := evO_ref h hA
    refine Goes.pure h (hrun (goInt n) ?_) fun _ => RV.int ?_
    · simp [Builtin.len_, p2, run_underlying hu]
    · rw [wrap_bounds]; have m1 : IntKind.i64.min = -9223372036854775808 := by decide
      have m2 : IntKind.i64.max = 9223372036854775807 := by decide
      unfold maxLen at p4
      omega
  · simp [Pr.run] at hx

theorem foldInt_run {P : Program} {g : Value → Value → Sem Value} {f : Int → Int → Int} {kd : IntKind} (hg : ∀ x y, g (.int kd x) (.int kd y) = pure (.int kd (f x y))) (hf : ∀ x y, kd.wrap x = x → kd.wrap y = y → kd.wrap (f x y) = f x y) :
    ∀ {l : List PV} {vs : List Value} {x m : Int}, foldInt f kd x l = some m → kd.wrap x = x → l.length = vs.length → (∀ (j : Nat) (q : PV) (u : Value), l[j]? = some q → vs[j]? = some u → ∀ k' n, q = .int k' n → u = .int k' n ∧ k'.wrap n = n) →
      (vs.foldlM g (.int kd x)).run P w = .ok (.int kd m) w ∧ kd.wrap m = m
  | [], [], x, m, h, hx, _, _ => by
    simp only [foldInt, Option.some.injEq] at h
    subst h
    exact ⟨rfl, hx⟩
  | [], _ :: _, _, _, _, _, hl, _ => by simp at hl
  | _ :: _, [], _, _, _, _, hl, _ => by simp at hl
  | q :: l, u :: vs, x, m, h, hx, hl, hr => by
    unfold foldInt at h
    split at h
    · rename_i heq; cases heq
    · rename_i k' y r heq
      simp only [List.cons.injEq] at heq
      obtain ⟨rfl, rfl⟩ := heq
      split at h
      · rename_i hk
        have hk := IntKind.same_eq hk
        subst hk
        obtain ⟨rfl, hy⟩ := hr 0 _ _ rfl rfl _ _ rfl
        have ih := foldInt_run (P := P) hg hf h (hf x y hx hy) (by simpa using hl) (fun j q u hq hu => hr (j + 1) q u (by simpa using hq) (by simpa using hu))
        rw [List.foldlM_cons, hg, pure_bind]
        exact ih
      · cases h
    · cases h

theorem goes_maxmin (h : SimAt C F ρ s a w) {c : Call} (ho : o.op = .call c) {v : PV} {ups : List (Nat × Option Row)} {ob : List Prop} {rd : List Nat}
    (hc : (c.callee = .builtin .max ∧ (maxP mx (c.args.toList.map fun x => evO C.P C.G 0 s.fr x)).run s.hp = some (v, ups, ob, rd)) ∨ (c.callee = .builtin .min ∧ (maxP mn (c.args.toList.map fun x => evO C.P C.G 0 s.fr x)).run s.hp = some (v, ups, ob, rd))) :
    Goes C F ρ s a w o k v ups := by
  have key : ∀ (f : Int → Int → Int) (g : Value → Value → Sem Value), (∀ kd x y, g (.int kd x) (.int kd y) = pure (.int kd (f x y))) → (∀ x y, f x y = x ∨ f x y = y) →
      (maxP f (c.args.toList.map fun x => evO C.P C.G 0 s.fr x)).run s.hp = some (v, ups, ob, rd) →
      (∀ u, (match (c.args.toList.map a.eval) with | [] => stuck "" | x :: rest => rest.foldlM g x : Sem Value).run C.P w = .ok u w → (execOp a.eval o).run C.P w = .ok (.value u) w) → Goes C F ρ s a w o k v ups := by
    intro f g hg hf hx hrun
    cases hl : c.args.toList with
    | nil => rw [hl] at hx; simp [maxP, Pr.run] at hx
    | cons x r =>
      rw [hl] at hx hrun
      simp only [List.map_cons] at hx hrun
      unfold maxP at hx
      split at hx
      · rename_i kd n r' heq
        simp only [List.cons.injEq] at heq
        obtain ⟨hA, rfl⟩ := heq
        obtain ⟨e1, w1⟩ := evO_int h hA
        split at hx
        · rename_i m hm
          simp only [Pr.run, Option.some.injEq, Prod.mk.injEq] at hx
          obtain ⟨rfl, rfl, _, _⟩ := hx
          obtain ⟨f1, f2⟩ := foldInt_run (w := w) (P := C.P) (vs := r.map a.eval) (hg kd) (fun x y hx hy => by rcases hf x y with e | e <;> rw [e] <;> assumption) hm w1 (by simp) (fun j q u hq hu k' n he => by
            simp only [List.getElem?_map, Option.map_eq_some_iff] at hq hu
            obtain ⟨y, hy, rfl⟩ := hq
            obtain ⟨y', hy', rfl⟩ := hu
            rw [hy] at hy'
            simp only [Option.some.injEq] at hy'
            subst hy'
            exact evO_int h he)
          exact Goes.pure h (hrun _ (by rw [e1]; exact f1)) fun _ => RV.int f2
        · simp [Pr.run] at hx
      · simp [Pr.run] at hx
  obtain ⟨callee, args, argTypes⟩ := c
  rcases hc with ⟨hc, hx⟩ | ⟨hc, hx⟩ <;> simp only at hc <;> subst hc
  · refine key mx Builtin.max2 (fun kd x y => rfl) (fun x y => by unfold mx; split <;> simp) hx fun u hu => ?_
    simp only [execOp, ho, resolve, Sem.run_bind, Sem.run_pure, Result.andThen_ok, invoke, builtin, Builtin.max_, Array.toList_map]
    cases hl : args.toList with
    | nil => simp [hl, stuck] at hu
    | cons x r =>
      simp only [hl, List.map_cons] at hu ⊢
      rw [hu]
      rfl
  · refine key mn Builtin.min2 (fun kd x y => rfl) (fun x y => by unfold mn; split <;> simp) hx fun u hu => ?_
    simp only [execOp, ho, resolve, Sem.run_bind, Sem.run_pure, Result.andThen_ok, invoke, builtin, Builtin.min_, Array.toList_map]
    cases hl : args.toList with
    | nil => simp [hl, stuck] at hu
    | cons x r =>
      simp only [hl, List.map_cons] at hu ⊢
      rw [hu]
      rfl

theorem evO_leaf (h : SimAt C F ρ s a w) {t : TypeId} {x : Operand} {p : PV} (he : evO C.P C.G t s.fr x = p) (hl : Pe.leaf p = true) (ht : isTup p = false) (hu : isUndef p = false) : WF p ∧ RO w (Tc C ρ s.hp) ρ (a.eval x) p := by
  have := evO_rel h t x (by rw [he]; intro e; subst e; cases hu)
  rw [he] at this
  exact ⟨this.1, this.to_leaf hl (fun _ e => by subst e; cases ht)⟩

theorem goes_nilCmp (h : SimAt C F ρ s a w) {op : BinOp} {xT yT : TypeId} {x y : Operand} (ho : o.op = .binOp op xT x y yT) {b : Bool}
    (hb : nilCmp op (evO C.P C.G xT s.fr x) (evO C.P C.G xT s.fr y) = some b) (hT : nilT C.P xT (evO C.P C.G xT s.fr x) = true) : Goes C F ρ s a w o k (.bool b) [] := by
  have hrun : ∀ u, (do eqGuard op xT x y (a.eval x) (a.eval y); binOp op xT (a.eval x) (a.eval y) : Sem Value).run C.P w = .ok u w → (execOp a.eval o).run C.P w = .ok (.value u) w := by
    intro u hu
    simp only [execOp, ho]
    rw [Sem.run_bind, hu]
    rfl
  have hnil : ∀ {z : Operand} {c : PV}, evO C.P C.G xT s.fr z = .vec true c → ∃ n cc, a.eval z = .slice none n cc := by
    intro z c hz
    obtain ⟨_, _, h3⟩ := evO_vec h hz
    generalize a.eval z = vz at h3
    cases h3 with
    | vec0 A cc _ _ _ hn _ =>
      cases A with
      | none => exact ⟨_, _, rfl⟩
      | some A => simp at hn
  have hsl : ∀ {z : Operand} {nl : Bool} {c : PV}, evO C.P C.G xT s.fr z = .vec nl c → ∃ A n cc, a.eval z = .slice A n cc ∧ nl = A.isNone := by
    intro z nl c hz
    obtain ⟨_, _, h3⟩ := evO_vec h hz
    generalize a.eval z = vz at h3
    cases h3 with
    | vec0 A cc _ _ _ hn _ => exact ⟨A, _, _, rfl, hn⟩
    | vec1 b o' n cc _ us _ _ _ _ _ => exact ⟨_, _, _, rfl, rfl⟩
  have hnp : ∀ {z : Operand}, evO C.P C.G xT s.fr z = .nilp → a.eval z = .pointer none := by
    intro z hz
    obtain ⟨_, h3⟩ := evO_leaf h hz rfl rfl rfl
    simp only [RO] at h3
    generalize a.eval z = vz at h3
    cases h3
    rfl
  have hcp : ∀ {z : Operand} {c : PV} {path : List Stp}, evO C.P C.G xT s.fr z = .cptr c path → ∃ A, a.eval z = .pointer (some A) := by
    intro z c path hz
    obtain ⟨_, _, h3⟩ := evO_cptr h hz
    generalize a.eval z = vz at h3
    cases h3
    exact ⟨_, rfl⟩
  generalize hA : evO C.P C.G xT s.fr x = A at hb hT
  generalize hB : evO C.P C.G xT s.fr y = B at hb
  have go : ∀ (X Y : Value) (r : Bool), a.eval x = X → a.eval y = Y → (eqGuard op xT x y X Y).run C.P w = .ok () w → (binOp op xT X Y).run C.P w = .ok (.bool r) w → b = r → Goes C F ρ s a w o k (.bool b) [] := by
    rintro X Y r rfl rfl g1 g2 rfl
    exact Goes.pure h (hrun _ (by rw [Sem.run_bind, g1, Result.andThen_ok, g2])) fun _ => RV.bool _
  have hsu : (∃ nl c, A = .vec nl c) ∨ (∃ id p sz off n, A = .ref id p sz off n) → ∃ e, C.P.underlying xT = some (.slice e) := by
    rintro (⟨nl, c, rfl⟩ | ⟨id, p, sz, off, n, rfl⟩) <;>
      (unfold nilT at hT; split at hT <;> first | (exact ⟨_, by assumption⟩) | (rename_i heq; cases heq) | cases hT)
  have hpu : (∃ id p, A = .at id p) ∨ (∃ c p, A = .cptr c p) ∨ A = .nilp → ∃ e, C.P.underlying xT = some (.pointer e) := by
    rintro (⟨id, p, rfl⟩ | ⟨c, p, rfl⟩ | rfl) <;>
      (unfold nilT at hT; split at hT <;> first | (exact ⟨_, by assumption⟩) | (rename_i heq; cases heq) | cases hT)
  have sl : ∀ {e n c n' c'} {A' : Option Addr}, C.P.underlying xT = some (.slice e) → (Op.equal xT (.slice A' n c) (.slice none n' c')).run C.P w = .ok A'.isNone w := by
    intro e n c n' c' A' hu
    show (Op.equalIn (9999 + 1) xT _ _).run C.P w = _
    rw [Op.equalIn, Sem.run_bind, run_underlying hu, Result.andThen_ok]
    cases A' <;> rfl
  have pt : ∀ {e} {A' : Option Addr}, C.P.underlying xT = some (.pointer e) → (Op.equal xT (.pointer A') (.pointer none)).run C.P w = .ok A'.isNone w := by
    intro e A' hu
    show (Op.equalIn (9999 + 1) xT _ _).run C.P w = _
    rw [Op.equalIn, Sem.run_bind, run_underlying hu, Result.andThen_ok]
    cases A' <;> rfl
  unfold nilCmp at hb
  split at hb <;> simp only [Option.some.injEq, reduceCtorEq] at hb
  · obtain ⟨e, hu⟩ := hsu (.inl ⟨_, _, rfl⟩)
    obtain ⟨A', n, cc, e1, e2⟩ := hsl hA
    obtain ⟨n', cc', e3⟩ := hnil hB
    exact go _ _ A'.isNone e1 e3 rfl (by simp only [binOp, Sem.run_bind, sl hu, Result.andThen_ok, Sem.run_pure]) (by rw [← hb, e2])
  · obtain ⟨e, hu⟩ := hsu (.inr ⟨_, _, _, _, _, rfl⟩)
    obtain ⟨pl, A', c, p1, p2, _⟩ := evO_ref h hA
    obtain ⟨n', cc', e3⟩ := hnil hB
    exact go _ _ false p2 e3 rfl (by simp only [binOp, Sem.run_bind, sl hu, Result.andThen_ok, Sem.run_pure]; rfl) hb.symm
  · obtain ⟨e, hu⟩ := hpu (.inl ⟨_, _, rfl⟩)
    obtain ⟨pl, p1, p2⟩ := evO_at h hA
    exact go _ _ false p2 (hnp hB) rfl (by simp only [binOp, Sem.run_bind, pt hu, Result.andThen_ok, Sem.run_pure]; rfl) hb.symm
  · obtain ⟨e, hu⟩ := hpu (.inr (.inl ⟨_, _, rfl⟩))
    obtain ⟨A', p2⟩ := hcp hA
    exact go _ _ false p2 (hnp hB) rfl (by simp only [binOp, Sem.run_bind, pt hu, Result.andThen_ok, Sem.run_pure]; rfl) hb.symm
  · obtain ⟨e, hu⟩ := hpu (.inr (.inr rfl))
    exact go _ _ true (hnp hA) (hnp hB) rfl (by simp only [binOp, Sem.run_bind, pt hu, Result.andThen_ok, Sem.run_pure]; rfl) hb.symm
  · obtain ⟨e, hu⟩ := hsu (.inl ⟨_, _, rfl⟩)
    obtain ⟨A', n, cc, e1, e2⟩ := hsl hA
    obtain ⟨n', cc', e3⟩ := hnil hB
    exact go _ _ (!A'.isNone) e1 e3 rfl (by simp only [binOp, Sem.run_bind, sl hu, Result.andThen_ok, Sem.run_pure]) (by rw [← hb, e2])
  · obtain ⟨e, hu⟩ := hsu (.inr ⟨_, _, _, _, _, rfl⟩)
    obtain ⟨pl, A', c, p1, p2, _⟩ := evO_ref h hA
    obtain ⟨n', cc', e3⟩ := hnil hB
    exact go _ _ true p2 e3 rfl (by simp only [binOp, Sem.run_bind, sl hu, Result.andThen_ok, Sem.run_pure]; rfl) hb.symm
  · obtain ⟨e, hu⟩ := hpu (.inl ⟨_, _, rfl⟩)
    obtain ⟨pl, p1, p2⟩ := evO_at h hA
    exact go _ _ true p2 (hnp hB) rfl (by simp only [binOp, Sem.run_bind, pt hu, Result.andThen_ok, Sem.run_pure]; rfl) hb.symm
  · obtain ⟨e, hu⟩ := hpu (.inr (.inl ⟨_, _, rfl⟩))
    obtain ⟨A', p2⟩ := hcp hA
    exact go _ _ true p2 (hnp hB) rfl (by simp only [binOp, Sem.run_bind, pt hu, Result.andThen_ok, Sem.run_pure]; rfl) hb.symm
  · obtain ⟨e, hu⟩ := hpu (.inr (.inr rfl))
    exact go _ _ false (hnp hA) (hnp hB) rfl (by simp only [binOp, Sem.run_bind, pt hu, Result.andThen_ok, Sem.run_pure]; rfl) hb.symm
end
end Go.Pe
