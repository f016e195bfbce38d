/- The plain operations are right, ninth part: append. No condition. -/
import Derived.Test.YtfecpjikhlangaaPeM
namespace Go.Pe

section
variable {C : Ctx} {F : Nat → Prop} {ρ : Pls} {s : St} {a : Act} {w : World} {o : Oper} {k : Nat}

theorem Pr.need_run {hp : Hp} {p : List Prop} : ∀ {pr : Pr} {v : PV} {ups : List (Nat × Option Row)} {ob : List Prop} {rd : List Nat}, (pr.need p).run hp = some (v, ups, ob, rd) → ∃ ob', pr.run hp = some (v, ups, ob', rd) ∧ ob = p ++ ob'
  | .fail, v, ups, ob, rd, h => by simp [Pr.need, Pr.run] at h
  | .ret v' u' o', v, ups, ob, rd, h => by
    simp only [Pr.need, Pr.run, Option.some.injEq, Prod.mk.injEq] at h
    obtain ⟨rfl, rfl, rfl, rfl⟩ := h
    exact ⟨o', rfl, rfl⟩
  | .read id f, v, ups, ob, rd, h => by
    simp only [Pr.need, Pr.run] at h ⊢
    split at h
    · rename_i r hr
      simp only [Option.map_eq_some_iff, Prod.mk.injEq] at h
      obtain ⟨⟨v', u', o', r'⟩, h1, h2, h3, h4, h5⟩ := h
      simp only at h2 h3 h4 h5
      subst h2; subst h3; subst h4; subst h5
      obtain ⟨ob', g1, g2⟩ := Pr.need_run h1
      exact ⟨ob', by rw [g1]; rfl, g2⟩
    · cases h

theorem size_arr {c : PV} (h : isArr c = true) : size c = arrLen c * elSize c := by
  cases c <;> simp only [isArr, reduceCtorEq] at h <;> simp [size, arrLen, elSize]

/-- What is appended: its cells, in whatever world has that memory. -/
structure Src (P : Program) (w : World) (T : T2) (ρ : Pls) (x : Value) (d : PV) (news : List Value) : Prop where
  wf : WF d
  arr : isArr d = true
  len : ∀ w', (Builtin.lenOf x).run P w' = .ok (arrLen d) w'
  part : ∀ m, m ≤ arrLen d → ∀ w', w'.heap = w.heap → (Builtin.firstCells (elSize d) m x).run P w' = .ok (news.take (m * elSize d)).toArray w'
  size : news.length = size d
  rel : ∀ (j : Nat) (q : PV) (u : Value), (flat d)[j]? = some q → news[j]? = some u → RO w T ρ u q

theorem Src.first {P : Program} {T : T2} {x : Value} {d : PV} {news : List Value} (h : Src P w T ρ x d news) (w' : World) (hh : w'.heap = w.heap) : (Builtin.firstCells (elSize d) (arrLen d) x).run P w' = .ok news.toArray w' := by
  have := h.part (arrLen d) (Nat.le_refl _) w' hh
  rwa [← size_arr h.arr, List.take_of_length_le (by rw [h.size]; exact Nat.le_refl _)] at this

theorem src_cells {P : Program} {T : T2} {A : Option Addr} {n c : Nat} {d : PV} (hw : WF d) (ha : isArr d = true) (hn : arrLen d = n) (us : Nat → Value)
    (hA : 0 < n → ∃ b o', A = some ⟨b, o', none⟩ ∧ ∀ (j : Nat) (q : PV), (flat d)[j]? = some q → w.cell? ⟨b, o' + j, none⟩ = some (us j) ∧ RO w T ρ (us j) q) :
    Src P w T ρ (.slice A n c) d ((List.range (size d)).map us) := by
  have hl := flat_length d hw
  refine ⟨hw, ha, fun w' => by rw [hn]; rfl, fun m hm w' hh => ?_, by simp, fun j q u hq hu => ?_⟩
  · have hle : m * elSize d ≤ size d := by rw [size_arr ha]; exact Nat.mul_le_mul_right _ hm
    rw [← List.map_take, List.take_range, Nat.min_eq_left hle]
    rcases Nat.eq_zero_or_pos n with h0 | h0
    · have hm0 : m = 0 := by omega
      subst hm0
      simp only [Nat.zero_mul]
      cases A with
      | none => rfl
      | some ad =>
        have := run_loadCells_list (P := P) w' ad [] (by simp)
        simp only [Builtin.firstCells, Nat.zero_mul]
        exact this
    · obtain ⟨b, o', rfl, hc⟩ := hA h0
      exact run_loadCells (P := P) w' ⟨b, o', none⟩ (m * elSize d) us (fun j hj => by
        have hq : (flat d)[j]? = some (flat d)[j] := List.getElem?_eq_getElem (by omega)
        have := (hc j _ hq).1
        rw [add_none]
        simp only [World.cell?, hh] at this ⊢
        exact this)
  · have hj : j < size d := by have := (List.getElem?_eq_some_iff.1 hq).1; omega
    have hn0 : 0 < n := by
      rcases Nat.eq_zero_or_pos n with h0 | h0
      · rw [size_arr ha, hn, h0] at hj; omega
      · exact h0
    obtain ⟨b, o', _, hc⟩ := hA hn0
    have : u = us j := by simp [hj] at hu; exact hu.symm
    rw [this]
    exact (hc j q hq).2

theorem elems_spec (h : SimAt C F ρ s a w) {t : TypeId} {x : Operand} {K : PV → Pr} {v : PV} {ups : List (Nat × Option Row)} {ob : List Prop} {rd : List Nat}
    (hx : (elemsOf (evO C.P C.G t s.fr x) K).run s.hp = some (v, ups, ob, rd)) (hob : All ob) :
    ∃ d ob' rd' news, (K d).run s.hp = some (v, ups, ob', rd') ∧ All ob' ∧ Src C.P w (Tc C ρ s.hp) ρ (a.eval x) d news := by
  unfold elemsOf at hx
  split at hx
  · rename_i nl c hA
    obtain ⟨w1, w2, w3⟩ := evO_vec h hA
    refine ⟨c, ob, rd, ?_⟩
    generalize a.eval x = vx at w3
    cases w3 with
    | vec0 A cc _ _ hl hn _ => exact ⟨_, hx, hob, src_cells w1 w2 hl (fun _ => Go.undef) (fun h0 => absurd h0 (by omega))⟩
    | vec1 b o' n cc _ us hn hc hm g1 g2 => exact ⟨_, hx, hob, src_cells w1 w2 hn us (fun _ => ⟨b, o', rfl, fun j q hq => ⟨(g1 j q hq).2, RO.of_closed (g2 j q hq)⟩⟩)⟩
  · rename_i id path sz off n hA
    simp only [Pr.run] at hx
    split at hx
    · rename_i row hr
      split at hx
      · rename_i q hq
        split at hx
        · rename_i hb
          simp only [Bool.and_eq_true] at hb
          simp only [Option.map_eq_some_iff, Prod.mk.injEq] at hx
          obtain ⟨⟨v', u', o', r'⟩, h1, rfl, rfl, rfl, _⟩ := hx
          obtain ⟨ob', g1, g2⟩ := Pr.need_run h1
          subst g2
          have hle : off + n ≤ arrLen q := hob.head
          have hpo : All (pathOb row.c path) := (All.tail hob).left
          have hsz := Nat.eq_of_beq_eq_true hb.2
          obtain ⟨pl, A, c, p1, p2, p3, p5, p4⟩ := evO_ref h hA
          obtain ⟨pl', p1', hrel⟩ := h.heap.row id row hr
          rw [p1] at p1'
          cases p1'
          obtain ⟨c1, _, _, c3⟩ := hrel.cellsAt hq hpo
          obtain ⟨s1, s2, s3, s4, s5⟩ := sub_spec c1 hb.1 hle
          have hex : ∀ j, ∃ u, ∀ y, (flat (sub q off n))[j]? = some y → w.cell? ⟨pl.g, pl.off + (offOf path + off * sz) + j, none⟩ = some u ∧ RO w (Tc C ρ s.hp) ρ u y := by
            intro j
            cases hj : (flat (sub q off n))[j]? with
            | none => exact ⟨Go.undef, fun y hy => by cases hy⟩
            | some y =>
              obtain ⟨u, e1, e2⟩ := c3 _ y (s5 j y hj)
              refine ⟨u, fun y' hy => ?_⟩
              cases hy
              refine ⟨?_, e2⟩
              rw [← e1, ← hsz]
              congr 2
              omega
          obtain ⟨us, hus⟩ := Classical.axiomOfChoice hex
          refine ⟨sub q off n, ob', _, (List.range (size (sub q off n))).map us, g1, (All.tail hob).right, ?_⟩
          rw [p2]
          exact src_cells s1 s2 s3 us (fun h0 => by
            obtain ⟨rfl, _⟩ := p4 (by omega)
            exact ⟨_, _, rfl, hus⟩)
        · simp [Pr.run] at hx
      · simp [Pr.run] at hx
    · cases hx
  · rename_i b hA
    obtain ⟨e1, e2⟩ := evO_str h hA
    obtain ⟨w1, w2⟩ := bytesOf_spec b
    refine ⟨_, ob, rd, b.data.toList.map (fun x => Value.int .u8 x.toNat), hx, hob, w1, rfl, fun w' => by rw [e1]; rfl, fun m _ w' _ => ?_, ?_, fun j q u hq hu => ?_⟩
    · rw [e1]
      simp only [Builtin.firstCells, elSize, Nat.mul_one, Sem.run_pure]
      congr 1
      apply Array.ext'
      simp
    · simp [size]
    · obtain ⟨hj, rfl⟩ := w2 j q hq
      have hu' : u = .int .u8 (b.data[j].toNat : Int) := by
        rw [List.getElem?_map, Array.getElem?_toList, Array.getElem?_eq_getElem hj] at hu
        simpa using hu.symm
      rw [hu']
      exact RO.of_closed (.int _ _)
  · simp [Pr.run] at hx

theorem srcT_cases {P : Program} {t2 : TypeId} (h2 : isSrcT P t2 = true) : (∃ e2, P.underlying t2 = some (.slice e2)) ∨ P.underlying t2 = some .string := by
  unfold isSrcT at h2
  split at h2
  · exact .inl ⟨_, by assumption⟩
  · exact .inr (by assumption)
  · cases h2
/-- 'append' with room. -/
theorem append_room {P : Program} {T : T2} {t1 t2 ty e : TypeId} {i : TypeInfo} (h1 : P.underlying t1 = some (.slice e)) (h2 : isSrcT P t2 = true) (hi : P.info? e = some i) {ad : Addr} {n c : Nat} {x : Value} {d : PV} {news : List Value} (hs : Src P w T ρ x d news)
    (hz : P.cellsOf e = elSize d) (hr : n + arrLen d ≤ c) {w' : World} (hst : (storeCells (ad.add (n * P.cellsOf e)) news).run P w = .ok () w') :
    (Builtin.append_ #[t1, t2] ty #[.slice (some ad) n c, x]).run P w = .ok (.slice (some ad) (n + arrLen d) c) w' := by
  have hf := hs.first w rfl
  rw [← hz] at hf
  rcases srcT_cases h2 with ⟨e2, hu⟩ | hu
  all_goals
    simp only [Builtin.append_, List.getElem?_toArray, List.getElem?_cons_zero, List.getElem?_cons_succ, Sem.run_bind, run_underlying h1, run_underlying hu, sizeOf_run hi, Result.andThen_ok, Sem.run_pure, Bool.false_eq_true, if_false, hs.len, if_pos hr, Bool.not_false, if_true, hf, hst]

/-- 'append' without. -/
theorem append_grow {P : Program} {T : T2} {t1 t2 ty e : TypeId} {i : TypeInfo} {z : Value} (h1 : P.underlying t1 = some (.slice e)) (h2 : isSrcT P t2 = true) (hi : P.info? e = some i) (hzv : ∀ w', (zeroValue e).run P w' = .ok z w') {A : Option Addr} {n c : Nat} {x : Value} {d : PV} {news olds : List Value} (hs : Src P w T ρ x d news)
    (hz : P.cellsOf e = elSize d) (hr : c < n + arrLen d) (hm : n + arrLen d ≤ maxLen) (hb : (n + arrLen d) * P.bytesOf e ≤ 140737488355328)
    (hold : ∀ w', w'.heap = w.heap → (Builtin.firstCells (P.cellsOf e) n (.slice A n c)).run P w' = .ok olds.toArray w') :
    ∃ cap, n + arrLen d ≤ cap ∧ cap ≤ maxLen ∧ (Builtin.append_ #[t1, t2] ty #[.slice A n c, x]).run P w =
      .ok (.slice (some ⟨w.heap.size, 0, none⟩) (n + arrLen d) cap) (World.alloc { w with drawn := w.drawn + 1 } (.cells (olds.toArray ++ news.toArray ++ Builtin.zeroCells z.cells (cap - (n + arrLen d))) e)) := by
  have hbytes : P.bytesOf e = i.bytes := by simp [Program.bytesOf, hi]
  rw [hbytes] at hb
  have hnr : ¬ n + arrLen d ≤ c := by omega
  have e1 : IntKind.i64.max = 9223372036854775807 := by decide
  have hov : ¬ (((n + arrLen d : Nat) : Int) > IntKind.i64.max ∧ (False ∨ i.bytes = 0)) := by
    rw [e1]; unfold maxLen at hm; omega
  have hov' : ¬ (((n + arrLen d : Nat) : Int) > IntKind.i64.max) := by
    rw [e1]; unfold maxLen at hm; omega
  have hfit : ¬ Builtin.nextslicecap (n + arrLen d) c * i.bytes > 2 ^ 48 := by
    have := growslice_fits hr hb
    omega
  refine ⟨grownCap w (n + arrLen d) c e, ?_, ?_, ?_⟩
  · simp only [grownCap, Question.cut]; omega
  · unfold maxLen at hm ⊢
    have := Nat.mod_lt (w.tape w.drawn (.appendCap (n + arrLen d) c e)) (show 0 < 2 ^ 63 - (n + arrLen d) by omega)
    simp only [grownCap, Question.cut]
    omega
  · have hf := hs.first { w with drawn := w.drawn + 1 } rfl
    rw [← hz] at hf
    have ho := hold { w with drawn := w.drawn + 1 } rfl
    have hch : (choose (.appendCap (n + arrLen d) c e)).run P w = .ok (grownCap w (n + arrLen d) c e) { w with drawn := w.drawn + 1 } := by
      rw [run_choose]
      rfl
    have hti : ∀ w', (typeInfo e).run P w' = .ok i w' := fun w' => by simp [typeInfo, program, Sem.run, hi]
    have hask : ∀ (m : Nat) (w' : World), (askRoom m).run P w' = .ok () w' := fun m w' => by
      unfold askRoom
      split <;> rfl
    have hnew : ∀ (w' : World) (cs : Array Value), (newRow e cs).run P w' = .ok ⟨w'.heap.size, 0, none⟩ (w'.alloc (.cells cs e)) := fun w' cs => rfl
    rcases srcT_cases h2 with ⟨e2, hu⟩ | hu
    all_goals
      simp only [Builtin.append_, List.getElem?_toArray, List.getElem?_cons_zero, List.getElem?_cons_succ, Sem.run_bind, run_underlying h1, run_underlying hu, sizeOf_run hi, Result.andThen_ok, Sem.run_pure, Bool.false_eq_true, if_false, hs.len, if_neg hnr, Bool.not_false, if_true, hti, if_neg hov, if_neg hfit, hch, hask, ho, hf, hzv, hnew]

theorem joinArr_spec {c d m : PV} (hc : isArr c = true) (wc : WF c) (wd : WF d) (h : joinArr c d = some m) :
    WF m ∧ arrLen m = arrLen c + arrLen d ∧ elSize d = elSize c ∧ elSize m = elSize c ∧ isArr m = true ∧ flat m = flat c ++ flat d := by
  unfold joinArr at h
  split at h
  · rename_i k n l k' n' l'
    split at h
    · rename_i hk
      have hk := IntKind.same_eq hk
      subst hk
      simp only [Option.some.injEq] at h
      subst h
      simp only [WF] at wc wd
      refine ⟨?_, rfl, rfl, rfl, rfl, by simp [flat]⟩
      simp only [WF, List.length_append]
      refine ⟨by omega, fun x hx => ?_⟩
      rcases List.mem_append.1 hx with hx | hx
      · exact wc.2 x hx
      · exact wd.2 x hx
    · cases h
  · rename_i sz n sh l sz' n' sh' l'
    split at h
    · rename_i hk
      simp only [Bool.and_eq_true] at hk
      have e1 := Nat.eq_of_beq_eq_true hk.1
      have e2 := Sh.beq_eq _ _ hk.2
      subst e1; subst e2
      simp only [Option.some.injEq] at h
      subst h
      simp only [WF] at wc wd
      refine ⟨?_, rfl, rfl, rfl, rfl, by simp only [flat]; exact flatL_append l l'⟩
      simp only [WF, List.length_append]
      refine ⟨by omega, WFL_of fun q hq => ?_, fun q hq => ?_⟩
      · rcases List.mem_append.1 hq with hq | hq
        · exact WFL_mem wc.2.1 q hq
        · exact WFL_mem wd.2.1 q hq
      · rcases List.mem_append.1 hq with hq | hq
        · exact wc.2.2 q hq
        · exact wd.2.2 q hq
    · cases h
  · cases h

theorem zeroCells_size (z : Array Value) (n : Nat) : (Builtin.zeroCells z n).size = n * z.size := by simp [Builtin.zeroCells]

theorem goes_append {emp : Bool} (h : SimAt C F ρ s a w) (hF : F k) {c : Call} (ho : o.op = .call c) (hc : c.callee = .builtin .append) (hsz : sizes c 2 = true) {v : PV} {ups : List (Nat × Option Row)} {ob : List Prop} {rd : List Nat}
    (hx : (appendP C.P (c.argTypes.getD 0 0) (c.argTypes.getD 1 0) (evO C.P C.G (c.argTypes.getD 0 0) s.fr (c.args.getD 0 (.func 0))) (evO C.P C.G (c.argTypes.getD 1 0) s.fr (c.args.getD 1 (.func 0))) k emp).run s.hp = some (v, ups, ob, rd)) (hob : All ob) : Goes C F ρ s a w o k v ups := by
  obtain ⟨callee, args, argTypes⟩ := c
  simp only at hc hx
  subst hc
  simp only [sizes, Bool.and_eq_true] at hsz
  have ha := Nat.eq_of_beq_eq_true hsz.1
  have ht := Nat.eq_of_beq_eq_true hsz.2
  obtain ⟨t1, t2, rfl⟩ : ∃ t1 t2, argTypes = #[t1, t2] := by
    obtain ⟨l⟩ := argTypes
    match l, ht with
    | [t1, t2], _ => exact ⟨t1, t2, rfl⟩
  obtain ⟨x, y, rfl⟩ : ∃ x y, args = #[x, y] := by
    obtain ⟨l⟩ := args
    match l, ha with
    | [x, y], _ => exact ⟨x, y, rfl⟩
  have e1 : (#[t1, t2] : Array TypeId).getD 0 0 = t1 := rfl
  have e2 : (#[t1, t2] : Array TypeId).getD 1 0 = t2 := rfl
  have e3 : (#[x, y] : Array Operand).getD 0 (.func 0) = x := rfl
  have e4 : (#[x, y] : Array Operand).getD 1 (.func 0) = y := rfl
  rw [e1, e2, e3, e4] at hx
  have hrun : ∀ u w', (Builtin.append_ #[t1, t2] o.type #[a.eval x, a.eval y]).run C.P w = .ok u w' → (execOp a.eval o).run C.P w = .ok (.value u) w' := by
    intro u w' hu
    simp only [execOp, ho, resolve, Sem.run_bind, Sem.run_pure, Result.andThen_ok, invoke, builtin, List.map_toArray, List.map_cons, List.map_nil, hu]
  unfold appendP at hx
  split at hx
  · rename_i e hu
    split at hx
    · rename_i hsrc
      obtain ⟨d, ob', rd', news, g1, g2, g3⟩ := elems_spec h hx hob
      generalize hA : evO C.P C.G t1 s.fr x = A at g1
      unfold appendTo at g1
      split at g1
      · -- nil
        rename_i c0
        obtain ⟨w1, w2, w3⟩ := evO_vec h hA
        obtain ⟨hv⟩ : Nonempty (a.eval x = .slice none 0 0) := by
          generalize a.eval x = vx at w3
          cases w3 with
          | vec0 A' cc _ _ _ hn hcn =>
            cases A' with
            | none => rw [hcn rfl]; exact ⟨rfl⟩
            | some A' => simp at hn
        split at g1
        · -- nothing is appended
          split at g1
          · rename_i hb
            simp only [Bool.and_eq_true] at hb
            simp only [Pr.run, Option.some.injEq, Prod.mk.injEq] at g1
            obtain ⟨rfl, rfl, rfl, _⟩ := g1
            have h0 : arrLen c0 = 0 := g2.head
            have h1 : arrLen d = 0 := g2.tail.head
            refine Goes.pure h (u := .slice none 0 0) (hrun _ _ ?_) fun _ => RV.of_leaf rfl (fun _ e => by cases e) (by simp only [WF]; exact ⟨w1, w2, fun _ => h0⟩) (by simp only [RO]; exact .vec0 _ _ _ _ h0 rfl (fun _ => rfl))
            rw [hv]
            obtain ⟨inf, hi⟩ := info_of_sz (szOk_ne hb.1)
            have hf := g3.first w rfl
            rw [← Nat.eq_of_beq_eq_true hb.2, h1] at hf
            have hlen := g3.len w
            rw [h1] at hlen
            rcases srcT_cases hsrc with ⟨e2, hu2⟩ | hu2
            all_goals
              simp only [Builtin.append_, List.getElem?_toArray, List.getElem?_cons_zero, List.getElem?_cons_succ, Sem.run_bind, run_underlying hu, run_underlying hu2, sizeOf_run hi, Result.andThen_ok, Sem.run_pure, Bool.false_eq_true, if_false, hlen, Nat.add_zero, Nat.le_refl, if_true, Bool.not_false, hf]
          · simp [Pr.run] at g1
        · split at g1
          · rename_i hb
            simp only [Bool.and_eq_true] at hb
            obtain ⟨⟨⟨b1, b2⟩, b3⟩, b4⟩ := hb
            simp only [Pr.run, Option.some.injEq, Prod.mk.injEq] at g1
            obtain ⟨rfl, rfl, rfl, _⟩ := g1
            have b1 := Nat.eq_of_beq_eq_true b1
            obtain ⟨inf, hi⟩ := info_of_sz (szOk_ne b3)
            obtain ⟨z, hz⟩ := Option.isSome_iff_exists.1 b4
            obtain ⟨zv, z1, z2, z3, _⟩ := zeroOf_spec (w := w) hz
            have hpos : 0 < arrLen d := g2.head
            have hroom : arrLen d * C.P.bytesOf e ≤ 140737488355328 := g2.tail.head
            have hmax : arrLen d ≤ maxLen := g2.tail.tail.head
            obtain ⟨cap, q1, q2, q3⟩ := append_grow (ty := o.type) (A := none) (n := 0) (c := 0) (olds := []) hu hsrc hi z1 g3 b1 (by omega) (by omega) (by rw [Nat.zero_add]; exact hroom) (fun w' _ => rfl)
            rw [Nat.zero_add] at q1 q3
            have hsd : size d = arrLen d * elSize d := size_arr g3.arr
            have hcs : (([] : List Value).toArray ++ news.toArray ++ Builtin.zeroCells zv.cells (cap - arrLen d)).size = cap * elSize d := by
              simp only [List.append_toArray, List.nil_append, Array.size_append, List.size_toArray, g3.size, zeroCells_size, z2, z3, b1, hsd]
              obtain ⟨r, rfl⟩ : ∃ r, cap = arrLen d + r := ⟨cap - arrLen d, by omega⟩
              rw [Nat.add_sub_cancel_left, Nat.add_mul]
            refine goes_newSlice h hF (NewBlk.drew_alloc w (w.drawn + 1) _ e (0, 0)) (hrun _ _ (by rw [hv]; exact q3)) g3.wf ?_ (by simp) (fun j q u hq hu' => ?_) q1 q2 (by rw [hcs, b1]; exact Nat.le_refl _)
            · rw [hcs, hsd]; exact Nat.mul_le_mul_right _ q1
            · have hj : j < news.length := by
                have := (List.getElem?_eq_some_iff.1 hq).1
                rw [flat_length d g3.wf] at this
                rw [g3.size]; exact this
              refine g3.rel j q u hq ?_
              simp only [List.append_toArray, List.nil_append] at hu'
              rw [Array.getElem?_append_left (by simpa using hj)] at hu'
              simpa using hu'
          · simp [Pr.run] at g1
      · -- a row
        rename_i id sz off n
        simp only [Pr.run] at g1
        split at g1
        · rename_i row hr
          split at g1
          · simp [Pr.run] at g1
          · rename_i hb
            simp only [Bool.or_eq_true, Bool.not_eq_true', not_or, Bool.not_eq_true, Bool.not_eq_false] at hb
            obtain ⟨⟨⟨⟨⟨b0, b1⟩, b2⟩, b3⟩, b4⟩, b5⟩ := hb
            split at g1
            · rename_i c' hc'
              simp only [Pr.run, Option.map_some, Option.some.injEq, Prod.mk.injEq] at g1
              obtain ⟨rfl, rfl, rfl, _⟩ := g1
              have b2 := Nat.eq_of_beq_eq_true b2
              have b3 := Nat.eq_of_beq_eq_true b3
              obtain ⟨inf, hi⟩ := info_of_sz (szOk_ne b4)
              obtain ⟨z, hz⟩ := Option.isSome_iff_exists.1 b5
              obtain ⟨zv, z1, z2, z3, _⟩ := zeroOf_spec (w := w) hz
              have hend : off + n = arrLen row.c := g2.head
              have hroom : (n + arrLen d) * C.P.bytesOf e ≤ 140737488355328 := g2.tail.head
              have hmax : n + arrLen d ≤ maxLen := g2.tail.tail.head
              obtain ⟨pl, A', c, p1, p2, p3, p5, p4⟩ := evO_ref h hA
              obtain ⟨pl', p1', hrel⟩ := h.heap.row id row hr
              rw [p1] at p1'
              cases p1'
              have hrel' := hrel
              obtain ⟨cs, tt, fz, r1, r2, r3, r4, r5, r6⟩ := hrel
              obtain ⟨s1, s2, s3, s4, s5⟩ := sub_spec r4 b1 (x := off) (n := n) (by omega)
              obtain ⟨j1, j2, j3, j4, j5, j6⟩ := joinArr_spec s2 s1 g3.wf hc'
              have hesz : elSize (sub row.c off n) = sz := by rw [s4, ← b3]
              have hsub : size (sub row.c off n) = n * sz := by rw [size_arr s2, s3, hesz]
              have hszd : size d = arrLen d * sz := by rw [size_arr g3.arr, j3, hesz]
              have hszc : size c' = (n + arrLen d) * sz := by rw [size_arr j5, j2, s3, j4, hesz]
              have hlsub : (flat (sub row.c off n)).length = n * sz := by rw [flat_length _ s1, hsub]
              have hflat : ∀ (j : Nat) (q : PV), (flat (sub row.c off n))[j]? = some q → (flat row.c)[off * sz + j]? = some q := fun j q hq => by
                have := s5 j q hq
                rwa [← b3] at this
              have hrows : size row.c = (off + n) * sz := by rw [size_arr b1, ← hend, ← b3]
              by_cases hroomy : n + arrLen d ≤ c
              · have hext : off * sz + c * sz ≤ pl.ext := by
                  rcases Nat.eq_zero_or_pos c with h0 | h0
                  · subst h0
                    rw [hrows, show n = 0 by omega, Nat.add_zero] at r3
                    omega
                  · have := (p4 h0).2
                    simp only [offOf] at this
                    omega
                have hnc : (n + arrLen d) * sz ≤ c * sz := Nat.mul_le_mul_right _ hroomy
                have hnc' : n * sz + arrLen d * sz ≤ c * sz := by rw [← Nat.add_mul]; exact hnc
                obtain ⟨h1, hk, he⟩ := h.rename (k := k) hr b0 p1 hF (c' := sub row.c off n) (o := off * sz) (ext := c * sz) s1 (by omega) hext hflat
                have h2 := h1.write (id := k) (row := ⟨sub row.c off n, false⟩) (pl := ⟨pl.g, pl.off + off * sz, c * sz⟩) (upd_same _ _ _) rfl (upd_same _ _ _) (c' := c') (o := n * sz) news j1 (by rw [hszc]; exact hnc) (by rw [g3.size, hszd]; exact hnc')
                  (fun j q u hq hu' => by
                    rw [j6, List.getElem?_append_right (by omega), hlsub, Nat.add_sub_cancel_left] at hq
                    exact (g3.rel j q u hq hu').keep hk he)
                  (fun j q hj hq => by
                    have hjl : j < (flat c').length := (List.getElem?_eq_some_iff.1 hq).1
                    rw [flat_length c' j1, hszc, Nat.add_mul] at hjl
                    rw [g3.size, hszd] at hj
                    rw [j6, List.getElem?_append_left (by omega)] at hq
                    exact hq)
                simp only [upd_upd] at h2
                intro K Q hK
                have hst : (storeCells (A'.add (n * C.P.cellsOf e)) news).run C.P w = .ok () (w.setCells pl.g (pl.off + off * sz + n * sz) news) := by
                  rcases Nat.eq_zero_or_pos c with h0 | h0
                  · have : news = [] := List.eq_nil_of_length_eq_zero (by rw [g3.size, hszd, show arrLen d = 0 by omega]; omega)
                    subst this
                    rfl
                  · obtain ⟨rfl, _⟩ := p4 h0
                    have hs2 := run_storeCells_cells (P := C.P) pl.g (pl.off + off * sz + n * sz) news 0 w (fun j hj => by
                        rw [g3.size, hszd] at hj
                        rw [Nat.add_zero, cell?_of_heap r1, Array.getElem?_eq_getElem (by omega)]; rfl)
                      (fun j hj => by
                        rw [g3.size, hszd] at hj
                        have := r5 (off * sz + n * sz + j) (by omega)
                        simp only [World.frozen?, r1]
                        rw [show pl.off + (off * sz + n * sz + j) = pl.off + off * sz + n * sz + 0 + j by omega] at this
                        exact this)
                      (fun u hu' => by
                        obtain ⟨j, hj, rfl⟩ := List.getElem_of_mem hu'
                        have hjd : j < (flat d).length := by rw [flat_length d g3.wf, ← g3.size]; exact hj
                        exact (g3.rel j _ _ (List.getElem?_eq_getElem hjd) (List.getElem?_eq_getElem hj)).one)
                    rw [add_none, b2]
                    simp only [offOf, Nat.zero_add]
                    exact hs2
                have hrunA := append_room (ty := o.type) hu hsrc hi g3 (by rw [j3, hesz, b2]) hroomy hst
                refine wp_value (hrun _ _ (by rw [p2]; exact hrunA)) (hK _ _ _ (Ext.upd _ (h.free k hF).1) (h2.less fun i hi => ⟨hi.1, by omega⟩) fun _ => ?_)
                refine RV.of_leaf rfl (fun _ e => by cases e) trivial ?_
                simp only [RO]
                refine ⟨_, A', c, upd_same _ _ _, rfl, hroomy, p5, fun h0 => ?_⟩
                obtain ⟨rfl, _⟩ := p4 h0
                exact ⟨by simp only [offOf, Addr.mk.injEq, true_and, and_true]; omega, by simp only [offOf]; omega⟩
              · have hex : ∀ j, ∃ u, ∀ y, (flat (sub row.c off n))[j]? = some y → w.cell? ⟨pl.g, pl.off + off * sz + j, none⟩ = some u ∧ RO w (Tc C ρ s.hp) ρ u y := by
                  intro j
                  cases hj : (flat (sub row.c off n))[j]? with
                  | none => exact ⟨Go.undef, fun y hy => by cases hy⟩
                  | some y =>
                    have h1 := hflat j y hj
                    have hjl : off * sz + j < size row.c := by
                      have := (List.getElem?_eq_some_iff.1 h1).1
                      rw [flat_length _ r4] at this
                      exact this
                    have hcell : cs[pl.off + (off * sz + j)]? = some cs[pl.off + (off * sz + j)] := Array.getElem?_eq_getElem (by omega)
                    refine ⟨cs[pl.off + (off * sz + j)], fun y' hy => ?_⟩
                    cases hy
                    refine ⟨?_, r6 _ y _ h1 hcell⟩
                    rw [Nat.add_assoc, cell?_of_heap r1]
                    exact hcell
                obtain ⟨us, hus⟩ := Classical.axiomOfChoice hex
                have hsO : Src C.P w (Tc C ρ s.hp) ρ (.slice (some A') n c) (sub row.c off n) ((List.range (size (sub row.c off n))).map us) :=
                  src_cells s1 s2 s3 us (fun h0 => by
                    obtain ⟨rfl, _⟩ := p4 (by omega)
                    exact ⟨_, _, rfl, fun j q hq => by simp only [offOf, Nat.zero_add]; exact hus j q hq⟩)
                obtain ⟨cap, q1, q2, q3⟩ := append_grow (ty := o.type) (A := some A') (n := n) (c := c) (olds := (List.range (size (sub row.c off n))).map us) hu hsrc hi z1 g3 (by rw [j3, hesz, b2]) (by omega) hmax hroom (fun w' hh => by
                  have := hsO.first w' hh
                  rw [hesz, s3, ← b2] at this
                  exact this)
                obtain ⟨hK1, hK2⟩ := h.kill id
                have hcs : (((List.range (size (sub row.c off n))).map us).toArray ++ news.toArray ++ Builtin.zeroCells zv.cells (cap - (n + arrLen d))).size = cap * sz := by
                  simp only [List.append_toArray, Array.size_append, List.size_toArray, List.length_append, List.length_map, List.length_range, g3.size, zeroCells_size, z2, z3, b2, hszd, hsub]
                  obtain ⟨r, rfl⟩ : ∃ r, cap = n + arrLen d + r := ⟨cap - (n + arrLen d), by omega⟩
                  rw [Nat.add_sub_cancel_left, Nat.add_mul, Nat.add_mul]
                have h2 := hK1.newBlk (k := k) hF (NewBlk.drew_alloc w (w.drawn + 1) (((List.range (size (sub row.c off n))).map us).toArray ++ news.toArray ++ Builtin.zeroCells zv.cells (cap - (n + arrLen d))) e (0, 0)) c' j1
                  (by rw [hcs, hszc]; exact Nat.mul_le_mul_right _ q1) (by simp) (fun j q u hq hu' => by
                    rw [j6] at hq
                    simp only [List.append_toArray] at hu'
                    have hjl : j < n * sz + arrLen d * sz := by
                      have := (List.getElem?_eq_some_iff.1 hq).1
                      rw [List.length_append, hlsub, flat_length d g3.wf, hszd] at this
                      exact this
                    rw [Array.getElem?_append_left (by simp [g3.size, hszd, hsub]; omega), List.getElem?_toArray] at hu'
                    by_cases hj : j < n * sz
                    · rw [List.getElem?_append_left (by omega)] at hq
                      rw [List.getElem?_append_left (by simp [hsub]; omega)] at hu'
                      have : u = us j := by
                        simp [hsub, hj] at hu'
                        exact hu'.symm
                      rw [this]
                      exact (hus j q hq).2.keep hK2 (Ext.refl _)
                    · rw [List.getElem?_append_right (by omega), hlsub] at hq
                      rw [List.getElem?_append_right (by simp [hsub]; omega)] at hu'
                      simp only [List.length_map, List.length_range, hsub] at hu'
                      exact (g3.rel _ q u hq hu').keep hK2 (Ext.refl _))
                intro K Q hK
                refine wp_value (hrun _ _ (by rw [p2]; exact q3)) (hK _ _ _ (Ext.upd _ (h.free k hF).1) (h2.less fun i hi => ⟨hi.1, by omega⟩) fun _ => ?_)
                refine RV.of_leaf rfl (fun _ e => by cases e) trivial ?_
                simp only [RO]
                exact ⟨_, _, cap, upd_same _ _ _, rfl, q1, q2, fun _ => ⟨by simp [offOf], by simp only [offOf, Nat.zero_mul, Nat.zero_add]; omega⟩⟩
            · simp [Pr.run] at g1
        · cases g1
      · simp [Pr.run] at g1
    · simp [Pr.run] at hx
  · simp [Pr.run] at hx
end
end Go.Pe
