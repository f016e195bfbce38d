/- The plain operations are right, third part: loads, stores, fields, indexes, build. No condition. -/
import Derived.Test.YtfecpjikhlangaaPeG
namespace Go.Pe

section
variable {C : Ctx} {F : Nat → Prop} {ρ : Pls} {s : St} {a : Act} {w : World} {o : Oper} {k : Nat}

theorem goes_binOp (h : SimAt C F ρ s a w) {op : BinOp} {xT yT : TypeId} {x y : Operand} (ho : o.op = .binOp op xT x y yT) {v : PV} {ups : List (Nat × Option Row)} {ob : List Prop} {rd : List Nat}
    (hx : (binP C.P xT op (evO C.P C.G xT s.fr x) (evO C.P C.G yT s.fr y)).run s.hp = some (v, ups, ob, rd)) (hob : All ob) : Goes C F ρ s a w o k v ups := by
  have hrun : ∀ u, (do eqGuard op xT x y (a.eval x) (a.eval y); binOp op xT (a.eval x) (a.eval y) : Sem Value).run C.P w = .ok u w → (execOp a.eval o).run C.P w = .ok (.value u) w := by
    intro u hu
    simp only [execOp, ho]
    rw [Sem.run_bind, hu]
    rfl
  generalize hA : evO C.P C.G xT s.fr x = A at hx
  generalize hB : evO C.P C.G yT s.fr y = B at hx
  unfold binP at hx
  split at hx
  · rename_i kd n kd' m
    obtain ⟨e1, w1⟩ := evO_int h hA
    obtain ⟨e2, w2⟩ := evO_int h hB
    split at hx
    · refine Goes.of_ret h hx hob (fun v ob he hob => ?_) ?_
      · obtain ⟨u, h1, h2⟩ := shift_run (w := w) w1 he hob C.P xT x y (kd' := kd')
        exact ⟨u, hrun u (by rw [e1, e2]; exact h1), fun _ => h2 _ _⟩
      · cases op <;> first | exact ⟨.undef, [], .inr rfl⟩ | exact ⟨_, _, .inl rfl⟩
    · rename_i hsh
      split at hx
      · rename_i hk
        have hk := IntKind.same_eq hk
        subst hk
        refine Goes.of_ret h hx hob (fun v ob he hob => ?_) ?_
        · obtain ⟨u, h1, h2⟩ := arith_run (w := w) (by simpa using hsh) w1 he hob C.P xT x y
          exact ⟨u, hrun u (by rw [e1, e2]; exact h1), fun _ => h2 _ _⟩
        · cases op <;> first | exact ⟨.undef, [], .inr rfl⟩ | exact ⟨_, _, .inl rfl⟩
      · simp [Pr.run] at hx
  · rename_i p q
    have e1 := evO_bool h hA
    have e2 := evO_bool h hB
    split at hx
    · rename_i hb
      have hu : C.P.underlying xT = some .bool := by
        unfold isBoolT at hb
        split at hb
        · assumption
        · cases hb
      have hg : ∀ op, (eqGuard op xT x y (.bool p) (.bool q)).run C.P w = .ok () w := fun op => by cases op <;> rfl
      have heq : (Op.equal xT (.bool p) (.bool q)).run C.P w = .ok (p == q) w := by
        show (Op.equalIn (9999 + 1) xT (.bool p) (.bool q)).run C.P w = _
        rw [Op.equalIn, Sem.run_bind, run_underlying hu, Result.andThen_ok]
        rfl
      split at hx <;> simp only [Pr.run, Option.some.injEq, Prod.mk.injEq, reduceCtorEq] at hx
      all_goals obtain ⟨rfl, rfl, _, _⟩ := hx
      · exact Goes.pure h (hrun _ (by rw [e1, e2, Sem.run_bind, hg, Result.andThen_ok]; simp only [binOp, Sem.run_bind, heq, Result.andThen_ok, Sem.run_pure])) fun _ => RV.bool _
      · exact Goes.pure h (hrun _ (by rw [e1, e2, Sem.run_bind, hg, Result.andThen_ok]; simp only [binOp, Sem.run_bind, heq, Result.andThen_ok, Sem.run_pure])) fun _ => RV.bool _
    · simp [Pr.run] at hx
  · rename_i p q
    obtain ⟨e1, _⟩ := evO_str h hA
    obtain ⟨e2, _⟩ := evO_str h hB
    refine Goes.of_ret h hx hob (fun v ob he hob => ?_) ?_
    · obtain ⟨u, h1, h2⟩ := str_run (w := w) he hob C.P xT x y
      exact ⟨u, hrun u (by rw [e1, e2]; exact h1), fun _ => h2 _ _⟩
    · cases op <;> first | exact ⟨.undef, [], .inr rfl⟩ | exact ⟨_, _, .inl rfl⟩
  · simp [Pr.run] at hx

theorem goes_unOp (h : SimAt C F ρ s a w) {op : UnOp} {xT : TypeId} {x : Operand} (ho : o.op = .unOp op xT x) {v : PV} {ups : List (Nat × Option Row)} {ob : List Prop} {rd : List Nat}
    (hx : (unP op (evO C.P C.G xT s.fr x)).run s.hp = some (v, ups, ob, rd)) : Goes C F ρ s a w o k v ups := by
  generalize hA : evO C.P C.G xT s.fr x = A at hx
  unfold unP at hx
  split at hx <;> simp only [Pr.run, Option.some.injEq, Prod.mk.injEq, reduceCtorEq] at hx
  all_goals obtain ⟨rfl, rfl, _, _⟩ := hx
  · obtain ⟨e1, _⟩ := evO_int h hA
    exact Goes.pure h (by simp only [execOp, ho, e1, Op.unary, Op.intArith]; rfl) fun _ => RV.int (wrap_wrap _ _)
  · obtain ⟨e1, _⟩ := evO_int h hA
    exact Goes.pure h (by simp only [execOp, ho, e1, Op.unary, intBits_xor]; rfl) fun _ => RV.int (wrap_wrap _ _)
  · have e1 := evO_bool h hA
    exact Goes.pure h (by simp only [execOp, ho, e1, Op.unary]; rfl) fun _ => RV.bool _

theorem isAgg_run {P : Program} {t : TypeId} (h : tyOk P t = true) : (Go.isAgg t).run P w = .ok (isAggT P t) w := by
  unfold tyOk at h
  cases hu : P.underlying t with
  | none => rw [hu] at h; cases h
  | some d =>
    unfold Go.isAgg isAggT
    rw [Sem.run_bind, run_underlying hu, Result.andThen_ok, hu]
    cases d <;> rfl
theorem info_of_tyOk {P : Program} {t : TypeId} (h : tyOk P t = true) : ∃ i, P.info? t = some i := by
  unfold tyOk Program.underlying at h
  cases hi : P.info? t with
  | none => rw [hi] at h; cases h
  | some i => exact ⟨i, rfl⟩
theorem sizeOf_run {P : Program} {t : TypeId} {i : TypeInfo} (h : P.info? t = some i) : (Go.sizeOf t).run P w = .ok (P.cellsOf t) w := by
  simp [Go.sizeOf, typeInfo, program, Sem.run, h, Program.cellsOf]

/-- The cells at an address stand for q. -/
def CellsAt (w : World) (T : T2) (ρ : Pls) (b o : Nat) (q : PV) : Prop := ∀ (j : Nat) (x : PV), (flat q)[j]? = some x → ∃ u, w.cell? ⟨b, o + j, none⟩ = some u ∧ RO w T ρ u x

theorem loadVar_run {P : Program} {t : TypeId} {T : T2} {b off : Nat} {q : PV} (hw : WF q) (hs : P.cellsOf t = size q) (ha : isAggT P t = Pe.isAgg q) (ht : isTup q = false) (hok : tyOk P t = true) (hc : CellsAt w T ρ b off q) :
    ∃ v, (loadVar t ⟨b, off, none⟩).run P w = .ok v w ∧ RV w T ρ v q := by
  obtain ⟨i, hi⟩ := info_of_tyOk hok
  have hlen := flat_length q hw
  have htup : ∀ vs, q ≠ .tup vs := fun vs e => by subst e; cases ht
  unfold loadVar
  rw [Sem.run_bind, isAgg_run hok, Result.andThen_ok, ha]
  cases hg : Pe.isAgg q with
  | true =>
    have hex : ∀ j, ∃ u, j < size q → w.cell? ⟨b, off + j, none⟩ = some u ∧ ∀ x, (flat q)[j]? = some x → RO w T ρ u x := by
      intro j
      by_cases hj : j < size q
      · have : (flat q)[j]? = some (flat q)[j] := List.getElem?_eq_getElem (by omega)
        obtain ⟨u, h1, h2⟩ := hc j _ this
        exact ⟨u, fun _ => ⟨h1, fun x hx => by rw [this] at hx; cases hx; exact h2⟩⟩
      · exact ⟨Go.undef, fun h => absurd h hj⟩
    obtain ⟨f, hf⟩ := Classical.axiomOfChoice hex
    have hl := run_loadCells (P := P) w ⟨b, off, none⟩ (size q) f (fun j hj => by rw [add_none]; exact (hf j hj).1)
    refine ⟨.agg ((List.range (size q)).map f).toArray, ?_, RV.of_agg hg hw ⟨_, rfl, by simp, fun j x u hx hu => ?_⟩⟩
    · simp only [if_true, Sem.run_bind, sizeOf_run hi, Result.andThen_ok, hs, hl, Sem.run_pure]
    · have hj : j < size q := by have := (List.getElem?_eq_some_iff.1 hx).1; omega
      have hu' : u = f j := by
        simp [hj] at hu
        exact hu.symm
      rw [hu']
      exact (hf j hj).2 x hx
  | false =>
    have hl : Pe.leaf q = true := by rw [Pe.leaf_agg, hg]; rfl
    obtain ⟨u, h1, h2⟩ := hc 0 q (by rw [flat_leaf hl]; rfl)
    refine ⟨u, ?_, RV.of_leaf hl htup hw h2⟩
    simp only [Nat.add_zero] at h1
    simp [run_load, h1]

theorem RowRel.cellsAt {w : World} {T : T2} {ρ : Pls} {pl : Pl} {row : Row} (h : RowRel w T ρ pl row) {path : List Stp} {q : PV} (hn : node row.c path = some q) (ho : All (pathOb row.c path)) :
    WF q ∧ (noref row.c = true → noref q = true) ∧ offOf path + size q ≤ size row.c ∧ CellsAt w T ρ pl.g (pl.off + offOf path) q := by
  obtain ⟨cs, t, fz, g1, g2, g3, g4, g5, g6⟩ := h
  obtain ⟨n1, n2, n3, n4⟩ := node_flat path g4 hn ho
  refine ⟨n1, n4, n2, fun j x hx => ?_⟩
  have hj : j < size q := by
    have := (List.getElem?_eq_some_iff.1 hx).1
    rw [flat_length q n1] at this
    exact this
  have hlt : pl.off + (offOf path + j) < cs.size := by omega
  have hu : cs[pl.off + (offOf path + j)]? = some cs[pl.off + (offOf path + j)] := Array.getElem?_eq_getElem hlt
  refine ⟨_, ?_, g6 _ x _ (by rw [n3 j hj]; exact hx) hu⟩
  rw [Nat.add_assoc, cell?_of_heap g1]
  exact hu

theorem RC.cellsAt {w : World} {T : T2} {ρ : Pls} {v : Value} {c : PV} {path : List Stp} (hw : WF c) (h : RC w T v (.cptr c path)) {q : PV} {r : List Stp} (hn : node c (path ++ r) = some q) (ho : All (pathOb c (path ++ r))) :
    ∃ b o, v = .pointer (some ⟨b, o + offOf path, none⟩) ∧ WF q ∧ CellsAt w T ρ b (o + offOf (path ++ r)) q := by
  cases h with
  | cptr b o' _ _ us h1 h2 =>
    obtain ⟨n1, n2, n3, n4⟩ := node_flat _ hw hn ho
    refine ⟨b, o', rfl, n1, fun j x hx => ?_⟩
    have hj : j < size q := by
      have := (List.getElem?_eq_some_iff.1 hx).1
      rw [flat_length q n1] at this
      exact this
    have hx' : (flat c)[offOf (path ++ r) + j]? = some x := by rw [n3 j hj]; exact hx
    exact ⟨us _, by rw [Nat.add_assoc]; exact (h1 _ x hx').2, RO.of_closed (h2 _ x hx')⟩

theorem goes_load_at (h : SimAt C F ρ s a w) {t : TypeId} {x : Operand} (ho : o.op = .load t x) {id : Nat} {path : List Stp} (hx0 : evO C.P C.G 0 s.fr x = .at id path) {row : Row} (hr : s.hp id = some row)
    {v : PV} {ups : List (Nat × Option Row)} {ob : List Prop} {rd : List Nat} (hx : (loadP C.P t row.c path).run s.hp = some (v, ups, ob, rd)) (hob : All ob) : Goes C F ρ s a w o k v ups := by
  unfold loadP at hx
  split at hx
  · rename_i q hq
    split at hx
    · rename_i hb
      simp only [Bool.and_eq_true, Bool.not_eq_true', beq_iff_eq] at hb
      obtain ⟨⟨⟨b1, b2⟩, b3⟩, b4⟩ := hb
      simp only [Pr.run, Option.some.injEq, Prod.mk.injEq] at hx
      obtain ⟨rfl, rfl, rfl, _⟩ := hx
      obtain ⟨pl, p1, p2⟩ := evO_at h hx0
      obtain ⟨pl', p1', hrel⟩ := h.heap.row id row hr
      rw [p1] at p1'
      cases p1'
      obtain ⟨c1, _, _, c3⟩ := hrel.cellsAt hq hob
      obtain ⟨u, h1, h2⟩ := loadVar_run (P := C.P) c1 (Nat.eq_of_beq_eq_true b1) b2 b3 b4 c3
      exact Goes.pure h (by simp only [execOp, ho, p2, Instr.loadAt, Instr.sureAddr, Sem.run_bind, Sem.run_pure, Result.andThen_ok, h1]) fun _ => h2
    · simp [Pr.run] at hx
  · simp [Pr.run] at hx

theorem goes_load_cptr (h : SimAt C F ρ s a w) {t : TypeId} {x : Operand} (ho : o.op = .load t x) {c : PV} {path : List Stp} (hx0 : evO C.P C.G 0 s.fr x = .cptr c path)
    {v : PV} {ups : List (Nat × Option Row)} {ob : List Prop} {rd : List Nat} (hx : (loadP C.P t c path).run s.hp = some (v, ups, ob, rd)) (hob : All ob) : Goes C F ρ s a w o k v ups := by
  unfold loadP at hx
  split at hx
  · rename_i q hq
    split at hx
    · rename_i hb
      simp only [Bool.and_eq_true, Bool.not_eq_true', beq_iff_eq] at hb
      obtain ⟨⟨⟨b1, b2⟩, b3⟩, b4⟩ := hb
      simp only [Pr.run, Option.some.injEq, Prod.mk.injEq] at hx
      obtain ⟨rfl, rfl, rfl, _⟩ := hx
      obtain ⟨w1, _, w3⟩ := evO_cptr h hx0
      obtain ⟨b, o', p2, c1, c3⟩ := RC.cellsAt (ρ := ρ) (r := []) w1 w3 (by rw [List.append_nil]; exact hq) (by rw [List.append_nil]; exact hob)
      rw [List.append_nil] at c3
      obtain ⟨u, h1, h2⟩ := loadVar_run (P := C.P) c1 (Nat.eq_of_beq_eq_true b1) b2 b3 b4 c3
      exact Goes.pure h (by simp only [execOp, ho, p2, Instr.loadAt, Instr.sureAddr, Sem.run_bind, Sem.run_pure, Result.andThen_ok, h1]) fun _ => h2
    · simp [Pr.run] at hx
  · simp [Pr.run] at hx

theorem RA.ones {w : World} {T : T2} {ρ : Pls} {cs : Array Value} {v : PV} (hw : WF v) (hs : cs.size = size v) (h : ∀ (j : Nat) (q : PV) (u : Value), (flat v)[j]? = some q → cs[j]? = some u → RO w T ρ u q) : ∀ x ∈ cs.toList, x.oneCell' = true := by
  intro x hx
  obtain ⟨j, hj, rfl⟩ := List.getElem_of_mem hx
  have hj' : j < (flat v).length := by rw [flat_length v hw]; simp at hj; omega
  exact (h j _ _ (List.getElem?_eq_getElem hj') (by simp at hj ⊢)).one

theorem goes_store (h : SimAt C F ρ s a w) {t : TypeId} {x y : Operand} (ho : o.op = .store t x y) {id : Nat} {path : List Stp} (hx0 : evO C.P C.G 0 s.fr x = .at id path)
    {v : PV} {ups : List (Nat × Option Row)} {ob : List Prop} {rd : List Nat} (hx : (storeP C.P t id path (evO C.P C.G t s.fr y)).run s.hp = some (v, ups, ob, rd)) (hob : All ob) : Goes C F ρ s a w o k v ups := by
  unfold storeP at hx
  simp only [Pr.run] at hx
  split at hx
  · rename_i row hr
    split at hx
    · simp [Pr.run] at hx
    · rename_i hfz
      split at hx
      · rename_i c' hc'
        split at hx
        · rename_i hb
          simp only [Bool.and_eq_true] at hb
          simp only [Pr.run, Option.map_some, Option.some.injEq, Prod.mk.injEq] at hx
          obtain ⟨rfl, rfl, rfl, _⟩ := hx
          obtain ⟨g1, g2⟩ := good_spec hb.2
          have hv := evO_rel h t y g2
          generalize evO C.P C.G t s.fr y = v at *
          obtain ⟨c1, c2⟩ := hv.cells_of g1
          obtain ⟨pl, p1, p2⟩ := evO_at h hx0
          obtain ⟨pl', p1', hrel⟩ := h.heap.row id row hr
          rw [p1] at p1'
          cases p1'
          obtain ⟨cs, tt, fz, r1, r2, r3, r4, r5, r6⟩ := hrel
          have hset := setNode_flat v hv.1 path r4 hc' hob
          have hle := hset.2.2.1
          have hfz' : row.frz = false := by simpa using hfz
          obtain ⟨i, hi⟩ := info_of_tyOk hb.1.2
          have hst := run_storeCells_cells (P := C.P) pl.g (pl.off + offOf path) (a.eval y).cells.toList 0 w (fun j hj => by
              simp at hj
              rw [Nat.add_zero, cell?_of_heap r1, Array.getElem?_eq_getElem (by omega)]; rfl)
            (fun j hj => by
              simp at hj
              have := r5 (offOf path + j) (by omega)
              simp only [World.frozen?, r1]
              rw [← Nat.add_assoc] at this
              simpa using this) (RA.ones hv.1 c1 c2)
          have h' := h.store hr hfz' p1 hset (a.eval y).cells.toList (by simpa using c1) (fun j q u hq hu => c2 j q u hq (by simpa using hu))
          intro K Q hK
          refine wp_skip' (w' := w.setCells pl.g (pl.off + offOf path) (a.eval y).cells.toList) ?_ (hK _ _ ρ (Ext.refl _) (h'.less fun _ hi => hi.1) fun hne => absurd rfl hne)
          have hsz : (a.eval y).cells.size = C.P.cellsOf t := by rw [c1, Nat.eq_of_beq_eq_true hb.1.1]
          simp only [execOp, ho, p2, Instr.storeAt, Instr.sureAddr, storeVar, Sem.run_bind, Sem.run_pure, Result.andThen_ok, sizeOf_run hi, hsz, ne_eq, not_true_eq_false, if_false]
          rw [hst]
          rfl
        · simp [Pr.run] at hx
      · simp [Pr.run] at hx
  · cases hx
end
end Go.Pe
