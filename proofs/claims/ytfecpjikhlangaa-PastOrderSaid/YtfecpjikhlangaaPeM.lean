/- The plain operations are right, eighth part: struct, array and slice literals. No condition. -/
import Derived.Test.YtfecpjikhlangaaPeL
namespace Go.Pe

theorem foldl_set (off : Nat) : ∀ (l : List Value) (k : Nat) (cs : Array Value), off + k + l.length ≤ cs.size →
    ((l.zipIdx k).foldl (fun cs (x : Value × Nat) => cs.setIfInBounds (off + x.2) x.1) cs).size = cs.size ∧
    (∀ j, j < l.length → ((l.zipIdx k).foldl (fun cs (x : Value × Nat) => cs.setIfInBounds (off + x.2) x.1) cs)[off + k + j]? = l[j]?) ∧
    (∀ j, j < off + k ∨ off + k + l.length ≤ j → ((l.zipIdx k).foldl (fun cs (x : Value × Nat) => cs.setIfInBounds (off + x.2) x.1) cs)[j]? = cs[j]?)
  | [], k, cs, _ => ⟨rfl, fun j hj => by simp at hj, fun _ _ => rfl⟩
  | v :: l, k, cs, h => by
    simp only [List.length_cons] at h
    rw [List.zipIdx_cons, List.foldl_cons]
    obtain ⟨a1, a2, a3⟩ := foldl_set off l (k + 1) (cs.setIfInBounds (off + k) v) (by simp; omega)
    refine ⟨by rw [a1]; simp, fun j hj => ?_, fun j hj => ?_⟩
    · cases j with
      | zero =>
        rw [Nat.add_zero, a3 _ (by omega)]
        simp [show off + k < cs.size by omega]
      | succ j =>
        have := a2 j (by simpa using hj)
        rw [show off + k + (j + 1) = off + (k + 1) + j by omega, this]
        simp
    · simp only [List.length_cons] at hj
      rw [a3 _ (by omega), Array.getElem?_setIfInBounds_ne (by omega)]

theorem foldl_zipIdx_arr (off : Nat) (vs cs : Array Value) : vs.zipIdx.foldl (fun cs (c, j) => cs.setIfInBounds (off + j) c) cs = (vs.toList.zipIdx 0).foldl (fun cs (x : Value × Nat) => cs.setIfInBounds (off + x.2) x.1) cs := by
  rw [← Array.foldl_toList, Array.toList_zipIdx]

section
variable {C : Ctx} {F : Nat → Prop} {ρ : Pls} {s : St} {a : Act} {w : World} {o : Oper} {k : Nat}

def LeavesRel (w : World) (T : T2) (ρ : Pls) (cs : Array Value) (c : PV) : Prop := ∀ (j : Nat) (q : PV) (u : Value), (flat c)[j]? = some q → cs[j]? = some u → RO w T ρ u q

/-- The parts of a literal, and what stands for them. -/
def PartsRel (w : World) (T : T2) (ρ : Pls) : List (Nat × PV) → List (Nat × Value) → Prop
  | [], [] => True
  | x :: l, y :: m => x.1 = y.1 ∧ (x.2 ≠ .undef → RV w T ρ y.2 x.2) ∧ PartsRel w T ρ l m
  | _, _ => False

theorem parts_rel (h : SimAt C F ρ s a w) : ∀ (l : List (Nat × Operand)), PartsRel w (Tc C ρ s.hp) ρ (evParts (evO C.P C.G 0 s.fr) l) (l.map fun x => (x.1, a.eval x.2))
  | [] => trivial
  | x :: l => ⟨rfl, fun hne => evO_rel h 0 x.2 hne, parts_rel h l⟩

theorem fill_rel {T : T2} {placeR : Nat → Option (Nat × Nat)} {placeP : Nat → Option (Stp × Nat)} (hpl : ∀ i st n, placeP i = some (st, n) → placeR i = some (st.off, n)) :
    ∀ (ps : List (Nat × PV)) (vs : List (Nat × Value)) (c c' : PV) (cells : Array Value), fillP c placeP ps = some c' → PartsRel w T ρ ps vs → WF c → cells.size = size c → LeavesRel w T ρ cells c →
      ∃ cells', Instr.fill placeR cells vs = some cells' ∧ WF c' ∧ size c' = size c ∧ cells'.size = size c ∧ LeavesRel w T ρ cells' c' ∧ Pe.isAgg c' = Pe.isAgg c
  | [], [], c, c', cells, h, _, hw, hs, hl => by
    simp only [fillP, Option.some.injEq] at h
    subst h
    exact ⟨cells, rfl, hw, rfl, hs, hl, rfl⟩
  | [], _ :: _, _, _, _, _, h, _, _, _ => h.elim
  | _ :: _, [], _, _, _, _, h, _, _, _ => h.elim
  | x :: ps, y :: vs, c, c', cells, h, hp, hw, hs, hl => by
    obtain ⟨e1, e2, e3⟩ := hp
    unfold fillP at h
    split at h
    · rename_i st n hst
      split at h
      · rename_i hb
        simp only [Bool.and_eq_true] at hb
        obtain ⟨⟨b1, b2⟩, b3⟩ := hb
        have b1 := Nat.eq_of_beq_eq_true b1
        obtain ⟨g1, g2⟩ := good_spec b2
        have hv := e2 g2
        obtain ⟨c1, c2⟩ := hv.cells_of g1
        simp only [Option.bind_eq_some_iff] at h
        obtain ⟨m, hm, h⟩ := h
        have hob : All (pathOb c [st]) := by
          have hstep : All (stepOb c st) := by
            cases st with
            | fld i off => exact All.nil
            | idx i sz =>
              refine All.cons ?_ All.nil
              simp only [stepIn, Nat.blt_eq] at b3
              exact b3
          refine All.append hstep ?_
          split
          · exact All.nil
          · exact All.nil
        obtain ⟨s1, s2, s3, s4, s5, _⟩ := setNode_flat x.2 hv.1 [st] hw hm hob
        simp only [offOf, Nat.add_zero] at s3 s4 s5
        obtain ⟨f1, f2, f3⟩ := foldl_set st.off y.2.cells.toList 0 cells (by simp; omega)
        simp only [Nat.add_zero, Array.length_toList] at f2 f3
        have hagg : Pe.isAgg m = Pe.isAgg c := by
          cases st <;> simp only [setNode] at hm
          · split at hm
            · split at hm
              · simp only [Option.bind_eq_some_iff, Option.map_eq_some_iff] at hm
                obtain ⟨_, _, _, _, rfl⟩ := hm
                rfl
              · cases hm
            · cases hm
          · split at hm
            · split at hm
              · split at hm
                · simp only [Option.some.injEq] at hm; subst hm; rfl
                · cases hm
              · cases hm
            · split at hm
              · simp only [Option.bind_eq_some_iff] at hm
                obtain ⟨_, _, hm⟩ := hm
                split at hm
                · simp only [Option.some.injEq] at hm; subst hm; rfl
                · cases hm
              · cases hm
            · cases hm
        obtain ⟨cells', r1, r2, r3, r4, r5, r6⟩ := fill_rel hpl ps vs m c' _ h e3 s1 (by rw [f1, s2]; exact hs) (fun j q u hq hu => by
          by_cases hj : j < st.off ∨ st.off + size x.2 ≤ j
          · rw [s5 j hj] at hq
            rw [f3 j (by omega)] at hu
            exact hl j q u hq hu
          · obtain ⟨j', rfl⟩ : ∃ j', j = st.off + j' := ⟨j - st.off, by omega⟩
            rw [s4 j' (by omega)] at hq
            rw [f2 j' (by omega)] at hu
            exact c2 j' q u hq (by simpa using hu))
        refine ⟨cells', ?_, r2, by rw [r3, s2], by rw [r4, s2], r5, by rw [r6, hagg]⟩
        obtain ⟨yi, yv⟩ := y
        simp only at e1 c1 r1 ⊢
        unfold Instr.fill
        rw [← e1, hpl _ _ _ hst]
        simp only
        rw [if_neg (by rw [c1, b1]; simp; omega), foldl_zipIdx_arr]
        exact r1
      · cases h
    · cases h

theorem mapM_fields {P : Program} : ∀ (l : List Field), infosOk P l = true → (l.mapM (fun f => (do pure (f.offset, ← Go.sizeOf f.type) : Sem (Nat × Nat)))).run P w = .ok (l.map fun f => (f.offset, P.cellsOf f.type)) w
  | [], _ => rfl
  | f :: l, h => by
    simp only [infosOk, List.all_cons, Bool.and_eq_true] at h
    obtain ⟨i, hi⟩ := Option.isSome_iff_exists.1 h.1
    have ih := mapM_fields l (by simpa only [infosOk] using h.2)
    rw [List.mapM_cons]
    simp only [Sem.run_bind, sizeOf_run hi, Result.andThen_ok, Sem.run_pure, ih, List.map_cons]

theorem goes_build (h : SimAt C F ρ s a w) {t : TypeId} {parts : Array (Nat × Operand)} (ho : o.op = .build t parts) {c : PV} (hx : buildP C.P t (evParts (evO C.P C.G 0 s.fr) parts.toList) = some c) : Goes C F ρ s a w o k c [] := by
  have hrun : ∀ u, (Instr.build t (parts.map fun (i, x) => (i, a.eval x))).run C.P w = .ok u w → (execOp a.eval o).run C.P w = .ok (.value u) w := by
    intro u hu
    simp only [execOp, ho, Sem.run_bind, hu, Result.andThen_ok, Sem.run_pure]
  have hpl : (parts.map fun (i, x) => (i, a.eval x)).toList = parts.toList.map fun x => (x.1, a.eval x.2) := by rw [Array.toList_map]
  unfold buildP at hx
  split at hx
  · rename_i z hz
    split at hx
    · cases hx
    · rename_i hagg
      simp only [Bool.not_eq_true', Bool.not_eq_false] at hagg
      obtain ⟨v, z1, z2, z3, z4, z5, z6, z7⟩ := zeroOf_spec (w := w) hz
      split at hx
      · rename_i fs hu
        split at hx
        · cases hx
        · rename_i hinf
          simp only [Bool.not_eq_true', Bool.not_eq_false] at hinf
          obtain ⟨cells', r1, r2, r3, r4, r5, r6⟩ := fill_rel (w := w) (T := Tc C ρ s.hp) (ρ := ρ) (placeR := fun i => ((fs.toList.map fun f => (f.offset, C.P.cellsOf f.type)).toArray)[i]?) (fun i st n he => by
            simp only [Option.map_eq_some_iff, Prod.mk.injEq] at he
            obtain ⟨f, hf, rfl, rfl⟩ := he
            have : fs.toList[i]? = some f := by simpa using hf
            simp [Stp.off, hf]) _ _ z c v.cells hx (parts_rel h parts.toList) z4 z2 (fun j q u hq hu => z7 _ _ j q u hq hu)
          refine Goes.pure h (hrun (.agg cells') ?_) fun _ => RV.of_agg (by rw [r6, hagg]) r2 ⟨cells', rfl, by rw [r4, r3], r5⟩
          simp only [Instr.build, Sem.run_bind, z1, Result.andThen_ok, run_underlying hu, Array.mapM_eq_mapM_toList, Sem.run_map, mapM_fields fs.toList hinf, hpl, r1, Sem.run_pure]
      · rename_i n e hu
        split at hx
        · cases hx
        · rename_i hsz
          simp only [Bool.not_eq_true', Bool.not_eq_false] at hsz
          obtain ⟨inf, hi⟩ := info_of_sz (szOk_ne hsz)
          obtain ⟨cells', r1, r2, r3, r4, r5, r6⟩ := fill_rel (w := w) (T := Tc C ρ s.hp) (ρ := ρ) (placeR := fun i => some (i * C.P.cellsOf e, C.P.cellsOf e)) (fun i st n he => by
            simp only [Option.some.injEq, Prod.mk.injEq] at he
            obtain ⟨rfl, rfl⟩ := he
            rfl) _ _ z c v.cells hx (parts_rel h parts.toList) z4 z2 (fun j q u hq hu => z7 _ _ j q u hq hu)
          refine Goes.pure h (hrun (.agg cells') ?_) fun _ => RV.of_agg (by rw [r6, hagg]) r2 ⟨cells', rfl, by rw [r4, r3], r5⟩
          simp only [Instr.build, Sem.run_bind, z1, Result.andThen_ok, run_underlying hu, sizeOf_run hi, hpl, r1, Sem.run_pure]
      · cases hx
  · cases hx

theorem flatL_rep {z : PV} (hw : WF z) (hs : 0 < size z) : ∀ (n j : Nat) (q : PV), (flatL (List.replicate n z))[j]? = some q → (flat z)[j % size z]? = some q
  | 0, j, q, h => by simp [flatL] at h
  | n + 1, j, q, h => by
    rw [List.replicate_succ, flatL] at h
    have hl := flat_length z hw
    by_cases hj : j < size z
    · rw [List.getElem?_append_left (by omega)] at h
      rwa [Nat.mod_eq_of_lt hj]
    · rw [List.getElem?_append_right (by omega), hl] at h
      have := flatL_rep hw hs n _ q h
      rwa [← Nat.mod_eq_sub_mod (by omega)] at this

theorem rowZero_spec {P : Program} {e : TypeId} {n : Nat} {c : PV} (h : rowZero P e n = some c) (hsz : P.cellsOf e ≠ 0) :
    ∃ v, (zeroValue e).run P w = .ok v w ∧ v.cells.size = P.cellsOf e ∧ WF c ∧ size c = n * P.cellsOf e ∧ (∀ (T : T2) (ρ : Pls), LeavesRel w T ρ ((Array.range (n * P.cellsOf e)).map (v.cells[· % v.cells.size]!)) c) := by
  unfold rowZero at h
  split at h
  · rename_i z hz
    obtain ⟨v, z1, z2, z3, z4, z5, z6, z7⟩ := zeroOf_spec (w := w) hz
    split at h
    · rename_i hb
      simp only [Bool.and_eq_true] at hb
      have hwf := wfB_WF _ hb.1
      have hs := Nat.eq_of_beq_eq_true hb.2
      have h := Option.some.inj h
      rw [← h]
      refine ⟨v, z1 w, by rw [z2, z3], hwf, hs, fun T ρ j q u hq hu => ?_⟩
      have hj : j < n * P.cellsOf e := by
        have := (List.getElem?_eq_some_iff.1 hq).1
        rw [flat_length _ hwf, hs] at this
        exact this
      have hmod : j % v.cells.size < v.cells.size := Nat.mod_lt _ (by rw [z2, z3]; omega)
      have hu' : v.cells[j % v.cells.size]? = some u := by
        simp [hj] at hu
        rw [← hu]
        simp [hmod]
      refine z7 T ρ (j % v.cells.size) q u ?_ hu'
      unfold rowZ at hq
      split at hq
      · rename_i kd hk
        have hzk : z = .int kd 0 := by
          unfold zeroOf at hz
          split at hz
          · split at hz
            · have hz := Option.some.inj hz
              rw [← hz]
              simp only [zeroPV, hk]
            · cases hz
          · cases hz
        subst hzk
        simp only [flat, List.map_replicate] at hq
        have : q = .int kd 0 := by
          have := List.mem_of_getElem? hq
          exact List.eq_of_mem_replicate this
        subst this
        rw [z2]
        rw [show j % size (.int kd 0) = 0 from Nat.mod_one j]
        rfl
      · simp only [flat] at hq
        rw [z2]
        exact flatL_rep z4 (by rw [z3]; omega) n j q hq
    · cases h
  · cases h

theorem goes_buildSlice (h : SimAt C F ρ s a w) (hF : F k) {t : TypeId} {n : Nat} {parts : Array (Nat × Operand)} (ho : o.op = .buildSlice t n parts) {v : PV} {ups : List (Nat × Option Row)} {ob : List Prop} {rd : List Nat}
    (hx : (buildSliceP C.P t n (evParts (evO C.P C.G 0 s.fr) parts.toList) k).run s.hp = some (v, ups, ob, rd)) : Goes C F ρ s a w o k v ups := by
  have hpl : (parts.map fun (i, x) => (i, a.eval x)).toList = parts.toList.map fun x => (x.1, a.eval x.2) := by rw [Array.toList_map]
  unfold buildSliceP at hx
  split at hx
  · rename_i e hu
    split at hx
    · rename_i hb
      simp only [Bool.and_eq_true] at hb
      have hlim := Nat.le_of_ble_eq_true hb.1
      have hne := szOk_ne hb.2
      obtain ⟨inf, hi⟩ := info_of_sz hne
      split at hx
      · rename_i c0 hc0
        obtain ⟨z, z1, z2, z3, z4, z5⟩ := rowZero_spec (w := w) hc0 hne
        split at hx
        · rename_i c' hc'
          simp only [Pr.run, Option.some.injEq, Prod.mk.injEq] at hx
          obtain ⟨rfl, rfl, _, _⟩ := hx
          obtain ⟨cells', r1, r2, r3, r4, r5, r6⟩ := fill_rel (w := w) (T := Tc C ρ s.hp) (ρ := ρ) (placeR := fun i => some (i * C.P.cellsOf e, C.P.cellsOf e)) (fun i st n he => by
            simp only [Option.some.injEq, Prod.mk.injEq] at he
            obtain ⟨rfl, rfl⟩ := he
            rfl) _ _ c0 c' ((Array.range (n * C.P.cellsOf e)).map (z.cells[· % z.cells.size]!)) hc' (parts_rel h parts.toList) z3 (by simp [z4]) (z5 _ _)
          have hpos : 1 ≤ C.P.cellsOf e := by omega
          have hn : n ≤ n * C.P.cellsOf e := Nat.le_mul_of_pos_right n hpos
          refine goes_newSlice h hF (NewBlk.alloc w cells' e (0, 0)) (n := n) (cap := n) ?_ r2 (by omega) (by simp) r5 (Nat.le_refl _) (by unfold maxLen; omega) (by omega)
          have hexec : (Instr.buildSlice t n (parts.map fun (i, x) => (i, a.eval x))).run C.P w = .ok (.slice (some ⟨w.heap.size, 0, none⟩) n n) (w.alloc (.cells cells' e)) := by
            have hlim' : ¬ n * C.P.cellsOf e > 2 ^ 24 := by omega
            by_cases h0 : n * C.P.cellsOf e = 0
            · have hcz : ((Array.range (n * C.P.cellsOf e)).map (z.cells[· % z.cells.size]!)) = (Array.range (n * C.P.cellsOf e)).map ((#[] : Array Value)[· % (#[] : Array Value).size]!) := by rw [h0]; simp
              rw [hcz] at r1
              simp only [Instr.buildSlice, Sem.run_bind, run_underlying hu, Result.andThen_ok, sizeOf_run hi, if_neg hlim', if_pos h0, Sem.run_pure, hpl, r1]
              rfl
            · simp only [Instr.buildSlice, Sem.run_bind, run_underlying hu, Result.andThen_ok, sizeOf_run hi, if_neg hlim', if_neg h0, Sem.run_pure, z1, hpl, r1]
              rfl
          simp only [execOp, ho, Sem.run_bind, hexec, Result.andThen_ok, Sem.run_pure]
        · simp [Pr.run] at hx
      · simp [Pr.run] at hx
    · simp [Pr.run] at hx
  · simp [Pr.run] at hx
end
end Go.Pe
