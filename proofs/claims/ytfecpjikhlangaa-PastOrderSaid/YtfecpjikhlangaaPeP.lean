/- The plain operations are right, tenth part: make, copy, ==. No condition. -/
import Derived.Test.YtfecpjikhlangaaPeN
import Derived.Laws.MakeOwn
import Derived.Laws.StructEq
import Derived.ChangeKeysEq
namespace Go.Pe

section
variable {C : Ctx} {F : Nat → Prop} {ρ : Pls} {s : St} {a : Act} {w : World} {o : Oper} {k : Nat}

theorem zeroOf_info {P : Program} {t : TypeId} {z : PV} (h : zeroOf P t = some z) : ∃ i v, P.info? t = some i ∧ i.zero = some v ∧ v.cells.size = size z ∧ size z = P.cellsOf t ∧ WF z ∧ i.size = P.cellsOf t ∧
    (∀ (T : T2) (ρ : Pls) (j : Nat) (q : PV) (u : Value), (flat z)[j]? = some q → v.cells[j]? = some u → RO w T ρ u q) := by
  obtain ⟨v, z1, z2, z3, z4, _, _, z7⟩ := zeroOf_spec (w := w) h
  have hb : ∃ v', (P.info? t).bind (·.zero) = some v' := by
    unfold zeroOf at h
    split at h
    · exact ⟨_, by assumption⟩
    · cases h
  obtain ⟨v', hv'⟩ := hb
  cases hi : P.info? t with
  | none => simp [hi] at hv'
  | some i =>
    simp only [hi, Option.bind_some] at hv'
    have : v' = v := by
      have := z1 w
      simp [zeroValue, typeInfo, program, Sem.run, hi, hv'] at this
      exact this
    subst this
    exact ⟨i, v', rfl, hv', z2, z3, z4, by simp [Program.cellsOf, hi], z7⟩

theorem rowZ_spec {P : Program} {e : TypeId} (n : Nat) {z : PV} (hz : zeroOf P e = some z) (hok : rowOk P e z = true) (hsz : P.cellsOf e ≠ 0) :
    ∃ i v, P.info? e = some i ∧ i.zero = some v ∧ i.size = P.cellsOf e ∧ WF (rowZ P e n z) ∧ size (rowZ P e n z) = n * P.cellsOf e ∧
      ∀ (T : T2) (ρ : Pls) (m : Nat), LeavesRel w T ρ (madeCells v.cells m) (rowZ P e n z) := by
  obtain ⟨i, v, z1, z2, z3, z4, z5, z6, z7⟩ := zeroOf_info (w := w) hz
  refine ⟨i, v, z1, z2, z6, ?_⟩
  have hmade : ∀ (m j : Nat) (u : Value), (madeCells v.cells m)[j]? = some u → v.cells[j % size z]? = some u := by
    intro m j u hu
    have hj : j < m := by
      have := (Array.getElem?_eq_some_iff.1 hu).1
      rwa [size_madeCells] at this
    have hmod : j % v.cells.size < v.cells.size := Nat.mod_lt _ (by rw [z3, z4]; omega)
    simp [madeCells, hj] at hu
    rw [← hu, ← z3]
    simp [hmod]
  unfold rowOk at hok
  unfold rowZ
  split at hok
  · rename_i kd hk
    split at hok
    · rename_i k' x
      simp only [Bool.and_eq_true, decide_eq_true_eq] at hok
      obtain ⟨hk1, rfl⟩ := hok
      have hk1 := IntKind.same_eq hk1
      subst hk1
      have h1 : P.cellsOf e = 1 := by rw [← z4]; rfl
      have h0 : kd.wrap 0 = 0 := (wrap_bounds kd 0).2 (min_le_zero kd)
      refine ⟨?_, by simp only [size]; rw [h1, Nat.mul_one], fun T ρ m j q u hq hu => ?_⟩
      · simp only [WF]
        refine ⟨by simp, fun x hx => ?_⟩
        rw [List.eq_of_mem_replicate hx]
        exact h0
      · simp only [flat, List.map_replicate] at hq
        have : q = .int kd 0 := List.eq_of_mem_replicate (List.mem_of_getElem? hq)
        subst this
        have := hmade m j u hu
        rw [show j % size (.int kd 0) = 0 from Nat.mod_one j] at this
        exact z7 T ρ 0 _ _ rfl this
    · cases hok
  · simp only [Bool.and_eq_true] at hok
    obtain ⟨⟨hs, hc⟩, hn⟩ := hok
    have hs := Nat.eq_of_beq_eq_true hs
    refine ⟨?_, by simp only [size], fun T ρ m j q u hq hu => ?_⟩
    · simp only [WF]
      refine ⟨by simp, WFL_of fun q hq => ?_, fun q hq => ?_⟩
      · rw [List.eq_of_mem_replicate hq]; exact z5
      · rw [List.eq_of_mem_replicate hq]; exact ⟨hs, hc, hn⟩
    · simp only [flat] at hq
      exact z7 T ρ _ _ _ (flatL_rep z5 (by omega) n j q hq) (hmade m j u hu)

theorem goes_make (h : SimAt C F ρ s a w) (hF : F k) {t : TypeId} {x y : Operand} (ho : o.op = .makeSlice t x y) {v : PV} {ups : List (Nat × Option Row)} {ob : List Prop} {rd : List Nat}
    (hx : (makeP C.P t (evO C.P C.G 0 s.fr x) (evO C.P C.G 0 s.fr y) k).run s.hp = some (v, ups, ob, rd)) (hob : All ob) : Goes C F ρ s a w o k v ups := by
  unfold makeP at hx
  split at hx
  · rename_i e kl n kc m hu hA hB
    split at hx
    · rename_i z hz
      split at hx
      · rename_i hb
        simp only [Bool.and_eq_true] at hb
        simp only [Pr.run, Option.some.injEq, Prod.mk.injEq] at hx
        obtain ⟨rfl, rfl, rfl, _⟩ := hx
        have o1 : 0 ≤ n := hob.head
        have o2 : n ≤ m := hob.tail.head
        have o3 : m ≤ 9223372036854775807 := hob.tail.tail.head
        have o4 : (C.P.bytesOf e : Int) * m ≤ 140737488355328 := hob.tail.tail.tail.head
        obtain ⟨e1, _⟩ := evO_int h hA
        obtain ⟨e2, _⟩ := evO_int h hB
        have hne := szOk_ne hb.1
        obtain ⟨i, zv, z1, z2, z3, z4, z5, z6⟩ := rowZ_spec (w := w) n.toNat hz hb.2 hne
        have hbytes : C.P.bytesOf e = i.bytes := by simp [Program.bytesOf, z1]
        rw [hbytes] at o4
        have hr := run_make (P := C.P) w t e i zv hu z1 z2 kl kc n m o1 o2 (by omega) o3
        refine goes_newSlice h hF (cs := madeCells zv.cells (m.toNat * i.size)) (NewBlk.alloc w _ e (0, 0)) (cap := m.toNat) (by simp only [execOp, ho, e1, e2, Sem.run_bind, hr, Result.andThen_ok, Sem.run_pure]) z4 ?_ (by simp) (fun j q u hq hu' => z6 _ _ _ j q u hq hu') (by omega) (by unfold maxLen; omega) (by rw [size_madeCells, z3]; exact Nat.le_refl _)
        rw [size_madeCells, z5, z3]
        exact Nat.mul_le_mul_right _ (by omega)
      · simp [Pr.run] at hx
    · simp [Pr.run] at hx
  · simp [Pr.run] at hx

/- copy -/
theorem mnN_eq (a b : Nat) : mnN a b = min a b := by
  unfold mnN
  split
  · rename_i h; have := Nat.le_of_ble_eq_true h; omega
  · rename_i h; have : ¬ a ≤ b := fun e => h (by rw [Nat.ble_eq]; exact e); omega
theorem spl_length {α : Type} (l : List α) (off : Nat) (x : List α) (h : off + x.length ≤ l.length) : (spl l off x).length = l.length := by simp [spl]; omega
theorem spl_get {α : Type} {l : List α} {off : Nat} {x : List α} (h : off + x.length ≤ l.length) (j : Nat) : (spl l off x)[j]? = if j < off then l[j]? else if j < off + x.length then x[j - off]? else l[j]? := by
  unfold spl
  rw [List.getElem?_append]
  have hl : (l.take off).length = off := by simp; omega
  rw [hl]
  split
  · rw [List.getElem?_take, if_pos (by assumption)]
  · rw [List.getElem?_append]
    split
    · rw [if_pos (by omega)]
    · rw [if_neg (by omega), List.getElem?_drop]
      congr 1
      omega
theorem flatL_take {sz : Nat} {l : List PV} (hw : WFL l) (hs : ∀ q ∈ l, size q = sz) (a : Nat) : flatL (l.take a) = (flatL l).take (a * sz) := by
  have e1 : flatL l = flatL (l.take a) ++ flatL (l.drop a) := by rw [← flatL_append, List.take_append_drop]
  have e2 := flatL_drop hw hs a
  have hwt : WFL (l.take a) := WFL_of fun q hq => WFL_mem hw q (List.mem_of_mem_take hq)
  have e3 : (flatL (l.take a)).length = (l.take a).length * sz := by
    rw [flatL_length _ hwt, sizeL_const fun q hq => hs q (List.mem_of_mem_take hq)]
  by_cases ha : a ≤ l.length
  · have : (flatL (l.take a)).length = a * sz := by rw [e3]; congr 1; simp; omega
    rw [e1, ← this, List.take_left]
  · rw [List.take_of_length_le (by omega : l.length ≤ a)]
    rw [List.take_of_length_le]
    rw [flatL_length _ hw, sizeL_const hs]
    exact Nat.mul_le_mul_right _ (by omega)
theorem splArr_spec {q d c : PV} {off : Nat} (hq : WF q) (hd : WF d) (h : splArr q off d = some c) (hb : off + arrLen d ≤ arrLen q) :
    WF c ∧ size c = size q ∧ isArr c = true ∧ elSize d = elSize q ∧ (∀ j, j < size d → (flat c)[off * elSize q + j]? = (flat d)[j]?) ∧ (∀ j, j < off * elSize q ∨ off * elSize q + size d ≤ j → (flat c)[j]? = (flat q)[j]?) := by
  unfold splArr at h
  split at h
  · rename_i k n l k' n' l'
    split at h
    · rename_i hk
      have hk := IntKind.same_eq hk
      subst hk
      simp only [Option.some.injEq] at h
      subst h
      simp only [WF] at hq hd
      simp only [arrLen] at hb
      have hfit : off + l'.length ≤ l.length := by omega
      refine ⟨?_, rfl, rfl, rfl, fun j hj => ?_, fun j hj => ?_⟩
      · simp only [WF]
        refine ⟨by rw [spl_length _ _ _ hfit]; exact hq.1, fun x hx => ?_⟩
        simp only [spl, List.mem_append] at hx
        rcases hx with hx | hx | hx
        · exact hq.2 x (List.mem_of_mem_take hx)
        · exact hd.2 x hx
        · exact hq.2 x (List.mem_of_mem_drop hx)
      · simp only [size] at hj
        simp only [flat, elSize, Nat.mul_one, List.getElem?_map]
        rw [spl_get hfit, if_neg (by omega), if_pos (by omega)]
        congr 2
        omega
      · simp only [size, elSize, Nat.mul_one] at hj
        simp only [flat, List.getElem?_map]
        rw [spl_get hfit]
        split
        · rfl
        · rw [if_neg (by omega)]
    · cases h
  · rename_i sz n sh l sz' n' sh' l'
    split at h
    · rename_i hk
      simp only [Bool.and_eq_true] at hk
      have e1 := Nat.eq_of_beq_eq_true hk.1
      have e2 := Sh.beq_eq _ _ hk.2
      subst e1; subst e2
      simp only [Option.some.injEq] at h
      subst h
      simp only [WF] at hq hd
      simp only [arrLen] at hb
      have hfit : off + l'.length ≤ l.length := by omega
      have s1 : ∀ q ∈ l, size q = sz := fun q hq' => (hq.2.2 q hq').1
      have s2 : ∀ q ∈ l', size q = sz := fun q hq' => (hd.2.2 q hq').1
      have f2 : (flatL l').length = l'.length * sz := by rw [flatL_length _ hd.2.1, sizeL_const s2]
      have f1 : (flatL l).length = l.length * sz := by rw [flatL_length _ hq.2.1, sizeL_const s1]
      have hfit' : off * sz + (flatL l').length ≤ (flatL l).length := by
        rw [f1, f2, ← Nat.add_mul]; exact Nat.mul_le_mul_right _ hfit
      have hfl : flatL (spl l off l') = spl (flatL l) (off * sz) (flatL l') := by
        simp only [spl]
        rw [flatL_append, flatL_append, flatL_take hq.2.1 s1, flatL_drop hq.2.1 s1, f2, ← Nat.add_mul]
      refine ⟨?_, rfl, rfl, rfl, fun j hj => ?_, fun j hj => ?_⟩
      · have hmem : ∀ q ∈ spl l off l', q ∈ l ∨ q ∈ l' := fun q hq' => by
          simp only [spl, List.mem_append] at hq'
          rcases hq' with hx | hx | hx
          · exact .inl (List.mem_of_mem_take hx)
          · exact .inr hx
          · exact .inl (List.mem_of_mem_drop hx)
        simp only [WF]
        refine ⟨by rw [spl_length _ _ _ hfit]; exact hq.1, WFL_of fun q hq' => ?_, fun q hq' => ?_⟩
        · rcases hmem q hq' with hx | hx
          · exact WFL_mem hq.2.1 q hx
          · exact WFL_mem hd.2.1 q hx
        · rcases hmem q hq' with hx | hx
          · exact hq.2.2 q hx
          · exact hd.2.2 q hx
      · simp only [size] at hj
        have hj' : j < (flatL l').length := by rw [f2, hd.1]; exact hj
        simp only [flat, elSize, hfl]
        rw [spl_get hfit', if_neg (by omega), if_pos (by omega)]
        congr 1
        omega
      · simp only [size, elSize] at hj
        have hd1 := hd.1
        simp only [flat, hfl]
        rw [spl_get hfit']
        split
        · rfl
        · rw [if_neg (by rw [f2, hd1]; omega)]
    · cases h
  · cases h

theorem goes_copy (h : SimAt C F ρ s a w) {c : Call} (ho : o.op = .call c) (hc : c.callee = .builtin .copy) (hsz : sizes c 2 = true) {v : PV} {ups : List (Nat × Option Row)} {ob : List Prop} {rd : List Nat}
    (hx : (copyP C.P (c.argTypes.getD 0 0) (c.argTypes.getD 1 0) (evO C.P C.G (c.argTypes.getD 0 0) s.fr (c.args.getD 0 (.func 0))) (evO C.P C.G (c.argTypes.getD 1 0) s.fr (c.args.getD 1 (.func 0)))).run s.hp = some (v, ups, ob, rd)) (hob : All ob) : Goes C F ρ s a w o k v ups := by
  obtain ⟨callee, args, argTypes⟩ := c
  simp only at hc hx
  subst hc
  simp only [sizes, Bool.and_eq_true] at hsz
  have ha := Nat.eq_of_beq_eq_true hsz.1
  have ht := Nat.eq_of_beq_eq_true hsz.2
  obtain ⟨t1, t2, rfl⟩ : ∃ t1 t2, argTypes = #[t1, t2] := by
    obtain ⟨l⟩ := argTypes
    match l, ht with
    | [t1, t2], _ => exact ⟨t1, t2, rfl⟩
  obtain ⟨x, y, rfl⟩ : ∃ x y, args = #[x, y] := by
    obtain ⟨l⟩ := args
    match l, ha with
    | [x, y], _ => exact ⟨x, y, rfl⟩
  have e1 : (#[t1, t2] : Array TypeId).getD 0 0 = t1 := rfl
  have e2 : (#[t1, t2] : Array TypeId).getD 1 0 = t2 := rfl
  have e3 : (#[x, y] : Array Operand).getD 0 (.func 0) = x := rfl
  have e4 : (#[x, y] : Array Operand).getD 1 (.func 0) = y := rfl
  rw [e1, e2, e3, e4] at hx
  have hrun : ∀ u w', (Builtin.copy_ #[t1, t2] o.type #[a.eval x, a.eval y]).run C.P w = .ok u w' → (execOp a.eval o).run C.P w = .ok (.value u) w' := by
    intro u w' hu
    simp only [execOp, ho, resolve, Sem.run_bind, Sem.run_pure, Result.andThen_ok, invoke, builtin, List.map_toArray, List.map_cons, List.map_nil, hu]
  have hint : ∀ n : Nat, n ≤ maxLen → RV w (Tc C ρ s.hp) ρ (goInt n) (.int .i64 n) := fun n hn => RV.int (by
    rw [wrap_bounds]
    have m1 : IntKind.i64.min = -9223372036854775808 := by decide
    have m2 : IntKind.i64.max = 9223372036854775807 := by decide
    unfold maxLen at hn
    omega)
  unfold copyP at hx
  split at hx
  · rename_i e hu
    split at hx
    · rename_i hsrc
      simp only [Bool.and_eq_true] at hsrc
      obtain ⟨hsrc, hszo⟩ := hsrc
      obtain ⟨inf, hi⟩ := info_of_sz (szOk_ne hszo)
      obtain ⟨d, ob', rd', news, g1, g2, g3⟩ := elems_spec h hx hob
      split at g1
      · -- into nothing
        rename_i nl c0 hA
        split at g1
        · rename_i hb
          have hb := Nat.eq_of_beq_eq_true hb
          simp only [Pr.run, Option.some.injEq, Prod.mk.injEq] at g1
          obtain ⟨rfl, rfl, rfl, _⟩ := g1
          have h0 : arrLen c0 = 0 := g2.head
          obtain ⟨w1, w2, w3⟩ := evO_vec h hA
          have key : ∃ A cc, a.eval x = .slice A 0 cc := by
            generalize a.eval x = vx at w3
            cases w3 with
            | vec0 A cc _ _ hl _ _ => exact ⟨A, cc, rfl⟩
            | vec1 b o' n cc _ us hn hc hm g1 g2 => exact ⟨_, cc, by rw [← hn, h0]⟩
          obtain ⟨A, cc, hA'⟩ := key
          refine Goes.pure h (u := goInt 0) (hrun _ _ ?_) fun _ => hint 0 (by unfold maxLen; omega)
          have hf := g3.part 0 (Nat.zero_le _) w rfl
          rw [hb] at hf
          simp only [Nat.zero_mul, List.take_zero] at hf
          rw [hA']
          simp only [Builtin.copy_, List.getElem?_toArray, List.getElem?_cons_zero, List.getElem?_cons_succ, Sem.run_bind, run_underlying hu, Result.andThen_ok, g3.len, sizeOf_run hi, Nat.min_zero, hf]
          cases A <;> simp [storeCells]
        · simp [Pr.run] at g1
      · -- into a row
        rename_i id path sz off n hA
        simp only [Pr.run] at g1
        split at g1
        · rename_i row hr
          simp only [Option.map_eq_some_iff, Prod.mk.injEq] at g1
          obtain ⟨⟨v', u', o', r'⟩, g1, rfl, rfl, rfl, _⟩ := g1
          split at g1
          · simp [Pr.run] at g1
          · rename_i hfrz
            have hfrz : row.frz = false := by simpa using hfrz
            split at g1
            · rename_i q hq
              split at g1
              · rename_i hb
                simp only [Bool.and_eq_true] at hb
                obtain ⟨⟨⟨b1, b2⟩, b3⟩, b4⟩ := hb
                have b2 := Nat.eq_of_beq_eq_true b2
                have b3 := Nat.eq_of_beq_eq_true b3
                have b4 := Nat.eq_of_beq_eq_true b4
                split at g1
                · rename_i q' hq'
                  split at g1
                  · rename_i c' hc'
                    simp only [Pr.run, Option.some.injEq, Prod.mk.injEq] at g1
                    obtain ⟨rfl, rfl, rfl, _⟩ := g1
                    have hle : off + n ≤ arrLen q := g2.head
                    have hpo : All (pathOb row.c path) := g2.tail
                    obtain ⟨pl, A, cc, p1, p2, p3, p5, p4⟩ := evO_ref h hA
                    obtain ⟨pl', p1', hrel⟩ := h.heap.row id row hr
                    rw [p1] at p1'
                    cases p1'
                    obtain ⟨cs, t, fz, r1, r2, r3, r4, r5, r6⟩ := hrel
                    obtain ⟨n1, n2, n3, n4⟩ := node_flat path r4 hq hpo
                    have hm : mnN (arrLen d) n = min (arrLen d) n := mnN_eq _ _
                    rw [hm] at hq' ⊢
                    obtain ⟨s1, s2, s3, s4, s5⟩ := sub_spec (x := 0) (n := min (arrLen d) n) g3.wf g3.arr (by omega)
                    obtain ⟨t1', t2', t3', t4', t5', t6'⟩ := splArr_spec n1 s1 hq' (by omega)
                    obtain ⟨u1, u2, u3, u4, u5, _⟩ := setNode_flat q' t1' path r4 hc' hpo
                    have hss : size (sub d 0 (min (arrLen d) n)) = min (arrLen d) n * sz := by rw [size_arr s2, s3, s4, b4]
                    have hsq : size q = arrLen q * sz := by rw [size_arr b1, b2]
                    have hvs : (news.take (min (arrLen d) n * sz)).length = min (arrLen d) n * sz := by
                      rw [List.length_take, g3.size, size_arr g3.arr, b4]
                      exact Nat.min_eq_left (Nat.mul_le_mul_right _ (Nat.min_le_left _ _))
                    have hin : off * sz + min (arrLen d) n * sz ≤ size q := by
                      rw [hsq, ← Nat.add_mul]; exact Nat.mul_le_mul_right _ (by omega)
                    intro K Q hK
                    refine wp_value (u := goInt ((min (arrLen d) n : Nat) : Int)) (w' := w.setCells pl.g (pl.off + (offOf path + off * sz)) (news.take (min (arrLen d) n * sz))) (hrun _ _ ?_) (hK _ _ ρ (Ext.refl _) ((h.write hr hfrz p1 (c' := c') (o := offOf path + off * sz) (news.take (min (arrLen d) n * sz)) u1 (by rw [u2]; exact r3) (by rw [hvs]; omega) (fun j q0 u hq0 hu0 => ?_) (fun j q0 hj hq0 => ?_)).less fun _ hi => hi.1) fun _ => ?_)
                    · have hf := g3.part (min (arrLen d) n) (Nat.min_le_left _ _) w rfl
                      rw [b4, b3] at hf
                      have hone : ∀ x ∈ news.take (min (arrLen d) n * sz), x.oneCell' = true := by
                        intro y hy
                        obtain ⟨j, hj⟩ := List.mem_iff_getElem?.1 hy
                        have hjn : news[j]? = some y := by
                          rw [List.getElem?_take] at hj
                          split at hj
                          · exact hj
                          · cases hj
                        have hjl : j < news.length := (List.getElem?_eq_some_iff.1 hjn).1
                        rw [g3.size] at hjl
                        have hlt : j < (flat d).length := by rw [flat_length d g3.wf]; exact hjl
                        have hq0 : (flat d)[j]? = some (flat d)[j] := List.getElem?_eq_getElem hlt
                        exact (g3.rel j _ y hq0 hjn).one
                      rw [p2]
                      simp only [Builtin.copy_, List.getElem?_toArray, List.getElem?_cons_zero, List.getElem?_cons_succ, Sem.run_bind, run_underlying hu, Result.andThen_ok, g3.len, sizeOf_run hi]
                      rw [show Nat.min (arrLen d) n = min (arrLen d) n from rfl, hf]
                      simp only [Result.andThen_ok]
                      by_cases hc0 : 0 < cc
                      · obtain ⟨rfl, _⟩ := p4 hc0
                        have hst := run_storeCells_cells (P := C.P) pl.g (pl.off + (offOf path + off * sz)) (news.take (min (arrLen d) n * sz)) 0 w (fun j hj => by
                            rw [hvs] at hj
                            rw [Nat.add_zero, cell?_of_heap r1, Array.getElem?_eq_getElem (by omega)]; rfl)
                          (fun j hj => by
                            rw [hvs] at hj
                            have := r5 (offOf path + off * sz + j) (by omega)
                            simp only [World.frozen?, r1]
                            rw [← Nat.add_assoc] at this
                            simpa using this) hone
                        rw [b3] at hst ⊢
                        rw [hst]
                        rfl
                      · have hn0 : n = 0 := by omega
                        subst hn0
                        simp [storeCells, World.setCells]
                    · have hj : j < min (arrLen d) n * sz := by
                        have := (List.getElem?_eq_some_iff.1 hu0).1
                        rwa [hvs] at this
                      rw [Nat.add_assoc, u4 (off * sz + j) (by rw [t2']; omega)] at hq0
                      rw [b2, t5' j (by rw [hss]; exact hj)] at hq0
                      have hq1 := s5 j q0 hq0
                      rw [Nat.zero_mul, Nat.zero_add] at hq1
                      refine g3.rel j q0 u hq1 ?_
                      rw [List.getElem?_take, if_pos hj] at hu0
                      exact hu0
                    · rw [hvs] at hj
                      by_cases hin1 : offOf path ≤ j ∧ j < offOf path + size q
                      · obtain ⟨i, rfl⟩ : ∃ i, j = offOf path + i := ⟨j - offOf path, by omega⟩
                        rw [u4 i (by rw [t2']; omega), t6' i (by rw [hss, ← b2]; omega)] at hq0
                        rw [n3 i (by omega)]
                        exact hq0
                      · rw [u5 j (by rw [t2']; omega)] at hq0
                        exact hq0
                    · refine RV.int ?_
                      rw [wrap_bounds]
                      have m1 : IntKind.i64.min = -9223372036854775808 := by decide
                      have m2 : IntKind.i64.max = 9223372036854775807 := by decide
                      unfold maxLen at p5
                      omega
                  · simp [Pr.run] at g1
                · simp [Pr.run] at g1
              · simp [Pr.run] at g1
            · simp [Pr.run] at g1
        · cases g1
      · simp [Pr.run] at g1
    · simp [Pr.run] at hx
  · simp [Pr.run] at hx

/- == -/
theorem eqIs_spec {P : Program} {T : T2} : ∀ (n : Nat) {ks kt : IntKind} {e : TypeId} {d : Nat} (l l' : List Int) (xs ys : Array Value) (x : Nat), P.underlying e = some (.int ks) → P.cellsOf e = 1 → l.length = n → l'.length = n →
    (∀ j y, l[j]? = some y → xs[x + j]? = some (.int kt y)) → (∀ j y, l'[j]? = some y → ys[x + j]? = some (.int kt y)) → (Op.eqItems (d + 1) e 1 xs ys (List.range' x n)).run P w = .ok (decide (l = l')) w
  | 0, ks, kt, e, d, l, l', xs, ys, x, hu, hs, h1, h2, _, _ => by
    rw [List.eq_nil_of_length_eq_zero h1, List.eq_nil_of_length_eq_zero h2]
    simp [Op.eqItems]
  | n + 1, ks, kt, e, d, l, l', xs, ys, x, hu, hs, h1, h2, g1, g2 => by
    match l, l', h1, h2 with
    | y :: l, z :: l', h1, h2 =>
      have i1 := g1 0 y rfl
      have i2 := g2 0 z rfl
      have ag : ∀ w', (Go.isAgg e).run P w' = .ok false w' := fun w' => by simp [Go.isAgg, run_underlying hu]
      have p1 : (part e xs (x * 1)).run P w = .ok (.int kt y) w := by
        unfold part
        rw [Sem.run_bind, ag, Result.andThen_ok, Nat.mul_one]
        simp only [Bool.false_eq_true, if_false]
        rw [show x = x + 0 by omega, i1]
        rfl
      have p2 : (part e ys (x * 1)).run P w = .ok (.int kt z) w := by
        unfold part
        rw [Sem.run_bind, ag, Result.andThen_ok, Nat.mul_one]
        simp only [Bool.false_eq_true, if_false]
        rw [show x = x + 0 by omega, i2]
        rfl
      have p3 := run_equalIn_int (P := P) w d e kt ks y z hu
      have ih := eqIs_spec (P := P) (T := T) n (d := d) (kt := kt) l l' xs ys (x + 1) hu hs (by simpa using h1) (by simpa using h2) (fun j v hv => by have := g1 (j + 1) v (by simpa using hv); rwa [show x + (j + 1) = x + 1 + j by omega] at this) (fun j v hv => by have := g2 (j + 1) v (by simpa using hv); rwa [show x + (j + 1) = x + 1 + j by omega] at this)
      simp only [List.range'_succ, Op.eqItems, Sem.run_bind, p1, p2, p3, Result.andThen_ok]
      by_cases he : y = z
      · subst he
        simpa using ih
      · simp [he]

theorem partOk_spec {P : Program} {T : T2} {t : TypeId} {p : PV} {cs : Array Value} {off : Nat} (hok : partOk P t p = true) (hw : WF p) (hin : off + size p ≤ cs.size) (hc : ∀ (j : Nat) (x : PV) (u : Value), (flat p)[j]? = some x → cs[off + j]? = some u → RO w T ρ u x) :
    ∃ v, (part t cs off).run P w = .ok v w ∧ RV w T ρ v p := by
  simp only [partOk, Bool.and_eq_true, Bool.not_eq_true', beq_iff_eq] at hok
  obtain ⟨⟨⟨h1, h2⟩, h3⟩, h4⟩ := hok
  exact part_run hw (Nat.eq_of_beq_eq_true h1) h2 h3 h4 hin hc

theorem eqT_spec {P : Program} {T : T2} : ∀ (d : Nat) (D : Nat) (t : TypeId) (p q : PV) (u v : Value) (b : Bool), d < D → eqT P d t p q = some b → RV w T ρ u p → RV w T ρ v q → (Op.equalIn D t u v).run P w = .ok b w
  | 0, _, _, _, _, _, _, _, _, h, _, _ => by simp [eqT] at h
  | d + 1, 0, _, _, _, _, _, _, hd, _, _, _ => by omega
  | d + 1, D + 1, t, p, q, u, v, b, hd, h, hp, hq => by
    unfold eqT at h
    split at h
    · rename_i x y hu
      simp only [Option.some.injEq] at h
      subst h
      have h1 := hp.to_leaf rfl (fun _ e => by cases e)
      have h2 := hq.to_leaf rfl (fun _ e => by cases e)
      simp only [RO] at h1 h2
      cases h1; cases h2
      exact run_equalIn_bool' w D t x y hu
    · rename_i kt k x k' y hu
      split at h
      · rename_i hk
        have hk := IntKind.same_eq hk
        subst hk
        simp only [Option.some.injEq] at h
        subst h
        have h1 := hp.to_leaf rfl (fun _ e => by cases e)
        have h2 := hq.to_leaf rfl (fun _ e => by cases e)
        simp only [RO] at h1 h2
        cases h1; cases h2
        exact run_equalIn_int w D t k kt x y hu
      · cases h
    · rename_i x y hu
      simp only [Option.some.injEq] at h
      subst h
      have h1 := hp.to_leaf rfl (fun _ e => by cases e)
      have h2 := hq.to_leaf rfl (fun _ e => by cases e)
      simp only [RO] at h1 h2
      cases h1; cases h2
      exact run_equalIn_string w D t x y hu
    · rename_i fs n ps m qs hu
      split at h
      · cases h
      · rename_i hst
        obtain ⟨xs, rfl, hx1, hx2⟩ := hp.to_agg rfl
        obtain ⟨ys, rfl, hy1, hy2⟩ := hq.to_agg rfl
        have hpw := hp.1
        have hqw := hq.1
        simp only [WF] at hpw hqw
        have hf : P.underlying t = some (.struct (P.fieldsOf t)) := by simp [Program.fieldsOf, hu]
        rw [run_equalIn_struct w D t xs ys hf (by simpa using hst)]
        have hff : P.fieldsOf t = fs := by simp [Program.fieldsOf, hu]
        rw [hff]
        have hx1 : xs.size = sizeL ps := by rw [hx1]; exact hpw.1.symm
        have hy1 : ys.size = sizeL qs := by rw [hy1]; exact hqw.1.symm
        have key : ∀ (fl : List Field) (o : Nat) (ps qs : List PV) (b : Bool), eqF P (eqT P d) o fl ps qs = some b → WFL ps → WFL qs → o + sizeL ps ≤ xs.size → o + sizeL qs ≤ ys.size →
            (∀ (j : Nat) (q : PV) (u : Value), (flatL ps)[j]? = some q → xs[o + j]? = some u → RO w T ρ u q) → (∀ (j : Nat) (q : PV) (u : Value), (flatL qs)[j]? = some q → ys[o + j]? = some u → RO w T ρ u q) → (Op.eqFields D xs ys fl).run P w = .ok b w := by
          intro fl
          induction fl with
          | nil =>
            intro o ps qs b h _ _ _ _ _ _
            cases ps <;> cases qs <;> simp only [eqF, Option.some.injEq, reduceCtorEq] at h
            subst h
            rfl
          | cons f fl ih =>
            intro o ps qs b h wp wq l1 l2 r1 r2
            cases ps with
            | nil => cases qs <;> simp [eqF] at h
            | cons p ps =>
              cases qs with
              | nil => simp [eqF] at h
              | cons q qs =>
                simp only [eqF] at h
                split at h
                · rename_i hc
                  simp only [Bool.and_eq_true, Bool.not_eq_true', beq_eq_false_iff_ne, ne_eq] at hc
                  obtain ⟨⟨⟨⟨c1, c2⟩, c3⟩, c5⟩, c4⟩ := hc
                  have c1 := Nat.eq_of_beq_eq_true c1
                  have c5 := Nat.eq_of_beq_eq_true c5
                  split at h
                  · rename_i x hx
                    split at h
                    · rename_i y hy
                      simp only [Option.some.injEq] at h
                      subst h
                      simp only [WFL] at wp wq
                      simp only [sizeL] at l1 l2
                      have lp := flat_length p wp.1
                      have lq := flat_length q wq.1
                      simp only [flatL] at r1 r2
                      obtain ⟨va, a1, a2⟩ := partOk_spec (T := T) (ρ := ρ) (cs := xs) (off := o) c2 wp.1 (by omega) (fun j x u hx hu => r1 j x u (by rw [List.getElem?_append_left (List.getElem?_eq_some_iff.1 hx).1]; exact hx) hu)
                      obtain ⟨vb, b1, b2⟩ := partOk_spec (T := T) (ρ := ρ) (cs := ys) (off := o) c3 wq.1 (by omega) (fun j x u hx hu => r2 j x u (by rw [List.getElem?_append_left (List.getElem?_eq_some_iff.1 hx).1]; exact hx) hu)
                      have e1 := eqT_spec d D f.type p q va vb x (by omega) hx a2 b2
                      have ih' := ih (o + size p) ps qs y hy wp.2 wq.2 (by omega) (by omega) (fun j x u hx hu => r1 (size p + j) x u (by rw [List.getElem?_append_right (by omega), lp, Nat.add_sub_cancel_left]; exact hx) (by rw [← Nat.add_assoc]; exact hu)) (fun j x u hx hu => r2 (size p + j) x u (by rw [List.getElem?_append_right (by omega), lq, c5, Nat.add_sub_cancel_left]; exact hx) (by rw [← Nat.add_assoc]; exact hu))
                      simp only [Op.eqFields, if_pos c4, c1, Sem.run_bind, a1, b1, e1, Result.andThen_ok]
                      cases x
                      · simp
                      · simpa using ih'
                    · cases h
                  · cases h
                · cases h
        exact key fs.toList 0 ps qs b h hpw.2 hqw.2 (by omega) (by omega) (fun j q u hq hu => hx2 j q u (by simpa only [flat] using hq) (by simpa using hu)) (fun j q u hq hu => hy2 j q u (by simpa only [flat] using hq) (by simpa using hu))
    · rename_i n e k m l k' m' l' hu
      split at h
      · rename_i ks he
        split at h
        · rename_i hc
          simp only [Bool.and_eq_true] at hc
          obtain ⟨⟨⟨c1, c2⟩, c3⟩, c4⟩ := hc
          have c1 := IntKind.same_eq c1
          have c2 := Nat.eq_of_beq_eq_true c2
          have c3 := Nat.eq_of_beq_eq_true c3
          have c4 := Nat.eq_of_beq_eq_true c4
          subst c1; subst c2; subst c3
          simp only [Option.some.injEq] at h
          subst h
          obtain ⟨xs, rfl, hx1, hx2⟩ := hp.to_agg rfl
          obtain ⟨ys, rfl, hy1, hy2⟩ := hq.to_agg rfl
          have hpw := hp.1
          have hqw := hq.1
          simp only [WF] at hpw hqw
          simp only [size] at hx1 hy1
          obtain ⟨i, hi⟩ := info_of_sz (P := P) (t := e) (by omega)
          rw [run_equalIn_array w D xs ys hu hi, c4, List.range_eq_range']
          cases D with
          | zero => omega
          | succ D =>
            refine eqIs_spec (T := T) (kt := k) n l l' xs ys 0 he c4 hpw.1 hqw.1 (fun j y hy => ?_) (fun j y hy => ?_)
            · have hj : j < l.length := (List.getElem?_eq_some_iff.1 hy).1
              have := hx2 j (.int k y) xs[j] (by simp [flat, hy]) (by simp)
              simp only [RO] at this
              generalize hg : xs[j] = g at this
              cases this
              rw [Nat.zero_add, Array.getElem?_eq_getElem (by omega), hg]
            · have hj : j < l'.length := (List.getElem?_eq_some_iff.1 hy).1
              have := hy2 j (.int k y) ys[j] (by simp [flat, hy]) (by simp)
              simp only [RO] at this
              generalize hg : ys[j] = g at this
              cases this
              rw [Nat.zero_add, Array.getElem?_eq_getElem (by omega), hg]
        · cases h
      · cases h
    · cases h

theorem goes_eqAgg (h : SimAt C F ρ s a w) {op : BinOp} {xT yT : TypeId} {x y : Operand} (ho : o.op = .binOp op xT x y yT) (hax : Pe.isAgg (evO C.P C.G xT s.fr x) = true) (hay : Pe.isAgg (evO C.P C.G yT s.fr y) = true) {v : PV} {ups : List (Nat × Option Row)} {ob : List Prop} {rd : List Nat}
    (hx : (eqAgg C.P xT op (evO C.P C.G xT s.fr x) (evO C.P C.G yT s.fr y)).run s.hp = some (v, ups, ob, rd)) : Goes C F ρ s a w o k v ups := by
  have hn : ∀ p : PV, Pe.isAgg p = true → p ≠ .undef := fun p hp e => by subst e; cases hp
  have rx := evO_rel h xT x (hn _ hax)
  have ry := evO_rel h yT y (hn _ hay)
  obtain ⟨xs, hxs, _⟩ := rx.to_agg hax
  obtain ⟨ys, hys, _⟩ := ry.to_agg hay
  unfold eqAgg at hx
  split at hx
  · simp [Pr.run] at hx
  · rename_i hg
    split at hx
    · rename_i b hb
      have heq := eqT_spec (w := w) (T := Tc C ρ s.hp) (ρ := ρ) 16 10000 xT _ _ _ _ b (by omega) hb rx ry
      rw [hxs, hys] at heq
      have hrun : ∀ u, (binOp op xT (.agg xs) (.agg ys)).run C.P w = .ok u w → (execOp a.eval o).run C.P w = .ok (.value u) w := by
        intro u hu
        have hgd := run_eqGuard_agg (P := C.P) w op xT x y xs ys (by simpa using hg)
        simp only [execOp, ho, hxs, hys]
        rw [Sem.run_bind, Sem.run_bind, hgd, Result.andThen_ok, hu]
        rfl
      split at hx
      · simp only [Pr.run, Option.some.injEq, Prod.mk.injEq] at hx
        obtain ⟨rfl, rfl, _, _⟩ := hx
        exact Goes.pure h (hrun _ (by rw [run_eql_struct, heq]; rfl)) fun _ => RV.bool _
      · simp only [Pr.run, Option.some.injEq, Prod.mk.injEq] at hx
        obtain ⟨rfl, rfl, _, _⟩ := hx
        exact Goes.pure h (hrun _ (by rw [run_neq_struct, heq]; rfl)) fun _ => RV.bool _
      · simp [Pr.run] at hx
    · simp [Pr.run] at hx
end
end Go.Pe
