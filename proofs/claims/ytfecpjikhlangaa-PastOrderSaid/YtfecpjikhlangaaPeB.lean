/- Nodes of a plain value by paths: what is read there, what a store makes of it. No condition. -/
import Derived.Test.YtfecpjikhlangaaPeA
namespace Go.Pe

def child : PV → Stp → Option PV
  | .st _ fs, .fld i off => if Nat.beq (sizeL (fs.take i)) off then fs[i]? else none
  | .iarr k _ l, .idx i s => if Nat.beq s 1 then some (.int k (l.getD i 0)) else none
  | .parr s _ sh l, .idx i s' => if Nat.beq s s' then some (expose sh (l.getD i .undef)) else none
  | _, _ => none
def node (c : PV) : List Stp → Option PV
  | [] => some c
  | s :: r => (child c s).bind fun q => node q r
def stepOb (c : PV) : Stp → List Prop
  | .fld _ _ => []
  | .idx i _ => [i < arrLen c]
def pathOb (c : PV) : List Stp → List Prop
  | [] => []
  | s :: r => stepOb c s ++ (match child c s with | some q => pathOb q r | none => [])
def setNode (v : PV) (c : PV) : List Stp → Option PV
  | [] => if Nat.beq (size v) (size c) then some v else none
  | .fld i off :: r => match c with
    | .st n fs => if Nat.beq (sizeL (fs.take i)) off then (fs[i]?).bind fun q => (setNode v q r).map fun q' => .st n (fs.set i q') else none
    | _ => none
  | .idx i s :: r => match c with
    | .iarr k n l => match r, v with
      | [], .int k' x => if Nat.beq s 1 && IntKind.same k k' then some (.iarr k n (l.set i x)) else none
      | _, _ => none
    | .parr s' n sh l => if Nat.beq s' s then (setNode v (expose sh (l.getD i .undef)) r).bind fun q' => if conf sh q' && noref q' then some (.parr s' n sh (l.set i q')) else none else none
    | _ => none

def All (l : List Prop) : Prop := ∀ p ∈ l, p
theorem All.nil : All [] := fun _ h => by cases h
theorem All.cons {p : Prop} {l : List Prop} (h : p) (hl : All l) : All (p :: l) := fun q hq => by
  rcases List.mem_cons.1 hq with rfl | hq
  · exact h
  · exact hl q hq
theorem All.head {p : Prop} {l : List Prop} (h : All (p :: l)) : p := h p (by simp)
theorem All.tail {p : Prop} {l : List Prop} (h : All (p :: l)) : All l := fun q hq => h q (by simp [hq])
theorem All.left {l m : List Prop} (h : All (l ++ m)) : All l := fun q hq => h q (by simp [hq])
theorem All.right {l m : List Prop} (h : All (l ++ m)) : All m := fun q hq => h q (by simp [hq])
theorem All.append {l m : List Prop} (h : All l) (h' : All m) : All (l ++ m) := fun q hq => (List.mem_append.1 hq).elim (h q) (h' q)

theorem flatL_append : ∀ (l m : List PV), flatL (l ++ m) = flatL l ++ flatL m
  | [], m => rfl
  | p :: l, m => by simp only [List.cons_append, flatL, flatL_append l m, List.append_assoc]
theorem sizeL_append : ∀ (l m : List PV), sizeL (l ++ m) = sizeL l + sizeL m
  | [], m => by simp [sizeL]
  | p :: l, m => by simp only [List.cons_append, sizeL, sizeL_append l m]; omega

theorem sizeL_take_le (fs : List PV) (i : Nat) : sizeL (fs.take i) ≤ sizeL fs := by
  have := sizeL_append (fs.take i) (fs.drop i)
  rw [List.take_append_drop] at this
  omega
theorem flatL_at {fs : List PV} (hw : WFL fs) {i : Nat} {q : PV} (hi : fs[i]? = some q) :
    sizeL (fs.take i) + size q ≤ sizeL fs ∧ ∀ j, j < size q → (flatL fs)[sizeL (fs.take i) + j]? = (flat q)[j]? := by
  have hlt : i < fs.length := (List.getElem?_eq_some_iff.1 hi).1
  have hq : fs[i] = q := (List.getElem?_eq_some_iff.1 hi).2
  have e : fs = fs.take i ++ (q :: fs.drop (i + 1)) := by rw [← hq, List.getElem_cons_drop, List.take_append_drop]
  have wt : WFL (fs.take i) := WFL_of fun x hx => WFL_mem hw x (List.mem_of_mem_take hx)
  have wq : WF q := WFL_mem hw q (List.mem_of_getElem? hi)
  have hs := sizeL_append (fs.take i) (q :: fs.drop (i + 1))
  rw [← e] at hs
  simp only [sizeL] at hs
  refine ⟨by omega, fun j hj => ?_⟩
  have hf := flatL_append (fs.take i) (q :: fs.drop (i + 1))
  rw [← e] at hf
  rw [hf, List.getElem?_append_right (by rw [flatL_length _ wt]; omega), flatL_length _ wt, Nat.add_sub_cancel_left, flatL, List.getElem?_append_left (by rw [flat_length _ wq]; exact hj)]

theorem flatL_set {fs : List PV} (hw : WFL fs) {i : Nat} {q q' : PV} (hi : fs[i]? = some q) (hq' : WF q') (hs : size q' = size q) :
    WFL (fs.set i q') ∧ sizeL (fs.set i q') = sizeL fs ∧ (∀ j, j < size q → (flatL (fs.set i q'))[sizeL (fs.take i) + j]? = (flat q')[j]?) ∧
      (∀ j, j < sizeL (fs.take i) ∨ sizeL (fs.take i) + size q ≤ j → (flatL (fs.set i q'))[j]? = (flatL fs)[j]?) := by
  have hlt : i < fs.length := (List.getElem?_eq_some_iff.1 hi).1
  have hq : fs[i] = q := (List.getElem?_eq_some_iff.1 hi).2
  have e : fs = fs.take i ++ (q :: fs.drop (i + 1)) := by rw [← hq, List.getElem_cons_drop, List.take_append_drop]
  have e' : fs.set i q' = fs.take i ++ (q' :: fs.drop (i + 1)) := by rw [List.set_eq_take_append_cons_drop, if_pos hlt]
  have wt : WFL (fs.take i) := WFL_of fun x hx => WFL_mem hw x (List.mem_of_mem_take hx)
  have wd : WFL (fs.drop (i + 1)) := WFL_of fun x hx => WFL_mem hw x (List.mem_of_mem_drop hx)
  have wq : WF q := WFL_mem hw q (List.mem_of_getElem? hi)
  have hz := sizeL_append (fs.take i) (q :: fs.drop (i + 1))
  have hz' := sizeL_append (fs.take i) (q' :: fs.drop (i + 1))
  have hf := flatL_append (fs.take i) (q :: fs.drop (i + 1))
  have hf' := flatL_append (fs.take i) (q' :: fs.drop (i + 1))
  rw [← e] at hz hf
  rw [← e'] at hz' hf'
  simp only [sizeL] at hz hz'
  simp only [flatL] at hf hf'
  have lt := flatL_length _ wt
  have lq := flat_length _ wq
  have lq' := flat_length _ hq'
  refine ⟨WFL_of fun x hx => ?_, by omega, fun j hj => ?_, fun j hj => ?_⟩
  · rw [e'] at hx
    rcases List.mem_append.1 hx with hx | hx
    · exact WFL_mem wt x hx
    · rcases List.mem_cons.1 hx with rfl | hx
      · exact hq'
      · exact WFL_mem wd x hx
  · rw [hf', List.getElem?_append_right (by omega), lt, Nat.add_sub_cancel_left, List.getElem?_append_left (by omega)]
  · rw [hf', hf]
    rcases hj with hj | hj
    · rw [List.getElem?_append_left (by omega), List.getElem?_append_left (by omega)]
    · rw [List.getElem?_append_right (by omega), List.getElem?_append_right (by omega), List.getElem?_append_right (by omega), List.getElem?_append_right (by omega), lq, lq', hs]

theorem sizeL_take_const {s : Nat} {l : List PV} (h : ∀ q ∈ l, size q = s) {i : Nat} (hi : i ≤ l.length) : sizeL (l.take i) = i * s := by
  rw [sizeL_const fun q hq => h q (List.mem_of_mem_take hq), List.length_take, Nat.min_eq_left hi]

/- WHAT STANDS AT A STEP. -/
theorem child_flat {c q : PV} {s : Stp} (hw : WF c) (hc : child c s = some q) (ho : All (stepOb c s)) :
    WF q ∧ s.off + size q ≤ size c ∧ (∀ j, j < size q → (flat c)[s.off + j]? = (flat q)[j]?) ∧ (noref c = true → noref q = true) := by
  cases c <;> cases s <;> simp only [child, reduceCtorEq] at hc
  case st.fld n fs i off =>
    split at hc
    · rename_i hb
      have hb : sizeL (fs.take i) = off := Nat.eq_of_beq_eq_true hb
      simp only [WF] at hw
      obtain ⟨h1, h2⟩ := flatL_at hw.2 hc
      refine ⟨WFL_mem hw.2 q (List.mem_of_getElem? hc), ?_, ?_, ?_⟩
      · show off + size q ≤ n; omega
      · intro j hj; simp only [Stp.off, flat]; rw [← hb]; exact h2 j hj
      · intro hn; simp only [noref] at hn; exact norefL_mem hn q (List.mem_of_getElem? hc)
    · cases hc
  case iarr.idx k n l i s =>
    split at hc
    · rename_i hb
      have hb : s = 1 := Nat.eq_of_beq_eq_true hb
      simp only [Option.some.injEq] at hc
      simp only [WF] at hw
      have hi : i < l.length := by have := ho.head; simp only [arrLen] at this; omega
      subst hb; subst hc
      have hg : l.getD i 0 = l[i] := by simp [hi]
      refine ⟨?_, ?_, ?_, fun _ => rfl⟩
      · simp only [WF]; rw [hg]; exact hw.2 _ (List.getElem_mem hi)
      · simp only [Stp.off, size]; omega
      · intro j hj
        simp only [size] at hj
        have : j = 0 := by omega
        subst this
        simp [Stp.off, flat, hi]
    · cases hc
  case parr.idx s n sh l i s' =>
    split at hc
    · rename_i hb
      have hb : s = s' := Nat.eq_of_beq_eq_true hb
      simp only [Option.some.injEq] at hc
      simp only [WF] at hw
      have hi : i < l.length := by have := ho.head; simp only [arrLen] at this; omega
      have hg : l.getD i .undef = l[i] := by simp [hi]
      rw [hg, expose_conf _ _ (hw.2.2 _ (List.getElem_mem hi)).2.1] at hc
      subst hb; subst hc
      have hi' : l[i]? = some l[i] := List.getElem?_eq_getElem hi
      obtain ⟨h1, h2⟩ := flatL_at hw.2.1 hi'
      rw [sizeL_take_const (fun q hq => (hw.2.2 q hq).1) (Nat.le_of_lt hi)] at h1 h2
      rw [sizeL_const (fun q hq => (hw.2.2 q hq).1), hw.1] at h1
      exact ⟨WFL_mem hw.2.1 _ (List.getElem_mem hi), by simpa only [Stp.off, size] using h1, by simpa only [Stp.off, flat] using h2, fun _ => (hw.2.2 _ (List.getElem_mem hi)).2.2⟩
    · cases hc

theorem node_flat : ∀ (path : List Stp) {c q : PV}, WF c → node c path = some q → All (pathOb c path) →
    WF q ∧ offOf path + size q ≤ size c ∧ (∀ j, j < size q → (flat c)[offOf path + j]? = (flat q)[j]?) ∧ (noref c = true → noref q = true)
  | [], c, q, hw, hn, _ => by
    simp only [node, Option.some.injEq] at hn
    subst hn
    exact ⟨hw, by simp [offOf], by simp [offOf], id⟩
  | s :: r, c, q, hw, hn, ho => by
    simp only [node, Option.bind_eq_some_iff] at hn
    obtain ⟨m, hm, hn⟩ := hn
    simp only [pathOb, hm] at ho
    obtain ⟨a1, a2, a3, a4⟩ := child_flat hw hm ho.left
    obtain ⟨b1, b2, b3, b4⟩ := node_flat r a1 hn ho.right
    refine ⟨b1, by simp only [offOf]; omega, fun j hj => ?_, fun h => b4 (a4 h)⟩
    simp only [offOf]
    rw [Nat.add_assoc, a3 _ (by omega), b3 j hj]

theorem noref_set {fs : List PV} {i : Nat} {q : PV} (h : norefL fs = true) (hq : noref q = true) : norefL (fs.set i q) = true :=
  norefL_of fun x hx => by
    rcases List.mem_or_eq_of_mem_set hx with hx | rfl
    · exact norefL_mem h x hx
    · exact hq

/- WHAT A STORE MAKES. -/
def SetAt (v c c' : PV) (o : Nat) : Prop :=
  WF c' ∧ size c' = size c ∧ o + size v ≤ size c ∧ (∀ j, j < size v → (flat c')[o + j]? = (flat v)[j]?) ∧
    (∀ j, j < o ∨ o + size v ≤ j → (flat c')[j]? = (flat c)[j]?) ∧ (noref c = true → noref v = true → noref c' = true)

theorem setNode_flat (v : PV) (hv : WF v) : ∀ (path : List Stp) {c c' : PV}, WF c → setNode v c path = some c' → All (pathOb c path) → SetAt v c c' (offOf path) := by
  intro path
  induction path with
  | nil =>
    intro c c' hw h _
    simp only [setNode] at h
    split at h
    · rename_i hb
      have hb : size v = size c := Nat.eq_of_beq_eq_true hb
      simp only [Option.some.injEq] at h
      subst h
      refine ⟨hv, hb, by simp [offOf, hb], fun j _ => by simp [offOf], fun j hj => ?_, fun _ h => h⟩
      simp only [offOf] at hj
      have l1 := flat_length _ hv
      have l2 := flat_length _ hw
      rw [List.getElem?_eq_none (by omega), List.getElem?_eq_none (by omega)]
    · cases h
  | cons s r ih =>
    intro c c' hw h ho
    cases s with
    | fld i off =>
      simp only [setNode] at h
      split at h
      · rename_i n fs
        split at h
        · rename_i hb
          have hb' : sizeL (fs.take i) = off := Nat.eq_of_beq_eq_true hb
          simp only [Option.bind_eq_some_iff, Option.map_eq_some_iff] at h
          obtain ⟨q, hq, q', hq', rfl⟩ := h
          simp only [WF] at hw
          have hc : child (.st n fs) (.fld i off) = some q := by simp only [child, hb, if_true, hq]
          simp only [pathOb, hc] at ho
          obtain ⟨a1, a2, a3, a4, a5, a6⟩ := ih (WFL_mem hw.2 q (List.mem_of_getElem? hq)) hq' ho.right
          obtain ⟨b1, b2, b3, b4⟩ := flatL_set hw.2 hq a1 a2
          have hle := (flatL_at hw.2 hq).1
          have hold := (flatL_at hw.2 hq).2
          subst hb'
          refine ⟨by simp only [WF]; exact ⟨by omega, b1⟩, rfl, ?_, fun j hj => ?_, fun j hj => ?_, fun hn hnv => ?_⟩
          · show sizeL (fs.take i) + offOf r + size v ≤ n; omega
          · simp only [flat, offOf, Stp.off]
            rw [Nat.add_assoc, b3 _ (by omega), a4 j hj]
          · simp only [offOf, Stp.off] at hj
            simp only [flat]
            by_cases h1 : j < sizeL (fs.take i) ∨ sizeL (fs.take i) + size q ≤ j
            · exact b4 j h1
            · obtain ⟨j', rfl⟩ : ∃ j', j = sizeL (fs.take i) + j' := ⟨j - sizeL (fs.take i), by omega⟩
              rw [b3 _ (by omega), hold _ (by omega), a5 j' (by omega)]
          · simp only [noref] at hn ⊢
            exact noref_set hn (a6 (norefL_mem hn q (List.mem_of_getElem? hq)) hnv)
        · cases h
      · cases h
    | idx i s =>
      simp only [setNode] at h
      split at h
      · rename_i k n l
        split at h
        · rename_i k' x
          split at h
          · rename_i hb
            simp only [Bool.and_eq_true] at hb
            have hs : s = 1 := Nat.eq_of_beq_eq_true hb.1
            have hk := IntKind.same_eq hb.2
            simp only [Option.some.injEq] at h
            subst hs; subst hk; subst h
            simp only [WF] at hw hv
            have hi : i < l.length := by have := ho.left.head; simp only [arrLen] at this; omega
            refine ⟨?_, rfl, ?_, fun j hj => ?_, fun j hj => ?_, fun _ _ => rfl⟩
            · simp only [WF, List.length_set]
              refine ⟨hw.1, fun y hy => ?_⟩
              rcases List.mem_or_eq_of_mem_set hy with hy | rfl
              · exact hw.2 y hy
              · exact hv
            · simp only [offOf, Stp.off, size]; omega
            · simp only [size] at hj
              have : j = 0 := by omega
              subst this
              simp [flat, offOf, Stp.off, hi]
            · simp only [offOf, Stp.off, size, Nat.mul_one, Nat.add_zero] at hj
              simp only [flat, List.getElem?_map]
              rw [List.getElem?_set_ne (by omega)]
          · cases h
        · cases h
      · rename_i s' n sh l
        split at h
        · rename_i hb
          have hs : s' = s := Nat.eq_of_beq_eq_true hb
          simp only [Option.bind_eq_some_iff] at h
          obtain ⟨q', hq', h⟩ := h
          split at h
          · rename_i hcn
            simp only [Bool.and_eq_true] at hcn
            simp only [Option.some.injEq] at h
            subst h; subst hs
            have hw0 := hw
            simp only [WF] at hw
            have hi : i < l.length := by have := ho.left.head; simp only [arrLen] at this; omega
            have hg : l.getD i .undef = l[i] := by simp [hi]
            have hq : l[i]? = some l[i] := List.getElem?_eq_getElem hi
            have hmem := hw.2.2 _ (List.getElem_mem hi)
            have hex : expose sh (l.getD i .undef) = l[i] := by rw [hg, expose_conf _ _ hmem.2.1]
            rw [hex] at hq'
            have hb1 : Nat.beq s' s' = true := hb
            have hc : child (.parr s' n sh l) (.idx i s') = some l[i] := by simp only [child, hb1, if_true, hex]
            simp only [pathOb, hc] at ho
            obtain ⟨a1, a2, a3, a4, a5, a6⟩ := ih (WFL_mem hw.2.1 _ (List.getElem_mem hi)) hq' ho.right
            obtain ⟨b1, b2, b3, b4⟩ := flatL_set hw.2.1 hq a1 a2
            have hle := (flatL_at hw.2.1 hq).1
            have hold := (flatL_at hw.2.1 hq).2
            have htk := sizeL_take_const (fun q hq => (hw.2.2 q hq).1) (Nat.le_of_lt hi)
            have hall := sizeL_const fun q hq => (hw.2.2 q hq).1
            rw [htk] at b3 b4 hle hold
            rw [hw.1] at hall
            rw [hall] at hle
            refine ⟨?_, rfl, ?_, fun j hj => ?_, fun j hj => ?_, fun _ _ => rfl⟩
            · simp only [WF, List.length_set]
              refine ⟨hw.1, b1, fun y hy => ?_⟩
              rcases List.mem_or_eq_of_mem_set hy with hy | rfl
              · exact hw.2.2 y hy
              · exact ⟨by rw [a2, hmem.1], hcn.1, hcn.2⟩
            · show i * s' + offOf r + size v ≤ n * s'; omega
            · simp only [flat, offOf, Stp.off]
              rw [Nat.add_assoc, b3 _ (by omega), a4 j hj]
            · simp only [offOf, Stp.off] at hj
              simp only [flat]
              by_cases h1 : j < i * s' ∨ i * s' + size l[i] ≤ j
              · exact b4 j h1
              · obtain ⟨j', rfl⟩ : ∃ j', j = i * s' + j' := ⟨j - i * s', by omega⟩
                rw [b3 _ (by omega), hold _ (by omega), a5 j' (by omega)]
          · cases h
        · cases h
      · cases h
end Go.Pe
