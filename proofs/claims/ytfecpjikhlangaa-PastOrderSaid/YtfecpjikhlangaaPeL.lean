/- The plain operations are right, seventh part: conversions, build. No condition. -/
import Derived.Test.YtfecpjikhlangaaPeK
import Derived.Lib.ConvBytes
import Derived.Laws.BytesString
namespace Go.Pe

section
variable {C : Ctx} {F : Nat → Prop} {ρ : Pls} {s : St} {a : Act} {w w' : World} {o : Oper} {k : Nat}

theorem goes_newSlice (h : SimAt C F ρ s a w) (hF : F k) {cs : Array Value} {t : TypeId} {fz : Nat × Nat} (hn : NewBlk w w' cs t fz) {n cap sz : Nat} {c : PV}
    (hr : (execOp a.eval o).run C.P w = .ok (.value (.slice (some ⟨w.heap.size, 0, none⟩) n cap)) w') (hw : WF c) (hs : size c ≤ cs.size) (hfz : ∀ j, j < cs.size → (decide (fz.1 ≤ j) && decide (j < fz.2)) = false)
    (hl : ∀ (j : Nat) (q : PV) (u : Value), (flat c)[j]? = some q → cs[j]? = some u → RO w (Tc C ρ s.hp) ρ u q) (h1 : n ≤ cap) (h2 : cap ≤ maxLen) (h3 : cap * sz ≤ cs.size) :
    Goes C F ρ s a w o k (.ref k [] sz 0 n) [(k, some ⟨c, false⟩)] := by
  intro K Q hK
  have h' := h.newBlk hF hn c hw hs hfz hl
  refine wp_value hr (hK _ _ _ (Ext.upd _ (h.free k hF).1) (h'.less fun i hi => ⟨hi.1, by omega⟩) fun _ => ?_)
  refine RV.of_leaf rfl (fun _ e => by cases e) trivial ?_
  simp only [RO]
  exact ⟨_, _, cap, upd_same _ _ _, rfl, h1, h2, fun _ => ⟨by simp [offOf], by simp [offOf]; exact h3⟩⟩

theorem bytesOf_spec (b : ByteArray) : WF (.iarr .u8 b.size (bytesOf b)) ∧ ∀ (j : Nat) (q : PV), (flat (.iarr .u8 b.size (bytesOf b)))[j]? = some q → ∃ hj : j < b.data.size, q = .int .u8 (b.data[j].toNat : Int) := by
  refine ⟨?_, fun j q hq => ?_⟩
  · simp only [WF]
    refine ⟨by simp [bytesOf], fun x hx => ?_⟩
    simp only [bytesOf, List.mem_map] at hx
    obtain ⟨y, _, rfl⟩ := hx
    rw [wrap_bounds]
    have := y.toNat_lt
    have m1 : IntKind.u8.min = 0 := by decide
    have m2 : IntKind.u8.max = 255 := by decide
    omega
  · simp only [flat, bytesOf, List.map_map, List.getElem?_map, Option.map_eq_some_iff] at hq
    obtain ⟨y, hy, rfl⟩ := hq
    obtain ⟨hj, rfl⟩ := List.getElem?_eq_some_iff.1 hy
    exact ⟨by simpa using hj, by simp⟩

theorem goes_conv (h : SimAt C F ρ s a w) {sT dT : TypeId} {x : Operand} (ho : o.op = .convert sT dT x) {v : PV} {ups : List (Nat × Option Row)} {ob : List Prop} {rd : List Nat} (hF : F k) (hsu : tyOk C.P sT = true)
    (hx : (convP C.P sT dT (evO C.P C.G sT s.fr x) k).run s.hp = some (v, ups, ob, rd)) : Goes C F ρ s a w o k v ups := by
  obtain ⟨ds, hds⟩ : ∃ ds, C.P.underlying sT = some ds := by
    unfold tyOk at hsu
    cases hu : C.P.underlying sT with
    | none => rw [hu] at hsu; cases hsu
    | some d => exact ⟨d, rfl⟩
  have hexec : execOp a.eval o = (do pure (.value (← convert sT dT (a.eval x))) : Sem Next) := by simp only [execOp, ho]
  have hrun : ∀ u w', (convert sT dT (a.eval x)).run C.P w = .ok u w' → (execOp a.eval o).run C.P w = .ok (.value u) w' := by
    intro u w' hu
    rw [hexec, Sem.run_bind, hu]
    rfl
  unfold convP at hx
  split at hx
  · rename_i kd' kd n hu hA
    simp only [Pr.run, Option.some.injEq, Prod.mk.injEq] at hx
    obtain ⟨rfl, rfl, _, _⟩ := hx
    obtain ⟨e, _⟩ := evO_int h hA
    refine Goes.pure h (hrun (.int kd' (kd'.wrap n)) w ?_) fun _ => RV.int (wrap_wrap _ _)
    simp only [convert, Sem.run_bind, run_underlying hds, run_underlying hu, Result.andThen_ok, e]
    rfl
  · rename_i b hu hA
    simp only [Pr.run, Option.some.injEq, Prod.mk.injEq] at hx
    obtain ⟨rfl, rfl, _, _⟩ := hx
    obtain ⟨e, hs⟩ := evO_str h hA
    refine Goes.pure h (hrun (.string b) w ?_) fun _ => RV.str hs
    simp only [convert, Sem.run_bind, run_underlying hds, run_underlying hu, Result.andThen_ok, e]
    rfl
  · rename_i e b hu hA
    split at hx
    · rename_i hue
      simp only [Pr.run, Option.some.injEq, Prod.mk.injEq] at hx
      obtain ⟨rfl, rfl, _, _⟩ := hx
      obtain ⟨ee, hs⟩ := evO_str h hA
      have hc := Lib.run_convert_string_bytes (P := C.P) w sT dT e b hds hu hue
      have hcap : b.size ≤ grownCap w b.size 0 e ∧ grownCap w b.size 0 e ≤ maxLen := by
        unfold maxLen at hs ⊢
        have := Nat.mod_lt (w.tape w.drawn (.appendCap b.size 0 e)) (show 0 < 2 ^ 63 - b.size by omega)
        simp only [grownCap, Question.cut]
        omega
      have hcs : (Lib.bytesCells w e b).size = grownCap w b.size 0 e := by
        simp [Lib.bytesCells]
        omega
      obtain ⟨w1, w2⟩ := bytesOf_spec b
      refine goes_newSlice h hF (w' := Lib.bytesWorld w e b) (cs := Lib.bytesCells w e b) (t := e) (fz := ((Lib.bytesCells w e b).size, (Lib.bytesCells w e b).size + 1)) (cap := grownCap w b.size 0 e)
        ⟨rfl, rfl, rfl, Lib.bytesWorld_size w e b, fun j hj => Lib.bytesWorld_at_old w e b j hj, Lib.bytesWorld_at_new w e b⟩ (hrun _ _ (by rw [ee]; exact hc)) w1 (by simp only [size]; omega) (fun j hj => by simp; omega) (fun j q u hq hu => ?_) hcap.1 hcap.2 (by omega)
      obtain ⟨hj, rfl⟩ := w2 j q hq
      have : u = .int .u8 (b.data[j].toNat : Int) := by
        have hj' : j < b.size := hj
        rw [Lib.bytesCells, Array.getElem?_append_left (by simpa using hj'), Array.getElem?_map, Array.getElem?_eq_getElem hj] at hu
        simpa using hu.symm
      rw [this]
      exact RO.of_closed (.int _ _)
    · simp [Pr.run] at hx
  · simp [Pr.run] at hx

/- bytes as a string -/
theorem push_all : ∀ (l : List Int) (acc : ByteArray), l.foldl (fun r n => r.push (UInt8.ofNat n.toNat)) acc = ⟨acc.data ++ (l.map fun n => UInt8.ofNat n.toNat).toArray⟩
  | [], acc => by simp
  | n :: l, acc => by
    rw [List.foldl_cons, push_all l]
    simp [ByteArray.push]
theorem strOf_eq (l : List Int) : l.foldl (fun r n => r.push (UInt8.ofNat n.toNat)) ByteArray.empty = strOf l := by
  rw [push_all]
  unfold strOf
  congr 1
  simp [ByteArray.empty, ByteArray.emptyWithCapacity] <;> rfl
theorem strOf_size (l : List Int) : (strOf l).size = l.length := by simp [strOf, ByteArray.size]

theorem goes_bytes (h : SimAt C F ρ s a w) {sT dT e : TypeId} {x : Operand} (ho : o.op = .convert sT dT x) (hs : C.P.underlying sT = some (.slice e)) (he : C.P.underlying e = some (.int .u8)) (hd : C.P.underlying dT = some .string)
    {A : Option Addr} {n c : Nat} {l : List Int} (hv : a.eval x = .slice A n c) (hl : l.length = n) (hn : n ≤ maxLen) (hc : 0 < n → ∃ b o', A = some ⟨b, o', none⟩ ∧ ∀ j (hj : j < l.length), w.cell? ⟨b, o' + j, none⟩ = some (.int .u8 l[j])) :
    Goes C F ρ s a w o k (.str (strOf l)) [] := by
  have hexec : execOp a.eval o = (do pure (.value (← convert sT dT (a.eval x))) : Sem Next) := by simp only [execOp, ho]
  refine Goes.pure h (u := .string (strOf l)) ?_ fun _ => RV.str (by rw [strOf_size]; omega)
  rw [hexec, Sem.run_bind, hv, run_convert_bytes_string w sT dT e A n c hs he hd]
  cases A with
  | none =>
    have : l = [] := by
      cases l with
      | nil => rfl
      | cons y l => obtain ⟨_, _, h1, _⟩ := hc (by rw [← hl]; simp); cases h1
    subst this
    rfl
  | some ad =>
    have hload : (loadCells ad n).run C.P w = .ok (l.map (Value.int .u8)).toArray w := by
      have := run_loadCells_list (P := C.P) w ad (l.map (Value.int .u8)) (fun j v hj => by
        simp only [List.getElem?_map, Option.map_eq_some_iff] at hj
        obtain ⟨y, hy, rfl⟩ := hj
        obtain ⟨hj, rfl⟩ := List.getElem?_eq_some_iff.1 hy
        obtain ⟨b, o', e1, e2⟩ := hc (by omega)
        cases e1
        rw [add_none]
        exact e2 j hj)
      rw [List.length_map, hl] at this
      exact this
    rw [run_bytesToString w ad n c l hload, Result.andThen_ok, strOf_eq]
    rfl
end
end Go.Pe
