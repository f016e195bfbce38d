/- The plain values of the pure machine: their leaves, sizes, nodes. No condition. -/
import GoSem.Step
namespace Go.Pe

inductive Stp where
  | fld (i off : Nat)
  | idx (i s : Nat)

def Stp.off : Stp → Nat
  | .fld _ o => o
  | .idx i s => i * s
def offOf : List Stp → Nat
  | [] => 0
  | s :: l => s.off + offOf l

inductive Sh where
  | any
  | int (k : IntKind)
  | bool
  | str
  | st (n : Nat) (fs : List Sh)
  | iarr (k : IntKind) (n : Nat)
  | parr (s n : Nat) (e : Sh)
  | vec (s : Nat) (e : Sh)

inductive PV where
  | int (k : IntKind) (n : Int)
  | bool (b : Bool)
  | str (s : ByteArray)
  | st (n : Nat) (fs : List PV)
  | iarr (k : IntKind) (n : Nat) (l : List Int)
  | parr (s n : Nat) (sh : Sh) (l : List PV)
  | tup (vs : List PV)
  | vec (nil : Bool) (c : PV)
  | cptr (c : PV) (path : List Stp)
  | at (id : Nat) (path : List Stp)
  | ref (id : Nat) (path : List Stp) (s off n : Nat)
  | nilp
  | undef

instance : Inhabited PV := ⟨.undef⟩

mutual
def flat : PV → List PV
  | .st _ fs => flatL fs
  | .iarr k _ l => l.map (.int k)
  | .parr _ _ _ l => flatL l
  | p => [p]
termination_by structural p => p
def flatL : List PV → List PV
  | [] => []
  | p :: l => flat p ++ flatL l
termination_by structural l => l
end

def size : PV → Nat
  | .st n _ => n
  | .iarr _ n _ => n
  | .parr s n _ _ => n * s
  | _ => 1
def sizeL : List PV → Nat
  | [] => 0
  | p :: l => size p + sizeL l

def isAgg : PV → Bool
  | .st .. | .iarr .. | .parr .. => true
  | _ => false
def isArr : PV → Bool
  | .iarr .. | .parr .. => true
  | _ => false
def arrLen : PV → Nat
  | .iarr _ n _ => n
  | .parr _ n _ _ => n
  | _ => 0
def elSize : PV → Nat
  | .iarr .. => 1
  | .parr s _ _ _ => s
  | _ => 1

mutual
def noref : PV → Bool
  | .st _ fs => norefL fs
  | .tup fs => norefL fs
  | .at .. | .ref .. => false
  | _ => true
termination_by structural p => p
def norefL : List PV → Bool
  | [] => true
  | p :: l => noref p && norefL l
termination_by structural l => l
end

/- What a value of a shape looks like, laid open. -/
def PV.num : PV → Int | .int _ n => n | _ => 0
def PV.tt : PV → Bool | .bool b => b | _ => false
def PV.text : PV → ByteArray | .str s => s | _ => .empty
def PV.nums : PV → List Int | .iarr _ _ l => l | _ => []
def PV.parts : PV → List PV | .parr _ _ _ l => l | _ => []
def PV.fs : PV → List PV | .st _ fs => fs | _ => []
def PV.nil? : PV → Bool | .vec b _ => b | _ => false
def PV.els : PV → PV | .vec _ c => c | _ => .undef
def PV.len : PV → Nat | .iarr _ n _ => n | .parr _ n _ _ => n | _ => 0

mutual
def expose : Sh → PV → PV
  | .any, p => p
  | .int k, p => .int k p.num
  | .bool, p => .bool p.tt
  | .str, p => .str p.text
  | .st n shs, p => .st n (exposeL shs p.fs)
  | .iarr k n, p => .iarr k n p.nums
  | .parr s n e, p => .parr s n e p.parts
  | .vec s e, p => .vec p.nil? (match e with | .int k => .iarr k p.els.len p.els.nums | e => .parr s p.els.len e p.els.parts)
termination_by structural sh => sh
def exposeL : List Sh → List PV → List PV
  | [], _ => []
  | sh :: shs, l => expose sh (l.headD .undef) :: exposeL shs l.tail
termination_by structural shs => shs
end

def IntKind.same : IntKind → IntKind → Bool
  | .i8, .i8 | .i16, .i16 | .i32, .i32 | .i64, .i64 | .u8, .u8 | .u16, .u16 | .u32, .u32 | .u64, .u64 => true
  | _, _ => false
theorem IntKind.same_eq {a b : IntKind} (h : IntKind.same a b = true) : a = b := by
  cases a <;> cases b <;> first | rfl | (simp [IntKind.same] at h)

def Sh.isInt : Sh → Bool | .int _ => true | _ => false

mutual
def Sh.beq : Sh → Sh → Bool
  | .any, .any => true
  | .int k, .int k' => IntKind.same k k'
  | .bool, .bool => true
  | .str, .str => true
  | .st n fs, .st n' fs' => Nat.beq n n' && Sh.beqL fs fs'
  | .iarr k n, .iarr k' n' => IntKind.same k k' && Nat.beq n n'
  | .parr s n e, .parr s' n' e' => Nat.beq s s' && Nat.beq n n' && Sh.beq e e'
  | .vec s e, .vec s' e' => Nat.beq s s' && Sh.beq e e'
  | _, _ => false
termination_by structural a => a
def Sh.beqL : List Sh → List Sh → Bool
  | [], [] => true
  | a :: l, b :: m => Sh.beq a b && Sh.beqL l m
  | _, _ => false
termination_by structural a => a
end

mutual
theorem Sh.beq_eq : ∀ (a b : Sh), Sh.beq a b = true → a = b
  | .any, b, h => by cases b <;> simp [Sh.beq] at h ⊢
  | .int k, b, h => by
    cases b <;> simp [Sh.beq] at h ⊢
    exact IntKind.same_eq h
  | .bool, b, h => by cases b <;> simp [Sh.beq] at h ⊢
  | .str, b, h => by cases b <;> simp [Sh.beq] at h ⊢
  | .st n fs, b, h => by
    cases b <;> simp [Sh.beq] at h ⊢
    exact ⟨h.1, Sh.beqL_eq fs _ h.2⟩
  | .iarr k n, b, h => by
    cases b <;> simp [Sh.beq] at h ⊢
    exact ⟨IntKind.same_eq h.1, h.2⟩
  | .parr s n e, b, h => by
    cases b <;> simp [Sh.beq] at h ⊢
    exact ⟨h.1.1, h.1.2, Sh.beq_eq e _ h.2⟩
  | .vec s e, b, h => by
    cases b <;> simp [Sh.beq] at h ⊢
    exact ⟨h.1, Sh.beq_eq e _ h.2⟩
theorem Sh.beqL_eq : ∀ (a b : List Sh), Sh.beqL a b = true → a = b
  | [], b, h => by cases b <;> simp [Sh.beqL] at h ⊢
  | x :: l, b, h => by
    cases b <;> simp [Sh.beqL] at h ⊢
    exact ⟨Sh.beq_eq x _ h.1, Sh.beqL_eq l _ h.2⟩
end

mutual
def conf : Sh → PV → Bool
  | .any, _ => true
  | .int k, .int k' _ => IntKind.same k k'
  | .bool, .bool _ => true
  | .str, .str _ => true
  | .st n shs, .st n' fs => Nat.beq n n' && confL shs fs
  | .iarr k n, .iarr k' n' _ => IntKind.same k k' && Nat.beq n n'
  | .parr s n e, .parr s' n' e' _ => Nat.beq s s' && Nat.beq n n' && Sh.beq e e'
  | .vec _ (.int k), .vec _ (.iarr k' _ _) => IntKind.same k k'
  | .vec s e, .vec _ (.parr s' _ e' _) => !Sh.isInt e && Nat.beq s s' && Sh.beq e e'
  | _, _ => false
termination_by structural sh => sh
def confL : List Sh → List PV → Bool
  | [], [] => true
  | sh :: shs, p :: l => conf sh p && confL shs l
  | _, _ => false
termination_by structural shs => shs
end

mutual
theorem expose_conf : ∀ (sh : Sh) (p : PV), conf sh p = true → expose sh p = p
  | .any, p, _ => rfl
  | .int k, p, h => by
    cases p <;> simp [conf, expose, PV.num] at h ⊢
    exact IntKind.same_eq h
  | .bool, p, h => by cases p <;> simp [conf, expose, PV.tt] at h ⊢
  | .str, p, h => by cases p <;> simp [conf, expose, PV.text] at h ⊢
  | .st n shs, p, h => by
    cases p <;> simp [conf, expose, PV.fs] at h ⊢
    exact ⟨h.1, exposeL_conf shs _ h.2⟩
  | .iarr k n, p, h => by
    cases p <;> simp [conf, expose, PV.nums] at h ⊢
    exact ⟨IntKind.same_eq h.1, h.2⟩
  | .parr s n e, p, h => by
    cases p <;> simp [conf, expose, PV.parts] at h ⊢
    exact ⟨h.1.1, h.1.2, Sh.beq_eq _ _ h.2⟩
  | .vec s e, p, h => by
    cases p with
    | vec b c =>
      cases c <;> cases e <;> simp [conf, expose, PV.nil?, PV.els, PV.len, PV.nums, PV.parts, Sh.isInt] at h ⊢
      case iarr.int => exact IntKind.same_eq h
      case parr.any => rename_i s' n' sh' l; cases sh' <;> simp [Sh.beq] at h ⊢; exact h
      case parr.bool => rename_i s' n' sh' l; cases sh' <;> simp [Sh.beq] at h ⊢; exact h
      case parr.str => rename_i s' n' sh' l; cases sh' <;> simp [Sh.beq] at h ⊢; exact h
      all_goals exact ⟨h.1, Sh.beq_eq _ _ h.2⟩
    | _ => cases e <;> simp [conf] at h
theorem exposeL_conf : ∀ (shs : List Sh) (l : List PV), confL shs l = true → exposeL shs l = l
  | [], l, h => by cases l <;> simp [confL, exposeL] at h ⊢
  | sh :: shs, l, h => by
    cases l <;> simp [confL, exposeL] at h ⊢
    exact ⟨expose_conf sh _ h.1, exposeL_conf shs _ h.2⟩
end

mutual
def WF : PV → Prop
  | .int k n => k.wrap n = n
  | .st n fs => sizeL fs = n ∧ WFL fs
  | .iarr k n l => l.length = n ∧ ∀ x ∈ l, k.wrap x = x
  | .parr s n sh l => l.length = n ∧ WFL l ∧ ∀ q ∈ l, size q = s ∧ conf sh q = true ∧ noref q = true
  | .tup vs => WFL vs
  | .vec nl c => WF c ∧ isArr c = true ∧ (nl = true → arrLen c = 0)
  | .cptr c _ => WF c ∧ noref c = true
  | _ => True
termination_by structural p => p
def WFL : List PV → Prop
  | [] => True
  | p :: l => WF p ∧ WFL l
termination_by structural l => l
end

theorem WFL_mem : ∀ {l : List PV}, WFL l → ∀ q ∈ l, WF q
  | [], _, q, h => by cases h
  | p :: l, h, q, hq => by
    simp only [WFL] at h
    rcases List.mem_cons.1 hq with rfl | hq
    · exact h.1
    · exact WFL_mem h.2 q hq
theorem WFL_of : ∀ {l : List PV}, (∀ q ∈ l, WF q) → WFL l
  | [], _ => by simp [WFL]
  | p :: l, h => by simp only [WFL]; exact ⟨h p (by simp), WFL_of fun q hq => h q (by simp [hq])⟩
theorem norefL_mem : ∀ {l : List PV}, norefL l = true → ∀ q ∈ l, noref q = true
  | [], _, q, h => by cases h
  | p :: l, h, q, hq => by
    simp only [norefL, Bool.and_eq_true] at h
    rcases List.mem_cons.1 hq with rfl | hq
    · exact h.1
    · exact norefL_mem h.2 q hq
theorem norefL_of : ∀ {l : List PV}, (∀ q ∈ l, noref q = true) → norefL l = true
  | [], _ => rfl
  | p :: l, h => by simp only [norefL, Bool.and_eq_true]; exact ⟨h p (by simp), norefL_of fun q hq => h q (by simp [hq])⟩

theorem sizeL_const {s : Nat} : ∀ {l : List PV}, (∀ q ∈ l, size q = s) → sizeL l = l.length * s
  | [], _ => by simp [sizeL]
  | p :: l, h => by
    rw [sizeL, h p (by simp), sizeL_const fun q hq => h q (by simp [hq]), List.length_cons, Nat.add_mul]; omega

mutual
theorem flat_length : ∀ (p : PV), WF p → (flat p).length = size p
  | .st n fs, h => by simp only [WF] at h; simp only [flat, size]; rw [flatL_length fs h.2, h.1]
  | .iarr k n l, h => by simp only [WF] at h; simp [flat, size, h.1]
  | .parr s n sh l, h => by
    simp only [WF] at h
    simp only [flat, size]
    rw [flatL_length l h.2.1, sizeL_const fun q hq => (h.2.2 q hq).1, h.1]
  | .int .., _ | .bool _, _ | .str _, _ | .tup _, _ | .vec .., _ | .cptr .., _ | .at .., _ | .ref .., _ | .nilp, _ | .undef, _ => by simp [flat, size]
theorem flatL_length : ∀ (l : List PV), WFL l → (flatL l).length = sizeL l
  | [], _ => rfl
  | p :: l, h => by simp only [WFL] at h; simp only [flatL, sizeL, List.length_append]; rw [flat_length p h.1, flatL_length l h.2]
end

/- A leaf is its own flat list. -/
def leaf : PV → Bool
  | .st .. | .iarr .. | .parr .. => false
  | _ => true
theorem flat_leaf {p : PV} (h : leaf p = true) : flat p = [p] := by cases p <;> simp [leaf] at h <;> rfl
theorem leaf_agg (p : PV) : leaf p = !isAgg p := by cases p <;> rfl

mutual
theorem leaf_of_flat : ∀ (p : PV), ∀ q ∈ flat p, leaf q = true
  | .st n fs, q, h => leaf_of_flatL fs q (by simpa only [flat] using h)
  | .iarr k n l, q, h => by
    simp only [flat, List.mem_map] at h
    obtain ⟨x, _, rfl⟩ := h
    rfl
  | .parr s n sh l, q, h => leaf_of_flatL l q (by simpa only [flat] using h)
  | .int .., q, h | .bool _, q, h | .str _, q, h | .tup _, q, h | .vec .., q, h | .cptr .., q, h | .at .., q, h | .ref .., q, h | .nilp, q, h | .undef, q, h => by
    simp only [flat, List.mem_singleton] at h
    subst h
    rfl
theorem leaf_of_flatL : ∀ (l : List PV), ∀ q ∈ flatL l, leaf q = true
  | [], q, h => by simp [flatL] at h
  | p :: l, q, h => by
    simp only [flatL, List.mem_append] at h
    rcases h with h | h
    · exact leaf_of_flat p q h
    · exact leaf_of_flatL l q h
end

mutual
theorem WF_of_flat : ∀ (p : PV), WF p → ∀ q ∈ flat p, WF q
  | .st n fs, hw, q, h => WF_of_flatL fs (by simp only [WF] at hw; exact hw.2) q (by simpa only [flat] using h)
  | .iarr k n l, hw, q, h => by
    simp only [flat, List.mem_map] at h
    obtain ⟨x, hx, rfl⟩ := h
    simp only [WF] at hw ⊢
    exact hw.2 x hx
  | .parr s n sh l, hw, q, h => WF_of_flatL l (by simp only [WF] at hw; exact hw.2.1) q (by simpa only [flat] using h)
  | .int .., hw, q, h | .bool _, hw, q, h | .str _, hw, q, h | .tup _, hw, q, h | .vec .., hw, q, h | .cptr .., hw, q, h | .at .., hw, q, h | .ref .., hw, q, h | .nilp, hw, q, h | .undef, hw, q, h => by
    simp only [flat, List.mem_singleton] at h
    subst h
    exact hw
theorem WF_of_flatL : ∀ (l : List PV), WFL l → ∀ q ∈ flatL l, WF q
  | [], _, q, h => by simp [flatL] at h
  | p :: l, hw, q, h => by
    simp only [WFL] at hw
    simp only [flatL, List.mem_append] at h
    rcases h with h | h
    · exact WF_of_flat p hw.1 q h
    · exact WF_of_flatL l hw.2 q h
end

mutual
theorem noref_of_flat : ∀ (p : PV), WF p → noref p = true → ∀ q ∈ flat p, noref q = true
  | .st n fs, hw, hn, q, h => noref_of_flatL fs (by simp only [WF] at hw; exact hw.2) (by simpa only [noref] using hn) q (by simpa only [flat] using h)
  | .iarr k n l, _, _, q, h => by
    simp only [flat, List.mem_map] at h
    obtain ⟨x, hx, rfl⟩ := h
    rfl
  | .parr s n sh l, hw, _, q, h => by
    simp only [WF] at hw
    exact noref_of_flatL l hw.2.1 (norefL_of fun q hq => (hw.2.2 q hq).2.2) q (by simpa only [flat] using h)
  | .int .., _, hn, q, h | .bool _, _, hn, q, h | .str _, _, hn, q, h | .tup _, _, hn, q, h | .vec .., _, hn, q, h | .cptr .., _, hn, q, h | .at .., _, hn, q, h | .ref .., _, hn, q, h | .nilp, _, hn, q, h | .undef, _, hn, q, h => by
    simp only [flat, List.mem_singleton] at h
    subst h
    exact hn
theorem noref_of_flatL : ∀ (l : List PV), WFL l → norefL l = true → ∀ q ∈ flatL l, noref q = true
  | [], _, _, q, h => by simp [flatL] at h
  | p :: l, hw, hn, q, h => by
    simp only [WFL] at hw
    simp only [norefL, Bool.and_eq_true] at hn
    simp only [flatL, List.mem_append] at h
    rcases h with h | h
    · exact noref_of_flat p hw.1 hn.1 q h
    · exact noref_of_flatL l hw.2 hn.2 q h
end
end Go.Pe
