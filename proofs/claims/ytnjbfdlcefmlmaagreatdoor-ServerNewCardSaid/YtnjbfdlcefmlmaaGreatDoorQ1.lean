/- Merged texts: the pure machine and what the walks show. Conditions: as each statement says. -/
import GoSem.Step
import Derived.Orders
import Derived.Laws.World
import Derived.Laws.IdiomCopy
import GoSem.ClaimData
import Derived.Laws.Entries
import Derived.Laws.Cells
import Derived.Laws.BitsLemmas
import Derived.Lib.ConvBytes
import Derived.Laws.BytesString
import Derived.Laws.MakeOwn
import Derived.Laws.StructEq
import Derived.ChangeKeysEq
import Derived.Laws.Externs
set_option linter.unusedSimpArgs false
set_option linter.unusedVariables false
namespace Go.Pe
inductive Stp where
 | fld (i off : Nat)
 | idx (i s : Nat)
def Stp.off : Stp → Nat
 | .fld _ o => o
 | .idx i s => i * s
def Af : List Stp → Nat
 | [] => 0
 | s :: l => s.off + Af l
inductive Sh where
 | any
 | int (k : IntKind)
 | bool
 | str
 | st (n : Nat) (fs : List Sh)
 | iarr (k : IntKind) (n : Nat)
 | parr (s n : Nat) (e : Sh)
 | vec (s : Nat) (e : Sh)
inductive PV where
 | int (k : IntKind) (n : Int)
 | bool (b : Bool)
 | str (s : ByteArray)
 | st (n : Nat) (fs : List PV)
 | iarr (k : IntKind) (n : Nat) (l : List Int)
 | parr (s n : Nat) (sh : Sh) (l : List PV)
 | tup (vs : List PV)
 | vec (nil : Bool) (c : PV)
 | cptr (c : PV) (path : List Stp)
 | at (id : Nat) (path : List Stp)
 | ref (id : Nat) (path : List Stp) (s off n : Nat)
 | nilp
 | fn (f id : Nat)
 | fn2 (f i j : Nat)
 | fv (v : Value)
 | fb (f : Nat) (p : PV)
 | undef
instance : Inhabited PV := ⟨.undef⟩
mutual
def flat : PV → List PV
 | .st _ fs => Ag fs
 | .iarr k _ l => l.map (.int k)
 | .parr _ _ _ l => Ag l
 | p => [p]
termination_by structural p => p
def Ag : List PV → List PV
 | [] => []
 | p :: l => flat p ++ Ag l
termination_by structural l => l
end

def size : PV → Nat
 | .st n _ => n
 | .iarr _ n _ => n
 | .parr s n _ _ => n * s
 | _ => 1
def Ar : List PV → Nat
 | [] => 0
 | p :: l => size p + Ar l
def isAgg : PV → Bool
 | .st .. | .iarr .. | .parr .. => true
 | _ => false
def Bb : PV → Bool
 | .iarr .. | .parr .. => true
 | _ => false
def Aa : PV → Nat
 | .iarr _ n _ => n
 | .parr _ n _ _ => n
 | _ => 0
def Am : PV → Nat
 | .iarr .. => 1
 | .parr s _ _ _ => s
 | _ => 1
mutual
def noref : PV → Bool
 | .st _ fs => BP fs
 | .tup fs => BP fs
 | .at .. | .ref .. | .fn .. | .fn2 .. => false
 | _ => true
termination_by structural p => p
def BP : List PV → Bool
 | [] => true
 | p :: l => noref p && BP l
termination_by structural l => l
end

def PV.num : PV → Int | .int _ n => n | _ => 0
def PV.tt : PV → Bool | .bool b => b | _ => false
def PV.text : PV → ByteArray | .str s => s | _ => .empty
def PV.nums : PV → List Int | .iarr _ _ l => l | _ => []
def PV.parts : PV → List PV | .parr _ _ _ l => l | _ => []
def PV.fs : PV → List PV | .st _ fs => fs | _ => []
def PV.MX : PV → Bool | .vec b _ => b | _ => false
def PV.els : PV → PV | .vec _ c => c | _ => .undef
def PV.len : PV → Nat | .iarr _ n _ => n | .parr _ n _ _ => n | _ => 0
mutual
def BS : Sh → PV → PV
 | .any, p => p
 | .int k, p => .int k p.num
 | .bool, p => .bool p.tt
 | .str, p => .str p.text
 | .st n shs, p => .st n (Ef shs p.fs)
 | .iarr k n, p => .iarr k n p.nums
 | .parr s n e, p => .parr s n e p.parts
 | .vec s e, p => .vec p.MX (match e with | .int k => .iarr k p.els.len p.els.nums | e => .parr s p.els.len e p.els.parts)
termination_by structural sh => sh
def Ef : List Sh → List PV → List PV
 | [], _ => []
 | sh :: shs, l => BS sh (l.headD .undef) :: Ef shs l.tail
termination_by structural shs => shs
end

def IntKind.same : IntKind → IntKind → Bool
 | .i8, .i8 | .i16, .i16 | .i32, .i32 | .i64, .i64 | .u8, .u8 | .u16, .u16 | .u32, .u32 | .u64, .u64 => true
 | _, _ => false
theorem IntKind.same_eq {a b : IntKind} (h : IntKind.same a b = true) : a = b := by
 cases a <;> cases b <;> first | rfl | (simp [IntKind.same] at h)
def Sh.isInt : Sh → Bool | .int _ => true | _ => false
mutual
def Sh.beq : Sh → Sh → Bool
 | .any, .any => true
 | .int k, .int k' => IntKind.same k k'
 | .bool, .bool => true
 | .str, .str => true
 | .st n fs, .st n' fs' => Nat.beq n n' && Sh.LP fs fs'
 | .iarr k n, .iarr k' n' => IntKind.same k k' && Nat.beq n n'
 | .parr s n e, .parr s' n' e' => Nat.beq s s' && Nat.beq n n' && Sh.beq e e'
 | .vec s e, .vec s' e' => Nat.beq s s' && Sh.beq e e'
 | _, _ => false
termination_by structural a => a
def Sh.LP : List Sh → List Sh → Bool
 | [], [] => true
 | a :: l, b :: m => Sh.beq a b && Sh.LP l m
 | _, _ => false
termination_by structural a => a
end

mutual
theorem Sh.beq_eq : ∀ (a b : Sh), Sh.beq a b = true → a = b
 | .any, b, h => by cases b <;> simp [Sh.beq] at h ⊢
 | .int k, b, h => by
  cases b <;> simp [Sh.beq] at h ⊢
  exact IntKind.same_eq h
 | .bool, b, h => by cases b <;> simp [Sh.beq] at h ⊢
 | .str, b, h => by cases b <;> simp [Sh.beq] at h ⊢
 | .st n fs, b, h => by
  cases b <;> simp [Sh.beq] at h ⊢
  exact ⟨h.1, Sh.OT fs _ h.2⟩
 | .iarr k n, b, h => by
  cases b <;> simp [Sh.beq] at h ⊢
  exact ⟨IntKind.same_eq h.1, h.2⟩
 | .parr s n e, b, h => by
  cases b <;> simp [Sh.beq] at h ⊢
  exact ⟨h.1.1, h.1.2, Sh.beq_eq e _ h.2⟩
 | .vec s e, b, h => by
  cases b <;> simp [Sh.beq] at h ⊢
  exact ⟨h.1, Sh.beq_eq e _ h.2⟩
theorem Sh.OT : ∀ (a b : List Sh), Sh.LP a b = true → a = b
 | [], b, h => by cases b <;> simp [Sh.LP] at h ⊢
 | x :: l, b, h => by
  cases b <;> simp [Sh.LP] at h ⊢
  exact ⟨Sh.beq_eq x _ h.1, Sh.OT l _ h.2⟩
end

mutual
def conf : Sh → PV → Bool
 | .any, _ => true
 | .int k, .int k' _ => IntKind.same k k'
 | .bool, .bool _ => true
 | .str, .str _ => true
 | .st n shs, .st n' fs => Nat.beq n n' && EG shs fs
 | .iarr k n, .iarr k' n' _ => IntKind.same k k' && Nat.beq n n'
 | .parr s n e, .parr s' n' e' _ => Nat.beq s s' && Nat.beq n n' && Sh.beq e e'
 | .vec _ (.int k), .vec _ (.iarr k' _ _) => IntKind.same k k'
 | .vec s e, .vec _ (.parr s' _ e' _) => !Sh.isInt e && Nat.beq s s' && Sh.beq e e'
 | _, _ => false
termination_by structural sh => sh
def EG : List Sh → List PV → Bool
 | [], [] => true
 | sh :: shs, p :: l => conf sh p && EG shs l
 | _, _ => false
termination_by structural shs => shs
end

mutual
theorem CF : ∀ (sh : Sh) (p : PV), conf sh p = true → BS sh p = p
 | .any, p, _ => rfl
 | .int k, p, h => by
  cases p <;> simp [conf, BS, PV.num] at h ⊢
  exact IntKind.same_eq h
 | .bool, p, h => by cases p <;> simp [conf, BS, PV.tt] at h ⊢
 | .str, p, h => by cases p <;> simp [conf, BS, PV.text] at h ⊢
 | .st n shs, p, h => by
  cases p <;> simp [conf, BS, PV.fs] at h ⊢
  exact ⟨h.1, GG shs _ h.2⟩
 | .iarr k n, p, h => by
  cases p <;> simp [conf, BS, PV.nums] at h ⊢
  exact ⟨IntKind.same_eq h.1, h.2⟩
 | .parr s n e, p, h => by
  cases p <;> simp [conf, BS, PV.parts] at h ⊢
  exact ⟨h.1.1, h.1.2, Sh.beq_eq _ _ h.2⟩
 | .vec s e, p, h => by
  cases p with
  | vec b c =>
   cases c <;> cases e <;> simp [conf, BS, PV.MX, PV.els, PV.len, PV.nums, PV.parts, Sh.isInt] at h ⊢
   case iarr.int => exact IntKind.same_eq h
   case parr.any => rename_i s' n' sh' l; cases sh' <;> simp [Sh.beq] at h ⊢; exact h
   case parr.bool => rename_i s' n' sh' l; cases sh' <;> simp [Sh.beq] at h ⊢; exact h
   case parr.str => rename_i s' n' sh' l; cases sh' <;> simp [Sh.beq] at h ⊢; exact h
   all_goals exact ⟨h.1, Sh.beq_eq _ _ h.2⟩
  | _ => cases e <;> simp [conf] at h
theorem GG : ∀ (shs : List Sh) (l : List PV), EG shs l = true → Ef shs l = l
 | [], l, h => by cases l <;> simp [EG, Ef] at h ⊢
 | sh :: shs, l, h => by
  cases l <;> simp [EG, Ef] at h ⊢
  exact ⟨CF sh _ h.1, GG shs _ h.2⟩
end

mutual
def WF : PV → Prop
 | .int k n => k.wrap n = n
 | .st n fs => Ar fs = n ∧ WFL fs
 | .iarr k n l => l.length = n ∧ ∀ x ∈ l, k.wrap x = x
 | .parr s n sh l => l.length = n ∧ WFL l ∧ ∀ q ∈ l, size q = s ∧ conf sh q = true ∧ noref q = true
 | .tup vs => WFL vs
 | .vec nl c => WF c ∧ Bb c = true ∧ (nl = true → Aa c = 0)
 | .cptr c _ => WF c ∧ noref c = true
 | .fb _ p => WF p ∧ noref p = true ∧ isAgg p = true
 | _ => True
termination_by structural p => p
def WFL : List PV → Prop
 | [] => True
 | p :: l => WF p ∧ WFL l
termination_by structural l => l
end

theorem AC : ∀ {l : List PV}, WFL l → ∀ q ∈ l, WF q
 | [], _, q, h => by cases h
 | p :: l, h, q, hq => by
  simp only [WFL] at h
  rcases List.mem_cons.1 hq with rfl | hq
  ·exact h.1
  ·exact AC h.2 q hq
theorem Bt : ∀ {l : List PV}, (∀ q ∈ l, WF q) → WFL l
 | [], _ => by simp [WFL]
 | p :: l, h => by simp only [WFL]; exact ⟨h p (by simp), Bt fun q hq => h q (by simp [hq])⟩
theorem Ey : ∀ {l : List PV}, BP l = true → ∀ q ∈ l, noref q = true
 | [], _, q, h => by cases h
 | p :: l, h, q, hq => by
  simp only [BP, Bool.and_eq_true] at h
  rcases List.mem_cons.1 hq with rfl | hq
  ·exact h.1
  ·exact Ey h.2 q hq
theorem Hm : ∀ {l : List PV}, (∀ q ∈ l, noref q = true) → BP l = true
 | [], _ => rfl
 | p :: l, h => by simp only [BP, Bool.and_eq_true]; exact ⟨h p (by simp), Hm fun q hq => h q (by simp [hq])⟩
theorem AY {s : Nat} : ∀ {l : List PV}, (∀ q ∈ l, size q = s) → Ar l = l.length * s
 | [], _ => by simp [Ar]
 | p :: l, h => by
  rw [Ar, h p (by simp), AY fun q hq => h q (by simp [hq]), List.length_cons, Nat.add_mul]; omega
mutual
theorem Ae : ∀ (p : PV), WF p → (flat p).length = size p
 | .st n fs, h => by simp only [WF] at h; simp only [flat, size]; rw [AR fs h.2, h.1]
 | .iarr k n l, h => by simp only [WF] at h; simp [flat, size, h.1]
 | .parr s n sh l, h => by
  simp only [WF] at h
  simp only [flat, size]
  rw [AR l h.2.1, AY fun q hq => (h.2.2 q hq).1, h.1]
 | .int .., _ | .bool _, _ | .str _, _ | .tup _, _ | .vec .., _ | .cptr .., _ | .at .., _ | .ref .., _ | .nilp, _ | .fv _, _ | .fb .., _ | .fn .., _ | .fn2 .., _ | .undef, _ => by simp [flat, size]
theorem AR : ∀ (l : List PV), WFL l → (Ag l).length = Ar l
 | [], _ => rfl
 | p :: l, h => by simp only [WFL] at h; simp only [Ag, Ar, List.length_append]; rw [Ae p h.1, AR l h.2]
end

def leaf : PV → Bool
 | .st .. | .iarr .. | .parr .. => false
 | _ => true
theorem Ed {p : PV} (h : leaf p = true) : flat p = [p] := by cases p <;> simp [leaf] at h <;> rfl
theorem leaf_agg (p : PV) : leaf p = !isAgg p := by cases p <;> rfl
mutual
theorem ED : ∀ (p : PV), ∀ q ∈ flat p, leaf q = true
 | .st n fs, q, h => DK fs q (by simpa only [flat] using h)
 | .iarr k n l, q, h => by
  simp only [flat, List.mem_map] at h
  obtain ⟨x, _, rfl⟩ := h
  rfl
 | .parr s n sh l, q, h => DK l q (by simpa only [flat] using h)
 | .int .., q, h | .bool _, q, h | .str _, q, h | .tup _, q, h | .vec .., q, h | .cptr .., q, h | .at .., q, h | .ref .., q, h | .nilp, q, h | .fv _, q, h | .fb .., q, h | .fn .., q, h | .fn2 .., q, h | .undef, q, h => by
  simp only [flat, List.mem_singleton] at h
  subst h
  rfl
theorem DK : ∀ (l : List PV), ∀ q ∈ Ag l, leaf q = true
 | [], q, h => by simp [Ag] at h
 | p :: l, q, h => by
  simp only [Ag, List.mem_append] at h
  rcases h with h | h
  ·exact ED p q h
  ·exact DK l q h
end


mutual
theorem AZ : ∀ (p : PV), WF p → noref p = true → ∀ q ∈ flat p, noref q = true
 | .st n fs, hw, hn, q, h => Dn fs (by simp only [WF] at hw; exact hw.2) (by simpa only [noref] using hn) q (by simpa only [flat] using h)
 | .iarr k n l, _, _, q, h => by
  simp only [flat, List.mem_map] at h
  obtain ⟨x, hx, rfl⟩ := h
  rfl
 | .parr s n sh l, hw, _, q, h => by
  simp only [WF] at hw
  exact Dn l hw.2.1 (Hm fun q hq => (hw.2.2 q hq).2.2) q (by simpa only [flat] using h)
 | .int .., _, hn, q, h | .bool _, _, hn, q, h | .str _, _, hn, q, h | .tup _, _, hn, q, h | .vec .., _, hn, q, h | .cptr .., _, hn, q, h | .at .., _, hn, q, h | .ref .., _, hn, q, h | .nilp, _, hn, q, h | .fv _, _, hn, q, h | .fb .., _, hn, q, h | .fn .., _, hn, q, h | .fn2 .., _, hn, q, h | .undef, _, hn, q, h => by
  simp only [flat, List.mem_singleton] at h
  subst h
  exact hn
theorem Dn : ∀ (l : List PV), WFL l → BP l = true → ∀ q ∈ Ag l, noref q = true
 | [], _, _, q, h => by simp [Ag] at h
 | p :: l, hw, hn, q, h => by
  simp only [WFL] at hw
  simp only [BP, Bool.and_eq_true] at hn
  simp only [Ag, List.mem_append] at h
  rcases h with h | h
  ·exact AZ p hw.1 hn.1 q h
  ·exact Dn l hw.2 hn.2 q h
end
end Go.Pe
namespace Go.Pe
def child : PV → Stp → Option PV
 | .st _ fs, .fld i off => if Nat.beq (Ar (fs.take i)) off then fs[i]? else none
 | .iarr k _ l, .idx i s => if Nat.beq s 1 then some (.int k (l.getD i 0)) else none
 | .parr s _ sh l, .idx i s' => if Nat.beq s s' then some (BS sh (l.getD i .undef)) else none
 | _, _ => none
def node (c : PV) : List Stp → Option PV
 | [] => some c
 | s :: r => (child c s).bind fun q => node q r
def Ny (c : PV) : Stp → List Prop
 | .fld _ _ => []
 | .idx i _ => [i < Aa c]
def Ba (c : PV) : List Stp → List Prop
 | [] => []
 | s :: r => Ny c s ++ (match child c s with | some q => Ba q r | none => [])
def setNode (v : PV) (c : PV) : List Stp → Option PV
 | [] => if Nat.beq (size v) (size c) then some v else none
 | .fld i off :: r => match c with
  | .st n fs => if Nat.beq (Ar (fs.take i)) off then (fs[i]?).bind fun q => (setNode v q r).map fun q' => .st n (fs.set i q') else none
  | _ => none
 | .idx i s :: r => match c with
  | .iarr k n l => match r, v with
   | [], .int k' x => if Nat.beq s 1 && IntKind.same k k' then some (.iarr k n (l.set i x)) else none
   | _, _ => none
  | .parr s' n sh l => if Nat.beq s' s then (setNode v (BS sh (l.getD i .undef)) r).bind fun q' => if conf sh q' && noref q' then some (.parr s' n sh (l.set i q')) else none else none
  | _ => none
def All (l : List Prop) : Prop := ∀ p ∈ l, p
theorem All.nil : All [] := fun _ h => by cases h
theorem All.cons {p : Prop} {l : List Prop} (h : p) (hl : All l) : All (p :: l) := fun q hq => by
 rcases List.mem_cons.1 hq with rfl | hq
 ·exact h
 ·exact hl q hq
theorem All.head {p : Prop} {l : List Prop} (h : All (p :: l)) : p := h p (by simp)
theorem All.tail {p : Prop} {l : List Prop} (h : All (p :: l)) : All l := fun q hq => h q (by simp [hq])
theorem All.left {l m : List Prop} (h : All (l ++ m)) : All l := fun q hq => h q (by simp [hq])
theorem All.right {l m : List Prop} (h : All (l ++ m)) : All m := fun q hq => h q (by simp [hq])
theorem All.append {l m : List Prop} (h : All l) (h' : All m) : All (l ++ m) := fun q hq => (List.mem_append.1 hq).elim (h q) (h' q)
theorem AX : ∀ (l m : List PV), Ag (l ++ m) = Ag l ++ Ag m
 | [], m => rfl
 | p :: l, m => by simp only [List.cons_append, Ag, AX l m, List.append_assoc]
theorem CY : ∀ (l m : List PV), Ar (l ++ m) = Ar l + Ar m
 | [], m => by simp [Ar]
 | p :: l, m => by simp only [List.cons_append, Ar, CY l m]; omega
theorem DU {fs : List PV} (hw : WFL fs) {i : Nat} {q : PV} (hi : fs[i]? = some q) :
  Ar (fs.take i) + size q ≤ Ar fs ∧ ∀ j, j < size q → (Ag fs)[Ar (fs.take i) + j]? = (flat q)[j]? := by
 have hlt : i < fs.length := (List.getElem?_eq_some_iff.1 hi).1
 have hq : fs[i] = q := (List.getElem?_eq_some_iff.1 hi).2
 have e : fs = fs.take i ++ (q :: fs.drop (i + 1)) := by rw [← hq, List.getElem_cons_drop, List.take_append_drop]
 have wt : WFL (fs.take i) := Bt fun x hx => AC hw x (List.mem_of_mem_take hx)
 have wq : WF q := AC hw q (List.mem_of_getElem? hi)
 have hs := CY (fs.take i) (q :: fs.drop (i + 1))
 rw [← e] at hs
 simp only [Ar] at hs
 refine ⟨by omega, fun j hj => ?_⟩
 have hf := AX (fs.take i) (q :: fs.drop (i + 1))
 rw [← e] at hf
 rw [hf, List.getElem?_append_right (by rw [AR _ wt]; omega), AR _ wt, Nat.add_sub_cancel_left, Ag, List.getElem?_append_left (by rw [Ae _ wq]; exact hj)]
theorem K7 {fs : List PV} (hw : WFL fs) {i : Nat} {q q' : PV} (hi : fs[i]? = some q) (hq' : WF q') (hs : size q' = size q) :
  WFL (fs.set i q') ∧ Ar (fs.set i q') = Ar fs ∧ (∀ j, j < size q → (Ag (fs.set i q'))[Ar (fs.take i) + j]? = (flat q')[j]?) ∧
   (∀ j, j < Ar (fs.take i) ∨ Ar (fs.take i) + size q ≤ j → (Ag (fs.set i q'))[j]? = (Ag fs)[j]?) := by
 have hlt : i < fs.length := (List.getElem?_eq_some_iff.1 hi).1
 have hq : fs[i] = q := (List.getElem?_eq_some_iff.1 hi).2
 have e : fs = fs.take i ++ (q :: fs.drop (i + 1)) := by rw [← hq, List.getElem_cons_drop, List.take_append_drop]
 have e' : fs.set i q' = fs.take i ++ (q' :: fs.drop (i + 1)) := by rw [List.set_eq_take_append_cons_drop, if_pos hlt]
 have wt : WFL (fs.take i) := Bt fun x hx => AC hw x (List.mem_of_mem_take hx)
 have wd : WFL (fs.drop (i + 1)) := Bt fun x hx => AC hw x (List.mem_of_mem_drop hx)
 have wq : WF q := AC hw q (List.mem_of_getElem? hi)
 have hz := CY (fs.take i) (q :: fs.drop (i + 1))
 have hz' := CY (fs.take i) (q' :: fs.drop (i + 1))
 have hf := AX (fs.take i) (q :: fs.drop (i + 1))
 have hf' := AX (fs.take i) (q' :: fs.drop (i + 1))
 rw [← e] at hz hf
 rw [← e'] at hz' hf'
 simp only [Ar] at hz hz'
 simp only [Ag] at hf hf'
 have lt := AR _ wt
 have lq := Ae _ wq
 have lq' := Ae _ hq'
 refine ⟨Bt fun x hx => ?_, by omega, fun j hj => ?_, fun j hj => ?_⟩
 ·rw [e'] at hx
  rcases List.mem_append.1 hx with hx | hx
  ·exact AC wt x hx
  ·rcases List.mem_cons.1 hx with rfl | hx
   ·exact hq'
   ·exact AC wd x hx
 ·rw [hf', List.getElem?_append_right (by omega), lt, Nat.add_sub_cancel_left, List.getElem?_append_left (by omega)]
 ·rw [hf', hf]
  rcases hj with hj | hj
  ·rw [List.getElem?_append_left (by omega), List.getElem?_append_left (by omega)]
  ·rw [List.getElem?_append_right (by omega), List.getElem?_append_right (by omega), List.getElem?_append_right (by omega), List.getElem?_append_right (by omega), lq, lq', hs]
theorem DZ {s : Nat} {l : List PV} (h : ∀ q ∈ l, size q = s) {i : Nat} (hi : i ≤ l.length) : Ar (l.take i) = i * s := by
 rw [AY fun q hq => h q (List.mem_of_mem_take hq), List.length_take, Nat.min_eq_left hi]
theorem Gj {c q : PV} {s : Stp} (hw : WF c) (hc : child c s = some q) (ho : All (Ny c s)) :
  WF q ∧ s.off + size q ≤ size c ∧ (∀ j, j < size q → (flat c)[s.off + j]? = (flat q)[j]?) ∧ (noref c = true → noref q = true) := by
 cases c <;> cases s <;> simp only [child, reduceCtorEq] at hc
 case st.fld n fs i off =>
  split at hc
  ·rename_i hb
   have hb : Ar (fs.take i) = off := Nat.eq_of_beq_eq_true hb
   simp only [WF] at hw
   obtain ⟨h1, h2⟩ := DU hw.2 hc
   refine ⟨AC hw.2 q (List.mem_of_getElem? hc), ?_, ?_, ?_⟩
   ·show off + size q ≤ n; omega
   ·intro j hj; simp only [Stp.off, flat]; rw [← hb]; exact h2 j hj
   ·intro hn; simp only [noref] at hn; exact Ey hn q (List.mem_of_getElem? hc)
  ·cases hc
 case iarr.idx k n l i s =>
  split at hc
  ·rename_i hb
   have hb : s = 1 := Nat.eq_of_beq_eq_true hb
   simp only [Option.some.injEq] at hc
   simp only [WF] at hw
   have hi : i < l.length := by have := ho.head; simp only [Aa] at this; omega
   subst hb; subst hc
   have hg : l.getD i 0 = l[i] := by simp [hi]
   refine ⟨?_, ?_, ?_, fun _ => rfl⟩
   ·simp only [WF]; rw [hg]; exact hw.2 _ (List.getElem_mem hi)
   ·simp only [Stp.off, size]; omega
   ·intro j hj
    simp only [size] at hj
    have : j = 0 := by omega
    subst this
    simp [Stp.off, flat, hi]
  ·cases hc
 case parr.idx s n sh l i s' =>
  split at hc
  ·rename_i hb
   have hb : s = s' := Nat.eq_of_beq_eq_true hb
   simp only [Option.some.injEq] at hc
   simp only [WF] at hw
   have hi : i < l.length := by have := ho.head; simp only [Aa] at this; omega
   have hg : l.getD i .undef = l[i] := by simp [hi]
   rw [hg, CF _ _ (hw.2.2 _ (List.getElem_mem hi)).2.1] at hc
   subst hb; subst hc
   have hi' : l[i]? = some l[i] := List.getElem?_eq_getElem hi
   obtain ⟨h1, h2⟩ := DU hw.2.1 hi'
   rw [DZ (fun q hq => (hw.2.2 q hq).1) (Nat.le_of_lt hi)] at h1 h2
   rw [AY (fun q hq => (hw.2.2 q hq).1), hw.1] at h1
   exact ⟨AC hw.2.1 _ (List.getElem_mem hi), by simpa only [Stp.off, size] using h1, by simpa only [Stp.off, flat] using h2, fun _ => (hw.2.2 _ (List.getElem_mem hi)).2.2⟩
  ·cases hc
theorem Dg : ∀ (path : List Stp) {c q : PV}, WF c → node c path = some q → All (Ba c path) →
  WF q ∧ Af path + size q ≤ size c ∧ (∀ j, j < size q → (flat c)[Af path + j]? = (flat q)[j]?) ∧ (noref c = true → noref q = true)
 | [], c, q, hw, hn, _ => by
  simp only [node, Option.some.injEq] at hn
  subst hn
  exact ⟨hw, by simp [Af], by simp [Af], id⟩
 | s :: r, c, q, hw, hn, ho => by
  simp only [node, Option.bind_eq_some_iff] at hn
  obtain ⟨m, hm, hn⟩ := hn
  simp only [Ba, hm] at ho
  obtain ⟨a1, a2, a3, a4⟩ := Gj hw hm ho.left
  obtain ⟨b1, b2, b3, b4⟩ := Dg r a1 hn ho.right
  refine ⟨b1, by simp only [Af]; omega, fun j hj => ?_, fun h => b4 (a4 h)⟩
  simp only [Af]
  rw [Nat.add_assoc, a3 _ (by omega), b3 j hj]
theorem O1 {fs : List PV} {i : Nat} {q : PV} (h : BP fs = true) (hq : noref q = true) : BP (fs.set i q) = true :=
 Hm fun x hx => by
  rcases List.mem_or_eq_of_mem_set hx with hx | rfl
  ·exact Ey h x hx
  ·exact hq
def SetAt (v c c' : PV) (o : Nat) : Prop :=
 WF c' ∧ size c' = size c ∧ o + size v ≤ size c ∧ (∀ j, j < size v → (flat c')[o + j]? = (flat v)[j]?) ∧
  (∀ j, j < o ∨ o + size v ≤ j → (flat c')[j]? = (flat c)[j]?) ∧ (noref c = true → noref v = true → noref c' = true)
theorem CX (v : PV) (hv : WF v) : ∀ (path : List Stp) {c c' : PV}, WF c → setNode v c path = some c' → All (Ba c path) → SetAt v c c' (Af path) := by
 intro path
 induction path with
 | nil =>
  intro c c' hw h _
  simp only [setNode] at h
  split at h
  ·rename_i hb
   have hb : size v = size c := Nat.eq_of_beq_eq_true hb
   simp only [Option.some.injEq] at h
   subst h
   refine ⟨hv, hb, by simp [Af, hb], fun j _ => by simp [Af], fun j hj => ?_, fun _ h => h⟩
   simp only [Af] at hj
   have l1 := Ae _ hv
   have l2 := Ae _ hw
   rw [List.getElem?_eq_none (by omega), List.getElem?_eq_none (by omega)]
  ·cases h
 | cons s r ih =>
  intro c c' hw h ho
  cases s with
  | fld i off =>
   simp only [setNode] at h
   split at h
   ·rename_i n fs
    split at h
    ·rename_i hb
     have hb' : Ar (fs.take i) = off := Nat.eq_of_beq_eq_true hb
     simp only [Option.bind_eq_some_iff, Option.map_eq_some_iff] at h
     obtain ⟨q, hq, q', hq', rfl⟩ := h
     simp only [WF] at hw
     have hc : child (.st n fs) (.fld i off) = some q := by simp only [child, hb, if_true, hq]
     simp only [Ba, hc] at ho
     obtain ⟨a1, a2, a3, a4, a5, a6⟩ := ih (AC hw.2 q (List.mem_of_getElem? hq)) hq' ho.right
     obtain ⟨b1, b2, b3, b4⟩ := K7 hw.2 hq a1 a2
     have hle := (DU hw.2 hq).1
     have hold := (DU hw.2 hq).2
     subst hb'
     refine ⟨by simp only [WF]; exact ⟨by omega, b1⟩, rfl, ?_, fun j hj => ?_, fun j hj => ?_, fun hn hnv => ?_⟩
     ·show Ar (fs.take i) + Af r + size v ≤ n; omega
     ·simp only [flat, Af, Stp.off]
      rw [Nat.add_assoc, b3 _ (by omega), a4 j hj]
     ·simp only [Af, Stp.off] at hj
      simp only [flat]
      by_cases h1 : j < Ar (fs.take i) ∨ Ar (fs.take i) + size q ≤ j
      ·exact b4 j h1
      ·obtain ⟨j', rfl⟩ : ∃ j', j = Ar (fs.take i) + j' := ⟨j - Ar (fs.take i), by omega⟩
       rw [b3 _ (by omega), hold _ (by omega), a5 j' (by omega)]
     ·simp only [noref] at hn ⊢
      exact O1 hn (a6 (Ey hn q (List.mem_of_getElem? hq)) hnv)
    ·cases h
   ·cases h
  | idx i s =>
   simp only [setNode] at h
   split at h
   ·rename_i k n l
    split at h
    ·rename_i k' x
     split at h
     ·rename_i hb
      simp only [Bool.and_eq_true] at hb
      have hs : s = 1 := Nat.eq_of_beq_eq_true hb.1
      have hk := IntKind.same_eq hb.2
      simp only [Option.some.injEq] at h
      subst hs; subst hk; subst h
      simp only [WF] at hw hv
      have hi : i < l.length := by have := ho.left.head; simp only [Aa] at this; omega
      refine ⟨?_, rfl, ?_, fun j hj => ?_, fun j hj => ?_, fun _ _ => rfl⟩
      ·simp only [WF, List.length_set]
       refine ⟨hw.1, fun y hy => ?_⟩
       rcases List.mem_or_eq_of_mem_set hy with hy | rfl
       ·exact hw.2 y hy
       ·exact hv
      ·simp only [Af, Stp.off, size]; omega
      ·simp only [size] at hj
       have : j = 0 := by omega
       subst this
       simp [flat, Af, Stp.off, hi]
      ·simp only [Af, Stp.off, size, Nat.mul_one, Nat.add_zero] at hj
       simp only [flat, List.getElem?_map]
       rw [List.getElem?_set_ne (by omega)]
     ·cases h
    ·cases h
   ·rename_i s' n sh l
    split at h
    ·rename_i hb
     have hs : s' = s := Nat.eq_of_beq_eq_true hb
     simp only [Option.bind_eq_some_iff] at h
     obtain ⟨q', hq', h⟩ := h
     split at h
     ·rename_i hcn
      simp only [Bool.and_eq_true] at hcn
      simp only [Option.some.injEq] at h
      subst h; subst hs
      have hw0 := hw
      simp only [WF] at hw
      have hi : i < l.length := by have := ho.left.head; simp only [Aa] at this; omega
      have hg : l.getD i .undef = l[i] := by simp [hi]
      have hq : l[i]? = some l[i] := List.getElem?_eq_getElem hi
      have hmem := hw.2.2 _ (List.getElem_mem hi)
      have hex : BS sh (l.getD i .undef) = l[i] := by rw [hg, CF _ _ hmem.2.1]
      rw [hex] at hq'
      have hb1 : Nat.beq s' s' = true := hb
      have hc : child (.parr s' n sh l) (.idx i s') = some l[i] := by simp only [child, hb1, if_true, hex]
      simp only [Ba, hc] at ho
      obtain ⟨a1, a2, a3, a4, a5, a6⟩ := ih (AC hw.2.1 _ (List.getElem_mem hi)) hq' ho.right
      obtain ⟨b1, b2, b3, b4⟩ := K7 hw.2.1 hq a1 a2
      have hle := (DU hw.2.1 hq).1
      have hold := (DU hw.2.1 hq).2
      have htk := DZ (fun q hq => (hw.2.2 q hq).1) (Nat.le_of_lt hi)
      have hall := AY fun q hq => (hw.2.2 q hq).1
      rw [htk] at b3 b4 hle hold
      rw [hw.1] at hall
      rw [hall] at hle
      refine ⟨?_, rfl, ?_, fun j hj => ?_, fun j hj => ?_, fun _ _ => rfl⟩
      ·simp only [WF, List.length_set]
       refine ⟨hw.1, b1, fun y hy => ?_⟩
       rcases List.mem_or_eq_of_mem_set hy with hy | rfl
       ·exact hw.2.2 y hy
       ·exact ⟨by rw [a2, hmem.1], hcn.1, hcn.2⟩
      ·show i * s' + Af r + size v ≤ n * s'; omega
      ·simp only [flat, Af, Stp.off]
       rw [Nat.add_assoc, b3 _ (by omega), a4 j hj]
      ·simp only [Af, Stp.off] at hj
       simp only [flat]
       by_cases h1 : j < i * s' ∨ i * s' + size l[i] ≤ j
       ·exact b4 j h1
       ·obtain ⟨j', rfl⟩ : ∃ j', j = i * s' + j' := ⟨j - i * s', by omega⟩
        rw [b3 _ (by omega), hold _ (by omega), a5 j' (by omega)]
     ·cases h
    ·cases h
   ·cases h
end Go.Pe
namespace Go.Pe
abbrev T2 := Nat → Nat → Prop
inductive RC (w : World) (T : T2) : Value → PV → Prop
 | undef (v : Value) (h : v.oneCell' = true) : RC w T v .undef
 | int (k : IntKind) (n : Int) : RC w T (.int k n) (.int k n)
 | bool (b : Bool) : RC w T (.bool b) (.bool b)
 | str (s : ByteArray) (h : s.size ≤ maxLen) : RC w T (.string s) (.str s)
 | nilp : RC w T (.pointer none) .nilp
 | fv (v : Value) (h : v.oneCell' = true) : RC w T v (.fv v)
 | fb (f : Nat) (p : PV) (cs : Array Value) (hs : cs.size = size p) (h : ∀ (j : Nat) (q : PV) (u : Value), (flat p)[j]? = some q → cs[j]? = some u → RC w T u q) : RC w T (.func (.func f) #[.agg cs] #[]) (.fb f p)
 | vec0 (A : Option Addr) (c : Nat) (nl : Bool) (p : PV) (h0 : Aa p = 0) (hn : nl = A.isNone) (hc : A = none → c = 0) : RC w T (.slice A 0 c) (.vec nl p)
 | vec1 (b o n c : Nat) (p : PV) (us : Nat → Value) (hn : Aa p = n) (hc : n ≤ c) (hm : c ≤ maxLen)
   (h1 : ∀ j q, (flat p)[j]? = some q → T b (o + j) ∧ w.cell? ⟨b, o + j, none⟩ = some (us j)) (h2 : ∀ j q, (flat p)[j]? = some q → RC w T (us j) q) : RC w T (.slice (some ⟨b, o, none⟩) n c) (.vec false p)
 | cptr (b o : Nat) (p : PV) (path : List Stp) (us : Nat → Value)
   (h1 : ∀ j q, (flat p)[j]? = some q → T b (o + j) ∧ w.cell? ⟨b, o + j, none⟩ = some (us j)) (h2 : ∀ j q, (flat p)[j]? = some q → RC w T (us j) q) : RC w T (.pointer (some ⟨b, o + Af path, none⟩)) (.cptr p path)
def Ay (w : World) (T : T2) (w' : World) (T' : T2) : Prop := ∀ b o u, T b o → w.cell? ⟨b, o, none⟩ = some u → T' b o ∧ w'.cell? ⟨b, o, none⟩ = some u
theorem RC.keep {w w' : World} {T T' : T2} (hk : Ay w T w' T') {v : Value} {p : PV} (h : RC w T v p) : RC w' T' v p := by
 induction h with
 | undef v h => exact .undef v h
 | int k n => exact .int k n
 | bool b => exact .bool b
 | str s h => exact .str s h
 | nilp => exact .nilp
 | fv v h => exact .fv v h
 | fb f p cs hs h ih => exact .fb f p cs hs ih
 | vec0 A c nl p h0 hn hc => exact .vec0 A c nl p h0 hn hc
 | vec1 b o n c p us hn hc hm h1 h2 ih => exact .vec1 b o n c p us hn hc hm (fun j q hq => hk _ _ _ (h1 j q hq).1 (h1 j q hq).2) ih
 | cptr b o p path us h1 h2 ih => exact .cptr b o p path us (fun j q hq => hk _ _ _ (h1 j q hq).1 (h1 j q hq).2) ih
structure Pl where
 g : Nat
 off : Nat
 ext : Nat
structure Row where
 c : PV
 frz : Bool
abbrev Pls := Nat → Option Pl
abbrev Hp := Nat → Option Row
def upd {α : Type} (f : Nat → Option α) (i : Nat) (x : Option α) : Nat → Option α := fun j => if j = i then x else f j
theorem upd_same {α : Type} (f : Nat → Option α) (i : Nat) (x : Option α) : upd f i x i = x := by simp [upd]
theorem upd_ne {α : Type} (f : Nat → Option α) {i j : Nat} (x : Option α) (h : j ≠ i) : upd f i x j = f j := by simp [upd, h]
def Mut (ρ : Pls) (hp : Hp) : T2 := fun b o => ∃ id row pl, hp id = some row ∧ row.frz = false ∧ ρ id = some pl ∧ pl.g = b ∧ pl.off ≤ o ∧ o < pl.off + pl.ext
def Kv (f g off : Nat) : Value := if Nat.beq f 1000000 then .map (some g) else .func (.func f) #[] #[.pointer (some ⟨g, off, none⟩)]
theorem PS (f g off : Nat) : (Kv f g off).oneCell' = true := by unfold Kv; split <;> rfl
def RO (w : World) (T : T2) (ρ : Pls) (v : Value) : PV → Prop
 | .at id path => ∃ pl, ρ id = some pl ∧ v = .pointer (some ⟨pl.g, pl.off + Af path, none⟩)
 | .ref id path s off n => ∃ pl A c, ρ id = some pl ∧ v = .slice (some A) n c ∧ n ≤ c ∧ c ≤ maxLen ∧ (0 < c → A = ⟨pl.g, pl.off + (Af path + off * s), none⟩ ∧ Af path + off * s + c * s ≤ pl.ext)
 | .fn f id => ∃ pl, ρ id = some pl ∧ v = Kv f pl.g pl.off
 | .fn2 f i j => ∃ pl pl', ρ i = some pl ∧ ρ j = some pl' ∧ v = .func (.func f) #[] #[.pointer (some ⟨pl.g, pl.off, none⟩), .pointer (some ⟨pl'.g, pl'.off, none⟩)]
 | p => RC w T v p
def RA (w : World) (T : T2) (ρ : Pls) (v : Value) (p : PV) : Prop :=
 ∃ cs : Array Value, v = .agg cs ∧ cs.size = size p ∧ ∀ (j : Nat) (q : PV) (u : Value), (flat p)[j]? = some q → cs[j]? = some u → RO w T ρ u q
def RN (w : World) (T : T2) (ρ : Pls) (v : Value) (p : PV) : Prop := if isAgg p then RA w T ρ v p else RO w T ρ v p
def RV (w : World) (T : T2) (ρ : Pls) (v : Value) (p : PV) : Prop :=
 WF p ∧ match p with
  | .tup ps => ∃ vs : Array Value, v = .tuple vs ∧ vs.size = ps.length ∧ ∀ (j : Nat) (q : PV) (u : Value), ps[j]? = some q → vs[j]? = some u → RN w T ρ u q
  | p => RN w T ρ v p
def Ext (ρ ρ' : Pls) : Prop := ∀ id pl, ρ id = some pl → ρ' id = some pl
theorem RO.keep {w w' : World} {T T' : T2} {ρ ρ' : Pls} (hk : Ay w T w' T') (he : Ext ρ ρ') {v : Value} {p : PV} (h : RO w T ρ v p) : RO w' T' ρ' v p := by
 cases p <;> simp only [RO] at h ⊢
 case «at» => obtain ⟨pl, h1, h2⟩ := h; exact ⟨pl, he _ _ h1, h2⟩
 case ref => obtain ⟨pl, A, c, h1, h2⟩ := h; exact ⟨pl, A, c, he _ _ h1, h2⟩
 case fn => obtain ⟨pl, h1, h2⟩ := h; exact ⟨pl, he _ _ h1, h2⟩
 case fn2 => obtain ⟨pl, pl', h1, h2, h3⟩ := h; exact ⟨pl, pl', he _ _ h1, he _ _ h2, h3⟩
 all_goals exact h.keep hk
theorem RA.keep {w w' : World} {T T' : T2} {ρ ρ' : Pls} (hk : Ay w T w' T') (he : Ext ρ ρ') {v : Value} {p : PV} (h : RA w T ρ v p) : RA w' T' ρ' v p := by
 obtain ⟨cs, h1, h2, h3⟩ := h
 exact ⟨cs, h1, h2, fun j q u hq hu => (h3 j q u hq hu).keep hk he⟩
theorem RN.keep {w w' : World} {T T' : T2} {ρ ρ' : Pls} (hk : Ay w T w' T') (he : Ext ρ ρ') {v : Value} {p : PV} (h : RN w T ρ v p) : RN w' T' ρ' v p := by
 unfold RN at *
 split at h
 ·rename_i hp; rw [if_pos hp]; exact h.keep hk he
 ·rename_i hp; rw [if_neg hp]; exact h.keep hk he
theorem RV.keep {w w' : World} {T T' : T2} {ρ ρ' : Pls} (hk : Ay w T w' T') (he : Ext ρ ρ') {v : Value} {p : PV} (h : RV w T ρ v p) : RV w' T' ρ' v p := by
 refine ⟨h.1, ?_⟩
 have h2 := h.2
 cases p
 case tup ps =>
  obtain ⟨vs, a, b, c⟩ := h2
  exact ⟨vs, a, b, fun j q u hq hu => (c j q u hq hu).keep hk he⟩
 all_goals exact RN.keep hk he h2
theorem RO.closed {w : World} {T : T2} {ρ : Pls} {v : Value} {p : PV} (hn : noref p = true) (h : RO w T ρ v p) : RC w T v p := by
 cases p <;> simp only [RO, noref, reduceCtorEq] at h hn ⊢ <;> first | exact h | contradiction
theorem RO.Be {w : World} {T : T2} {ρ : Pls} {v : Value} {p : PV} (h : RC w T v p) : RO w T ρ v p := by
 cases h <;> simp only [RO] <;> constructor <;> assumption
theorem RC.one {w : World} {T : T2} {v : Value} {p : PV} (h : RC w T v p) : v.oneCell' = true := by cases h <;> first | rfl | assumption
theorem RO.one {w : World} {T : T2} {ρ : Pls} {v : Value} {p : PV} (h : RO w T ρ v p) : v.oneCell' = true := by
 cases p <;> simp only [RO] at h
 case «at» => obtain ⟨_, _, rfl⟩ := h; rfl
 case ref => obtain ⟨_, _, _, _, rfl, _⟩ := h; rfl
 case fn => obtain ⟨_, _, rfl⟩ := h; exact PS _ _ _
 case fn2 => obtain ⟨_, _, _, _, rfl⟩ := h; rfl
 all_goals exact h.one
theorem cells_one {v : Value} (h : v.oneCell' = true) : v.cells = #[v] := by cases v <;> first | rfl | (simp [Value.oneCell'] at h)
theorem RV.Ap {w : World} {T : T2} {ρ : Pls} {v : Value} {p : PV} (hl : leaf p = true) (ht : ∀ vs, p ≠ .tup vs) (hw : WF p) (h : RO w T ρ v p) : RV w T ρ v p := by
 refine ⟨hw, ?_⟩
 cases p <;> simp only [Pe.leaf, reduceCtorEq] at hl <;> first | exact absurd rfl (ht _) | (simp only [RN, isAgg, Bool.false_eq_true, if_false]; exact h)
theorem RV.AJ {w : World} {T : T2} {ρ : Pls} {v : Value} {p : PV} (hl : Pe.leaf p = true) (ht : ∀ vs, p ≠ .tup vs) (h : RV w T ρ v p) : RO w T ρ v p := by
 have h2 := h.2
 cases p <;> simp only [Pe.leaf, reduceCtorEq] at hl <;> first | exact absurd rfl (ht _) | (simpa only [RN, isAgg, Bool.false_eq_true, if_false] using h2)
theorem RV.Hz {w : World} {T : T2} {ρ : Pls} {v : Value} {p : PV} (ha : isAgg p = true) (hw : WF p) (h : RA w T ρ v p) : RV w T ρ v p := by
 refine ⟨hw, ?_⟩
 cases p <;> simp only [isAgg, reduceCtorEq] at ha <;> (simp only [RN, isAgg, if_true]; exact h)
theorem RV.DF {w : World} {T : T2} {ρ : Pls} {v : Value} {p : PV} (ha : isAgg p = true) (h : RV w T ρ v p) : RA w T ρ v p := by
 have h2 := h.2
 cases p <;> simp only [isAgg, reduceCtorEq] at ha <;> (simpa only [RN, isAgg, if_true] using h2)
theorem RV.of_RN {w : World} {T : T2} {ρ : Pls} {v : Value} {p : PV} (hw : WF p) (ht : ∀ vs, p ≠ .tup vs) (h : RN w T ρ v p) : RV w T ρ v p := by
 refine ⟨hw, ?_⟩
 cases p <;> first | exact absurd rfl (ht _) | exact h
theorem RV.to_RN {w : World} {T : T2} {ρ : Pls} {v : Value} {p : PV} (ht : ∀ vs, p ≠ .tup vs) (h : RV w T ρ v p) : RN w T ρ v p := by
 have h2 := h.2
 cases p <;> first | exact absurd rfl (ht _) | exact h2
theorem RV.Kh {w : World} {T : T2} {ρ : Pls} {v : Value} {p : PV} (ht : ∀ vs, p ≠ .tup vs) (h : RV w T ρ v p) :
  v.cells.size = size p ∧ ∀ (j : Nat) (q : PV) (u : Value), (flat p)[j]? = some q → v.cells[j]? = some u → RO w T ρ u q := by
 cases ha : isAgg p with
 | true =>
  obtain ⟨cs, rfl, h1, h2⟩ := h.DF ha
  exact ⟨h1, h2⟩
 | false =>
  have hl : Pe.leaf p = true := by rw [Pe.leaf_agg, ha]; rfl
  have hro := h.AJ hl ht
  have hs : size p = 1 := by cases p <;> simp only [Pe.leaf, reduceCtorEq] at hl <;> rfl
  have hc : v.cells = #[v] := cells_one hro.one
  refine ⟨by rw [hc, hs]; rfl, fun j q u hq hu => ?_⟩
  rw [Ed hl] at hq
  rw [hc] at hu
  have : j = 0 := by
   have := (List.getElem?_eq_some_iff.1 hq).1
   simp at this; omega
  subst this
  simp at hq hu
  subst hq; subst hu
  exact hro
def AO : PV → Bool | .tup _ => true | _ => false
def valOf : PV → Option Value
 | .int k n => some (.int k n)
 | .bool b => some (.bool b)
 | .str s => some (.string s)
 | .iarr k _ l => some (.agg (l.map (Value.int k)).toArray)
 | _ => none
def DR : PV → Obj → Prop
 | .tup [.tup [.parr _ _ _ ks, .iarr k _ l]], .map es _ => ks.map valOf = es.toList.map (fun e => some e.key) ∧ es.toList.map (fun e => e.val) = l.map (Value.int k)
 | .tup [.str s, .int .i64 n], .stringIter s' pos => s' = s ∧ n = (pos : Int) ∧ s.size ≤ maxLen
 | _, _ => False
def Kt : Obj → Bool
 | .map .. | .stringIter .. => true
 | _ => false
theorem DR.mov {c : PV} {o : Obj} (h : DR c o) : Kt o = true := by
 unfold DR at h
 split at h <;> first | rfl | exact h.elim
def OD (w : World) (pl : Pl) (c : PV) : Prop := AO c = true ∧ WF c ∧ noref c = true ∧ pl.off = 0 ∧ pl.ext = 1 ∧ ∃ o, w.heap[pl.g]? = some o ∧ DR c o
def OB (w : World) (T : T2) (ρ : Pls) (pl : Pl) (row : Row) : Prop :=
 ∃ (cs : Array Value) (t : TypeId) (fz : Nat × Nat), w.heap[pl.g]? = some (.cells cs t fz) ∧ pl.off + pl.ext ≤ cs.size ∧ size row.c ≤ pl.ext ∧ WF row.c ∧
  (∀ j, j < pl.ext → (decide (fz.1 ≤ pl.off + j) && decide (pl.off + j < fz.2)) = false) ∧ (∀ (j : Nat) (q : PV) (u : Value), (flat row.c)[j]? = some q → cs[pl.off + j]? = some u → RO w T ρ u q)
def Ao (w : World) (T : T2) (ρ : Pls) (pl : Pl) (row : Row) : Prop := OD w pl row.c ∨ OB w T ρ pl row
theorem Ao.cell {w : World} {T : T2} {ρ : Pls} {pl : Pl} {row : Row} (h : Ao w T ρ pl row) (ht : AO row.c = false) : OB w T ρ pl row := by
 rcases h with h | h
 ·have h1 := h.1
  rw [ht] at h1; cases h1
 ·exact h
theorem Ao.wf {w : World} {T : T2} {ρ : Pls} {pl : Pl} {row : Row} (h : Ao w T ρ pl row) : WF row.c := by
 rcases h with h | ⟨cs, t, fz, _, _, _, hwf, _⟩
 ·exact h.2.1
 ·exact hwf
structure HR (w : World) (T : T2) (ρ : Pls) (hp : Hp) : Prop where
 row : ∀ id row, hp id = some row → ∃ pl, ρ id = some pl ∧ Ao w T ρ pl row
 sep : ∀ id id' row row' pl pl', id ≠ id' → hp id = some row → row.frz = false → hp id' = some row' → ρ id = some pl → ρ id' = some pl' → pl.g = pl'.g →
  ∀ o, pl.off ≤ o → o < pl.off + pl.ext → pl'.off ≤ o → o < pl'.off + pl'.ext → False
theorem AB {w : World} {b : Nat} {cs : Array Value} {t : TypeId} {fz : Nat × Nat} (h : w.heap[b]? = some (.cells cs t fz)) (o : Nat) : w.cell? ⟨b, o, none⟩ = cs[o]? := by
 simp [World.cell?, h]
theorem CB {w : World} {b o : Nat} {u : Value} (h : w.cell? ⟨b, o, none⟩ = some u) : ∃ cs t fz, w.heap[b]? = some (.cells cs t fz) ∧ cs[o]? = some u := by
 simp only [World.cell?] at h
 split at h
 ·rename_i c t fz he; exact ⟨c, t, fz, he, by simpa using h⟩
 ·cases h
theorem Dt {w : World} {b o : Nat} {u : Value} (h : w.cell? ⟨b, o, none⟩ = some u) : b < w.heap.size := by
 obtain ⟨cs, t, fz, he, _⟩ := CB h
 exact (Array.getElem?_eq_some_iff.1 he).1
def Bd (M : T2) (b : Nat) (x y : Option Obj) : Prop :=
 x = y ∨ (∃ o o', x = some o ∧ y = some o' ∧ Kt o = true ∧ Kt o' = true ∧ M b 0) ∨ ∃ cs cs' t fz, x = some (.cells cs t fz) ∧ y = some (.cells cs' t fz) ∧ cs'.size = cs.size ∧ ∀ o, ¬ M b o → cs'[o]? = cs[o]?
structure FR (M : T2) (w w' : World) : Prop where
 os : w'.os = w.os
 tape : w'.tape = w.tape
 output : w'.output = w.output
 size : w.heap.size ≤ w'.heap.size
 block : ∀ b, b < w.heap.size → Bd M b w.heap[b]? w'.heap[b]?
theorem Bd.trans {M : T2} {b : Nat} {x y z : Option Obj} (h : Bd M b x y) (h' : Bd M b y z) : Bd M b x z := by
 rcases h with rfl | ⟨o, o', rfl, rfl, m1, m2, m3⟩ | ⟨cs, cs', t, fz, rfl, rfl, hs, hc⟩
 ·exact h'
 ·rcases h' with rfl | ⟨p, p', he, rfl, n1, n2, n3⟩ | ⟨ds, ds', t', fz', he, rfl, hs', hc'⟩
  ·exact .inr (.inl ⟨o, o', rfl, rfl, m1, m2, m3⟩)
  ·exact .inr (.inl ⟨o, p', rfl, rfl, m1, n2, m3⟩)
  ·simp only [Option.some.injEq] at he
   subst he
   cases m2
 ·rcases h' with rfl | ⟨p, p', he, rfl, n1, n2, n3⟩ | ⟨ds, ds', t', fz', he, rfl, hs', hc'⟩
  ·exact .inr (.inr ⟨cs, cs', t, fz, rfl, rfl, hs, hc⟩)
  ·simp only [Option.some.injEq] at he
   subst he
   cases n1
  ·simp only [Option.some.injEq, Obj.cells.injEq] at he
   obtain ⟨rfl, rfl, rfl⟩ := he
   exact .inr (.inr ⟨cs, ds', t, fz, rfl, rfl, hs'.trans hs, fun o ho => (hc' o ho).trans (hc o ho)⟩)
theorem Bd.mono {M M' : T2} {b : Nat} {x y : Option Obj} (hm : ∀ o, M b o → M' b o) (h : Bd M b x y) : Bd M' b x y := by
 rcases h with rfl | ⟨o, o', rfl, rfl, m1, m2, m3⟩ | ⟨cs, cs', t, fz, rfl, rfl, hs, hc⟩
 ·exact .inl rfl
 ·exact .inr (.inl ⟨o, o', rfl, rfl, m1, m2, hm _ m3⟩)
 ·exact .inr (.inr ⟨cs, cs', t, fz, rfl, rfl, hs, fun o ho => hc o fun h => ho (hm o h)⟩)
theorem FR.refl (M : T2) (w : World) : FR M w w := ⟨rfl, rfl, rfl, Nat.le_refl _, fun _ _ => .inl rfl⟩
theorem FR.trans {M M' : T2} {a b c : World} (h : FR M a b) (k : FR M' b c) (hm : ∀ x o, x < a.heap.size → M' x o → M x o) : FR M a c :=
 ⟨k.os.trans h.os, k.tape.trans h.tape, k.output.trans h.output, Nat.le_trans h.size k.size, fun x hx =>
  (h.block x hx).trans ((k.block x (Nat.lt_of_lt_of_le hx h.size)).mono fun o => hm x o hx)⟩
theorem FR.drew {M : T2} {a w : World} (h : FR M a w) (n : Nat) : FR M a { w with drawn := n } := ⟨h.os, h.tape, h.output, h.size, h.block⟩
def isFix (o : Obj) : Prop := (∀ c t f, o ≠ Obj.cells c t f) ∧ Kt o = false
def JH (w w' : World) : Prop := ∀ (b : Nat) (o : Obj), w.heap[b]? = some o → isFix o → w'.heap[b]? = some o
theorem JH.refl (w : World) : JH w w := fun _ _ h _ => h
theorem FR.objs {M : T2} {w w' : World} (h : FR M w w') : JH w w' := fun b o hb hn => by
 rcases h.block b (Array.getElem?_eq_some_iff.1 hb).1 with e | ⟨p, p', e1, _, m1, _⟩ | ⟨cs, cs', t, fz, e1, _⟩
 ·rw [← e]; exact hb
 ·rw [hb] at e1
  have h2 := hn.2
  rw [Option.some.inj e1, m1] at h2
  cases h2
 ·rw [hb] at e1; exact absurd (Option.some.inj e1) (hn.1 _ _ _)
structure St where
 fr : Nat → PV
 hp : Hp
structure Ctx where
 P : Program
 G : Nat → Option PV
 w0 : World
 T0 : T2
 M0 : T2
 nt : Nat
 D : List Deferred
 X : World → T2 → Prop
 hX : ∀ w T w' T', Ay w T w' T' → JH w w' → X w T → X w' T'
def Tc (C : Ctx) (ρ : Pls) (hp : Hp) : T2 := fun b o => (C.T0 b o ∨ C.M0 b o ∨ C.w0.heap.size ≤ b) ∧ ¬ Mut ρ hp b o
structure Ac (C : Ctx) (F : Nat → Prop) (ρ : Pls) (s : St) (a : Act) (w : World) : Prop where
 defers : a.defers = C.D
 size : a.tmps.size = C.nt
 fr : ∀ i, s.fr i ≠ .undef → i < C.nt ∧ RV w (Tc C ρ s.hp) ρ (a.tmps.getD i Go.undef) (s.fr i)
 heap : HR w (Tc C ρ s.hp) ρ s.hp
 free : ∀ id, F id → ρ id = none ∧ s.hp id = none
 inn : ∀ id row pl, s.hp id = some row → ρ id = some pl → ∀ j, j < pl.ext → C.w0.heap.size ≤ pl.g ∨ C.M0 pl.g (pl.off + j)
 frame : FR C.M0 C.w0 w
 glob : ∀ g c, C.G g = some c → WF c ∧ noref c = true ∧ RC w (Tc C ρ s.hp) (.pointer (some ⟨g, 0, none⟩)) (.cptr c [])
 amb : C.X w (Tc C ρ s.hp)
end Go.Pe
namespace Go.Pe
def St.put (s : St) (dst : Option Tmp) (p : PV) : St :=
 match dst with
 | some d => { s with fr := fun i => if i = d then p else s.fr i }
 | none => s
theorem Ay.refl (w : World) (T : T2) : Ay w T w T := fun _ _ _ h h' => ⟨h, h'⟩
theorem Ext.refl (ρ : Pls) : Ext ρ ρ := fun _ _ h => h
theorem Ac.put {C : Ctx} {F : Nat → Prop} {ρ : Pls} {s : St} {a : Act} {w : World} (h : Ac C F ρ s a w) {dst : Option Tmp} {v : Value} {p : PV}
  (hd : ∀ d, dst = some d → d < C.nt) (hv : p ≠ .undef → RV w (Tc C ρ s.hp) ρ v p) : Ac C F ρ (s.put dst p) (a.put dst v) w := by
 cases dst with
 | none => exact h
 | some d =>
  refine ⟨h.defers, by simp [Act.put, h.size], fun i hi => ?_, h.heap, h.free, h.inn, h.frame, h.glob, h.amb⟩
  simp only [St.put] at hi ⊢
  by_cases he : i = d
  ·subst he
   have hlt := hd i rfl
   simp only [if_true] at hi ⊢
   refine ⟨hlt, ?_⟩
   have : (a.put (some i) v).tmps.getD i Go.undef = v := by
    have hs := h.size
    simp [Act.put, Array.getD, hs, hlt]
   rw [this]
   exact hv hi
  ·simp only [he, if_false] at hi ⊢
   obtain ⟨h1, h2⟩ := h.fr i hi
   refine ⟨h1, ?_⟩
   have : (a.put (some d) v).tmps.getD i Go.undef = a.tmps.getD i Go.undef := by
    have hne : d ≠ i := fun e => he e.symm
    simp [Act.put, Array.getD_eq_getD_getElem?, Array.getElem?_setIfInBounds_ne hne]
   rw [this]
   exact h2
theorem Ao.keep {w w' : World} {T T' : T2} {ρ ρ' : Pls} (hk : Ay w T w' T') (he : Ext ρ ρ') {pl : Pl} {row : Row} (hb : w'.heap[pl.g]? = w.heap[pl.g]?) (h : Ao w T ρ pl row) : Ao w' T' ρ' pl row := by
 rcases h with ⟨o1, o2, o3, o4, o5, o, o6, o7⟩ | ⟨cs, t, fz, h1, h2, h3, h4, h5, h6⟩
 ·exact .inl ⟨o1, o2, o3, o4, o5, o, hb.trans o6, o7⟩
 ·exact .inr ⟨cs, t, fz, hb.trans h1, h2, h3, h4, h5, fun j q u hq hu => (h6 j q u hq hu).keep hk he⟩
theorem Ao.lt {w : World} {T : T2} {ρ : Pls} {pl : Pl} {row : Row} (h : Ao w T ρ pl row) : pl.g < w.heap.size := by
 rcases h with ⟨_, _, _, _, _, o, h1, _⟩ | ⟨cs, t, fz, h1, _⟩
 ·exact (Array.getElem?_eq_some_iff.1 h1).1
 ·exact (Array.getElem?_eq_some_iff.1 h1).1
theorem Ac.drew {C : Ctx} {F : Nat → Prop} {ρ : Pls} {s : St} {a : Act} {w : World} (h : Ac C F ρ s a w) (n : Nat) : Ac C F ρ s a { w with drawn := n } := by
 have hk : Ay w (Tc C ρ s.hp) { w with drawn := n } (Tc C ρ s.hp) := fun _ _ _ h h' => ⟨h, h'⟩
 refine ⟨h.defers, h.size, fun i hi => ⟨(h.fr i hi).1, (h.fr i hi).2.keep hk (Ext.refl _)⟩, ⟨fun id row hr => ?_, h.heap.sep⟩, h.free, h.inn, h.frame.drew n, fun g c hg => ⟨(h.glob g c hg).1, (h.glob g c hg).2.1, (h.glob g c hg).2.2.keep hk⟩, C.hX _ _ _ _ hk (fun _ _ h _ => h) h.amb⟩
 obtain ⟨pl, h1, h2⟩ := h.heap.row id row hr
 exact ⟨pl, h1, h2.keep hk (Ext.refl _) rfl⟩
theorem alloc_old (w : World) (o : Obj) {b : Nat} (h : b < w.heap.size) : (w.alloc o).heap[b]? = w.heap[b]? := by
 show (w.heap.push o)[b]? = _
 rw [Array.getElem?_push, if_neg (by omega)]
theorem DX (w : World) (o : Obj) : (w.alloc o).heap[w.heap.size]? = some o := by
 show (w.heap.push o)[w.heap.size]? = _
 rw [Array.getElem?_push, if_pos rfl]
structure Ct (w w' : World) (cs : Array Value) (t : TypeId) (fz : Nat × Nat) : Prop where
 os : w'.os = w.os
 tape : w'.tape = w.tape
 output : w'.output = w.output
 size : w'.heap.size = w.heap.size + 1
 old : ∀ b, b < w.heap.size → w'.heap[b]? = w.heap[b]?
 new : w'.heap[w.heap.size]? = some (.cells cs t fz)
theorem Ct.alloc (w : World) (cs : Array Value) (t : TypeId) (fz : Nat × Nat) : Ct w (w.alloc (.cells cs t fz)) cs t fz :=
 ⟨rfl, rfl, rfl, by simp, fun b hb => alloc_old w _ hb, DX w _⟩
theorem Ct.JS (w : World) (n : Nat) (cs : Array Value) (t : TypeId) (fz : Nat × Nat) : Ct w (World.alloc { w with drawn := n } (.cells cs t fz)) cs t fz :=
 ⟨rfl, rfl, rfl, by simp, fun b hb => alloc_old { w with drawn := n } _ hb, DX { w with drawn := n } _⟩
theorem FR.EY {M : T2} {a w w' : World} {cs : Array Value} {t : TypeId} {fz : Nat × Nat} (h : FR M a w) (hn : Ct w w' cs t fz) : FR M a w' :=
 h.trans (M' := M) ⟨hn.os, hn.tape, hn.output, by rw [hn.size]; omega, fun b hb => .inl (hn.old b hb).symm⟩ fun _ _ _ h => h
theorem Ay.EY {C : Ctx} {ρ : Pls} {hp : Hp} {w w' : World} {k : Nat} {row : Row} {pl : Pl} (hold : ∀ b, b < w.heap.size → w'.heap[b]? = w.heap[b]?) (hρ : ρ k = none) (hg : pl.g = w.heap.size) :
  Ay w (Tc C ρ hp) w' (Tc C (upd ρ k (some pl)) (upd hp k (some row))) := by
 intro b x u hT hc
 have hlt := Dt hc
 refine ⟨⟨hT.1, ?_⟩, ?_⟩
 ·rintro ⟨id, r, p, h1, h2, h3, h4, h5⟩
  by_cases he : id = k
  ·subst he
   rw [upd_same] at h3
   simp only [Option.some.injEq] at h3
   subst h3
   omega
  ·rw [upd_ne _ _ he] at h1 h3
   exact hT.2 ⟨id, r, p, h1, h2, h3, h4, h5⟩
 ·simp only [World.cell?, hold b hlt] at hc ⊢
  exact hc
theorem Ext.upd {ρ : Pls} {k : Nat} (pl : Pl) (h : ρ k = none) : Ext ρ (upd ρ k (some pl)) := fun id p hp => by
 by_cases he : id = k
 ·subst he; rw [h] at hp; cases hp
 ·rw [upd_ne _ _ he]; exact hp
theorem Ac.EY {C : Ctx} {F : Nat → Prop} {ρ : Pls} {s : St} {a : Act} {w w' : World} (h : Ac C F ρ s a w) {k : Nat} (hF : F k) {cs : Array Value} {t : TypeId} {fz : Nat × Nat} (hn : Ct w w' cs t fz) (c : PV)
  (hw : WF c) (hs : Pe.size c ≤ cs.size) (hfz : ∀ j, j < cs.size → (decide (fz.1 ≤ j) && decide (j < fz.2)) = false)
  (hl : ∀ (j : Nat) (q : PV) (u : Value), (flat c)[j]? = some q → cs[j]? = some u → RO w (Tc C ρ s.hp) ρ u q) :
  Ac C (fun id => F id ∧ id ≠ k) (upd ρ k (some ⟨w.heap.size, 0, cs.size⟩)) { s with hp := upd s.hp k (some ⟨c, false⟩) } a w' := by
 obtain ⟨hρ, hh⟩ := h.free k hF
 have hk := Ay.EY (C := C) (hp := s.hp) (row := ⟨c, false⟩) (pl := ⟨w.heap.size, 0, cs.size⟩) hn.old hρ rfl
 have he := Ext.upd ⟨w.heap.size, 0, cs.size⟩ hρ
 refine ⟨h.defers, h.size, fun i hi => ⟨(h.fr i hi).1, (h.fr i hi).2.keep hk he⟩, ⟨fun id row hr => ?_, fun id id' row row' pl pl' hne h1 h2 h3 h4 h5 h6 x x1 x2 x3 x4 => ?_⟩, fun id hid => ?_, fun id row pl h1 h3 j hj => ?_, h.frame.EY hn, fun g c hg => ⟨(h.glob g c hg).1, (h.glob g c hg).2.1, (h.glob g c hg).2.2.keep hk⟩, C.hX _ _ _ _ hk (fun b o hb _ => by rw [hn.old b (Array.getElem?_eq_some_iff.1 hb).1]; exact hb) h.amb⟩
 ·dsimp only at hr ⊢
  by_cases hid : id = k
  ·subst hid
   rw [upd_same] at hr ⊢
   simp only [Option.some.injEq] at hr
   subst hr
   refine ⟨_, rfl, .inr ⟨cs, t, fz, hn.new, by simp, hs, hw, fun j hj => by simpa using hfz j hj, fun j q u hq hu => by
   simp only [Nat.zero_add] at hu
   exact (hl j q u hq hu).keep hk he⟩⟩
  ·rw [upd_ne _ _ hid] at hr ⊢
   obtain ⟨pl, h1, h2⟩ := h.heap.row id row hr
   exact ⟨pl, h1, h2.keep hk he (hn.old _ h2.lt)⟩
 ·dsimp only at h1 h3
  by_cases e1 : id = k
  ·subst e1
   have e2 : id' ≠ id := Ne.symm hne
   rw [upd_same] at h1 h4
   rw [upd_ne _ _ e2] at h3 h5
   simp only [Option.some.injEq] at h4
   subst h4
   obtain ⟨p, hp1, hp2⟩ := h.heap.row _ _ h3
   rw [h5] at hp1
   simp only [Option.some.injEq] at hp1
   subst hp1
   have := hp2.lt
   simp only at h6
   omega
  ·rw [upd_ne _ _ e1] at h1 h4
   by_cases e2 : id' = k
   ·subst e2
    rw [upd_same] at h3 h5
    simp only [Option.some.injEq] at h5
    subst h5
    obtain ⟨p, hp1, hp2⟩ := h.heap.row _ _ h1
    rw [h4] at hp1
    simp only [Option.some.injEq] at hp1
    subst hp1
    have := hp2.lt
    simp only at h6
    omega
   ·rw [upd_ne _ _ e2] at h3 h5
    exact h.heap.sep id id' row row' pl pl' hne h1 h2 h3 h4 h5 h6 x x1 x2 x3 x4
 ·obtain ⟨h1, h2⟩ := h.free id hid.1
  exact ⟨by rw [upd_ne _ _ hid.2]; exact h1, by show upd s.hp k _ id = none; rw [upd_ne _ _ hid.2]; exact h2⟩
 ·by_cases hid : id = k
  ·subst hid
   rw [upd_same] at h3
   simp only [Option.some.injEq] at h3
   subst h3
   exact .inl h.frame.size
  ·have h1' : upd s.hp k (some ⟨c, false⟩) id = some row := h1
   rw [upd_ne _ _ hid] at h1' h3
   exact h.inn id row pl h1' h3 j hj
theorem Ac.alloc {C : Ctx} {F : Nat → Prop} {ρ : Pls} {s : St} {a : Act} {w : World} (h : Ac C F ρ s a w) {k : Nat} (hF : F k) (cs : Array Value) (t : TypeId) (fz : Nat × Nat) (c : PV)
  (hw : WF c) (hs : Pe.size c ≤ cs.size) (hfz : ∀ j, j < cs.size → (decide (fz.1 ≤ j) && decide (j < fz.2)) = false)
  (hl : ∀ (j : Nat) (q : PV) (u : Value), (flat c)[j]? = some q → cs[j]? = some u → RO w (Tc C ρ s.hp) ρ u q) :
  Ac C (fun id => F id ∧ id ≠ k) (upd ρ k (some ⟨w.heap.size, 0, cs.size⟩)) { s with hp := upd s.hp k (some ⟨c, false⟩) } a (w.alloc (.cells cs t fz)) :=
 h.EY hF (Ct.alloc w cs t fz) c hw hs hfz hl
theorem DD (b : Nat) : ∀ (vs : List Value) (o : Nat) (w : World) (cs : Array Value) (t : TypeId) (fz : Nat × Nat), w.heap[b]? = some (.cells cs t fz) → o + vs.length ≤ cs.size →
  ∃ cs' : Array Value, (w.setCells b o vs).heap[b]? = some (.cells cs' t fz) ∧ cs'.size = cs.size ∧ (∀ j, j < vs.length → cs'[o + j]? = vs[j]?) ∧ (∀ j, j < o ∨ o + vs.length ≤ j → cs'[j]? = cs[j]?)
 | [], o, w, cs, t, fz, h, _ => ⟨cs, h, rfl, fun j hj => by simp at hj, fun _ _ => rfl⟩
 | v :: r, o, w, cs, t, fz, h, hl => by
  simp only [List.length_cons] at hl
  have h1 : (w.setCell ⟨b, o, none⟩ v).heap[b]? = some (.cells (cs.setIfInBounds o v) t fz) := by
   simp [World.setCell, Array.getElem?_modify, h]
  obtain ⟨cs', a1, a2, a3, a4⟩ := DD b r (o + 1) _ _ t fz h1 (by simp; omega)
  refine ⟨cs', a1, by simpa using a2, fun j hj => ?_, fun j hj => ?_⟩
  ·cases j with
   | zero =>
    rw [Nat.add_zero, a4 o (by omega)]
    simp [show o < cs.size by omega]
   | succ j =>
    have := a3 j (by simpa using hj)
    rw [show o + (j + 1) = o + 1 + j by omega, this]
    simp
  ·simp only [List.length_cons] at hj
   rw [a4 j (by omega), Array.getElem?_setIfInBounds_ne (by omega)]
theorem Bi (b : Nat) : ∀ (vs : List Value) (o : Nat) (w : World) (x : Nat), x ≠ b → (w.setCells b o vs).heap[x]? = w.heap[x]?
 | [], _, _, _, _ => rfl
 | v :: r, o, w, x, h => by
  rw [World.setCells, Bi b r _ _ x h]
  simp only [World.setCell, Array.getElem?_modify]
  rw [if_neg (by omega)]
theorem setCells_size (b : Nat) : ∀ (vs : List Value) (o : Nat) (w : World), (w.setCells b o vs).heap.size = w.heap.size
 | [], _, _ => rfl
 | v :: r, o, w => by rw [World.setCells, setCells_size b r]; simp [World.setCell]
theorem FP (b : Nat) : ∀ (vs : List Value) (o : Nat) (w : World), (w.setCells b o vs).os = w.os ∧ (w.setCells b o vs).tape = w.tape ∧ (w.setCells b o vs).output = w.output
 | [], _, _ => ⟨rfl, rfl, rfl⟩
 | v :: r, o, w => by rw [World.setCells]; exact FP b r _ _
theorem FR.setCells {M : T2} {a w : World} (h : FR M a w) {b o : Nat} {vs : List Value} {cs : Array Value} {t : TypeId} {fz : Nat × Nat} (hb : w.heap[b]? = some (.cells cs t fz)) (hl : o + vs.length ≤ cs.size)
  (hm : ∀ j, j < vs.length → a.heap.size ≤ b ∨ M b (o + j)) : FR M a (w.setCells b o vs) := by
 obtain ⟨cs', a1, a2, a3, a4⟩ := DD b vs o w cs t fz hb hl
 obtain ⟨r1, r2, r3⟩ := FP b vs o w
 refine h.trans (M' := fun x y => x = b ∧ o ≤ y ∧ y < o + vs.length) ⟨r1, r2, r3, by rw [setCells_size]; exact Nat.le_refl _, fun x _ => ?_⟩ ?_
 ·by_cases hx : x = b
  ·subst hx
   refine .inr (.inr ⟨cs, cs', t, fz, hb, a1, a2, fun y hy => a4 y ?_⟩)
   have : ¬ (o ≤ y ∧ y < o + vs.length) := fun hh => hy ⟨rfl, hh⟩
   omega
  ·exact .inl (Bi b vs o w x hx).symm
 ·rintro x y hx ⟨rfl, h1, h2⟩
  rcases hm (y - o) (by omega) with h | h
  ·omega
  ·rwa [show o + (y - o) = y by omega] at h
theorem Ac.write {C : Ctx} {F : Nat → Prop} {ρ : Pls} {s : St} {a : Act} {w : World} (h : Ac C F ρ s a w) {id : Nat} {row : Row} {pl : Pl} (hr : s.hp id = some row) (hf : row.frz = false) (hρ : ρ id = some pl) (htu : AO row.c = false)
  {c' : PV} {o : Nat} (vs : List Value) (hw' : WF c') (hs' : Pe.size c' ≤ pl.ext) (hle : o + vs.length ≤ pl.ext)
  (hl : ∀ (j : Nat) (q : PV) (u : Value), (flat c')[o + j]? = some q → vs[j]? = some u → RO w (Tc C ρ s.hp) ρ u q)
  (hold : ∀ (j : Nat) (q : PV), j < o ∨ o + vs.length ≤ j → (flat c')[j]? = some q → (flat row.c)[j]? = some q) :
  Ac C F ρ { s with hp := upd s.hp id (some ⟨c', false⟩) } a (w.setCells pl.g (pl.off + o) vs) := by
 obtain ⟨p0, hp0, hrel⟩ := h.heap.row id row hr
 rw [hρ] at hp0
 simp only [Option.some.injEq] at hp0
 subst hp0
 obtain ⟨cs, t, fz, g1, g2, g3, g4, g5, g6⟩ := hrel.cell htu
 obtain ⟨cs', a1, a2, a3, a4⟩ := DD pl.g vs (pl.off + o) w cs t fz g1 (by omega)
 have hMut : ∀ b x, Mut ρ (upd s.hp id (some ⟨c', false⟩)) b x ↔ Mut ρ s.hp b x := by
  intro b x
  constructor
  ·rintro ⟨i, r, p, h1, h2, h3⟩
   by_cases he : i = id
   ·subst he; exact ⟨i, row, p, hr, hf, h3⟩
   ·rw [upd_ne _ _ he] at h1; exact ⟨i, r, p, h1, h2, h3⟩
  ·rintro ⟨i, r, p, h1, h2, h3⟩
   by_cases he : i = id
   ·subst he; exact ⟨i, ⟨c', false⟩, p, upd_same _ _ _, rfl, h3⟩
   ·exact ⟨i, r, p, by rw [upd_ne _ _ he]; exact h1, h2, h3⟩
 have hT : Tc C ρ (upd s.hp id (some ⟨c', false⟩)) = Tc C ρ s.hp := by
  funext b x
  simp only [Tc, hMut]
 have hcell : ∀ b x, ¬ (b = pl.g ∧ pl.off + o ≤ x ∧ x < pl.off + o + vs.length) → (w.setCells pl.g (pl.off + o) vs).cell? ⟨b, x, none⟩ = w.cell? ⟨b, x, none⟩ := by
  intro b x hn
  by_cases hb : b = pl.g
  ·subst hb
   rw [AB a1, AB g1]
   refine a4 x ?_
   have : ¬ (pl.off + o ≤ x ∧ x < pl.off + o + vs.length) := fun hh => hn ⟨rfl, hh⟩
   omega
  ·simp only [World.cell?, Bi _ _ _ _ _ hb]
 have hk : Ay w (Tc C ρ s.hp) (w.setCells pl.g (pl.off + o) vs) (Tc C ρ (upd s.hp id (some ⟨c', false⟩))) := by
  intro b x u hTb hc
  rw [hT]
  refine ⟨hTb, ?_⟩
  rw [hcell b x, hc]
  rintro ⟨rfl, h1, h2⟩
  exact hTb.2 ⟨id, row, pl, hr, hf, hρ, rfl, by omega, by omega⟩
 refine ⟨h.defers, h.size, fun i hi => ⟨(h.fr i hi).1, (h.fr i hi).2.keep hk (Ext.refl _)⟩, ⟨fun i r hri => ?_, fun i i' r r' p p' hne h1 h2 h3 h4 h5 h6 => ?_⟩, fun i hi => ?_, fun i r p h1 h3 j hj => ?_, ?_, fun g c hg => ⟨(h.glob g c hg).1, (h.glob g c hg).2.1, (h.glob g c hg).2.2.keep hk⟩, C.hX _ _ _ _ hk (fun b o' hb hn => by
  by_cases e : b = pl.g
  ·subst e; rw [g1] at hb; exact absurd (Option.some.inj hb).symm (hn.1 _ _ _)
  ·rw [Bi _ _ _ _ _ e]; exact hb) h.amb⟩
 ·by_cases he : i = id
  ·subst he
   have hri' : upd s.hp i (some ⟨c', false⟩) i = some r := hri
   rw [upd_same] at hri'
   simp only [Option.some.injEq] at hri'
   subst hri'
   refine ⟨pl, hρ, .inr ⟨cs', t, fz, a1, by omega, hs', hw', g5, fun j q u hq hu => ?_⟩⟩
   simp only at hq
   by_cases hj : j < o ∨ o + vs.length ≤ j
   ·rw [a4 _ (by omega)] at hu
    exact (g6 j q u (hold j q hj hq) hu).keep hk (Ext.refl _)
   ·obtain ⟨j', rfl⟩ : ∃ j', j = o + j' := ⟨j - o, by omega⟩
    rw [← Nat.add_assoc, a3 j' (by omega)] at hu
    exact (hl j' q u hq hu).keep hk (Ext.refl _)
  ·have hri' : upd s.hp id (some ⟨c', false⟩) i = some r := hri
   rw [upd_ne _ _ he] at hri'
   obtain ⟨p, h1, ⟨o1, o2, o3, o4, o5, ob, o6, o7⟩ | ⟨cs2, t2, fz2, b1, b2, b3, b4, b5, b6⟩⟩ := h.heap.row i r hri'
   ·have hg : p.g ≠ pl.g := fun e => by
     rw [e, g1] at o6
     rw [← Option.some.inj o6] at o7
     have := o7.mov
     cases this
    exact ⟨p, h1, .inl ⟨o1, o2, o3, o4, o5, ob, by rw [Bi _ _ _ _ _ hg]; exact o6, o7⟩⟩
   by_cases hg : p.g = pl.g
   ·rw [hg, g1] at b1
    simp only [Option.some.injEq, Obj.cells.injEq] at b1
    obtain ⟨rfl, rfl, rfl⟩ := b1
    have hsep := h.heap.sep id i row r pl p (Ne.symm he) hr hf hri' hρ h1 hg.symm
    refine ⟨p, h1, .inr ⟨cs', t, fz, by rw [hg]; exact a1, by omega, b3, b4, b5, fun j q u hq hu => ?_⟩⟩
    have hjlt : j < p.ext := by
     have := (List.getElem?_eq_some_iff.1 hq).1
     rw [Ae _ b4] at this
     omega
    rw [a4 _ (by
     by_cases hin : pl.off + o ≤ p.off + j ∧ p.off + j < pl.off + o + vs.length
     ·exact (hsep (p.off + j) (by omega) (by omega) (by omega) (by omega)).elim
     ·omega)] at hu
    exact (b6 j q u hq hu).keep hk (Ext.refl _)
   ·exact ⟨p, h1, Ao.keep hk (Ext.refl _) (Bi _ _ _ _ _ hg) (.inr ⟨cs2, t2, fz2, b1, b2, b3, b4, b5, b6⟩)⟩
 ·have f1 : ∃ r0, s.hp i = some r0 ∧ r0.frz = false := by
   by_cases he : i = id
   ·subst he; exact ⟨row, hr, hf⟩
   ·have h1' : upd s.hp id (some ⟨c', false⟩) i = some r := h1
    rw [upd_ne _ _ he] at h1'
    exact ⟨r, h1', h2⟩
  have f2 : ∃ r0, s.hp i' = some r0 := by
   by_cases he : i' = id
   ·subst he; exact ⟨row, hr⟩
   ·have h3' : upd s.hp id (some ⟨c', false⟩) i' = some r' := h3
    rw [upd_ne _ _ he] at h3'
    exact ⟨r', h3'⟩
  obtain ⟨r0, e0, e1⟩ := f1
  obtain ⟨r2, e2⟩ := f2
  exact h.heap.sep i i' r0 r2 p p' hne e0 e1 e2 h4 h5 h6
 ·obtain ⟨h1, h2⟩ := h.free i hi
  have he : i ≠ id := fun e => by subst e; rw [h2] at hr; cases hr
  exact ⟨h1, by show upd s.hp id _ i = none; rw [upd_ne _ _ he]; exact h2⟩
 ·by_cases he : i = id
  ·subst he; exact h.inn i row p hr h3 j hj
  ·have h1' : upd s.hp id (some ⟨c', false⟩) i = some r := h1
   rw [upd_ne _ _ he] at h1'
   exact h.inn i r p h1' h3 j hj
 ·refine h.frame.setCells g1 (by omega) fun j hj => ?_
  have := h.inn id row pl hr hρ (o + j) (by omega)
  rwa [← Nat.add_assoc] at this
theorem Ac.store {C : Ctx} {F : Nat → Prop} {ρ : Pls} {s : St} {a : Act} {w : World} (h : Ac C F ρ s a w) {id : Nat} {row : Row} {pl : Pl} (hr : s.hp id = some row) (hf : row.frz = false) (hρ : ρ id = some pl) (htu : AO row.c = false)
  {v c' : PV} {o : Nat} (hset : SetAt v row.c c' o) (vs : List Value) (hvs : vs.length = Pe.size v)
  (hl : ∀ (j : Nat) (q : PV) (u : Value), (flat v)[j]? = some q → vs[j]? = some u → RO w (Tc C ρ s.hp) ρ u q) :
  Ac C F ρ { s with hp := upd s.hp id (some ⟨c', false⟩) } a (w.setCells pl.g (pl.off + o) vs) := by
 obtain ⟨hw', hs', hle, hin, hout, _⟩ := hset
 obtain ⟨p0, hp0, hrel⟩ := h.heap.row id row hr
 rw [hρ] at hp0
 simp only [Option.some.injEq] at hp0
 subst hp0
 obtain ⟨cs, t, fz, g1, g2, g3, g4, g5, g6⟩ := hrel.cell htu
 refine h.write hr hf hρ htu vs hw' (by omega) (by omega) (fun j q u hq hu => ?_) (fun j q hj hq => ?_)
 ·have hjv : j < Pe.size v := by
   have := (List.getElem?_eq_some_iff.1 hu).1
   omega
  rw [hin j hjv] at hq
  exact hl j q u hq hu
 ·rw [hout j (by omega)] at hq
  exact hq
theorem Ac.rename {C : Ctx} {F : Nat → Prop} {ρ : Pls} {s : St} {a : Act} {w : World} (h : Ac C F ρ s a w) {id k : Nat} {row : Row} {pl : Pl} (hr : s.hp id = some row) (hf : row.frz = false) (hρ : ρ id = some pl) (hF : F k) (htu : AO row.c = false)
  {c' : PV} {o ext : Nat} (hw' : WF c') (hs' : Pe.size c' ≤ ext) (hle : o + ext ≤ pl.ext)
  (hold : ∀ (j : Nat) (q : PV), (flat c')[j]? = some q → (flat row.c)[o + j]? = some q) :
  Ac C (fun i => F i ∧ i ≠ k) (upd ρ k (some ⟨pl.g, pl.off + o, ext⟩)) { s with hp := upd (upd s.hp id none) k (some ⟨c', false⟩) } a w ∧
   Ay w (Tc C ρ s.hp) w (Tc C (upd ρ k (some ⟨pl.g, pl.off + o, ext⟩)) (upd (upd s.hp id none) k (some ⟨c', false⟩))) ∧ Ext ρ (upd ρ k (some ⟨pl.g, pl.off + o, ext⟩)) := by
 obtain ⟨hρk, hhk⟩ := h.free k hF
 have hne : id ≠ k := fun e => by subst e; rw [hhk] at hr; cases hr
 obtain ⟨p0, hp0, hrel⟩ := h.heap.row id row hr
 rw [hρ] at hp0
 simp only [Option.some.injEq] at hp0
 subst hp0
 obtain ⟨cs, t, fz, g1, g2, g3, g4, g5, g6⟩ := hrel.cell htu
 have hMut : ∀ b x, Mut (upd ρ k (some ⟨pl.g, pl.off + o, ext⟩)) (upd (upd s.hp id none) k (some ⟨c', false⟩)) b x → Mut ρ s.hp b x := by
  rintro b x ⟨i, r, p, h1, h2, h3, h4, h5, h6⟩
  by_cases e1 : i = k
  ·subst e1
   rw [upd_same] at h3
   simp only [Option.some.injEq] at h3
   subst h3
   exact ⟨id, row, pl, hr, hf, hρ, h4, by simp only at h5; omega, by simp only at h6; omega⟩
  ·rw [upd_ne _ _ e1] at h1 h3
   by_cases e2 : i = id
   ·subst e2; rw [upd_same] at h1; cases h1
   ·rw [upd_ne _ _ e2] at h1
    exact ⟨i, r, p, h1, h2, h3, h4, h5, h6⟩
 have hk : Ay w (Tc C ρ s.hp) w (Tc C (upd ρ k (some ⟨pl.g, pl.off + o, ext⟩)) (upd (upd s.hp id none) k (some ⟨c', false⟩))) :=
  fun b x u hT hc => ⟨⟨hT.1, fun hm => hT.2 (hMut b x hm)⟩, hc⟩
 have he := Ext.upd ⟨pl.g, pl.off + o, ext⟩ hρk
 have hrow : ∀ i r, upd (upd s.hp id none) k (some ⟨c', false⟩) i = some r → i ≠ k → i ≠ id ∧ s.hp i = some r := by
  intro i r h1 h2
  rw [upd_ne _ _ h2] at h1
  have e2 : i ≠ id := fun e => by subst e; rw [upd_same] at h1; cases h1
  rw [upd_ne _ _ e2] at h1
  exact ⟨e2, h1⟩
 refine ⟨?_, hk, he⟩
 refine ⟨h.defers, h.size, fun i hi => ⟨(h.fr i hi).1, (h.fr i hi).2.keep hk he⟩, ⟨fun i r hri => ?_, fun i i' r r' p p' hne' h1 h2 h3 h4 h5 h6 => ?_⟩, fun i hi => ?_, fun i r p h1 h3 j hj => ?_, h.frame, fun g c hg => ⟨(h.glob g c hg).1, (h.glob g c hg).2.1, (h.glob g c hg).2.2.keep hk⟩, C.hX _ _ _ _ hk (JH.refl _) h.amb⟩
 ·by_cases e1 : i = k
  ·subst e1
   have hri' : upd (upd s.hp id none) i (some ⟨c', false⟩) i = some r := hri
   rw [upd_same] at hri'
   simp only [Option.some.injEq] at hri'
   subst hri'
   refine ⟨_, upd_same _ _ _, .inr ⟨cs, t, fz, g1, by simp only; omega, hs', hw', fun j hj => ?_, fun j q u hq hu => ?_⟩⟩
   ·have := g5 (o + j) (by simp only at hj; omega)
    simp only
    rwa [Nat.add_assoc]
   ·simp only at hu hq
    rw [Nat.add_assoc] at hu
    exact (g6 (o + j) q u (hold j q hq) hu).keep hk he
  ·obtain ⟨e2, hri'⟩ := hrow i r hri e1
   obtain ⟨p, h1, h2⟩ := h.heap.row i r hri'
   exact ⟨p, by rw [upd_ne _ _ e1]; exact h1, h2.keep hk he rfl⟩
 ·by_cases e1 : i = k
  ·subst e1
   obtain ⟨e2, h3'⟩ := hrow i' r' h3 (Ne.symm hne')
   rw [upd_same] at h4
   rw [upd_ne _ _ (Ne.symm hne')] at h5
   simp only [Option.some.injEq] at h4
   subst h4
   intro x x1 x2 x3 x4
   simp only at x1 x2
   exact h.heap.sep id i' row r' pl p' (Ne.symm e2) hr hf h3' hρ h5 h6 x (by omega) (by omega) x3 x4
  ·obtain ⟨e2, h1'⟩ := hrow i r h1 e1
   rw [upd_ne _ _ e1] at h4
   by_cases e3 : i' = k
   ·subst e3
    rw [upd_same] at h5
    simp only [Option.some.injEq] at h5
    subst h5
    intro x x1 x2 x3 x4
    simp only at x3 x4
    exact h.heap.sep i id r row p pl e2 h1' h2 hr h4 hρ h6 x x1 x2 (by omega) (by omega)
   ·obtain ⟨e4, h3'⟩ := hrow i' r' h3 e3
    rw [upd_ne _ _ e3] at h5
    exact h.heap.sep i i' r r' p p' hne' h1' h2 h3' h4 h5 h6
 ·obtain ⟨h1, h2⟩ := h.free i hi.1
  have e2 : i ≠ id := fun e => by subst e; rw [h2] at hr; cases hr
  exact ⟨by rw [upd_ne _ _ hi.2]; exact h1, by show upd (upd s.hp id none) k _ i = none; rw [upd_ne _ _ hi.2, upd_ne _ _ e2]; exact h2⟩
 ·by_cases e1 : i = k
  ·subst e1
   rw [upd_same] at h3
   simp only [Option.some.injEq] at h3
   subst h3
   have := h.inn id row pl hr hρ (o + j) (by simp only at hj; omega)
   simp only
   rwa [Nat.add_assoc]
  ·obtain ⟨e2, h1'⟩ := hrow i r h1 e1
   rw [upd_ne _ _ e1] at h3
   exact h.inn i r p h1' h3 j hj
theorem Ac.kill {C : Ctx} {F : Nat → Prop} {ρ : Pls} {s : St} {a : Act} {w : World} (h : Ac C F ρ s a w) (id : Nat) :
  Ac C F ρ { s with hp := upd s.hp id none } a w ∧ Ay w (Tc C ρ s.hp) w (Tc C ρ (upd s.hp id none)) := by
 have hrow : ∀ i r, upd s.hp id none i = some r → s.hp i = some r := by
  intro i r h1
  by_cases e : i = id
  ·subst e; rw [upd_same] at h1; cases h1
  ·rwa [upd_ne _ _ e] at h1
 have hk : Ay w (Tc C ρ s.hp) w (Tc C ρ (upd s.hp id none)) := fun b x u hT hc => ⟨⟨hT.1, fun ⟨i, r, p, h1, h2⟩ => hT.2 ⟨i, r, p, hrow i r h1, h2⟩⟩, hc⟩
 refine ⟨⟨h.defers, h.size, fun i hi => ⟨(h.fr i hi).1, (h.fr i hi).2.keep hk (Ext.refl _)⟩, ⟨fun i r hri => ?_, fun i i' r r' p p' hne h1 h2 h3 h4 h5 h6 => ?_⟩, fun i hi => ?_, fun i r p h1 h3 => h.inn i r p (hrow i r h1) h3, h.frame,
  fun g c hg => ⟨(h.glob g c hg).1, (h.glob g c hg).2.1, (h.glob g c hg).2.2.keep hk⟩, C.hX _ _ _ _ hk (JH.refl _) h.amb⟩, hk⟩
 ·obtain ⟨p, h1, h2⟩ := h.heap.row i r (hrow i r hri)
  exact ⟨p, h1, h2.keep hk (Ext.refl _) rfl⟩
 ·exact h.heap.sep i i' r r' p p' hne (hrow i r h1) h2 (hrow i' r' h3) h4 h5 h6
 ·obtain ⟨h1, h2⟩ := h.free i hi
  refine ⟨h1, ?_⟩
  show upd s.hp id none i = none
  by_cases e : i = id
  ·subst e; rw [upd_same]
  ·rw [upd_ne _ _ e]; exact h2
theorem upd_upd {α : Type} (f : Nat → Option α) (i : Nat) (x y : Option α) : upd (upd f i x) i y = upd f i y := by
 funext j
 by_cases e : j = i
 ·subst e; rw [upd_same, upd_same]
 ·rw [upd_ne _ _ e, upd_ne _ _ e, upd_ne _ _ e]
end Go.Pe
namespace Go.Pe
def DN (P : Program) (e : TypeId) : Bool := !Nat.beq (P.cellsOf e) 0
def Bn (P : Program) (t : TypeId) : Bool := match P.underlying t with
 | some (.struct _) | some (.array _ _) => true
 | _ => false
def GD (P : Program) (t : TypeId) : Bool := (P.underlying t).isSome
def BF (P : Program) : Nat → TypeId → Sh
 | 0, _ => .any
 | d + 1, t => match P.underlying t with
  | some (.int k) => .int k
  | some .bool => .bool
  | some .string => .str
  | some (.struct fs) => .st (P.cellsOf t) (fs.toList.map fun f => BF P d f.type)
  | some (.array n e) => (match P.underlying e with
   | some (.int k) => .iarr k n
   | _ => .parr (P.cellsOf e) n (BF P d e))
  | some (.slice e) => .vec (P.cellsOf e) (BF P d e)
  | _ => .any
def D6 (P : Program) (e : TypeId) : PV := match P.underlying e with
 | some (.int k) => .iarr k 0 []
 | _ => .parr (P.cellsOf e) 0 (BF P 8 e) []
def DJ (P : Program) : Nat → TypeId → PV
 | 0, _ => .undef
 | d + 1, t => match P.underlying t with
  | some (.int k) => .int k 0
  | some .bool => .bool false
  | some .string => .str .empty
  | some (.struct fs) => .st (P.cellsOf t) (fs.toList.map fun f => DJ P d f.type)
  | some (.array n e) => (match P.underlying e with
   | some (.int k) => .iarr k n (List.replicate n 0)
   | _ => .parr (P.cellsOf e) n (BF P 8 e) (List.replicate n (DJ P d e)))
  | some (.pointer _) => .nilp
  | some (.slice e) => .vec true (D6 P e)
  | some (.map _ _) => .fv (.map none)
  | _ => .undef
def Nv : PV → Value → Bool
 | .int k n, .int k' n' => IntKind.same k k' && decide (n = n')
 | .bool b, .bool b' => b == b'
 | .str s, .string s' => Nat.beq s.size 0 && Nat.beq s'.size 0
 | .nilp, .pointer none => true
 | .vec nl c, .slice none 0 0 => nl && Nat.beq (Aa c) 0
 | .undef, v => v.oneCell'
 | .fv (.map none), .map none => true
 | _, _ => false
def Df : List PV → List Value → Bool
 | [], [] => true
 | q :: l, v :: m => Nv q v && Df l m
 | _, _ => false
mutual
def wfB : PV → Bool
 | .int k n => decide (k.wrap n = n)
 | .st n fs => Nat.beq (Ar fs) n && wfBL fs
 | .iarr k n l => Nat.beq l.length n && l.all fun x => decide (k.wrap x = x)
 | .parr s n sh l => Nat.beq l.length n && wfBL l && l.all fun q => Nat.beq (size q) s && conf sh q && noref q
 | .vec nl c => wfB c && Bb c && (!nl || Nat.beq (Aa c) 0)
 | .tup _ | .cptr .. | .fb .. => false
 | _ => true
termination_by structural p => p
def wfBL : List PV → Bool
 | [] => true
 | p :: l => wfB p && wfBL l
termination_by structural l => l
end
def BG : PV → Bool | .undef => true | _ => false
def good (v : PV) : Bool := !AO v && !BG v
def zeroOf (P : Program) (t : TypeId) : Option PV :=
 match (P.info? t).bind (·.zero) with
 | some v => if Df (flat (DJ P 9 t)) v.cells.toList && wfB (DJ P 9 t) && Nat.beq (size (DJ P 9 t)) (P.cellsOf t) && good (DJ P 9 t) then some (DJ P 9 t) else none
 | none => none
def nilOf (P : Program) (t : TypeId) : PV := match P.underlying t with
 | some (.slice e) => .vec true (D6 P e)
 | _ => .vec true (.parr 0 0 .any [])
def I9 (P : Program) (t : TypeId) : Value → PV
 | .int k n => if decide (k.wrap n = n) then .int k n else .undef
 | .bool b => .bool b
 | .string s => if Nat.ble s.size maxLen then .str s else .undef
 | .pointer none => .nilp
 | .slice none 0 0 => nilOf P t
 | _ => .undef
def evO (P : Program) (G : Nat → Option PV) (t : TypeId) (fr : Nat → PV) : Operand → PV
 | .tmp i => fr i
 | .const v => I9 P t v
 | .global g => match G g with
  | some c => .cptr c []
  | none => .undef
 | .func f => .fv (.func (.func f) #[] #[])
inductive Ans where
 | none
 | emp
 | dec (b : Bool)
 | val (p : PV)
 | ups (u : List (Nat × Option Row))
 | vu (p : PV) (u : List (Nat × Option Row))
 | call (keep : Bool) (inv : List (Nat × Nat)) (hout : List (Nat × Row)) (res : PV)
 | calla (keep : Bool) (inv : List (Nat × Nat)) (hin : List (Nat × Row)) (args : List PV) (hout : List (Nat × Row)) (res : PV)
 | frz (ids : List Nat)
 | rfs
 | calld (deep : List Nat) (keep : Bool) (inv : List (Nat × Nat)) (hout : List (Nat × Row)) (res : PV) (told : Option (List (Nat × Row) × List PV))
 | same (ids deep : List Nat) (keep : Bool) (inv : List (Nat × Nat)) (hout : List (Nat × Row)) (res : PV) (told : Option (List (Nat × Row) × List PV))
inductive Pr where
 | fail
 | ret (v : PV) (ups : List (Nat × Option Row)) (ob : List Prop)
 | read (id : Nat) (k : Row → Pr)
def Pr.run (hp : Hp) : Pr → Option (PV × List (Nat × Option Row) × List Prop × List Nat)
 | .fail => none
 | .ret v ups ob => some (v, ups, ob, [])
 | .read id k => match hp id with
  | some r => ((k r).run hp).map fun x => (x.1, x.2.1, x.2.2.1, id :: x.2.2.2)
  | none => none
def Ai (hp : Hp) : List (Nat × Option Row) → Hp
 | [] => hp
 | u :: l => Ai (upd hp u.1 u.2) l
def Pr.dec (d : Bool) : Pr → Pr
 | .ret (.bool b) u o => .ret (.bool d) u ((b = d) :: o)
 | .ret _ _ _ => .fail
 | .fail => .fail
 | .read id k => .read id fun r => (k r).dec d
def Pr.need (p : List Prop) : Pr → Pr
 | .ret v u o => .ret v u (p ++ o)
 | .fail => .fail
 | .read id k => .read id fun r => (k r).need p
def arith (op : BinOp) (k : IntKind) (x y : Int) : Pr := match op with
 | .add => .ret (.int k (k.wrap (x + y))) [] []
 | .sub => .ret (.int k (k.wrap (x - y))) [] []
 | .mul => .ret (.int k (k.wrap (x * y))) [] []
 | .quo => .ret (.int k (k.wrap (x.tdiv y))) [] [y ≠ 0]
 | .rem => .ret (.int k (x.tmod y)) [] [y ≠ 0]
 | .and => .ret (.int k (bits .and k x y)) [] []
 | .or => .ret (.int k (bits .or k x y)) [] []
 | .xor => .ret (.int k (bits .xor k x y)) [] []
 | .andNot => .ret (.int k (bits .andNot k x y)) [] []
 | .eql => .ret (.bool (x == y)) [] []
 | .neq => .ret (.bool (x != y)) [] []
 | .lss => .ret (.bool (decide (x < y))) [] []
 | .leq => .ret (.bool (decide (x ≤ y))) [] []
 | .gtr => .ret (.bool (decide (x > y))) [] []
 | .geq => .ret (.bool (decide (x ≥ y))) [] []
 | _ => .fail
def NB (op : BinOp) (k : IntKind) (x y : Int) : Pr := match op with
 | .shl => .ret (.int k (k.wrap (x * 2 ^ (min y.toNat k.bits)))) [] [0 ≤ y]
 | .shr => .ret (.int k (x.fdiv (2 ^ (min y.toNat k.bits)))) [] [0 ≤ y]
 | _ => .fail
def strP (op : BinOp) (x y : ByteArray) : Pr := match op with
 | .add => .ret (.str (x ++ y)) [] [x.size + y.size ≤ maxLen]
 | .eql => .ret (.bool (x.toList == y.toList)) [] []
 | .neq => .ret (.bool (!(x.toList == y.toList))) [] []
 | .lss => .ret (.bool (Op.bytesLess x.toList y.toList)) [] []
 | .leq => .ret (.bool (Op.bytesLess x.toList y.toList || x.toList == y.toList)) [] []
 | .gtr => .ret (.bool (!(Op.bytesLess x.toList y.toList || x.toList == y.toList))) [] []
 | .geq => .ret (.bool (!Op.bytesLess x.toList y.toList)) [] []
 | _ => .fail
def Lu : BinOp → Bool | .shl | .shr => true | _ => false
def Oz (P : Program) (t : TypeId) : Bool := match P.underlying t with | some .bool => true | _ => false
def Lg (P : Program) (t : TypeId) (p : PV) : Bool := Nat.beq (P.cellsOf t) (size p) && (Bn P t == isAgg p) && !AO p && GD P t
def eqF (P : Program) (rec : TypeId → PV → PV → Option Bool) : Nat → List Field → List PV → List PV → Option Bool
 | _, [], [], [] => some true
 | o, f :: fs, p :: ps, q :: qs => if Nat.beq f.offset o && Lg P f.type p && Lg P f.type q && Nat.beq (size q) (size p) && !(f.name == "_") then (match rec f.type p q with
  | some x => (match eqF P rec (o + size p) fs ps qs with
   | some y => some (x && y)
   | none => none)
  | none => none) else none
 | _, _, _, _ => none
def eqT (P : Program) : Nat → TypeId → PV → PV → Option Bool
 | 0, _, _, _ => none
 | d + 1, t, p, q => match P.underlying t, p, q with
  | some .bool, .bool x, .bool y => some (x == y)
  | some (.int _), .int k x, .int k' y => if IntKind.same k k' then some (x == y) else none
  | some .string, .str x, .str y => some (x.toList == y.toList)
  | some (.struct fs), .st _ ps, .st _ qs => if P.stoodInHeld t then none else eqF P (eqT P d) 0 fs.toList ps qs
  | some (.array n e), .iarr k m l, .iarr k' m' l' => (match P.underlying e with
   | some (.int _) => if IntKind.same k k' && Nat.beq n m && Nat.beq n m' && Nat.beq (P.cellsOf e) 1 then some (decide (l = l')) else none
   | _ => none)
  | _, _, _ => none
def eqAgg (P : Program) (xT : TypeId) (op : BinOp) (a b : PV) : Pr := if P.eqGuardType P.depth xT then .fail else match eqT P 16 xT a b with
 | some r => (match op with
  | .eql => .ret (.bool r) [] []
  | .neq => .ret (.bool (!r)) [] []
  | _ => .fail)
 | none => .fail
def binP (P : Program) (xT : TypeId) (op : BinOp) (a b : PV) : Pr := match a, b with
 | .int k x, .int k' y => if Lu op then NB op k x y else if IntKind.same k k' then arith op k x y else .fail
 | .bool x, .bool y => if Oz P xT then (match op with
  | .eql => .ret (.bool (x == y)) [] []
  | .neq => .ret (.bool (!(x == y))) [] []
  | _ => .fail) else .fail
 | .str x, .str y => strP op x y
 | _, _ => .fail
def binQ (P : Program) (xT : TypeId) (op : BinOp) (a b : PV) : Pr := if isAgg a && isAgg b then eqAgg P xT op a b else binP P xT op a b
def unP (op : UnOp) (a : PV) : Pr := match op, a with
 | .neg, .int k n => .ret (.int k (k.wrap (0 - n))) [] []
 | .xor, .int k n => .ret (.int k (bits .xor k (if k.signed then -1 else k.max) n)) [] []
 | .not, .bool b => .ret (.bool (!b)) [] []
 | _, _ => .fail
def BZ {α : Type} (l : List α) : Nat → List α
 | 0 => l
 | a + 1 => l.drop (a + 1)
def sub (c : PV) (a n : Nat) : PV := match c with
 | .iarr k _ l => .iarr k n ((BZ l a).take n)
 | .parr s _ sh l => .parr s n sh ((BZ l a).take n)
 | _ => .undef
def QR (c : PV) : Stp → Bool
 | .fld _ _ => true
 | .idx i _ => Nat.blt i (Aa c)
def IB (c : PV) (place : Nat → Option (Stp × Nat)) : List (Nat × PV) → Option PV
 | [] => some c
 | x :: r => match place x.1 with
  | some (s, n) => if Nat.beq (size x.2) n && good x.2 && QR c s then (setNode x.2 c [s]).bind fun c' => IB c' place r else none
  | none => none
def Ck (ev : Operand → PV) : List (Nat × Operand) → List (Nat × PV)
 | [] => []
 | x :: r => (x.1, ev x.2) :: Ck ev r
def IZ (P : Program) (l : List Field) : Bool := l.all fun f => (P.info? f.type).isSome
def NN (P : Program) (t : TypeId) (parts : List (Nat × PV)) : Option PV := match zeroOf P t with
 | some z => if !isAgg z then none else (match P.underlying t with
  | some (.struct fs) => if !IZ P fs.toList then none else IB z (fun i => (fs[i]?).map fun f => (.fld i f.offset, P.cellsOf f.type)) parts
  | some (.array _ e) => if !DN P e then none else IB z (fun i => some (.idx i (P.cellsOf e), P.cellsOf e)) parts
  | _ => none)
 | none => none
def FO (P : Program) (e : TypeId) (n : Nat) (z : PV) : PV := match P.underlying e with
 | some (.int k) => .iarr k n (List.replicate n 0)
 | _ => .parr (P.cellsOf e) n (BF P 8 e) (List.replicate n z)
def I1 (P : Program) (e : TypeId) (n : Nat) : Option PV := match zeroOf P e with
 | some z => if wfB (FO P e n z) && Nat.beq (size (FO P e n z)) (n * P.cellsOf e) then some (FO P e n z) else none
 | none => none
def CG (P : Program) (t : TypeId) (n : Nat) (parts : List (Nat × PV)) (k : Nat) : Pr := match P.underlying t with
 | some (.slice e) => if Nat.ble (n * P.cellsOf e) 16777216 && DN P e then (match I1 P e n with
  | some c => (match IB c (fun i => some (.idx i (P.cellsOf e), P.cellsOf e)) parts with
   | some c' => .ret (.ref k [] (P.cellsOf e) 0 n) [(k, some ⟨c', false⟩)] []
   | none => .fail)
  | none => .fail) else .fail
 | _ => .fail
def Ig (P : Program) (t : TypeId) (c : PV) (path : List Stp) : Pr :=
 match node c path with
 | some q => if Nat.beq (P.cellsOf t) (size q) && (Bn P t == isAgg q) && !AO q && GD P t then .ret q [] (Ba c path) else .fail
 | none => .fail
def JU (P : Program) (t : TypeId) (id : Nat) (path : List Stp) (v : PV) : Pr := .read id fun r =>
 if r.frz || AO r.c then .fail else match setNode v r.c path with
  | some c' => if Nat.beq (P.cellsOf t) (size v) && GD P t && good v then .ret .undef [(id, some ⟨c', false⟩)] (Ba r.c path) else .fail
  | none => .fail
def bytesOf (b : ByteArray) : List Int := b.data.toList.map fun x => (x.toNat : Int)
def convP (P : Program) (s d : TypeId) (x : PV) (k : Nat) : Pr := match P.underlying s, P.underlying d, x with
 | _, some (.int k'), .int _ n => .ret (.int k' (k'.wrap n)) [] []
 | _, some .string, .str b => .ret (.str b) [] []
 | _, some (.slice e), .str b => (match P.underlying e with
  | some (.int .u8) => .ret (.ref k [] 1 0 b.size) [(k, some ⟨.iarr .u8 b.size (bytesOf b), false⟩)] []
  | _ => .fail)
 | _, _, _ => .fail
def strOf (l : List Int) : ByteArray := ⟨(l.map fun n => UInt8.ofNat n.toNat).toArray⟩
def F9 (c : PV) : Pr := match c with
 | .iarr .u8 _ l => .ret (.str (strOf l)) [] []
 | _ => .fail
def ET (d : Int) : Option PV → Option Int
 | none => some d
 | some (.int _ n) => some n
 | some _ => none
def Nk (P : Program) (t : TypeId) (x : PV) (lo hi : Option PV) : Pr := match ET 0 lo with
 | none => .fail
 | some l => match P.underlying t, x with
  | some .string, .str s => (match ET s.size hi with
   | some h => .ret (.str (s.extract l.toNat h.toNat)) [] [0 ≤ l, l ≤ h, h ≤ s.size]
   | none => .fail)
  | some (.slice e), .vec nl c => (match ET (Aa c) hi with
   | some h => if Nat.beq (P.cellsOf e) (Am c) && DN P e then .ret (.vec nl (sub c l.toNat (h - l).toNat)) [] [0 ≤ l, l ≤ h, h ≤ Aa c] else .fail
   | none => .fail)
  | some (.slice e), .ref id path s off n => (match ET n hi with
   | some h => if Nat.beq (P.cellsOf e) s && DN P e then .ret (.ref id path s (off + l.toNat) (h - l).toNat) [] [0 ≤ l, l ≤ h, h ≤ n] else .fail
   | none => .fail)
  | some (.array n e), .at id path => (match ET n hi with
   | some h => .read id fun r => (match node r.c path with
    | some q => if Nat.beq (size q) (n * P.cellsOf e) && DN P e && Nat.ble n maxLen && !AO q then .ret (.ref id path (P.cellsOf e) l.toNat (h - l).toNat) [] ([0 ≤ l, l ≤ h, h ≤ n] ++ Ba r.c path) else .fail
    | none => .fail)
   | none => .fail)
  | _, _ => .fail
def Ns (P : Program) (t : TypeId) (x : PV) (i : Nat) : Pr := match P.underlying t with
 | some (.struct fs) => (match fs[i]?, x with
  | some f, .st _ ps => (match ps[i]? with
   | some q => if Nat.beq (Ar (ps.take i)) f.offset && Nat.beq (P.cellsOf f.type) (size q) && (Bn P f.type == isAgg q) && !AO q && GD P f.type then .ret q [] [] else .fail
   | none => .fail)
  | _, _ => .fail)
 | _ => .fail
def F8 (P : Program) (t : TypeId) (x : PV) (i : Nat) : Pr := match P.underlying t with
 | some (.struct fs) => (match fs[i]? with
  | some f => if Nat.beq (P.cellsOf f.type) 0 then .fail else (match x with
   | .at id path => .ret (.at id (path ++ [.fld i f.offset])) [] []
   | .cptr c path => .ret (.cptr c (path ++ [.fld i f.offset])) [] []
   | _ => .fail)
  | none => .fail)
 | _ => .fail
def F7 (P : Program) (t : TypeId) (x : PV) (ix : PV) : Pr := match ix with
 | .int _ i => (match P.underlying t, x with
  | some (.array n e), .at id path => if DN P e then .ret (.at id (path ++ [.idx i.toNat (P.cellsOf e)])) [] [0 ≤ i, i < n] else .fail
  | some (.array n e), .cptr c path => if DN P e then .ret (.cptr c (path ++ [.idx i.toNat (P.cellsOf e)])) [] [0 ≤ i, i < n] else .fail
  | some (.slice e), .vec _ c => if Nat.beq (P.cellsOf e) (Am c) && DN P e then .ret (.cptr c [.idx i.toNat (P.cellsOf e)]) [] [0 ≤ i, i < Aa c] else .fail
  | some (.slice e), .ref id path s off n => if Nat.beq (P.cellsOf e) s && DN P e then .ret (.at id (path ++ [.idx (off + i.toNat) s])) [] [0 ≤ i, i < n] else .fail
  | _, _ => .fail)
 | _ => .fail
def LK (s : ByteArray) (i : Int) : Int := ((s.data.getD i.toNat 0).toNat : Int)
def Nr (P : Program) (t : TypeId) (x : PV) (ix : PV) : Pr := match ix with
 | .int _ i => (match P.underlying t, x with
  | some (.array n e), c => if Bb c then (match child c (.idx i.toNat (P.cellsOf e)) with
   | some q => if Nat.beq (P.cellsOf e) (size q) && (Bn P e == isAgg q) && Nat.beq n (Aa c) && !AO q && GD P e then .ret q [] [0 ≤ i, i < n] else .fail
   | none => .fail) else .fail
  | some .string, .str s => .ret (.int .u8 (LK s i)) [] [0 ≤ i, i < s.size]
  | _, _ => .fail)
 | _ => .fail
def lenP (P : Program) (t : TypeId) (x : PV) : Pr := match P.underlying t, x with
 | some .string, .str s => .ret (.int .i64 s.size) [] []
 | some (.array n _), _ => if Nat.ble n maxLen then .ret (.int .i64 n) [] [] else .fail
 | some (.slice _), .vec _ c => .ret (.int .i64 (Aa c)) [] []
 | some (.slice _), .ref _ _ _ _ n => .ret (.int .i64 n) [] []
 | _, _ => .fail
def mx (x y : Int) : Int := if y > x then y else x
def mn (x y : Int) : Int := if y < x then y else x
def GL (f : Int → Int → Int) (k : IntKind) (x : Int) : List PV → Option Int
 | [] => some x
 | .int k' y :: r => if IntKind.same k k' then GL f k (f x y) r else none
 | _ => none
def maxP (f : Int → Int → Int) : List PV → Pr
 | .int k x :: r => (match GL f k x r with
  | some m => .ret (.int k m) [] []
  | none => .fail)
 | _ => .fail
def Ma (c d : PV) : Option PV := match c, d with
 | .iarr k n l, .iarr k' m l' => if IntKind.same k k' then some (.iarr k (n + m) (l ++ l')) else none
 | .parr s n sh l, .parr s' m sh' l' => if Nat.beq s s' && Sh.beq sh sh' then some (.parr s (n + m) sh (l ++ l')) else none
 | _, _ => none
def QZ (P : Program) (e : TypeId) (n : Nat) : List Prop := [n * P.bytesOf e ≤ 140737488355328, n ≤ maxLen]
def ME (P : Program) (e : TypeId) (s d : PV) (k : Nat) (emp : Bool) : Pr := match s with
 | .vec true c => if emp then (if DN P e && Nat.beq (P.cellsOf e) (Am d) then .ret (.vec true c) [] [Aa c = 0, Aa d = 0] else .fail) else if Nat.beq (P.cellsOf e) (Am d) && Nat.beq (Aa c) 0 && DN P e && (zeroOf P e).isSome then
   .ret (.ref k [] (P.cellsOf e) 0 (Aa d)) [(k, some ⟨d, false⟩)] ([0 < Aa d] ++ QZ P e (Aa d)) else .fail
 | .ref id [] sz off n => .read id fun r => if r.frz || !Bb r.c || !Nat.beq (P.cellsOf e) sz || !Nat.beq sz (Am r.c) || !DN P e || !(zeroOf P e).isSome then .fail else
   (match Ma (sub r.c off n) d with
   | some c' => .ret (.ref k [] sz 0 (n + Aa d)) [(id, none), (k, some ⟨c', false⟩)] ([off + n = Aa r.c] ++ QZ P e (n + Aa d))
   | none => .fail)
 | _ => .fail
def Ev (x : PV) (K : PV → Pr) : Pr := match x with
 | .vec _ c => K c
 | .ref id path sz off n => .read id fun r => (match node r.c path with
  | some q => if Bb q && Nat.beq sz (Am q) then (K (sub q off n)).need ([off + n ≤ Aa q] ++ Ba r.c path) else .fail
  | none => .fail)
 | .str s => K (.iarr .u8 s.size (bytesOf s))
 | _ => .fail
def H6 (P : Program) (t : TypeId) : Bool := match P.underlying t with
 | some (.slice _) | some .string => true
 | _ => false
def LB (P : Program) (t t2 : TypeId) (s x : PV) (k : Nat) (emp : Bool) : Pr := match P.underlying t with
 | some (.slice e) => if H6 P t2 then Ev x fun d => ME P e s d k emp else .fail
 | _ => .fail
def Oc (op : BinOp) (a b : PV) : Option Bool := match op, a, b with
 | .eql, .vec nl _, .vec true _ => some nl
 | .eql, .ref .., .vec true _ => some false
 | .eql, .at .., .nilp | .eql, .cptr .., .nilp => some false
 | .eql, .nilp, .nilp => some true
 | .neq, .vec nl _, .vec true _ => some (!nl)
 | .neq, .ref .., .vec true _ => some true
 | .neq, .at .., .nilp | .neq, .cptr .., .nilp => some true
 | .neq, .nilp, .nilp => some false
 | _, _, _ => none
def nilT (P : Program) (t : TypeId) (x : PV) : Bool := match P.underlying t, x with
 | some (.slice _), .vec .. | some (.slice _), .ref .. | some (.pointer _), .at .. | some (.pointer _), .cptr .. | some (.pointer _), .nilp => true
 | _, _ => false
def sizes (c : Call) (n : Nat) : Bool := Nat.beq c.args.size n && Nat.beq c.argTypes.size n
def rowOk (P : Program) (e : TypeId) (z : PV) : Bool := match P.underlying e with
 | some (.int k) => (match z with
  | .int k' x => IntKind.same k k' && decide (x = 0)
  | _ => false)
 | _ => Nat.beq (size z) (P.cellsOf e) && conf (BF P 8 e) z && noref z
def makeP (P : Program) (t : TypeId) (l c : PV) (k : Nat) : Pr := match P.underlying t, l, c with
 | some (.slice e), .int _ n, .int _ m => (match zeroOf P e with
  | some z => if DN P e && rowOk P e z then .ret (.ref k [] (P.cellsOf e) 0 n.toNat) [(k, some ⟨FO P e n.toNat z, false⟩)] [0 ≤ n, n ≤ m, m ≤ 9223372036854775807, (P.bytesOf e : Int) * m ≤ 140737488355328] else .fail
  | none => .fail)
 | _, _, _ => .fail
def spl {α : Type} (l : List α) (off : Nat) (x : List α) : List α := l.take off ++ (x ++ l.drop (off + x.length))
def mnN (a b : Nat) : Nat := if Nat.ble a b then a else b
def L6 (q : PV) (off : Nat) (d : PV) : Option PV := match q, d with
 | .iarr k n l, .iarr k' _ l' => if IntKind.same k k' then some (.iarr k n (spl l off l')) else none
 | .parr s n sh l, .parr s' _ sh' l' => if Nat.beq s s' && Sh.beq sh sh' then some (.parr s n sh (spl l off l')) else none
 | _, _ => none
def copyP (P : Program) (t1 t2 : TypeId) (d x : PV) : Pr := match P.underlying t1 with
 | some (.slice e) => if H6 P t2 && DN P e then Ev x fun src => match d with
  | .vec _ c => if Nat.beq (Am src) (P.cellsOf e) then .ret (.int .i64 0) [] [Aa c = 0] else .fail
  | .ref id path sz off n => .read id fun r => if r.frz then .fail else match node r.c path with
   | some q => if Bb q && Nat.beq sz (Am q) && Nat.beq sz (P.cellsOf e) && Nat.beq (Am src) sz then (match L6 q off (sub src 0 (mnN (Aa src) n)) with
    | some q' => (match setNode q' r.c path with
     | some c' => .ret (.int .i64 (mnN (Aa src) n)) [(id, some ⟨c', false⟩)] ([off + n ≤ Aa q] ++ Ba r.c path)
     | none => .fail)
    | none => .fail) else .fail
   | none => .fail
  | _ => .fail else .fail
 | _ => .fail
def setN (v c : PV) (path : List Stp) : Option PV := match path with
 | [] => some v
 | p :: l => setNode v c (p :: l)
def NF (P : Program) (t1 : TypeId) (d : PV) : Pr := match P.underlying t1 with
 | some (.slice e) => (match zeroOf P e with
  | some z => if DN P e && rowOk P e z then (match d with
   | .ref id path sz off n => .read id fun r => if r.frz then .fail else match node r.c path with
    | some q => if Bb q && Nat.beq sz (Am q) && Nat.beq sz (P.cellsOf e) then (match L6 q off (FO P e n z) with
     | some q' => (match setN q' r.c path with
      | some c' => .ret (.tup []) [(id, some ⟨c', false⟩)] ([off + n ≤ Aa q] ++ Ba r.c path)
      | none => .fail)
     | none => .fail) else .fail
    | none => .fail
   | _ => .fail) else .fail
  | none => .fail)
 | _ => .fail
def G7 : Fn → List PV → List PV → Pr
 | .func f, [], [.at id []] => if Nat.beq f 1000000 then .fail else .ret (.fn f id) [] []
 | .func f, [], [.at i [], .at j []] => .ret (.fn2 f i j) [] []
 | .func f, [p], [] => if isAgg p && noref p then .ret (.fb f p) [] [] else .fail
 | _, _, _ => .fail
def GX : PV → PV → Bool
 | .str a, .str b => decide (a = b)
 | .iarr _ _ l, .iarr _ _ m => decide (l = m)
 | _, _ => false
def Cv (ks : List PV) (q : PV) : Bool := ks.any fun k => GX q k
def BI : List PV → List Int → PV → Int
 | k :: ks, n :: l, q => if GX q k then n else BI ks l q
 | _, _, _ => 0
def JP : List PV → List Int → PV → Int → List Int
 | k :: ks, n :: l, q, x => if GX q k then x :: l else n :: JP ks l q x
 | _, l, _, _ => l
def keyT (P : Program) (kt : TypeId) (sh : Sh) : Bool := match P.underlying kt, sh with
 | some .string, .str => true
 | some (.array n e), .iarr _ m => (match P.underlying e with
  | some (.int _) => Nat.beq n m && Nat.beq (P.cellsOf e) 1
  | _ => false)
 | _, _ => false
def OM (P : Program) (t : TypeId) (sh : Sh) (k : IntKind) : Bool := match P.underlying t with
 | some (.map kt et) => keyT P kt sh && (match P.underlying et with
  | some (.int k') => IntKind.same k k' && (match (P.info? et).bind (·.zero) with
   | some (.int k2 z) => IntKind.same k k2 && decide (z = 0)
   | _ => false)
  | _ => false)
 | _ => false
def Jj (P : Program) (t : TypeId) : Option PV := match P.underlying t with
 | some (.map kt et) => (match P.underlying et, P.underlying kt with
  | some (.int k), some .string => some (.tup [.tup [.parr 1 0 .str [], .iarr k 0 []]])
  | some (.int k), some (.array n e) => (match P.underlying e with
   | some (.int ke) => some (.tup [.tup [.parr n 0 (.iarr ke n) [], .iarr k 0 []]])
   | _ => none)
  | _, _ => none)
 | _ => none
def LQ (P : Program) (t : TypeId) (c q : PV) (ok : Bool) : Pr := match c with
 | .tup [.tup [.parr _ _ sh ks, .iarr k _ l]] => if OM P t sh k && conf sh q then (if ok then .ret (.tup [.int k (BI ks l q), .bool (Cv ks q)]) [] [] else .ret (.int k (BI ks l q)) [] []) else .fail
 | _ => .fail
def L9 (P : Program) (t : TypeId) (id : Nat) (r : Row) (q x : PV) (emp : Bool) : Pr := if r.frz then .fail else match r.c, x with
 | .tup [.tup [.parr s n sh ks, .iarr k m l]], .int k' v => if OM P t sh k && conf sh q && IntKind.same k k' && Nat.beq (size q) s then
   (if emp then .ret .undef [(id, some ⟨.tup [.tup [.parr s n sh ks, .iarr k m (JP ks l q v)]], false⟩)] [Cv ks q = true]
    else .ret .undef [(id, some ⟨.tup [.tup [.parr s (n + 1) sh (ks ++ [q]), .iarr k (m + 1) (l ++ [v])]], false⟩)] [Cv ks q = false]) else .fail
 | _, _ => .fail
def mapP (P : Program) (G : Nat → Option PV) (o : Oper) (fr : Nat → PV) (k : Nat) (emp : Bool) : Pr := match o.op with
 | .makeMap t none => (match Jj P t with
  | some c => .ret (.fn 1000000 k) [(k, some ⟨c, false⟩)] []
  | none => .fail)
 | .lookup t x i ok => (match evO P G 0 fr x with
  | .fn f id => if Nat.beq f 1000000 then .read id fun r => LQ P t r.c (evO P G 0 fr i) ok else .fail
  | _ => .fail)
 | .mapUpdate t m q x => (match evO P G 0 fr m with
  | .fn f id => if Nat.beq f 1000000 then .read id fun r => L9 P t id r (evO P G 0 fr q) (evO P G 0 fr x) emp else .fail
  | _ => .fail)
 | .insert t m q x => (match evO P G 0 fr m with
  | .fn f id => if Nat.beq f 1000000 then .read id fun r => L9 P t id r (evO P G 0 fr q) (evO P G 0 fr x) emp else .fail
  | _ => .fail)
 | _ => .fail
def exec (P : Program) (G : Nat → Option PV) (o : Oper) (fr : Nat → PV) (k : Nat) (emp : Bool) : Pr :=
 match o.op with
 | .move x | .assign x => .ret (evO P G o.type fr x) [] []
 | .pick c a b => (match evO P G o.type fr c with
  | .bool true => .ret (evO P G o.type fr a) [] []
  | .bool false => .ret (evO P G o.type fr b) [] []
  | _ => .fail)
 | .alloc e => (match zeroOf P e with
  | some z => .ret (.at k []) [(k, some ⟨z, false⟩)] []
  | none => .fail)
 | .box e x => let v := evO P G e fr x
  if good v then .ret (.at k []) [(k, some ⟨v, false⟩)] [] else .fail
 | .build t parts => (match NN P t (Ck (evO P G 0 fr) parts.toList) with
  | some c => .ret c [] []
  | none => .fail)
 | .buildSlice t n parts => CG P t n (Ck (evO P G 0 fr) parts.toList) k
 | .load t x => (match evO P G 0 fr x with
  | .at id path => .read id fun r => Ig P t r.c path
  | .cptr c path => Ig P t c path
  | _ => .fail)
 | .store t x v => (match evO P G 0 fr x with
  | .at id path => JU P t id path (evO P G t fr v)
  | _ => .fail)
 | .nilCheck x => (match evO P G 0 fr x with
  | .at id path => .ret (.at id path) [] []
  | .cptr c path => .ret (.cptr c path) [] []
  | _ => .fail)
 | .binOp op xT x y yT => (match Oc op (evO P G xT fr x) (evO P G xT fr y) with
  | some b => if nilT P xT (evO P G xT fr x) then .ret (.bool b) [] [] else .fail
  | none => binQ P xT op (evO P G xT fr x) (evO P G yT fr y))
 | .unOp op xT x => unP op (evO P G xT fr x)
 | .convert s d x => (match P.underlying d, evO P G s fr x with
  | some .string, .vec _ c => (match P.underlying s with
   | some (.slice e) => (match P.underlying e with
    | some (.int .u8) => F9 c
    | _ => .fail)
   | _ => .fail)
  | some .string, .ref id path s0 off n => (match P.underlying s with
   | some (.slice e) => (match P.underlying e with
    | some (.int .u8) => Ev (.ref id path s0 off n) F9
    | _ => .fail)
   | _ => .fail)
  | _, x => if GD P s then convP P s d x k else .fail)
 | .makeSlice t l c => makeP P t (evO P G 0 fr l) (evO P G 0 fr c) k
 | .slice t x lo hi none => Nk P t (evO P G t fr x) (lo.map (evO P G 0 fr)) (hi.map (evO P G 0 fr))
 | .fieldAddr t x i => F8 P t (evO P G 0 fr x) i
 | .field t x i => Ns P t (evO P G t fr x) i
 | .indexAddr t x ix => F7 P t (evO P G t fr x) (evO P G 0 fr ix)
 | .index t x ix => Nr P t (evO P G t fr x) (evO P G 0 fr ix)
 | .extract x i => (match evO P G 0 fr x with
  | .tup ps => (match ps[i]? with
   | some p => .ret p [] []
   | none => .fail)
  | _ => .fail)
 | .call c => (match c.callee with
  | .builtin .len => if !sizes c 1 then .fail else lenP P (c.argTypes.getD 0 0) (evO P G (c.argTypes.getD 0 0) fr (c.args.getD 0 (.func 0)))
  | .builtin .max => maxP mx (c.args.toList.map fun x => evO P G 0 fr x)
  | .builtin .min => maxP mn (c.args.toList.map fun x => evO P G 0 fr x)
  | .builtin .clear => if !sizes c 1 then .fail else NF P (c.argTypes.getD 0 0) (evO P G (c.argTypes.getD 0 0) fr (c.args.getD 0 (.func 0)))
  | .builtin .copy => if !sizes c 2 then .fail else copyP P (c.argTypes.getD 0 0) (c.argTypes.getD 1 0) (evO P G (c.argTypes.getD 0 0) fr (c.args.getD 0 (.func 0))) (evO P G (c.argTypes.getD 1 0) fr (c.args.getD 1 (.func 0)))
  | .builtin .append => if !sizes c 2 then .fail else LB P (c.argTypes.getD 0 0) (c.argTypes.getD 1 0) (evO P G (c.argTypes.getD 0 0) fr (c.args.getD 0 (.func 0))) (evO P G (c.argTypes.getD 1 0) fr (c.args.getD 1 (.func 0))) k emp
  | _ => .fail)
 | .makeFunc f first caps => G7 f (first.toList.map fun x => evO P G 0 fr x) (caps.toList.map fun x => evO P G 0 fr x)
 | _ => mapP P G o fr k emp
end Go.Pe
namespace Go.Pe
theorem Ac.less {C : Ctx} {F F' : Nat → Prop} {ρ : Pls} {s : St} {a : Act} {w : World} (h : Ac C F ρ s a w) (hF : ∀ i, F' i → F i) : Ac C F' ρ s a w :=
 ⟨h.defers, h.size, h.fr, h.heap, fun i hi => h.free i (hF i hi), h.inn, h.frame, h.glob, h.amb⟩
theorem Cf {P : Program} {o : Oper} {a : Act} {w w' : World} {K : Act → World → Prop} {Q : Exit → Act → World → Prop} {u : Value}
  (hr : (execOp a.eval o).run P w = .ok (.value u) w') (hK : K (a.put o.dst u) w') : o.wp P a w K Q := by
 unfold Oper.wp
 rw [hr]
 exact hK
theorem Jl {P : Program} {o : Oper} {a : Act} {w w' : World} {K : Act → World → Prop} {Q : Exit → Act → World → Prop}
  (hr : (execOp a.eval o).run P w = .ok .skip w') (hK : K (a.put o.dst Go.undef) w') : o.wp P a w K Q := by
 unfold Oper.wp
 rw [hr]
 exact hK
def Goes (C : Ctx) (F : Nat → Prop) (ρ : Pls) (s : St) (a : Act) (w : World) (o : Oper) (k : Nat) (v : PV) (ups : List (Nat × Option Row)) : Prop :=
 ∀ (K : Act → World → Prop) (Q : Exit → Act → World → Prop),
  (∀ (u : Value) (w' : World) (ρ' : Pls), Ext ρ ρ' → Ac C (fun id => F id ∧ (id < k ∨ k + 16 ≤ id)) ρ' { s with hp := Ai s.hp ups } a w' →
   (v ≠ .undef → RV w' (Tc C ρ' (Ai s.hp ups)) ρ' u v) → K (a.put o.dst u) w') → o.wp C.P a w K Q
section
variable {C : Ctx} {F : Nat → Prop} {ρ : Pls} {s : St} {a : Act} {w : World} {o : Oper} {k : Nat}
theorem Goes.pure (h : Ac C F ρ s a w) {v : PV} {u : Value} (hr : (execOp a.eval o).run C.P w = .ok (.value u) w) (hv : v ≠ .undef → RV w (Tc C ρ s.hp) ρ u v) : Goes C F ρ s a w o k v [] :=
 fun _ _ hK => Cf hr (hK u w ρ (Ext.refl _) (h.less fun _ hi => hi.1) hv)
theorem QG : ∀ (p : PV), wfB p = true → WF p := by
 intro p
 exact PV.rec (motive_1 := fun p => wfB p = true → WF p) (motive_2 := fun l => wfBL l = true → WFL l)
  (fun k n h => by simpa [wfB, WF] using h) (fun _ _ => trivial) (fun _ _ => trivial)
  (fun n fs ih h => by simp only [wfB, Bool.and_eq_true] at h; exact ⟨Nat.eq_of_beq_eq_true h.1, ih h.2⟩)
  (fun k n l h => by
   simp only [wfB, Bool.and_eq_true, List.all_eq_true, decide_eq_true_eq] at h
   exact ⟨Nat.eq_of_beq_eq_true h.1, h.2⟩)
  (fun s n sh l ih h => by
   simp only [wfB, Bool.and_eq_true, List.all_eq_true] at h
   exact ⟨Nat.eq_of_beq_eq_true h.1.1, ih h.1.2, fun q hq => ⟨Nat.eq_of_beq_eq_true (h.2 q hq).1.1, (h.2 q hq).1.2, (h.2 q hq).2⟩⟩)
  (fun vs _ h => by simp [wfB] at h)
  (fun nl c ih h => by
   simp only [wfB, Bool.and_eq_true, Bool.or_eq_true, Bool.not_eq_true'] at h
   refine ⟨ih h.1.1, h.1.2, fun e => ?_⟩
   rcases h.2 with h2 | h2
   ·rw [e] at h2; cases h2
   ·exact Nat.eq_of_beq_eq_true h2)
  (fun c path _ h => by simp [wfB] at h)
  (fun _ _ _ => trivial) (fun _ _ _ _ _ _ => trivial) (fun _ => trivial) (fun _ _ _ => trivial) (fun _ _ _ _ => trivial) (fun _ _ => trivial) (fun f p _ h => by simp [wfB] at h) (fun _ => trivial)
  (fun _ => trivial) (fun p l ih1 ih2 h => by simp only [wfBL, Bool.and_eq_true] at h; exact ⟨ih1 h.1, ih2 h.2⟩) p
theorem O9 {w : World} {T : T2} {q : PV} {v : Value} (h : Nv q v = true) : RC w T v q := by
 unfold Nv at h
 split at h
 ·simp only [Bool.and_eq_true, decide_eq_true_eq] at h
  obtain ⟨h1, rfl⟩ := h
  rw [IntKind.same_eq h1]
  exact .int _ _
 ·simp only [beq_iff_eq] at h
  subst h
  exact .bool _
 ·rename_i x y
  simp only [Bool.and_eq_true] at h
  have h1 := Nat.eq_of_beq_eq_true h.1
  have h2 := Nat.eq_of_beq_eq_true h.2
  have : x = y := by
   obtain ⟨⟨x⟩⟩ := x
   obtain ⟨⟨y⟩⟩ := y
   simp [ByteArray.size] at h1 h2
   subst h1; subst h2; rfl
  subst this
  exact .str _ (by omega)
 ·exact .nilp
 ·simp only [Bool.and_eq_true] at h
  exact .vec0 _ _ _ _ (Nat.eq_of_beq_eq_true h.2) (by simp [h.1]) (fun _ => rfl)
 ·exact .undef _ h
 ·exact .fv _ rfl
 ·cases h
theorem Et {w : World} {T : T2} : ∀ {l : List PV} {m : List Value}, Df l m = true → l.length = m.length ∧ ∀ (j : Nat) (q : PV) (u : Value), l[j]? = some q → m[j]? = some u → RC w T u q
 | [], [], _ => ⟨rfl, fun j q u hq => by simp at hq⟩
 | [], _ :: _, h => by simp [Df] at h
 | _ :: _, [], h => by simp [Df] at h
 | q :: l, v :: m, h => by
  simp only [Df, Bool.and_eq_true] at h
  obtain ⟨h1, h2⟩ := Et (w := w) (T := T) h.2
  refine ⟨by simp [h1], fun j x u hx hu => ?_⟩
  cases j with
  | zero => simp at hx hu; subst hx; subst hu; exact O9 h.1
  | succ j => simp at hx hu; exact h2 j x u hx hu
theorem Bz {P : Program} {t : TypeId} {z : PV} (h : zeroOf P t = some z) :
  ∃ v, (∀ w', (zeroValue t).run P w' = .ok v w') ∧ v.cells.size = size z ∧ size z = P.cellsOf t ∧ WF z ∧ AO z = false ∧ z ≠ .undef ∧ (∀ (T : T2) (ρ : Pls) (j : Nat) (q : PV) (u : Value), (flat z)[j]? = some q → v.cells[j]? = some u → RO w T ρ u q) := by
 unfold zeroOf at h
 split at h
 ·rename_i v hv
  split at h
  ·rename_i hb
   simp only [Bool.and_eq_true] at hb
   have h := Option.some.inj h
   subst h
   obtain ⟨⟨⟨h1, h2⟩, h3⟩, h4⟩ := hb
   have hwf := QG _ h2
   have hl : (flat (DJ P 9 t)).length = v.cells.toList.length := (Et (w := w) (T := fun _ _ => True) h1).1
   rw [Ae _ hwf] at hl
   have ht : AO (DJ P 9 t) = false := by
    simp only [good, Bool.and_eq_true, Bool.not_eq_true'] at h4; exact h4.1
   cases hi : P.info? t with
   | none => simp [hi] at hv
   | some i =>
    simp only [hi, Option.bind_some] at hv
    refine ⟨v, ?_, by simpa using hl.symm, Nat.eq_of_beq_eq_true h3, hwf, ht, ?_, fun T ρ j q u hq hu => ?_⟩
    ·intro w'; simp [zeroValue, typeInfo, program, Sem.run, hi, hv]
    ·intro he; rw [he] at h4; simp [good, BG] at h4
    ·exact RO.Be ((Et (w := w) (T := T) h1).2 j q u hq (by simpa using hu))
  ·cases h
 ·cases h
theorem Ml (P : Program) (e : TypeId) : WF (D6 P e) ∧ Bb (D6 P e) = true ∧ Aa (D6 P e) = 0 := by
 unfold D6
 split <;> simp [WF, WFL, Bb, Aa]
theorem Ni {P : Program} {t : TypeId} {v : Value} {T : T2} (hne : I9 P t v ≠ .undef) : RV w T ρ v (I9 P t v) := by
 unfold I9 at hne ⊢
 split at hne
 ·split at hne
  ·rename_i hk
   rw [if_pos hk]
   exact RV.Ap rfl (fun _ e => by cases e) (by simpa [WF] using hk) (by simp only [RO]; exact .int _ _)
  ·exact absurd rfl hne
 ·exact RV.Ap rfl (fun _ e => by cases e) trivial (by simp only [RO]; exact .bool _)
 ·split at hne
  ·rename_i hk
   rw [if_pos hk]
   exact RV.Ap rfl (fun _ e => by cases e) trivial (by simp only [RO]; exact .str _ (Nat.le_of_ble_eq_true hk))
  ·exact absurd rfl hne
 ·exact RV.Ap rfl (fun _ e => by cases e) trivial (by simp only [RO]; exact .nilp)
 ·have key : ∀ c : PV, WF c → Bb c = true → Aa c = 0 → RV w T ρ (.slice none 0 0) (.vec true c) := fun c h1 h2 h3 =>
   RV.Ap rfl (fun _ e => by cases e) (by simp only [WF]; exact ⟨h1, h2, fun _ => h3⟩) (by simp only [RO]; exact .vec0 _ _ _ _ h3 rfl (fun _ => rfl))
  show RV w T ρ _ (nilOf P t)
  unfold nilOf
  split
  ·rename_i e _
   obtain ⟨h1, h2, h3⟩ := Ml P e
   exact key _ h1 h2 h3
  ·exact key _ (by simp [WF, WFL]) rfl rfl
 ·exact absurd rfl hne
theorem AA (h : Ac C F ρ s a w) (t : TypeId) (x : Operand) (hne : evO C.P C.G t s.fr x ≠ .undef) : RV w (Tc C ρ s.hp) ρ (a.eval x) (evO C.P C.G t s.fr x) := by
 cases x with
 | tmp i => exact (h.fr i hne).2
 | const v => exact Ni hne
 | global g =>
  simp only [evO] at hne ⊢
  cases hg : C.G g with
  | none => rw [hg] at hne; exact absurd rfl hne
  | some c =>
   obtain ⟨h1, h2, h3⟩ := h.glob g c hg
   exact RV.Ap rfl (fun _ e => by cases e) (by simp only [WF]; exact ⟨h1, h2⟩) (by simp only [RO]; exact h3)
 | func f => exact RV.Ap rfl (fun _ e => by cases e) trivial (by simp only [evO, RO]; exact .fv _ rfl)
theorem BD (h : Ac C F ρ s a w) {t : TypeId} {x : Operand} {kd : IntKind} {n : Int} (he : evO C.P C.G t s.fr x = .int kd n) : a.eval x = .int kd n ∧ kd.wrap n = n := by
 have := AA h t x (by rw [he]; intro e; cases e)
 rw [he] at this
 have h2 := this.AJ rfl (fun _ e => by cases e)
 simp only [RO] at h2
 generalize hv : a.eval x = v at *
 cases h2
 exact ⟨rfl, this.1⟩
theorem D5 (h : Ac C F ρ s a w) {t : TypeId} {x : Operand} {b : Bool} (he : evO C.P C.G t s.fr x = .bool b) : a.eval x = .bool b := by
 have := AA h t x (by rw [he]; intro e; cases e)
 rw [he] at this
 have h2 := this.AJ rfl (fun _ e => by cases e)
 simp only [RO] at h2
 generalize hv : a.eval x = v at *
 cases h2
 rfl
theorem Dx (h : Ac C F ρ s a w) {t : TypeId} {x : Operand} {b : ByteArray} (he : evO C.P C.G t s.fr x = .str b) : a.eval x = .string b ∧ b.size ≤ maxLen := by
 have := AA h t x (by rw [he]; intro e; cases e)
 rw [he] at this
 have h2 := this.AJ rfl (fun _ e => by cases e)
 simp only [RO] at h2
 generalize hv : a.eval x = v at *
 cases h2
 exact ⟨rfl, by assumption⟩
theorem CR (h : Ac C F ρ s a w) {t : TypeId} {x : Operand} {id : Nat} {path : List Stp} (he : evO C.P C.G t s.fr x = .at id path) :
  ∃ pl, ρ id = some pl ∧ a.eval x = .pointer (some ⟨pl.g, pl.off + Af path, none⟩) := by
 have := AA h t x (by rw [he]; intro e; cases e)
 rw [he] at this
 have h2 := this.AJ rfl (fun _ e => by cases e)
 simpa only [RO] using h2
theorem Fj (h : Ac C F ρ s a w) {t : TypeId} {x : Operand} {c : PV} {path : List Stp} (he : evO C.P C.G t s.fr x = .cptr c path) :
  WF c ∧ noref c = true ∧ RC w (Tc C ρ s.hp) (a.eval x) (.cptr c path) := by
 have := AA h t x (by rw [he]; intro e; cases e)
 rw [he] at this
 have h2 := this.AJ rfl (fun _ e => by cases e)
 have h1 := this.1
 simp only [WF] at h1
 simp only [RO] at h2
 exact ⟨h1.1, h1.2, h2⟩
theorem K3 (h : Ac C F ρ s a w) {x : Operand} (ho : o.op = .move x ∨ o.op = .assign x) : Goes C F ρ s a w o k (evO C.P C.G o.type s.fr x) [] :=
 Goes.pure h (by rcases ho with ho | ho <;> simp [execOp, ho]) fun hne => AA h o.type x hne
theorem KR (h : Ac C F ρ s a w) {c x y : Operand} {b : Bool} (ho : o.op = .pick c x y) (hc : evO C.P C.G o.type s.fr c = .bool b) :
  Goes C F ρ s a w o k (evO C.P C.G o.type s.fr (if b then x else y)) [] := by
 have hc' := D5 h hc
 refine Goes.pure h (u := a.eval (if b then x else y)) ?_ fun hne => AA h o.type _ hne
 simp only [execOp, ho, hc', asBool]
 cases b <;> simp
theorem Jv {P : Program} (e : TypeId) (v : Value) : (newVar e v).run P w = .ok ⟨w.heap.size, 0, none⟩ (w.alloc (.cells v.cells e)) := by
 rfl
theorem Ms (h : Ac C F ρ s a w) (hF : F k) {e : TypeId} {v : Value} {c : PV} (hr : (execOp a.eval o).run C.P w = .ok (.value (.pointer (some ⟨w.heap.size, 0, none⟩))) (w.alloc (.cells v.cells e)))
  (hw : WF c) (hs : v.cells.size = size c) (hl : ∀ (j : Nat) (q : PV) (u : Value), (flat c)[j]? = some q → v.cells[j]? = some u → RO w (Tc C ρ s.hp) ρ u q) :
  Goes C F ρ s a w o k (.at k []) [(k, some ⟨c, false⟩)] := by
 intro K Q hK
 have h' := h.alloc hF v.cells e (0, 0) c hw (by omega) (by simp) hl
 refine Cf hr (hK _ _ _ (Ext.upd _ (h.free k hF).1) (h'.less fun i hi => ⟨hi.1, by omega⟩) fun _ => ?_)
 refine RV.Ap rfl (fun _ e => by cases e) trivial ?_
 simp only [RO]
 exact ⟨_, upd_same _ _ _, by simp [Af]⟩
theorem Nn (h : Ac C F ρ s a w) (hF : F k) {e : TypeId} {z : PV} (ho : o.op = .alloc e) (hz : zeroOf C.P e = some z) : Goes C F ρ s a w o k (.at k []) [(k, some ⟨z, false⟩)] := by
 obtain ⟨v, h1, h2, h3, h4, h5, h6, h7⟩ := Bz (w := w) hz
 refine Ms h hF (v := v) (e := e) ?_ h4 h2 (h7 _ _)
 simp only [execOp, ho, Instr.alloc, Sem.run_bind, h1, Result.andThen_ok, Jv, Sem.run_pure]
theorem FE {v : PV} (h : good v = true) : (∀ vs, v ≠ .tup vs) ∧ v ≠ .undef := by
 refine ⟨fun vs e => ?_, fun e => ?_⟩ <;> (subst e; simp [good, AO, BG] at h)
theorem QH (h : Ac C F ρ s a w) (hF : F k) {e : TypeId} {x : Operand} (ho : o.op = .box e x) (hg : good (evO C.P C.G e s.fr x) = true) :
  Goes C F ρ s a w o k (.at k []) [(k, some ⟨evO C.P C.G e s.fr x, false⟩)] := by
 obtain ⟨h1, h2⟩ := FE hg
 have hr := AA h e x h2
 obtain ⟨h3, h4⟩ := hr.Kh h1
 refine Ms h hF (v := a.eval x) (e := e) ?_ hr.1 h3 h4
 simp only [execOp, ho, Instr.box, Sem.run_bind, Jv, Result.andThen_ok, Sem.run_pure]
end
end Go.Pe
namespace Go.Pe
theorem A9 (b o i : Nat) : (⟨b, o, none⟩ : Addr).add i = ⟨b, o + i, none⟩ := by
 unfold Addr.add
 split
 ·rename_i h; subst h; simp
 ·rfl
theorem Cg : ∀ (p q : List Stp), Af (p ++ q) = Af p + Af q
 | [], q => by simp [Af]
 | s :: p, q => by simp only [List.cons_append, Af, Cg p q]; omega
theorem wrap_i8 (n : Int) : IntKind.i8.wrap n = (n + 128) % 256 - 128 := by
 simp [IntKind.wrap, IntKind.bits, IntKind.signed]
 split <;> omega
theorem QJ (n : Int) : IntKind.i16.wrap n = (n + 32768) % 65536 - 32768 := by
 simp [IntKind.wrap, IntKind.bits, IntKind.signed]
 split <;> omega
theorem KT (k : IntKind) : ∃ lo m : Int, 0 < m ∧ k.min = lo ∧ k.max = lo + m - 1 ∧ ∀ n, k.wrap n = (n - lo) % m + lo := by
 cases k
 ·exact ⟨-128, 256, by decide, by decide, by decide, fun n => by rw [wrap_i8]; omega⟩
 ·exact ⟨-32768, 65536, by decide, by decide, by decide, fun n => by rw [QJ]; omega⟩
 ·exact ⟨-2147483648, 4294967296, by decide, by decide, by decide, fun n => by rw [IntKind.wrap_i32]; omega⟩
 ·exact ⟨-9223372036854775808, 18446744073709551616, by decide, by decide, by decide, fun n => by rw [IntKind.wrap_i64]; omega⟩
 ·exact ⟨0, 256, by decide, by decide, by decide, fun n => by simp [IntKind.wrap, IntKind.bits, IntKind.signed]⟩
 ·exact ⟨0, 65536, by decide, by decide, by decide, fun n => by simp [IntKind.wrap, IntKind.bits, IntKind.signed]⟩
 ·exact ⟨0, 4294967296, by decide, by decide, by decide, fun n => by simp [IntKind.wrap, IntKind.bits, IntKind.signed]⟩
 ·exact ⟨0, 18446744073709551616, by decide, by decide, by decide, fun n => by simp [IntKind.wrap, IntKind.bits, IntKind.signed]⟩
theorem Au (k : IntKind) (n : Int) : k.wrap n = n ↔ k.min ≤ n ∧ n ≤ k.max := by
 obtain ⟨lo, m, hm, h1, h2, h3⟩ := KT k
 rw [h1, h2, h3]
 have a1 := Int.emod_nonneg (n - lo) (Int.ne_of_gt hm)
 have a2 := Int.emod_lt_of_pos (n - lo) hm
 constructor
 ·intro h; omega
 ·rintro ⟨b1, b2⟩
  rw [Int.emod_eq_of_lt (by omega) (by omega)]
  omega
theorem wrap_wrap (k : IntKind) (n : Int) : k.wrap (k.wrap n) = k.wrap n := by
 rw [Au]
 obtain ⟨lo, m, hm, h1, h2, h3⟩ := KT k
 rw [h1, h2, h3]
 have a1 := Int.emod_nonneg (n - lo) (Int.ne_of_gt hm)
 have a2 := Int.emod_lt_of_pos (n - lo) hm
 omega
theorem Fh (k : IntKind) : k.min ≤ 0 ∧ 0 ≤ k.max := by cases k <;> decide
theorem tmod_in {k : IntKind} {x y : Int} (hx : k.wrap x = x) : k.wrap (x.tmod y) = x.tmod y := by
 rw [Au] at hx ⊢
 have hz := Fh k
 rcases Int.le_total 0 x with h | h
 ·have h1 := Int.tmod_nonneg y h
  have h2 : x.tmod y ≤ x := by
   have := Int.natAbs_tmod x y
   have h3 : x.natAbs % y.natAbs ≤ x.natAbs := Nat.mod_le _ _
   omega
  omega
 ·have h1 : x.tmod y ≤ 0 := by
   have h3 := Int.neg_tmod (-x) y
   rw [Int.neg_neg] at h3
   have := Int.tmod_nonneg y (show 0 ≤ -x by omega)
   omega
  have h2 : x ≤ x.tmod y := by
   have := Int.natAbs_tmod x y
   have h3 : x.natAbs % y.natAbs ≤ x.natAbs := Nat.mod_le _ _
   omega
  omega
theorem fdiv_in {k : IntKind} {x : Int} (n : Nat) (hx : k.wrap x = x) : k.wrap (x.fdiv (2 ^ n)) = x.fdiv (2 ^ n) := by
 rw [Au] at hx ⊢
 have hz := Fh k
 have hp : (0 : Int) < 2 ^ n := Int.pow_pos (by decide)
 rw [Int.fdiv_eq_ediv_of_nonneg _ (Int.le_of_lt hp)]
 have e := Int.emod_add_mul_ediv x (2 ^ n)
 have m0 := Int.emod_nonneg x (Int.ne_of_gt hp)
 have m1 := Int.emod_lt_of_pos x hp
 generalize x / 2 ^ n = q at *
 generalize (2 : Int) ^ n = d at *
 rcases Int.le_total 0 x with h | h
 ·have h1 : 0 ≤ q := by
   rcases Int.lt_or_le q 0 with hq | hq
   ·have := Int.mul_le_mul_of_nonneg_left (show q ≤ -1 by omega) (Int.le_of_lt hp)
    omega
   ·exact hq
  have h2 : q ≤ d * q := by
   have := Int.mul_le_mul_of_nonneg_right (show 1 ≤ d by omega) h1
   omega
  omega
 ·have h1 : q ≤ 0 := by
   rcases Int.lt_or_le 0 q with hq | hq
   ·have := Int.mul_le_mul_of_nonneg_left (show 1 ≤ q by omega) (Int.le_of_lt hp)
    omega
   ·exact hq
  have h2 : x ≤ q := by
   rcases Int.lt_or_le q x with hq | hq
   ·have := Int.mul_le_mul_of_nonneg_left (show q + 1 ≤ x by omega) (Int.le_of_lt hp)
    rw [Int.mul_add] at this
    have h3 := Int.mul_le_mul_of_nonpos_right (show 1 ≤ d by omega) h1
    have h4 : q + 1 ≤ 0 := by omega
    have h5 := Int.mul_le_mul_of_nonpos_right (show 1 ≤ d by omega) h4
    rw [Int.mul_add] at h5
    omega
   ·exact hq
  omega
section
variable {C : Ctx} {F : Nat → Prop} {ρ : Pls} {s : St} {a : Act} {w : World} {o : Oper} {k : Nat}
theorem RV.int {w : World} {T : T2} {ρ : Pls} {kd : IntKind} {n : Int} (h : kd.wrap n = n) : RV w T ρ (.int kd n) (.int kd n) :=
 RV.Ap rfl (fun _ e => by cases e) (by simpa only [WF] using h) (by simp only [RO]; exact .int _ _)
theorem RV.bool {w : World} {T : T2} {ρ : Pls} (b : Bool) : RV w T ρ (.bool b) (.bool b) :=
 RV.Ap rfl (fun _ e => by cases e) trivial (by simp only [RO]; exact .bool _)
theorem RV.str {w : World} {T : T2} {ρ : Pls} {b : ByteArray} (h : b.size ≤ maxLen) : RV w T ρ (.string b) (.str b) :=
 RV.Ap rfl (fun _ e => by cases e) trivial (by simp only [RO]; exact .str _ h)
theorem Goes.NY (h : Ac C F ρ s a w) {pr : Pr} {v : PV} {ups : List (Nat × Option Row)} {ob : List Prop} {rd : List Nat} (hx : pr.run s.hp = some (v, ups, ob, rd)) (hob : All ob)
  (H : ∀ v ob, pr = .ret v [] ob → All ob → ∃ u, (execOp a.eval o).run C.P w = .ok (.value u) w ∧ (v ≠ .undef → RV w (Tc C ρ s.hp) ρ u v)) (hne : ∃ v ob, pr = .ret v [] ob ∨ pr = .fail) : Goes C F ρ s a w o k v ups := by
 obtain ⟨v', ob', e | e⟩ := hne
 ·subst e
  simp only [Pr.run, Option.some.injEq, Prod.mk.injEq] at hx
  obtain ⟨rfl, rfl, rfl, _⟩ := hx
  obtain ⟨u, h1, h2⟩ := H v' ob' rfl hob
  exact Goes.pure h h1 h2
 ·subst e
  simp [Pr.run] at hx
theorem PL {op : BinOp} {kd : IntKind} {x y : Int} {v : PV} {ob : List Prop} (hs : Lu op = false) (hx : kd.wrap x = x) (he : arith op kd x y = .ret v [] ob) (hob : All ob) (P : Program) (t : TypeId) (X Y : Operand) :
  ∃ u, (do eqGuard op t X Y (.int kd x) (.int kd y); binOp op t (.int kd x) (.int kd y) : Sem Value).run P w = .ok u w ∧ ∀ (T : T2) (ρ : Pls), RV w T ρ u v := by
 have hg : ∀ op, (eqGuard op t X Y (.int kd x) (.int kd y)).run P w = .ok () w := fun op => by
  cases op <;> rfl
 cases op <;> simp only [Lu, Bool.true_eq_false] at hs <;> simp only [arith, Pr.ret.injEq] at he
 all_goals (obtain ⟨rfl, _, rfl⟩ := he)
 case quo =>
  have hy : y ≠ 0 := hob.head
  exact ⟨_, by simp only [Sem.run_bind, hg, Result.andThen_ok, binOp, ne_eq, not_true_eq_false, if_false, Op.intDiv, if_neg hy, Sem.run_pure], fun T ρ => RV.int (wrap_wrap _ _)⟩
 case rem =>
  have hy : y ≠ 0 := hob.head
  exact ⟨_, by simp only [Sem.run_bind, hg, Result.andThen_ok, binOp, ne_eq, not_true_eq_false, if_false, Op.intDiv, if_neg hy, Sem.run_pure], fun T ρ => RV.int (tmod_in hx)⟩
 case add | sub | mul => exact ⟨_, by simp only [Sem.run_bind, hg, Result.andThen_ok, binOp, ne_eq, not_true_eq_false, if_false, Op.intArith, Sem.run_pure], fun T ρ => RV.int (wrap_wrap _ _)⟩
 case and => exact ⟨_, by simp only [Sem.run_bind, hg, Result.andThen_ok, binOp, ne_eq, not_true_eq_false, if_false, intBits_and, Sem.run_pure], fun T ρ => RV.int (wrap_wrap _ _)⟩
 case or => exact ⟨_, by simp only [Sem.run_bind, hg, Result.andThen_ok, binOp, ne_eq, not_true_eq_false, if_false, intBits_or, Sem.run_pure], fun T ρ => RV.int (wrap_wrap _ _)⟩
 case xor => exact ⟨_, by simp only [Sem.run_bind, hg, Result.andThen_ok, binOp, ne_eq, not_true_eq_false, if_false, intBits_xor, Sem.run_pure], fun T ρ => RV.int (wrap_wrap _ _)⟩
 case andNot => exact ⟨_, by simp only [Sem.run_bind, hg, Result.andThen_ok, binOp, ne_eq, not_true_eq_false, if_false, intBits_andNot, Sem.run_pure], fun T ρ => RV.int (wrap_wrap _ _)⟩
 all_goals exact ⟨_, by simp only [Sem.run_bind, hg, Result.andThen_ok, binOp, ne_eq, not_true_eq_false, if_false, Op.intCmp, Sem.run_pure], fun T ρ => RV.bool _⟩
theorem Pj {op : BinOp} {kd kd' : IntKind} {x y : Int} {v : PV} {ob : List Prop} (hx : kd.wrap x = x) (he : NB op kd x y = .ret v [] ob) (hob : All ob) (P : Program) (t : TypeId) (X Y : Operand) :
  ∃ u, (do eqGuard op t X Y (.int kd x) (.int kd' y); binOp op t (.int kd x) (.int kd' y) : Sem Value).run P w = .ok u w ∧ ∀ (T : T2) (ρ : Pls), RV w T ρ u v := by
 have hg : ∀ op, (eqGuard op t X Y (.int kd x) (.int kd' y)).run P w = .ok () w := fun op => by
  cases op <;> rfl
 cases op <;> simp only [NB, Pr.ret.injEq, reduceCtorEq] at he
 all_goals (obtain ⟨rfl, _, rfl⟩ := he)
 all_goals (have hy : ¬ y < 0 := by have := hob.head; omega)
 ·exact ⟨_, by simp only [Sem.run_bind, hg, Result.andThen_ok, binOp, Op.shift, if_neg hy, Sem.run_pure], fun T ρ => RV.int (wrap_wrap _ _)⟩
 ·exact ⟨_, by simp only [Sem.run_bind, hg, Result.andThen_ok, binOp, Op.shift, if_neg hy, Sem.run_pure], fun T ρ => RV.int (fdiv_in _ hx)⟩
theorem str_run {op : BinOp} {x y : ByteArray} {v : PV} {ob : List Prop} (he : strP op x y = .ret v [] ob) (hob : All ob) (P : Program) (t : TypeId) (X Y : Operand) :
  ∃ u, (do eqGuard op t X Y (.string x) (.string y); binOp op t (.string x) (.string y) : Sem Value).run P w = .ok u w ∧ ∀ (T : T2) (ρ : Pls), RV w T ρ u v := by
 have hg : ∀ op, (eqGuard op t X Y (.string x) (.string y)).run P w = .ok () w := fun op => by
  cases op <;> rfl
 cases op <;> simp only [strP, Pr.ret.injEq, reduceCtorEq] at he
 all_goals (obtain ⟨rfl, _, rfl⟩ := he)
 case add =>
  have hm : x.size + y.size ≤ maxLen := hob.head
  have hlt : ¬ ((x.size + y.size : Nat) : Int) > IntKind.i64.max := by
   have e : IntKind.i64.max = 9223372036854775807 := by decide
   rw [e]
   unfold maxLen at hm
   omega
  exact ⟨_, by simp only [Sem.run_bind, hg, Result.andThen_ok, binOp, Op.stringOp, if_neg hlt, Sem.run_pure], fun T ρ => RV.str (by rw [ByteArray.size_append]; exact hm)⟩
 all_goals exact ⟨_, by simp only [Sem.run_bind, hg, Result.andThen_ok, binOp, Op.stringOp, Sem.run_pure], fun T ρ => RV.bool _⟩
end
end Go.Pe
namespace Go.Pe
section
variable {C : Ctx} {F : Nat → Prop} {ρ : Pls} {s : St} {a : Act} {w : World} {o : Oper} {k : Nat}
theorem NT (h : Ac C F ρ s a w) {op : BinOp} {xT yT : TypeId} {x y : Operand} (ho : o.op = .binOp op xT x y yT) {v : PV} {ups : List (Nat × Option Row)} {ob : List Prop} {rd : List Nat}
  (hx : (binP C.P xT op (evO C.P C.G xT s.fr x) (evO C.P C.G yT s.fr y)).run s.hp = some (v, ups, ob, rd)) (hob : All ob) : Goes C F ρ s a w o k v ups := by
 have hrun : ∀ u, (do eqGuard op xT x y (a.eval x) (a.eval y); binOp op xT (a.eval x) (a.eval y) : Sem Value).run C.P w = .ok u w → (execOp a.eval o).run C.P w = .ok (.value u) w := by
  intro u hu
  simp only [execOp, ho]
  rw [Sem.run_bind, hu]
  rfl
 generalize hA : evO C.P C.G xT s.fr x = A at hx
 generalize hB : evO C.P C.G yT s.fr y = B at hx
 unfold binP at hx
 split at hx
 ·rename_i kd n kd' m
  obtain ⟨e1, w1⟩ := BD h hA
  obtain ⟨e2, w2⟩ := BD h hB
  split at hx
  ·refine Goes.NY h hx hob (fun v ob he hob => ?_) ?_
   ·obtain ⟨u, h1, h2⟩ := Pj (w := w) w1 he hob C.P xT x y (kd' := kd')
    exact ⟨u, hrun u (by rw [e1, e2]; exact h1), fun _ => h2 _ _⟩
   ·cases op <;> first | exact ⟨.undef, [], .inr rfl⟩ | exact ⟨_, _, .inl rfl⟩
  ·rename_i hsh
   split at hx
   ·rename_i hk
    have hk := IntKind.same_eq hk
    subst hk
    refine Goes.NY h hx hob (fun v ob he hob => ?_) ?_
    ·obtain ⟨u, h1, h2⟩ := PL (w := w) (by simpa using hsh) w1 he hob C.P xT x y
     exact ⟨u, hrun u (by rw [e1, e2]; exact h1), fun _ => h2 _ _⟩
    ·cases op <;> first | exact ⟨.undef, [], .inr rfl⟩ | exact ⟨_, _, .inl rfl⟩
   ·simp [Pr.run] at hx
 ·rename_i p q
  have e1 := D5 h hA
  have e2 := D5 h hB
  split at hx
  ·rename_i hb
   have hu : C.P.underlying xT = some .bool := by
    unfold Oz at hb
    split at hb
    ·assumption
    ·cases hb
   have hg : ∀ op, (eqGuard op xT x y (.bool p) (.bool q)).run C.P w = .ok () w := fun op => by cases op <;> rfl
   have heq : (Op.equal xT (.bool p) (.bool q)).run C.P w = .ok (p == q) w := by
    show (Op.equalIn (9999 + 1) xT (.bool p) (.bool q)).run C.P w = _
    rw [Op.equalIn, Sem.run_bind, run_underlying hu, Result.andThen_ok]
    rfl
   split at hx <;> simp only [Pr.run, Option.some.injEq, Prod.mk.injEq, reduceCtorEq] at hx
   all_goals obtain ⟨rfl, rfl, _, _⟩ := hx
   ·exact Goes.pure h (hrun _ (by rw [e1, e2, Sem.run_bind, hg, Result.andThen_ok]; simp only [binOp, Sem.run_bind, heq, Result.andThen_ok, Sem.run_pure])) fun _ => RV.bool _
   ·exact Goes.pure h (hrun _ (by rw [e1, e2, Sem.run_bind, hg, Result.andThen_ok]; simp only [binOp, Sem.run_bind, heq, Result.andThen_ok, Sem.run_pure])) fun _ => RV.bool _
  ·simp [Pr.run] at hx
 ·rename_i p q
  obtain ⟨e1, _⟩ := Dx h hA
  obtain ⟨e2, _⟩ := Dx h hB
  refine Goes.NY h hx hob (fun v ob he hob => ?_) ?_
  ·obtain ⟨u, h1, h2⟩ := str_run (w := w) he hob C.P xT x y
   exact ⟨u, hrun u (by rw [e1, e2]; exact h1), fun _ => h2 _ _⟩
  ·cases op <;> first | exact ⟨.undef, [], .inr rfl⟩ | exact ⟨_, _, .inl rfl⟩
 ·simp [Pr.run] at hx
theorem PO (h : Ac C F ρ s a w) {op : UnOp} {xT : TypeId} {x : Operand} (ho : o.op = .unOp op xT x) {v : PV} {ups : List (Nat × Option Row)} {ob : List Prop} {rd : List Nat}
  (hx : (unP op (evO C.P C.G xT s.fr x)).run s.hp = some (v, ups, ob, rd)) : Goes C F ρ s a w o k v ups := by
 generalize hA : evO C.P C.G xT s.fr x = A at hx
 unfold unP at hx
 split at hx <;> simp only [Pr.run, Option.some.injEq, Prod.mk.injEq, reduceCtorEq] at hx
 all_goals obtain ⟨rfl, rfl, _, _⟩ := hx
 ·obtain ⟨e1, _⟩ := BD h hA
  exact Goes.pure h (by simp only [execOp, ho, e1, Op.unary, Op.intArith]; rfl) fun _ => RV.int (wrap_wrap _ _)
 ·obtain ⟨e1, _⟩ := BD h hA
  exact Goes.pure h (by simp only [execOp, ho, e1, Op.unary, intBits_xor]; rfl) fun _ => RV.int (wrap_wrap _ _)
 ·have e1 := D5 h hA
  exact Goes.pure h (by simp only [execOp, ho, e1, Op.unary]; rfl) fun _ => RV.bool _
theorem KD {P : Program} {t : TypeId} (h : GD P t = true) : (Go.isAgg t).run P w = .ok (Bn P t) w := by
 unfold GD at h
 cases hu : P.underlying t with
 | none => rw [hu] at h; cases h
 | some d =>
  unfold Go.isAgg Bn
  rw [Sem.run_bind, run_underlying hu, Result.andThen_ok, hu]
  cases d <;> rfl
theorem CU {P : Program} {t : TypeId} (h : GD P t = true) : ∃ i, P.info? t = some i := by
 unfold GD Program.underlying at h
 cases hi : P.info? t with
 | none => rw [hi] at h; cases h
 | some i => exact ⟨i, rfl⟩
theorem Aj {P : Program} {t : TypeId} {i : TypeInfo} (h : P.info? t = some i) : (Go.sizeOf t).run P w = .ok (P.cellsOf t) w := by
 simp [Go.sizeOf, typeInfo, program, Sem.run, h, Program.cellsOf]
def LY (w : World) (T : T2) (ρ : Pls) (b o : Nat) (q : PV) : Prop := ∀ (j : Nat) (x : PV), (flat q)[j]? = some x → ∃ u, w.cell? ⟨b, o + j, none⟩ = some u ∧ RO w T ρ u x
theorem EQ {P : Program} {t : TypeId} {T : T2} {b off : Nat} {q : PV} (hw : WF q) (hs : P.cellsOf t = size q) (ha : Bn P t = Pe.isAgg q) (ht : AO q = false) (hok : GD P t = true) (hc : LY w T ρ b off q) :
  ∃ v, (loadVar t ⟨b, off, none⟩).run P w = .ok v w ∧ RV w T ρ v q := by
 obtain ⟨i, hi⟩ := CU hok
 have hlen := Ae q hw
 have htup : ∀ vs, q ≠ .tup vs := fun vs e => by subst e; cases ht
 unfold loadVar
 rw [Sem.run_bind, KD hok, Result.andThen_ok, ha]
 cases hg : Pe.isAgg q with
 | true =>
  have hex : ∀ j, ∃ u, j < size q → w.cell? ⟨b, off + j, none⟩ = some u ∧ ∀ x, (flat q)[j]? = some x → RO w T ρ u x := by
   intro j
   by_cases hj : j < size q
   ·have : (flat q)[j]? = some (flat q)[j] := List.getElem?_eq_getElem (by omega)
    obtain ⟨u, h1, h2⟩ := hc j _ this
    exact ⟨u, fun _ => ⟨h1, fun x hx => by rw [this] at hx; cases hx; exact h2⟩⟩
   ·exact ⟨Go.undef, fun h => absurd h hj⟩
  obtain ⟨f, hf⟩ := Classical.axiomOfChoice hex
  have hl := run_loadCells (P := P) w ⟨b, off, none⟩ (size q) f (fun j hj => by rw [A9]; exact (hf j hj).1)
  refine ⟨.agg ((List.range (size q)).map f).toArray, ?_, RV.Hz hg hw ⟨_, rfl, by simp, fun j x u hx hu => ?_⟩⟩
  ·simp only [if_true, Sem.run_bind, Aj hi, Result.andThen_ok, hs, hl, Sem.run_pure]
  ·have hj : j < size q := by have := (List.getElem?_eq_some_iff.1 hx).1; omega
   have hu' : u = f j := by
    simp [hj] at hu
    exact hu.symm
   rw [hu']
   exact (hf j hj).2 x hx
 | false =>
  have hl : Pe.leaf q = true := by rw [Pe.leaf_agg, hg]; rfl
  obtain ⟨u, h1, h2⟩ := hc 0 q (by rw [Ed hl]; rfl)
  refine ⟨u, ?_, RV.Ap hl htup hw h2⟩
  simp only [Nat.add_zero] at h1
  simp [run_load, h1]
theorem Dk {c : PV} {path : List Stp} {q : PV} (hn : node c path = some q) (hq : AO q = false) : AO c = false := by
 cases c <;> try rfl
 cases path with
 | nil => simp only [node, Option.some.injEq] at hn; subst hn; exact hq
 | cons s r => simp [node, child] at hn
theorem Bf {q : PV} (h : Bb q = true) : AO q = false := by cases q <;> simp [Bb] at h <;> rfl
theorem Ao.Cy {w : World} {T : T2} {ρ : Pls} {pl : Pl} {row : Row} (h : Ao w T ρ pl row) {path : List Stp} {q : PV} (hn : node row.c path = some q) (htq : AO q = false) (ho : All (Ba row.c path)) :
  WF q ∧ (noref row.c = true → noref q = true) ∧ Af path + size q ≤ size row.c ∧ LY w T ρ pl.g (pl.off + Af path) q := by
 obtain ⟨cs, t, fz, g1, g2, g3, g4, g5, g6⟩ := h.cell (Dk hn htq)
 obtain ⟨n1, n2, n3, n4⟩ := Dg path g4 hn ho
 refine ⟨n1, n4, n2, fun j x hx => ?_⟩
 have hj : j < size q := by
  have := (List.getElem?_eq_some_iff.1 hx).1
  rw [Ae q n1] at this
  exact this
 have hlt : pl.off + (Af path + j) < cs.size := by omega
 have hu : cs[pl.off + (Af path + j)]? = some cs[pl.off + (Af path + j)] := Array.getElem?_eq_getElem hlt
 refine ⟨_, ?_, g6 _ x _ (by rw [n3 j hj]; exact hx) hu⟩
 rw [Nat.add_assoc, AB g1]
 exact hu
theorem RC.Cy {w : World} {T : T2} {ρ : Pls} {v : Value} {c : PV} {path : List Stp} (hw : WF c) (h : RC w T v (.cptr c path)) {q : PV} {r : List Stp} (hn : node c (path ++ r) = some q) (ho : All (Ba c (path ++ r))) :
  ∃ b o, v = .pointer (some ⟨b, o + Af path, none⟩) ∧ WF q ∧ LY w T ρ b (o + Af (path ++ r)) q := by
 cases h with
 | cptr b o' _ _ us h1 h2 =>
  obtain ⟨n1, n2, n3, n4⟩ := Dg _ hw hn ho
  refine ⟨b, o', rfl, n1, fun j x hx => ?_⟩
  have hj : j < size q := by
   have := (List.getElem?_eq_some_iff.1 hx).1
   rw [Ae q n1] at this
   exact this
  have hx' : (flat c)[Af (path ++ r) + j]? = some x := by rw [n3 j hj]; exact hx
  exact ⟨us _, by rw [Nat.add_assoc]; exact (h1 _ x hx').2, RO.Be (h2 _ x hx')⟩
theorem LG (h : Ac C F ρ s a w) {t : TypeId} {x : Operand} (ho : o.op = .load t x) {id : Nat} {path : List Stp} (hx0 : evO C.P C.G 0 s.fr x = .at id path) {row : Row} (hr : s.hp id = some row)
  {v : PV} {ups : List (Nat × Option Row)} {ob : List Prop} {rd : List Nat} (hx : (Ig C.P t row.c path).run s.hp = some (v, ups, ob, rd)) (hob : All ob) : Goes C F ρ s a w o k v ups := by
 unfold Ig at hx
 split at hx
 ·rename_i q hq
  split at hx
  ·rename_i hb
   simp only [Bool.and_eq_true, Bool.not_eq_true', beq_iff_eq] at hb
   obtain ⟨⟨⟨b1, b2⟩, b3⟩, b4⟩ := hb
   simp only [Pr.run, Option.some.injEq, Prod.mk.injEq] at hx
   obtain ⟨rfl, rfl, rfl, _⟩ := hx
   obtain ⟨pl, p1, p2⟩ := CR h hx0
   obtain ⟨pl', p1', hrel⟩ := h.heap.row id row hr
   rw [p1] at p1'
   cases p1'
   obtain ⟨c1, _, _, c3⟩ := hrel.Cy hq b3 hob
   obtain ⟨u, h1, h2⟩ := EQ (P := C.P) c1 (Nat.eq_of_beq_eq_true b1) b2 b3 b4 c3
   exact Goes.pure h (by simp only [execOp, ho, p2, Instr.loadAt, Instr.sureAddr, Sem.run_bind, Sem.run_pure, Result.andThen_ok, h1]) fun _ => h2
  ·simp [Pr.run] at hx
 ·simp [Pr.run] at hx
theorem J6 (h : Ac C F ρ s a w) {t : TypeId} {x : Operand} (ho : o.op = .load t x) {c : PV} {path : List Stp} (hx0 : evO C.P C.G 0 s.fr x = .cptr c path)
  {v : PV} {ups : List (Nat × Option Row)} {ob : List Prop} {rd : List Nat} (hx : (Ig C.P t c path).run s.hp = some (v, ups, ob, rd)) (hob : All ob) : Goes C F ρ s a w o k v ups := by
 unfold Ig at hx
 split at hx
 ·rename_i q hq
  split at hx
  ·rename_i hb
   simp only [Bool.and_eq_true, Bool.not_eq_true', beq_iff_eq] at hb
   obtain ⟨⟨⟨b1, b2⟩, b3⟩, b4⟩ := hb
   simp only [Pr.run, Option.some.injEq, Prod.mk.injEq] at hx
   obtain ⟨rfl, rfl, rfl, _⟩ := hx
   obtain ⟨w1, _, w3⟩ := Fj h hx0
   obtain ⟨b, o', p2, c1, c3⟩ := RC.Cy (ρ := ρ) (r := []) w1 w3 (by rw [List.append_nil]; exact hq) (by rw [List.append_nil]; exact hob)
   rw [List.append_nil] at c3
   obtain ⟨u, h1, h2⟩ := EQ (P := C.P) c1 (Nat.eq_of_beq_eq_true b1) b2 b3 b4 c3
   exact Goes.pure h (by simp only [execOp, ho, p2, Instr.loadAt, Instr.sureAddr, Sem.run_bind, Sem.run_pure, Result.andThen_ok, h1]) fun _ => h2
  ·simp [Pr.run] at hx
 ·simp [Pr.run] at hx
theorem RA.ones {w : World} {T : T2} {ρ : Pls} {cs : Array Value} {v : PV} (hw : WF v) (hs : cs.size = size v) (h : ∀ (j : Nat) (q : PV) (u : Value), (flat v)[j]? = some q → cs[j]? = some u → RO w T ρ u q) : ∀ x ∈ cs.toList, x.oneCell' = true := by
 intro x hx
 obtain ⟨j, hj, rfl⟩ := List.getElem_of_mem hx
 have hj' : j < (flat v).length := by rw [Ae v hw]; simp at hj; omega
 exact (h j _ _ (List.getElem?_eq_getElem hj') (by simp at hj ⊢)).one
theorem H9 (h : Ac C F ρ s a w) {t : TypeId} {x y : Operand} (ho : o.op = .store t x y) {id : Nat} {path : List Stp} (hx0 : evO C.P C.G 0 s.fr x = .at id path) {p : PV} (hvr : p ≠ .undef → RV w (Tc C ρ s.hp) ρ (a.eval y) p)
  {v : PV} {ups : List (Nat × Option Row)} {ob : List Prop} {rd : List Nat} (hx : (JU C.P t id path p).run s.hp = some (v, ups, ob, rd)) (hob : All ob) : Goes C F ρ s a w o k v ups := by
 unfold JU at hx
 simp only [Pr.run] at hx
 split at hx
 ·rename_i row hr
  split at hx
  ·simp [Pr.run] at hx
  ·rename_i hfz
   simp only [Bool.or_eq_true, not_or, Bool.not_eq_true] at hfz
   obtain ⟨hfz, htu⟩ := hfz
   split at hx
   ·rename_i c' hc'
    split at hx
    ·rename_i hb
     simp only [Bool.and_eq_true] at hb
     simp only [Pr.run, Option.map_some, Option.some.injEq, Prod.mk.injEq] at hx
     obtain ⟨rfl, rfl, rfl, _⟩ := hx
     obtain ⟨g1, g2⟩ := FE hb.2
     have hv := hvr g2
     obtain ⟨c1, c2⟩ := hv.Kh g1
     obtain ⟨pl, p1, p2⟩ := CR h hx0
     obtain ⟨pl', p1', hrel⟩ := h.heap.row id row hr
     rw [p1] at p1'
     cases p1'
     obtain ⟨cs, tt, fz, r1, r2, r3, r4, r5, r6⟩ := hrel.cell htu
     have hset := CX p hv.1 path r4 hc' hob
     have hle := hset.2.2.1
     have hfz' : row.frz = false := hfz
     obtain ⟨i, hi⟩ := CU hb.1.2
     have hst := run_storeCells_cells (P := C.P) pl.g (pl.off + Af path) (a.eval y).cells.toList 0 w (fun j hj => by
       simp at hj
       rw [Nat.add_zero, AB r1, Array.getElem?_eq_getElem (by omega)]; rfl)
      (fun j hj => by
       simp at hj
       have := r5 (Af path + j) (by omega)
       simp only [World.frozen?, r1]
       rw [← Nat.add_assoc] at this
       simpa using this) (RA.ones hv.1 c1 c2)
     have h' := h.store hr hfz' p1 htu hset (a.eval y).cells.toList (by simpa using c1) (fun j q u hq hu => c2 j q u hq (by simpa using hu))
     intro K Q hK
     refine Jl (w' := w.setCells pl.g (pl.off + Af path) (a.eval y).cells.toList) ?_ (hK _ _ ρ (Ext.refl _) (h'.less fun _ hi => hi.1) fun hne => absurd rfl hne)
     have hsz : (a.eval y).cells.size = C.P.cellsOf t := by rw [c1, Nat.eq_of_beq_eq_true hb.1.1]
     simp only [execOp, ho, p2, Instr.storeAt, Instr.sureAddr, storeVar, Sem.run_bind, Sem.run_pure, Result.andThen_ok, Aj hi, hsz, ne_eq, not_true_eq_false, if_false]
     rw [hst]
     rfl
    ·simp [Pr.run] at hx
   ·simp [Pr.run] at hx
 ·cases hx
theorem Og (h : Ac C F ρ s a w) {t : TypeId} {x y : Operand} (ho : o.op = .store t x y) {id : Nat} {path : List Stp} (hx0 : evO C.P C.G 0 s.fr x = .at id path)
  {v : PV} {ups : List (Nat × Option Row)} {ob : List Prop} {rd : List Nat} (hx : (JU C.P t id path (evO C.P C.G t s.fr y)).run s.hp = some (v, ups, ob, rd)) (hob : All ob) : Goes C F ρ s a w o k v ups :=
 H9 h ho hx0 (fun hne => AA h t y hne) hx hob
end
end Go.Pe
namespace Go.Pe
section
variable {C : Ctx} {F : Nat → Prop} {ρ : Pls} {s : St} {a : Act} {w : World} {o : Oper} {k : Nat}
theorem Az {P : Program} {t : TypeId} (h : P.cellsOf t ≠ 0) : ∃ i, P.info? t = some i := by
 cases hi : P.info? t with
 | none => simp [Program.cellsOf, hi] at h
 | some i => exact ⟨i, rfl⟩
theorem A8 {P : Program} {e : TypeId} (h : DN P e = true) : P.cellsOf e ≠ 0 := by
 intro h0
 simp [DN, h0] at h
theorem RV.at_ {w : World} {T : T2} {id : Nat} {pl : Pl} (h : ρ id = some pl) (path : List Stp) {x : Nat} (hx : x = pl.off + Af path) : RV w T ρ (.pointer (some ⟨pl.g, x, none⟩)) (.at id path) :=
 RV.Ap rfl (fun _ e => by cases e) trivial (by simp only [RO]; exact ⟨pl, h, by rw [hx]⟩)
theorem RV.cptr_ {w : World} {T : T2} {v : Value} {c : PV} {path : List Stp} (hw : WF c) (hn : noref c = true) (h : RC w T v (.cptr c path)) (r : List Stp) :
  ∃ b x, v = .pointer (some ⟨b, x, none⟩) ∧ RV w T ρ (.pointer (some ⟨b, x + Af r, none⟩)) (.cptr c (path ++ r)) := by
 cases h with
 | cptr b o' _ _ us h1 h2 =>
  refine ⟨b, _, rfl, RV.Ap rfl (fun _ e => by cases e) (by simp only [WF]; exact ⟨hw, hn⟩) ?_⟩
  simp only [RO]
  rw [Nat.add_assoc, ← Cg]
  exact .cptr b o' c _ us h1 h2
theorem Jy (h : Ac C F ρ s a w) {t : TypeId} {x : Operand} {i : Nat} (ho : o.op = .fieldAddr t x i) {v : PV} {ups : List (Nat × Option Row)} {ob : List Prop} {rd : List Nat}
  (hx : (F8 C.P t (evO C.P C.G 0 s.fr x) i).run s.hp = some (v, ups, ob, rd)) : Goes C F ρ s a w o k v ups := by
 unfold F8 at hx
 split at hx
 ·rename_i fs hu
  split at hx
  ·rename_i f hf
   split at hx
   ·simp [Pr.run] at hx
   ·rename_i hz
    have hz' : C.P.cellsOf f.type ≠ 0 := by intro e; rw [e] at hz; exact hz rfl
    obtain ⟨inf, hi⟩ := Az hz'
    have hrun : ∀ b off, (execOp a.eval o).run C.P w = .ok (.value (.pointer (some ⟨b, off + f.offset, none⟩))) w ∨ a.eval x ≠ .pointer (some ⟨b, off, none⟩) := by
     intro b off
     by_cases he : a.eval x = .pointer (some ⟨b, off, none⟩)
     ·left
      simp only [execOp, ho, he, Instr.fieldAt, Instr.sureAddr, fieldPlace, Sem.run_bind, run_underlying hu, Result.andThen_ok, hf, Sem.run_pure, Aj hi, if_neg hz', A9]
     ·exact .inr he
    split at hx
    ·rename_i id path hA
     simp only [Pr.run, Option.some.injEq, Prod.mk.injEq] at hx
     obtain ⟨rfl, rfl, _, _⟩ := hx
     obtain ⟨pl, p1, p2⟩ := CR h hA
     refine Goes.pure h ((hrun _ _).resolve_right (fun hne => hne p2)) fun _ => RV.at_ p1 _ ?_
     simp only [Cg, Af, Stp.off]; omega
    ·rename_i c path hA
     simp only [Pr.run, Option.some.injEq, Prod.mk.injEq] at hx
     obtain ⟨rfl, rfl, _, _⟩ := hx
     obtain ⟨w1, w2, w3⟩ := Fj h hA
     obtain ⟨b, y, p2, p3⟩ := RV.cptr_ (ρ := ρ) w1 w2 w3 [.fld i f.offset]
     exact Goes.pure h ((hrun _ _).resolve_right (fun hne => hne p2)) fun _ => p3
    ·simp [Pr.run] at hx
  ·simp [Pr.run] at hx
 ·simp [Pr.run] at hx
theorem CV (h : Ac C F ρ s a w) {t : TypeId} {x : Operand} {nl : Bool} {c : PV} (he : evO C.P C.G t s.fr x = .vec nl c) :
  WF c ∧ Bb c = true ∧ RC w (Tc C ρ s.hp) (a.eval x) (.vec nl c) := by
 have := AA h t x (by rw [he]; intro e; cases e)
 rw [he] at this
 have h2 := this.AJ rfl (fun _ e => by cases e)
 have h1 := this.1
 simp only [WF] at h1
 simp only [RO] at h2
 exact ⟨h1.1, h1.2.1, h2⟩
theorem Cz (h : Ac C F ρ s a w) {t : TypeId} {x : Operand} {id : Nat} {path : List Stp} {sz off n : Nat} (he : evO C.P C.G t s.fr x = .ref id path sz off n) :
  ∃ pl A c, ρ id = some pl ∧ a.eval x = .slice (some A) n c ∧ n ≤ c ∧ c ≤ maxLen ∧ (0 < c → A = ⟨pl.g, pl.off + (Af path + off * sz), none⟩ ∧ Af path + off * sz + c * sz ≤ pl.ext) := by
 have := AA h t x (by rw [he]; intro e; cases e)
 rw [he] at this
 have h2 := this.AJ rfl (fun _ e => by cases e)
 simpa only [RO] using h2
theorem Hu {c : PV} (h : Bb c = true) : noref c = true := by cases c <;> simp [Bb] at h <;> rfl
theorem Ki (h : Ac C F ρ s a w) {t : TypeId} {x y : Operand} (ho : o.op = .indexAddr t x y) {v : PV} {ups : List (Nat × Option Row)} {ob : List Prop} {rd : List Nat}
  (hx : (F7 C.P t (evO C.P C.G t s.fr x) (evO C.P C.G 0 s.fr y)).run s.hp = some (v, ups, ob, rd)) (hob : All ob) : Goes C F ρ s a w o k v ups := by
 unfold F7 at hx
 split at hx
 ·rename_i kd i hI
  obtain ⟨e1, _⟩ := BD h hI
  split at hx
  ·rename_i n e id path hu hA
   split at hx
   ·rename_i hz
    simp only [Pr.run, Option.some.injEq, Prod.mk.injEq] at hx
    obtain ⟨rfl, rfl, rfl, _⟩ := hx
    have h0 := hob.head
    have h1 := hob.tail.head
    obtain ⟨inf, hi⟩ := Az (A8 hz)
    obtain ⟨pl, p1, p2⟩ := CR h hA
    refine Goes.pure h (u := .pointer (some ⟨pl.g, pl.off + Af path + i.toNat * C.P.cellsOf e, none⟩)) ?_ fun _ => RV.at_ p1 _ ?_
    ·simp only [execOp, ho, e1, p2, Instr.indexAt, asIntOf, Sem.run_bind, Sem.run_pure, Result.andThen_ok, run_underlying hu, Instr.sureAddr, h0, h1, and_self, if_true, Aj hi, A9]
    ·simp only [Cg, Af, Stp.off]; omega
   ·simp [Pr.run] at hx
  ·rename_i n e c path hu hA
   split at hx
   ·rename_i hz
    simp only [Pr.run, Option.some.injEq, Prod.mk.injEq] at hx
    obtain ⟨rfl, rfl, rfl, _⟩ := hx
    have h0 := hob.head
    have h1 := hob.tail.head
    obtain ⟨inf, hi⟩ := Az (A8 hz)
    obtain ⟨w1, w2, w3⟩ := Fj h hA
    obtain ⟨b, z, p2, p3⟩ := RV.cptr_ (ρ := ρ) w1 w2 w3 [.idx i.toNat (C.P.cellsOf e)]
    refine Goes.pure h ?_ fun _ => p3
    simp only [execOp, ho, e1, p2, Instr.indexAt, asIntOf, Sem.run_bind, Sem.run_pure, Result.andThen_ok, run_underlying hu, Instr.sureAddr, h0, h1, and_self, if_true, Aj hi, A9, Af, Stp.off, Nat.add_zero]
   ·simp [Pr.run] at hx
  ·rename_i e nl c hu hA
   split at hx
   ·rename_i hz
    simp only [Bool.and_eq_true] at hz
    simp only [Pr.run, Option.some.injEq, Prod.mk.injEq] at hx
    obtain ⟨rfl, rfl, rfl, _⟩ := hx
    have h0 := hob.head
    have h1 := hob.tail.head
    obtain ⟨inf, hi⟩ := Az (A8 hz.2)
    obtain ⟨w1, w2, w3⟩ := CV h hA
    generalize hv : a.eval x = vx at w3
    cases w3 with
    | vec0 A cc _ _ hl _ _ => exfalso; rw [hl] at h1; omega
    | vec1 b o' n cc _ us hn hc hm g1 g2 =>
     refine Goes.pure h (u := .pointer (some ⟨b, o' + Af [.idx i.toNat (C.P.cellsOf e)], none⟩)) ?_ fun _ => RV.Ap rfl (fun _ e => by cases e) (by simp only [WF]; exact ⟨w1, Hu w2⟩) (by simp only [RO]; exact .cptr b o' c _ us g1 g2)
     rw [hn] at h1
     simp only [execOp, ho, e1, hv, Instr.indexAt, asIntOf, Sem.run_bind, Sem.run_pure, Result.andThen_ok, run_underlying hu, h0, h1, and_self, if_true, Aj hi, A9, Af, Stp.off, Nat.add_zero]
   ·simp [Pr.run] at hx
  ·rename_i e id path sz off n hu hA
   split at hx
   ·rename_i hz
    simp only [Bool.and_eq_true] at hz
    simp only [Pr.run, Option.some.injEq, Prod.mk.injEq] at hx
    obtain ⟨rfl, rfl, rfl, _⟩ := hx
    have h0 := hob.head
    have h1 := hob.tail.head
    obtain ⟨inf, hi⟩ := Az (A8 hz.2)
    have hsz := Nat.eq_of_beq_eq_true hz.1
    obtain ⟨pl, A, c, p1, p2, p3, _, p4⟩ := Cz h hA
    obtain ⟨rfl, _⟩ := p4 (by omega)
    refine Goes.pure h (u := .pointer (some ⟨pl.g, pl.off + (Af path + off * sz) + i.toNat * sz, none⟩)) ?_ fun _ => RV.at_ p1 _ ?_
    ·simp only [execOp, ho, e1, p2, Instr.indexAt, asIntOf, Sem.run_bind, Sem.run_pure, Result.andThen_ok, run_underlying hu, h0, h1, and_self, if_true, Aj hi, A9, hsz]
    ·simp only [Cg, Af, Stp.off, Nat.add_mul]; omega
   ·simp [Pr.run] at hx
  ·simp [Pr.run] at hx
 ·simp [Pr.run] at hx
theorem JN {P : Program} {t : TypeId} {T : T2} {cs : Array Value} {off : Nat} {q : PV} (hw : WF q) (hs : P.cellsOf t = size q) (ha : Bn P t = Pe.isAgg q) (ht : AO q = false) (hok : GD P t = true)
  (hin : off + size q ≤ cs.size) (hc : ∀ (j : Nat) (x : PV) (u : Value), (flat q)[j]? = some x → cs[off + j]? = some u → RO w T ρ u x) : ∃ v, (part t cs off).run P w = .ok v w ∧ RV w T ρ v q := by
 obtain ⟨i, hi⟩ := CU hok
 have htup : ∀ vs, q ≠ .tup vs := fun vs e => by subst e; cases ht
 unfold part
 rw [Sem.run_bind, KD hok, Result.andThen_ok, ha]
 cases hg : Pe.isAgg q with
 | true =>
  refine ⟨.agg (cs.extract off (off + size q)), ?_, RV.Hz hg hw ⟨_, rfl, by simp; omega, fun j x u hx hu => ?_⟩⟩
  ·simp only [if_true, Sem.run_bind, Aj hi, Result.andThen_ok, hs, Sem.run_pure]
  ·have hj : j < size q := by
    have := (List.getElem?_eq_some_iff.1 hx).1
    rw [Ae q hw] at this
    exact this
   refine hc j x u hx ?_
   rw [Array.getElem?_extract, if_pos (by omega)] at hu
   exact hu
 | false =>
  have hl : Pe.leaf q = true := by rw [Pe.leaf_agg, hg]; rfl
  have hs1 : size q = 1 := by cases q <;> simp only [Pe.leaf, reduceCtorEq] at hl <;> rfl
  have hu : cs[off]? = some cs[off] := Array.getElem?_eq_getElem (by omega)
  refine ⟨cs[off], ?_, RV.Ap hl htup hw (hc 0 q _ (by rw [Ed hl]; rfl) (by simp))⟩
  simp [hu]
theorem OO (h : Ac C F ρ s a w) {t : TypeId} {x : Operand} (hne : evO C.P C.G t s.fr x ≠ .undef) (ha : Pe.isAgg (evO C.P C.G t s.fr x) = true) :
  WF (evO C.P C.G t s.fr x) ∧ RA w (Tc C ρ s.hp) ρ (a.eval x) (evO C.P C.G t s.fr x) := by
 have := AA h t x hne
 exact ⟨this.1, this.DF ha⟩
theorem NZ (h : Ac C F ρ s a w) {t : TypeId} {x : Operand} {i : Nat} (ho : o.op = .field t x i) {v : PV} {ups : List (Nat × Option Row)} {ob : List Prop} {rd : List Nat}
  (hx : (Ns C.P t (evO C.P C.G t s.fr x) i).run s.hp = some (v, ups, ob, rd)) : Goes C F ρ s a w o k v ups := by
 unfold Ns at hx
 split at hx
 ·rename_i fs hu
  split at hx
  ·rename_i f n ps hf hA
   split at hx
   ·rename_i q hq
    split at hx
    ·rename_i hb
     simp only [Bool.and_eq_true, Bool.not_eq_true', beq_iff_eq] at hb
     obtain ⟨⟨⟨⟨b0, b1⟩, b2⟩, b3⟩, b4⟩ := hb
     simp only [Pr.run, Option.some.injEq, Prod.mk.injEq] at hx
     obtain ⟨rfl, rfl, _, _⟩ := hx
     obtain ⟨w1, cs, w2, w3, w4⟩ := OO h (t := t) (x := x) (by rw [hA]; intro e; cases e) (by rw [hA]; rfl)
     rw [hA] at w1 w3 w4
     have hc : child (.st n ps) (.fld i f.offset) = some q := by simp only [child, b0, if_true, hq]
     obtain ⟨c1, c2, c3, c4⟩ := Gj w1 hc All.nil
     simp only [Stp.off] at c2 c3
     obtain ⟨u, h1, h2⟩ := JN (P := C.P) (w := w) (ρ := ρ) (T := Tc C ρ s.hp) (cs := cs) (off := f.offset) c1 (Nat.eq_of_beq_eq_true b1) b2 b3 b4 (by omega) (fun j y u hy hu => by
      have hj : j < size q := by
       have := (List.getElem?_eq_some_iff.1 hy).1
       rw [Ae q c1] at this
       exact this
      exact w4 _ y u (by rw [c3 j hj]; exact hy) hu)
     exact Goes.pure h (by simp only [execOp, ho, Instr.field, w2, asAgg, Sem.run_bind, run_underlying hu, Result.andThen_ok, hf, Sem.run_pure, h1]) fun _ => h2
    ·simp [Pr.run] at hx
   ·simp [Pr.run] at hx
  ·simp [Pr.run] at hx
 ·simp [Pr.run] at hx
theorem NJ (h : Ac C F ρ s a w) {t : TypeId} {x y : Operand} (ho : o.op = .index t x y) {v : PV} {ups : List (Nat × Option Row)} {ob : List Prop} {rd : List Nat}
  (hx : (Nr C.P t (evO C.P C.G t s.fr x) (evO C.P C.G 0 s.fr y)).run s.hp = some (v, ups, ob, rd)) (hob : All ob) : Goes C F ρ s a w o k v ups := by
 unfold Nr at hx
 split at hx
 ·rename_i kd i hI
  obtain ⟨e1, _⟩ := BD h hI
  split at hx
  ·rename_i n e hu
   split at hx
   ·rename_i harr
    split at hx
    ·rename_i q hq
     split at hx
     ·rename_i hb
      simp only [Bool.and_eq_true, Bool.not_eq_true', beq_iff_eq] at hb
      obtain ⟨⟨⟨⟨b1, b2⟩, b0⟩, b3⟩, b4⟩ := hb
      simp only [Pr.run, Option.some.injEq, Prod.mk.injEq] at hx
      obtain ⟨rfl, rfl, rfl, _⟩ := hx
      have h0 := hob.head
      have h1 := hob.tail.head
      have b0 := Nat.eq_of_beq_eq_true b0
      have hagg : Pe.isAgg (evO C.P C.G t s.fr x) = true := by
       generalize evO C.P C.G t s.fr x = c at harr
       cases c <;> first | rfl | (simp [Bb] at harr)
      obtain ⟨w1, cs, w2, w3, w4⟩ := OO h (t := t) (x := x) (by intro e; rw [e] at hagg; cases hagg) hagg
      obtain ⟨inf, hi⟩ := CU b4
      obtain ⟨c1, c2, c3, c4⟩ := Gj w1 hq (All.cons (by omega) All.nil)
      simp only [Stp.off] at c2 c3
      obtain ⟨u, g1, g2⟩ := JN (P := C.P) (w := w) (ρ := ρ) (T := Tc C ρ s.hp) (cs := cs) (off := i.toNat * C.P.cellsOf e) c1 (Nat.eq_of_beq_eq_true b1) b2 b3 b4 (by omega) (fun j y u hy hu => by
       have hj : j < size q := by
        have := (List.getElem?_eq_some_iff.1 hy).1
        rw [Ae q c1] at this
        exact this
       exact w4 _ y u (by rw [c3 j hj]; exact hy) hu)
      exact Goes.pure h (by simp only [execOp, ho, Instr.index, w2, e1, asIntOf, Sem.run_bind, run_underlying hu, Result.andThen_ok, Sem.run_pure, h0, h1, and_self, if_true, Aj hi, g1]) fun _ => g2
     ·simp [Pr.run] at hx
    ·simp [Pr.run] at hx
   ·simp [Pr.run] at hx
  ·rename_i b hu hA
   simp only [Pr.run, Option.some.injEq, Prod.mk.injEq] at hx
   obtain ⟨rfl, rfl, rfl, _⟩ := hx
   have h0 := hob.head
   have h1 := hob.tail.head
   obtain ⟨e2, _⟩ := Dx h hA
   have hlt : i.toNat < b.size := by omega
   have hb : b[i.toNat]? = some b[i.toNat] := by simp [hlt]
   have hv : LK b i = (b[i.toNat].toNat : Int) := by
    unfold LK
    rw [Array.getD_eq_getD_getElem?, show b.data[i.toNat]? = some b.data[i.toNat] from Array.getElem?_eq_getElem hlt]
    rfl
   refine Goes.pure h (u := .int .u8 (LK b i)) ?_ fun _ => RV.int ?_
   ·rw [hv]
    have hidx : (Instr.index t (.string b) (.int kd i)).run C.P w = .ok (.int .u8 (b[i.toNat].toNat : Int)) w := by
     simp only [Instr.index, asIntOf, Sem.run_bind, Sem.run_pure, Result.andThen_ok, run_underlying hu]
     rw [if_pos h0, hb]
     rfl
    simp only [execOp, ho, e1, e2, Sem.run_bind]
    rw [hidx]
    rfl
   ·rw [hv, Au]
    have := b[i.toNat].toNat_lt
    have m1 : IntKind.u8.min = 0 := by decide
    have m2 : IntKind.u8.max = 255 := by decide
    omega
  ·simp [Pr.run] at hx
 ·simp [Pr.run] at hx
theorem Lj (h : Ac C F ρ s a w) {x : Operand} {i : Nat} (ho : o.op = .extract x i) {ps : List PV} (hA : evO C.P C.G 0 s.fr x = .tup ps) {v : PV} (hi : ps[i]? = some v) : Goes C F ρ s a w o k v [] := by
 have hr := AA h 0 x (by rw [hA]; intro e; cases e)
 rw [hA] at hr
 obtain ⟨hw, vs, h1, h2, h3⟩ := hr
 have hlt : i < vs.size := by have := (List.getElem?_eq_some_iff.1 hi).1; omega
 have hu : vs[i]? = some vs[i] := Array.getElem?_eq_getElem hlt
 simp only [WF] at hw
 have hwv := AC hw v (List.mem_of_getElem? hi)
 refine Goes.pure h (u := vs[i]) (by simp only [execOp, ho, Instr.extract, h1, hu]; rfl) fun _ => ?_
 have hn := h3 i v _ hi hu
 by_cases ht : ∃ l, v = .tup l
 ·obtain ⟨l, rfl⟩ := ht
  simp only [RN, Pe.isAgg, Bool.false_eq_true, if_false, RO] at hn
  generalize vs[i] = u at hn
  cases hn
 ·exact RV.of_RN hwv (fun l e => ht ⟨l, e⟩) hn
theorem FV (h : Ac C F ρ s a w) {x : Operand} (ho : o.op = .nilCheck x) {v : PV} (hA : evO C.P C.G 0 s.fr x = v) (hv : (∃ id path, v = .at id path) ∨ (∃ c path, v = .cptr c path)) : Goes C F ρ s a w o k v [] := by
 have hr := AA h 0 x (by rw [hA]; rcases hv with ⟨_, _, rfl⟩ | ⟨_, _, rfl⟩ <;> intro e <;> cases e)
 rw [hA] at hr
 rcases hv with ⟨id, path, rfl⟩ | ⟨c, path, rfl⟩
 ·obtain ⟨pl, p1, p2⟩ := CR h hA
  exact Goes.pure h (by simp only [execOp, ho, p2]; rfl) fun _ => by rw [← p2]; exact hr
 ·obtain ⟨w1, w2, w3⟩ := Fj h hA
  obtain ⟨b, y, p2, p3⟩ := RV.cptr_ (ρ := ρ) w1 w2 w3 []
  exact Goes.pure h (by simp only [execOp, ho, p2]; rfl) fun _ => by rw [← p2]; exact hr
end
end Go.Pe
namespace Go.Pe
section
variable {C : Ctx} {F : Nat → Prop} {ρ : Pls} {s : St} {a : Act} {w : World} {o : Oper} {k : Nat}
theorem QI (h : Ac C F ρ s a w) {c : Call} (ho : o.op = .call c) (hc : c.callee = .builtin .len) (ht : c.argTypes.size = 1) (ha : c.args.size = 1) {v : PV} {ups : List (Nat × Option Row)} {ob : List Prop} {rd : List Nat}
  (hx : (lenP C.P (c.argTypes.getD 0 0) (evO C.P C.G (c.argTypes.getD 0 0) s.fr (c.args.getD 0 (.func 0)))).run s.hp = some (v, ups, ob, rd)) : Goes C F ρ s a w o k v ups := by
 obtain ⟨callee, args, argTypes⟩ := c
 simp only at hc ht ha hx
 subst hc
 obtain ⟨t, rfl⟩ : ∃ t, argTypes = #[t] := by
  obtain ⟨l⟩ := argTypes
  match l, ht with
  | [t], _ => exact ⟨t, rfl⟩
 obtain ⟨x, rfl⟩ : ∃ x, args = #[x] := by
  obtain ⟨l⟩ := args
  match l, ha with
  | [x], _ => exact ⟨x, rfl⟩
 have e1 : (#[t] : Array TypeId).getD 0 0 = t := rfl
 have e2 : (#[x] : Array Operand).getD 0 (.func 0) = x := rfl
 rw [e1, e2] at hx
 have hrun : ∀ u, (Builtin.len_ #[t] o.type #[a.eval x]).run C.P w = .ok u w → (execOp a.eval o).run C.P w = .ok (.value u) w := by
  intro u hu
  simp only [execOp, ho, resolve, Sem.run_bind, Sem.run_pure, Result.andThen_ok, invoke, builtin, List.map_toArray, List.map_cons, List.map_nil, hu]
 unfold lenP at hx
 split at hx
 ·rename_i b hu hA
  simp only [Pr.run, Option.some.injEq, Prod.mk.injEq] at hx
  obtain ⟨rfl, rfl, _, _⟩ := hx
  obtain ⟨e, hm⟩ := Dx h hA
  refine Goes.pure h (hrun (goInt b.size) ?_) fun _ => RV.int ?_
  ·simp [Builtin.len_, e, run_underlying hu]
  ·rw [Au]; have m1 : IntKind.i64.min = -9223372036854775808 := by decide
   have m2 : IntKind.i64.max = 9223372036854775807 := by decide
   unfold maxLen at hm
   omega
 ·rename_i n e hu
  split at hx
  ·rename_i hm
   have hm := Nat.le_of_ble_eq_true hm
   simp only [Pr.run, Option.some.injEq, Prod.mk.injEq] at hx
   obtain ⟨rfl, rfl, _, _⟩ := hx
   refine Goes.pure h (hrun (goInt n) ?_) fun _ => RV.int ?_
   ·generalize a.eval x = vx
    simp only [Builtin.len_, run_underlying hu, Sem.run_bind, Result.andThen_ok, List.getElem?_toArray, List.getElem?_cons_zero]
    cases vx <;> rfl
   ·rw [Au]; have m1 : IntKind.i64.min = -9223372036854775808 := by decide
    have m2 : IntKind.i64.max = 9223372036854775807 := by decide
    unfold maxLen at hm
    omega
  ·simp [Pr.run] at hx
 ·rename_i e nl c hu hA
  simp only [Pr.run, Option.some.injEq, Prod.mk.injEq] at hx
  obtain ⟨rfl, rfl, _, _⟩ := hx
  obtain ⟨w1, w2, w3⟩ := CV h hA
  have key : ∃ A cc, a.eval x = .slice A (Aa c) cc ∧ Aa c ≤ maxLen := by
   generalize a.eval x = vx at w3
   cases w3 with
   | vec0 A cc _ _ hl _ _ => exact ⟨A, cc, by rw [hl], by omega⟩
   | vec1 b o' n cc _ us hn hc hm g1 g2 => exact ⟨_, cc, by rw [hn], by omega⟩
  obtain ⟨A, cc, e, hm⟩ := key
  refine Goes.pure h (hrun (goInt (Aa c)) ?_) fun _ => RV.int ?_
  ·simp [Builtin.len_, e, run_underlying hu]
  ·rw [Au]; have m1 : IntKind.i64.min = -9223372036854775808 := by decide
   have m2 : IntKind.i64.max = 9223372036854775807 := by decide
   unfold maxLen at hm
   omega
 ·rename_i e id path sz off n hu hA
  simp only [Pr.run, Option.some.injEq, Prod.mk.injEq] at hx
  obtain ⟨rfl, rfl, _, _⟩ := hx
  obtain ⟨pl, A, c, p1, p2, p3, p4, _⟩ := Cz h hA
  refine Goes.pure h (hrun (goInt n) ?_) fun _ => RV.int ?_
  ·simp [Builtin.len_, p2, run_underlying hu]
  ·rw [Au]; have m1 : IntKind.i64.min = -9223372036854775808 := by decide
   have m2 : IntKind.i64.max = 9223372036854775807 := by decide
   unfold maxLen at p4
   omega
 ·simp [Pr.run] at hx
theorem Ie {P : Program} {g : Value → Value → Sem Value} {f : Int → Int → Int} {kd : IntKind} (hg : ∀ x y, g (.int kd x) (.int kd y) = pure (.int kd (f x y))) (hf : ∀ x y, kd.wrap x = x → kd.wrap y = y → kd.wrap (f x y) = f x y) :
  ∀ {l : List PV} {vs : List Value} {x m : Int}, GL f kd x l = some m → kd.wrap x = x → l.length = vs.length → (∀ (j : Nat) (q : PV) (u : Value), l[j]? = some q → vs[j]? = some u → ∀ k' n, q = .int k' n → u = .int k' n ∧ k'.wrap n = n) →
   (vs.foldlM g (.int kd x)).run P w = .ok (.int kd m) w ∧ kd.wrap m = m
 | [], [], x, m, h, hx, _, _ => by
  simp only [GL, Option.some.injEq] at h
  subst h
  exact ⟨rfl, hx⟩
 | [], _ :: _, _, _, _, _, hl, _ => by simp at hl
 | _ :: _, [], _, _, _, _, hl, _ => by simp at hl
 | q :: l, u :: vs, x, m, h, hx, hl, hr => by
  unfold GL at h
  split at h
  ·rename_i heq; cases heq
  ·rename_i k' y r heq
   simp only [List.cons.injEq] at heq
   obtain ⟨rfl, rfl⟩ := heq
   split at h
   ·rename_i hk
    have hk := IntKind.same_eq hk
    subst hk
    obtain ⟨rfl, hy⟩ := hr 0 _ _ rfl rfl _ _ rfl
    have ih := Ie (P := P) hg hf h (hf x y hx hy) (by simpa using hl) (fun j q u hq hu => hr (j + 1) q u (by simpa using hq) (by simpa using hu))
    rw [List.foldlM_cons, hg, pure_bind]
    exact ih
   ·cases h
  ·cases h
theorem Ia (h : Ac C F ρ s a w) {c : Call} (ho : o.op = .call c) {v : PV} {ups : List (Nat × Option Row)} {ob : List Prop} {rd : List Nat}
  (hc : (c.callee = .builtin .max ∧ (maxP mx (c.args.toList.map fun x => evO C.P C.G 0 s.fr x)).run s.hp = some (v, ups, ob, rd)) ∨ (c.callee = .builtin .min ∧ (maxP mn (c.args.toList.map fun x => evO C.P C.G 0 s.fr x)).run s.hp = some (v, ups, ob, rd))) :
  Goes C F ρ s a w o k v ups := by
 have key : ∀ (f : Int → Int → Int) (g : Value → Value → Sem Value), (∀ kd x y, g (.int kd x) (.int kd y) = pure (.int kd (f x y))) → (∀ x y, f x y = x ∨ f x y = y) →
   (maxP f (c.args.toList.map fun x => evO C.P C.G 0 s.fr x)).run s.hp = some (v, ups, ob, rd) →
   (∀ u, (match (c.args.toList.map a.eval) with | [] => stuck "" | x :: rest => rest.foldlM g x : Sem Value).run C.P w = .ok u w → (execOp a.eval o).run C.P w = .ok (.value u) w) → Goes C F ρ s a w o k v ups := by
  intro f g hg hf hx hrun
  cases hl : c.args.toList with
  | nil => rw [hl] at hx; simp [maxP, Pr.run] at hx
  | cons x r =>
   rw [hl] at hx hrun
   simp only [List.map_cons] at hx hrun
   unfold maxP at hx
   split at hx
   ·rename_i kd n r' heq
    simp only [List.cons.injEq] at heq
    obtain ⟨hA, rfl⟩ := heq
    obtain ⟨e1, w1⟩ := BD h hA
    split at hx
    ·rename_i m hm
     simp only [Pr.run, Option.some.injEq, Prod.mk.injEq] at hx
     obtain ⟨rfl, rfl, _, _⟩ := hx
     obtain ⟨f1, f2⟩ := Ie (w := w) (P := C.P) (vs := r.map a.eval) (hg kd) (fun x y hx hy => by rcases hf x y with e | e <;> rw [e] <;> assumption) hm w1 (by simp) (fun j q u hq hu k' n he => by
      simp only [List.getElem?_map, Option.map_eq_some_iff] at hq hu
      obtain ⟨y, hy, rfl⟩ := hq
      obtain ⟨y', hy', rfl⟩ := hu
      rw [hy] at hy'
      simp only [Option.some.injEq] at hy'
      subst hy'
      exact BD h he)
     exact Goes.pure h (hrun _ (by rw [e1]; exact f1)) fun _ => RV.int f2
    ·simp [Pr.run] at hx
   ·simp [Pr.run] at hx
 obtain ⟨callee, args, argTypes⟩ := c
 rcases hc with ⟨hc, hx⟩ | ⟨hc, hx⟩ <;> simp only at hc <;> subst hc
 ·refine key mx Builtin.max2 (fun kd x y => rfl) (fun x y => by unfold mx; split <;> simp) hx fun u hu => ?_
  simp only [execOp, ho, resolve, Sem.run_bind, Sem.run_pure, Result.andThen_ok, invoke, builtin, Builtin.max_, Array.toList_map]
  cases hl : args.toList with
  | nil => simp [hl, stuck] at hu
  | cons x r =>
   simp only [hl, List.map_cons] at hu ⊢
   rw [hu]
   rfl
 ·refine key mn Builtin.min2 (fun kd x y => rfl) (fun x y => by unfold mn; split <;> simp) hx fun u hu => ?_
  simp only [execOp, ho, resolve, Sem.run_bind, Sem.run_pure, Result.andThen_ok, invoke, builtin, Builtin.min_, Array.toList_map]
  cases hl : args.toList with
  | nil => simp [hl, stuck] at hu
  | cons x r =>
   simp only [hl, List.map_cons] at hu ⊢
   rw [hu]
   rfl
theorem QA (h : Ac C F ρ s a w) {t : TypeId} {x : Operand} {p : PV} (he : evO C.P C.G t s.fr x = p) (hl : Pe.leaf p = true) (ht : AO p = false) (hu : BG p = false) : WF p ∧ RO w (Tc C ρ s.hp) ρ (a.eval x) p := by
 have := AA h t x (by rw [he]; intro e; subst e; cases hu)
 rw [he] at this
 exact ⟨this.1, this.AJ hl (fun _ e => by subst e; cases ht)⟩
theorem Mg (h : Ac C F ρ s a w) {op : BinOp} {xT yT : TypeId} {x y : Operand} (ho : o.op = .binOp op xT x y yT) {b : Bool}
  (hb : Oc op (evO C.P C.G xT s.fr x) (evO C.P C.G xT s.fr y) = some b) (hT : nilT C.P xT (evO C.P C.G xT s.fr x) = true) : Goes C F ρ s a w o k (.bool b) [] := by
 have hrun : ∀ u, (do eqGuard op xT x y (a.eval x) (a.eval y); binOp op xT (a.eval x) (a.eval y) : Sem Value).run C.P w = .ok u w → (execOp a.eval o).run C.P w = .ok (.value u) w := by
  intro u hu
  simp only [execOp, ho]
  rw [Sem.run_bind, hu]
  rfl
 have hnil : ∀ {z : Operand} {c : PV}, evO C.P C.G xT s.fr z = .vec true c → ∃ n cc, a.eval z = .slice none n cc := by
  intro z c hz
  obtain ⟨_, _, h3⟩ := CV h hz
  generalize a.eval z = vz at h3
  cases h3 with
  | vec0 A cc _ _ _ hn _ =>
   cases A with
   | none => exact ⟨_, _, rfl⟩
   | some A => simp at hn
 have hsl : ∀ {z : Operand} {nl : Bool} {c : PV}, evO C.P C.G xT s.fr z = .vec nl c → ∃ A n cc, a.eval z = .slice A n cc ∧ nl = A.isNone := by
  intro z nl c hz
  obtain ⟨_, _, h3⟩ := CV h hz
  generalize a.eval z = vz at h3
  cases h3 with
  | vec0 A cc _ _ _ hn _ => exact ⟨A, _, _, rfl, hn⟩
  | vec1 b o' n cc _ us _ _ _ _ _ => exact ⟨_, _, _, rfl, rfl⟩
 have hnp : ∀ {z : Operand}, evO C.P C.G xT s.fr z = .nilp → a.eval z = .pointer none := by
  intro z hz
  obtain ⟨_, h3⟩ := QA h hz rfl rfl rfl
  simp only [RO] at h3
  generalize a.eval z = vz at h3
  cases h3
  rfl
 have hcp : ∀ {z : Operand} {c : PV} {path : List Stp}, evO C.P C.G xT s.fr z = .cptr c path → ∃ A, a.eval z = .pointer (some A) := by
  intro z c path hz
  obtain ⟨_, _, h3⟩ := Fj h hz
  generalize a.eval z = vz at h3
  cases h3
  exact ⟨_, rfl⟩
 generalize hA : evO C.P C.G xT s.fr x = A at hb hT
 generalize hB : evO C.P C.G xT s.fr y = B at hb
 have go : ∀ (X Y : Value) (r : Bool), a.eval x = X → a.eval y = Y → (eqGuard op xT x y X Y).run C.P w = .ok () w → (binOp op xT X Y).run C.P w = .ok (.bool r) w → b = r → Goes C F ρ s a w o k (.bool b) [] := by
  rintro X Y r rfl rfl g1 g2 rfl
  exact Goes.pure h (hrun _ (by rw [Sem.run_bind, g1, Result.andThen_ok, g2])) fun _ => RV.bool _
 have hsu : (∃ nl c, A = .vec nl c) ∨ (∃ id p sz off n, A = .ref id p sz off n) → ∃ e, C.P.underlying xT = some (.slice e) := by
  rintro (⟨nl, c, rfl⟩ | ⟨id, p, sz, off, n, rfl⟩) <;>
   (unfold nilT at hT; split at hT <;> first | (exact ⟨_, by assumption⟩) | (rename_i heq; cases heq) | cases hT)
 have hpu : (∃ id p, A = .at id p) ∨ (∃ c p, A = .cptr c p) ∨ A = .nilp → ∃ e, C.P.underlying xT = some (.pointer e) := by
  rintro (⟨id, p, rfl⟩ | ⟨c, p, rfl⟩ | rfl) <;>
   (unfold nilT at hT; split at hT <;> first | (exact ⟨_, by assumption⟩) | (rename_i heq; cases heq) | cases hT)
 have sl : ∀ {e n c n' c'} {A' : Option Addr}, C.P.underlying xT = some (.slice e) → (Op.equal xT (.slice A' n c) (.slice none n' c')).run C.P w = .ok A'.isNone w := by
  intro e n c n' c' A' hu
  show (Op.equalIn (9999 + 1) xT _ _).run C.P w = _
  rw [Op.equalIn, Sem.run_bind, run_underlying hu, Result.andThen_ok]
  cases A' <;> rfl
 have pt : ∀ {e} {A' : Option Addr}, C.P.underlying xT = some (.pointer e) → (Op.equal xT (.pointer A') (.pointer none)).run C.P w = .ok A'.isNone w := by
  intro e A' hu
  show (Op.equalIn (9999 + 1) xT _ _).run C.P w = _
  rw [Op.equalIn, Sem.run_bind, run_underlying hu, Result.andThen_ok]
  cases A' <;> rfl
 unfold Oc at hb
 split at hb <;> simp only [Option.some.injEq, reduceCtorEq] at hb
 ·obtain ⟨e, hu⟩ := hsu (.inl ⟨_, _, rfl⟩)
  obtain ⟨A', n, cc, e1, e2⟩ := hsl hA
  obtain ⟨n', cc', e3⟩ := hnil hB
  exact go _ _ A'.isNone e1 e3 rfl (by simp only [binOp, Sem.run_bind, sl hu, Result.andThen_ok, Sem.run_pure]) (by rw [← hb, e2])
 ·obtain ⟨e, hu⟩ := hsu (.inr ⟨_, _, _, _, _, rfl⟩)
  obtain ⟨pl, A', c, p1, p2, _⟩ := Cz h hA
  obtain ⟨n', cc', e3⟩ := hnil hB
  exact go _ _ false p2 e3 rfl (by simp only [binOp, Sem.run_bind, sl hu, Result.andThen_ok, Sem.run_pure]; rfl) hb.symm
 ·obtain ⟨e, hu⟩ := hpu (.inl ⟨_, _, rfl⟩)
  obtain ⟨pl, p1, p2⟩ := CR h hA
  exact go _ _ false p2 (hnp hB) rfl (by simp only [binOp, Sem.run_bind, pt hu, Result.andThen_ok, Sem.run_pure]; rfl) hb.symm
 ·obtain ⟨e, hu⟩ := hpu (.inr (.inl ⟨_, _, rfl⟩))
  obtain ⟨A', p2⟩ := hcp hA
  exact go _ _ false p2 (hnp hB) rfl (by simp only [binOp, Sem.run_bind, pt hu, Result.andThen_ok, Sem.run_pure]; rfl) hb.symm
 ·obtain ⟨e, hu⟩ := hpu (.inr (.inr rfl))
  exact go _ _ true (hnp hA) (hnp hB) rfl (by simp only [binOp, Sem.run_bind, pt hu, Result.andThen_ok, Sem.run_pure]; rfl) hb.symm
 ·obtain ⟨e, hu⟩ := hsu (.inl ⟨_, _, rfl⟩)
  obtain ⟨A', n, cc, e1, e2⟩ := hsl hA
  obtain ⟨n', cc', e3⟩ := hnil hB
  exact go _ _ (!A'.isNone) e1 e3 rfl (by simp only [binOp, Sem.run_bind, sl hu, Result.andThen_ok, Sem.run_pure]) (by rw [← hb, e2])
 ·obtain ⟨e, hu⟩ := hsu (.inr ⟨_, _, _, _, _, rfl⟩)
  obtain ⟨pl, A', c, p1, p2, _⟩ := Cz h hA
  obtain ⟨n', cc', e3⟩ := hnil hB
  exact go _ _ true p2 e3 rfl (by simp only [binOp, Sem.run_bind, sl hu, Result.andThen_ok, Sem.run_pure]; rfl) hb.symm
 ·obtain ⟨e, hu⟩ := hpu (.inl ⟨_, _, rfl⟩)
  obtain ⟨pl, p1, p2⟩ := CR h hA
  exact go _ _ true p2 (hnp hB) rfl (by simp only [binOp, Sem.run_bind, pt hu, Result.andThen_ok, Sem.run_pure]; rfl) hb.symm
 ·obtain ⟨e, hu⟩ := hpu (.inr (.inl ⟨_, _, rfl⟩))
  obtain ⟨A', p2⟩ := hcp hA
  exact go _ _ true p2 (hnp hB) rfl (by simp only [binOp, Sem.run_bind, pt hu, Result.andThen_ok, Sem.run_pure]; rfl) hb.symm
 ·obtain ⟨e, hu⟩ := hpu (.inr (.inr rfl))
  exact go _ _ false (hnp hA) (hnp hB) rfl (by simp only [binOp, Sem.run_bind, pt hu, Result.andThen_ok, Sem.run_pure]; rfl) hb.symm
end
end Go.Pe
namespace Go.Pe
section
variable {C : Ctx} {F : Nat → Prop} {ρ : Pls} {s : St} {a : Act} {w : World} {o : Oper} {k : Nat}
theorem Dh {α : Type} (l : List α) (a : Nat) : BZ l a = l.drop a := by cases a <;> rfl
theorem Em {sz : Nat} : ∀ {l : List PV}, WFL l → (∀ q ∈ l, size q = sz) → ∀ a, Ag (l.drop a) = (Ag l).drop (a * sz)
 | [], _, _, a => by simp [Ag]
 | p :: l, hw, hs, 0 => by simp
 | p :: l, hw, hs, a + 1 => by
  simp only [WFL] at hw
  have e := Ae p hw.1
  rw [hs p (by simp)] at e
  have e2 : (a + 1) * sz = a * sz + sz := by rw [Nat.add_mul]; omega
  have e3 : (flat p).drop ((a + 1) * sz) = [] := List.drop_eq_nil_of_le (by omega)
  rw [List.drop_succ_cons, Em hw.2 (fun q hq => hs q (by simp [hq])) a, Ag, List.drop_append, e3, e, show (a + 1) * sz - sz = a * sz by omega, List.nil_append]
theorem Dl {c : PV} {x n : Nat} (hw : WF c) (ha : Bb c = true) (hb : x + n ≤ Aa c) :
  WF (sub c x n) ∧ Bb (sub c x n) = true ∧ Aa (sub c x n) = n ∧ Am (sub c x n) = Am c ∧
   ∀ (j : Nat) (q : PV), (flat (sub c x n))[j]? = some q → (flat c)[x * Am c + j]? = some q := by
 cases c <;> simp only [Bb, reduceCtorEq] at ha
 case iarr kd m l =>
  simp only [Aa] at hb
  simp only [WF] at hw
  simp only [sub, Dh]
  refine ⟨?_, rfl, rfl, rfl, fun j q hq => ?_⟩
  ·simp only [WF]
   refine ⟨by simp; omega, fun y hy => hw.2 y (List.mem_of_mem_drop (List.mem_of_mem_take hy))⟩
  ·simp only [flat, Am, Nat.mul_one, List.getElem?_map] at hq ⊢
   rw [List.getElem?_take] at hq
   split at hq
   ·rwa [List.getElem?_drop] at hq
   ·simp at hq
 case parr sz m sh l =>
  simp only [Aa] at hb
  simp only [WF] at hw
  simp only [sub, Dh]
  have hmem : ∀ q ∈ (l.drop x).take n, q ∈ l := fun q hq => List.mem_of_mem_drop (List.mem_of_mem_take hq)
  refine ⟨?_, rfl, rfl, rfl, fun j q hq => ?_⟩
  ·simp only [WF]
   exact ⟨by simp; omega, Bt fun q hq => AC hw.2.1 q (hmem q hq), fun q hq => hw.2.2 q (hmem q hq)⟩
  ·simp only [flat, Am] at hq ⊢
   have e1 : Ag (l.drop x) = (Ag l).drop (x * sz) := Em hw.2.1 (fun q hq => (hw.2.2 q hq).1) x
   have e2 : Ag (l.drop x) = Ag ((l.drop x).take n) ++ Ag ((l.drop x).drop n) := by rw [← AX, List.take_append_drop]
   have hj : j < (Ag ((l.drop x).take n)).length := (List.getElem?_eq_some_iff.1 hq).1
   rw [← List.getElem?_drop, ← e1, e2, List.getElem?_append_left hj]
   exact hq
theorem Dq {P : Program} (isS : Bool) (len cap : Nat) (lo hi : Option Value) (l h : Nat) (hl : lo = none ∧ l = 0 ∨ ∃ kd, lo = some (.int kd l)) (hh : hi = none ∧ h = len ∨ ∃ kd, hi = some (.int kd h)) (h1 : l ≤ h) (h2 : h ≤ cap) :
  (Instr.sliceBounds isS len cap lo hi none).run P w = .ok (l, h, cap) w := by
 have b1 : ∀ (kd : IntKind) (n y : Nat) (code : BoundsCode), n ≤ y → (Instr.sliceBound (.int kd (n : Int)) y code).run P w = .ok n w := by
  intro kd n y code hn
  have hc : (0 : Int) ≤ n ∧ (n : Int) ≤ y := by omega
  simp only [Instr.sliceBound, asIntOf, pure_bind, if_pos hc, Sem.run_pure, Int.toNat_natCast]
 unfold Instr.sliceBounds
 rcases hl with ⟨rfl, rfl⟩ | ⟨kd, rfl⟩ <;> rcases hh with ⟨rfl, rfl⟩ | ⟨kd', rfl⟩
 ·rfl
 ·simp only [Sem.run_bind, Sem.run_pure, Result.andThen_ok, b1 kd' h cap _ h2]
 ·simp only [Sem.run_bind, Sem.run_pure, Result.andThen_ok, b1 kd l h _ h1]
 ·simp only [Sem.run_bind, Sem.run_pure, Result.andThen_ok, b1 kd' h cap _ h2, b1 kd l h _ h1]
theorem Gt (h : Ac C F ρ s a w) {lo : Option Operand} {l : Int} (he : ET 0 (lo.map (evO C.P C.G 0 s.fr)) = some l) (h0 : 0 ≤ l) : lo.map a.eval = none ∧ l.toNat = 0 ∨ ∃ kd, lo.map a.eval = some (.int kd (l.toNat : Int)) := by
 cases lo with
 | none => simp only [Option.map_none, ET, Option.some.injEq] at he; exact .inl ⟨rfl, by omega⟩
 | some x =>
  simp only [Option.map_some] at he ⊢
  generalize hA : evO C.P C.G 0 s.fr x = A at he
  unfold ET at he
  split at he
  ·rename_i heq; cases heq
  ·rename_i kd n heq
   simp only [Option.some.injEq] at heq he
   subst he
   rw [heq] at hA
   obtain ⟨e, _⟩ := BD h hA
   exact .inr ⟨kd, by rw [e, Int.toNat_of_nonneg h0]⟩
  ·cases he
theorem Gy (h : Ac C F ρ s a w) {hi : Option Operand} {len : Nat} {m : Int} (he : ET len (hi.map (evO C.P C.G 0 s.fr)) = some m) (h0 : 0 ≤ m) : hi.map a.eval = none ∧ m.toNat = len ∨ ∃ kd, hi.map a.eval = some (.int kd (m.toNat : Int)) := by
 cases hi with
 | none => simp only [Option.map_none, ET, Option.some.injEq] at he; exact .inl ⟨rfl, by omega⟩
 | some x =>
  simp only [Option.map_some] at he ⊢
  generalize hA : evO C.P C.G 0 s.fr x = A at he
  unfold ET at he
  split at he
  ·rename_i heq; cases heq
  ·rename_i kd n heq
   simp only [Option.some.injEq] at heq he
   subst he
   rw [heq] at hA
   obtain ⟨e, _⟩ := BD h hA
   exact .inr ⟨kd, by rw [e, Int.toNat_of_nonneg h0]⟩
  ·cases he
theorem NI (h : Ac C F ρ s a w) {t : TypeId} {x : Operand} {lo hi : Option Operand} (ho : o.op = .slice t x lo hi none) {v : PV} {ups : List (Nat × Option Row)} {ob : List Prop} {rd : List Nat}
  (hx : (Nk C.P t (evO C.P C.G t s.fr x) (lo.map (evO C.P C.G 0 s.fr)) (hi.map (evO C.P C.G 0 s.fr))).run s.hp = some (v, ups, ob, rd)) (hob : All ob) : Goes C F ρ s a w o k v ups := by
 have hexec : execOp a.eval o = (do pure (.value (← Instr.sliceAt t (a.eval x) (lo.map a.eval) (hi.map a.eval) none)) : Sem Next) := by simp only [execOp, ho, Option.map_none]
 have hrun : ∀ u, (Instr.sliceAt t (a.eval x) (lo.map a.eval) (hi.map a.eval) none).run C.P w = .ok u w → (execOp a.eval o).run C.P w = .ok (.value u) w := by
  intro u hu
  rw [hexec, Sem.run_bind, hu]
  rfl
 unfold Nk at hx
 split at hx
 ·simp [Pr.run] at hx
 ·rename_i l hl
  split at hx
  ·-- a string
   rename_i b hu hA
   split at hx
   ·rename_i m hm
    simp only [Pr.run, Option.some.injEq, Prod.mk.injEq] at hx
    obtain ⟨rfl, rfl, rfl, _⟩ := hx
    have h0 := hob.head; have h1 := hob.tail.head; have h2 := hob.tail.tail.head
    obtain ⟨e, hs⟩ := Dx h hA
    have hb := Dq (P := C.P) (w := w) false b.size b.size _ _ l.toNat m.toNat (Gt h hl h0) (Gy h hm (by omega)) (by omega) (by omega)
    refine Goes.pure h (hrun (.string (b.extract l.toNat m.toNat)) ?_) fun _ => RV.str ?_
    ·simp only [Instr.sliceAt, Instr.slice, Sem.run_bind, run_underlying hu, Result.andThen_ok, e, Option.isSome_none, Bool.false_eq_true, if_false, Sem.run_pure, hb]
    ·rw [ByteArray.size_extract]; omega
   ·simp [Pr.run] at hx
  ·-- an immutable slice
   rename_i e nl c hu hA
   split at hx
   ·rename_i m hm
    split at hx
    ·rename_i hz
     simp only [Bool.and_eq_true] at hz
     simp only [Pr.run, Option.some.injEq, Prod.mk.injEq] at hx
     obtain ⟨rfl, rfl, rfl, _⟩ := hx
     have h0 := hob.head; have h1 := hob.tail.head; have h2 := hob.tail.tail.head
     obtain ⟨inf, hi'⟩ := Az (A8 hz.2)
     have hsz := Nat.eq_of_beq_eq_true hz.1
     obtain ⟨w1, w2, w3⟩ := CV h hA
     obtain ⟨s1, s2, s3, s4, s5⟩ := Dl w1 w2 (x := l.toNat) (n := (m - l).toNat) (by omega)
     have hlen : (m - l).toNat = m.toNat - l.toNat := by omega
     generalize hv : a.eval x = vx at w3 hrun
     cases w3 with
     | vec0 A cc _ _ hl0 hn hcn =>
      rw [hl0] at h2 hm
      have hb := Dq (P := C.P) (w := w) true 0 cc _ _ l.toNat m.toNat (Gt h hl h0) (Gy h hm (by omega)) (by omega) (by omega)
      have e1 : l.toNat = 0 := by omega
      have e2 : m.toNat = 0 := by omega
      refine Goes.pure h (hrun (.slice (if cc = l.toNat then A else A.map (·.add (l.toNat * C.P.cellsOf e))) (m.toNat - l.toNat) (cc - l.toNat)) ?_) fun _ => ?_
      ·simp only [Instr.sliceAt, Instr.slice, Sem.run_bind, run_underlying hu, Result.andThen_ok, hb, Aj hi', Sem.run_pure]
      ·refine RV.Ap rfl (fun _ e => by cases e) (by simp only [WF]; exact ⟨s1, s2, fun _ => by rw [s3]; omega⟩) ?_
       simp only [RO]
       rw [show m.toNat - l.toNat = 0 by omega]
       refine .vec0 _ _ _ _ (by rw [s3]; omega) ?_ ?_
       ·rw [hn]
        split
        ·rfl
        ·cases A <;> rfl
       ·intro hA'
        have : A = none := by
         split at hA'
         ·exact hA'
         ·simpa using hA'
        have := hcn this
        omega
     | vec1 b o' n cc _ us hn hc hmx g1 g2 =>
      rw [hn] at h2 hm
      have hb := Dq (P := C.P) (w := w) true n cc _ _ l.toNat m.toNat (Gt h hl h0) (Gy h hm (by omega)) (by omega) (by omega)
      refine Goes.pure h (hrun (.slice (if cc = l.toNat then some ⟨b, o', none⟩ else (some (⟨b, o', none⟩ : Addr)).map (·.add (l.toNat * C.P.cellsOf e))) (m.toNat - l.toNat) (cc - l.toNat)) ?_) fun _ => ?_
      ·simp only [Instr.sliceAt, Instr.slice, Sem.run_bind, run_underlying hu, Result.andThen_ok, hb, Aj hi', Sem.run_pure]
      ·refine RV.Ap rfl (fun _ e => by cases e) (by simp only [WF]; exact ⟨s1, s2, fun e => by cases e⟩) ?_
       simp only [RO]
       by_cases hcl : cc = l.toNat
       ·rw [if_pos hcl, show m.toNat - l.toNat = 0 by omega]
        exact .vec0 _ _ _ _ (by rw [s3]; omega) rfl (fun h => by cases h)
       ·rw [if_neg hcl, Option.map_some, A9, hsz]
        refine .vec1 b _ _ _ _ (fun j => us (l.toNat * Am c + j)) (by rw [s3, hlen]) (by omega) (by omega) (fun j q hq => ?_) (fun j q hq => ?_)
        ·have := g1 _ q (s5 j q hq)
         rwa [← Nat.add_assoc] at this
        ·exact g2 _ q (s5 j q hq)
    ·simp [Pr.run] at hx
   ·simp [Pr.run] at hx
  ·-- a slice of a row
   rename_i e id path sz off n hu hA
   split at hx
   ·rename_i m hm
    split at hx
    ·rename_i hz
     simp only [Bool.and_eq_true] at hz
     simp only [Pr.run, Option.some.injEq, Prod.mk.injEq] at hx
     obtain ⟨rfl, rfl, rfl, _⟩ := hx
     have h0 := hob.head; have h1 := hob.tail.head; have h2 := hob.tail.tail.head
     obtain ⟨inf, hi'⟩ := Az (A8 hz.2)
     have hsz := Nat.eq_of_beq_eq_true hz.1
     obtain ⟨pl, A, c, p1, p2, p3, p5, p4⟩ := Cz h hA
     have hb := Dq (P := C.P) (w := w) true n c _ _ l.toNat m.toNat (Gt h hl h0) (Gy h hm (by omega)) (by omega) (by omega)
     have hlen : (m - l).toNat = m.toNat - l.toNat := by omega
     refine Goes.pure h (hrun (.slice (if c = l.toNat then some A else (some A).map (·.add (l.toNat * C.P.cellsOf e))) (m.toNat - l.toNat) (c - l.toNat)) ?_) fun _ => ?_
     ·simp only [Instr.sliceAt, Instr.slice, Sem.run_bind, run_underlying hu, Result.andThen_ok, p2, hb, Aj hi', Sem.run_pure]
     ·refine RV.Ap rfl (fun _ e => by cases e) trivial ?_
      simp only [RO]
      rw [hlen]
      by_cases hcl : c = l.toNat
      ·rw [if_pos hcl]
       exact ⟨pl, A, _, p1, rfl, by omega, by omega, fun hpos => by omega⟩
      ·rw [if_neg hcl]
       refine ⟨pl, _, _, p1, rfl, by omega, by omega, fun hpos => ?_⟩
       obtain ⟨rfl, q2⟩ := p4 (by omega)
       have hle : l.toNat ≤ c := by omega
       obtain ⟨d, hd⟩ : ∃ d, c = l.toNat + d := ⟨c - l.toNat, by omega⟩
       refine ⟨by show (⟨_, _, none⟩ : Addr).add _ = _; rw [A9, hsz, Nat.add_mul]; simp only [Addr.mk.injEq, true_and, and_true]; omega, ?_⟩
       rw [hd, Nat.add_sub_cancel_left]
       rw [hd, Nat.add_mul] at q2
       rw [Nat.add_mul]
       omega
    ·simp [Pr.run] at hx
   ·simp [Pr.run] at hx
  ·-- an array's address
   rename_i n e id path hu hA
   split at hx
   ·rename_i m hm
    simp only [Pr.run] at hx
    split at hx
    ·rename_i row hr
     split at hx
     ·rename_i q hq
      split at hx
      ·rename_i hz
       simp only [Bool.and_eq_true] at hz
       simp only [Bool.not_eq_true'] at hz
       obtain ⟨⟨⟨z1, z2⟩, z3⟩, z4⟩ := hz
       simp only [Pr.run, Option.map_some, Option.some.injEq, Prod.mk.injEq] at hx
       obtain ⟨rfl, rfl, rfl, _⟩ := hx
       have h0 := hob.head; have h1 := hob.tail.head; have h2 := hob.tail.tail.head
       have hpo : All (Ba row.c path) := hob.tail.tail.tail
       obtain ⟨inf, hi'⟩ := Az (A8 z2)
       have hsz := Nat.eq_of_beq_eq_true z1
       have hmax := Nat.le_of_ble_eq_true z3
       obtain ⟨pl, p1, p2⟩ := CR h hA
       obtain ⟨pl', p1', hrel⟩ := h.heap.row id row hr
       rw [p1] at p1'
       cases p1'
       obtain ⟨_, _, c2, _⟩ := hrel.Cy hq z4 hpo
       obtain ⟨_, _, _, _, _, r3, _⟩ := hrel.cell (Dk hq z4)
       have hb := Dq (P := C.P) (w := w) false n n _ _ l.toNat m.toNat (Gt h hl h0) (Gy h hm (by omega)) (by omega) (by omega)
       have hlen : (m - l).toNat = m.toNat - l.toNat := by omega
       refine Goes.pure h (hrun (.slice (some (if n = l.toNat then ⟨pl.g, pl.off + Af path, none⟩ else (⟨pl.g, pl.off + Af path, none⟩ : Addr).add (l.toNat * C.P.cellsOf e))) (m.toNat - l.toNat) (n - l.toNat)) ?_) fun _ => ?_
       ·simp only [Instr.sliceAt, Sem.run_bind, run_underlying hu, Result.andThen_ok, p2, Instr.sureAddr, Sem.run_pure, hb, Aj hi']
       ·refine RV.Ap rfl (fun _ e => by cases e) trivial ?_
        simp only [RO]
        rw [hlen]
        refine ⟨pl, _, _, p1, rfl, by omega, by omega, fun hpos => ?_⟩
        rw [if_neg (by omega), A9]
        obtain ⟨d, hd⟩ : ∃ d, n = l.toNat + d := ⟨n - l.toNat, by omega⟩
        rw [hsz] at c2
        rw [hd, Nat.add_mul] at c2
        refine ⟨by simp only [Addr.mk.injEq, true_and, and_true]; omega, ?_⟩
        rw [hd, Nat.add_sub_cancel_left]
        omega
      ·simp [Pr.run] at hx
     ·simp [Pr.run] at hx
    ·cases hx
   ·simp [Pr.run] at hx
  ·simp [Pr.run] at hx
end
end Go.Pe
namespace Go.Pe
section
variable {C : Ctx} {F : Nat → Prop} {ρ : Pls} {s : St} {a : Act} {w w' : World} {o : Oper} {k : Nat}
theorem BN (h : Ac C F ρ s a w) (hF : F k) {cs : Array Value} {t : TypeId} {fz : Nat × Nat} (hn : Ct w w' cs t fz) {n cap sz : Nat} {c : PV}
  (hr : (execOp a.eval o).run C.P w = .ok (.value (.slice (some ⟨w.heap.size, 0, none⟩) n cap)) w') (hw : WF c) (hs : size c ≤ cs.size) (hfz : ∀ j, j < cs.size → (decide (fz.1 ≤ j) && decide (j < fz.2)) = false)
  (hl : ∀ (j : Nat) (q : PV) (u : Value), (flat c)[j]? = some q → cs[j]? = some u → RO w (Tc C ρ s.hp) ρ u q) (h1 : n ≤ cap) (h2 : cap ≤ maxLen) (h3 : cap * sz ≤ cs.size) :
  Goes C F ρ s a w o k (.ref k [] sz 0 n) [(k, some ⟨c, false⟩)] := by
 intro K Q hK
 have h' := h.EY hF hn c hw hs hfz hl
 refine Cf hr (hK _ _ _ (Ext.upd _ (h.free k hF).1) (h'.less fun i hi => ⟨hi.1, by omega⟩) fun _ => ?_)
 refine RV.Ap rfl (fun _ e => by cases e) trivial ?_
 simp only [RO]
 exact ⟨_, _, cap, upd_same _ _ _, rfl, h1, h2, fun _ => ⟨by simp [Af], by simp [Af]; exact h3⟩⟩
theorem GA (b : ByteArray) : WF (.iarr .u8 b.size (bytesOf b)) ∧ ∀ (j : Nat) (q : PV), (flat (.iarr .u8 b.size (bytesOf b)))[j]? = some q → ∃ hj : j < b.data.size, q = .int .u8 (b.data[j].toNat : Int) := by
 refine ⟨?_, fun j q hq => ?_⟩
 ·simp only [WF]
  refine ⟨by simp [bytesOf], fun x hx => ?_⟩
  simp only [bytesOf, List.mem_map] at hx
  obtain ⟨y, _, rfl⟩ := hx
  rw [Au]
  have := y.toNat_lt
  have m1 : IntKind.u8.min = 0 := by decide
  have m2 : IntKind.u8.max = 255 := by decide
  omega
 ·simp only [flat, bytesOf, List.map_map, List.getElem?_map, Option.map_eq_some_iff] at hq
  obtain ⟨y, hy, rfl⟩ := hq
  obtain ⟨hj, rfl⟩ := List.getElem?_eq_some_iff.1 hy
  exact ⟨by simpa using hj, by simp⟩
theorem O7 (h : Ac C F ρ s a w) {sT dT : TypeId} {x : Operand} (ho : o.op = .convert sT dT x) {v : PV} {ups : List (Nat × Option Row)} {ob : List Prop} {rd : List Nat} (hF : F k) (hsu : GD C.P sT = true)
  (hx : (convP C.P sT dT (evO C.P C.G sT s.fr x) k).run s.hp = some (v, ups, ob, rd)) : Goes C F ρ s a w o k v ups := by
 obtain ⟨ds, hds⟩ : ∃ ds, C.P.underlying sT = some ds := by
  unfold GD at hsu
  cases hu : C.P.underlying sT with
  | none => rw [hu] at hsu; cases hsu
  | some d => exact ⟨d, rfl⟩
 have hexec : execOp a.eval o = (do pure (.value (← convert sT dT (a.eval x))) : Sem Next) := by simp only [execOp, ho]
 have hrun : ∀ u w', (convert sT dT (a.eval x)).run C.P w = .ok u w' → (execOp a.eval o).run C.P w = .ok (.value u) w' := by
  intro u w' hu
  rw [hexec, Sem.run_bind, hu]
  rfl
 unfold convP at hx
 split at hx
 ·rename_i kd' kd n hu hA
  simp only [Pr.run, Option.some.injEq, Prod.mk.injEq] at hx
  obtain ⟨rfl, rfl, _, _⟩ := hx
  obtain ⟨e, _⟩ := BD h hA
  refine Goes.pure h (hrun (.int kd' (kd'.wrap n)) w ?_) fun _ => RV.int (wrap_wrap _ _)
  simp only [convert, Sem.run_bind, run_underlying hds, run_underlying hu, Result.andThen_ok, e]
  rfl
 ·rename_i b hu hA
  simp only [Pr.run, Option.some.injEq, Prod.mk.injEq] at hx
  obtain ⟨rfl, rfl, _, _⟩ := hx
  obtain ⟨e, hs⟩ := Dx h hA
  refine Goes.pure h (hrun (.string b) w ?_) fun _ => RV.str hs
  simp only [convert, Sem.run_bind, run_underlying hds, run_underlying hu, Result.andThen_ok, e]
  rfl
 ·rename_i e b hu hA
  split at hx
  ·rename_i hue
   simp only [Pr.run, Option.some.injEq, Prod.mk.injEq] at hx
   obtain ⟨rfl, rfl, _, _⟩ := hx
   obtain ⟨ee, hs⟩ := Dx h hA
   have hc := Lib.run_convert_string_bytes (P := C.P) w sT dT e b hds hu hue
   have hcap : b.size ≤ grownCap w b.size 0 e ∧ grownCap w b.size 0 e ≤ maxLen := by
    unfold maxLen at hs ⊢
    have := Nat.mod_lt (w.tape w.drawn (.appendCap b.size 0 e)) (show 0 < 2 ^ 63 - b.size by omega)
    simp only [grownCap, Question.cut]
    omega
   have hcs : (Lib.bytesCells w e b).size = grownCap w b.size 0 e := by
    simp [Lib.bytesCells]
    omega
   obtain ⟨w1, w2⟩ := GA b
   refine BN h hF (w' := Lib.bytesWorld w e b) (cs := Lib.bytesCells w e b) (t := e) (fz := ((Lib.bytesCells w e b).size, (Lib.bytesCells w e b).size + 1)) (cap := grownCap w b.size 0 e)
    ⟨rfl, rfl, rfl, Lib.bytesWorld_size w e b, fun j hj => Lib.bytesWorld_at_old w e b j hj, Lib.bytesWorld_at_new w e b⟩ (hrun _ _ (by rw [ee]; exact hc)) w1 (by simp only [size]; omega) (fun j hj => by simp; omega) (fun j q u hq hu => ?_) hcap.1 hcap.2 (by omega)
   obtain ⟨hj, rfl⟩ := w2 j q hq
   have : u = .int .u8 (b.data[j].toNat : Int) := by
    have hj' : j < b.size := hj
    rw [Lib.bytesCells, Array.getElem?_append_left (by simpa using hj'), Array.getElem?_map, Array.getElem?_eq_getElem hj] at hu
    simpa using hu.symm
   rw [this]
   exact RO.Be (.int _ _)
  ·simp [Pr.run] at hx
 ·simp [Pr.run] at hx
theorem M5 : ∀ (l : List Int) (acc : ByteArray), l.foldl (fun r n => r.push (UInt8.ofNat n.toNat)) acc = ⟨acc.data ++ (l.map fun n => UInt8.ofNat n.toNat).toArray⟩
 | [], acc => by simp
 | n :: l, acc => by
  rw [List.foldl_cons, M5 l]
  simp [ByteArray.push]
theorem Qb (l : List Int) : l.foldl (fun r n => r.push (UInt8.ofNat n.toNat)) ByteArray.empty = strOf l := by
 rw [M5]
 unfold strOf
 congr 1
 simp [ByteArray.empty, ByteArray.emptyWithCapacity] <;> rfl
theorem Ju (l : List Int) : (strOf l).size = l.length := by simp [strOf, ByteArray.size]
theorem NE (h : Ac C F ρ s a w) {sT dT e : TypeId} {x : Operand} (ho : o.op = .convert sT dT x) (hs : C.P.underlying sT = some (.slice e)) (he : C.P.underlying e = some (.int .u8)) (hd : C.P.underlying dT = some .string)
  {A : Option Addr} {n c : Nat} {l : List Int} (hv : a.eval x = .slice A n c) (hl : l.length = n) (hn : n ≤ maxLen) (hc : 0 < n → ∃ b o', A = some ⟨b, o', none⟩ ∧ ∀ j (hj : j < l.length), w.cell? ⟨b, o' + j, none⟩ = some (.int .u8 l[j])) :
  Goes C F ρ s a w o k (.str (strOf l)) [] := by
 have hexec : execOp a.eval o = (do pure (.value (← convert sT dT (a.eval x))) : Sem Next) := by simp only [execOp, ho]
 refine Goes.pure h (u := .string (strOf l)) ?_ fun _ => RV.str (by rw [Ju]; omega)
 rw [hexec, Sem.run_bind, hv, run_convert_bytes_string w sT dT e A n c hs he hd]
 cases A with
 | none =>
  have : l = [] := by
   cases l with
   | nil => rfl
   | cons y l => obtain ⟨_, _, h1, _⟩ := hc (by rw [← hl]; simp); cases h1
  subst this
  rfl
 | some ad =>
  have hload : (loadCells ad n).run C.P w = .ok (l.map (Value.int .u8)).toArray w := by
   have := run_loadCells_list (P := C.P) w ad (l.map (Value.int .u8)) (fun j v hj => by
    simp only [List.getElem?_map, Option.map_eq_some_iff] at hj
    obtain ⟨y, hy, rfl⟩ := hj
    obtain ⟨hj, rfl⟩ := List.getElem?_eq_some_iff.1 hy
    obtain ⟨b, o', e1, e2⟩ := hc (by omega)
    cases e1
    rw [A9]
    exact e2 j hj)
   rw [List.length_map, hl] at this
   exact this
  rw [run_bytesToString w ad n c l hload, Result.andThen_ok, Qb]
  rfl
end
end Go.Pe
namespace Go.Pe
theorem foldl_set (off : Nat) : ∀ (l : List Value) (k : Nat) (cs : Array Value), off + k + l.length ≤ cs.size →
  ((l.zipIdx k).foldl (fun cs (x : Value × Nat) => cs.setIfInBounds (off + x.2) x.1) cs).size = cs.size ∧
  (∀ j, j < l.length → ((l.zipIdx k).foldl (fun cs (x : Value × Nat) => cs.setIfInBounds (off + x.2) x.1) cs)[off + k + j]? = l[j]?) ∧
  (∀ j, j < off + k ∨ off + k + l.length ≤ j → ((l.zipIdx k).foldl (fun cs (x : Value × Nat) => cs.setIfInBounds (off + x.2) x.1) cs)[j]? = cs[j]?)
 | [], k, cs, _ => ⟨rfl, fun j hj => by simp at hj, fun _ _ => rfl⟩
 | v :: l, k, cs, h => by
  simp only [List.length_cons] at h
  rw [List.zipIdx_cons, List.foldl_cons]
  obtain ⟨a1, a2, a3⟩ := foldl_set off l (k + 1) (cs.setIfInBounds (off + k) v) (by simp; omega)
  refine ⟨by rw [a1]; simp, fun j hj => ?_, fun j hj => ?_⟩
  ·cases j with
   | zero =>
    rw [Nat.add_zero, a3 _ (by omega)]
    simp [show off + k < cs.size by omega]
   | succ j =>
    have := a2 j (by simpa using hj)
    rw [show off + k + (j + 1) = off + (k + 1) + j by omega, this]
    simp
  ·simp only [List.length_cons] at hj
   rw [a3 _ (by omega), Array.getElem?_setIfInBounds_ne (by omega)]
theorem H5 (off : Nat) (vs cs : Array Value) : vs.zipIdx.foldl (fun cs (c, j) => cs.setIfInBounds (off + j) c) cs = (vs.toList.zipIdx 0).foldl (fun cs (x : Value × Nat) => cs.setIfInBounds (off + x.2) x.1) cs := by
 rw [← Array.foldl_toList, Array.toList_zipIdx]
section
variable {C : Ctx} {F : Nat → Prop} {ρ : Pls} {s : St} {a : Act} {w : World} {o : Oper} {k : Nat}
def DV (w : World) (T : T2) (ρ : Pls) (cs : Array Value) (c : PV) : Prop := ∀ (j : Nat) (q : PV) (u : Value), (flat c)[j]? = some q → cs[j]? = some u → RO w T ρ u q
def Dm (w : World) (T : T2) (ρ : Pls) : List (Nat × PV) → List (Nat × Value) → Prop
 | [], [] => True
 | x :: l, y :: m => x.1 = y.1 ∧ (x.2 ≠ .undef → RV w T ρ y.2 x.2) ∧ Dm w T ρ l m
 | _, _ => False
theorem Dc (h : Ac C F ρ s a w) : ∀ (l : List (Nat × Operand)), Dm w (Tc C ρ s.hp) ρ (Ck (evO C.P C.G 0 s.fr) l) (l.map fun x => (x.1, a.eval x.2))
 | [] => trivial
 | x :: l => ⟨rfl, fun hne => AA h 0 x.2 hne, Dc h l⟩
theorem Fp {T : T2} {placeR : Nat → Option (Nat × Nat)} {placeP : Nat → Option (Stp × Nat)} (hpl : ∀ i st n, placeP i = some (st, n) → placeR i = some (st.off, n)) :
  ∀ (ps : List (Nat × PV)) (vs : List (Nat × Value)) (c c' : PV) (cells : Array Value), IB c placeP ps = some c' → Dm w T ρ ps vs → WF c → cells.size = size c → DV w T ρ cells c →
   ∃ cells', Instr.fill placeR cells vs = some cells' ∧ WF c' ∧ size c' = size c ∧ cells'.size = size c ∧ DV w T ρ cells' c' ∧ Pe.isAgg c' = Pe.isAgg c
 | [], [], c, c', cells, h, _, hw, hs, hl => by
  simp only [IB, Option.some.injEq] at h
  subst h
  exact ⟨cells, rfl, hw, rfl, hs, hl, rfl⟩
 | [], _ :: _, _, _, _, _, h, _, _, _ => h.elim
 | _ :: _, [], _, _, _, _, h, _, _, _ => h.elim
 | x :: ps, y :: vs, c, c', cells, h, hp, hw, hs, hl => by
  obtain ⟨e1, e2, e3⟩ := hp
  unfold IB at h
  split at h
  ·rename_i st n hst
   split at h
   ·rename_i hb
    simp only [Bool.and_eq_true] at hb
    obtain ⟨⟨b1, b2⟩, b3⟩ := hb
    have b1 := Nat.eq_of_beq_eq_true b1
    obtain ⟨g1, g2⟩ := FE b2
    have hv := e2 g2
    obtain ⟨c1, c2⟩ := hv.Kh g1
    simp only [Option.bind_eq_some_iff] at h
    obtain ⟨m, hm, h⟩ := h
    have hob : All (Ba c [st]) := by
     have hstep : All (Ny c st) := by
      cases st with
      | fld i off => exact All.nil
      | idx i sz =>
       refine All.cons ?_ All.nil
       simp only [QR, Nat.blt_eq] at b3
       exact b3
     refine All.append hstep ?_
     split
     ·exact All.nil
     ·exact All.nil
    obtain ⟨s1, s2, s3, s4, s5, _⟩ := CX x.2 hv.1 [st] hw hm hob
    simp only [Af, Nat.add_zero] at s3 s4 s5
    obtain ⟨f1, f2, f3⟩ := foldl_set st.off y.2.cells.toList 0 cells (by simp; omega)
    simp only [Nat.add_zero, Array.length_toList] at f2 f3
    have hagg : Pe.isAgg m = Pe.isAgg c := by
     cases st <;> simp only [setNode] at hm
     ·split at hm
      ·split at hm
       ·simp only [Option.bind_eq_some_iff, Option.map_eq_some_iff] at hm
        obtain ⟨_, _, _, _, rfl⟩ := hm
        rfl
       ·cases hm
      ·cases hm
     ·split at hm
      ·split at hm
       ·split at hm
        ·simp only [Option.some.injEq] at hm; subst hm; rfl
        ·cases hm
       ·cases hm
      ·split at hm
       ·simp only [Option.bind_eq_some_iff] at hm
        obtain ⟨_, _, hm⟩ := hm
        split at hm
        ·simp only [Option.some.injEq] at hm; subst hm; rfl
        ·cases hm
       ·cases hm
      ·cases hm
    obtain ⟨cells', r1, r2, r3, r4, r5, r6⟩ := Fp hpl ps vs m c' _ h e3 s1 (by rw [f1, s2]; exact hs) (fun j q u hq hu => by
     by_cases hj : j < st.off ∨ st.off + size x.2 ≤ j
     ·rw [s5 j hj] at hq
      rw [f3 j (by omega)] at hu
      exact hl j q u hq hu
     ·obtain ⟨j', rfl⟩ : ∃ j', j = st.off + j' := ⟨j - st.off, by omega⟩
      rw [s4 j' (by omega)] at hq
      rw [f2 j' (by omega)] at hu
      exact c2 j' q u hq (by simpa using hu))
    refine ⟨cells', ?_, r2, by rw [r3, s2], by rw [r4, s2], r5, by rw [r6, hagg]⟩
    obtain ⟨yi, yv⟩ := y
    simp only at e1 c1 r1 ⊢
    unfold Instr.fill
    rw [← e1, hpl _ _ _ hst]
    simp only
    rw [if_neg (by rw [c1, b1]; simp; omega), H5]
    exact r1
   ·cases h
  ·cases h
theorem Ip {P : Program} : ∀ (l : List Field), IZ P l = true → (l.mapM (fun f => (do pure (f.offset, ← Go.sizeOf f.type) : Sem (Nat × Nat)))).run P w = .ok (l.map fun f => (f.offset, P.cellsOf f.type)) w
 | [], _ => rfl
 | f :: l, h => by
  simp only [IZ, List.all_cons, Bool.and_eq_true] at h
  obtain ⟨i, hi⟩ := Option.isSome_iff_exists.1 h.1
  have ih := Ip l (by simpa only [IZ] using h.2)
  rw [List.mapM_cons]
  simp only [Sem.run_bind, Aj hi, Result.andThen_ok, Sem.run_pure, ih, List.map_cons]
theorem NP (h : Ac C F ρ s a w) {t : TypeId} {parts : Array (Nat × Operand)} (ho : o.op = .build t parts) {c : PV} (hx : NN C.P t (Ck (evO C.P C.G 0 s.fr) parts.toList) = some c) : Goes C F ρ s a w o k c [] := by
 have hrun : ∀ u, (Instr.build t (parts.map fun (i, x) => (i, a.eval x))).run C.P w = .ok u w → (execOp a.eval o).run C.P w = .ok (.value u) w := by
  intro u hu
  simp only [execOp, ho, Sem.run_bind, hu, Result.andThen_ok, Sem.run_pure]
 have hpl : (parts.map fun (i, x) => (i, a.eval x)).toList = parts.toList.map fun x => (x.1, a.eval x.2) := by rw [Array.toList_map]
 unfold NN at hx
 split at hx
 ·rename_i z hz
  split at hx
  ·cases hx
  ·rename_i hagg
   simp only [Bool.not_eq_true', Bool.not_eq_false] at hagg
   obtain ⟨v, z1, z2, z3, z4, z5, z6, z7⟩ := Bz (w := w) hz
   split at hx
   ·rename_i fs hu
    split at hx
    ·cases hx
    ·rename_i hinf
     simp only [Bool.not_eq_true', Bool.not_eq_false] at hinf
     obtain ⟨cells', r1, r2, r3, r4, r5, r6⟩ := Fp (w := w) (T := Tc C ρ s.hp) (ρ := ρ) (placeR := fun i => ((fs.toList.map fun f => (f.offset, C.P.cellsOf f.type)).toArray)[i]?) (fun i st n he => by
      simp only [Option.map_eq_some_iff, Prod.mk.injEq] at he
      obtain ⟨f, hf, rfl, rfl⟩ := he
      have : fs.toList[i]? = some f := by simpa using hf
      simp [Stp.off, hf]) _ _ z c v.cells hx (Dc h parts.toList) z4 z2 (fun j q u hq hu => z7 _ _ j q u hq hu)
     refine Goes.pure h (hrun (.agg cells') ?_) fun _ => RV.Hz (by rw [r6, hagg]) r2 ⟨cells', rfl, by rw [r4, r3], r5⟩
     simp only [Instr.build, Sem.run_bind, z1, Result.andThen_ok, run_underlying hu, Array.mapM_eq_mapM_toList, Sem.run_map, Ip fs.toList hinf, hpl, r1, Sem.run_pure]
   ·rename_i n e hu
    split at hx
    ·cases hx
    ·rename_i hsz
     simp only [Bool.not_eq_true', Bool.not_eq_false] at hsz
     obtain ⟨inf, hi⟩ := Az (A8 hsz)
     obtain ⟨cells', r1, r2, r3, r4, r5, r6⟩ := Fp (w := w) (T := Tc C ρ s.hp) (ρ := ρ) (placeR := fun i => some (i * C.P.cellsOf e, C.P.cellsOf e)) (fun i st n he => by
      simp only [Option.some.injEq, Prod.mk.injEq] at he
      obtain ⟨rfl, rfl⟩ := he
      rfl) _ _ z c v.cells hx (Dc h parts.toList) z4 z2 (fun j q u hq hu => z7 _ _ j q u hq hu)
     refine Goes.pure h (hrun (.agg cells') ?_) fun _ => RV.Hz (by rw [r6, hagg]) r2 ⟨cells', rfl, by rw [r4, r3], r5⟩
     simp only [Instr.build, Sem.run_bind, z1, Result.andThen_ok, run_underlying hu, Aj hi, hpl, r1, Sem.run_pure]
   ·cases hx
 ·cases hx
theorem H7 {z : PV} (hw : WF z) (hs : 0 < size z) : ∀ (n j : Nat) (q : PV), (Ag (List.replicate n z))[j]? = some q → (flat z)[j % size z]? = some q
 | 0, j, q, h => by simp [Ag] at h
 | n + 1, j, q, h => by
  rw [List.replicate_succ, Ag] at h
  have hl := Ae z hw
  by_cases hj : j < size z
  ·rw [List.getElem?_append_left (by omega)] at h
   rwa [Nat.mod_eq_of_lt hj]
  ·rw [List.getElem?_append_right (by omega), hl] at h
   have := H7 hw hs n _ q h
   rwa [← Nat.mod_eq_sub_mod (by omega)] at this
theorem GM {P : Program} {e : TypeId} {n : Nat} {c : PV} (h : I1 P e n = some c) (hsz : P.cellsOf e ≠ 0) :
  ∃ v, (zeroValue e).run P w = .ok v w ∧ v.cells.size = P.cellsOf e ∧ WF c ∧ size c = n * P.cellsOf e ∧ (∀ (T : T2) (ρ : Pls), DV w T ρ ((Array.range (n * P.cellsOf e)).map (v.cells[· % v.cells.size]!)) c) := by
 unfold I1 at h
 split at h
 ·rename_i z hz
  obtain ⟨v, z1, z2, z3, z4, z5, z6, z7⟩ := Bz (w := w) hz
  split at h
  ·rename_i hb
   simp only [Bool.and_eq_true] at hb
   have hwf := QG _ hb.1
   have hs := Nat.eq_of_beq_eq_true hb.2
   have h := Option.some.inj h
   rw [← h]
   refine ⟨v, z1 w, by rw [z2, z3], hwf, hs, fun T ρ j q u hq hu => ?_⟩
   have hj : j < n * P.cellsOf e := by
    have := (List.getElem?_eq_some_iff.1 hq).1
    rw [Ae _ hwf, hs] at this
    exact this
   have hmod : j % v.cells.size < v.cells.size := Nat.mod_lt _ (by rw [z2, z3]; omega)
   have hu' : v.cells[j % v.cells.size]? = some u := by
    simp [hj] at hu
    rw [← hu]
    simp [hmod]
   refine z7 T ρ (j % v.cells.size) q u ?_ hu'
   unfold FO at hq
   split at hq
   ·rename_i kd hk
    have hzk : z = .int kd 0 := by
     unfold zeroOf at hz
     split at hz
     ·split at hz
      ·have hz := Option.some.inj hz
       rw [← hz]
       simp only [DJ, hk]
      ·cases hz
     ·cases hz
    subst hzk
    simp only [flat, List.map_replicate] at hq
    have : q = .int kd 0 := by
     have := List.mem_of_getElem? hq
     exact List.eq_of_mem_replicate this
    subst this
    rw [z2]
    rw [show j % size (.int kd 0) = 0 from Nat.mod_one j]
    rfl
   ·simp only [flat] at hq
    rw [z2]
    exact H7 z4 (by rw [z3]; omega) n j q hq
  ·cases h
 ·cases h
theorem Ec (h : Ac C F ρ s a w) (hF : F k) {t : TypeId} {n : Nat} {parts : Array (Nat × Operand)} (ho : o.op = .buildSlice t n parts) {ps : List (Nat × PV)} (hps : Dm w (Tc C ρ s.hp) ρ ps (parts.toList.map fun x => (x.1, a.eval x.2)))
  {v : PV} {ups : List (Nat × Option Row)} {ob : List Prop} {rd : List Nat}
  (hx : (CG C.P t n ps k).run s.hp = some (v, ups, ob, rd)) : Goes C F ρ s a w o k v ups := by
 have hpl : (parts.map fun (i, x) => (i, a.eval x)).toList = parts.toList.map fun x => (x.1, a.eval x.2) := by rw [Array.toList_map]
 unfold CG at hx
 split at hx
 ·rename_i e hu
  split at hx
  ·rename_i hb
   simp only [Bool.and_eq_true] at hb
   have hlim := Nat.le_of_ble_eq_true hb.1
   have hne := A8 hb.2
   obtain ⟨inf, hi⟩ := Az hne
   split at hx
   ·rename_i c0 hc0
    obtain ⟨z, z1, z2, z3, z4, z5⟩ := GM (w := w) hc0 hne
    split at hx
    ·rename_i c' hc'
     simp only [Pr.run, Option.some.injEq, Prod.mk.injEq] at hx
     obtain ⟨rfl, rfl, _, _⟩ := hx
     obtain ⟨cells', r1, r2, r3, r4, r5, r6⟩ := Fp (w := w) (T := Tc C ρ s.hp) (ρ := ρ) (placeR := fun i => some (i * C.P.cellsOf e, C.P.cellsOf e)) (fun i st n he => by
      simp only [Option.some.injEq, Prod.mk.injEq] at he
      obtain ⟨rfl, rfl⟩ := he
      rfl) _ _ c0 c' ((Array.range (n * C.P.cellsOf e)).map (z.cells[· % z.cells.size]!)) hc' hps z3 (by simp [z4]) (z5 _ _)
     have hpos : 1 ≤ C.P.cellsOf e := by omega
     have hn : n ≤ n * C.P.cellsOf e := Nat.le_mul_of_pos_right n hpos
     refine BN h hF (Ct.alloc w cells' e (0, 0)) (n := n) (cap := n) ?_ r2 (by omega) (by simp) r5 (Nat.le_refl _) (by unfold maxLen; omega) (by omega)
     have hexec : (Instr.buildSlice t n (parts.map fun (i, x) => (i, a.eval x))).run C.P w = .ok (.slice (some ⟨w.heap.size, 0, none⟩) n n) (w.alloc (.cells cells' e)) := by
      have hlim' : ¬ n * C.P.cellsOf e > 2 ^ 24 := by omega
      by_cases h0 : n * C.P.cellsOf e = 0
      ·have hcz : ((Array.range (n * C.P.cellsOf e)).map (z.cells[· % z.cells.size]!)) = (Array.range (n * C.P.cellsOf e)).map ((#[] : Array Value)[· % (#[] : Array Value).size]!) := by rw [h0]; simp
       rw [hcz] at r1
       simp only [Instr.buildSlice, Sem.run_bind, run_underlying hu, Result.andThen_ok, Aj hi, if_neg hlim', if_pos h0, Sem.run_pure, hpl, r1]
       rfl
      ·simp only [Instr.buildSlice, Sem.run_bind, run_underlying hu, Result.andThen_ok, Aj hi, if_neg hlim', if_neg h0, Sem.run_pure, z1, hpl, r1]
       rfl
     simp only [execOp, ho, Sem.run_bind, hexec, Result.andThen_ok, Sem.run_pure]
    ·simp [Pr.run] at hx
   ·simp [Pr.run] at hx
  ·simp [Pr.run] at hx
 ·simp [Pr.run] at hx
theorem IL (h : Ac C F ρ s a w) (hF : F k) {t : TypeId} {n : Nat} {parts : Array (Nat × Operand)} (ho : o.op = .buildSlice t n parts) {v : PV} {ups : List (Nat × Option Row)} {ob : List Prop} {rd : List Nat}
  (hx : (CG C.P t n (Ck (evO C.P C.G 0 s.fr) parts.toList) k).run s.hp = some (v, ups, ob, rd)) : Goes C F ρ s a w o k v ups :=
 Ec h hF ho (Dc h parts.toList) hx
end
end Go.Pe
namespace Go.Pe
section
variable {C : Ctx} {F : Nat → Prop} {ρ : Pls} {s : St} {a : Act} {w : World} {o : Oper} {k : Nat}
theorem Pr.JJ {hp : Hp} {p : List Prop} : ∀ {pr : Pr} {v : PV} {ups : List (Nat × Option Row)} {ob : List Prop} {rd : List Nat}, (pr.need p).run hp = some (v, ups, ob, rd) → ∃ ob', pr.run hp = some (v, ups, ob', rd) ∧ ob = p ++ ob'
 | .fail, v, ups, ob, rd, h => by simp [Pr.need, Pr.run] at h
 | .ret v' u' o', v, ups, ob, rd, h => by
  simp only [Pr.need, Pr.run, Option.some.injEq, Prod.mk.injEq] at h
  obtain ⟨rfl, rfl, rfl, rfl⟩ := h
  exact ⟨o', rfl, rfl⟩
 | .read id f, v, ups, ob, rd, h => by
  simp only [Pr.need, Pr.run] at h ⊢
  split at h
  ·rename_i r hr
   simp only [Option.map_eq_some_iff, Prod.mk.injEq] at h
   obtain ⟨⟨v', u', o', r'⟩, h1, h2, h3, h4, h5⟩ := h
   simp only at h2 h3 h4 h5
   subst h2; subst h3; subst h4; subst h5
   obtain ⟨ob', g1, g2⟩ := Pr.JJ h1
   exact ⟨ob', by rw [g1]; rfl, g2⟩
  ·cases h
theorem Bq {c : PV} (h : Bb c = true) : size c = Aa c * Am c := by
 cases c <;> simp only [Bb, reduceCtorEq] at h <;> simp [size, Aa, Am]
structure Src (P : Program) (w : World) (T : T2) (ρ : Pls) (x : Value) (d : PV) (news : List Value) : Prop where
 wf : WF d
 arr : Bb d = true
 len : ∀ w', (Builtin.lenOf x).run P w' = .ok (Aa d) w'
 part : ∀ m, m ≤ Aa d → ∀ w', w'.heap = w.heap → (Builtin.firstCells (Am d) m x).run P w' = .ok (news.take (m * Am d)).toArray w'
 size : news.length = size d
 rel : ∀ (j : Nat) (q : PV) (u : Value), (flat d)[j]? = some q → news[j]? = some u → RO w T ρ u q
theorem Src.first {P : Program} {T : T2} {x : Value} {d : PV} {news : List Value} (h : Src P w T ρ x d news) (w' : World) (hh : w'.heap = w.heap) : (Builtin.firstCells (Am d) (Aa d) x).run P w' = .ok news.toArray w' := by
 have := h.part (Aa d) (Nat.le_refl _) w' hh
 rwa [← Bq h.arr, List.take_of_length_le (by rw [h.size]; exact Nat.le_refl _)] at this
theorem FH {P : Program} {T : T2} {A : Option Addr} {n c : Nat} {d : PV} (hw : WF d) (ha : Bb d = true) (hn : Aa d = n) (us : Nat → Value)
  (hA : 0 < n → ∃ b o', A = some ⟨b, o', none⟩ ∧ ∀ (j : Nat) (q : PV), (flat d)[j]? = some q → w.cell? ⟨b, o' + j, none⟩ = some (us j) ∧ RO w T ρ (us j) q) :
  Src P w T ρ (.slice A n c) d ((List.range (size d)).map us) := by
 have hl := Ae d hw
 refine ⟨hw, ha, fun w' => by rw [hn]; rfl, fun m hm w' hh => ?_, by simp, fun j q u hq hu => ?_⟩
 ·have hle : m * Am d ≤ size d := by rw [Bq ha]; exact Nat.mul_le_mul_right _ hm
  rw [← List.map_take, List.take_range, Nat.min_eq_left hle]
  rcases Nat.eq_zero_or_pos n with h0 | h0
  ·have hm0 : m = 0 := by omega
   subst hm0
   simp only [Nat.zero_mul]
   cases A with
   | none => rfl
   | some ad =>
    have := run_loadCells_list (P := P) w' ad [] (by simp)
    simp only [Builtin.firstCells, Nat.zero_mul]
    exact this
  ·obtain ⟨b, o', rfl, hc⟩ := hA h0
   exact run_loadCells (P := P) w' ⟨b, o', none⟩ (m * Am d) us (fun j hj => by
    have hq : (flat d)[j]? = some (flat d)[j] := List.getElem?_eq_getElem (by omega)
    have := (hc j _ hq).1
    rw [A9]
    simp only [World.cell?, hh] at this ⊢
    exact this)
 ·have hj : j < size d := by have := (List.getElem?_eq_some_iff.1 hq).1; omega
  have hn0 : 0 < n := by
   rcases Nat.eq_zero_or_pos n with h0 | h0
   ·rw [Bq ha, hn, h0] at hj; omega
   ·exact h0
  obtain ⟨b, o', _, hc⟩ := hA hn0
  have : u = us j := by simp [hj] at hu; exact hu.symm
  rw [this]
  exact (hc j q hq).2
theorem JI (h : Ac C F ρ s a w) {t : TypeId} {x : Operand} {K : PV → Pr} {v : PV} {ups : List (Nat × Option Row)} {ob : List Prop} {rd : List Nat}
  (hx : (Ev (evO C.P C.G t s.fr x) K).run s.hp = some (v, ups, ob, rd)) (hob : All ob) :
  ∃ d ob' rd' news, (K d).run s.hp = some (v, ups, ob', rd') ∧ All ob' ∧ Src C.P w (Tc C ρ s.hp) ρ (a.eval x) d news := by
 unfold Ev at hx
 split at hx
 ·rename_i nl c hA
  obtain ⟨w1, w2, w3⟩ := CV h hA
  refine ⟨c, ob, rd, ?_⟩
  generalize a.eval x = vx at w3
  cases w3 with
  | vec0 A cc _ _ hl hn _ => exact ⟨_, hx, hob, FH w1 w2 hl (fun _ => Go.undef) (fun h0 => absurd h0 (by omega))⟩
  | vec1 b o' n cc _ us hn hc hm g1 g2 => exact ⟨_, hx, hob, FH w1 w2 hn us (fun _ => ⟨b, o', rfl, fun j q hq => ⟨(g1 j q hq).2, RO.Be (g2 j q hq)⟩⟩)⟩
 ·rename_i id path sz off n hA
  simp only [Pr.run] at hx
  split at hx
  ·rename_i row hr
   split at hx
   ·rename_i q hq
    split at hx
    ·rename_i hb
     simp only [Bool.and_eq_true] at hb
     simp only [Option.map_eq_some_iff, Prod.mk.injEq] at hx
     obtain ⟨⟨v', u', o', r'⟩, h1, rfl, rfl, rfl, _⟩ := hx
     obtain ⟨ob', g1, g2⟩ := Pr.JJ h1
     subst g2
     have hle : off + n ≤ Aa q := hob.head
     have hpo : All (Ba row.c path) := (All.tail hob).left
     have hsz := Nat.eq_of_beq_eq_true hb.2
     obtain ⟨pl, A, c, p1, p2, p3, p5, p4⟩ := Cz h hA
     obtain ⟨pl', p1', hrel⟩ := h.heap.row id row hr
     rw [p1] at p1'
     cases p1'
     obtain ⟨c1, _, _, c3⟩ := hrel.Cy hq (Bf hb.1) hpo
     obtain ⟨s1, s2, s3, s4, s5⟩ := Dl c1 hb.1 hle
     have hex : ∀ j, ∃ u, ∀ y, (flat (sub q off n))[j]? = some y → w.cell? ⟨pl.g, pl.off + (Af path + off * sz) + j, none⟩ = some u ∧ RO w (Tc C ρ s.hp) ρ u y := by
      intro j
      cases hj : (flat (sub q off n))[j]? with
      | none => exact ⟨Go.undef, fun y hy => by cases hy⟩
      | some y =>
       obtain ⟨u, e1, e2⟩ := c3 _ y (s5 j y hj)
       refine ⟨u, fun y' hy => ?_⟩
       cases hy
       refine ⟨?_, e2⟩
       rw [← e1, ← hsz]
       congr 2
       omega
     obtain ⟨us, hus⟩ := Classical.axiomOfChoice hex
     refine ⟨sub q off n, ob', _, (List.range (size (sub q off n))).map us, g1, (All.tail hob).right, ?_⟩
     rw [p2]
     exact FH s1 s2 s3 us (fun h0 => by
      obtain ⟨rfl, _⟩ := p4 (by omega)
      exact ⟨_, _, rfl, hus⟩)
    ·simp [Pr.run] at hx
   ·simp [Pr.run] at hx
  ·cases hx
 ·rename_i b hA
  obtain ⟨e1, e2⟩ := Dx h hA
  obtain ⟨w1, w2⟩ := GA b
  refine ⟨_, ob, rd, b.data.toList.map (fun x => Value.int .u8 x.toNat), hx, hob, w1, rfl, fun w' => by rw [e1]; rfl, fun m _ w' _ => ?_, ?_, fun j q u hq hu => ?_⟩
  ·rw [e1]
   simp only [Builtin.firstCells, Am, Nat.mul_one, Sem.run_pure]
   congr 1
   apply Array.ext'
   simp
  ·simp [size]
  ·obtain ⟨hj, rfl⟩ := w2 j q hq
   have hu' : u = .int .u8 (b.data[j].toNat : Int) := by
    rw [List.getElem?_map, Array.getElem?_toList, Array.getElem?_eq_getElem hj] at hu
    simpa using hu.symm
   rw [hu']
   exact RO.Be (.int _ _)
 ·simp [Pr.run] at hx
theorem F3 {P : Program} {t2 : TypeId} (h2 : H6 P t2 = true) : (∃ e2, P.underlying t2 = some (.slice e2)) ∨ P.underlying t2 = some .string := by
 unfold H6 at h2
 split at h2
 ·exact .inl ⟨_, by assumption⟩
 ·exact .inr (by assumption)
 ·cases h2
theorem M4 {P : Program} {T : T2} {t1 t2 ty e : TypeId} {i : TypeInfo} (h1 : P.underlying t1 = some (.slice e)) (h2 : H6 P t2 = true) (hi : P.info? e = some i) {ad : Addr} {n c : Nat} {x : Value} {d : PV} {news : List Value} (hs : Src P w T ρ x d news)
  (hz : P.cellsOf e = Am d) (hr : n + Aa d ≤ c) {w' : World} (hst : (storeCells (ad.add (n * P.cellsOf e)) news).run P w = .ok () w') :
  (Builtin.append_ #[t1, t2] ty #[.slice (some ad) n c, x]).run P w = .ok (.slice (some ad) (n + Aa d) c) w' := by
 have hf := hs.first w rfl
 rw [← hz] at hf
 rcases F3 h2 with ⟨e2, hu⟩ | hu
 all_goals
  simp only [Builtin.append_, List.getElem?_toArray, List.getElem?_cons_zero, List.getElem?_cons_succ, Sem.run_bind, run_underlying h1, run_underlying hu, Aj hi, Result.andThen_ok, Sem.run_pure, Bool.false_eq_true, if_false, hs.len, if_pos hr, Bool.not_false, if_true, hf, hst]
theorem II {P : Program} {T : T2} {t1 t2 ty e : TypeId} {i : TypeInfo} {z : Value} (h1 : P.underlying t1 = some (.slice e)) (h2 : H6 P t2 = true) (hi : P.info? e = some i) (hzv : ∀ w', (zeroValue e).run P w' = .ok z w') {A : Option Addr} {n c : Nat} {x : Value} {d : PV} {news olds : List Value} (hs : Src P w T ρ x d news)
  (hz : P.cellsOf e = Am d) (hr : c < n + Aa d) (hm : n + Aa d ≤ maxLen) (hb : (n + Aa d) * P.bytesOf e ≤ 140737488355328)
  (hold : ∀ w', w'.heap = w.heap → (Builtin.firstCells (P.cellsOf e) n (.slice A n c)).run P w' = .ok olds.toArray w') :
  ∃ cap, n + Aa d ≤ cap ∧ cap ≤ maxLen ∧ (Builtin.append_ #[t1, t2] ty #[.slice A n c, x]).run P w =
   .ok (.slice (some ⟨w.heap.size, 0, none⟩) (n + Aa d) cap) (World.alloc { w with drawn := w.drawn + 1 } (.cells (olds.toArray ++ news.toArray ++ Builtin.zeroCells z.cells (cap - (n + Aa d))) e)) := by
 have hbytes : P.bytesOf e = i.bytes := by simp [Program.bytesOf, hi]
 rw [hbytes] at hb
 have hnr : ¬ n + Aa d ≤ c := by omega
 have e1 : IntKind.i64.max = 9223372036854775807 := by decide
 have hov : ¬ (((n + Aa d : Nat) : Int) > IntKind.i64.max ∧ (False ∨ i.bytes = 0)) := by
  rw [e1]; unfold maxLen at hm; omega
 have hov' : ¬ (((n + Aa d : Nat) : Int) > IntKind.i64.max) := by
  rw [e1]; unfold maxLen at hm; omega
 have hfit : ¬ Builtin.nextslicecap (n + Aa d) c * i.bytes > 2 ^ 48 := by
  have := growslice_fits hr hb
  omega
 refine ⟨grownCap w (n + Aa d) c e, ?_, ?_, ?_⟩
 ·simp only [grownCap, Question.cut]; omega
 ·unfold maxLen at hm ⊢
  have := Nat.mod_lt (w.tape w.drawn (.appendCap (n + Aa d) c e)) (show 0 < 2 ^ 63 - (n + Aa d) by omega)
  simp only [grownCap, Question.cut]
  omega
 ·have hf := hs.first { w with drawn := w.drawn + 1 } rfl
  rw [← hz] at hf
  have ho := hold { w with drawn := w.drawn + 1 } rfl
  have hch : (choose (.appendCap (n + Aa d) c e)).run P w = .ok (grownCap w (n + Aa d) c e) { w with drawn := w.drawn + 1 } := by
   rw [run_choose]
   rfl
  have hti : ∀ w', (typeInfo e).run P w' = .ok i w' := fun w' => by simp [typeInfo, program, Sem.run, hi]
  have hask : ∀ (m : Nat) (w' : World), (askRoom m).run P w' = .ok () w' := fun m w' => by
   unfold askRoom
   split <;> rfl
  have hnew : ∀ (w' : World) (cs : Array Value), (newRow e cs).run P w' = .ok ⟨w'.heap.size, 0, none⟩ (w'.alloc (.cells cs e)) := fun w' cs => rfl
  rcases F3 h2 with ⟨e2, hu⟩ | hu
  all_goals
   simp only [Builtin.append_, List.getElem?_toArray, List.getElem?_cons_zero, List.getElem?_cons_succ, Sem.run_bind, run_underlying h1, run_underlying hu, Aj hi, Result.andThen_ok, Sem.run_pure, Bool.false_eq_true, if_false, hs.len, if_neg hnr, Bool.not_false, if_true, hti, if_neg hov, if_neg hfit, hch, hask, ho, hf, hzv, hnew]
theorem LF {c d m : PV} (hc : Bb c = true) (wc : WF c) (wd : WF d) (h : Ma c d = some m) :
  WF m ∧ Aa m = Aa c + Aa d ∧ Am d = Am c ∧ Am m = Am c ∧ Bb m = true ∧ flat m = flat c ++ flat d := by
 unfold Ma at h
 split at h
 ·rename_i k n l k' n' l'
  split at h
  ·rename_i hk
   have hk := IntKind.same_eq hk
   subst hk
   simp only [Option.some.injEq] at h
   subst h
   simp only [WF] at wc wd
   refine ⟨?_, rfl, rfl, rfl, rfl, by simp [flat]⟩
   simp only [WF, List.length_append]
   refine ⟨by omega, fun x hx => ?_⟩
   rcases List.mem_append.1 hx with hx | hx
   ·exact wc.2 x hx
   ·exact wd.2 x hx
  ·cases h
 ·rename_i sz n sh l sz' n' sh' l'
  split at h
  ·rename_i hk
   simp only [Bool.and_eq_true] at hk
   have e1 := Nat.eq_of_beq_eq_true hk.1
   have e2 := Sh.beq_eq _ _ hk.2
   subst e1; subst e2
   simp only [Option.some.injEq] at h
   subst h
   simp only [WF] at wc wd
   refine ⟨?_, rfl, rfl, rfl, rfl, by simp only [flat]; exact AX l l'⟩
   simp only [WF, List.length_append]
   refine ⟨by omega, Bt fun q hq => ?_, fun q hq => ?_⟩
   ·rcases List.mem_append.1 hq with hq | hq
    ·exact AC wc.2.1 q hq
    ·exact AC wd.2.1 q hq
   ·rcases List.mem_append.1 hq with hq | hq
    ·exact wc.2.2 q hq
    ·exact wd.2.2 q hq
  ·cases h
 ·cases h
theorem Dj (z : Array Value) (n : Nat) : (Builtin.zeroCells z n).size = n * z.size := by simp [Builtin.zeroCells]
theorem MR {emp : Bool} (h : Ac C F ρ s a w) (hF : F k) {c : Call} (ho : o.op = .call c) (hc : c.callee = .builtin .append) (hsz : sizes c 2 = true) {v : PV} {ups : List (Nat × Option Row)} {ob : List Prop} {rd : List Nat}
  (hx : (LB C.P (c.argTypes.getD 0 0) (c.argTypes.getD 1 0) (evO C.P C.G (c.argTypes.getD 0 0) s.fr (c.args.getD 0 (.func 0))) (evO C.P C.G (c.argTypes.getD 1 0) s.fr (c.args.getD 1 (.func 0))) k emp).run s.hp = some (v, ups, ob, rd)) (hob : All ob) : Goes C F ρ s a w o k v ups := by
 obtain ⟨callee, args, argTypes⟩ := c
 simp only at hc hx
 subst hc
 simp only [sizes, Bool.and_eq_true] at hsz
 have ha := Nat.eq_of_beq_eq_true hsz.1
 have ht := Nat.eq_of_beq_eq_true hsz.2
 obtain ⟨t1, t2, rfl⟩ : ∃ t1 t2, argTypes = #[t1, t2] := by
  obtain ⟨l⟩ := argTypes
  match l, ht with
  | [t1, t2], _ => exact ⟨t1, t2, rfl⟩
 obtain ⟨x, y, rfl⟩ : ∃ x y, args = #[x, y] := by
  obtain ⟨l⟩ := args
  match l, ha with
  | [x, y], _ => exact ⟨x, y, rfl⟩
 have e1 : (#[t1, t2] : Array TypeId).getD 0 0 = t1 := rfl
 have e2 : (#[t1, t2] : Array TypeId).getD 1 0 = t2 := rfl
 have e3 : (#[x, y] : Array Operand).getD 0 (.func 0) = x := rfl
 have e4 : (#[x, y] : Array Operand).getD 1 (.func 0) = y := rfl
 rw [e1, e2, e3, e4] at hx
 have hrun : ∀ u w', (Builtin.append_ #[t1, t2] o.type #[a.eval x, a.eval y]).run C.P w = .ok u w' → (execOp a.eval o).run C.P w = .ok (.value u) w' := by
  intro u w' hu
  simp only [execOp, ho, resolve, Sem.run_bind, Sem.run_pure, Result.andThen_ok, invoke, builtin, List.map_toArray, List.map_cons, List.map_nil, hu]
 unfold LB at hx
 split at hx
 ·rename_i e hu
  split at hx
  ·rename_i hsrc
   obtain ⟨d, ob', rd', news, g1, g2, g3⟩ := JI h hx hob
   generalize hA : evO C.P C.G t1 s.fr x = A at g1
   unfold ME at g1
   split at g1
   ·-- nil
    rename_i c0
    obtain ⟨w1, w2, w3⟩ := CV h hA
    obtain ⟨hv⟩ : Nonempty (a.eval x = .slice none 0 0) := by
     generalize a.eval x = vx at w3
     cases w3 with
     | vec0 A' cc _ _ _ hn hcn =>
      cases A' with
      | none => rw [hcn rfl]; exact ⟨rfl⟩
      | some A' => simp at hn
    split at g1
    ·-- nothing is appended
     split at g1
     ·rename_i hb
      simp only [Bool.and_eq_true] at hb
      simp only [Pr.run, Option.some.injEq, Prod.mk.injEq] at g1
      obtain ⟨rfl, rfl, rfl, _⟩ := g1
      have h0 : Aa c0 = 0 := g2.head
      have h1 : Aa d = 0 := g2.tail.head
      refine Goes.pure h (u := .slice none 0 0) (hrun _ _ ?_) fun _ => RV.Ap rfl (fun _ e => by cases e) (by simp only [WF]; exact ⟨w1, w2, fun _ => h0⟩) (by simp only [RO]; exact .vec0 _ _ _ _ h0 rfl (fun _ => rfl))
      rw [hv]
      obtain ⟨inf, hi⟩ := Az (A8 hb.1)
      have hf := g3.first w rfl
      rw [← Nat.eq_of_beq_eq_true hb.2, h1] at hf
      have hlen := g3.len w
      rw [h1] at hlen
      rcases F3 hsrc with ⟨e2, hu2⟩ | hu2
      all_goals
       simp only [Builtin.append_, List.getElem?_toArray, List.getElem?_cons_zero, List.getElem?_cons_succ, Sem.run_bind, run_underlying hu, run_underlying hu2, Aj hi, Result.andThen_ok, Sem.run_pure, Bool.false_eq_true, if_false, hlen, Nat.add_zero, Nat.le_refl, if_true, Bool.not_false, hf]
     ·simp [Pr.run] at g1
    ·split at g1
     ·rename_i hb
      simp only [Bool.and_eq_true] at hb
      obtain ⟨⟨⟨b1, b2⟩, b3⟩, b4⟩ := hb
      simp only [Pr.run, Option.some.injEq, Prod.mk.injEq] at g1
      obtain ⟨rfl, rfl, rfl, _⟩ := g1
      have b1 := Nat.eq_of_beq_eq_true b1
      obtain ⟨inf, hi⟩ := Az (A8 b3)
      obtain ⟨z, hz⟩ := Option.isSome_iff_exists.1 b4
      obtain ⟨zv, z1, z2, z3, _⟩ := Bz (w := w) hz
      have hpos : 0 < Aa d := g2.head
      have hroom : Aa d * C.P.bytesOf e ≤ 140737488355328 := g2.tail.head
      have hmax : Aa d ≤ maxLen := g2.tail.tail.head
      obtain ⟨cap, q1, q2, q3⟩ := II (ty := o.type) (A := none) (n := 0) (c := 0) (olds := []) hu hsrc hi z1 g3 b1 (by omega) (by omega) (by rw [Nat.zero_add]; exact hroom) (fun w' _ => rfl)
      rw [Nat.zero_add] at q1 q3
      have hsd : size d = Aa d * Am d := Bq g3.arr
      have hcs : (([] : List Value).toArray ++ news.toArray ++ Builtin.zeroCells zv.cells (cap - Aa d)).size = cap * Am d := by
       simp only [List.append_toArray, List.nil_append, Array.size_append, List.size_toArray, g3.size, Dj, z2, z3, b1, hsd]
       obtain ⟨r, rfl⟩ : ∃ r, cap = Aa d + r := ⟨cap - Aa d, by omega⟩
       rw [Nat.add_sub_cancel_left, Nat.add_mul]
      refine BN h hF (Ct.JS w (w.drawn + 1) _ e (0, 0)) (hrun _ _ (by rw [hv]; exact q3)) g3.wf ?_ (by simp) (fun j q u hq hu' => ?_) q1 q2 (by rw [hcs, b1]; exact Nat.le_refl _)
      ·rw [hcs, hsd]; exact Nat.mul_le_mul_right _ q1
      ·have hj : j < news.length := by
        have := (List.getElem?_eq_some_iff.1 hq).1
        rw [Ae d g3.wf] at this
        rw [g3.size]; exact this
       refine g3.rel j q u hq ?_
       simp only [List.append_toArray, List.nil_append] at hu'
       rw [Array.getElem?_append_left (by simpa using hj)] at hu'
       simpa using hu'
     ·simp [Pr.run] at g1
   ·-- a row
    rename_i id sz off n
    simp only [Pr.run] at g1
    split at g1
    ·rename_i row hr
     split at g1
     ·simp [Pr.run] at g1
     ·rename_i hb
      simp only [Bool.or_eq_true, Bool.not_eq_true', not_or, Bool.not_eq_true, Bool.not_eq_false] at hb
      obtain ⟨⟨⟨⟨⟨b0, b1⟩, b2⟩, b3⟩, b4⟩, b5⟩ := hb
      split at g1
      ·rename_i c' hc'
       simp only [Pr.run, Option.map_some, Option.some.injEq, Prod.mk.injEq] at g1
       obtain ⟨rfl, rfl, rfl, _⟩ := g1
       have b2 := Nat.eq_of_beq_eq_true b2
       have b3 := Nat.eq_of_beq_eq_true b3
       obtain ⟨inf, hi⟩ := Az (A8 b4)
       obtain ⟨z, hz⟩ := Option.isSome_iff_exists.1 b5
       obtain ⟨zv, z1, z2, z3, _⟩ := Bz (w := w) hz
       have hend : off + n = Aa row.c := g2.head
       have hroom : (n + Aa d) * C.P.bytesOf e ≤ 140737488355328 := g2.tail.head
       have hmax : n + Aa d ≤ maxLen := g2.tail.tail.head
       obtain ⟨pl, A', c, p1, p2, p3, p5, p4⟩ := Cz h hA
       obtain ⟨pl', p1', hrel⟩ := h.heap.row id row hr
       rw [p1] at p1'
       cases p1'
       have hrel' := hrel
       obtain ⟨cs, tt, fz, r1, r2, r3, r4, r5, r6⟩ := hrel.cell (Bf b1)
       obtain ⟨s1, s2, s3, s4, s5⟩ := Dl r4 b1 (x := off) (n := n) (by omega)
       obtain ⟨j1, j2, j3, j4, j5, j6⟩ := LF s2 s1 g3.wf hc'
       have hesz : Am (sub row.c off n) = sz := by rw [s4, ← b3]
       have hsub : size (sub row.c off n) = n * sz := by rw [Bq s2, s3, hesz]
       have hszd : size d = Aa d * sz := by rw [Bq g3.arr, j3, hesz]
       have hszc : size c' = (n + Aa d) * sz := by rw [Bq j5, j2, s3, j4, hesz]
       have hlsub : (flat (sub row.c off n)).length = n * sz := by rw [Ae _ s1, hsub]
       have hflat : ∀ (j : Nat) (q : PV), (flat (sub row.c off n))[j]? = some q → (flat row.c)[off * sz + j]? = some q := fun j q hq => by
        have := s5 j q hq
        rwa [← b3] at this
       have hrows : size row.c = (off + n) * sz := by rw [Bq b1, ← hend, ← b3]
       by_cases hroomy : n + Aa d ≤ c
       ·have hext : off * sz + c * sz ≤ pl.ext := by
         rcases Nat.eq_zero_or_pos c with h0 | h0
         ·subst h0
          rw [hrows, show n = 0 by omega, Nat.add_zero] at r3
          omega
         ·have := (p4 h0).2
          simp only [Af] at this
          omega
        have hnc : (n + Aa d) * sz ≤ c * sz := Nat.mul_le_mul_right _ hroomy
        have hnc' : n * sz + Aa d * sz ≤ c * sz := by rw [← Nat.add_mul]; exact hnc
        obtain ⟨h1, hk, he⟩ := h.rename (k := k) hr b0 p1 hF (Bf b1) (c' := sub row.c off n) (o := off * sz) (ext := c * sz) s1 (by omega) hext hflat
        have h2 := h1.write (id := k) (row := ⟨sub row.c off n, false⟩) (pl := ⟨pl.g, pl.off + off * sz, c * sz⟩) (upd_same _ _ _) rfl (upd_same _ _ _) (Bf s2) (c' := c') (o := n * sz) news j1 (by rw [hszc]; exact hnc) (by rw [g3.size, hszd]; exact hnc')
         (fun j q u hq hu' => by
          rw [j6, List.getElem?_append_right (by omega), hlsub, Nat.add_sub_cancel_left] at hq
          exact (g3.rel j q u hq hu').keep hk he)
         (fun j q hj hq => by
          have hjl : j < (flat c').length := (List.getElem?_eq_some_iff.1 hq).1
          rw [Ae c' j1, hszc, Nat.add_mul] at hjl
          rw [g3.size, hszd] at hj
          rw [j6, List.getElem?_append_left (by omega)] at hq
          exact hq)
        simp only [upd_upd] at h2
        intro K Q hK
        have hst : (storeCells (A'.add (n * C.P.cellsOf e)) news).run C.P w = .ok () (w.setCells pl.g (pl.off + off * sz + n * sz) news) := by
         rcases Nat.eq_zero_or_pos c with h0 | h0
         ·have : news = [] := List.eq_nil_of_length_eq_zero (by rw [g3.size, hszd, show Aa d = 0 by omega]; omega)
          subst this
          rfl
         ·obtain ⟨rfl, _⟩ := p4 h0
          have hs2 := run_storeCells_cells (P := C.P) pl.g (pl.off + off * sz + n * sz) news 0 w (fun j hj => by
            rw [g3.size, hszd] at hj
            rw [Nat.add_zero, AB r1, Array.getElem?_eq_getElem (by omega)]; rfl)
           (fun j hj => by
            rw [g3.size, hszd] at hj
            have := r5 (off * sz + n * sz + j) (by omega)
            simp only [World.frozen?, r1]
            rw [show pl.off + (off * sz + n * sz + j) = pl.off + off * sz + n * sz + 0 + j by omega] at this
            exact this)
           (fun u hu' => by
            obtain ⟨j, hj, rfl⟩ := List.getElem_of_mem hu'
            have hjd : j < (flat d).length := by rw [Ae d g3.wf, ← g3.size]; exact hj
            exact (g3.rel j _ _ (List.getElem?_eq_getElem hjd) (List.getElem?_eq_getElem hj)).one)
          rw [A9, b2]
          simp only [Af, Nat.zero_add]
          exact hs2
        have hrunA := M4 (ty := o.type) hu hsrc hi g3 (by rw [j3, hesz, b2]) hroomy hst
        refine Cf (hrun _ _ (by rw [p2]; exact hrunA)) (hK _ _ _ (Ext.upd _ (h.free k hF).1) (h2.less fun i hi => ⟨hi.1, by omega⟩) fun _ => ?_)
        refine RV.Ap rfl (fun _ e => by cases e) trivial ?_
        simp only [RO]
        refine ⟨_, A', c, upd_same _ _ _, rfl, hroomy, p5, fun h0 => ?_⟩
        obtain ⟨rfl, _⟩ := p4 h0
        exact ⟨by simp only [Af, Addr.mk.injEq, true_and, and_true]; omega, by simp only [Af]; omega⟩
       ·have hex : ∀ j, ∃ u, ∀ y, (flat (sub row.c off n))[j]? = some y → w.cell? ⟨pl.g, pl.off + off * sz + j, none⟩ = some u ∧ RO w (Tc C ρ s.hp) ρ u y := by
         intro j
         cases hj : (flat (sub row.c off n))[j]? with
         | none => exact ⟨Go.undef, fun y hy => by cases hy⟩
         | some y =>
          have h1 := hflat j y hj
          have hjl : off * sz + j < size row.c := by
           have := (List.getElem?_eq_some_iff.1 h1).1
           rw [Ae _ r4] at this
           exact this
          have hcell : cs[pl.off + (off * sz + j)]? = some cs[pl.off + (off * sz + j)] := Array.getElem?_eq_getElem (by omega)
          refine ⟨cs[pl.off + (off * sz + j)], fun y' hy => ?_⟩
          cases hy
          refine ⟨?_, r6 _ y _ h1 hcell⟩
          rw [Nat.add_assoc, AB r1]
          exact hcell
        obtain ⟨us, hus⟩ := Classical.axiomOfChoice hex
        have hsO : Src C.P w (Tc C ρ s.hp) ρ (.slice (some A') n c) (sub row.c off n) ((List.range (size (sub row.c off n))).map us) :=
         FH s1 s2 s3 us (fun h0 => by
          obtain ⟨rfl, _⟩ := p4 (by omega)
          exact ⟨_, _, rfl, fun j q hq => by simp only [Af, Nat.zero_add]; exact hus j q hq⟩)
        obtain ⟨cap, q1, q2, q3⟩ := II (ty := o.type) (A := some A') (n := n) (c := c) (olds := (List.range (size (sub row.c off n))).map us) hu hsrc hi z1 g3 (by rw [j3, hesz, b2]) (by omega) hmax hroom (fun w' hh => by
         have := hsO.first w' hh
         rw [hesz, s3, ← b2] at this
         exact this)
        obtain ⟨hK1, hK2⟩ := h.kill id
        have hcs : (((List.range (size (sub row.c off n))).map us).toArray ++ news.toArray ++ Builtin.zeroCells zv.cells (cap - (n + Aa d))).size = cap * sz := by
         simp only [List.append_toArray, Array.size_append, List.size_toArray, List.length_append, List.length_map, List.length_range, g3.size, Dj, z2, z3, b2, hszd, hsub]
         obtain ⟨r, rfl⟩ : ∃ r, cap = n + Aa d + r := ⟨cap - (n + Aa d), by omega⟩
         rw [Nat.add_sub_cancel_left, Nat.add_mul, Nat.add_mul]
        have h2 := hK1.EY (k := k) hF (Ct.JS w (w.drawn + 1) (((List.range (size (sub row.c off n))).map us).toArray ++ news.toArray ++ Builtin.zeroCells zv.cells (cap - (n + Aa d))) e (0, 0)) c' j1
         (by rw [hcs, hszc]; exact Nat.mul_le_mul_right _ q1) (by simp) (fun j q u hq hu' => by
          rw [j6] at hq
          simp only [List.append_toArray] at hu'
          have hjl : j < n * sz + Aa d * sz := by
           have := (List.getElem?_eq_some_iff.1 hq).1
           rw [List.length_append, hlsub, Ae d g3.wf, hszd] at this
           exact this
          rw [Array.getElem?_append_left (by simp [g3.size, hszd, hsub]; omega), List.getElem?_toArray] at hu'
          by_cases hj : j < n * sz
          ·rw [List.getElem?_append_left (by omega)] at hq
           rw [List.getElem?_append_left (by simp [hsub]; omega)] at hu'
           have : u = us j := by
            simp [hsub, hj] at hu'
            exact hu'.symm
           rw [this]
           exact (hus j q hq).2.keep hK2 (Ext.refl _)
          ·rw [List.getElem?_append_right (by omega), hlsub] at hq
           rw [List.getElem?_append_right (by simp [hsub]; omega)] at hu'
           simp only [List.length_map, List.length_range, hsub] at hu'
           exact (g3.rel _ q u hq hu').keep hK2 (Ext.refl _))
        intro K Q hK
        refine Cf (hrun _ _ (by rw [p2]; exact q3)) (hK _ _ _ (Ext.upd _ (h.free k hF).1) (h2.less fun i hi => ⟨hi.1, by omega⟩) fun _ => ?_)
        refine RV.Ap rfl (fun _ e => by cases e) trivial ?_
        simp only [RO]
        exact ⟨_, _, cap, upd_same _ _ _, rfl, q1, q2, fun _ => ⟨by simp [Af], by simp only [Af, Nat.zero_mul, Nat.zero_add]; omega⟩⟩
      ·simp [Pr.run] at g1
    ·cases g1
   ·simp [Pr.run] at g1
  ·simp [Pr.run] at hx
 ·simp [Pr.run] at hx
end
end Go.Pe
namespace Go.Pe
section
variable {C : Ctx} {F : Nat → Prop} {ρ : Pls} {s : St} {a : Act} {w : World} {o : Oper} {k : Nat}
theorem Mf {P : Program} {t : TypeId} {z : PV} (h : zeroOf P t = some z) : ∃ i v, P.info? t = some i ∧ i.zero = some v ∧ v.cells.size = size z ∧ size z = P.cellsOf t ∧ WF z ∧ i.size = P.cellsOf t ∧
  (∀ (T : T2) (ρ : Pls) (j : Nat) (q : PV) (u : Value), (flat z)[j]? = some q → v.cells[j]? = some u → RO w T ρ u q) := by
 obtain ⟨v, z1, z2, z3, z4, _, _, z7⟩ := Bz (w := w) h
 have hb : ∃ v', (P.info? t).bind (·.zero) = some v' := by
  unfold zeroOf at h
  split at h
  ·exact ⟨_, by assumption⟩
  ·cases h
 obtain ⟨v', hv'⟩ := hb
 cases hi : P.info? t with
 | none => simp [hi] at hv'
 | some i =>
  simp only [hi, Option.bind_some] at hv'
  have : v' = v := by
   have := z1 w
   simp [zeroValue, typeInfo, program, Sem.run, hi, hv'] at this
   exact this
  subst this
  exact ⟨i, v', rfl, hv', z2, z3, z4, by simp [Program.cellsOf, hi], z7⟩
theorem K6 {P : Program} {e : TypeId} (n : Nat) {z : PV} (hz : zeroOf P e = some z) (hok : rowOk P e z = true) (hsz : P.cellsOf e ≠ 0) :
  ∃ i v, P.info? e = some i ∧ i.zero = some v ∧ i.size = P.cellsOf e ∧ WF (FO P e n z) ∧ size (FO P e n z) = n * P.cellsOf e ∧
   ∀ (T : T2) (ρ : Pls) (m : Nat), DV w T ρ (madeCells v.cells m) (FO P e n z) := by
 obtain ⟨i, v, z1, z2, z3, z4, z5, z6, z7⟩ := Mf (w := w) hz
 refine ⟨i, v, z1, z2, z6, ?_⟩
 have hmade : ∀ (m j : Nat) (u : Value), (madeCells v.cells m)[j]? = some u → v.cells[j % size z]? = some u := by
  intro m j u hu
  have hj : j < m := by
   have := (Array.getElem?_eq_some_iff.1 hu).1
   rwa [size_madeCells] at this
  have hmod : j % v.cells.size < v.cells.size := Nat.mod_lt _ (by rw [z3, z4]; omega)
  simp [madeCells, hj] at hu
  rw [← hu, ← z3]
  simp [hmod]
 unfold rowOk at hok
 unfold FO
 split at hok
 ·rename_i kd hk
  split at hok
  ·rename_i k' x
   simp only [Bool.and_eq_true, decide_eq_true_eq] at hok
   obtain ⟨hk1, rfl⟩ := hok
   have hk1 := IntKind.same_eq hk1
   subst hk1
   have h1 : P.cellsOf e = 1 := by rw [← z4]; rfl
   have h0 : kd.wrap 0 = 0 := (Au kd 0).2 (Fh kd)
   refine ⟨?_, by simp only [size]; rw [h1, Nat.mul_one], fun T ρ m j q u hq hu => ?_⟩
   ·simp only [WF]
    refine ⟨by simp, fun x hx => ?_⟩
    rw [List.eq_of_mem_replicate hx]
    exact h0
   ·simp only [flat, List.map_replicate] at hq
    have : q = .int kd 0 := List.eq_of_mem_replicate (List.mem_of_getElem? hq)
    subst this
    have := hmade m j u hu
    rw [show j % size (.int kd 0) = 0 from Nat.mod_one j] at this
    exact z7 T ρ 0 _ _ rfl this
  ·cases hok
 ·simp only [Bool.and_eq_true] at hok
  obtain ⟨⟨hs, hc⟩, hn⟩ := hok
  have hs := Nat.eq_of_beq_eq_true hs
  refine ⟨?_, by simp only [size], fun T ρ m j q u hq hu => ?_⟩
  ·simp only [WF]
   refine ⟨by simp, Bt fun q hq => ?_, fun q hq => ?_⟩
   ·rw [List.eq_of_mem_replicate hq]; exact z5
   ·rw [List.eq_of_mem_replicate hq]; exact ⟨hs, hc, hn⟩
  ·simp only [flat] at hq
   exact z7 T ρ _ _ _ (H7 z5 (by omega) n j q hq) (hmade m j u hu)
theorem PU (h : Ac C F ρ s a w) (hF : F k) {t : TypeId} {x y : Operand} (ho : o.op = .makeSlice t x y) {v : PV} {ups : List (Nat × Option Row)} {ob : List Prop} {rd : List Nat}
  (hx : (makeP C.P t (evO C.P C.G 0 s.fr x) (evO C.P C.G 0 s.fr y) k).run s.hp = some (v, ups, ob, rd)) (hob : All ob) : Goes C F ρ s a w o k v ups := by
 unfold makeP at hx
 split at hx
 ·rename_i e kl n kc m hu hA hB
  split at hx
  ·rename_i z hz
   split at hx
   ·rename_i hb
    simp only [Bool.and_eq_true] at hb
    simp only [Pr.run, Option.some.injEq, Prod.mk.injEq] at hx
    obtain ⟨rfl, rfl, rfl, _⟩ := hx
    have o1 : 0 ≤ n := hob.head
    have o2 : n ≤ m := hob.tail.head
    have o3 : m ≤ 9223372036854775807 := hob.tail.tail.head
    have o4 : (C.P.bytesOf e : Int) * m ≤ 140737488355328 := hob.tail.tail.tail.head
    obtain ⟨e1, _⟩ := BD h hA
    obtain ⟨e2, _⟩ := BD h hB
    have hne := A8 hb.1
    obtain ⟨i, zv, z1, z2, z3, z4, z5, z6⟩ := K6 (w := w) n.toNat hz hb.2 hne
    have hbytes : C.P.bytesOf e = i.bytes := by simp [Program.bytesOf, z1]
    rw [hbytes] at o4
    have hr := run_make (P := C.P) w t e i zv hu z1 z2 kl kc n m o1 o2 (by omega) o3
    refine BN h hF (cs := madeCells zv.cells (m.toNat * i.size)) (Ct.alloc w _ e (0, 0)) (cap := m.toNat) (by simp only [execOp, ho, e1, e2, Sem.run_bind, hr, Result.andThen_ok, Sem.run_pure]) z4 ?_ (by simp) (fun j q u hq hu' => z6 _ _ _ j q u hq hu') (by omega) (by unfold maxLen; omega) (by rw [size_madeCells, z3]; exact Nat.le_refl _)
    rw [size_madeCells, z5, z3]
    exact Nat.mul_le_mul_right _ (by omega)
   ·simp [Pr.run] at hx
  ·simp [Pr.run] at hx
 ·simp [Pr.run] at hx
theorem mnN_eq (a b : Nat) : mnN a b = min a b := by
 unfold mnN
 split
 ·rename_i h; have := Nat.le_of_ble_eq_true h; omega
 ·rename_i h; have : ¬ a ≤ b := fun e => h (by rw [Nat.ble_eq]; exact e); omega
theorem Jw {α : Type} (l : List α) (off : Nat) (x : List α) (h : off + x.length ≤ l.length) : (spl l off x).length = l.length := by simp [spl]; omega
theorem I4 {α : Type} {l : List α} {off : Nat} {x : List α} (h : off + x.length ≤ l.length) (j : Nat) : (spl l off x)[j]? = if j < off then l[j]? else if j < off + x.length then x[j - off]? else l[j]? := by
 unfold spl
 rw [List.getElem?_append]
 have hl : (l.take off).length = off := by simp; omega
 rw [hl]
 split
 ·rw [List.getElem?_take, if_pos (by assumption)]
 ·rw [List.getElem?_append]
  split
  ·rw [if_pos (by omega)]
  ·rw [if_neg (by omega), List.getElem?_drop]
   congr 1
   omega
theorem NQ {sz : Nat} {l : List PV} (hw : WFL l) (hs : ∀ q ∈ l, size q = sz) (a : Nat) : Ag (l.take a) = (Ag l).take (a * sz) := by
 have e1 : Ag l = Ag (l.take a) ++ Ag (l.drop a) := by rw [← AX, List.take_append_drop]
 have e2 := Em hw hs a
 have hwt : WFL (l.take a) := Bt fun q hq => AC hw q (List.mem_of_mem_take hq)
 have e3 : (Ag (l.take a)).length = (l.take a).length * sz := by
  rw [AR _ hwt, AY fun q hq => hs q (List.mem_of_mem_take hq)]
 by_cases ha : a ≤ l.length
 ·have : (Ag (l.take a)).length = a * sz := by rw [e3]; congr 1; simp; omega
  rw [e1, ← this, List.take_left]
 ·rw [List.take_of_length_le (by omega : l.length ≤ a)]
  rw [List.take_of_length_le]
  rw [AR _ hw, AY hs]
  exact Nat.mul_le_mul_right _ (by omega)
theorem Iz {q d c : PV} {off : Nat} (hq : WF q) (hd : WF d) (h : L6 q off d = some c) (hb : off + Aa d ≤ Aa q) :
  WF c ∧ size c = size q ∧ Bb c = true ∧ Am d = Am q ∧ (∀ j, j < size d → (flat c)[off * Am q + j]? = (flat d)[j]?) ∧ (∀ j, j < off * Am q ∨ off * Am q + size d ≤ j → (flat c)[j]? = (flat q)[j]?) := by
 unfold L6 at h
 split at h
 ·rename_i k n l k' n' l'
  split at h
  ·rename_i hk
   have hk := IntKind.same_eq hk
   subst hk
   simp only [Option.some.injEq] at h
   subst h
   simp only [WF] at hq hd
   simp only [Aa] at hb
   have hfit : off + l'.length ≤ l.length := by omega
   refine ⟨?_, rfl, rfl, rfl, fun j hj => ?_, fun j hj => ?_⟩
   ·simp only [WF]
    refine ⟨by rw [Jw _ _ _ hfit]; exact hq.1, fun x hx => ?_⟩
    simp only [spl, List.mem_append] at hx
    rcases hx with hx | hx | hx
    ·exact hq.2 x (List.mem_of_mem_take hx)
    ·exact hd.2 x hx
    ·exact hq.2 x (List.mem_of_mem_drop hx)
   ·simp only [size] at hj
    simp only [flat, Am, Nat.mul_one, List.getElem?_map]
    rw [I4 hfit, if_neg (by omega), if_pos (by omega)]
    congr 2
    omega
   ·simp only [size, Am, Nat.mul_one] at hj
    simp only [flat, List.getElem?_map]
    rw [I4 hfit]
    split
    ·rfl
    ·rw [if_neg (by omega)]
  ·cases h
 ·rename_i sz n sh l sz' n' sh' l'
  split at h
  ·rename_i hk
   simp only [Bool.and_eq_true] at hk
   have e1 := Nat.eq_of_beq_eq_true hk.1
   have e2 := Sh.beq_eq _ _ hk.2
   subst e1; subst e2
   simp only [Option.some.injEq] at h
   subst h
   simp only [WF] at hq hd
   simp only [Aa] at hb
   have hfit : off + l'.length ≤ l.length := by omega
   have s1 : ∀ q ∈ l, size q = sz := fun q hq' => (hq.2.2 q hq').1
   have s2 : ∀ q ∈ l', size q = sz := fun q hq' => (hd.2.2 q hq').1
   have f2 : (Ag l').length = l'.length * sz := by rw [AR _ hd.2.1, AY s2]
   have f1 : (Ag l).length = l.length * sz := by rw [AR _ hq.2.1, AY s1]
   have hfit' : off * sz + (Ag l').length ≤ (Ag l).length := by
    rw [f1, f2, ← Nat.add_mul]; exact Nat.mul_le_mul_right _ hfit
   have hfl : Ag (spl l off l') = spl (Ag l) (off * sz) (Ag l') := by
    simp only [spl]
    rw [AX, AX, NQ hq.2.1 s1, Em hq.2.1 s1, f2, ← Nat.add_mul]
   refine ⟨?_, rfl, rfl, rfl, fun j hj => ?_, fun j hj => ?_⟩
   ·have hmem : ∀ q ∈ spl l off l', q ∈ l ∨ q ∈ l' := fun q hq' => by
     simp only [spl, List.mem_append] at hq'
     rcases hq' with hx | hx | hx
     ·exact .inl (List.mem_of_mem_take hx)
     ·exact .inr hx
     ·exact .inl (List.mem_of_mem_drop hx)
    simp only [WF]
    refine ⟨by rw [Jw _ _ _ hfit]; exact hq.1, Bt fun q hq' => ?_, fun q hq' => ?_⟩
    ·rcases hmem q hq' with hx | hx
     ·exact AC hq.2.1 q hx
     ·exact AC hd.2.1 q hx
    ·rcases hmem q hq' with hx | hx
     ·exact hq.2.2 q hx
     ·exact hd.2.2 q hx
   ·simp only [size] at hj
    have hj' : j < (Ag l').length := by rw [f2, hd.1]; exact hj
    simp only [flat, Am, hfl]
    rw [I4 hfit', if_neg (by omega), if_pos (by omega)]
    congr 1
    omega
   ·simp only [size, Am] at hj
    have hd1 := hd.1
    simp only [flat, hfl]
    rw [I4 hfit']
    split
    ·rfl
    ·rw [if_neg (by rw [f2, hd1]; omega)]
  ·cases h
 ·cases h
theorem O6 (h : Ac C F ρ s a w) {c : Call} (ho : o.op = .call c) (hc : c.callee = .builtin .copy) (hsz : sizes c 2 = true) {v : PV} {ups : List (Nat × Option Row)} {ob : List Prop} {rd : List Nat}
  (hx : (copyP C.P (c.argTypes.getD 0 0) (c.argTypes.getD 1 0) (evO C.P C.G (c.argTypes.getD 0 0) s.fr (c.args.getD 0 (.func 0))) (evO C.P C.G (c.argTypes.getD 1 0) s.fr (c.args.getD 1 (.func 0)))).run s.hp = some (v, ups, ob, rd)) (hob : All ob) : Goes C F ρ s a w o k v ups := by
 obtain ⟨callee, args, argTypes⟩ := c
 simp only at hc hx
 subst hc
 simp only [sizes, Bool.and_eq_true] at hsz
 have ha := Nat.eq_of_beq_eq_true hsz.1
 have ht := Nat.eq_of_beq_eq_true hsz.2
 obtain ⟨t1, t2, rfl⟩ : ∃ t1 t2, argTypes = #[t1, t2] := by
  obtain ⟨l⟩ := argTypes
  match l, ht with
  | [t1, t2], _ => exact ⟨t1, t2, rfl⟩
 obtain ⟨x, y, rfl⟩ : ∃ x y, args = #[x, y] := by
  obtain ⟨l⟩ := args
  match l, ha with
  | [x, y], _ => exact ⟨x, y, rfl⟩
 have e1 : (#[t1, t2] : Array TypeId).getD 0 0 = t1 := rfl
 have e2 : (#[t1, t2] : Array TypeId).getD 1 0 = t2 := rfl
 have e3 : (#[x, y] : Array Operand).getD 0 (.func 0) = x := rfl
 have e4 : (#[x, y] : Array Operand).getD 1 (.func 0) = y := rfl
 rw [e1, e2, e3, e4] at hx
 have hrun : ∀ u w', (Builtin.copy_ #[t1, t2] o.type #[a.eval x, a.eval y]).run C.P w = .ok u w' → (execOp a.eval o).run C.P w = .ok (.value u) w' := by
  intro u w' hu
  simp only [execOp, ho, resolve, Sem.run_bind, Sem.run_pure, Result.andThen_ok, invoke, builtin, List.map_toArray, List.map_cons, List.map_nil, hu]
 have hint : ∀ n : Nat, n ≤ maxLen → RV w (Tc C ρ s.hp) ρ (goInt n) (.int .i64 n) := fun n hn => RV.int (by
  rw [Au]
  have m1 : IntKind.i64.min = -9223372036854775808 := by decide
  have m2 : IntKind.i64.max = 9223372036854775807 := by decide
  unfold maxLen at hn
  omega)
 unfold copyP at hx
 split at hx
 ·rename_i e hu
  split at hx
  ·rename_i hsrc
   simp only [Bool.and_eq_true] at hsrc
   obtain ⟨hsrc, hszo⟩ := hsrc
   obtain ⟨inf, hi⟩ := Az (A8 hszo)
   obtain ⟨d, ob', rd', news, g1, g2, g3⟩ := JI h hx hob
   split at g1
   ·-- into nothing
    rename_i nl c0 hA
    split at g1
    ·rename_i hb
     have hb := Nat.eq_of_beq_eq_true hb
     simp only [Pr.run, Option.some.injEq, Prod.mk.injEq] at g1
     obtain ⟨rfl, rfl, rfl, _⟩ := g1
     have h0 : Aa c0 = 0 := g2.head
     obtain ⟨w1, w2, w3⟩ := CV h hA
     have key : ∃ A cc, a.eval x = .slice A 0 cc := by
      generalize a.eval x = vx at w3
      cases w3 with
      | vec0 A cc _ _ hl _ _ => exact ⟨A, cc, rfl⟩
      | vec1 b o' n cc _ us hn hc hm g1 g2 => exact ⟨_, cc, by rw [← hn, h0]⟩
     obtain ⟨A, cc, hA'⟩ := key
     refine Goes.pure h (u := goInt 0) (hrun _ _ ?_) fun _ => hint 0 (by unfold maxLen; omega)
     have hf := g3.part 0 (Nat.zero_le _) w rfl
     rw [hb] at hf
     simp only [Nat.zero_mul, List.take_zero] at hf
     rw [hA']
     simp only [Builtin.copy_, List.getElem?_toArray, List.getElem?_cons_zero, List.getElem?_cons_succ, Sem.run_bind, run_underlying hu, Result.andThen_ok, g3.len, Aj hi, Nat.min_zero, hf]
     cases A <;> simp [storeCells]
    ·simp [Pr.run] at g1
   ·-- into a row
    rename_i id path sz off n hA
    simp only [Pr.run] at g1
    split at g1
    ·rename_i row hr
     simp only [Option.map_eq_some_iff, Prod.mk.injEq] at g1
     obtain ⟨⟨v', u', o', r'⟩, g1, rfl, rfl, rfl, _⟩ := g1
     split at g1
     ·simp [Pr.run] at g1
     ·rename_i hfrz
      have hfrz : row.frz = false := by simpa using hfrz
      split at g1
      ·rename_i q hq
       split at g1
       ·rename_i hb
        simp only [Bool.and_eq_true] at hb
        obtain ⟨⟨⟨b1, b2⟩, b3⟩, b4⟩ := hb
        have b2 := Nat.eq_of_beq_eq_true b2
        have b3 := Nat.eq_of_beq_eq_true b3
        have b4 := Nat.eq_of_beq_eq_true b4
        split at g1
        ·rename_i q' hq'
         split at g1
         ·rename_i c' hc'
          simp only [Pr.run, Option.some.injEq, Prod.mk.injEq] at g1
          obtain ⟨rfl, rfl, rfl, _⟩ := g1
          have hle : off + n ≤ Aa q := g2.head
          have hpo : All (Ba row.c path) := g2.tail
          obtain ⟨pl, A, cc, p1, p2, p3, p5, p4⟩ := Cz h hA
          obtain ⟨pl', p1', hrel⟩ := h.heap.row id row hr
          rw [p1] at p1'
          cases p1'
          obtain ⟨cs, t, fz, r1, r2, r3, r4, r5, r6⟩ := hrel.cell (Dk hq (Bf b1))
          obtain ⟨n1, n2, n3, n4⟩ := Dg path r4 hq hpo
          have hm : mnN (Aa d) n = min (Aa d) n := mnN_eq _ _
          rw [hm] at hq' ⊢
          obtain ⟨s1, s2, s3, s4, s5⟩ := Dl (x := 0) (n := min (Aa d) n) g3.wf g3.arr (by omega)
          obtain ⟨t1', t2', t3', t4', t5', t6'⟩ := Iz n1 s1 hq' (by omega)
          obtain ⟨u1, u2, u3, u4, u5, _⟩ := CX q' t1' path r4 hc' hpo
          have hss : size (sub d 0 (min (Aa d) n)) = min (Aa d) n * sz := by rw [Bq s2, s3, s4, b4]
          have hsq : size q = Aa q * sz := by rw [Bq b1, b2]
          have hvs : (news.take (min (Aa d) n * sz)).length = min (Aa d) n * sz := by
           rw [List.length_take, g3.size, Bq g3.arr, b4]
           exact Nat.min_eq_left (Nat.mul_le_mul_right _ (Nat.min_le_left _ _))
          have hin : off * sz + min (Aa d) n * sz ≤ size q := by
           rw [hsq, ← Nat.add_mul]; exact Nat.mul_le_mul_right _ (by omega)
          intro K Q hK
          refine Cf (u := goInt ((min (Aa d) n : Nat) : Int)) (w' := w.setCells pl.g (pl.off + (Af path + off * sz)) (news.take (min (Aa d) n * sz))) (hrun _ _ ?_) (hK _ _ ρ (Ext.refl _) ((h.write hr hfrz p1 (Dk hq (Bf b1)) (c' := c') (o := Af path + off * sz) (news.take (min (Aa d) n * sz)) u1 (by rw [u2]; exact r3) (by rw [hvs]; omega) (fun j q0 u hq0 hu0 => ?_) (fun j q0 hj hq0 => ?_)).less fun _ hi => hi.1) fun _ => ?_)
          ·have hf := g3.part (min (Aa d) n) (Nat.min_le_left _ _) w rfl
           rw [b4, b3] at hf
           have hone : ∀ x ∈ news.take (min (Aa d) n * sz), x.oneCell' = true := by
            intro y hy
            obtain ⟨j, hj⟩ := List.mem_iff_getElem?.1 hy
            have hjn : news[j]? = some y := by
             rw [List.getElem?_take] at hj
             split at hj
             ·exact hj
             ·cases hj
            have hjl : j < news.length := (List.getElem?_eq_some_iff.1 hjn).1
            rw [g3.size] at hjl
            have hlt : j < (flat d).length := by rw [Ae d g3.wf]; exact hjl
            have hq0 : (flat d)[j]? = some (flat d)[j] := List.getElem?_eq_getElem hlt
            exact (g3.rel j _ y hq0 hjn).one
           rw [p2]
           simp only [Builtin.copy_, List.getElem?_toArray, List.getElem?_cons_zero, List.getElem?_cons_succ, Sem.run_bind, run_underlying hu, Result.andThen_ok, g3.len, Aj hi]
           rw [show Nat.min (Aa d) n = min (Aa d) n from rfl, hf]
           simp only [Result.andThen_ok]
           by_cases hc0 : 0 < cc
           ·obtain ⟨rfl, _⟩ := p4 hc0
            have hst := run_storeCells_cells (P := C.P) pl.g (pl.off + (Af path + off * sz)) (news.take (min (Aa d) n * sz)) 0 w (fun j hj => by
              rw [hvs] at hj
              rw [Nat.add_zero, AB r1, Array.getElem?_eq_getElem (by omega)]; rfl)
             (fun j hj => by
              rw [hvs] at hj
              have := r5 (Af path + off * sz + j) (by omega)
              simp only [World.frozen?, r1]
              rw [← Nat.add_assoc] at this
              simpa using this) hone
            rw [b3] at hst ⊢
            rw [hst]
            rfl
           ·have hn0 : n = 0 := by omega
            subst hn0
            simp [storeCells, World.setCells]
          ·have hj : j < min (Aa d) n * sz := by
            have := (List.getElem?_eq_some_iff.1 hu0).1
            rwa [hvs] at this
           rw [Nat.add_assoc, u4 (off * sz + j) (by rw [t2']; omega)] at hq0
           rw [b2, t5' j (by rw [hss]; exact hj)] at hq0
           have hq1 := s5 j q0 hq0
           rw [Nat.zero_mul, Nat.zero_add] at hq1
           refine g3.rel j q0 u hq1 ?_
           rw [List.getElem?_take, if_pos hj] at hu0
           exact hu0
          ·rw [hvs] at hj
           by_cases hin1 : Af path ≤ j ∧ j < Af path + size q
           ·obtain ⟨i, rfl⟩ : ∃ i, j = Af path + i := ⟨j - Af path, by omega⟩
            rw [u4 i (by rw [t2']; omega), t6' i (by rw [hss, ← b2]; omega)] at hq0
            rw [n3 i (by omega)]
            exact hq0
           ·rw [u5 j (by rw [t2']; omega)] at hq0
            exact hq0
          ·refine RV.int ?_
           rw [Au]
           have m1 : IntKind.i64.min = -9223372036854775808 := by decide
           have m2 : IntKind.i64.max = 9223372036854775807 := by decide
           unfold maxLen at p5
           omega
         ·simp [Pr.run] at g1
        ·simp [Pr.run] at g1
       ·simp [Pr.run] at g1
      ·simp [Pr.run] at g1
    ·cases g1
   ·simp [Pr.run] at g1
  ·simp [Pr.run] at hx
 ·simp [Pr.run] at hx
theorem NC (h : Ac C F ρ s a w) {c : Call} (ho : o.op = .call c) (hc : c.callee = .builtin .clear) (hsz : sizes c 1 = true) {v : PV} {ups : List (Nat × Option Row)} {ob : List Prop} {rd : List Nat}
  (hx : (NF C.P (c.argTypes.getD 0 0) (evO C.P C.G (c.argTypes.getD 0 0) s.fr (c.args.getD 0 (.func 0)))).run s.hp = some (v, ups, ob, rd)) (hob : All ob) : Goes C F ρ s a w o k v ups := by
 obtain ⟨callee, args, argTypes⟩ := c
 simp only at hc hx
 subst hc
 simp only [sizes, Bool.and_eq_true] at hsz
 have ha := Nat.eq_of_beq_eq_true hsz.1
 have ht := Nat.eq_of_beq_eq_true hsz.2
 obtain ⟨t1, rfl⟩ : ∃ t1, argTypes = #[t1] := by
  obtain ⟨l⟩ := argTypes
  match l, ht with
  | [t1], _ => exact ⟨t1, rfl⟩
 obtain ⟨x, rfl⟩ : ∃ x, args = #[x] := by
  obtain ⟨l⟩ := args
  match l, ha with
  | [x], _ => exact ⟨x, rfl⟩
 have e1 : (#[t1] : Array TypeId).getD 0 0 = t1 := rfl
 have e3 : (#[x] : Array Operand).getD 0 (.func 0) = x := rfl
 rw [e1, e3] at hx
 have hrun : ∀ u w', (Builtin.clear_ #[t1] o.type #[a.eval x]).run C.P w = .ok u w' → (execOp a.eval o).run C.P w = .ok (.value u) w' := by
  intro u w' hu
  simp only [execOp, ho, resolve, Sem.run_bind, Sem.run_pure, Result.andThen_ok, invoke, builtin, List.map_toArray, List.map_cons, List.map_nil, hu]
 unfold NF at hx
 split at hx
 ·rename_i e hu
  split at hx
  ·rename_i z hz
   split at hx
   ·rename_i hsz2
    simp only [Bool.and_eq_true] at hsz2
    have hne := A8 hsz2.1
    split at hx
    ·rename_i id path sz off n hA
     simp only [Pr.run] at hx
     split at hx
     ·rename_i row hr
      simp only [Option.map_eq_some_iff, Prod.mk.injEq] at hx
      obtain ⟨⟨v', u', o', r'⟩, g1, rfl, rfl, rfl, _⟩ := hx
      split at g1
      ·simp [Pr.run] at g1
      ·rename_i hfrz
       have hfrz : row.frz = false := by simpa using hfrz
       split at g1
       ·rename_i q hq
        split at g1
        ·rename_i hb
         simp only [Bool.and_eq_true] at hb
         obtain ⟨⟨b1, b2⟩, b3⟩ := hb
         have b2 := Nat.eq_of_beq_eq_true b2
         have b3 := Nat.eq_of_beq_eq_true b3
         split at g1
         ·rename_i q' hq'
          split at g1
          ·rename_i c' hc'
           simp only [Pr.run, Option.some.injEq, Prod.mk.injEq] at g1
           obtain ⟨rfl, rfl, rfl, _⟩ := g1
           have hle : off + n ≤ Aa q := hob.head
           have hpo : All (Ba row.c path) := hob.tail
           obtain ⟨pl, A, cc, p1, p2, p3, p5, p4⟩ := Cz h hA
           obtain ⟨pl', p1', hrel⟩ := h.heap.row id row hr
           rw [p1] at p1'
           cases p1'
           obtain ⟨cs, t, fz, r1, r2, r3, r4, r5, r6⟩ := hrel.cell (Dk hq (Bf b1))
           obtain ⟨n1, n2, n3, n4⟩ := Dg path r4 hq hpo
           obtain ⟨inf, zv, z1, z2, z3, z4, z5, z6⟩ := K6 (w := w) n hz hsz2.2 hne
           have hzl : Aa (FO C.P e n z) = n := by
            unfold FO
            split <;> rfl
           obtain ⟨t1', t2', t3', t4', t5', t6'⟩ := Iz n1 z4 hq' (by rw [hzl]; exact hle)
           have hc' : setNode q' row.c path = some c' := by
            cases path with
            | cons p l => exact hc'
            | nil =>
             simp only [node, Option.some.injEq] at hq
             subst hq
             simp only [setN] at hc'
             simp only [setNode]
             rw [if_pos (by rw [t2']; exact Nat.beq_refl _)]
             exact hc'
           obtain ⟨u1, u2, u3, u4, u5, _⟩ := CX q' t1' path r4 hc' hpo
           have hss : size (FO C.P e n z) = n * sz := by rw [z5, b3]
           have hsq : size q = Aa q * sz := by rw [Bq b1, b2]
           have hzc : zv.cells.size = sz := by
            obtain ⟨v0, y1, y2, y3, y4, _⟩ := Bz (w := w) hz
            have : v0 = zv := by
             have := y1 w
             simp [zeroValue, typeInfo, z1, z2] at this
             exact this.symm
            rw [← this, y2, y3, b3]
           have hvs : (Builtin.zeroCells zv.cells n).toList.length = n * sz := by rw [Array.length_toList, Dj, hzc]
           have hmc : Builtin.zeroCells zv.cells n = madeCells zv.cells (n * sz) := by rw [← hzc]; rfl
           have hin : off * sz + n * sz ≤ size q := by
            rw [hsq, ← Nat.add_mul]; exact Nat.mul_le_mul_right _ (by omega)
           intro K Q hK
           refine Cf (u := .tuple #[]) (w' := w.setCells pl.g (pl.off + (Af path + off * sz)) (Builtin.zeroCells zv.cells n).toList) (hrun _ _ ?_) (hK _ _ ρ (Ext.refl _) ((h.write hr hfrz p1 (Dk hq (Bf b1)) (c' := c') (o := Af path + off * sz) (Builtin.zeroCells zv.cells n).toList u1 (by rw [u2]; exact r3) (by rw [hvs]; omega) (fun j q0 u hq0 hu0 => ?_) (fun j q0 hj hq0 => ?_)).less fun _ hi => hi.1) fun _ => ?_)
           ·have hone : ∀ y ∈ (Builtin.zeroCells zv.cells n).toList, y.oneCell' = true := by
             intro y hy
             obtain ⟨j, hj⟩ := List.mem_iff_getElem?.1 hy
             have hjl : j < n * sz := by
              have := (List.getElem?_eq_some_iff.1 hj).1
              rwa [hvs] at this
             have hlt : j < (flat (FO C.P e n z)).length := by rw [Ae _ z4, hss]; exact hjl
             have hq0 : (flat (FO C.P e n z))[j]? = some (flat (FO C.P e n z))[j] := List.getElem?_eq_getElem hlt
             rw [hmc, Array.getElem?_toList] at hj
             exact (z6 (Tc C ρ s.hp) ρ _ j _ y hq0 hj).one
            rw [p2]
            by_cases hn0 : n = 0
            ·subst hn0
             have : (Builtin.zeroCells zv.cells 0).toList = [] := List.eq_nil_of_length_eq_zero (by rw [hvs, Nat.zero_mul])
             rw [this]
             cases A <;> simp [Builtin.clear_, run_underlying hu, World.setCells]
            ·have hc0 : 0 < cc := by omega
             obtain ⟨rfl, _⟩ := p4 hc0
             have hst := run_storeCells_cells (P := C.P) pl.g (pl.off + (Af path + off * sz)) (Builtin.zeroCells zv.cells n).toList 0 w (fun j hj => by
               rw [hvs] at hj
               rw [Nat.add_zero, AB r1, Array.getElem?_eq_getElem (by omega)]; rfl)
              (fun j hj => by
               rw [hvs] at hj
               have := r5 (Af path + off * sz + j) (by omega)
               simp only [World.frozen?, r1]
               rw [← Nat.add_assoc] at this
               simpa using this) hone
             obtain ⟨m, rfl⟩ : ∃ m, n = m + 1 := ⟨n - 1, by omega⟩
             rw [b3] at hst ⊢
             simp only [Builtin.clear_, List.getElem?_toArray, List.getElem?_cons_zero, Sem.run_bind, run_underlying hu, Result.andThen_ok]
             have hzv : (zeroValue e).run C.P w = .ok zv w := by simp [zeroValue, typeInfo, z1, z2]
             simp only [hzv, Result.andThen_ok]
             rw [hst]
             rfl
           ·have hj : j < n * sz := by
             have := (List.getElem?_eq_some_iff.1 hu0).1
             rwa [hvs] at this
            rw [Nat.add_assoc, u4 (off * sz + j) (by rw [t2']; omega)] at hq0
            rw [b2, t5' j (by rw [hss]; exact hj)] at hq0
            rw [hmc, Array.getElem?_toList] at hu0
            exact z6 _ _ _ j q0 u hq0 hu0
           ·rw [hvs] at hj
            by_cases hin1 : Af path ≤ j ∧ j < Af path + size q
            ·obtain ⟨i, rfl⟩ : ∃ i, j = Af path + i := ⟨j - Af path, by omega⟩
             rw [u4 i (by rw [t2']; omega), t6' i (by rw [hss, ← b2]; omega)] at hq0
             rw [n3 i (by omega)]
             exact hq0
            ·rw [u5 j (by rw [t2']; omega)] at hq0
             exact hq0
           ·exact ⟨trivial, #[], rfl, rfl, fun j q u hq => by simp at hq⟩
          ·simp [Pr.run] at g1
         ·simp [Pr.run] at g1
        ·simp [Pr.run] at g1
       ·simp [Pr.run] at g1
     ·cases hx
    ·simp [Pr.run] at hx
   ·simp [Pr.run] at hx
  ·simp [Pr.run] at hx
 ·simp [Pr.run] at hx
theorem Ld {P : Program} {T : T2} : ∀ (n : Nat) {ks kt : IntKind} {e : TypeId} {d : Nat} (l l' : List Int) (xs ys : Array Value) (x : Nat), P.underlying e = some (.int ks) → P.cellsOf e = 1 → l.length = n → l'.length = n →
  (∀ j y, l[j]? = some y → xs[x + j]? = some (.int kt y)) → (∀ j y, l'[j]? = some y → ys[x + j]? = some (.int kt y)) → (Op.eqItems (d + 1) e 1 xs ys (List.range' x n)).run P w = .ok (decide (l = l')) w
 | 0, ks, kt, e, d, l, l', xs, ys, x, hu, hs, h1, h2, _, _ => by
  rw [List.eq_nil_of_length_eq_zero h1, List.eq_nil_of_length_eq_zero h2]
  simp [Op.eqItems]
 | n + 1, ks, kt, e, d, l, l', xs, ys, x, hu, hs, h1, h2, g1, g2 => by
  match l, l', h1, h2 with
  | y :: l, z :: l', h1, h2 =>
   have i1 := g1 0 y rfl
   have i2 := g2 0 z rfl
   have ag : ∀ w', (Go.isAgg e).run P w' = .ok false w' := fun w' => by simp [Go.isAgg, run_underlying hu]
   have p1 : (part e xs (x * 1)).run P w = .ok (.int kt y) w := by
    unfold part
    rw [Sem.run_bind, ag, Result.andThen_ok, Nat.mul_one]
    simp only [Bool.false_eq_true, if_false]
    rw [show x = x + 0 by omega, i1]
    rfl
   have p2 : (part e ys (x * 1)).run P w = .ok (.int kt z) w := by
    unfold part
    rw [Sem.run_bind, ag, Result.andThen_ok, Nat.mul_one]
    simp only [Bool.false_eq_true, if_false]
    rw [show x = x + 0 by omega, i2]
    rfl
   have p3 := run_equalIn_int (P := P) w d e kt ks y z hu
   have ih := Ld (P := P) (T := T) n (d := d) (kt := kt) l l' xs ys (x + 1) hu hs (by simpa using h1) (by simpa using h2) (fun j v hv => by have := g1 (j + 1) v (by simpa using hv); rwa [show x + (j + 1) = x + 1 + j by omega] at this) (fun j v hv => by have := g2 (j + 1) v (by simpa using hv); rwa [show x + (j + 1) = x + 1 + j by omega] at this)
   simp only [List.range'_succ, Op.eqItems, Sem.run_bind, p1, p2, p3, Result.andThen_ok]
   by_cases he : y = z
   ·subst he
    simpa using ih
   ·simp [he]
theorem Ii {P : Program} {T : T2} {t : TypeId} {p : PV} {cs : Array Value} {off : Nat} (hok : Lg P t p = true) (hw : WF p) (hin : off + size p ≤ cs.size) (hc : ∀ (j : Nat) (x : PV) (u : Value), (flat p)[j]? = some x → cs[off + j]? = some u → RO w T ρ u x) :
  ∃ v, (part t cs off).run P w = .ok v w ∧ RV w T ρ v p := by
 simp only [Lg, Bool.and_eq_true, Bool.not_eq_true', beq_iff_eq] at hok
 obtain ⟨⟨⟨h1, h2⟩, h3⟩, h4⟩ := hok
 exact JN hw (Nat.eq_of_beq_eq_true h1) h2 h3 h4 hin hc
theorem JE {P : Program} {T : T2} : ∀ (d : Nat) (D : Nat) (t : TypeId) (p q : PV) (u v : Value) (b : Bool), d < D → eqT P d t p q = some b → RV w T ρ u p → RV w T ρ v q → (Op.equalIn D t u v).run P w = .ok b w
 | 0, _, _, _, _, _, _, _, _, h, _, _ => by simp [eqT] at h
 | d + 1, 0, _, _, _, _, _, _, hd, _, _, _ => by omega
 | d + 1, D + 1, t, p, q, u, v, b, hd, h, hp, hq => by
  unfold eqT at h
  split at h
  ·rename_i x y hu
   simp only [Option.some.injEq] at h
   subst h
   have h1 := hp.AJ rfl (fun _ e => by cases e)
   have h2 := hq.AJ rfl (fun _ e => by cases e)
   simp only [RO] at h1 h2
   cases h1; cases h2
   exact run_equalIn_bool' w D t x y hu
  ·rename_i kt k x k' y hu
   split at h
   ·rename_i hk
    have hk := IntKind.same_eq hk
    subst hk
    simp only [Option.some.injEq] at h
    subst h
    have h1 := hp.AJ rfl (fun _ e => by cases e)
    have h2 := hq.AJ rfl (fun _ e => by cases e)
    simp only [RO] at h1 h2
    cases h1; cases h2
    exact run_equalIn_int w D t k kt x y hu
   ·cases h
  ·rename_i x y hu
   simp only [Option.some.injEq] at h
   subst h
   have h1 := hp.AJ rfl (fun _ e => by cases e)
   have h2 := hq.AJ rfl (fun _ e => by cases e)
   simp only [RO] at h1 h2
   cases h1; cases h2
   exact run_equalIn_string w D t x y hu
  ·rename_i fs n ps m qs hu
   split at h
   ·cases h
   ·rename_i hst
    obtain ⟨xs, rfl, hx1, hx2⟩ := hp.DF rfl
    obtain ⟨ys, rfl, hy1, hy2⟩ := hq.DF rfl
    have hpw := hp.1
    have hqw := hq.1
    simp only [WF] at hpw hqw
    have hf : P.underlying t = some (.struct (P.fieldsOf t)) := by simp [Program.fieldsOf, hu]
    rw [run_equalIn_struct w D t xs ys hf (by simpa using hst)]
    have hff : P.fieldsOf t = fs := by simp [Program.fieldsOf, hu]
    rw [hff]
    have hx1 : xs.size = Ar ps := by rw [hx1]; exact hpw.1.symm
    have hy1 : ys.size = Ar qs := by rw [hy1]; exact hqw.1.symm
    have key : ∀ (fl : List Field) (o : Nat) (ps qs : List PV) (b : Bool), eqF P (eqT P d) o fl ps qs = some b → WFL ps → WFL qs → o + Ar ps ≤ xs.size → o + Ar qs ≤ ys.size →
      (∀ (j : Nat) (q : PV) (u : Value), (Ag ps)[j]? = some q → xs[o + j]? = some u → RO w T ρ u q) → (∀ (j : Nat) (q : PV) (u : Value), (Ag qs)[j]? = some q → ys[o + j]? = some u → RO w T ρ u q) → (Op.eqFields D xs ys fl).run P w = .ok b w := by
     intro fl
     induction fl with
     | nil =>
      intro o ps qs b h _ _ _ _ _ _
      cases ps <;> cases qs <;> simp only [eqF, Option.some.injEq, reduceCtorEq] at h
      subst h
      rfl
     | cons f fl ih =>
      intro o ps qs b h wp wq l1 l2 r1 r2
      cases ps with
      | nil => cases qs <;> simp [eqF] at h
      | cons p ps =>
       cases qs with
       | nil => simp [eqF] at h
       | cons q qs =>
        simp only [eqF] at h
        split at h
        ·rename_i hc
         simp only [Bool.and_eq_true, Bool.not_eq_true', beq_eq_false_iff_ne, ne_eq] at hc
         obtain ⟨⟨⟨⟨c1, c2⟩, c3⟩, c5⟩, c4⟩ := hc
         have c1 := Nat.eq_of_beq_eq_true c1
         have c5 := Nat.eq_of_beq_eq_true c5
         split at h
         ·rename_i x hx
          split at h
          ·rename_i y hy
           simp only [Option.some.injEq] at h
           subst h
           simp only [WFL] at wp wq
           simp only [Ar] at l1 l2
           have lp := Ae p wp.1
           have lq := Ae q wq.1
           simp only [Ag] at r1 r2
           obtain ⟨va, a1, a2⟩ := Ii (T := T) (ρ := ρ) (cs := xs) (off := o) c2 wp.1 (by omega) (fun j x u hx hu => r1 j x u (by rw [List.getElem?_append_left (List.getElem?_eq_some_iff.1 hx).1]; exact hx) hu)
           obtain ⟨vb, b1, b2⟩ := Ii (T := T) (ρ := ρ) (cs := ys) (off := o) c3 wq.1 (by omega) (fun j x u hx hu => r2 j x u (by rw [List.getElem?_append_left (List.getElem?_eq_some_iff.1 hx).1]; exact hx) hu)
           have e1 := JE d D f.type p q va vb x (by omega) hx a2 b2
           have ih' := ih (o + size p) ps qs y hy wp.2 wq.2 (by omega) (by omega) (fun j x u hx hu => r1 (size p + j) x u (by rw [List.getElem?_append_right (by omega), lp, Nat.add_sub_cancel_left]; exact hx) (by rw [← Nat.add_assoc]; exact hu)) (fun j x u hx hu => r2 (size p + j) x u (by rw [List.getElem?_append_right (by omega), lq, c5, Nat.add_sub_cancel_left]; exact hx) (by rw [← Nat.add_assoc]; exact hu))
           simp only [Op.eqFields, if_pos c4, c1, Sem.run_bind, a1, b1, e1, Result.andThen_ok]
           cases x
           ·simp
           ·simpa using ih'
          ·cases h
         ·cases h
        ·cases h
    exact key fs.toList 0 ps qs b h hpw.2 hqw.2 (by omega) (by omega) (fun j q u hq hu => hx2 j q u (by simpa only [flat] using hq) (by simpa using hu)) (fun j q u hq hu => hy2 j q u (by simpa only [flat] using hq) (by simpa using hu))
  ·rename_i n e k m l k' m' l' hu
   split at h
   ·rename_i ks he
    split at h
    ·rename_i hc
     simp only [Bool.and_eq_true] at hc
     obtain ⟨⟨⟨c1, c2⟩, c3⟩, c4⟩ := hc
     have c1 := IntKind.same_eq c1
     have c2 := Nat.eq_of_beq_eq_true c2
     have c3 := Nat.eq_of_beq_eq_true c3
     have c4 := Nat.eq_of_beq_eq_true c4
     subst c1; subst c2; subst c3
     simp only [Option.some.injEq] at h
     subst h
     obtain ⟨xs, rfl, hx1, hx2⟩ := hp.DF rfl
     obtain ⟨ys, rfl, hy1, hy2⟩ := hq.DF rfl
     have hpw := hp.1
     have hqw := hq.1
     simp only [WF] at hpw hqw
     simp only [size] at hx1 hy1
     obtain ⟨i, hi⟩ := Az (P := P) (t := e) (by omega)
     rw [run_equalIn_array w D xs ys hu hi, c4, List.range_eq_range']
     cases D with
     | zero => omega
     | succ D =>
      refine Ld (T := T) (kt := k) n l l' xs ys 0 he c4 hpw.1 hqw.1 (fun j y hy => ?_) (fun j y hy => ?_)
      ·have hj : j < l.length := (List.getElem?_eq_some_iff.1 hy).1
       have := hx2 j (.int k y) xs[j] (by simp [flat, hy]) (by simp)
       simp only [RO] at this
       generalize hg : xs[j] = g at this
       cases this
       rw [Nat.zero_add, Array.getElem?_eq_getElem (by omega), hg]
      ·have hj : j < l'.length := (List.getElem?_eq_some_iff.1 hy).1
       have := hy2 j (.int k y) ys[j] (by simp [flat, hy]) (by simp)
       simp only [RO] at this
       generalize hg : ys[j] = g at this
       cases this
       rw [Nat.zero_add, Array.getElem?_eq_getElem (by omega), hg]
    ·cases h
   ·cases h
  ·cases h
theorem Nq (h : Ac C F ρ s a w) {op : BinOp} {xT yT : TypeId} {x y : Operand} (ho : o.op = .binOp op xT x y yT) (hax : Pe.isAgg (evO C.P C.G xT s.fr x) = true) (hay : Pe.isAgg (evO C.P C.G yT s.fr y) = true) {v : PV} {ups : List (Nat × Option Row)} {ob : List Prop} {rd : List Nat}
  (hx : (eqAgg C.P xT op (evO C.P C.G xT s.fr x) (evO C.P C.G yT s.fr y)).run s.hp = some (v, ups, ob, rd)) : Goes C F ρ s a w o k v ups := by
 have hn : ∀ p : PV, Pe.isAgg p = true → p ≠ .undef := fun p hp e => by subst e; cases hp
 have rx := AA h xT x (hn _ hax)
 have ry := AA h yT y (hn _ hay)
 obtain ⟨xs, hxs, _⟩ := rx.DF hax
 obtain ⟨ys, hys, _⟩ := ry.DF hay
 unfold eqAgg at hx
 split at hx
 ·simp [Pr.run] at hx
 ·rename_i hg
  split at hx
  ·rename_i b hb
   have heq := JE (w := w) (T := Tc C ρ s.hp) (ρ := ρ) 16 10000 xT _ _ _ _ b (by omega) hb rx ry
   rw [hxs, hys] at heq
   have hrun : ∀ u, (binOp op xT (.agg xs) (.agg ys)).run C.P w = .ok u w → (execOp a.eval o).run C.P w = .ok (.value u) w := by
    intro u hu
    have hgd := run_eqGuard_agg (P := C.P) w op xT x y xs ys (by simpa using hg)
    simp only [execOp, ho, hxs, hys]
    rw [Sem.run_bind, Sem.run_bind, hgd, Result.andThen_ok, hu]
    rfl
   split at hx
   ·simp only [Pr.run, Option.some.injEq, Prod.mk.injEq] at hx
    obtain ⟨rfl, rfl, _, _⟩ := hx
    exact Goes.pure h (hrun _ (by rw [run_eql_struct, heq]; rfl)) fun _ => RV.bool _
   ·simp only [Pr.run, Option.some.injEq, Prod.mk.injEq] at hx
    obtain ⟨rfl, rfl, _, _⟩ := hx
    exact Goes.pure h (hrun _ (by rw [run_neq_struct, heq]; rfl)) fun _ => RV.bool _
   ·simp [Pr.run] at hx
  ·simp [Pr.run] at hx
end
end Go.Pe
namespace Go.Pe
def Ab {α : Type} (l : List (Nat × α)) (i : Nat) : Option α := match l with
 | [] => none
 | x :: r => if Nat.beq x.1 i then some x.2 else Ab r i
mutual
def ren (b : Nat → Option Nat) : PV → Option PV
 | .st n fs => (EJ b fs).map (.st n)
 | .tup fs => (EJ b fs).map .tup
 | .at id p => (b id).map fun i => .at i p
 | .ref id p s o n => (b id).map fun i => .ref i p s o n
 | .fn f id => (b id).map (.fn f)
 | .fn2 f i j => (b i).bind fun x => (b j).map fun y => .fn2 f x y
 | p => some p
termination_by structural p => p
def EJ (b : Nat → Option Nat) : List PV → Option (List PV)
 | [] => some []
 | p :: l => match ren b p, EJ b l with
  | some q, some m => some (q :: m)
  | _, _ => none
termination_by structural l => l
end

theorem FB {b : Nat → Option Nat} {p : PV} {l m : List PV} (h : EJ b (p :: l) = some m) : ∃ q r, ren b p = some q ∧ EJ b l = some r ∧ m = q :: r := by
 simp only [EJ] at h
 split at h
 ·rename_i q r h1 h2
  simp only [Option.some.injEq] at h
  exact ⟨q, r, h1, h2, h.symm⟩
 ·cases h
mutual
theorem GI (b : Nat → Option Nat) : ∀ (p q : PV), ren b p = some q → size q = size p ∧ isAgg q = isAgg p ∧ (WF p → WF q)
 | .st n fs, q, h => by
  simp only [ren, Option.map_eq_some_iff] at h
  obtain ⟨m, hm, rfl⟩ := h
  obtain ⟨h1, h2⟩ := Hy b fs m hm
  exact ⟨rfl, rfl, fun hw => by simp only [WF] at hw ⊢; exact ⟨by rw [h1]; exact hw.1, h2 hw.2⟩⟩
 | .tup fs, q, h => by
  simp only [ren, Option.map_eq_some_iff] at h
  obtain ⟨m, hm, rfl⟩ := h
  obtain ⟨h1, h2⟩ := Hy b fs m hm
  exact ⟨rfl, rfl, fun hw => by simp only [WF] at hw ⊢; exact h2 hw⟩
 | .at id p, q, h => by
  simp only [ren, Option.map_eq_some_iff] at h
  obtain ⟨i, _, rfl⟩ := h
  exact ⟨rfl, rfl, fun _ => trivial⟩
 | .ref id p s o n, q, h => by
  simp only [ren, Option.map_eq_some_iff] at h
  obtain ⟨i, _, rfl⟩ := h
  exact ⟨rfl, rfl, fun _ => trivial⟩
 | .fn f id, q, h => by
  simp only [ren, Option.map_eq_some_iff] at h
  obtain ⟨i, _, rfl⟩ := h
  exact ⟨rfl, rfl, fun _ => trivial⟩
 | .fn2 f i j, q, h => by
  simp only [ren, Option.bind_eq_some_iff, Option.map_eq_some_iff] at h
  obtain ⟨x, _, y, _, rfl⟩ := h
  exact ⟨rfl, rfl, fun _ => trivial⟩
 | .int .., q, h | .bool _, q, h | .str _, q, h | .iarr .., q, h | .parr .., q, h | .vec .., q, h | .cptr .., q, h | .nilp, q, h | .fv _, q, h | .fb .., q, h | .undef, q, h => by
  simp only [ren, Option.some.injEq] at h
  subst h
  exact ⟨rfl, rfl, id⟩
theorem Hy (b : Nat → Option Nat) : ∀ (l m : List PV), EJ b l = some m → Ar m = Ar l ∧ (WFL l → WFL m)
 | [], m, h => by simp only [EJ, Option.some.injEq] at h; subst h; exact ⟨rfl, id⟩
 | p :: l, m, h => by
  obtain ⟨q, r, h1, h2, rfl⟩ := FB h
  obtain ⟨a1, _, a3⟩ := GI b p q h1
  obtain ⟨b1, b2⟩ := Hy b l r h2
  refine ⟨by simp only [Ar]; omega, fun hw => ?_⟩
  simp only [WFL] at hw ⊢
  exact ⟨a3 hw.1, b2 hw.2⟩
end
theorem Iu (b : Nat → Option Nat) : ∀ {l m : List PV}, EJ b l = some m → m.length = l.length
 | [], m, h => by simp only [EJ, Option.some.injEq] at h; subst h; rfl
 | p :: l, m, h => by
  obtain ⟨q, r, h1, h2, rfl⟩ := FB h
  simp [Iu b h2]
theorem M6 (b : Nat → Option Nat) : ∀ {l m : List PV}, EJ b l = some m → ∀ (j : Nat) (q : PV), m[j]? = some q → ∃ p, l[j]? = some p ∧ ren b p = some q
 | [], m, h, j, q, hq => by simp only [EJ, Option.some.injEq] at h; subst h; simp at hq
 | p :: l, m, h, j, q, hq => by
  obtain ⟨q0, r, h1, h2, rfl⟩ := FB h
  cases j with
  | zero => simp at hq; subst hq; exact ⟨p, rfl, h1⟩
  | succ j => simp at hq; simpa using M6 b h2 j q hq
mutual
theorem G9 (b : Nat → Option Nat) : ∀ (p : PV), noref p = true → ren b p = some p
 | .st n fs, h => by simp only [noref] at h; simp only [ren, Gq b fs h, Option.map_some]
 | .tup fs, h => by simp only [noref] at h; simp only [ren, Gq b fs h, Option.map_some]
 | .at .., h | .ref .., h | .fn .., h | .fn2 .., h => by simp [noref] at h
 | .int .., _ | .bool _, _ | .str _, _ | .iarr .., _ | .parr .., _ | .vec .., _ | .cptr .., _ | .nilp, _ | .fv _, _ | .fb .., _ | .undef, _ => rfl
theorem Gq (b : Nat → Option Nat) : ∀ (l : List PV), BP l = true → EJ b l = some l
 | [], _ => rfl
 | p :: l, h => by
  simp only [BP, Bool.and_eq_true] at h
  simp only [EJ, G9 b p h.1, Gq b l h.2]
end

def A7 (b : Nat → Option Nat) (l m : List PV) : Prop := m.length = l.length ∧ ∀ (j : Nat) (x : PV), m[j]? = some x → ∃ y, l[j]? = some y ∧ ren b y = some x
theorem A7.single {b : Nat → Option Nat} {p q : PV} (h : ren b p = some q) : A7 b [p] [q] := ⟨rfl, fun j x hx => by
 cases j with
 | zero => simp at hx; subst hx; exact ⟨p, rfl, h⟩
 | succ j => simp at hx⟩
theorem A7.append {b : Nat → Option Nat} {l l' m m' : List PV} (h : A7 b l m) (h' : A7 b l' m') : A7 b (l ++ l') (m ++ m') := by
 refine ⟨by simp [h.1, h'.1], fun j x hx => ?_⟩
 by_cases hj : j < m.length
 ·rw [List.getElem?_append_left hj] at hx
  rw [List.getElem?_append_left (by rw [← h.1]; exact hj)]
  exact h.2 j x hx
 ·rw [List.getElem?_append_right (by omega)] at hx
  rw [List.getElem?_append_right (by rw [← h.1]; omega), ← h.1]
  exact h'.2 _ x hx
theorem A7.self {b : Nat → Option Nat} {l : List PV} (h : ∀ q ∈ l, noref q = true) : A7 b l l := ⟨rfl, fun _ x hx => ⟨x, hx, G9 b x (h x (List.mem_of_getElem? hx))⟩⟩
mutual
theorem Jt (b : Nat → Option Nat) : ∀ (p q : PV), WF p → ren b p = some q → A7 b (flat p) (flat q)
 | .st n fs, q, hw, h => by
  simp only [ren, Option.map_eq_some_iff] at h
  obtain ⟨m, hm, rfl⟩ := h
  simp only [WF] at hw
  exact KS b fs m hw.2 hm
 | .parr s n sh l, q, hw, h => by
  simp only [ren, Option.some.injEq] at h
  subst h
  exact A7.self (AZ _ hw rfl)
 | .iarr k n l, q, hw, h => by
  simp only [ren, Option.some.injEq] at h
  subst h
  exact A7.self (AZ _ hw rfl)
 | .at id p, q, _, h => by
  have hq := h
  simp only [ren, Option.map_eq_some_iff] at h
  obtain ⟨i, _, rfl⟩ := h
  exact A7.single hq
 | .ref id p s o n, q, _, h => by
  have hq := h
  simp only [ren, Option.map_eq_some_iff] at h
  obtain ⟨i, _, rfl⟩ := h
  exact A7.single hq
 | .fn f id, q, _, h => by
  have hq := h
  simp only [ren, Option.map_eq_some_iff] at h
  obtain ⟨i, _, rfl⟩ := h
  exact A7.single hq
 | .fn2 f i j, q, _, h => by
  have hq := h
  simp only [ren, Option.bind_eq_some_iff, Option.map_eq_some_iff] at h
  obtain ⟨x, _, y, _, rfl⟩ := h
  exact A7.single hq
 | .tup fs, q, _, h => by
  have hq := h
  simp only [ren, Option.map_eq_some_iff] at h
  obtain ⟨m, _, rfl⟩ := h
  exact A7.single hq
 | .int .., q, _, h | .bool _, q, _, h | .str _, q, _, h | .vec .., q, _, h | .cptr .., q, _, h | .nilp, q, _, h | .fv _, q, _, h | .fb .., q, _, h | .undef, q, _, h => by
  have hq := h
  simp only [ren, Option.some.injEq] at h
  subst h
  exact A7.single hq
theorem KS (b : Nat → Option Nat) : ∀ (l m : List PV), WFL l → EJ b l = some m → A7 b (Ag l) (Ag m)
 | [], m, _, h => by simp only [EJ, Option.some.injEq] at h; subst h; exact ⟨rfl, fun j x hx => by simp [Ag] at hx⟩
 | p :: l, m, hw, h => by
  obtain ⟨q, r, h1, h2, rfl⟩ := FB h
  simp only [WFL] at hw
  simp only [Ag]
  exact (Jt b p q hw.1 h1).append (KS b l r hw.2 h2)
end

section
variable {w : World} {T : T2} {ρ ρ' : Pls} {b : Nat → Option Nat}
def Fg (b : Nat → Option Nat) (ρ ρ' : Pls) : Prop := ∀ i j pl, b i = some j → ρ i = some pl → ρ' j = some pl
theorem RO.ren (hr : Fg b ρ ρ') {v : Value} {p q : PV} (h : RO w T ρ v p) (hq : Pe.ren b p = some q) : RO w T ρ' v q := by
 cases p <;> simp only [RO, Pe.ren, Option.map_eq_some_iff, Option.some.injEq] at h hq
 case «at» => obtain ⟨i, hi, rfl⟩ := hq; obtain ⟨pl, h1, h2⟩ := h; exact ⟨pl, hr _ _ _ hi h1, h2⟩
 case ref => obtain ⟨i, hi, rfl⟩ := hq; obtain ⟨pl, A, c, h1, h2⟩ := h; exact ⟨pl, A, c, hr _ _ _ hi h1, h2⟩
 case fn => obtain ⟨i, hi, rfl⟩ := hq; obtain ⟨pl, h1, h2⟩ := h; exact ⟨pl, hr _ _ _ hi h1, h2⟩
 case fn2 =>
  simp only [Option.bind_eq_some_iff, Option.map_eq_some_iff] at hq
  obtain ⟨x, hx, y, hy, rfl⟩ := hq
  obtain ⟨pl, pl', h1, h2, h3⟩ := h
  exact ⟨pl, pl', hr _ _ _ hx h1, hr _ _ _ hy h2, h3⟩
 case st => cases h
 case tup => cases h
 all_goals (subst hq; exact RO.Be h)
theorem RN.ren (hr : Fg b ρ ρ') {v : Value} {p q : PV} (hw : WF p) (h : RN w T ρ v p) (hq : Pe.ren b p = some q) : RN w T ρ' v q := by
 obtain ⟨h1, h2, h3⟩ := GI b p q hq
 unfold RN at h ⊢
 rw [h2]
 split at h
 ·rename_i ha
  rw [if_pos ha]
  obtain ⟨cs, e1, e2, e3⟩ := h
  refine ⟨cs, e1, by rw [e2, h1], fun j x u hx hu => ?_⟩
  obtain ⟨y, hy, hxy⟩ := (Jt b p q hw hq).2 j x hx
  exact (e3 j y u hy hu).ren hr hxy
 ·rename_i ha
  rw [if_neg ha]
  exact h.ren hr hq
theorem RV.ren (hr : Fg b ρ ρ') {v : Value} {p q : PV} (h : RV w T ρ v p) (hq : Pe.ren b p = some q) : RV w T ρ' v q := by
 obtain ⟨h1, h2, h3⟩ := GI b p q hq
 refine ⟨h3 h.1, ?_⟩
 have hh := h.2
 have hw := h.1
 cases p
 case tup ps =>
  simp only [Pe.ren, Option.map_eq_some_iff] at hq
  obtain ⟨m, hm, rfl⟩ := hq
  obtain ⟨vs, e1, e2, e3⟩ := hh
  simp only [WF] at hw
  refine ⟨vs, e1, by rw [e2, Iu b hm], fun j x u hx hu => ?_⟩
  obtain ⟨y, hy, hxy⟩ := M6 b hm j x hx
  exact (e3 j y u hy hu).ren hr (AC hw y (List.mem_of_getElem? hy)) hxy
 case st n fs =>
  simp only [Pe.ren, Option.map_eq_some_iff] at hq
  have hq' := hq
  obtain ⟨m, hm, rfl⟩ := hq
  exact RN.ren (p := .st n fs) hr hw hh (by simp only [Pe.ren, Option.map_eq_some_iff]; exact ⟨m, hm, rfl⟩)
 case «at» =>
  simp only [Pe.ren, Option.map_eq_some_iff] at hq
  obtain ⟨i, hi, rfl⟩ := hq
  exact RN.ren hr hw hh (by simp only [Pe.ren, hi, Option.map_some])
 case ref =>
  simp only [Pe.ren, Option.map_eq_some_iff] at hq
  obtain ⟨i, hi, rfl⟩ := hq
  exact RN.ren hr hw hh (by simp only [Pe.ren, hi, Option.map_some])
 case fn =>
  simp only [Pe.ren, Option.map_eq_some_iff] at hq
  obtain ⟨i, hi, rfl⟩ := hq
  exact RN.ren hr hw hh (by simp only [Pe.ren, hi, Option.map_some])
 case fn2 =>
  simp only [Pe.ren, Option.bind_eq_some_iff, Option.map_eq_some_iff] at hq
  obtain ⟨x, hx, y, hy, rfl⟩ := hq
  exact RN.ren hr hw hh (by simp only [Pe.ren, hx, hy, Option.map_some, Option.bind_some])
 all_goals
  have hq' := hq
  simp only [Pe.ren, Option.some.injEq] at hq
  subst hq
  exact RN.ren hr hw hh hq'
theorem Ao.ren (hr : Fg b ρ ρ') {pl : Pl} {c c' : PV} {f f' : Bool} (h : Ao w T ρ pl ⟨c, f⟩) (hq : Pe.ren b c = some c') : Ao w T ρ' pl ⟨c', f'⟩ := by
 rcases h with ⟨o1, o2, o3, o4, o5, o, o6, o7⟩ | ⟨cs, t, fz, g1, g2, g3, g4, g5, g6⟩
 ·have e : Pe.ren b c = some c := G9 b c o3
  rw [e] at hq
  cases hq
  exact .inl ⟨o1, o2, o3, o4, o5, o, o6, o7⟩
 obtain ⟨h1, h2, h3⟩ := GI b c c' hq
 refine .inr ⟨cs, t, fz, g1, g2, by simp only at g3 ⊢; omega, h3 g4, g5, fun j x u hx hu => ?_⟩
 obtain ⟨y, hy, hxy⟩ := (Jt b c c' g4 hq).2 j x hx
 exact (g6 j y u hy hu).ren hr hxy
end
def LD (P : Program) (f : FuncId) : Prop := ∃ fn, P.funcs[f]? = some fn ∧ fn.body.isSome = true ∧ (fn.name == "runtime.NumGoroutine") = false
def Enters (P : Program) (f : FuncId) (vs : Array Value) (w : World) (R : Ending → World → Prop) : Prop := (LD P f ∧ Calls P f vs w R) ∨ ∃ v w', (callFunc f vs).run P w = .ok (.value v) w' ∧ R (.returned v) w'
theorem Enters.mono {P : Program} {f : FuncId} {vs : Array Value} {w : World} {R R' : Ending → World → Prop} (h : Enters P f vs w R) (hr : ∀ e w', R e w' → R' e w') : Enters P f vs w R' := by
 rcases h with ⟨h1, h2⟩ | ⟨v, w', h1, h2⟩
 ·exact .inl ⟨h1, h2.mono hr⟩
 ·exact .inr ⟨v, w', h1, hr _ _ h2⟩
theorem Enters.calls {P : Program} {f : FuncId} {vs : Array Value} {w : World} {R : Ending → World → Prop} (hb : LD P f) (h : Enters P f vs w R) : Calls P f vs w R := by
 rcases h with ⟨_, h2⟩ | ⟨v, w', h1, h2⟩
 ·exact h2
 ·obtain ⟨fn, hfn, hbody, hname⟩ := hb
  have hb' : fn.body ≠ none := by intro hb; simp [hb] at hbody
  have hname' : fn.name ≠ "runtime.NumGoroutine" := by simpa using hname
  simp [callFunc, hfn, hname', hb'] at h1
def PC (P : Program) (G : Nat → Option PV) (f : FuncId) (hin : List (Nat × Row)) (args : List PV) (hout : List (Nat × Row)) (res : PV) : Prop :=
 ∀ (T0 : T2) (ρ : Pls) (w : World) (vs : Array Value), (∀ b o, T0 b o → ¬ Mut ρ (Ab hin) b o) → HR w T0 ρ (Ab hin) → (∀ i, Ab hin i = none → ρ i = none) →
  (∀ g c, G g = some c → WF c ∧ noref c = true ∧ RC w T0 (.pointer (some ⟨g, 0, none⟩)) (.cptr c [])) →
  vs.size = args.length → (∀ (j : Nat) (p : PV) (v : Value), args[j]? = some p → vs[j]? = some v → p ≠ .undef → RV w T0 ρ v p) →
  Enters P f vs w fun e w' => ∃ v ρ', e = .returned v ∧
   RV w' (fun b o => (T0 b o ∨ Mut ρ (Ab hin) b o ∨ w.heap.size ≤ b) ∧ ¬ Mut ρ' (Ab hout) b o) ρ' v res ∧
   HR w' (fun b o => (T0 b o ∨ Mut ρ (Ab hin) b o ∨ w.heap.size ≤ b) ∧ ¬ Mut ρ' (Ab hout) b o) ρ' (Ab hout) ∧
   (∀ i pl, Ab hin i ≠ none → ρ i = some pl → ρ' i = some pl) ∧ FR (Mut ρ (Ab hin)) w w' ∧
   (∀ i row pl, Ab hout i = some row → ρ' i = some pl → ∀ j, j < pl.ext → w.heap.size ≤ pl.g ∨ Mut ρ (Ab hin) pl.g (pl.off + j))
end Go.Pe
