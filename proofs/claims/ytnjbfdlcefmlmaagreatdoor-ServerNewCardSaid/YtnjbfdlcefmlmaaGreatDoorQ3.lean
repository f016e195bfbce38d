/- Merged texts: the pure machine and what the walks show. Conditions: as each statement says. -/
import Derived.KernelRfl
import Derived.Test.YtnjbfdlcefmlmaaGreatDoorChecked
import Derived.Laws.Externs
import Derived.Test.YtnjbfdlcefmlmaaGreatDoorQ2
set_option linter.unusedSimpArgs false
set_option linter.unusedVariables false
namespace Go.Pe
def FC (b : List (Nat × Nat)) (src : DS) : List (Nat × PV) → Option (List Prop × List PV)
 | [] => some ([], [])
 | x :: l => if BG x.2 then FC b src l else match Bp (Ab b) (Ab src.hp) (AP src.fr x.1), FC b src l with
  | some q, some m => if untup (AP src.fr x.1) && !BG (AP src.fr x.1) then some (q.2 ++ m.1, q.1 :: m.2) else none
  | _, _ => none
def EF : List (Nat × PV) → List PV
 | [] => []
 | x :: l => if BG x.2 then EF l else x.2 :: EF l
def IV (b : List (Nat × Nat)) (src : DS) : List (Nat × Row) → Option (List PV)
 | [] => some []
 | x :: l => match Ab (AQ b) x.1 with
  | some i => (match Ab src.hp i with
   | some r => (match ren (Ab b) r.c, IV b src l with
    | some c, some m => if Nat.blt x.1 64 && (x.2.frz || !r.frz) then some (c :: m) else none
    | _, _ => none)
   | none => none)
  | none => none
def CS : List (Nat × Row) → List PV
 | [] => []
 | x :: l => x.2.c :: CS l
def K9 (b : List (Nat × Nat)) (pins : List Nat) (src tgt : DS) : Option (List Prop × List PV × List PV) :=
 if nodupB (keys b) && nodupB (keys (AQ b)) && pins.all (fun i => match Ab b i with
   | some j => Nat.beq i j
   | none => false) && (keys (AQ b)).all (fun j => Nat.blt j 64) then (match FC b src tgt.fr, IV b src tgt.hp with
  | some m, some m' => some (m.1, m.2, m')
  | _, _ => none) else none
theorem Es {b : List (Nat × Nat)} {src : DS} : ∀ {l : List (Nat × PV)} {m : List Prop}, FC b src l = some (m, EF l) → ∃ m', Eh b src l = some m' ∧ (All m → All m')
 | [], m, _ => ⟨[], rfl, fun _ => All.nil⟩
 | x :: l, m, h => by
  unfold FC EF at h
  unfold Eh
  by_cases hu : BG x.2 = true
  ·rw [if_pos hu] at h ⊢
   rw [if_pos hu] at h
   exact Es h
  ·rw [if_neg hu] at h ⊢
   rw [if_neg hu] at h
   split at h
   ·rename_i q y hq hy
    rw [hq]
    split at h
    ·rename_i hc
     simp only [Option.some.injEq, Prod.mk.injEq, List.cons.injEq] at h
     obtain ⟨rfl, e1, e2⟩ := h
     obtain ⟨m', g1, g2⟩ := Es (m := y.1) (by rw [hy, ← e2])
     rw [g1]
     dsimp only
     rw [if_pos hc]
     exact ⟨_, rfl, fun ho => All.append ho.left (All.cons e1 (g2 ho.right))⟩
    ·cases h
   ·cases h
theorem GR {b : List (Nat × Nat)} {src : DS} : ∀ {l : List (Nat × Row)}, IV b src l = some (CS l) → ∃ m', EA b src l = some m' ∧ All m'
 | [], _ => ⟨[], rfl, All.nil⟩
 | x :: l, h => by
  unfold IV CS at h
  unfold EA
  split at h
  ·rename_i i hi
   try rw [hi]
   try dsimp only
   split at h
   ·rename_i r hr
    try rw [hr]
    try dsimp only
    split at h
    ·rename_i c m hc hm
     try rw [hc]
     split at h
     ·rename_i hk
      simp only [Option.some.injEq, List.cons.injEq] at h
      obtain ⟨e1, e2⟩ := h
      obtain ⟨m', g1, g2⟩ := GR (l := l) (by rw [hm, e2])
      rw [g1]
      try dsimp only
      rw [if_pos hk]
      exact ⟨_, rfl, All.cons e1 g2⟩
     ·cases h
    ·cases h
   ·cases h
  ·cases h
theorem QF {b : List (Nat × Nat)} {pins : List Nat} {src tgt : DS} {m m' : List Prop} (hc : (nodupB (keys b) && nodupB (keys (AQ b)) && pins.all (fun i => match Ab b i with
   | some j => Nat.beq i j
   | none => false) && (keys (AQ b)).all (fun j => Nat.blt j 64)) = true) (h1 : Eh b src tgt.fr = some m) (h2 : EA b src tgt.hp = some m') : Ic b pins src tgt = some (m ++ m') := by
 unfold Ic
 split
 ·rw [h1, h2]
 ·rename_i hn
  exact absurd hc hn
theorem JV {b : List (Nat × Nat)} {pins : List Nat} {src tgt : DS} {m : List Prop} (h : K9 b pins src tgt = some (m, EF tgt.fr, CS tgt.hp)) : ∃ m', Ic b pins src tgt = some m' ∧ (All m → All m') := by
 unfold K9 at h
 split at h
 ·rename_i hc
  split at h
  ·rename_i x y hx hy
   simp only [Option.some.injEq, Prod.mk.injEq] at h
   obtain ⟨rfl, e1, rfl⟩ := h
   obtain ⟨m1, g1, g2⟩ := Es (m := x.1) (by rw [hx, ← e1])
   obtain ⟨m2, k1, k2⟩ := GR hy
   exact ⟨_, QF hc g1 k1, fun ho => All.append (g2 ho) k2⟩
  ·cases h
 ·cases h
def Nh (P : Program) (G : Nat → Option PV) (nt : Nat) (pins : List Nat) (todo : List Item) (d : DS) (az : List (Nat × Ans)) (b : List (Nat × Nat)) (tgt : DS) : Option (List Item × List Prop × List PV × List PV) :=
 match E8 P G nt 4000 todo 0 d az with
 | some x => (match K9 b pins x.2.1 tgt with
  | some y => some (x.1, x.2.2 ++ y.1, y.2)
  | none => none)
 | none => none
theorem O3 {P : Program} {G : Nat → Option PV} {nt : Nat} {pins : List Nat} {todo : List Item} {d : DS} {az : List (Nat × Ans)} {b : List (Nat × Nat)} {tgt : DS} {todo' : List Item} {ob : List Prop}
  (h : Nh P G nt pins todo d az b tgt = some (todo', ob, EF tgt.fr, CS tgt.hp)) : ∃ ob', segB P G nt pins todo d az b tgt = some (todo', ob') ∧ (All ob → All ob') := by
 unfold Nh at h
 unfold segB
 split at h
 ·rename_i x hx
  split at h
  ·rename_i y hy
   simp only [Option.some.injEq, Prod.mk.injEq] at h
   obtain ⟨rfl, rfl, e⟩ := h
   obtain ⟨m', g1, g2⟩ := JV (m := y.1) (by rw [hy, ← e])
   try rw [hx]
   try dsimp only
   rw [g1]
   exact ⟨_, rfl, fun ho => All.append ho.left (g2 ho.right)⟩
  ·cases h
 ·cases h
def retS (P : Program) (G : Nat → Option PV) (fn : Func) (pins : List Nat) (todo : List Item) (d : DS) (az : List (Nat × Ans)) (b : List (Nat × Nat)) (hout : List (Nat × Row)) : Option (List Prop × List PV × PV) :=
 match E8 P G fn.ntmps 4000 todo 0 d az with
 | some x => if JK x.1 then (match Gf P x.2.1 fn.results.toList, K9 b pins x.2.1 ⟨[], hout⟩ with
   | some r, some y => (match Oi (Ab b) (Ab x.2.1.hp) (OA r.1) with
    | some q => some (x.2.2 ++ (r.2 ++ q.2), y.2.2, q.1)
    | none => none)
   | _, _ => none) else none
 | none => none
theorem Oe {b : List (Nat × Nat)} {pins : List Nat} {src : DS} {hout : List (Nat × Row)} {y : List Prop × List PV × List PV} (h : K9 b pins src ⟨[], hout⟩ = some y) : y.1 = [] ∧ y.2.1 = [] := by
 unfold K9 at h
 split at h
 ·split at h
  ·rename_i x z hx hz
   unfold FC at hx
   simp only [Option.some.injEq] at hx h
   subst hx; subst h
   exact ⟨rfl, rfl⟩
  ·cases h
 ·cases h
theorem KH {P : Program} {G : Nat → Option PV} {fn : Func} {pins : List Nat} {todo : List Item} {d : DS} {az : List (Nat × Ans)} {b : List (Nat × Nat)} {hout : List (Nat × Row)} {res : PV} {ob : List Prop}
  (h : retS P G fn pins todo d az b hout = some (ob, CS hout, res)) : ∃ ob', retB P G fn pins todo d az b hout res = some ob' ∧ (All ob → All ob') := by
 unfold retS at h
 unfold retB
 split at h
 ·rename_i x hx
  split at h
  ·rename_i hr
   try rw [hx]
   try dsimp only
   rw [if_pos hr]
   split at h
   ·rename_i r y hrr hy
    try rw [hrr]
    split at h
    ·rename_i q hq
     simp only [Option.some.injEq, Prod.mk.injEq] at h
     obtain ⟨rfl, e1, e2⟩ := h
     obtain ⟨k1, k2⟩ := Oe hy
     obtain ⟨m', g1, g2⟩ := JV (m := []) (tgt := ⟨[], hout⟩) (by rw [hy]; show some y = some ([], [], CS hout); rw [← e1, ← k1, ← k2])
     rw [g1]
     try dsimp only
     rw [hq]
     try dsimp only
     exact ⟨_, rfl, fun ho => All.append ho.left (All.append ho.right.left (All.append (g2 All.nil) (All.append ho.right.right (All.cons e2 All.nil))))⟩
    ·cases h
   ·cases h
  ·cases h
 ·cases h
section
variable {P : Program} {G : Nat → Option PV} {fn : Func} {pins : List Nat} {hout : List (Nat × Row)} {res : PV} {todo : List Item} {d : DS} {H : LJ}
theorem I7 : ∀ {l : List Prop}, All l → Cq l
 | [], _ => trivial
 | [_], h => h.head
 | _ :: _ :: _, h => ⟨h.head, I7 h.tail⟩
theorem WH.sg (az : List (Nat × Ans)) (b : List (Nat × Nat)) (tgt : DS) (todo' : List Item) (ob : List Prop) (h : Nh P G fn.ntmps pins todo d az b tgt = some (todo', ob, EF tgt.fr, CS tgt.hp)) (ho : Cq ob) (hw : WH P G fn pins H todo' tgt) : WH P G fn pins H todo d := by
 obtain ⟨ob', g1, g2⟩ := O3 h
 exact WH.seg az b tgt ob' g1 (I7 (g2 ho.all)) hw
theorem W.sg (n : Nat) (az : List (Nat × Ans)) (b : List (Nat × Nat)) (tgt : DS) (ob : List Prop) (h : Nh P G fn.ntmps pins todo d az b tgt = some (Ad fn n, ob, EF tgt.fr, CS tgt.hp)) (ho : Cq ob) (hw : W P G fn pins hout res (Ad fn n) tgt) : W P G fn pins hout res todo d :=
 WH.sg az b tgt _ ob h ho hw
theorem W.st (az : List (Nat × Ans)) (b : List (Nat × Nat)) (tgt : DS) (todo' : List Item) (ob : List Prop) (h : Nh P G fn.ntmps pins todo d az b tgt = some (todo', ob, EF tgt.fr, CS tgt.hp)) (ho : Cq ob) (hw : W P G fn pins hout res todo' tgt) : W P G fn pins hout res todo d :=
 WH.sg az b tgt todo' ob h ho hw
theorem WM.st (az : List (Nat × Ans)) (b : List (Nat × Nat)) (tgt : DS) (todo' : List Item) (ob : List Prop) (h : Nh P G fn.ntmps pins todo d az b tgt = some (todo', ob, EF tgt.fr, CS tgt.hp)) (ho : Cq ob) (hw : WM P G fn pins hout res todo' tgt) : WM P G fn pins hout res todo d :=
 WH.sg az b tgt todo' ob h ho hw
theorem W.rt (az : List (Nat × Ans)) (b : List (Nat × Nat)) (ob : List Prop) (h : retS P G fn pins todo d az b hout = some (ob, CS hout, res)) (ho : Cq ob) : W P G fn pins hout res todo d := by
 obtain ⟨ob', g1, g2⟩ := KH h
 exact W.ret az b ob' g1 (I7 (g2 ho.all))
theorem WM.rt (az : List (Nat × Ans)) (b : List (Nat × Nat)) (ob : List Prop) (h : retS P G fn pins todo d az b hout = some (ob, CS hout, res)) (ho : Cq ob) : WM P G fn pins hout res todo d := by
 obtain ⟨ob', g1, g2⟩ := KH h
 exact WM.ret az b ob' g1 (I7 (g2 ho.all))
end
def cC {P : Program} {G : Nat → Option PV} {f : FuncId} {hin : List (Nat × Row)} {args : List PV} {hout : List (Nat × Row)} {res : PV} (keep : Bool) (b : List (Nat × Nat)) (_ : PC P G f hin args hout res) : Ans := .call keep b hout res
def cL {P : Program} {G : Nat → Option PV} {f : FuncId} {hin : List (Nat × Row)} {args : List PV} {hout : List (Nat × Row)} {res : PV} (keep : Bool) (b : List (Nat × Nat)) (_ : PC P G f hin args hout res) : Ans := .calla keep b hin args hout res
def c0 {P : Program} {G : Nat → Option PV} {f : FuncId} {hin : List (Nat × Row)} {args : List PV} {hout : List (Nat × Row)} {res : PV} (_ : PC P G f hin args hout res) : Ans := .call false [] hout res
def c9 {P : Program} {G : Nat → Option PV} {f : FuncId} {hin : List (Nat × Row)} {args : List PV} {hout : List (Nat × Row)} {res : PV} (_ : PC P G f hin args hout res) : Ans := .call true [] hout res
def aE {p q : PV} (_ : p = q) : Ans := .val q
mutual
def shp : PV → Sh
 | .int k _ => .int k
 | .bool _ => .bool
 | .str _ => .str
 | .st n fs => .st n (shpL fs)
 | .iarr k n _ => .iarr k n
 | .parr s n e _ => .parr s n e
 | .vec _ (.iarr k _ _) => .vec 1 (.int k)
 | .vec _ (.parr s _ e _) => if e.isInt then .any else .vec s e
 | _ => .any
termination_by structural p => p
def shpL : List PV → List Sh
 | [] => []
 | p :: l => shp p :: shpL l
termination_by structural l => l
end
theorem IntKind.Ce (k : IntKind) : IntKind.same k k = true := by cases k <;> rfl
mutual
theorem Sh.beq_refl : ∀ (a : Sh), Sh.beq a a = true
 | .any | .bool | .str => rfl
 | .int k => by simp only [Sh.beq]; exact IntKind.Ce k
 | .st n fs => by simp only [Sh.beq, Nat.beq_refl, Bool.true_and]; exact Sh.KO fs
 | .iarr k n => by simp only [Sh.beq, Nat.beq_refl, Bool.and_true]; exact IntKind.Ce k
 | .parr s n e => by simp only [Sh.beq, Nat.beq_refl, Bool.true_and]; exact Sh.beq_refl e
 | .vec s e => by simp only [Sh.beq, Nat.beq_refl, Bool.true_and]; exact Sh.beq_refl e
theorem Sh.KO : ∀ (l : List Sh), Sh.LP l l = true
 | [] => rfl
 | a :: l => by simp only [Sh.LP, Bool.and_eq_true]; exact ⟨Sh.beq_refl a, Sh.KO l⟩
end
mutual
theorem JD : ∀ (p : PV), BS (shp p) p = p
 | .int k _ | .bool _ | .str _ => rfl
 | .iarr k n _ => rfl
 | .parr s n e _ => rfl
 | .st n fs => by simp only [shp, BS, PV.fs, Ih fs]
 | .vec nl c => by
  cases c with
  | iarr k n l => exact CF _ _ (by simp only [shp, conf]; exact IntKind.Ce k)
  | parr s n e l =>
   by_cases he : e.isInt = true
   ·simp only [shp, he, if_true]; rfl
   ·have he' : e.isInt = false := by simpa using he
    refine CF _ _ ?_
    simp only [shp, he', Bool.false_eq_true, if_false]
    cases e <;> first | (simp [Sh.isInt] at he'; done) | (simp only [conf, Sh.isInt, Nat.beq_refl, Sh.beq_refl]; rfl)
  | _ => rfl
 | .tup _ | .cptr .. | .at .. | .ref .. | .nilp | .fn .. | .fn2 .. | .fv _ | .fb .. | .undef => rfl
theorem Ih : ∀ (l : List PV), Ef (shpL l) l = l
 | [] => rfl
 | p :: l => by simp only [shpL, Ef, List.headD_cons, List.tail_cons, JD p, Ih l]
end
theorem ex {p q : PV} (h : p = q) : BS (shp q) p = q := by rw [h]; exact JD q
def rI : Nat → List (Nat × Nat)
 | 0 => []
 | n + 1 => rI n ++ [(n + 1, n + 1)]
theorem dT {p : Prop} [Decidable p] (h : p) : decide p = true := decide_eq_true h
theorem dF {p : Prop} [Decidable p] (h : ¬ p) : decide p = false := decide_eq_false h
theorem pO {P : Program} {G : Nat → Option PV} {f : FuncId} {fn : Func} {hin : List (Nat × Row)} {args : List PV} {hout : List (Nat × Row)} {res : PV} (hf : P.funcs[f]? = some fn) (h : (fn.body.isSome && !(fn.name == "runtime.NumGoroutine") && Nat.ble args.length fn.ntmps && hin.all (fun x => Nat.blt x.1 64 && !x.2.frz)) = true)
  (hw : W P G fn (keys hin) hout res [.code (ES fn)] ⟨GJ 0 args, hin⟩) : PC P G f hin args hout res := by
 simp only [Bool.and_eq_true, Bool.not_eq_true'] at h
 obtain ⟨⟨⟨h1, h2⟩, h3⟩, h4⟩ := h
 obtain ⟨c, hc⟩ := Option.isSome_iff_exists.1 h1
 have e : ES fn = c := by simp [ES, hc]
 rw [e] at hw
 exact PC.of hf hc h2 h3 (List.all_eq_true.2 fun x hx => by simpa using List.all_eq_true.1 h4 x hx) hw
theorem wj {x y : Int} (h : -9223372036854775808 ≤ y ∧ y ≤ 9223372036854775807) (e : x = y := by rfl) : PV.int .i64 (IntKind.i64.wrap x) = PV.int .i64 y := cg (Dw e h.1 h.2)
theorem ob2 {p q r : Prop} {l : List Prop} (h : p ∧ q) (h' : Cq (r :: l)) : Cq (p :: q :: r :: l) := ⟨h.1, h.2, h'⟩
theorem ob3 {p q s r : Prop} {l : List Prop} (h : p ∧ q ∧ s) (h' : Cq (r :: l)) : Cq (p :: q :: s :: r :: l) := ⟨h.1, h.2.1, h.2.2, h'⟩
theorem ob4 {p q s t r : Prop} {l : List Prop} (h : p ∧ q ∧ s ∧ t) (h' : Cq (r :: l)) : Cq (p :: q :: s :: t :: r :: l) := ⟨h.1, h.2.1, h.2.2.1, h.2.2.2, h'⟩
section
variable {P : Program} {G : Nat → Option PV} {fn : Func} {pins : List Nat} {hout : List (Nat × Row)} {res : PV} {todo : List Item} {d : DS} {H : LJ}
theorem WH.sgA (az : List (Nat × Ans)) (b : List (Nat × Nat)) (tgt : DS) (todo' : List Item) (ob : List Prop) (ho : Cq ob) (hw : WH P G fn pins H todo' tgt) (h : Nh P G fn.ntmps pins todo d az b tgt = some (todo', ob, EF tgt.fr, CS tgt.hp) := by kernel_rfl) : WH P G fn pins H todo d := WH.sg az b tgt todo' ob h ho hw
theorem W.sgA (n : Nat) (az : List (Nat × Ans)) (b : List (Nat × Nat)) (tgt : DS) (ob : List Prop) (ho : Cq ob) (hw : W P G fn pins hout res (Ad fn n) tgt) (h : Nh P G fn.ntmps pins todo d az b tgt = some (Ad fn n, ob, EF tgt.fr, CS tgt.hp) := by kernel_rfl) : W P G fn pins hout res todo d := W.sg n az b tgt ob h ho hw
theorem W.rtA (az : List (Nat × Ans)) (b : List (Nat × Nat)) (ob : List Prop) (ho : Cq ob) (h : retS P G fn pins todo d az b hout = some (ob, CS hout, res) := by kernel_rfl) : W P G fn pins hout res todo d := W.rt az b ob h ho
end
end Go.Pe
namespace Go.Pm
set_option maxRecDepth 100000
def rot (x k : Nat) : Nat := x / 2 ^ k ||| x * 2 ^ (32 - k) % 4294967296
theorem Cr {x k : Nat} (hx : x < 4294967296) : rot x k < 4294967296 := by
 unfold rot
 exact Nat.or_lt_two_pow (n := 32) (Nat.lt_of_le_of_lt (Nat.div_le_self _ _) hx) (Nat.mod_lt _ (by decide))
def at0 (l : List Int) (i : Nat) : Nat := (l.getD i 0).toNat
def be4 (a b c d : Nat) : Nat := a * 16777216 + b * 65536 + c * 256 + d
def word (b : List Int) (i : Nat) : Nat := be4 (at0 b (4 * i)) (at0 b (4 * i + 1)) (at0 b (4 * i + 2)) (at0 b (4 * i + 3))
def words (b : List Int) : Nat → List Int
 | 0 => []
 | n + 1 => words b n ++ [((word b n : Nat) : Int)]
def sg0 (x : Nat) : Nat := rot x 7 ^^^ rot x 18 ^^^ x / 8
def sg1 (x : Nat) : Nat := rot x 17 ^^^ rot x 19 ^^^ x / 1024
def Mh (w : List Int) (t : Nat) : Nat := (((at0 w (t - 16) + sg0 (at0 w (t - 15))) % 4294967296 + at0 w (t - 7)) % 4294967296 + sg1 (at0 w (t - 2))) % 4294967296
def sched (b : List Int) : Nat → List Int
 | 0 => words b 16
 | n + 1 => sched b n ++ [((Mh (sched b n) (16 + n) : Nat) : Int)]
theorem Ch (b : List Int) : ∀ n, (words b n).length = n
 | 0 => rfl
 | n + 1 => by simp [words, Ch b n]
theorem Cj (b : List Int) : ∀ n, (sched b n).length = 16 + n
 | 0 => Ch b 16
 | n + 1 => by simp [sched, Cj b n]; omega
def W32 (l : List Int) : Prop := ∀ x ∈ l, 0 ≤ x ∧ x < 4294967296
def Bytes (l : List Int) : Prop := ∀ x ∈ l, 0 ≤ x ∧ x ≤ 255
theorem W32.get {l : List Int} (h : W32 l) (i : Nat) : l.getD i 0 = ((at0 l i : Nat) : Int) ∧ at0 l i < 4294967296 := by
 unfold at0
 by_cases hi : i < l.length
 ·have := h _ (List.getElem_mem hi)
  rw [List.getD_eq_getElem?_getD, List.getElem?_eq_getElem hi]
  simp only [Option.getD_some]
  omega
 ·rw [List.getD_eq_getElem?_getD, List.getElem?_eq_none (by omega)]
  simp
theorem Bytes.get {l : List Int} (h : Bytes l) (i : Nat) : l.getD i 0 = ((at0 l i : Nat) : Int) ∧ at0 l i < 256 := by
 unfold at0
 by_cases hi : i < l.length
 ·have := h _ (List.getElem_mem hi)
  rw [List.getD_eq_getElem?_getD, List.getElem?_eq_getElem hi]
  simp only [Option.getD_some]
  omega
 ·rw [List.getD_eq_getElem?_getD, List.getElem?_eq_none (by omega)]
  simp
theorem word_lt {b : List Int} (hb : Bytes b) (i : Nat) : word b i < 4294967296 := by
 have h1 := (hb.get (4 * i)).2
 have h2 := (hb.get (4 * i + 1)).2
 have h3 := (hb.get (4 * i + 2)).2
 have h4 := (hb.get (4 * i + 3)).2
 unfold word be4
 omega
theorem W32.snoc {l : List Int} (h : W32 l) {x : Nat} (hx : x < 4294967296) : W32 (l ++ [(x : Int)]) := fun y hy => by
 rcases List.mem_append.1 hy with hy | hy
 ·exact h y hy
 ·simp at hy; subst hy; omega
theorem La {b : List Int} (hb : Bytes b) : ∀ n, W32 (words b n)
 | 0 => fun x hx => by cases hx
 | n + 1 => (La hb n).snoc (word_lt hb n)
theorem KP {b : List Int} (hb : Bytes b) : ∀ n, W32 (sched b n)
 | 0 => La hb 16
 | n + 1 => (KP hb n).snoc (Nat.mod_lt _ (by decide))
structure V8 where
 a : Nat
 b : Nat
 c : Nat
 d : Nat
 e : Nat
 f : Nat
 g : Nat
 h : Nat
def V8.l (v : V8) : List Int := [(v.a : Int), (v.b : Int), (v.c : Int), (v.d : Int), (v.e : Int), (v.f : Int), (v.g : Int), (v.h : Int)]
structure V8.Ok (v : V8) : Prop where
 a : v.a < 4294967296
 b : v.b < 4294967296
 c : v.c < 4294967296
 d : v.d < 4294967296
 e : v.e < 4294967296
 f : v.f < 4294967296
 g : v.g < 4294967296
 h : v.h < 4294967296
def bs1 (x : Nat) : Nat := rot x 6 ^^^ rot x 11 ^^^ rot x 25
def bs0 (x : Nat) : Nat := rot x 2 ^^^ rot x 13 ^^^ rot x 22
def chN (e f g : Nat) : Nat := (e &&& f) ^^^ ((4294967295 - e) &&& g)
def majN (a b c : Nat) : Nat := (a &&& b) ^^^ (a &&& c) ^^^ (b &&& c)
def rp (v : V8) (k w : Nat) : Nat := ((((v.h + bs1 v.e) % 4294967296 + chN v.e v.f v.g) % 4294967296 + k) % 4294967296 + w) % 4294967296
def rq (v : V8) : Nat := (bs0 v.a + majN v.a v.b v.c) % 4294967296
def rd (v : V8) (k w : Nat) : V8 := ⟨(rp v k w + rq v) % 4294967296, v.a, v.b, v.c, (v.d + rp v k w) % 4294967296, v.e, v.f, v.g⟩
theorem rd_ok {v : V8} (h : v.Ok) (k w : Nat) : (rd v k w).Ok := ⟨Nat.mod_lt _ (by decide), h.a, h.b, h.c, Nat.mod_lt _ (by decide), h.e, h.f, h.g⟩
def rounds (ks ws : List Int) : Nat → Nat → V8 → V8
 | 0, _, v => v
 | n + 1, t, v => rounds ks ws n (t + 1) (rd v (at0 ks t) (at0 ws t))
def Hf (v w : V8) : V8 := ⟨(v.a + w.a) % 4294967296, (v.b + w.b) % 4294967296, (v.c + w.c) % 4294967296, (v.d + w.d) % 4294967296, (v.e + w.e) % 4294967296, (v.f + w.f) % 4294967296, (v.g + w.g) % 4294967296, (v.h + w.h) % 4294967296⟩
theorem addV_ok (v w : V8) : (Hf v w).Ok := ⟨Nat.mod_lt _ (by decide), Nat.mod_lt _ (by decide), Nat.mod_lt _ (by decide), Nat.mod_lt _ (by decide), Nat.mod_lt _ (by decide), Nat.mod_lt _ (by decide), Nat.mod_lt _ (by decide), Nat.mod_lt _ (by decide)⟩
def kS : List Int := [1116352408, 1899447441, 3049323471, 3921009573, 961987163, 1508970993, 2453635748, 2870763221,
  3624381080, 310598401, 607225278, 1426881987, 1925078388, 2162078206, 2614888103, 3248222580,
  3835390401, 4022224774, 264347078, 604807628, 770255983, 1249150122, 1555081692, 1996064986,
  2554220882, 2821834349, 2952996808, 3210313671, 3336571891, 3584528711, 113926993, 338241895,
  666307205, 773529912, 1294757372, 1396182291, 1695183700, 1986661051, 2177026350, 2456956037,
  2730485921, 2820302411, 3259730800, 3345764771, 3516065817, 3600352804, 4094571909, 275423344,
  430227734, 506948616, 659060556, 883997877, 958139571, 1322822218, 1537002063, 1747873779,
  1955562222, 2024104815, 2227730452, 2361852424, 2428436474, 2756734187, 3204031479, 3329325298]
theorem kS_W32 : W32 kS := by unfold W32 kS; decide
def blk (v : V8) (b : List Int) : V8 := Hf v (rounds kS (sched b 48) 64 0 v)
theorem blk_ok (v : V8) (b : List Int) : (blk v b).Ok := addV_ok _ _
def iv : V8 := ⟨1779033703, 3144134277, 1013904242, 2773480762, 1359893119, 2600822924, 528734635, 1541459225⟩
theorem iv_ok : iv.Ok := ⟨by decide, by decide, by decide, by decide, by decide, by decide, by decide, by decide⟩
def BQ : Nat → V8 → List Int → V8
 | 0, v, _ => v
 | n + 1, v, m => BQ n (blk v (m.take 64)) (m.drop 64)
def D9 (v : V8) (m : List Int) : V8 := BQ (m.length / 64) v m
theorem H8 : ∀ (n : Nat) {v : V8} (m : List Int), v.Ok → (BQ n v m).Ok
 | 0, _, _, h => h
 | n + 1, _, m, _ => H8 n (m.drop 64) (blk_ok _ _)
theorem FQ : ∀ (n : Nat) (v : V8) (m l : List Int), 64 * n ≤ m.length → BQ n v (m ++ l) = BQ n v m
 | 0, _, _, _, _ => rfl
 | n + 1, v, m, l, h => by
  rw [BQ, BQ, List.take_append_of_le_length (by omega), List.drop_append_of_le_length (by omega)]
  exact FQ n _ _ _ (by rw [List.length_drop]; omega)
theorem Jb : ∀ (n k : Nat) (v : V8) (m : List Int), BQ (n + k) v m = BQ k (BQ n v m) (m.drop (64 * n))
 | 0, k, v, m => by simp [BQ]
 | n + 1, k, v, m => by
  rw [show n + 1 + k = (n + k) + 1 by omega, BQ, Jb n k, BQ, List.drop_drop]
  congr 2
  omega
theorem IA (v : V8) (m l : List Int) : D9 v (m ++ l) = D9 (D9 v m) (m.drop (64 * (m.length / 64)) ++ l) := by
 unfold D9
 have h : (m ++ l).length / 64 = m.length / 64 + (m.drop (64 * (m.length / 64)) ++ l).length / 64 := by
  simp only [List.length_append, List.length_drop]; omega
 rw [h, Jb, FQ _ _ _ _ (by omega), List.drop_append_of_le_length (by omega)]
def be (n width : Nat) : List Int := (List.range width).map fun i => ((n / 256 ^ (width - 1 - i) % 256 : Nat) : Int)
def Kj (x : Nat) : List Int := be x 4
def V8.bytes (v : V8) : List Int := Kj v.a ++ Kj v.b ++ Kj v.c ++ Kj v.d ++ Kj v.e ++ Kj v.f ++ Kj v.g ++ Kj v.h
def Om (n : Nat) : List Int := 128 :: List.replicate ((64 + 64 - 8 - 1 - n % 64) % 64) 0
def padded (m : List Int) : List Int := m ++ Om m.length ++ be (m.length * 8) 8
def sha (m : List Int) : List Int := (D9 iv (padded m)).bytes
def HV (m : List Int) : List Int := sha (sha m)
theorem FM (n w : Nat) : (be n w).length = w := by simp [be]
theorem Cm (n w : Nat) : Bytes (be n w) := fun x hx => by
 simp only [be, List.mem_map, List.mem_range] at hx
 obtain ⟨i, _, rfl⟩ := hx
 have : n / 256 ^ (w - 1 - i) % 256 < 256 := Nat.mod_lt _ (by omega)
 omega
theorem V8.C9 (v : V8) : v.bytes.length = 32 := by simp [V8.bytes, Kj, FM]
theorem Bytes.append {l m : List Int} (h : Bytes l) (h' : Bytes m) : Bytes (l ++ m) := fun x hx => (List.mem_append.1 hx).elim (h x) (h' x)
theorem V8.Nc (v : V8) : Bytes v.bytes := by
 unfold V8.bytes Kj
 exact ((((((((Cm _ _).append (Cm _ _)).append (Cm _ _)).append (Cm _ _)).append (Cm _ _)).append (Cm _ _)).append (Cm _ _)).append (Cm _ _))
theorem Dp (m : List Int) : (sha m).length = 32 := V8.C9 _
theorem HZ (m : List Int) : Bytes (sha m) := V8.Nc _
end Go.Pm
namespace Go.Proofs
open Go Go.Pe
def G0 : Nat → Option PV := fun g => if Nat.beq g 0 then some (.iarr .u32 64 Go.Pm.kS) else none
abbrev Pt := PC Tryz.prog G0
abbrev Wt := W Tryz.prog G0
abbrev Wh := WH Tryz.prog G0
abbrev Liz := List Int
abbrev Lpz := List PV
abbrev Lrz := List (Nat × Row)
end Go.Proofs
namespace Go.Proofs
open Go Go.Pe Go.Pm
set_option maxRecDepth 100000
set_option linter.unusedVariables false
theorem BU {x k : Nat} (hx : x < 4294967296) (hk0 : 0 < k) (hk : k < 32) : Pt 117 [] [.int .u32 x, .int .i64 k] [] (.int .u32 ((rot x k : Nat) : Int)) := by
 refine pO Tryz.func117 (by kernel_rfl) ?_
 have h1 : x / 2 ^ k < 4294967296 := Nat.lt_of_le_of_lt (Nat.div_le_self _ _) hx
 have h2 : x * 2 ^ (32 - k) % 4294967296 < 4294967296 := Nat.mod_lt _ (by decide)
 have h3 : ((k % 32 : Nat) : Int) = (k : Int) := by omega
 have h4 : (32 : Int) - k = ((32 - k : Nat) : Int) := by omega
 unfold rot
 generalize 32 - k = j at *
 refine W.ret [(2, aV (U6 k)), (3, aV (U6 k)), (7, aV (U3 ↑(x / 2 ^ k))), (10, aV (U6 j)), (11, aV (U3 ↑(x * 2 ^ j % 4294967296))), (12, aV (U3 ↑(x / 2 ^ k ||| x * 2 ^ j % 4294967296)))] [] [U6 (IntKind.wrap .u64 (k:Int)) = U6 k, U6 (Int.tmod (k:Int) (32 : Int)) = U6 k, (32 : Int) ≠ 0, U3 (Int.fdiv (x:Int) ((2 : Int) ^ min k 32)) = U3 ↑(x / 2 ^ k), 0 ≤ (k:Int), U6 (IntKind.wrap .u64 (32 - (k:Int))) = U6 j, U3 (IntKind.wrap .u32 ((x:Int) * (2 : Int) ^ min j 32)) = U3 ↑(x * 2 ^ j % 4294967296), 0 ≤ (j:Int), U3 (bits BinOp.or .u32 (↑(x / 2 ^ k) : Int) (↑(x * 2 ^ j % 4294967296) : Int)) = U3 ↑(x / 2 ^ k ||| x * 2 ^ j % 4294967296), rr (U3 ↑(x / 2 ^ k ||| x * 2 ^ j % 4294967296))] (by kernel_rfl) (ac (cg (BC rfl (by omega) (by omega))) (ac (cg (h3)) (ac (by omega) (ac (cg (shr_u32 rfl rfl (by omega))) (ac (by omega) (ac (cg (BC h4 (by omega) (by omega))) (ac (cg (shl_u32 (y := ((j : Nat) : Int)) rfl rfl)) (ac (by omega) (ac (cg (bor_u32 rfl rfl (by omega) (by omega))) (ao rfl))))))))))
theorem Kz {x a b c : Nat} (hx : x < 4294967296) (ha0 : 0 < a) (ha : a < 32) (hb0 : 0 < b) (hb : b < 32) (hc0 : 0 < c) (hc : c < 32) : Pt 96 [] [.int .u32 x, .int .i64 a, .int .i64 b, .int .i64 c] [] (.int .u32 ((rot x a ^^^ rot x b ^^^ rot x c : Nat) : Int)) := by
 refine pO Tryz.func96 (by kernel_rfl) ?_
 have c1 := BU hx ha0 ha
 have c2 := BU hx hb0 hb
 have c3 := BU hx hc0 hc
 have l1 := Cr (k := a) hx
 have l2 := Cr (k := b) hx
 have l3 := Cr (k := c) hx
 generalize rot x a = p at *
 generalize rot x b = q at *
 generalize rot x c = r at *
 have l4 : p ^^^ q < 4294967296 := Nat.xor_lt_two_pow (n := 32) l1 l2
 refine W.ret [(3, aK (U3 p)), (6, aK (U3 q)), (7, aV (U3 ↑(p ^^^ q))), (10, aK (U3 r)), (11, aV (U3 ↑(p ^^^ q ^^^ r)))] [] [Pt 117 [] [U3 x, I6 a] [] (U3 p), Pt 117 [] [U3 x, I6 b] [] (U3 q), U3 (bits BinOp.xor .u32 (p:Int) (q:Int)) = U3 ↑(p ^^^ q), Pt 117 [] [U3 x, I6 c] [] (U3 r), U3 (bits BinOp.xor .u32 (↑(p ^^^ q) : Int) (r:Int)) = U3 ↑(p ^^^ q ^^^ r), rr (U3 ↑(p ^^^ q ^^^ r))] (by kernel_rfl) (ac (c1) (ac (c2) (ac (cg (BK rfl rfl (by omega) (by omega))) (ac (c3) (ac (cg (BK rfl rfl (by omega) (by omega))) (ao rfl))))))
theorem IX {n b : Nat} (hn : n < 4294967296) (hb : b < 256) : bits .or .u64 ((n : Int) * 2 ^ 8) (b : Int) = ((256 * n + b : Nat) : Int) := by
 rw [Ow (a := 2 ^ 8 * n) (b := b) (by omega) rfl (by omega) (by omega), ← Nat.two_pow_add_eq_or_of_lt (i := 8) hb n]
def MH (l : List Int) (n i : Nat) : DS := ⟨[(0, .vec false (.iarr .u8 4 l)), (3, .int .u64 n), (7, .int .i64 4), (8, .int .i64 i)], []⟩
theorem pc_big4 {l : Liz} (hl : Bytes l) : Pt 116 [] [.vec false (.iarr .u8 4 l)] [] (.int .u64 ((word l 0 : Nat) : Int)) := by
 refine pO Tryz.func116 (by kernel_rfl) ?_
 obtain ⟨e0, h0⟩ := hl.get 0
 obtain ⟨e1, h1⟩ := hl.get 1
 obtain ⟨e2, h2⟩ := hl.get 2
 obtain ⟨e3, h3⟩ := hl.get 3
 unfold word be4
 simp only [Nat.mul_zero, Nat.zero_add]
 generalize at0 l 0 = a at *
 generalize at0 l 1 = b at *
 generalize at0 l 2 = c at *
 generalize at0 l 3 = d at *
 have o0 : bits .or .u64 0 (a : Int) = (a : Int) := by
  have := IX (n := 0) (b := a) (by omega) h0
  simpa using this
 have o1 := IX (n := a) (b := b) (by omega) h1
 have o2 := IX (n := 256 * a + b) (b := c) (by omega) h2
 have o3 := IX (n := 256 * (256 * a + b) + c) (b := d) (by omega) h3
 generalize hb : 256 * a + b = b' at *
 generalize hc : 256 * b' + c = c' at *
 generalize hd : 256 * c' + d = d' at *
 have hm : mn 4 8 = 4 := by decide
 have z : a * 16777216 + b * 65536 + c * 256 + d = d' := by omega
 rw [z]
 refine W.seg [(3, aV (I6 4)), (4, aV (I6 4))] [] (MH l 0 0) (todo' := Ad Tryz.f116 0) [I6 ↑(4 : Nat) = I6 4, I6 (mn (4 : Int) (8 : Int)) = I6 4, rr (PV.vec false (B8 4 l)), U6 0 = U6 ↑(0 : Nat), rr (I6 4), I6 0 = I6 ↑(0 : Nat)] (by kernel_rfl) (ac (cg (by omega)) (ac (cg (hm)) (ac rfl (ac (cg (by omega)) (ac rfl (ao (cg (by omega)))))))) ?_
 refine W.seg [(1, aV (I6 0)), (3, aV (U6 0)), (4, aV (U6 0)), (8, aV (U8 a)), (9, aV (U6 a)), (10, aV (U6 a)), (12, aV (I6 1))] [] (MH l a 1) (todo' := Ad Tryz.f116 0) [I6 ↑(0 : Nat) = I6 0, U6 ↑(0 : Nat) = U6 0, U6 (IntKind.wrap .u64 ((0 : Int) * (2 : Int) ^ 8)) = U6 0, (0 : Int) ≤ 8, (0 : Int) ≤ 0, 0 < (↑(4 : Nat) : Int), U8 (List.getD l 0 (0 : Int)) = U8 a, 0 < 4, U6 (IntKind.wrap .u64 (a:Int)) = U6 a, U6 (bits BinOp.or .u64 (0 : Int) (a:Int)) = U6 a, I6 (IntKind.wrap .i64 ((↑(0 : Nat) : Int) + 1)) = I6 1, rr (PV.vec false (B8 4 l)), rr (U6 a), rr (I6 4), I6 1 = I6 ↑(1 : Nat)] (by kernel_rfl) (ac (cg (by omega)) (ac (cg (by omega)) (ac (cg (BC rfl (by omega) (by omega))) (ob3 (by omega) (ac (cg (e0)) (ac (by omega) (ac (cg (BC rfl (by omega) (by omega))) (ac (cg (o0)) (ac (wj (by omega)) (ac rfl (ac rfl (ac rfl (ao (cg (by omega))))))))))))))) ?_
 refine W.seg [(1, aV (I6 1)), (4, aV (U6 ((a:Int) * (2 : Int) ^ 8))), (8, aV (U8 b)), (9, aV (U6 b)), (10, aV (U6 b')), (12, aV (I6 2))] [] (MH l b' 2) (todo' := Ad Tryz.f116 0) [I6 ↑(1 : Nat) = I6 1, U6 (IntKind.wrap .u64 ((a:Int) * (2 : Int) ^ 8)) = U6 ((a:Int) * (2 : Int) ^ 8), (0 : Int) ≤ 8, (0 : Int) ≤ 1, 1 < (↑(4 : Nat) : Int), U8 (List.getD l 1 (0 : Int)) = U8 b, 1 < 4, U6 (IntKind.wrap .u64 (b:Int)) = U6 b, U6 (bits BinOp.or .u64 ((a:Int) * (2 : Int) ^ 8) (b:Int)) = U6 b', I6 (IntKind.wrap .i64 ((↑(1 : Nat) : Int) + 1)) = I6 2, rr (PV.vec false (B8 4 l)), rr (U6 b'), rr (I6 4), I6 2 = I6 ↑(2 : Nat)] (by kernel_rfl) (ac (cg (by omega)) (ac (cg (BC rfl (by omega) (by omega))) (ob3 (by omega) (ac (cg (e1)) (ac (by omega) (ac (cg (BC rfl (by omega) (by omega))) (ac (cg (o1)) (ac (wj (by omega)) (ac rfl (ac rfl (ac rfl (ao (cg (by omega)))))))))))))) ?_
 refine W.seg [(1, aV (I6 2)), (4, aV (U6 ((b':Int) * (2 : Int) ^ 8))), (8, aV (U8 c)), (9, aV (U6 c)), (10, aV (U6 c')), (12, aV (I6 3))] [] (MH l c' 3) (todo' := Ad Tryz.f116 0) [I6 ↑(2 : Nat) = I6 2, U6 (IntKind.wrap .u64 ((b':Int) * (2 : Int) ^ 8)) = U6 ((b':Int) * (2 : Int) ^ 8), (0 : Int) ≤ 8, (0 : Int) ≤ 2, 2 < (↑(4 : Nat) : Int), U8 (List.getD l 2 (0 : Int)) = U8 c, 2 < 4, U6 (IntKind.wrap .u64 (c:Int)) = U6 c, U6 (bits BinOp.or .u64 ((b':Int) * (2 : Int) ^ 8) (c:Int)) = U6 c', I6 (IntKind.wrap .i64 ((↑(2 : Nat) : Int) + 1)) = I6 3, rr (PV.vec false (B8 4 l)), rr (U6 c'), rr (I6 4), I6 3 = I6 ↑(3 : Nat)] (by kernel_rfl) (ac (cg (by omega)) (ac (cg (BC rfl (by omega) (by omega))) (ob3 (by omega) (ac (cg (e2)) (ac (by omega) (ac (cg (BC rfl (by omega) (by omega))) (ac (cg (o2)) (ac (wj (by omega)) (ac rfl (ac rfl (ac rfl (ao (cg (by omega)))))))))))))) ?_
 refine W.seg [(1, aV (I6 3)), (4, aV (U6 ((c':Int) * (2 : Int) ^ 8))), (8, aV (U8 d)), (9, aV (U6 d)), (10, aV (U6 d')), (12, aV (I6 4))] [] (MH l d' 4) (todo' := Ad Tryz.f116 0) [I6 ↑(3 : Nat) = I6 3, U6 (IntKind.wrap .u64 ((c':Int) * (2 : Int) ^ 8)) = U6 ((c':Int) * (2 : Int) ^ 8), (0 : Int) ≤ 8, (0 : Int) ≤ 3, 3 < (↑(4 : Nat) : Int), U8 (List.getD l 3 (0 : Int)) = U8 d, 3 < 4, U6 (IntKind.wrap .u64 (d:Int)) = U6 d, U6 (bits BinOp.or .u64 ((c':Int) * (2 : Int) ^ 8) (d:Int)) = U6 d', I6 (IntKind.wrap .i64 ((↑(3 : Nat) : Int) + 1)) = I6 4, rr (PV.vec false (B8 4 l)), rr (U6 d'), rr (I6 4), I6 4 = I6 ↑(4 : Nat)] (by kernel_rfl) (ac (cg (by omega)) (ac (cg (BC rfl (by omega) (by omega))) (ob3 (by omega) (ac (cg (e3)) (ac (by omega) (ac (cg (BC rfl (by omega) (by omega))) (ac (cg (o3)) (ac (wj (by omega)) (ac rfl (ac rfl (ac rfl (ao (cg (by omega)))))))))))))) ?_
 refine W.ret [] [] [rr (U6 d')] (by kernel_rfl) (ao rfl)
end Go.Proofs
namespace Go.Pm
def mix (h s : List Int) (i : Nat) : List Int := s.take i ++ h.drop i
theorem Ez {h s : List Int} {i n : Nat} (hh : h.length = n) (hs : s.length = n) (hi : i ≤ n) : (mix h s i).length = n := by unfold mix; simp; omega
theorem Lv {h s : List Int} {n : Nat} (hh : h.length = n) (hs : s.length = n) : mix h s n = s := by
 unfold mix
 rw [List.take_of_length_le (by omega), List.drop_of_length_le (by omega), List.append_nil]
theorem mix_get {h s : List Int} {i n : Nat} (hs : s.length = n) (hi : i ≤ n) : (mix h s i).getD i 0 = h.getD i 0 := by
 unfold mix
 rw [List.getD_eq_getElem?_getD, List.getElem?_append_right (by simp; omega), List.length_take, Nat.min_eq_left (by omega), Nat.sub_self, List.getElem?_drop, Nat.add_zero, List.getD_eq_getElem?_getD]
theorem mix_got {h s : List Int} {i j n : Nat} (hs : s.length = n) (hi : i ≤ n) (hj : j < i) : (mix h s i).getD j 0 = s.getD j 0 := by
 unfold mix
 rw [List.getD_eq_getElem?_getD, List.getElem?_append_left (by simp; omega), List.getElem?_take_of_lt hj, List.getD_eq_getElem?_getD]
theorem Lp {h s : List Int} {i n : Nat} (hh : h.length = n) (hs : s.length = n) (hi : i < n) : (mix h s i).set i (s.getD i 0) = mix h s (i + 1) := by
 unfold mix
 have e : h.drop i = h.getD i 0 :: h.drop (i + 1) := by
  rw [List.drop_eq_getElem_cons (by omega), List.getD_eq_getElem?_getD, List.getElem?_eq_getElem (by omega)]; rfl
 rw [e, List.set_append_right _ _ (by simp; omega), List.length_take, Nat.min_eq_left (by omega), Nat.sub_self, List.set_cons_zero, List.take_add_one, List.getElem?_eq_getElem (by omega), List.append_assoc,
  List.getD_eq_getElem?_getD, List.getElem?_eq_getElem (by omega)]
 rfl
theorem KX {b : List Int} : ∀ {n i : Nat}, i < n → (words b n).getD i 0 = ((word b i : Nat) : Int)
 | n + 1, i, h => by
  rw [words, List.getD_eq_getElem?_getD]
  by_cases hi : i < n
  ·rw [List.getElem?_append_left (by rw [Ch]; exact hi), ← List.getD_eq_getElem?_getD]; exact KX hi
  ·have : i = n := by omega
   subst this
   rw [List.getElem?_append_right (by rw [Ch]; omega), Ch]; simp
theorem CW {b : List Int} : ∀ {n k i : Nat}, i < 16 + n → (sched b (n + k)).getD i 0 = (sched b n).getD i 0
 | n, 0, i, _ => rfl
 | n, k + 1, i, h => by
  rw [← Nat.add_assoc, sched, List.getD_eq_getElem?_getD, List.getElem?_append_left (by rw [Cj]; omega), ← List.getD_eq_getElem?_getD]
  exact CW h
theorem QV {b : List Int} {i : Nat} (hi : i < 16) : (sched b 48).getD i 0 = ((word b i : Nat) : Int) := by
 rw [show 48 = 0 + 48 by rfl, CW (by omega)]
 exact KX hi
theorem FN {b : List Int} {n i : Nat} (hi : i < 16 + n) (hn : n ≤ 48) : at0 (sched b 48) i = at0 (sched b n) i := by
 unfold at0
 obtain ⟨k, hk⟩ : ∃ k, 48 = n + k := ⟨48 - n, by omega⟩
 rw [hk, CW hi]
theorem QT {b : List Int} {i : Nat} (h1 : 16 ≤ i) (h2 : i < 64) : (sched b 48).getD i 0 = ((Mh (sched b 48) i : Nat) : Int) := by
 obtain ⟨n, rfl⟩ : ∃ n, i = 16 + n := ⟨i - 16, by omega⟩
 obtain ⟨k, hk⟩ : ∃ k, 48 = (n + 1) + k := ⟨47 - n, by omega⟩
 have e : (sched b 48).getD (16 + n) 0 = (sched b (n + 1)).getD (16 + n) 0 := by rw [hk, CW (by omega)]
 rw [e, sched, List.getD_eq_getElem?_getD, List.getElem?_append_right (by rw [Cj]; omega), Cj, Nat.sub_self]
 simp only [List.getElem?_cons_zero, Option.getD_some]
 unfold Mh
 rw [FN (n := n) (i := 16 + n - 16) (by omega) (by omega), FN (n := n) (i := 16 + n - 15) (by omega) (by omega), FN (n := n) (i := 16 + n - 7) (by omega) (by omega), FN (n := n) (i := 16 + n - 2) (by omega) (by omega)]
theorem Qu {b : List Int} {t : Nat} : word ((b.drop (4 * t)).take 4) 0 = word b t := by
 have h : ∀ j, j < 4 → at0 ((b.drop (4 * t)).take 4) j = at0 b (4 * t + j) := fun j hj => by
  unfold at0
  rw [List.getD_eq_getElem?_getD, List.getElem?_take_of_lt hj, List.getElem?_drop, List.getD_eq_getElem?_getD]
 unfold word
 rw [h 0 (by omega), Nat.mul_zero, Nat.zero_add, Nat.zero_add, Nat.zero_add, h 1 (by omega), h 2 (by omega), h 3 (by omega), Nat.add_zero]
theorem Bytes.drop {l : List Int} (h : Bytes l) (n : Nat) : Bytes (l.drop n) := fun x hx => h x (List.mem_of_mem_drop hx)
theorem Bytes.take {l : List Int} (h : Bytes l) (n : Nat) : Bytes (l.take n) := fun x hx => h x (List.mem_of_mem_take hx)
structure IW (b S : List Int) : Prop where
 len : S.length = 64
 w32 : W32 S
 lo : ∀ i, i < 16 → S.getD i 0 = ((word b i : Nat) : Int)
 hi : ∀ i, 16 ≤ i → i < 64 → S.getD i 0 = ((Mh S i : Nat) : Int)
theorem schedOf {b : List Int} (hb : Bytes b) : IW b (sched b 48) := ⟨Cj b 48, KP hb 48, fun _ h => QV h, fun _ h1 h2 => QT h1 h2⟩
def F4 (b : List Int) : List Int := sched b 48
theorem J2 {b : List Int} (hb : Bytes b) : IW b (F4 b) := schedOf hb
theorem blk_eq (v : V8) (b : List Int) : blk v b = Hf v (rounds kS (F4 b) 64 0 v) := rfl
end Go.Pm
namespace Go.Proofs
open Go Go.Pe Go.Pm
set_option maxRecDepth 100000
set_option linter.unusedVariables false
def z64 : List Int := List.replicate 64 0
def BV (n : Nat) (l : List Int) : Row := ⟨.iarr .u8 n l, false⟩
def Jk (n : Nat) (l : List Int) : Row := ⟨.iarr .u32 n l, false⟩
def dsSpA (b l : List Int) (t : Nat) : DS := ⟨[(0, .at 0 []), (2, .at 1 []), (3, .at 2 []), (10, .int .i64 t)], [(0, BV 64 b), (1, Jk 64 z64), (2, Jk 64 l)]⟩
def dsSpB (b l : List Int) (t : Nat) : DS := ⟨[(0, .at 0 []), (2, .at 1 []), (3, .at 2 []), (5, .int .i64 t)], [(0, BV 64 b), (1, Jk 64 z64), (2, Jk 64 l)]⟩
set_option maxHeartbeats 4000000 in
theorem W_spB {b S : Liz} (hS : IW b S) (hbl : b.length = 64) : ∀ (k t : Nat) (l : List Int), t + k = 64 → 16 ≤ t → l = mix z64 S t →
  Wt Tryz.f95 [0] [(0, BV 64 b)] (.iarr .u32 64 S) (Ad Tryz.f95 1) (dsSpB b l t)
 | 0, t, l, hk, h16, hl => by
  have e : l = S := by rw [hl, show t = 64 by omega]; exact Lv rfl hS.len
  rw [e]
  refine W.ret [(1, aF)] [(0, 0)] [decide ((t:Int) < 64) = false, rr (B8 64 b), rr (B3 64 S)] (by kernel_rfl) (ac (decide_eq_false (by omega)) (ac rfl (ao rfl)))
 | k + 1, t, l, hk, h16, hl => by
  have hsl := hS.len
  have hll : l.length = 64 := by rw [hl]; exact Ez rfl hsl (by omega)
  have hw := hS.w32
  have hx := hS.hi t h16 (by omega)
  obtain ⟨e16, h16'⟩ := hw.get (t - 16)
  obtain ⟨e15, h15⟩ := hw.get (t - 15)
  obtain ⟨e7, h7⟩ := hw.get (t - 7)
  obtain ⟨e2, h2⟩ := hw.get (t - 2)
  rw [← mix_got (h := z64) (i := t) hsl (by omega) (by omega), ← hl] at e16 e15 e7 e2
  have hset := Lp (h := z64) (s := S) (i := t) (n := 64) rfl hsl (by omega)
  rw [hx, ← hl] at hset
  unfold Mh at hset
  have i16 : (t : Int) - 16 = ((t - 16 : Nat) : Int) := by omega
  have i15 : (t : Int) - 15 = ((t - 15 : Nat) : Int) := by omega
  have i7 : (t : Int) - 7 = ((t - 7 : Nat) : Int) := by omega
  have i2 : (t : Int) - 2 = ((t - 2 : Nat) : Int) := by omega
  have k16 : t - 16 < 64 := by omega
  have k15 : t - 15 < 64 := by omega
  have k7 : t - 7 < 64 := by omega
  have k2 : t - 2 < 64 := by omega
  generalize t - 16 = j16 at *
  generalize t - 15 = j15 at *
  generalize t - 7 = j7 at *
  generalize t - 2 = j2 at *
  generalize at0 S j16 = a at *
  generalize at0 S j15 = x at *
  generalize at0 S j7 = c at *
  generalize at0 S j2 = y at *
  unfold sg0 sg1 at hset
  have c1 := BU (k := 7) h15 (by omega) (by omega)
  have c2 := BU (k := 18) h15 (by omega) (by omega)
  have c3 := BU (k := 17) h2 (by omega) (by omega)
  have c4 := BU (k := 19) h2 (by omega) (by omega)
  have l1 := Cr (k := 7) h15
  have l2 := Cr (k := 18) h15
  have l3 := Cr (k := 17) h2
  have l4 := Cr (k := 19) h2
  generalize rot x 7 = r7 at *
  generalize rot x 18 = r18 at *
  generalize rot y 17 = r17 at *
  generalize rot y 19 = r19 at *
  have m1 : r7 ^^^ r18 < 4294967296 := Nat.xor_lt_two_pow (n := 32) l1 l2
  have m2 : r17 ^^^ r19 < 4294967296 := Nat.xor_lt_two_pow (n := 32) l3 l4
  have m3 : r7 ^^^ r18 ^^^ x / 8 < 4294967296 := Nat.xor_lt_two_pow (n := 32) m1 (by omega)
  have m4 : r17 ^^^ r19 ^^^ y / 1024 < 4294967296 := Nat.xor_lt_two_pow (n := 32) m2 (by omega)
  refine W.seg [(1, aT), (3, aV (I6 j15)), (5, aV (U3 x)), (7, aV (I6 j2)), (9, aV (U3 y)), (13, aK (U3 r7)), (15, aK (U3 r18)), (16, aV (U3 ↑(r7 ^^^ r18))), (18, aV (U3 ↑(x / 8))), (19, aV (U3 ↑(r7 ^^^ r18 ^^^ x / 8))), (22, aK (U3 r17)), (24, aK (U3 r19)), (25, aV (U3 ↑(r17 ^^^ r19))), (27, aV (U3 ↑(y / 1024))), (28, aV (U3 ↑(r17 ^^^ r19 ^^^ y / 1024))), (32, aV (I6 j16)), (34, aV (U3 a)), (36, aV (U3 ↑((a + (r7 ^^^ r18 ^^^ x / 8)) % 4294967296))), (38, aV (I6 j7)), (40, aV (U3 c)), (41, aV (U3 ↑(((a + (r7 ^^^ r18 ^^^ x / 8)) % 4294967296 + c) % 4294967296))), (43, aV (U3 ↑((((a + (r7 ^^^ r18 ^^^ x / 8)) % 4294967296 + c) % 4294967296 + (r17 ^^^ r19 ^^^ y / 1024)) % 4294967296))), (47, aV (I6 ↑(t + 1)))] [(0, 0), (1, 1), (2, 2)] (dsSpB b (List.set l t (↑((((a + (r7 ^^^ r18 ^^^ x / 8)) % 4294967296 + c) % 4294967296 + (r17 ^^^ r19 ^^^ y / 1024)) % 4294967296) : Int)) (t + 1)) (todo' := Ad Tryz.f95 1) [decide ((t:Int) < 64) = true, I6 (IntKind.wrap .i64 ((t:Int) - 15)) = I6 j15, 0 ≤ (j15:Int), (j15:Int) < (↑(64 : Nat) : Int), U3 (List.getD l j15 (0 : Int)) = U3 x, j15 < 64, I6 (IntKind.wrap .i64 ((t:Int) - 2)) = I6 j2, 0 ≤ (j2:Int), (j2:Int) < (↑(64 : Nat) : Int), U3 (List.getD l j2 (0 : Int)) = U3 y, j2 < 64, Pt 117 [] [U3 x, I6 7] [] (U3 r7), Pt 117 [] [U3 x, I6 18] [] (U3 r18), U3 (bits BinOp.xor .u32 (r7:Int) (r18:Int)) = U3 ↑(r7 ^^^ r18), U3 (Int.fdiv (x:Int) ((2 : Int) ^ 3)) = U3 ↑(x / 8), (0 : Int) ≤ 3, U3 (bits BinOp.xor .u32 (↑(r7 ^^^ r18) : Int) (↑(x / 8) : Int)) = U3 ↑(r7 ^^^ r18 ^^^ x / 8), Pt 117 [] [U3 y, I6 17] [] (U3 r17), Pt 117 [] [U3 y, I6 19] [] (U3 r19), U3 (bits BinOp.xor .u32 (r17:Int) (r19:Int)) = U3 ↑(r17 ^^^ r19), U3 (Int.fdiv (y:Int) ((2 : Int) ^ 10)) = U3 ↑(y / 1024), (0 : Int) ≤ 10, U3 (bits BinOp.xor .u32 (↑(r17 ^^^ r19) : Int) (↑(y / 1024) : Int)) = U3 ↑(r17 ^^^ r19 ^^^ y / 1024), I6 (IntKind.wrap .i64 ((t:Int) - 16)) = I6 j16, 0 ≤ (j16:Int), (j16:Int) < (↑(64 : Nat) : Int), U3 (List.getD l j16 (0 : Int)) = U3 a, j16 < 64, U3 (IntKind.wrap .u32 ((a:Int) + (↑(r7 ^^^ r18 ^^^ x / 8) : Int))) = U3 ↑((a + (r7 ^^^ r18 ^^^ x / 8)) % 4294967296), I6 (IntKind.wrap .i64 ((t:Int) - 7)) = I6 j7, 0 ≤ (j7:Int), (j7:Int) < (↑(64 : Nat) : Int), U3 (List.getD l j7 (0 : Int)) = U3 c, j7 < 64, U3 (IntKind.wrap .u32 ((↑((a + (r7 ^^^ r18 ^^^ x / 8)) % 4294967296) : Int) + (c:Int))) = U3 ↑(((a + (r7 ^^^ r18 ^^^ x / 8)) % 4294967296 + c) % 4294967296), U3 (IntKind.wrap .u32 ((↑(((a + (r7 ^^^ r18 ^^^ x / 8)) % 4294967296 + c) % 4294967296) : Int) + (↑(r17 ^^^ r19 ^^^ y / 1024) : Int))) = U3 ↑((((a + (r7 ^^^ r18 ^^^ x / 8)) % 4294967296 + c) % 4294967296 + (r17 ^^^ r19 ^^^ y / 1024)) % 4294967296), 0 ≤ (t:Int), (t:Int) < (↑(64 : Nat) : Int), t < 64, I6 (IntKind.wrap .i64 ((t:Int) + 1)) = I6 ↑(t + 1), rr (PV.at 0 []), rr (PV.at 1 []), rr (PV.at 2 []), rr (I6 ↑(t + 1)), rr (B8 64 b), rr (B3 64 (List.replicate 64 0)), rr (B3 64 (List.set l t (↑((((a + (r7 ^^^ r18 ^^^ x / 8)) % 4294967296 + c) % 4294967296 + (r17 ^^^ r19 ^^^ y / 1024)) % 4294967296) : Int)))] (by kernel_rfl) (ac (decide_eq_true (by omega)) (ac (cg (Dw i15 (by omega) (by omega))) (ob2 (by omega) (ac (cg (e15)) (ac (by omega) (ac (cg (Dw i2 (by omega) (by omega))) (ob2 (by omega) (ac (cg (e2)) (ac (by omega) (ac (c1) (ac (c2) (ac (cg (BK rfl rfl (by omega) (by omega))) (ac (cg (M3 (y := 3) (s := 3) rfl rfl (by decide) (by omega))) (ac (by omega) (ac (cg (BK rfl rfl (by omega) (by omega))) (ac (c3) (ac (c4) (ac (cg (BK rfl rfl (by omega) (by omega))) (ac (cg (M3 (y := 10) (s := 10) rfl rfl (by decide) (by omega))) (ac (by omega) (ac (cg (BK rfl rfl (by omega) (by omega))) (ac (cg (Dw i16 (by omega) (by omega))) (ob2 (by omega) (ac (cg (e16)) (ac (by omega) (ac (cg (CO rfl)) (ac (cg (Dw i7 (by omega) (by omega))) (ob2 (by omega) (ac (cg (e7)) (ac (by omega) (ac (cg (CO rfl)) (ac (cg (CO rfl)) (ob3 (by omega) (ac (wj (by omega)) (ac rfl (ac rfl (ac rfl (ac rfl (ac rfl (ac rfl (ao rfl))))))))))))))))))))))))))))))))))))))))) ?_
  exact W_spB hS hbl k (t + 1) _ (by omega) (by omega) hset
set_option maxHeartbeats 4000000 in
theorem W_spA {b S : Liz} (hS : IW b S) (hb : Bytes b) (hbl : b.length = 64) : ∀ (k t : Nat) (l : List Int), t + k = 16 → l = mix z64 S t →
  Wt Tryz.f95 [0] [(0, BV 64 b)] (.iarr .u32 64 S) (Ad Tryz.f95 0) (dsSpA b l t)
 | 0, t, l, hk, hl => by
  have ht : t = 16 := by omega
  subst ht
  refine W.seg [] [(0, 0), (1, 1), (2, 2)] (dsSpB b l 16) (todo' := Ad Tryz.f95 1) [rr (PV.at 0 []), rr (PV.at 1 []), rr (PV.at 2 []), I6 16 = I6 ↑(16 : Nat), rr (B8 64 b), rr (B3 64 (List.replicate 64 0)), rr (B3 64 l)] (by kernel_rfl) (ac rfl (ac rfl (ac rfl (ac (cg (by omega)) (ac rfl (ac rfl (ao rfl))))))) ?_
  exact W_spB hS hbl 48 16 l rfl (by omega) hl
 | k + 1, t, l, hk, hl => by
  have hsl := hS.len
  have hll : l.length = 64 := by rw [hl]; exact Ez rfl hsl (by omega)
  have hset := Lp (h := z64) (s := S) (i := t) (n := 64) rfl hsl (by omega)
  rw [hS.lo t (by omega), ← hl] at hset
  have hwl := word_lt hb t
  have c1 := pc_big4 (l := (BZ b (4 * t)).take 4) (by rw [Dh]; exact (hb.drop _).take _)
  rw [Dh, Qu, ← Dh] at c1
  generalize word b t = w at *
  have hv : ((4 * t + 4 : Nat) : Int) - ((4 * t : Nat) : Int) = 4 := by omega
  refine W.seg [(0, aT), (7, aV (I6 ↑(4 * t))), (9, aV (I6 ↑(4 * t))), (10, aV (I6 ↑(4 * t + 4))), (11, aV (PV.ref 0 [] 1 (4 * t) 4)), (12, aK (U6 w)), (13, aV (U3 w)), (16, aV (I6 ↑(t + 1)))] [(0, 0), (1, 1), (2, 2)] (dsSpA b (List.set l t (w:Int)) (t + 1)) (todo' := Ad Tryz.f95 0) [decide ((t:Int) < 16) = true, I6 (IntKind.wrap .i64 (4 * (t:Int))) = I6 ↑(4 * t), I6 (IntKind.wrap .i64 (4 * (t:Int))) = I6 ↑(4 * t), I6 (IntKind.wrap .i64 ((↑(4 * t) : Int) + 4)) = I6 ↑(4 * t + 4), PV.ref 0 [] 1 (Int.toNat (↑(4 * t) : Int)) (Int.toNat ((↑(4 * t + 4) : Int) - (↑(4 * t) : Int))) = PV.ref 0 [] 1 (4 * t) 4, 0 ≤ (↑(4 * t) : Int), (↑(4 * t) : Int) ≤ (↑(4 * t + 4) : Int), (↑(4 * t + 4) : Int) ≤ (↑(64 : Nat) : Int), 4 * t + 4 ≤ 64, Pt 116 [] [PV.vec false (B8 4 (List.take 4 (BZ b (4 * t))))] [] (U6 w), U3 (IntKind.wrap .u32 (w:Int)) = U3 w, 0 ≤ (t:Int), (t:Int) < (↑(64 : Nat) : Int), t < 64, I6 (IntKind.wrap .i64 ((t:Int) + 1)) = I6 ↑(t + 1), rr (PV.at 0 []), rr (PV.at 1 []), rr (PV.at 2 []), rr (I6 ↑(t + 1)), rr (B8 64 b), rr (B3 64 (List.replicate 64 0)), rr (B3 64 (List.set l t (w:Int)))] (by kernel_rfl) (ac (decide_eq_true (by omega)) (ac (wj (by omega)) (ac (wj (by omega)) (ac (wj (by omega)) (ac (by rw [show Int.toNat (↑(4 * t) : Int) = 4 * t by omega, show Int.toNat ((↑(4 * t + 4) : Int) - (↑(4 * t) : Int)) = 4 by omega]) (ob4 (by omega) (ac (c1) (ac (cg (w_u32 rfl (by omega) (by omega))) (ob3 (by omega) (ac (wj (by omega)) (ac rfl (ac rfl (ac rfl (ac rfl (ac rfl (ac rfl (ao rfl))))))))))))))))) ?_
  exact W_spA hS hb hbl k (t + 1) _ (by omega) hset
set_option maxHeartbeats 4000000 in
theorem Pq {b : Liz} (hb : Bytes b) (hbl : b.length = 64) : Pt 95 [(0, BV 64 b)] [.at 0 []] [(0, BV 64 b)] (.iarr .u32 64 (F4 b)) := by
 refine pO Tryz.func95 (by kernel_rfl) ?_
 refine W.seg [] [(0, 0), (64, 1), (80, 2)] (dsSpA b z64 0) (todo' := Ad Tryz.f95 0) [rr (PV.at 0 []), rr (PV.at 1 []), rr (PV.at 2 []), I6 0 = I6 ↑(0 : Nat), rr (B8 64 b), rr (B3 64 (List.replicate 64 0)), rr (B3 64 (List.replicate 64 0))] (by kernel_rfl) (ac rfl (ac rfl (ac rfl (ac (cg (by omega)) (ac rfl (ac rfl (ao rfl))))))) ?_
 exact W_spA (J2 hb) hb hbl 16 0 _ rfl rfl
end Go.Proofs
namespace Go.Proofs
open Go Go.Pe Go.Pm
set_option maxRecDepth 100000
set_option linter.unusedVariables false
theorem not32 {e : Nat} (h : e < 4294967296) : 4294967295 ^^^ e = 4294967295 - e := by
 have h1 := BitVec.toNat_not (x := BitVec.ofNat 32 e)
 rw [← BitVec.allOnes_xor, BitVec.toNat_xor, BitVec.toNat_allOnes, BitVec.toNat_ofNat, Nat.mod_eq_of_lt (by simpa using h)] at h1
 simpa using h1
theorem compl32 {e : Nat} (h : e < 4294967296) : bits .xor .u32 (Int.ofNat (2 ^ IntKind.u32.bits - Nat.succ 0)) (e : Int) = ((4294967295 - e : Nat) : Int) := by
 show bits .xor .u32 (Int.ofNat 4294967295) (e : Int) = ((4294967295 - e : Nat) : Int)
 have := BK (x := Int.ofNat 4294967295) (y := (e : Int)) (a := 4294967295) (b := e) rfl rfl (by omega) h
 rw [this, not32 h]
def z8 : List Int := [0, 0, 0, 0, 0, 0, 0, 0]
def dsBk (v0 S : List Int) (a b c d e f g h t : Nat) : DS := ⟨[(2, .at 1 []), (4, .at 2 []), (5, .at 3 []), (6, .at 4 []), (13, .int .i64 t)],
 [(1, Jk 8 v0), (2, Jk 8 z8), (3, Jk 64 S), (4, Jk 8 [(a : Int), (b : Int), (c : Int), (d : Int), (e : Int), (f : Int), (g : Int), (h : Int)])]⟩
def dsAd (l v : List Int) (i : Nat) : DS := ⟨[(2, .at 1 []), (4, .at 2 []), (6, .at 4 []), (85, .int .i64 i)], [(1, Jk 8 l), (2, Jk 8 z8), (4, Jk 8 v)]⟩
theorem V8.W32 {v : V8} (h : v.Ok) : W32 v.l := fun x hx => by
 have := h.a; have := h.b; have := h.c; have := h.d; have := h.e; have := h.f; have := h.g; have := h.h
 simp only [V8.l, List.mem_cons, List.not_mem_nil, or_false] at hx
 rcases hx with rfl | rfl | rfl | rfl | rfl | rfl | rfl | rfl <;> omega
theorem QC (v w : V8) {i : Nat} (hi : i < 8) : (Hf v w).l.getD i 0 = (((at0 v.l i + at0 w.l i) % 4294967296 : Nat) : Int) := by
 unfold at0
 obtain rfl | rfl | rfl | rfl | rfl | rfl | rfl | rfl : i = 0 ∨ i = 1 ∨ i = 2 ∨ i = 3 ∨ i = 4 ∨ i = 5 ∨ i = 6 ∨ i = 7 := by omega
 all_goals rfl
set_option maxHeartbeats 4000000 in
theorem W_ad {v w : V8} (hv : v.Ok) (hw : w.Ok) : ∀ (k i : Nat) (l : List Int), i + k = 8 → l = mix v.l (Hf v w).l i →
  Wt Tryz.f79 [] [] (.iarr .u32 8 (Hf v w).l) (Ad Tryz.f79 1) (dsAd l w.l i)
 | 0, i, l, hk, hl => by
  have e : l = (Hf v w).l := by rw [hl, show i = 8 by omega]; exact Lv rfl rfl
  rw [← e]
  refine W.ret [(0, aF)] [] [decide ((i:Int) < 8) = false, rr (B3 8 l)] (by kernel_rfl) (ac (decide_eq_false (by omega)) (ao rfl))
 | k + 1, i, l, hk, hl => by
  have hll : l.length = 8 := by rw [hl]; exact Ez rfl rfl (by omega)
  have hset := Lp (h := v.l) (s := (Hf v w).l) (i := i) (n := 8) rfl rfl (by omega)
  rw [QC v w (by omega), ← hl] at hset
  obtain ⟨e1, h1⟩ := (V8.W32 hv).get i
  obtain ⟨e2, h2⟩ := (V8.W32 hw).get i
  rw [← mix_get (h := v.l) (s := (Hf v w).l) (i := i) (n := 8) rfl (by omega), ← hl] at e1
  have hadv := (W_ad hv hw k (i + 1) (l.set i (((at0 v.l i + at0 w.l i) % 4294967296 : Nat) : Int)) (by omega) hset)
  generalize at0 v.l i = x at *
  generalize at0 w.l i = y at *
  generalize w.l = wl at *
  generalize (Hf v w).l = sl at *
  refine W.seg [(0, aT), (5, aV (U3 x)), (8, aV (U3 y)), (9, aV (U3 ↑((x + y) % 4294967296))), (12, aV (I6 ↑(i + 1)))] [(1, 1), (2, 2), (4, 4)] (dsAd (List.set l i (↑((x + y) % 4294967296) : Int)) wl (i + 1)) (todo' := Ad Tryz.f79 1) [decide ((i:Int) < 8) = true, 0 ≤ (i:Int), (i:Int) < (↑(8 : Nat) : Int), U3 (List.getD l i (0 : Int)) = U3 x, i < 8, 0 ≤ (i:Int), (i:Int) < (↑(8 : Nat) : Int), U3 (List.getD wl i (0 : Int)) = U3 y, i < 8, U3 (IntKind.wrap .u32 ((x:Int) + (y:Int))) = U3 ↑((x + y) % 4294967296), 0 ≤ (i:Int), (i:Int) < (↑(8 : Nat) : Int), i < 8, I6 (IntKind.wrap .i64 ((i:Int) + 1)) = I6 ↑(i + 1), rr (PV.at 1 []), rr (PV.at 2 []), rr (PV.at 4 []), rr (I6 ↑(i + 1)), rr (B3 8 (List.set l i (↑((x + y) % 4294967296) : Int))), rr (B3 8 (List.replicate 8 0)), rr (B3 8 wl)] (by kernel_rfl) (ac (decide_eq_true (by omega)) (ob2 (by omega) (ac (cg (e1)) (ob3 (by omega) (ac (cg (e2)) (ac (by omega) (ac (cg (CO rfl)) (ob3 (by omega) (ac (wj (by omega)) (ac rfl (ac rfl (ac rfl (ac rfl (ac rfl (ac rfl (ao rfl)))))))))))))))) ?_
  exact hadv
set_option maxHeartbeats 8000000 in
theorem W_bk {v0 : V8} {S : Liz} (hv0 : v0.Ok) (hS : W32 S) (hSl : S.length = 64) : ∀ (n t a b c d e f g h : Nat), t + n = 64 → (V8.mk a b c d e f g h).Ok →
  Wt Tryz.f79 [] [] (.iarr .u32 8 (Hf v0 (rounds kS S n t ⟨a, b, c, d, e, f, g, h⟩)).l) (Ad Tryz.f79 0) (dsBk v0.l S a b c d e f g h t)
 | 0, t, a, b, c, d, e, f, g, h, hn, ho => by
  have hx := W_ad hv0 ho 8 0 v0.l rfl rfl
  rw [rounds]
  generalize (Hf v0 ⟨a, b, c, d, e, f, g, h⟩).l = sl at *
  generalize hv0l : v0.l = v0l at *
  refine W.seg [(0, aF)] [(1, 1), (2, 2), (4, 4)] (dsAd v0l [(a:Int), (b:Int), (c:Int), (d:Int), (e:Int), (f:Int), (g:Int), (h:Int)] 0) (todo' := Ad Tryz.f79 1) [decide ((t:Int) < 64) = false, rr (PV.at 1 []), rr (PV.at 2 []), rr (PV.at 4 []), I6 0 = I6 ↑(0 : Nat), rr (B3 8 v0l), rr (B3 8 (List.replicate 8 0)), rr (B3 8 [(a:Int), (b:Int), (c:Int), (d:Int), (e:Int), (f:Int), (g:Int), (h:Int)])] (by kernel_rfl) (ac (decide_eq_false (by omega)) (ac rfl (ac rfl (ac rfl (ac (cg (by omega)) (ac rfl (ac rfl (ao rfl)))))))) ?_
  exact hx
 | n + 1, t, a, b, c, d, e, f, g, h, hn, ho => by
  obtain ⟨ek, hk⟩ := kS_W32.get t
  obtain ⟨ew, hw⟩ := hS.get t
  have hkl : kS.length = 64 := rfl
  have ho2 := rd_ok ho (at0 kS t) (at0 S t)
  have hx := W_bk hv0 hS hSl n (t + 1) _ _ _ _ _ _ _ _ (by omega) ho2
  have er : rounds kS S (n + 1) t ⟨a, b, c, d, e, f, g, h⟩ = rounds kS S n (t + 1) (rd ⟨a, b, c, d, e, f, g, h⟩ (at0 kS t) (at0 S t)) := rfl
  rw [er]
  have p1 := ho.a
  have p2 := ho.b
  have p3 := ho.c
  have p4 := ho.d
  have p5 := ho.e
  have p6 := ho.f
  have p7 := ho.g
  have p8 := ho.h
  dsimp only at p1 p2 p3 p4 p5 p6 p7 p8
  unfold rd rp rq bs0 bs1 chN majN at hx ⊢
  dsimp only at hx ⊢
  have c1 := Kz (a := 6) (b := 11) (c := 25) p5 (by omega) (by omega) (by omega) (by omega) (by omega) (by omega)
  have c2 := Kz (a := 2) (b := 13) (c := 22) p1 (by omega) (by omega) (by omega) (by omega) (by omega) (by omega)
  have q1 : rot e 6 ^^^ rot e 11 ^^^ rot e 25 < 4294967296 := Nat.xor_lt_two_pow (n := 32) (Nat.xor_lt_two_pow (n := 32) (Cr p5) (Cr p5)) (Cr p5)
  have q2 : rot a 2 ^^^ rot a 13 ^^^ rot a 22 < 4294967296 := Nat.xor_lt_two_pow (n := 32) (Nat.xor_lt_two_pow (n := 32) (Cr p1) (Cr p1)) (Cr p1)
  generalize rot e 6 ^^^ rot e 11 ^^^ rot e 25 = s1 at *
  generalize rot a 2 ^^^ rot a 13 ^^^ rot a 22 = s0 at *
  have r1 : e &&& f < 4294967296 := Nat.and_lt_two_pow (n := 32) _ p6
  have r2 : (4294967295 - e) &&& g < 4294967296 := Nat.and_lt_two_pow (n := 32) _ p7
  have r3 : a &&& b < 4294967296 := Nat.and_lt_two_pow (n := 32) _ p2
  have r4 : a &&& c < 4294967296 := Nat.and_lt_two_pow (n := 32) _ p3
  have r5 : b &&& c < 4294967296 := Nat.and_lt_two_pow (n := 32) _ p3
  have r6 : (e &&& f) ^^^ ((4294967295 - e) &&& g) < 4294967296 := Nat.xor_lt_two_pow (n := 32) r1 r2
  have r7 : (a &&& b) ^^^ (a &&& c) < 4294967296 := Nat.xor_lt_two_pow (n := 32) r3 r4
  have r8 : (a &&& b) ^^^ (a &&& c) ^^^ (b &&& c) < 4294967296 := Nat.xor_lt_two_pow (n := 32) r7 r5
  have hcp := compl32 p5
  have r0 : 4294967295 - e < 4294967296 := by omega
  generalize 4294967295 - e = ne at *
  generalize at0 kS t = kk at *
  generalize at0 S t = ww at *
  generalize v0.l = v0l at *
  generalize hres : (Hf v0 _).l = sl at hx ⊢
  refine W.seg [(0, aT), (7, aK (U3 s1)), (8, aV (U3 ↑((h + s1) % 4294967296))), (13, aV (U3 ↑(e &&& f))), (16, aV (U3 ne)), (19, aV (U3 ↑(ne &&& g))), (20, aV (U3 ↑(e &&& f ^^^ ne &&& g))), (21, aV (U3 ↑(((h + s1) % 4294967296 + (e &&& f ^^^ ne &&& g)) % 4294967296))), (24, aV (U3 kk)), (25, aV (U3 ↑((((h + s1) % 4294967296 + (e &&& f ^^^ ne &&& g)) % 4294967296 + kk) % 4294967296))), (28, aV (U3 ww)), (29, aV (U3 ↑(((((h + s1) % 4294967296 + (e &&& f ^^^ ne &&& g)) % 4294967296 + kk) % 4294967296 + ww) % 4294967296))), (33, aK (U3 s0)), (38, aV (U3 ↑(a &&& b))), (43, aV (U3 ↑(a &&& c))), (44, aV (U3 ↑(a &&& b ^^^ a &&& c))), (49, aV (U3 ↑(b &&& c))), (50, aV (U3 ↑(a &&& b ^^^ a &&& c ^^^ b &&& c))), (51, aV (U3 ↑((s0 + (a &&& b ^^^ a &&& c ^^^ b &&& c)) % 4294967296))), (55, aV (U3 ↑((((((h + s1) % 4294967296 + (e &&& f ^^^ ne &&& g)) % 4294967296 + kk) % 4294967296 + ww) % 4294967296 + (s0 + (a &&& b ^^^ a &&& c ^^^ b &&& c)) % 4294967296) % 4294967296))), (65, aV (U3 ↑((d + ((((h + s1) % 4294967296 + (e &&& f ^^^ ne &&& g)) % 4294967296 + kk) % 4294967296 + ww) % 4294967296) % 4294967296))), (74, aV (I6 ↑(t + 1)))] [(1, 1), (2, 2), (3, 3), (4, 4)] (dsBk v0l S ((((((h + s1) % 4294967296 + (e &&& f ^^^ ne &&& g)) % 4294967296 + kk) % 4294967296 + ww) % 4294967296 + (s0 + (a &&& b ^^^ a &&& c ^^^ b &&& c)) % 4294967296) % 4294967296) a b c ((d + ((((h + s1) % 4294967296 + (e &&& f ^^^ ne &&& g)) % 4294967296 + kk) % 4294967296 + ww) % 4294967296) % 4294967296) e f g (t + 1)) (todo' := Ad Tryz.f79 0) [decide ((t:Int) < 64) = true, (0 : Int) ≤ 7, 7 < (↑(8 : Nat) : Int), 7 < 8, (0 : Int) ≤ 4, 4 < (↑(8 : Nat) : Int), 4 < 8, Pt 96 [] [U3 e, I6 6, I6 11, I6 25] [] (U3 s1), U3 (IntKind.wrap .u32 ((h:Int) + (s1:Int))) = U3 ↑((h + s1) % 4294967296), (0 : Int) ≤ 4, 4 < (↑(8 : Nat) : Int), 4 < 8, (0 : Int) ≤ 5, 5 < (↑(8 : Nat) : Int), 5 < 8, U3 (bits BinOp.and .u32 (e:Int) (f:Int)) = U3 ↑(e &&& f), (0 : Int) ≤ 4, 4 < (↑(8 : Nat) : Int), 4 < 8, U3 (bits BinOp.xor .u32 (Int.ofNat (nat_lit 2 ^ IntKind.bits .u32 - Nat.succ (nat_lit 0))) (e:Int)) = U3 ne, (0 : Int) ≤ 6, 6 < (↑(8 : Nat) : Int), 6 < 8, U3 (bits BinOp.and .u32 (ne:Int) (g:Int)) = U3 ↑(ne &&& g), U3 (bits BinOp.xor .u32 (↑(e &&& f) : Int) (↑(ne &&& g) : Int)) = U3 ↑(e &&& f ^^^ ne &&& g), U3 (IntKind.wrap .u32 ((↑((h + s1) % 4294967296) : Int) + (↑(e &&& f ^^^ ne &&& g) : Int))) = U3 ↑(((h + s1) % 4294967296 + (e &&& f ^^^ ne &&& g)) % 4294967296), 0 ≤ (t:Int), (t:Int) < (↑(64 : Nat) : Int), U3 (List.getD kS t (0 : Int)) = U3 kk, t < 64, U3 (IntKind.wrap .u32 ((↑(((h + s1) % 4294967296 + (e &&& f ^^^ ne &&& g)) % 4294967296) : Int) + (kk:Int))) = U3 ↑((((h + s1) % 4294967296 + (e &&& f ^^^ ne &&& g)) % 4294967296 + kk) % 4294967296), 0 ≤ (t:Int), (t:Int) < (↑(64 : Nat) : Int), U3 (List.getD S t (0 : Int)) = U3 ww, t < 64, U3 (IntKind.wrap .u32 ((↑((((h + s1) % 4294967296 + (e &&& f ^^^ ne &&& g)) % 4294967296 + kk) % 4294967296) : Int) + (ww:Int))) = U3 ↑(((((h + s1) % 4294967296 + (e &&& f ^^^ ne &&& g)) % 4294967296 + kk) % 4294967296 + ww) % 4294967296), (0 : Int) ≤ 0, 0 < (↑(8 : Nat) : Int), 0 < 8, Pt 96 [] [U3 a, I6 2, I6 13, I6 22] [] (U3 s0), (0 : Int) ≤ 0, 0 < (↑(8 : Nat) : Int), 0 < 8, (0 : Int) ≤ 1, 1 < (↑(8 : Nat) : Int), 1 < 8, U3 (bits BinOp.and .u32 (a:Int) (b:Int)) = U3 ↑(a &&& b), (0 : Int) ≤ 0, 0 < (↑(8 : Nat) : Int), 0 < 8, (0 : Int) ≤ 2, 2 < (↑(8 : Nat) : Int), 2 < 8, U3 (bits BinOp.and .u32 (a:Int) (c:Int)) = U3 ↑(a &&& c), U3 (bits BinOp.xor .u32 (↑(a &&& b) : Int) (↑(a &&& c) : Int)) = U3 ↑(a &&& b ^^^ a &&& c), (0 : Int) ≤ 1, 1 < (↑(8 : Nat) : Int), 1 < 8, (0 : Int) ≤ 2, 2 < (↑(8 : Nat) : Int), 2 < 8, U3 (bits BinOp.and .u32 (b:Int) (c:Int)) = U3 ↑(b &&& c), U3 (bits BinOp.xor .u32 (↑(a &&& b ^^^ a &&& c) : Int) (↑(b &&& c) : Int)) = U3 ↑(a &&& b ^^^ a &&& c ^^^ b &&& c), U3 (IntKind.wrap .u32 ((s0:Int) + (↑(a &&& b ^^^ a &&& c ^^^ b &&& c) : Int))) = U3 ↑((s0 + (a &&& b ^^^ a &&& c ^^^ b &&& c)) % 4294967296), U3 (IntKind.wrap .u32 ((↑(((((h + s1) % 4294967296 + (e &&& f ^^^ ne &&& g)) % 4294967296 + kk) % 4294967296 + ww) % 4294967296) : Int) + (↑((s0 + (a &&& b ^^^ a &&& c ^^^ b &&& c)) % 4294967296) : Int))) = U3 ↑((((((h + s1) % 4294967296 + (e &&& f ^^^ ne &&& g)) % 4294967296 + kk) % 4294967296 + ww) % 4294967296 + (s0 + (a &&& b ^^^ a &&& c ^^^ b &&& c)) % 4294967296) % 4294967296), (0 : Int) ≤ 0, 0 < (↑(8 : Nat) : Int), 0 < 8, (0 : Int) ≤ 1, 1 < (↑(8 : Nat) : Int), 1 < 8, (0 : Int) ≤ 2, 2 < (↑(8 : Nat) : Int), 2 < 8, (0 : Int) ≤ 3, 3 < (↑(8 : Nat) : Int), 3 < 8, U3 (IntKind.wrap .u32 ((d:Int) + (↑(((((h + s1) % 4294967296 + (e &&& f ^^^ ne &&& g)) % 4294967296 + kk) % 4294967296 + ww) % 4294967296) : Int))) = U3 ↑((d + ((((h + s1) % 4294967296 + (e &&& f ^^^ ne &&& g)) % 4294967296 + kk) % 4294967296 + ww) % 4294967296) % 4294967296), (0 : Int) ≤ 4, 4 < (↑(8 : Nat) : Int), 4 < 8, (0 : Int) ≤ 5, 5 < (↑(8 : Nat) : Int), 5 < 8, (0 : Int) ≤ 6, 6 < (↑(8 : Nat) : Int), 6 < 8, I6 (IntKind.wrap .i64 ((t:Int) + 1)) = I6 ↑(t + 1), rr (PV.at 1 []), rr (PV.at 2 []), rr (PV.at 3 []), rr (PV.at 4 []), rr (I6 ↑(t + 1)), rr (B3 8 v0l), rr (B3 8 (List.replicate 8 0)), rr (B3 64 S), rr (B3 8 [(↑((((((h + s1) % 4294967296 + (e &&& f ^^^ ne &&& g)) % 4294967296 + kk) % 4294967296 + ww) % 4294967296 + (s0 + (a &&& b ^^^ a &&& c ^^^ b &&& c)) % 4294967296) % 4294967296) : Int), (a:Int), (b:Int), (c:Int), (↑((d + ((((h + s1) % 4294967296 + (e &&& f ^^^ ne &&& g)) % 4294967296 + kk) % 4294967296 + ww) % 4294967296) % 4294967296) : Int), (e:Int), (f:Int), (g:Int)])] (by kernel_rfl) (ac (decide_eq_true (by omega)) (ob4 (by omega) (ob2 (by omega) (ac (c1) (ac (cg (CO rfl)) (ob4 (by omega) (ob2 (by omega) (ac (cg (Fv rfl rfl (by omega) (by omega))) (ob3 (by omega) (ac (cg (hcp)) (ob3 (by omega) (ac (cg (Fv rfl rfl (by omega) (by omega))) (ac (cg (BK rfl rfl (by omega) (by omega))) (ac (cg (CO rfl)) (ob2 (by omega) (ac (cg (ek)) (ac (by omega) (ac (cg (CO rfl)) (ob2 (by omega) (ac (cg (ew)) (ac (by omega) (ac (cg (CO rfl)) (ob3 (by omega) (ac (c2) (ob4 (by omega) (ob2 (by omega) (ac (cg (Fv rfl rfl (by omega) (by omega))) (ob4 (by omega) (ob2 (by omega) (ac (cg (Fv rfl rfl (by omega) (by omega))) (ac (cg (BK rfl rfl (by omega) (by omega))) (ob4 (by omega) (ob2 (by omega) (ac (cg (Fv rfl rfl (by omega) (by omega))) (ac (cg (BK rfl rfl (by omega) (by omega))) (ac (cg (CO rfl)) (ac (cg (CO rfl)) (ob4 (by omega) (ob4 (by omega) (ob4 (by omega) (ac (cg (CO rfl)) (ob4 (by omega) (ob4 (by omega) (ac (by omega) (ac (wj (by omega)) (ac rfl (ac rfl (ac rfl (ac rfl (ac rfl (ac rfl (ac rfl (ac rfl (ao rfl)))))))))))))))))))))))))))))))))))))))))))))))))))))) ?_
  exact hx
end Go.Proofs
namespace Go.Pm
theorem Ib (p : List Int) : (p.drop (64 * (p.length / 64))).length = p.length % 64 := by rw [List.length_drop]; omega
theorem Ph {p l : List Int} (v : V8) (h : p.length % 64 + l.length < 64) : D9 v (p ++ l) = D9 v p := by
 rw [IA]
 have : (p.drop (64 * (p.length / 64)) ++ l).length / 64 = 0 := by rw [List.length_append, Ib]; omega
 unfold D9 at *
 rw [this]
 rfl
theorem PP {p l : List Int} (v : V8) (h : p.length % 64 + l.length = 64) : D9 v (p ++ l) = blk (D9 v p) (p.drop (64 * (p.length / 64)) ++ l) := by
 rw [IA]
 have hl : (p.drop (64 * (p.length / 64)) ++ l).length = 64 := by rw [List.length_append, Ib]; omega
 generalize p.drop (64 * (p.length / 64)) ++ l = x at *
 generalize D9 v p = w
 unfold D9
 rw [hl, show 64 / 64 = 0 + 1 by rfl, BQ, BQ, List.take_of_length_le (by omega)]
structure BA (s b : List Int) (n : Nat) (p : List Int) : Prop where
 s : s = (D9 iv p).l
 bl : b.length = 64
 bb : Bytes b
 hn : n = p.length
 part : b.take (n % 64) = p.drop (64 * (n / 64))
def put (l : List Int) (off : Nat) (x : List Int) : List Int := l.take off ++ (x ++ l.drop (off + x.length))
theorem J3 {l x : List Int} {off : Nat} (h : off + x.length ≤ l.length) : (put l off x).length = l.length := by unfold put; simp; omega
theorem KN {l x : List Int} {off : Nat} (hl : Bytes l) (hx : Bytes x) : Bytes (put l off x) := (hl.take _).append (hx.append (hl.drop _))
theorem MZ {s b p l : List Int} {n : Nat} (ho : BA s b n p) (hl : Bytes l) (h : n % 64 + l.length < 64) : BA s (put b (n % 64) l) (n + l.length) (p ++ l) := by
 have hn := ho.hn
 have e1 : (n + l.length) % 64 = n % 64 + l.length := by omega
 have e2 : (n + l.length) / 64 = n / 64 := by omega
 refine ⟨?_, ?_, KN ho.bb hl, by rw [List.length_append, hn], ?_⟩
 ·rw [Ph _ (by rw [← hn]; exact h)]; exact ho.s
 ·rw [J3 (by rw [ho.bl]; omega)]; exact ho.bl
 ·rw [e1, e2, List.drop_append_of_le_length (by omega), ← ho.part]
  unfold put
  rw [← List.append_assoc, List.take_append_of_le_length (by rw [List.length_append, List.length_take, ho.bl]; omega), List.take_of_length_le (by rw [List.length_append, List.length_take, ho.bl]; omega)]
theorem Mi {s b p l : List Int} {n : Nat} (ho : BA s b n p) (hl : Bytes l) (h : n % 64 + l.length = 64) : BA (blk (D9 iv p) (put b (n % 64) l)).l (put b (n % 64) l) (n + l.length) (p ++ l) := by
 have hn := ho.hn
 have e1 : (n + l.length) % 64 = 0 := by omega
 have e2 : 64 * ((n + l.length) / 64) = n + l.length := by omega
 have e3 : put b (n % 64) l = p.drop (64 * (n / 64)) ++ l := by
  unfold put
  rw [List.drop_of_length_le (by rw [ho.bl]; omega), List.append_nil, ho.part]
 refine ⟨?_, ?_, KN ho.bb hl, by rw [List.length_append, hn], ?_⟩
 ·rw [PP _ (by rw [← hn]; exact h), e3, hn]
 ·rw [J3 (by rw [ho.bl]; omega)]; exact ho.bl
 ·rw [e1, List.take_zero, e2, List.drop_of_length_le (by rw [List.length_append, hn]; omega)]
theorem Od : BA iv.l (List.replicate 64 0) 0 [] := ⟨rfl, rfl, fun x hx => by have := List.eq_of_mem_replicate hx; subst this; omega, rfl, rfl⟩
end Go.Pm
namespace Go.Proofs
open Go Go.Pe Go.Pm
set_option maxRecDepth 100000
set_option linter.unusedVariables false
set_option maxHeartbeats 4000000 in
theorem QK {v : V8} {b : Liz} (hv : v.Ok) (hb : Bytes b) (hbl : b.length = 64) : Pt 79 [] [.iarr .u32 8 v.l, .iarr .u8 64 b] [] (.iarr .u32 8 (blk v b).l) := by
 refine pO Tryz.func79 (by kernel_rfl) ?_
 have c1 := Pq hb hbl
 obtain ⟨a, b', c, d, e, f, g, h⟩ := v
 have hx := W_bk (v0 := ⟨a, b', c, d, e, f, g, h⟩) hv (J2 hb).w32 (J2 hb).len 64 0 a b' c d e f g h rfl hv
 rw [← blk_eq] at hx
 generalize (blk ⟨a, b', c, d, e, f, g, h⟩ b).l = res at *
 unfold V8.l at hx ⊢
 dsimp only at hx ⊢
 refine W.seg [(3, Ans.call true [(80, 0)] [(0, Row.mk (B8 64 b) false)] (B3 64 (F4 b)))] [(64, 1), (96, 2), (128, 3), (176, 4)] (dsBk [(a:Int), (b':Int), (c:Int), (d:Int), (e:Int), (f:Int), (g:Int), (h:Int)] (F4 b) a b' c d e f g h 0) (todo' := Ad Tryz.f79 0) [Pt 95 [(0, Row.mk (B8 64 b) false)] [PV.at 0 []] [(0, Row.mk (B8 64 b) false)] (B3 64 (F4 b)), rr (PV.at 1 []), rr (PV.at 2 []), rr (PV.at 3 []), rr (PV.at 4 []), I6 0 = I6 ↑(0 : Nat), rr (B3 8 [(a:Int), (b':Int), (c:Int), (d:Int), (e:Int), (f:Int), (g:Int), (h:Int)]), rr (B3 8 (List.replicate 8 0)), rr (B3 64 (F4 b)), rr (B3 8 [(a:Int), (b':Int), (c:Int), (d:Int), (e:Int), (f:Int), (g:Int), (h:Int)])] (by kernel_rfl) (ac (c1) (ac rfl (ac rfl (ac rfl (ac rfl (ac (cg (by omega)) (ac rfl (ac rfl (ac rfl (ao rfl)))))))))) ?_
 exact hx
theorem Q5 : Pt 78 [] [] [] (.iarr .u32 8 iv.l) := by
 refine pO Tryz.func78 (by kernel_rfl) ?_
 refine W.ret [] [] [B3 8 [1779033703, 3144134277, 1013904242, 2773480762, 1359893119, 2600822924, 528734635, 1541459225] = B3 8 [(↑(1779033703 : Nat) : Int), (↑(3144134277 : Nat) : Int), (↑(1013904242 : Nat) : Int), (↑(2773480762 : Nat) : Int), (↑(1359893119 : Nat) : Int), (↑(2600822924 : Nat) : Int), (↑(528734635 : Nat) : Int), (↑(1541459225 : Nat) : Int)]] (by kernel_rfl) (ao rfl)
def hpv (s b : List Int) (n : Nat) : PV := .st 73 [.iarr .u32 8 s, .iarr .u8 64 b, .int .i64 n]
theorem O8 : Pt 57 [] [] [(1, ⟨hpv iv.l z64 0, false⟩)] (.at 1 []) := by
 refine pO Tryz.func57 (by kernel_rfl) ?_
 have c1 := Q5
 refine W.ret [(1, aK (B3 8 [(↑(1779033703 : Nat) : Int), (↑(3144134277 : Nat) : Int), (↑(1013904242 : Nat) : Int), (↑(2773480762 : Nat) : Int), (↑(1359893119 : Nat) : Int), (↑(2600822924 : Nat) : Int), (↑(528734635 : Nat) : Int), (↑(1541459225 : Nat) : Int)]))] [(112, 1)] [Pt 78 [] [] [] (B3 8 [(↑(1779033703 : Nat) : Int), (↑(3144134277 : Nat) : Int), (↑(1013904242 : Nat) : Int), (↑(2773480762 : Nat) : Int), (↑(1359893119 : Nat) : Int), (↑(2600822924 : Nat) : Int), (↑(528734635 : Nat) : Int), (↑(1541459225 : Nat) : Int)]), PV.st 73 [B3 8 [(↑(1779033703 : Nat) : Int), (↑(3144134277 : Nat) : Int), (↑(1013904242 : Nat) : Int), (↑(2773480762 : Nat) : Int), (↑(1359893119 : Nat) : Int), (↑(2600822924 : Nat) : Int), (↑(528734635 : Nat) : Int), (↑(1541459225 : Nat) : Int)], B8 64 (List.replicate 64 0), I6 0] = PV.st 73 [B3 8 [(↑(1779033703 : Nat) : Int), (↑(3144134277 : Nat) : Int), (↑(1013904242 : Nat) : Int), (↑(2773480762 : Nat) : Int), (↑(1359893119 : Nat) : Int), (↑(2600822924 : Nat) : Int), (↑(528734635 : Nat) : Int), (↑(1541459225 : Nat) : Int)], B8 64 (List.replicate 64 0), I6 ↑(0 : Nat)], rr (PV.at 1 [])] (by kernel_rfl) (ac (c1) (ac rfl (ao rfl)))
theorem LV (l : List Int) (off : Nat) (x : List Int) : spl l off x = put l off x := rfl
def dsWr (s b : List Int) (n : Nat) (nl : Bool) (m : Nat) (l : List Int) : DS := ⟨[(0, .at 0 []), (1, .vec nl (.iarr .u8 m l))], [(0, ⟨hpv s b n, false⟩)]⟩
set_option maxHeartbeats 4000000 in
theorem W_write {q : Liz} (hq : q.length ≤ 1000000000) : ∀ (k : Nat) (s b : List Int) (n : Nat) (p : List Int) (nl : Bool) (m : Nat) (l : List Int), m ≤ k → l.length = m → Bytes l → BA s b n p → p ++ l = q →
  ∃ s' b', BA s' b' q.length q ∧ Wt Tryz.f58 [0] [(0, ⟨hpv s' b' q.length, false⟩)] (.tup []) (Ad Tryz.f58 0) (dsWr s b n nl m l) := by
 intro k
 induction k with
 | zero =>
  intro s b n p nl m l hm hl hbl ho hpq
  have h0 : m = 0 := by omega
  subst h0
  have : l = [] := List.eq_nil_of_length_eq_zero hl
  subst this
  rw [List.append_nil] at hpq
  subst hpq
  have hn := ho.hn
  subst hn
  refine ⟨s, b, ho, ?_⟩
  refine W.ret [(1, aV (I6 0))] [(0, 0)] [I6 ↑(0 : Nat) = I6 0, rr (PV.st 73 [B3 8 s, B8 64 b, I6 ↑(List.length p)]), rr (PV.tup [])] (by kernel_rfl) (ac (cg (by omega)) (ac rfl (ao rfl)))
 | succ k ih =>
  intro s b n p nl m l hm hl hbl ho hpq
  by_cases h0 : m = 0
  ·exact ih s b n p nl m l (by omega) hl hbl ho hpq
  ·have hat : n % 64 < 64 := Nat.mod_lt _ (by omega)
   have hbl64 := ho.bl
   have hnq : n + m ≤ 1000000000 := by have := congrArg List.length hpq; rw [List.length_append, hl, ← ho.hn] at this; omega
   generalize hatt : n % 64 = t at *
   obtain ⟨j, hj⟩ : ∃ j, j = 64 - t := ⟨_, rfl⟩
   have hjI : (64 : Int) - (t : Int) = (j : Int) := by omega
   have htI : ((n % 64 : Nat) : Int) = (t : Int) := by rw [hatt]
   by_cases hfull : j ≤ m
   ·have hmn : mnN m j = j := by
     unfold mnN
     by_cases e : m = j
     ·rw [if_pos (by simp; omega), e]
     ·rw [if_neg (by simp; omega)]
    have hmnI : ((mnN m j : Nat) : Int) = (j : Int) := by rw [hmn]
    have htl : (l.take j).length = j := by rw [List.length_take]; omega
    have hst := Mi ho (hbl.take j) (by rw [htl]; omega)
    rw [htl, hatt, ← LV] at hst
    have hw := ih _ _ _ _ nl (m - j) (l.drop j) (by omega) (by rw [List.length_drop]; omega) (hbl.drop j) hst (by rw [List.append_assoc, List.take_append_drop]; exact hpq)
    obtain ⟨s', b', h1, h2⟩ := hw
    refine ⟨s', b', h1, ?_⟩
    have hvo : (D9 iv p).Ok := H8 _ _ iv_ok
    have c1 := QK (v := D9 iv p) (b := spl b t (l.take j)) hvo hst.bb hst.bl
    have hsp : spl b t (l.take j) = spl b t (l.take (mnN m j)) := by rw [hmn]
    rw [hsp] at h2 c1
    rw [← ho.s] at c1
    have hmj : (m : Int) - (j : Int) = ((m - j : Nat) : Int) := by omega
    generalize (blk (D9 iv p) (spl b t (l.take (mnN m j)))).l = s2 at *
    generalize m - j = m2 at *
    have htj : ((t + j : Nat) : Int) = 64 := by omega
    have hdl : (l.drop j).length = m2 := by rw [List.length_drop]; omega
    rw [← Dh] at h2 hdl
    refine W.seg [(2, aT), (7, aV (I6 t)), (13, aV (PV.ref 0 [Stp.fld 1 8] 1 t j)), (15, aV (I6 j)), (22, aV (I6 ↑(n + j))), (28, aV (PV.vec nl (B8 m2 (BZ l j)))), (32, aV (I6 64)), (43, aK (B3 8 s2))] [(0, 0)] (dsWr s2 (spl b t (List.take (mnN m j) l)) (n + j) nl m2 (BZ l j)) (todo' := Ad Tryz.f58 0) [decide ((m:Int) > 0) = true, I6 (Int.tmod (n:Int) (64 : Int)) = I6 t, (64 : Int) ≠ 0, PV.ref 0 [Stp.fld 1 8] 1 t (Int.toNat ((↑(64 : Nat) : Int) - (t:Int))) = PV.ref 0 [Stp.fld 1 8] 1 t j, 0 ≤ (t:Int), (t:Int) ≤ (↑(64 : Nat) : Int), (↑(64 : Nat) : Int) ≤ (↑(64 : Nat) : Int), I6 ↑(mnN m j) = I6 j, t + j ≤ 64, I6 (IntKind.wrap .i64 ((n:Int) + (j:Int))) = I6 ↑(n + j), PV.vec nl (B8 (Int.toNat ((m:Int) - (j:Int))) (List.take (Int.toNat ((m:Int) - (j:Int))) (BZ l j))) = PV.vec nl (B8 m2 (BZ l j)), 0 ≤ (j:Int), (j:Int) ≤ (m:Int), (m:Int) ≤ (m:Int), I6 (IntKind.wrap .i64 ((t:Int) + (j:Int))) = I6 64, Pt 79 [] [B3 8 s, B8 64 (spl b t (List.take (mnN m j) l))] [] (B3 8 s2), rr (PV.at 0 []), rr (PV.vec nl (B8 m2 (BZ l j))), rr (PV.st 73 [B3 8 s2, B8 64 (spl b t (List.take (mnN m j) l)), I6 ↑(n + j)])] (by kernel_rfl) (ac (decide_eq_true (by omega)) (ac (cg (htI)) (ac (by omega) (ac (by rw [show Int.toNat ((↑(64 : Nat) : Int) - (t:Int)) = j by omega]) (ob3 (by omega) (ac (cg (hmnI)) (ac (by omega) (ac (wj (by omega)) (ac (by (rw [show Int.toNat ((m:Int) - (j:Int)) = m2 by omega]; rw [List.take_of_length_le (show List.length (BZ l j) ≤ m2 by omega)])) (ob3 (by omega) (ac (cg (Dw htj (by omega) (by omega))) (ac (c1) (ac rfl (ac rfl (ao rfl))))))))))))))) ?_
    exact h2
   ·have hmn : ((mnN m j : Nat) : Int) = (m : Int) := by unfold mnN; rw [if_pos (by simp; omega)]
    have hst := MZ ho hbl (by omega)
    rw [hl, hatt, hpq, ← LV] at hst
    have hw := ih s (spl b t l) (n + m) q nl 0 [] (by omega) rfl (by intro x hx; cases hx) hst (by simp)
    obtain ⟨s', b', h1, h2⟩ := hw
    refine ⟨s', b', h1, ?_⟩
    refine W.seg [(2, aT), (7, aV (I6 t)), (13, aV (PV.ref 0 [Stp.fld 1 8] 1 t j)), (15, aV (I6 m)), (22, aV (I6 ↑(n + m))), (25, Ans.ups [(0, some (Row.mk (PV.st 73 [B3 8 s, B8 64 (spl b t l), I6 ↑(n + m)]) false))]), (28, aV (PV.vec nl (B8 0 (List.take 0 (BZ l m))))), (32, aV (I6 ↑(t + m))), (33, aF)] [(0, 0)] (dsWr s (spl b t l) (n + m) nl 0 []) (todo' := Ad Tryz.f58 0) [decide ((m:Int) > 0) = true, I6 (Int.tmod (n:Int) (64 : Int)) = I6 t, (64 : Int) ≠ 0, PV.ref 0 [Stp.fld 1 8] 1 t (Int.toNat ((↑(64 : Nat) : Int) - (t:Int))) = PV.ref 0 [Stp.fld 1 8] 1 t j, 0 ≤ (t:Int), (t:Int) ≤ (↑(64 : Nat) : Int), (↑(64 : Nat) : Int) ≤ (↑(64 : Nat) : Int), I6 ↑(mnN m j) = I6 m, t + j ≤ 64, I6 (IntKind.wrap .i64 ((n:Int) + (m:Int))) = I6 ↑(n + m), ([(0, some (Row.mk (PV.st 73 [B3 8 s, B8 64 (spl b t (List.take (mnN m j) l)), I6 ↑(n + m)]) false))] : List (Nat × Option Row)) = [(0, some (Row.mk (PV.st 73 [B3 8 s, B8 64 (spl b t l), I6 ↑(n + m)]) false))], PV.vec nl (B8 (Int.toNat ((m:Int) - (m:Int))) (List.take (Int.toNat ((m:Int) - (m:Int))) (BZ l m))) = PV.vec nl (B8 0 []), 0 ≤ (m:Int), (m:Int) ≤ (m:Int), (m:Int) ≤ (m:Int), I6 (IntKind.wrap .i64 ((t:Int) + (m:Int))) = I6 ↑(t + m), ((↑(t + m) : Int) == 64) = false, rr (PV.at 0 []), rr (PV.vec nl (B8 0 [])), rr (PV.st 73 [B3 8 s, B8 64 (spl b t l), I6 ↑(n + m)])] (by kernel_rfl) (ac (decide_eq_true (by omega)) (ac (cg (htI)) (ac (by omega) (ac (by rw [show Int.toNat ((↑(64 : Nat) : Int) - (t:Int)) = j by omega]) (ob3 (by omega) (ac (cg (hmn)) (ac (by omega) (ac (wj (by omega)) (ac (by rw [List.take_of_length_le (show List.length l ≤ mnN m j by omega)]) (ac (by (simp; done)) (ob3 (by omega) (ac (wj (by omega)) (ac (decide_eq_false (by omega)) (ac rfl (ac rfl (ao rfl)))))))))))))))) ?_
    exact h2
end Go.Proofs
namespace Go.Pm
def tab (n : Nat) (f : Nat → Int) : List Int := (List.range n).map f
theorem Gr (n : Nat) (f : Nat → Int) : (tab n f).length = n := by simp [tab]
theorem M7 {n i : Nat} {f : Nat → Int} (h : i < n) : (tab n f).getD i 0 = f i := by
 simp [tab, List.getD_eq_getElem?_getD, h]
theorem EB {n : Nat} {f g : Nat → Int} (h : ∀ p, p < n → f p = g p) : tab n f = tab n g := List.map_congr_left fun p hp => h p (List.mem_range.1 hp)
theorem Li {n i : Nat} {f : Nat → Int} {v : Int} : (tab n f).set i v = tab n (fun p => if p = i then v else f p) := by
 apply List.ext_getElem (by simp [tab])
 intro j h1 h2
 simp only [tab, List.getElem_set, List.getElem_map, List.getElem_range]
 by_cases hj : i = j
 ·subst hj; simp
 ·rw [if_neg hj, if_neg fun e => hj e.symm]
theorem QY (l : List Int) : l = tab l.length fun p => l.getD p 0 := by
 apply List.ext_getElem (by simp [tab])
 intro j h1 h2
 simp [tab, List.getD_eq_getElem?_getD, h1]
theorem IC (l : List Int) : l.reverse = tab l.length fun p => l.getD (l.length - 1 - p) 0 := by
 apply List.ext_getElem (by simp [tab])
 intro j h1 h2
 simp only [List.length_reverse] at h1
 simp only [tab, List.getElem_reverse, List.getElem_map, List.getElem_range, List.getD_eq_getElem?_getD]
 rw [List.getElem?_eq_getElem (by omega)]
 rfl
theorem Kk (n : Nat) (x : Int) : List.replicate n x = tab n fun _ => x := by
 apply List.ext_getElem (by simp [tab])
 intro j h1 h2
 simp [tab]
def rvl (l : List Int) (i : Nat) : List Int := tab l.length fun p => if p < i ∨ l.length - i ≤ p then l.getD (l.length - 1 - p) 0 else l.getD p 0
theorem Qr (l : List Int) : rvl l 0 = l := by
 conv => rhs; rw [QY l]
 exact EB fun p hp => by rw [if_neg (by omega)]
theorem OZ {l : List Int} {i : Nat} (h : l.length ≤ 2 * i + 1) (h2 : i ≤ l.length) : rvl l i = l.reverse := by
 rw [IC]
 refine EB fun p hp => ?_
 by_cases hc : p < i ∨ l.length - i ≤ p
 ·rw [if_pos hc]
 ·rw [if_neg hc]; congr 1; omega
theorem Oo {l : List Int} {i p : Nat} (hp : p < l.length) (h1 : i ≤ p) (h2 : p < l.length - i) : (rvl l i).getD p 0 = l.getD p 0 := by
 unfold rvl
 rw [M7 hp, if_neg (by omega)]
theorem Qy {l : List Int} {i : Nat} (h : 2 * i + 1 < l.length) : ((rvl l i).set i (l.getD (l.length - 1 - i) 0)).set (l.length - 1 - i) (l.getD i 0) = rvl l (i + 1) := by
 unfold rvl
 rw [Li, Li]
 refine EB fun p hp => ?_
 by_cases e1 : p = l.length - 1 - i
 ·rw [if_pos e1, if_pos (by omega)]; congr 1; omega
 ·rw [if_neg e1]
  by_cases e2 : p = i
  ·rw [if_pos e2, if_pos (by omega), e2]
  ·rw [if_neg e2]
   by_cases hc : p < i ∨ l.length - i ≤ p
   ·rw [if_pos hc, if_pos (by omega)]
   ·rw [if_neg hc, if_neg (by omega)]
def le (n w : Nat) : List Int := tab w fun i => ((n / 2 ^ (8 * i) % 256 : Nat) : Int)
def leTo (n w i : Nat) : List Int := tab w fun p => if p < i then ((n / 2 ^ (8 * p) % 256 : Nat) : Int) else 0
theorem Cc (n w : Nat) : (le n w).length = w := Gr _ _
theorem Md (n w i : Nat) : (leTo n w i).length = w := Gr _ _
theorem Pd (n w : Nat) : leTo n w 0 = List.replicate w 0 := by
 rw [Kk]
 exact EB fun p _ => by rw [if_neg (by omega)]
theorem Qm (n w : Nat) : leTo n w w = le n w := EB fun p hp => by rw [if_pos hp]
theorem Pb {n w i : Nat} : (leTo n w i).set i ((n / 2 ^ (8 * i) % 256 : Nat) : Int) = leTo n w (i + 1) := by
 unfold leTo
 rw [Li]
 refine EB fun p _ => ?_
 by_cases e : p = i
 ·rw [if_pos e, if_pos (by omega), e]
 ·rw [if_neg e]
  by_cases h : p < i
  ·rw [if_pos h, if_pos (by omega)]
  ·rw [if_neg h, if_neg (by omega)]
theorem GK (n w : Nat) : Bytes (le n w) := fun x hx => by
 simp only [le, tab, List.mem_map, List.mem_range] at hx
 obtain ⟨i, _, rfl⟩ := hx
 have : n / 2 ^ (8 * i) % 256 < 256 := Nat.mod_lt _ (by omega)
 omega
theorem N8 (n w : Nat) : (le n w).reverse = be n w := by
 rw [IC, Cc]
 refine EB fun p hp => ?_
 unfold le
 rw [M7 (by omega), show (256 : Nat) ^ (w - 1 - p) = 2 ^ (8 * (w - 1 - p)) by rw [Nat.pow_mul]]
theorem Nt (v : V8) {i : Nat} (hi : i < 8) : (v.bytes.drop (4 * i)).take 4 = be (at0 v.l i) 4 := by
 obtain rfl | rfl | rfl | rfl | rfl | rfl | rfl | rfl : i = 0 ∨ i = 1 ∨ i = 2 ∨ i = 3 ∨ i = 4 ∨ i = 5 ∨ i = 6 ∨ i = 7 := by omega
 all_goals rfl
theorem mix_put {h s x : List Int} {i k n : Nat} (hs : s.length = n) (hk : i + k ≤ n) (hx : x = (s.drop i).take k) : put (mix h s i) i x = mix h s (i + k) := by
 have hxl : x.length = k := by rw [hx, List.length_take, List.length_drop]; omega
 unfold put mix
 rw [List.take_append_of_le_length (by simp; omega), List.take_of_length_le (by simp; omega), hxl, List.drop_append, List.drop_of_length_le (by simp; omega), List.nil_append, List.drop_drop,
  ← List.append_assoc, List.take_add, hx]
 congr 1
 simp
 congr 1
 omega
end Go.Pm
namespace Go.Proofs
open Go Go.Pe Go.Pm
set_option maxRecDepth 100000
set_option linter.unusedVariables false
def dsLit (n w i : Nat) (l : List Int) : DS := ⟨[(0, .int .u64 n), (5, .ref 1 [] 1 0 w), (12, .int .i64 w), (13, .int .i64 i)], [(1, BV w l)]⟩
theorem MW {n w : Nat} (hn : n < 18446744073709551616) (hw : w ≤ 8) : ∀ (k i : Nat) (l : List Int), i + k = w → l = leTo n w i →
  Wt Tryz.f60 [] [(1, BV w (le n w))] (.ref 1 [] 1 0 w) (Ad Tryz.f60 0) (dsLit n w i l)
 | 0, i, l, hk, hl => by
  have e : l = le n w := by rw [hl, show i = w by omega]; exact Qm n w
  rw [← e]
  refine W.ret [(0, aF)] [(1, 1)] [decide ((i:Int) < (w:Int)) = false, rr (B8 w l), rr (PV.ref 1 [] 1 0 w)] (by kernel_rfl) (ac (decide_eq_false (by omega)) (ac rfl (ao rfl)))
 | k + 1, i, l, hk, hl => by
  have hll : l.length = w := by rw [hl]; exact Md n w i
  have hs := Pb (n := n) (w := w) (i := i)
  rw [← hl] at hs
  have h1 : n / 2 ^ (8 * i) < 18446744073709551616 := Nat.lt_of_le_of_lt (Nat.div_le_self _ _) hn
  refine W.seg [(0, aT), (7, aV (I6 ↑(8 * i))), (8, aV (U6 (Int.fdiv (n:Int) ((2 : Int) ^ min (8 * i) 64)))), (9, aV (U8 ↑(n / 2 ^ (8 * i) % 256))), (10, aV (PV.at 1 [Stp.idx i 1])), (12, aV (I6 ↑(i + 1)))] [(1, 1)] (dsLit n w (i + 1) (List.set l i (↑(n / 2 ^ (8 * i) % 256) : Int))) (todo' := Ad Tryz.f60 0) [decide ((i:Int) < (w:Int)) = true, I6 (IntKind.wrap .i64 (8 * (i:Int))) = I6 ↑(8 * i), U6 (Int.fdiv (n:Int) ((2 : Int) ^ min (Int.toNat (↑(8 * i) : Int)) 64)) = U6 (Int.fdiv (n:Int) ((2 : Int) ^ min (8 * i) 64)), 0 ≤ (↑(8 * i) : Int), U8 (IntKind.wrap .u8 (Int.fdiv (n:Int) ((2 : Int) ^ min (8 * i) 64))) = U8 ↑(n / 2 ^ (8 * i) % 256), PV.at 1 [Stp.idx (0 + i) 1] = PV.at 1 [Stp.idx i 1], 0 ≤ (i:Int), (i:Int) < (w:Int), i < w, I6 (IntKind.wrap .i64 ((i:Int) + 1)) = I6 ↑(i + 1), rr (U6 n), rr (PV.ref 1 [] 1 0 w), rr (I6 w), rr (I6 ↑(i + 1)), rr (B8 w (List.set l i (↑(n / 2 ^ (8 * i) % 256) : Int)))] (by kernel_rfl) (ac (decide_eq_true (by omega)) (ac (wj (by omega)) (ac (cg rfl) (ac (by omega) (ac (cg (wm_u8 (OL rfl rfl (by omega)))) (ac (by simp only [Nat.zero_add]) (ob3 (by omega) (ac (wj (by omega)) (ac rfl (ac rfl (ac rfl (ac rfl (ao rfl))))))))))))) ?_
  exact MW hn hw k (i + 1) _ (by omega) hs
theorem Hw {n w : Nat} (hn : n < 18446744073709551616) (hw : w ≤ 8) : Pt 60 [] [.int .u64 n, .int .i64 w] [(1, BV w (le n w))] (.ref 1 [] 1 0 w) := by
 refine pO Tryz.func60 (by kernel_rfl) ?_
 have h1 : mx (w : Int) 0 = (w : Int) := by unfold mx; split <;> omega
 have h2 : mn (w : Int) 8 = (w : Int) := by unfold mn; split <;> omega
 refine W.seg [(2, aV (I6 w)), (3, aV (I6 w))] [(128, 1)] (dsLit n w 0 (List.replicate w (0 : Int))) (todo' := Ad Tryz.f60 0) [I6 (mx (w:Int) (0 : Int)) = I6 w, I6 (mn (w:Int) (8 : Int)) = I6 w, 0 ≤ (w:Int), (w:Int) ≤ (w:Int), (w:Int) ≤ 9223372036854775807, (↑(1 : Nat) : Int) * (w:Int) ≤ 140737488355328, rr (U6 n), rr (PV.ref 1 [] 1 0 w), rr (I6 w), I6 0 = I6 ↑(0 : Nat), rr (B8 w (List.replicate w (0 : Int)))] (by kernel_rfl) (ac (cg (h1)) (ac (cg (h2)) (ob4 (by omega) (ac rfl (ac rfl (ac rfl (ac (cg (by omega)) (ao rfl)))))))) ?_
 exact MW hn hw w 0 _ (by omega) (Pd n w).symm
def dsRev (n : Nat) (l : List Int) (i : Nat) (j : Int) : DS := ⟨[(0, .ref 0 [] 1 0 n), (2, .int .i64 i), (3, .int .i64 j)], [(0, BV n l)]⟩
theorem KJ {n : Nat} {l : Liz} (hl : l.length = n) (hn : n ≤ 1000000000) : ∀ (k i : Nat) (m : List Int), n ≤ 2 * i + 2 * k + 1 → 2 * i ≤ n + 1 → m = rvl l i → i ≤ n →
  Wt Tryz.f97 [0] [(0, BV n l.reverse)] (.tup []) (Ad Tryz.f97 0) (dsRev n m i ((n : Int) - 1 - i))
 | 0, i, m, hk, hi, hm, hin => by
  have e : m = l.reverse := by rw [hm]; exact OZ (by omega) (by omega)
  rw [← e]
  refine W.ret [(1, aV (I6 ((n:Int) - (i:Int) - 1))), (2, aF)] [(0, 0)] [I6 ((n:Int) - 1 - (i:Int)) = I6 ((n:Int) - (i:Int) - 1), decide ((i:Int) < (n:Int) - (i:Int) - 1) = false, rr (B8 n m), rr (PV.tup [])] (by kernel_rfl) (ac (cg (by omega)) (ac (decide_eq_false (by omega)) (ac rfl (ao rfl))))
 | k + 1, i, m, hk, hi, hm, hin => by
  by_cases h : 2 * i + 1 < n
  ·have hml : m.length = n := by rw [hm]; unfold rvl; rw [Gr, hl]
   have hs := Qy (l := l) (i := i) (by omega)
   have g1 := Oo (l := l) (i := i) (p := i) (by omega) (by omega) (by omega)
   have g2 := Oo (l := l) (i := i) (p := l.length - 1 - i) (by omega) (by omega) (by omega)
   rw [← g1, ← g2, ← hm, hl] at hs
   have hjI : (n : Int) - 1 - i = ((n - 1 - i : Nat) : Int) := by omega
   have hj2 : ((n - 1 - i : Nat) : Int) - 1 = (n : Int) - 1 - ((i + 1 : Nat) : Int) := by omega
   have hjl : n - 1 - i < n := by omega
   have hij : i < n - 1 - i := by omega
   have hw := KJ hl hn k (i + 1) _ (by omega) (by omega) hs.symm.symm (by omega)
   rw [hjI]
   rw [← hj2] at hw
   generalize n - 1 - i = j at *
   refine W.seg [(2, aT), (9, aV (PV.at 0 [Stp.idx j 1])), (13, aV (PV.at 0 [Stp.idx i 1])), (15, aV (PV.at 0 [Stp.idx i 1])), (17, aV (PV.at 0 [Stp.idx j 1])), (20, aV (I6 ↑(i + 1))), (22, aV (I6 ((n:Int) - 1 - (↑(i + 1) : Int)))), (24, aV (I6 ((n:Int) - (i:Int) - 2)))] [(0, 0)] (dsRev n (List.set (List.set m i (List.getD m j (0 : Int))) j (List.getD m i (0 : Int))) (i + 1) ((j:Int) - 1)) (todo' := Ad Tryz.f97 0) [decide ((i:Int) < (j:Int)) = true, PV.at 0 [Stp.idx (0 + j) 1] = PV.at 0 [Stp.idx j 1], 0 ≤ (j:Int), (j:Int) < (n:Int), j < n, PV.at 0 [Stp.idx (0 + i) 1] = PV.at 0 [Stp.idx i 1], 0 ≤ (i:Int), (i:Int) < (n:Int), i < n, PV.at 0 [Stp.idx (0 + i) 1] = PV.at 0 [Stp.idx i 1], 0 ≤ (i:Int), (i:Int) < (n:Int), i < n, PV.at 0 [Stp.idx (0 + j) 1] = PV.at 0 [Stp.idx j 1], 0 ≤ (j:Int), (j:Int) < (n:Int), j < n, I6 (IntKind.wrap .i64 ((i:Int) + 1)) = I6 ↑(i + 1), I6 (IntKind.wrap .i64 ((j:Int) - 1)) = I6 ((n:Int) - 1 - (↑(i + 1) : Int)), I6 ((n:Int) - 1 - (↑(i + 1) : Int)) = I6 ((n:Int) - (i:Int) - 2), rr (PV.ref 0 [] 1 0 n), rr (I6 ↑(i + 1)), I6 ((n:Int) - (i:Int) - 2) = I6 ((j:Int) - 1), rr (B8 n (List.set (List.set m i (List.getD m j (0 : Int))) j (List.getD m i (0 : Int))))] (by kernel_rfl) (ac (decide_eq_true (by omega)) (ac (by simp only [Nat.zero_add]) (ob3 (by omega) (ac (by simp only [Nat.zero_add]) (ob3 (by omega) (ac (by simp only [Nat.zero_add]) (ob3 (by omega) (ac (by simp only [Nat.zero_add]) (ob3 (by omega) (ac (wj (by omega)) (ac (cg (Dw hj2 (by omega) (by omega))) (ac (cg (by omega)) (ac rfl (ac rfl (ac (cg (by omega)) (ao rfl)))))))))))))))) ?_
   exact hw
  ·have e : m = l.reverse := by rw [hm]; exact OZ (by omega) (by omega)
   rw [← e]
   refine W.ret [(1, aV (I6 ((n:Int) - (i:Int) - 1))), (2, aF)] [(0, 0)] [I6 ((n:Int) - 1 - (i:Int)) = I6 ((n:Int) - (i:Int) - 1), decide ((i:Int) < (n:Int) - (i:Int) - 1) = false, rr (B8 n m), rr (PV.tup [])] (by kernel_rfl) (ac (cg (by omega)) (ac (decide_eq_false (by omega)) (ac rfl (ao rfl))))
theorem NK {n : Nat} {l : Liz} (hl : l.length = n) (hn : n ≤ 1000000000) : Pt 97 [(0, BV n l)] [.ref 0 [] 1 0 n] [(0, BV n l.reverse)] (.tup []) := by
 refine pO Tryz.func97 (by kernel_rfl) ?_
 refine W.seg [(2, aV (I6 ((n:Int) - 1)))] [(0, 0)] (dsRev n l 0 ((n:Int) - 1 - (↑(0 : Nat) : Int))) (todo' := Ad Tryz.f97 0) [I6 (IntKind.wrap .i64 ((n:Int) - 1)) = I6 ((n:Int) - 1), rr (PV.ref 0 [] 1 0 n), I6 0 = I6 ↑(0 : Nat), I6 ((n:Int) - 1) = I6 ((n:Int) - 1 - (↑(0 : Nat) : Int)), rr (B8 n l)] (by kernel_rfl) (ac (wj (by omega)) (ac rfl (ac (cg (by omega)) (ac (cg (by omega)) (ao rfl))))) ?_
 exact KJ hl hn n 0 l (by omega) (by omega) (Qr l).symm (by omega)
theorem Ng {n w : Nat} (hn : n < 18446744073709551616) (hw : w ≤ 8) : Pt 80 [] [.int .u64 n, .int .i64 w] [(1, BV w (be n w))] (.ref 1 [] 1 0 w) := by
 refine pO Tryz.func80 (by kernel_rfl) ?_
 have c1 := Hw hn hw
 have c2 := NK (Cc n w) (by omega)
 rw [N8] at c2
 generalize le n w = l1 at *
 generalize be n w = l2 at *
 refine W.ret [(3, Ans.call true [] [(1, Row.mk (B8 w l1) false)] (PV.ref 1 [] 1 0 w)), (6, Ans.call true [(113, 0)] [(0, Row.mk (B8 w l2) false)] (PV.tup []))] [(113, 1)] [Pt 60 [] [U6 n, I6 w] [(1, Row.mk (B8 w l1) false)] (PV.ref 1 [] 1 0 w), Pt 97 [(0, Row.mk (B8 w l1) false)] [PV.ref 0 [] 1 0 w] [(0, Row.mk (B8 w l2) false)] (PV.tup []), rr (B8 w l2), rr (PV.ref 1 [] 1 0 w)] (by kernel_rfl) (ac (c1) (ac (c2) (ac rfl (ao rfl))))
theorem JB {s b p l : Liz} {n m : Nat} {nl : Bool} (ho : BA s b n p) (hl : l.length = m) (hbl : Bytes l) (hsz : n + m ≤ 1000000000) :
  ∃ s' b', BA s' b' (n + m) (p ++ l) ∧ Pt 58 [(0, ⟨hpv s b n, false⟩)] [.at 0 [], .vec nl (.iarr .u8 m l)] [(0, ⟨hpv s' b' (n + m), false⟩)] (.tup []) := by
 have hlen : (p ++ l).length = n + m := by rw [List.length_append, hl, ho.hn]
 obtain ⟨s', b', h1, h2⟩ := W_write (q := p ++ l) (by rw [hlen]; exact hsz) m s b n p nl m l (Nat.le_refl m) hl hbl ho rfl
 rw [hlen] at h1 h2
 refine ⟨s', b', h1, ?_⟩
 refine pO Tryz.func58 (by kernel_rfl) ?_
 refine W.seg [] [(0, 0)] (dsWr s b n nl m l) (todo' := Ad Tryz.f58 0) [rr (PV.at 0 []), rr (PV.vec nl (B8 m l)), rr (PV.st 73 [B3 8 s, B8 64 b, I6 n])] (by kernel_rfl) (ac rfl (ac rfl (ao rfl))) ?_
 exact h2
end Go.Proofs
namespace Go.Proofs
open Go Go.Pe Go.Pm
set_option maxRecDepth 100000
set_option linter.unusedVariables false
def y32 : List Int := List.replicate 32 0
def dsOut (s b : List Int) (n : Nat) (s' o : List Int) (i : Nat) : DS := ⟨[(2, .at 1 []), (5, .at 2 []), (33, .iarr .u32 8 s'), (34, .int .i64 i)], [(0, ⟨hpv s b n, false⟩), (1, BV 32 y32), (2, BV 32 o)]⟩
theorem W_out {s b : Liz} {n : Nat} {v : V8} (hv : v.Ok) : ∀ (k i : Nat) (o : List Int), i + k = 8 → o = mix y32 v.bytes (4 * i) →
  Wt Tryz.f59 [0] [(0, ⟨hpv s b n, false⟩)] (.iarr .u8 32 v.bytes) (Ad Tryz.f59 0) (dsOut s b n v.l o i)
 | 0, i, o, hk, ho => by
  have e : o = v.bytes := by rw [ho, show 4 * i = 32 by omega]; exact Lv rfl (V8.C9 v)
  rw [← e]
  generalize v.l = vl at *
  refine W.ret [(0, aF)] [(0, 0)] [decide ((i:Int) < 8) = false, rr (PV.st 73 [B3 8 s, B8 64 b, I6 n]), rr (B8 32 o)] (by kernel_rfl) (ac (decide_eq_false (by omega)) (ac rfl (ao rfl)))
 | k + 1, i, o, hk, ho => by
  have hol : o.length = 32 := by rw [ho]; exact Ez rfl (V8.C9 v) (by omega)
  obtain ⟨e1, h1⟩ := (V8.W32 hv).get i
  have hx := Nt v (i := i) (by omega)
  have hp := mix_put (h := y32) (s := v.bytes) (x := be (at0 v.l i) 4) (i := 4 * i) (k := 4) (V8.C9 v) (by omega) hx.symm
  rw [← ho, ← LV] at hp
  have hw := W_out (s := s) (b := b) (n := n) hv k (i + 1) _ (by omega) (show _ = mix y32 v.bytes (4 * (i + 1)) from hp)
  have c1 := Ng (n := at0 v.l i) (w := 4) (by omega) (by omega)
  have hbl := FM (at0 v.l i) 4
  have hj : (32 : Int) - ((4 * i : Nat) : Int) = ((32 - 4 * i : Nat) : Int) := by omega
  have hmn : mnN 4 (32 - 4 * i) = 4 := by unfold mnN; rw [if_pos (by simp; omega)]
  have hj1 : 4 * i + (32 - 4 * i) = 32 := by omega
  generalize 32 - 4 * i = j at *
  have hmnI : ((mnN 4 j : Nat) : Int) = (4 : Int) := by rw [hmn]; rfl
  generalize at0 v.l i = x at *
  generalize be x 4 = y at *
  generalize hvb : v.bytes = vb at *
  generalize v.l = vl at *
  refine W.seg [(0, aT), (2, aV (U3 x)), (6, aV (I6 ↑(4 * i))), (7, aV (PV.ref 2 [] 1 (4 * i) (Int.toNat ((↑(32 : Nat) : Int) - (↑(4 * i) : Int))))), (9, aV (U6 x)), (10, Ans.call true [] [(1, Row.mk (B8 4 y) false)] (PV.ref 1 [] 1 0 4)), (12, aV (I6 ↑(i + 1)))] [(0, 0), (1, 1), (2, 2)] (dsOut s b n vl (spl o (4 * i) y) (i + 1)) (todo' := Ad Tryz.f59 0) [decide ((i:Int) < 8) = true, U3 (List.getD vl i (0 : Int)) = U3 x, 0 ≤ (i:Int), (i:Int) < (↑(8 : Nat) : Int), I6 (IntKind.wrap .i64 (4 * (i:Int))) = I6 ↑(4 * i), PV.ref 2 [] 1 (Int.toNat (↑(4 * i) : Int)) (Int.toNat ((↑(32 : Nat) : Int) - (↑(4 * i) : Int))) = PV.ref 2 [] 1 (4 * i) (Int.toNat ((↑(32 : Nat) : Int) - (↑(4 * i) : Int))), 0 ≤ (↑(4 * i) : Int), (↑(4 * i) : Int) ≤ (↑(32 : Nat) : Int), (↑(32 : Nat) : Int) ≤ (↑(32 : Nat) : Int), U6 (IntKind.wrap .u64 (x:Int)) = U6 x, Pt 80 [] [U6 x, I6 4] [(1, Row.mk (B8 4 y) false)] (PV.ref 1 [] 1 0 4), 4 ≤ 4, 4 * i + Int.toNat ((↑(32 : Nat) : Int) - (↑(4 * i) : Int)) ≤ 32, I6 (IntKind.wrap .i64 ((i:Int) + 1)) = I6 ↑(i + 1), rr (PV.at 1 []), rr (PV.at 2 []), rr (B3 8 vl), rr (I6 ↑(i + 1)), rr (PV.st 73 [B3 8 s, B8 64 b, I6 n]), rr (B8 32 (List.replicate 32 0)), B8 32 (spl o (4 * i) (List.take (mnN 4 (Int.toNat ((↑(32 : Nat) : Int) - (↑(4 * i) : Int)))) (List.take 4 y))) = B8 32 (spl o (4 * i) y)] (by kernel_rfl) (ac (decide_eq_true (by omega)) (ac (cg (e1)) (ob2 (by omega) (ac (wj (by omega)) (ac (by rw [show Int.toNat (↑(4 * i) : Int) = 4 * i by omega]) (ob3 (by omega) (ac (cg (BC rfl (by omega) (by omega))) (ac (c1) (ob2 (by omega) (ac (wj (by omega)) (ac rfl (ac rfl (ac rfl (ac rfl (ac rfl (ac rfl (ao ?_))))))))))))))))) ?_
  ·have e : (((32 : Nat) : Int) - ((4 * i : Nat) : Int)).toNat = j := by omega
   rw [e, hmn, List.take_take, Nat.min_self, List.take_of_length_le (by omega)]
  ·exact hw
set_option maxHeartbeats 4000000 in
theorem pc_hsum {s b p : Liz} {n : Nat} (ho : BA s b n p) (hn : n ≤ 500000000) : Pt 59 [(0, ⟨hpv s b n, false⟩)] [.at 0 []] [(0, ⟨hpv s b n, false⟩)] (.iarr .u8 32 (sha p)) := by
 refine pO Tryz.func59 (by kernel_rfl) ?_
 obtain ⟨a, ha⟩ : ∃ a, a = 119 - n % 64 := ⟨_, rfl⟩
 obtain ⟨m, hm⟩ : ∃ m, m = a % 64 + 1 := ⟨_, rfl⟩
 have haI : (119 : Int) - ((n % 64 : Nat) : Int) = (a : Int) := by omega
 have hmI : ((a % 64 + 1 : Nat) : Int) = (m : Int) := by omega
 have hpad : (List.replicate m 0).set 0 128 = Om n := by
  rw [hm, List.replicate_succ, List.set_cons_zero, ha]; rfl
 have hpl : ((List.replicate m (0 : Int)).set 0 128).length = m := by simp
 have hpb : Bytes ((List.replicate m (0 : Int)).set 0 128) := by
  rw [hpad]
  intro x hx
  rcases List.mem_cons.1 hx with rfl | hx
  ·omega
  ·have := List.eq_of_mem_replicate hx; omega
 obtain ⟨s1, b1, ho1, c1⟩ := JB (nl := false) ho hpl hpb (by omega)
 have h8 : (n : Int) * 2 ^ 3 = ((n * 8 : Nat) : Int) := by omega
 have c2 := Ng (n := n * 8) (w := 8) (by omega) (by omega)
 obtain ⟨s2, b2, ho2, c3⟩ := JB (nl := false) ho1 (FM (n * 8) 8) (Cm _ _) (by omega)
 have hbl := FM (n * 8) 8
 rw [hpad, ho.hn] at ho2
 have hsha : sha p = (D9 iv (padded p)).bytes := rfl
 have hs2 := ho2.s
 unfold padded at hsha
 rw [hsha]
 have hw := W_out (s := s) (b := b) (n := n) (v := D9 iv (p ++ Om p.length ++ be (p.length * 8) 8)) (H8 _ _ iv_ok) 8 0 y32 rfl rfl
 rw [← hs2] at hw
 generalize be (n * 8) 8 = bb at *
 generalize (D9 iv (p ++ Om p.length ++ be (p.length * 8) 8)).bytes = res at *
 refine W.seg [(10, aV (I6 ↑(n % 64))), (11, aV (I6 a)), (12, aV (I6 ↑(a % 64))), (13, aV (I6 m)), (20, Ans.calla true [(128, 0)] [(0, Row.mk (hpv s b n) false)] [PV.at 0 [], PV.vec false (B8 m (List.set (List.replicate m (0 : Int)) 0 (128 : Int)))] [(0, Row.mk (PV.st 73 [B3 8 s1, B8 64 b1, I6 ↑(n + m)]) false)] (PV.tup [])), (25, aV (U6 n)), (26, aV (U6 ↑(n * 8))), (27, Ans.call true [] [(1, Row.mk (B8 8 bb) false)] (PV.ref 1 [] 1 0 8)), (28, Ans.calla true [(128, 0)] [(0, Row.mk (hpv s1 b1 (n + m)) false)] [PV.at 0 [], PV.vec false (B8 8 bb)] [(0, Row.mk (PV.st 73 [B3 8 s2, B8 64 b2, I6 ↑(n + m + 8)]) false)] (PV.tup []))] [(0, 0), (64, 1), (528, 2)] (dsOut s b n s2 y32 0) (todo' := Ad Tryz.f59 0) [I6 (Int.tmod (n:Int) (64 : Int)) = I6 ↑(n % 64), (64 : Int) ≠ 0, I6 (IntKind.wrap .i64 (119 - (↑(n % 64) : Int))) = I6 a, I6 (Int.tmod (a:Int) (64 : Int)) = I6 ↑(a % 64), (64 : Int) ≠ 0, I6 (IntKind.wrap .i64 (1 + (↑(a % 64) : Int))) = I6 m, 0 ≤ (m:Int), (m:Int) ≤ (m:Int), (m:Int) ≤ 9223372036854775807, (↑(1 : Nat) : Int) * (m:Int) ≤ 140737488355328, (0 : Int) ≤ 0, 0 < (m:Int), 0 < m, 0 + m ≤ m, rr ([(0, Row.mk (PV.st 73 [B3 8 s, B8 64 b, I6 n]) false)] : List (Nat × Row)), ([PV.at 0 [], PV.vec false (B8 m (List.take m (List.set (List.replicate m (0 : Int)) 0 (128 : Int))))] : List PV) = [PV.at 0 [], PV.vec false (B8 m (List.set (List.replicate m (0 : Int)) 0 (128 : Int)))], Pt 58 [(0, Row.mk (PV.st 73 [B3 8 s, B8 64 b, I6 n]) false)] [PV.at 0 [], PV.vec false (B8 m (List.set (List.replicate m (0 : Int)) 0 (128 : Int)))] [(0, Row.mk (PV.st 73 [B3 8 s1, B8 64 b1, I6 ↑(n + m)]) false)] (PV.tup []), U6 (IntKind.wrap .u64 (n:Int)) = U6 n, U6 (IntKind.wrap .u64 ((n:Int) * (2 : Int) ^ 3)) = U6 ↑(n * 8), (0 : Int) ≤ 3, Pt 80 [] [U6 ↑(n * 8), I6 8] [(1, Row.mk (B8 8 bb) false)] (PV.ref 1 [] 1 0 8), 8 ≤ 8, rr ([(0, Row.mk (PV.st 73 [B3 8 s1, B8 64 b1, I6 ↑(n + m)]) false)] : List (Nat × Row)), ([PV.at 0 [], PV.vec false (B8 8 (List.take 8 bb))] : List PV) = [PV.at 0 [], PV.vec false (B8 8 bb)], Pt 58 [(0, Row.mk (PV.st 73 [B3 8 s1, B8 64 b1, I6 ↑(n + m)]) false)] [PV.at 0 [], PV.vec false (B8 8 bb)] [(0, Row.mk (PV.st 73 [B3 8 s2, B8 64 b2, I6 ↑(n + m + 8)]) false)] (PV.tup []), rr (PV.at 1 []), rr (PV.at 2 []), rr (B3 8 s2), I6 0 = I6 ↑(0 : Nat), rr (PV.st 73 [B3 8 s, B8 64 b, I6 n]), rr (B8 32 (List.replicate 32 0)), rr (B8 32 (List.replicate 32 0))] (by kernel_rfl) (ac (cg rfl) (ac (by omega) (ac (cg (Dw haI (by omega) (by omega))) (ac (cg rfl) (ac (by omega) (ac (cg (Dw (by rw [← hmI]; omega) (by omega) (by omega))) (ob4 (by omega) (ob4 (by omega) (ac rfl (ac (by rw [List.take_of_length_le (show List.length (List.set (List.replicate m (0 : Int)) 0 (128 : Int)) ≤ m by omega)]) (ac (c1) (ac (cg (BC rfl (by omega) (by omega))) (ac (cg (BC h8 (by omega) (by omega))) (ac (by omega) (ac (c2) (ac (by omega) (ac rfl (ac (by rw [List.take_of_length_le (show List.length bb ≤ 8 by omega)]) (ac (c3) (ac rfl (ac rfl (ac rfl (ac (cg (by omega)) (ac rfl (ac rfl (ao rfl)))))))))))))))))))))))))) ?_
 exact hw
def AV (x : Bool × Nat × List Int) : PV := .vec x.1 (.iarr .u8 x.2.1 x.2.2)
structure Kl (x : Bool × Nat × List Int) : Prop where
 len : x.2.2.length = x.2.1
 bytes : Bytes x.2.2
def bsh : Sh := .vec 1 (.int .u8)
def cat (l : List (Bool × Nat × List Int)) : List Int := (l.map fun x => x.2.2).flatten
theorem Gp {l : List (Bool × Nat × List Int)} {i : Nat} (h : i < l.length) : (l.map AV).getD i .undef = AV (l.getD i default) := by
 simp [List.getD_eq_getElem?_getD, h]
theorem JQ {l : List (Bool × Nat × List Int)} {i : Nat} (h : i < l.length) : cat (l.drop i) = (l.getD i default).2.2 ++ cat (l.drop (i + 1)) := by
 unfold cat
 rw [List.drop_eq_getElem_cons h, List.map_cons, List.flatten_cons, List.getD_eq_getElem?_getD, List.getElem?_eq_getElem h]
 rfl
theorem bs_ok {l : List (Bool × Nat × List Int)} (ho : ∀ x ∈ l, Kl x) {i : Nat} (hi : i < l.length) : Kl (l.getD i default) := by
 rw [List.getD_eq_getElem?_getD, List.getElem?_eq_getElem hi]
 exact ho _ (List.getElem_mem hi)
def dsSum (nl : Bool) (c : Nat) (l : List PV) (s b : List Int) (n i : Nat) : DS := ⟨[(2, .at 1 []), (3, .at 2 []), (7, .vec nl (.parr 1 c bsh l)), (8, .int .i64 c), (9, .int .i64 i)], [(1, BV 32 y32), (2, ⟨hpv s b n, false⟩)]⟩
theorem W_sum {nl : Bool} {l : List (Bool × Nat × List Int)} {c : Nat} {q : Liz} (hc : l.length = c) (ho : ∀ x ∈ l, Kl x) (hq : q.length ≤ 500000000) (hcc : c ≤ 1000000) : ∀ (k i : Nat) (s b p : List Int) (n : Nat), i + k = c → BA s b n p → p ++ cat (l.drop i) = q →
  Wt Tryz.f37 [] [] (.iarr .u8 32 (sha q)) (Ad Tryz.f37 0) (dsSum nl c (l.map AV) s b n i)
 | 0, i, s, b, p, n, hk, hs, hpq => by
  have e : p = q := by rw [← hpq, List.drop_of_length_le (by omega)]; simp [cat]
  subst e
  have c1 := pc_hsum hs (by rw [hs.hn]; exact hq)
  generalize sha p = res at *
  refine W.ret [(0, aF), (2, Ans.call true [(2, 0)] [(0, Row.mk (PV.st 73 [B3 8 s, B8 64 b, I6 n]) false)] (B8 32 res))] [] [decide ((i:Int) < (c:Int)) = false, Pt 59 [(0, Row.mk (PV.st 73 [B3 8 s, B8 64 b, I6 n]) false)] [PV.at 0 []] [(0, Row.mk (PV.st 73 [B3 8 s, B8 64 b, I6 n]) false)] (B8 32 res), rr (B8 32 res)] (by kernel_rfl) (ac (decide_eq_false (by omega)) (ac (c1) (ao rfl)))
 | k + 1, i, s, b, p, n, hk, hs, hpq => by
  have hx := bs_ok ho (i := i) (by omega)
  have g := Gp (l := l) (i := i) (by omega)
  rw [JQ (by omega), ← List.append_assoc] at hpq
  generalize l.getD i default = x at *
  obtain ⟨xn, xm, xl⟩ := x
  have hxl := hx.len
  have hxb := hx.bytes
  dsimp only at hxl hxb hpq
  have hlen := congrArg List.length hpq
  rw [List.length_append, List.length_append, ← hs.hn, hxl] at hlen
  obtain ⟨s', b', h1, c1⟩ := JB (nl := xn) hs hxl hxb (by omega)
  have hw := W_sum (nl := nl) hc ho hq hcc k (i + 1) s' b' _ _ (by omega) h1 hpq
  refine W.seg [(0, aT), (2, aV (PV.vec xn (B8 xm xl))), (6, Ans.call true [(2, 0)] [(0, Row.mk (PV.st 73 [B3 8 s', B8 64 b', I6 ↑(n + xm)]) false)] (PV.tup [])), (7, aV (I6 ↑(i + 1)))] [(1, 1), (2, 2)] (dsSum nl c (List.map AV l) s' b' (n + xm) (i + 1)) (todo' := Ad Tryz.f37 0) [decide ((i:Int) < (c:Int)) = true, 0 ≤ (i:Int), (i:Int) < (c:Int), PV.vec (PV.MX (List.getD (List.map AV l) i PV.undef)) (B8 (PV.len (PV.els (List.getD (List.map AV l) i PV.undef))) (PV.nums (PV.els (List.getD (List.map AV l) i PV.undef)))) = PV.vec xn (B8 xm xl), i < c, Pt 58 [(0, Row.mk (PV.st 73 [B3 8 s, B8 64 b, I6 n]) false)] [PV.at 0 [], PV.vec xn (B8 xm xl)] [(0, Row.mk (PV.st 73 [B3 8 s', B8 64 b', I6 ↑(n + xm)]) false)] (PV.tup []), I6 (IntKind.wrap .i64 ((i:Int) + 1)) = I6 ↑(i + 1), rr (PV.at 1 []), rr (PV.at 2 []), rr (PV.vec nl (PV.parr 1 c (Sh.vec 1 (Sh.int .u8)) (List.map AV l))), rr (I6 c), rr (I6 ↑(i + 1)), rr (B8 32 (List.replicate 32 0)), rr (PV.st 73 [B3 8 s', B8 64 b', I6 ↑(n + xm)])] (by kernel_rfl) (ac (decide_eq_true (by omega)) (ob2 (by omega) (ac (by (rw [g]; rfl)) (ac (by omega) (ac (c1) (ac (wj (by omega)) (ac rfl (ac rfl (ac rfl (ac rfl (ac rfl (ac rfl (ao rfl))))))))))))) ?_
  exact hw
theorem Qc {nl : Bool} {l : List (Bool × Nat × List Int)} {c : Nat} (hc : l.length = c) (ho : ∀ x ∈ l, Kl x) (hq : (cat l).length ≤ 500000000) (hcc : c ≤ 1000000) : Pt 37 [] [.vec nl (.parr 1 c bsh (l.map AV))] [] (.iarr .u8 32 (sha (cat l))) := by
 refine pO Tryz.func37 (by kernel_rfl) ?_
 have c1 := O8
 have hw := W_sum (nl := nl) hc ho hq hcc c 0 iv.l z64 [] 0 (by omega) Od (by simp)
 generalize l.map AV = L at *
 generalize sha (cat l) = res at *
 refine W.seg [(1, Ans.call true [] [(1, Row.mk (PV.st 73 [B3 8 [(↑(1779033703 : Nat) : Int), (↑(3144134277 : Nat) : Int), (↑(1013904242 : Nat) : Int), (↑(2773480762 : Nat) : Int), (↑(1359893119 : Nat) : Int), (↑(2600822924 : Nat) : Int), (↑(528734635 : Nat) : Int), (↑(1541459225 : Nat) : Int)], B8 64 (List.replicate 64 0), I6 ↑(0 : Nat)]) false)] (PV.at 1 []))] [(64, 1), (81, 2)] (dsSum nl c L (V8.l iv) z64 0 0) (todo' := Ad Tryz.f37 0) [Pt 57 [] [] [(1, Row.mk (PV.st 73 [B3 8 [(↑(1779033703 : Nat) : Int), (↑(3144134277 : Nat) : Int), (↑(1013904242 : Nat) : Int), (↑(2773480762 : Nat) : Int), (↑(1359893119 : Nat) : Int), (↑(2600822924 : Nat) : Int), (↑(528734635 : Nat) : Int), (↑(1541459225 : Nat) : Int)], B8 64 (List.replicate 64 0), I6 ↑(0 : Nat)]) false)] (PV.at 1 []), rr (PV.at 1 []), rr (PV.at 2 []), rr (PV.vec nl (PV.parr 1 c (Sh.vec 1 (Sh.int .u8)) L)), rr (I6 c), I6 0 = I6 ↑(0 : Nat), rr (B8 32 (List.replicate 32 0)), rr (PV.st 73 [B3 8 [(↑(1779033703 : Nat) : Int), (↑(3144134277 : Nat) : Int), (↑(1013904242 : Nat) : Int), (↑(2773480762 : Nat) : Int), (↑(1359893119 : Nat) : Int), (↑(2600822924 : Nat) : Int), (↑(528734635 : Nat) : Int), (↑(1541459225 : Nat) : Int)], B8 64 (List.replicate 64 0), I6 ↑(0 : Nat)])] (by kernel_rfl) (ac (c1) (ac rfl (ac rfl (ac rfl (ac rfl (ac (cg (by omega)) (ac rfl (ao rfl)))))))) ?_
 exact hw
theorem Jc {nl : Bool} {l : List (Bool × Nat × List Int)} {c : Nat} (hc : l.length = c) (ho : ∀ x ∈ l, Kl x) (hq : (cat l).length ≤ 500000000) (hcc : c ≤ 1000000) : Pt 22 [] [.vec nl (.parr 1 c bsh (l.map AV))] [] (.iarr .u8 32 (HV (cat l))) := by
 refine pO Tryz.func22 (by kernel_rfl) ?_
 have c1 := Qc (nl := nl) hc ho hq hcc
 have hsl := Dp (cat l)
 have e : cat [(false, 32, sha (cat l))] = sha (cat l) := by unfold cat; simp
 have c2 := Qc (nl := false) (l := [(false, 32, sha (cat l))]) (c := 1) rfl (by intro x hx; simp at hx; subst hx; exact ⟨hsl, HZ _⟩) (by rw [e]; omega) (by omega)
 rw [e] at c2
 unfold HV
 generalize sha (cat l) = x at *
 generalize sha x = res at *
 generalize l.map AV = L at *
 refine W.ret [(2, aK (B8 32 x)), (6, Ans.frz [112]), (7, Ans.calla true [] [] [PV.vec false (PV.parr 1 1 bsh (List.map AV [(false, 32, x)]))] [] (B8 32 res))] [] [Pt 37 [] [PV.vec nl (PV.parr 1 c (Sh.vec 1 (Sh.int .u8)) L)] [] (B8 32 x), (0 : Int) ≤ 0, 0 ≤ (↑(32 : Nat) : Int), (↑(32 : Nat) : Int) ≤ (↑(32 : Nat) : Int), 32 ≤ 32, 1 ≤ 1, rr ([] : List (Nat × Row)), ([PV.vec false (PV.parr 1 1 (Sh.vec 1 (Sh.int .u8)) [PV.vec false (B8 32 (List.take 32 x))])] : List PV) = [PV.vec false (PV.parr 1 1 (Sh.vec 1 (Sh.int .u8)) [PV.vec false (B8 32 x)])], Pt 37 [] [PV.vec false (PV.parr 1 1 (Sh.vec 1 (Sh.int .u8)) [PV.vec false (B8 32 x)])] [] (B8 32 res), rr (B8 32 res)] (by kernel_rfl) (ac (c1) (ob4 (by omega) (ac (by omega) (ac rfl (ac (by rw [List.take_of_length_le (show List.length x ≤ 32 by omega)]) (ac (c2) (ao rfl)))))))
end Go.Proofs
namespace Go.Proofs
open Go Go.Pe Go.Pm
set_option maxRecDepth 100000
set_option linter.unusedVariables false
theorem O5 {nl : Bool} {n : Nat} (h0 : 0 < n) (hn : n ≤ 1000000000) {l : Liz} (hl : l.length = n) : Pt 24 [] [.vec false (.iarr .u8 n l)] [(1, BV n l)] (.ref 1 [] 1 0 n) := by
 refine pO Tryz.func24 (by kernel_rfl) ?_
 refine W.ret [(5, Ans.vu (PV.ref 144 [] 1 0 n) [(112, none), (144, some (Row.mk (B8 n l) false))])] [(144, 1)] [([(112, none), (144, some (Row.mk (B8 (0 + n) l) false))] : List (Nat × Option Row)) = [(112, none), (144, some (Row.mk (B8 n l) false))], PV.ref 144 [] 1 0 (0 + n) = PV.ref 144 [] 1 0 n, rr (0), (0 + n) * 1 ≤ 140737488355328, 0 + n ≤ 9223372036854775807, rr (B8 n l), rr (PV.ref 1 [] 1 0 n)] (by kernel_rfl) (ac (by simp only [Nat.zero_add]) (ac (by simp only [Nat.zero_add]) (ac rfl (ob2 (by omega) (ac rfl (ao rfl))))))
def wrN : Row := ⟨.st 1 [.vec true (.iarr .u8 0 [])], false⟩
def wrR (i n : Nat) : Row := ⟨.st 1 [.ref i [] 1 0 n], false⟩
theorem Qk : Pt 38 [] [] [(1, wrN)] (.at 1 []) := by
 refine pO Tryz.func38 (by kernel_rfl) ?_
 refine W.ret [] [(96, 1)] [rr (PV.st 1 [PV.vec true (B8 0 [])]), rr (PV.at 1 [])] (by kernel_rfl) (ac rfl (ao rfl))
theorem Ps {x w : Nat} (hx : x < 18446744073709551616) (hw : w ≤ 8) (hw0 : 0 < w) : Pt 39 [(0, wrN)] [.at 0 [], .int .u64 x, .int .i64 w] [(0, wrR 2 w), (2, BV w (le x w))] (.tup []) := by
 refine pO Tryz.func39 (by kernel_rfl) ?_
 have c1 := Hw hx hw
 have hl := Cc x w
 generalize le x w = l at *
 refine W.ret [(7, Ans.call true [] [(1, Row.mk (B8 w l) false)] (PV.ref 1 [] 1 0 w)), (8, Ans.ups [(192, some (Row.mk (B8 w l) false))])] [(0, 0), (192, 2)] [Pt 60 [] [U6 x, I6 w] [(1, Row.mk (B8 w l) false)] (PV.ref 1 [] 1 0 w), ([(192, some (Row.mk (B8 w (List.take w l)) false))] : List (Nat × Option Row)) = [(192, some (Row.mk (B8 w l) false))], 0 + w ≤ w, 0 < w, w * 1 ≤ 140737488355328, w ≤ 9223372036854775807, rr (PV.st 1 [PV.ref 2 [] 1 0 w]), rr (B8 w l), rr (PV.tup [])] (by kernel_rfl) (ac (c1) (ac (by rw [List.take_of_length_le (show List.length l ≤ w by omega)]) (ob4 (by omega) (ac rfl (ac rfl (ao rfl))))))
theorem Jf {x w n : Nat} {l : Liz} (hx : x < 18446744073709551616) (hw : w ≤ 8) (hl : l.length = n) (hn : n ≤ 1000000000) : Pt 39 [(0, wrR 1 n), (1, BV n l)] [.at 0 [], .int .u64 x, .int .i64 w] [(0, wrR 2 (n + w)), (2, BV (n + w) (l ++ le x w))] (.tup []) := by
 refine pO Tryz.func39 (by kernel_rfl) ?_
 have c1 := Hw hx hw
 have hl2 := Cc x w
 generalize le x w = m at *
 refine W.ret [(7, Ans.call true [] [(1, Row.mk (B8 w m) false)] (PV.ref 1 [] 1 0 w)), (8, Ans.ups [(1, none), (192, some (Row.mk (B8 (n + w) (l ++ m)) false))])] [(0, 0), (1, 1), (192, 2)] [Pt 60 [] [U6 x, I6 w] [(1, Row.mk (B8 w m) false)] (PV.ref 1 [] 1 0 w), ([(1, none), (192, some (Row.mk (B8 (n + w) (List.take n l ++ List.take w m)) false))] : List (Nat × Option Row)) = [(1, none), (192, some (Row.mk (B8 (n + w) (l ++ m)) false))], 0 + w ≤ w, 0 + n = n, (n + w) * 1 ≤ 140737488355328, n + w ≤ 9223372036854775807, rr (PV.st 1 [PV.ref 2 [] 1 0 (n + w)]), rr (B8 (n + w) (l ++ m)), rr (PV.tup [])] (by kernel_rfl) (ac (c1) (ac (by rw [List.take_of_length_le (show List.length l ≤ n by omega), List.take_of_length_le (show List.length m ≤ w by omega)]) (ac (by omega) (ac (by omega) (ob2 (by omega) (ac rfl (ac rfl (ao rfl))))))))
def dsPut0 (nl : Bool) (c : Nat) (L : List PV) (n : Nat) (b : List Int) : DS := ⟨[(0, .at 0 []), (6, .vec nl (.parr 1 c bsh L)), (7, .int .i64 c), (8, .int .i64 0)], [(0, wrR 1 n), (1, BV n b)]⟩
def dsPut (nl : Bool) (c : Nat) (L : List PV) (n : Nat) (b : List Int) (i : Nat) : DS := ⟨[(0, .at 0 []), (6, .vec nl (.parr 1 c bsh L)), (7, .int .i64 c), (8, .int .i64 i)], [(0, wrR 2 n), (2, BV n b)]⟩
theorem W_put {nl : Bool} {l : List (Bool × Nat × List Int)} {c : Nat} {q : Liz} (hc : l.length = c) (ho : ∀ x ∈ l, Kl x) (hq : q.length ≤ 1000000000) (hcc : c ≤ 1000000) : ∀ (k i n : Nat) (b : List Int), i + k = c → b.length = n → b ++ cat (l.drop i) = q →
  Wt Tryz.f40 [0, 1] [(0, wrR 2 q.length), (2, BV q.length q)] (.tup []) (Ad Tryz.f40 0) (dsPut nl c (l.map AV) n b i)
 | 0, i, n, b, hk, hb, hpq => by
  have e : b = q := by rw [← hpq, List.drop_of_length_le (by omega)]; simp [cat]
  subst e
  subst hb
  refine W.ret [(0, aF)] [(0, 0), (1, 1), (2, 2)] [decide ((i:Int) < (c:Int)) = false, rr (PV.st 1 [PV.ref 2 [] 1 0 (List.length b)]), rr (B8 (List.length b) b), rr (PV.tup [])] (by kernel_rfl) (ac (decide_eq_false (by omega)) (ac rfl (ac rfl (ao rfl))))
 | k + 1, i, n, b, hk, hb, hpq => by
  have hx := bs_ok ho (i := i) (by omega)
  have g := Gp (l := l) (i := i) (by omega)
  rw [JQ (by omega), ← List.append_assoc] at hpq
  generalize l.getD i default = x at *
  obtain ⟨xn, xm, xl⟩ := x
  have hxl := hx.len
  dsimp only at hxl hpq
  have hlen := congrArg List.length hpq
  rw [List.length_append, List.length_append, hb, hxl] at hlen
  have hw := W_put (nl := nl) hc ho hq hcc k (i + 1) (n + xm) (b ++ xl) (by omega) (by rw [List.length_append, hb, hxl]) hpq
  generalize l.map AV = L at *
  generalize q.length = ql at *
  refine W.seg [(0, aT), (2, aV (PV.vec xn (B8 xm xl))), (10, Ans.ups [(2, none), (224, some (Row.mk (B8 (n + xm) (b ++ xl)) false))]), (14, aV (I6 ↑(i + 1)))] [(0, 0), (1, 1), (224, 2)] (dsPut nl c L (n + xm) (b ++ xl) (i + 1)) (todo' := Ad Tryz.f40 0) [decide ((i:Int) < (c:Int)) = true, 0 ≤ (i:Int), (i:Int) < (c:Int), PV.vec (PV.MX (List.getD L i PV.undef)) (B8 (PV.len (PV.els (List.getD L i PV.undef))) (PV.nums (PV.els (List.getD L i PV.undef)))) = PV.vec xn (B8 xm xl), i < c, ([(2, none), (224, some (Row.mk (B8 (n + xm) (List.take n b ++ xl)) false))] : List (Nat × Option Row)) = [(2, none), (224, some (Row.mk (B8 (n + xm) (b ++ xl)) false))], 0 + n = n, (n + xm) * 1 ≤ 140737488355328, n + xm ≤ 9223372036854775807, I6 (IntKind.wrap .i64 ((i:Int) + 1)) = I6 ↑(i + 1), rr (PV.at 0 []), rr (PV.vec nl (PV.parr 1 c (Sh.vec 1 (Sh.int .u8)) L)), rr (I6 c), rr (I6 ↑(i + 1)), rr (PV.st 1 [PV.ref 2 [] 1 0 (n + xm)]), rr (B8 (n + xm) (b ++ xl))] (by kernel_rfl) (ac (decide_eq_true (by omega)) (ob2 (by omega) (ac (by (rw [g]; rfl)) (ac (by omega) (ac (by rw [List.take_of_length_le (show List.length b ≤ n by omega)]) (ac (by omega) (ob2 (by omega) (ac (wj (by omega)) (ac rfl (ac rfl (ac rfl (ac rfl (ac rfl (ao rfl)))))))))))))) ?_
  exact hw
theorem Q6 {nl : Bool} {l : List (Bool × Nat × List Int)} {c n m : Nat} {b q : Liz} (hc : l.length = c) (hc0 : 0 < c) (ho : ∀ x ∈ l, Kl x) (hm : m ≤ 1000000000) (hcc : c ≤ 1000000) (hb : b.length = n) (hq : b ++ cat l = q) (hql : q.length = m) :
  Pt 40 [(0, wrR 1 n), (1, BV n b)] [.at 0 [], .vec nl (.parr 1 c bsh (l.map AV))] [(0, wrR 2 m), (2, BV m q)] (.tup []) := by
 refine pO Tryz.func40 (by kernel_rfl) ?_
 have hx := bs_ok ho (i := 0) (by omega)
 have g := Gp (l := l) (i := 0) (by omega)
 have hpq : b ++ cat (l.drop 0) = q := hq
 rw [JQ (by omega), ← List.append_assoc] at hpq
 generalize l.getD 0 default = x at *
 obtain ⟨xn, xm, xl⟩ := x
 have hxl := hx.len
 dsimp only at hxl hpq
 have hlen := congrArg List.length hpq
 rw [List.length_append, List.length_append, hb, hxl] at hlen
 have hw := W_put (nl := nl) hc ho (by rw [hql]; exact hm) hcc (c - 1) 1 (n + xm) (b ++ xl) (by omega) (by rw [List.length_append, hb, hxl]) hpq
 rw [hql] at hw hlen
 generalize l.map AV = L at *
 refine W.seg [] [(0, 0), (1, 1)] (dsPut0 nl c L n b) (todo' := Ad Tryz.f40 0) [rr (PV.at 0 []), rr (PV.vec nl (PV.parr 1 c (Sh.vec 1 (Sh.int .u8)) L)), rr (I6 c), rr (I6 0), rr (PV.st 1 [PV.ref 1 [] 1 0 n]), rr (B8 n b)] (by kernel_rfl) (ac rfl (ac rfl (ac rfl (ac rfl (ac rfl (ao rfl)))))) ?_
 refine W.seg [(0, aT), (2, aV (PV.vec xn (B8 xm xl))), (10, Ans.ups [(1, none), (224, some (Row.mk (B8 (n + xm) (b ++ xl)) false))]), (14, aV (I6 1))] [(0, 0), (1, 1), (224, 2)] (dsPut nl c L (n + xm) (b ++ xl) 1) (todo' := Ad Tryz.f40 0) [decide (0 < (c:Int)) = true, (0 : Int) ≤ 0, 0 < (c:Int), PV.vec (PV.MX (List.getD L 0 PV.undef)) (B8 (PV.len (PV.els (List.getD L 0 PV.undef))) (PV.nums (PV.els (List.getD L 0 PV.undef)))) = PV.vec xn (B8 xm xl), 0 < c, ([(1, none), (224, some (Row.mk (B8 (n + xm) (List.take n b ++ xl)) false))] : List (Nat × Option Row)) = [(1, none), (224, some (Row.mk (B8 (n + xm) (b ++ xl)) false))], 0 + n = n, (n + xm) * 1 ≤ 140737488355328, n + xm ≤ 9223372036854775807, I6 (IntKind.wrap .i64 ((0 : Int) + (1 : Int))) = I6 1, rr (PV.at 0 []), rr (PV.vec nl (PV.parr 1 c (Sh.vec 1 (Sh.int .u8)) L)), rr (I6 c), I6 1 = I6 ↑(1 : Nat), rr (PV.st 1 [PV.ref 2 [] 1 0 (n + xm)]), rr (B8 (n + xm) (b ++ xl))] (by kernel_rfl) (ac (decide_eq_true (by omega)) (ob2 (by omega) (ac (by (rw [g]; rfl)) (ac (by omega) (ac (by rw [List.take_of_length_le (show List.length b ≤ n by omega)]) (ac (by omega) (ob2 (by omega) (ac (wj (by omega)) (ac rfl (ac rfl (ac rfl (ac (cg (by omega)) (ac rfl (ao rfl)))))))))))))) ?_
 exact hw
theorem NR {n : Nat} {l : Liz} (h0 : 0 < n) (hn : n ≤ 1000000000) (hl : l.length = n) : Pt 41 [(0, wrR 1 n), (1, BV n l)] [.at 0 []] [(0, wrR 1 n), (1, BV n l), (2, BV n l)] (.ref 2 [] 1 0 n) := by
 refine pO Tryz.func41 (by kernel_rfl) ?_
 have c1 := O5 (nl := false) h0 hn hl
 refine W.ret [(5, Ans.calla true [] [] [PV.vec false (B8 n l)] [(1, Row.mk (B8 n l) false)] (PV.ref 1 [] 1 0 n))] [(0, 0), (1, 1), (145, 2)] [0 + n ≤ n, rr ([] : List (Nat × Row)), ([PV.vec false (B8 n (List.take n l))] : List PV) = [PV.vec false (B8 n l)], Pt 24 [] [PV.vec false (B8 n l)] [(1, Row.mk (B8 n l) false)] (PV.ref 1 [] 1 0 n), rr (PV.st 1 [PV.ref 1 [] 1 0 n]), rr (B8 n l), rr (B8 n l), rr (PV.ref 2 [] 1 0 n)] (by kernel_rfl) (ac (by omega) (ac rfl (ac (by rw [List.take_of_length_le (show List.length l ≤ n by omega)]) (ac (c1) (ac rfl (ac rfl (ac rfl (ao rfl))))))))
end Go.Proofs
namespace Go.Proofs
open Go Go.Pe Go.Pm
set_option maxRecDepth 100000
set_option linter.unusedVariables false
theorem Ju (l : List Int) : (strOf l).size = l.length := by show (l.map _).length = _; rw [List.length_map]
end Go.Proofs
namespace Go.Pm
def lv (l : List Int) : Nat → Nat
 | 0 => 0
 | k + 1 => lv l k + at0 l k * 2 ^ (8 * k)
theorem pow8 (k : Nat) : 2 ^ (8 * (k + 1)) = 256 * 2 ^ (8 * k) := by rw [Nat.mul_add, Nat.pow_add, Nat.mul_comm]
theorem Oj {l : List Int} (h : Bytes l) : ∀ k, lv l k < 2 ^ (8 * k)
 | 0 => by simp [lv]
 | k + 1 => by
  have h1 := Oj h k
  have h2 := (h.get k).2
  have h3 : at0 l k * 2 ^ (8 * k) ≤ 255 * 2 ^ (8 * k) := Nat.mul_le_mul_right _ (by omega)
  rw [lv, pow8]
  omega
theorem lv_or {l : List Int} (h : Bytes l) (k : Nat) : lv l k ||| at0 l k * 2 ^ (8 * k) = lv l (k + 1) := by
 have h1 := Oj h k
 rw [lv, Nat.or_comm, Nat.mul_comm (at0 l k), ← Nat.two_pow_add_eq_or_of_lt h1, Nat.add_comm]
theorem Qn {l : List Int} {a i : Nat} (h : i < a) : at0 (l.take a) i = at0 l i := by
 unfold at0
 rw [List.getD_eq_getElem?_getD, List.getElem?_take_of_lt h, List.getD_eq_getElem?_getD]
theorem Oy {l : List Int} {a : Nat} : ∀ {k : Nat}, k ≤ a → lv (l.take a) k = lv l k
 | 0, _ => rfl
 | k + 1, h => by rw [lv, lv, Oy (by omega), Qn (by omega)]
end Go.Pm
namespace Go.Proofs
open Go Go.Pe Go.Pm
set_option maxRecDepth 100000
set_option linter.unusedVariables false
def N7 (nl : Bool) (n c : Nat) (l : List Int) (x i : Nat) : DS := ⟨[(0, .vec nl (.iarr .u8 n l)), (3, .int .u64 x), (7, .int .i64 c), (8, .int .i64 i)], []⟩
theorem Qz {nl : Bool} {n c : Nat} {l : Liz} (hl : l.length = n) (hb : Bytes l) (hc : c ≤ 8) (hcn : c ≤ n) : ∀ (k i x : Nat), i + k = c → x = lv l i →
  Wt Tryz.f72 [] [] (.int .u64 ((lv l c : Nat) : Int)) (Ad Tryz.f72 0) (N7 nl n c l x i)
 | 0, i, x, hk, hx => by
  have hi : i = c := by omega
  subst hi
  rw [← hx]
  refine W.ret [(0, aF)] [] [decide ((i:Int) < (i:Int)) = false, rr (U6 x)] (by kernel_rfl) (ac (decide_eq_false (by omega)) (ao rfl))
 | k + 1, i, x, hk, hx => by
  obtain ⟨e, h1⟩ := hb.get i
  have ho := lv_or hb i
  have hlt := Oj hb (i + 1)
  have hle : 2 ^ (8 * (i + 1)) ≤ 2 ^ 64 := Nat.pow_le_pow_right (by omega) (by omega)
  have hxl : lv l (i + 1) < 18446744073709551616 := Nat.lt_of_lt_of_le hlt hle
  have hstep : lv l (i + 1) = lv l i + at0 l i * 2 ^ (8 * i) := rfl
  rw [← hx] at ho hstep
  have hmod : at0 l i * 2 ^ (8 * i) % 18446744073709551616 = at0 l i * 2 ^ (8 * i) := Nat.mod_eq_of_lt (by omega)
  have hw := Qz (nl := nl) hl hb hc hcn k (i + 1) (lv l (i + 1)) (by omega) rfl
  have hxlt : x < 18446744073709551616 := by omega
  have hmodl : at0 l i * 2 ^ (8 * i) % 18446744073709551616 < 18446744073709551616 := Nat.mod_lt _ (by decide)
  have hor : ((x ||| at0 l i * 2 ^ (8 * i) % 18446744073709551616 : Nat) : Int) = ((lv l (i + 1) : Nat) : Int) := by rw [hmod, ho]
  generalize lv l (i + 1) = y at *
  generalize lv l c = z at *
  generalize at0 l i = b at *
  refine W.seg [(0, aT), (7, aV (U8 b)), (8, aV (U6 b)), (10, aV (I6 ↑(8 * i))), (11, aV (U6 ↑(b * 2 ^ (8 * i) % 18446744073709551616))), (12, aV (U6 ↑(x ||| b * 2 ^ (8 * i) % 18446744073709551616))), (13, aV (U6 y)), (14, aV (I6 ↑(i + 1)))] [] (N7 nl n c l y (i + 1)) (todo' := Ad Tryz.f72 0) [decide ((i:Int) < (c:Int)) = true, 0 ≤ (i:Int), (i:Int) < (n:Int), U8 (List.getD l i (0 : Int)) = U8 b, i < n, U6 (IntKind.wrap .u64 (b:Int)) = U6 b, I6 (IntKind.wrap .i64 (8 * (i:Int))) = I6 ↑(8 * i), U6 (IntKind.wrap .u64 ((b:Int) * (2 : Int) ^ min (Int.toNat (↑(8 * i) : Int)) 64)) = U6 ↑(b * 2 ^ (8 * i) % 18446744073709551616), 0 ≤ (↑(8 * i) : Int), U6 (bits BinOp.or .u64 (x:Int) (↑(b * 2 ^ (8 * i) % 18446744073709551616) : Int)) = U6 ↑(x ||| b * 2 ^ (8 * i) % 18446744073709551616), U6 ↑(x ||| b * 2 ^ (8 * i) % 18446744073709551616) = U6 y, I6 (IntKind.wrap .i64 ((i:Int) + 1)) = I6 ↑(i + 1), rr (PV.vec nl (B8 n l)), rr (U6 y), rr (I6 c), rr (I6 ↑(i + 1))] (by kernel_rfl) (ac (decide_eq_true (by omega)) (ob2 (by omega) (ac (cg (e)) (ac (by omega) (ac (cg (BC rfl (by omega) (by omega))) (ac (wj (by omega)) (ac (cg (shl_u64 rfl rfl)) (ac (by omega) (ac (cg (Ow rfl rfl (by omega) (by omega))) (ac (cg (hor)) (ac (wj (by omega)) (ac rfl (ac rfl (ac rfl (ao rfl))))))))))))))) ?_
  exact hw
theorem OW {nl : Bool} {n : Nat} {l : Liz} (hl : l.length = n) (hb : Bytes l) : Pt 72 [] [.vec nl (.iarr .u8 n l)] [] (.int .u64 ((lv l (min n 8) : Nat) : Int)) := by
 refine pO Tryz.func72 (by kernel_rfl) ?_
 have hm : mn (n : Int) 8 = ((min n 8 : Nat) : Int) := by unfold mn; split <;> omega
 have hw := Qz (nl := nl) hl hb (c := min n 8) (by omega) (by omega) (min n 8) 0 0 (by omega) rfl
 generalize lv l (min n 8) = z at *
 generalize min n 8 = c at *
 refine W.seg [(4, aV (I6 c))] [] (N7 nl n c l 0 0) (todo' := Ad Tryz.f72 0) [I6 (mn (n:Int) (8 : Int)) = I6 c, rr (PV.vec nl (B8 n l)), U6 0 = U6 ↑(0 : Nat), rr (I6 c), I6 0 = I6 ↑(0 : Nat)] (by kernel_rfl) (ac (cg (hm)) (ac rfl (ac (cg (by omega)) (ac rfl (ao (cg (by omega))))))) ?_
 exact hw
end Go.Proofs
namespace Go.Pm
structure Rd where
 s : List Int
 e : Nat
def Rd.tk (r : Rd) (n : Nat) : Rd := if r.e = 0 then (if n ≤ r.s.length then ⟨r.s.drop n, 0⟩ else ⟨r.s, 2⟩) else r
def Rd.nv (r : Rd) (n : Nat) : Nat := if r.e = 0 ∧ n ≤ r.s.length then lv r.s n else 0
def wdt (x : Nat) : Nat := if x = 253 then 2 else if x = 254 then 4 else if x = 255 then 8 else 0
def lst (x : Nat) : Nat := if x = 253 then 253 else if x = 254 then 65536 else if x = 255 then 4294967296 else 0
def Gz (s : List Int) : Nat := if wdt (at0 s 0) = 0 then at0 s 0 else lv (s.drop 1) (wdt (at0 s 0))
def Rd.ve (r : Rd) (m : Nat) : Nat := if r.e = 0 then (if r.s.length < 1 + wdt (at0 r.s 0) then 2 else if Gz r.s < lst (at0 r.s 0) then 3 else if m < Gz r.s then 4 else 0) else r.e
def Rd.var (r : Rd) (m : Nat) : Rd := if r.ve m = 0 then ⟨r.s.drop (1 + wdt (at0 r.s 0)), 0⟩ else ⟨r.s, r.ve m⟩
def Rd.vn (r : Rd) (m : Nat) : Nat := if r.ve m = 0 then Gz r.s else 0
def Rd.we (r : Rd) (m : Nat) : Nat := if r.ve m = 0 then (if r.vn m ≤ (r.var m).s.length then 0 else 2) else r.ve m
def Rd.wd (r : Rd) (m : Nat) : Rd := if r.we m = 0 then ⟨(r.var m).s.drop (r.vn m), 0⟩ else ⟨r.s, r.we m⟩
def Rd.wv (r : Rd) (m : Nat) : List Int := if r.we m = 0 then (r.var m).s.take (r.vn m) else []
structure Rd.In (r : Rd) (bs : List Int) (N : Nat) : Prop where
 len : bs.length = N
 le : r.s.length ≤ N
 eq : r.s = bs.drop (N - r.s.length)
 by' : Bytes bs
theorem drop_in {bs s : List Int} {N n : Nat} (h : s = bs.drop (N - s.length)) (hle : s.length ≤ N) (hn : n ≤ s.length) : s.drop n = bs.drop (N - (s.drop n).length) := by
 rw [List.length_drop]
 conv => lhs; rw [h]
 rw [List.drop_drop]
 congr 1
 omega
theorem Rd.In.drop {r : Rd} {bs : List Int} {N n e : Nat} (h : r.In bs N) (hn : n ≤ r.s.length) : (Rd.mk (r.s.drop n) e).In bs N :=
 ⟨h.len, by simp only [List.length_drop]; have := h.le; omega, drop_in h.eq h.le hn, h.by'⟩
theorem Rd.In.err {r : Rd} {bs : List Int} {N e : Nat} (h : r.In bs N) : (Rd.mk r.s e).In bs N := ⟨h.len, h.le, h.eq, h.by'⟩
theorem Rd.In.tk {r : Rd} {bs : List Int} {N : Nat} (h : r.In bs N) (n : Nat) : (r.tk n).In bs N := by
 unfold Rd.tk
 split
 ·split
  ·rename_i hn; exact h.drop hn
  ·exact h.err
 ·exact h
theorem Rd.In.bytes {r : Rd} {bs : List Int} {N : Nat} (h : r.In bs N) : Bytes r.s := by rw [h.eq]; exact h.by'.drop _
theorem Rd.Qq {r : Rd} {m : Nat} (h : r.ve m = 0) : 1 + wdt (at0 r.s 0) ≤ r.s.length := by
 unfold Rd.ve at h
 split at h
 ·split at h
  ·cases h
  ·omega
 ·rename_i hne; exact absurd h hne
theorem Rd.In.var {r : Rd} {bs : List Int} {N : Nat} (h : r.In bs N) (m : Nat) : (r.var m).In bs N := by
 unfold Rd.var
 split
 ·rename_i hv; exact h.drop (Rd.Qq hv)
 ·exact h.err
theorem Rd.In.wd {r : Rd} {bs : List Int} {N : Nat} (h : r.In bs N) (m : Nat) : (r.wd m).In bs N := by
 unfold Rd.wd
 split
 ·rename_i hw
  refine (h.var m).drop ?_
  unfold Rd.we at hw
  split at hw
  ·split at hw
   ·assumption
   ·cases hw
  ·rename_i hne; exact absurd hw hne
 ·exact h.err
theorem wdt_le (x : Nat) : wdt x ≤ 8 := by
 unfold wdt
 split; · omega
 split; · omega
 split <;> omega
theorem Oh {l : List Int} (h : Bytes l) (i : Nat) : at0 l i < 256 := by
 unfold at0
 rw [List.getD_eq_getElem?_getD]
 cases hx : l[i]? with
 | none => simp
 | some x =>
  have := h x (List.mem_of_getElem? hx)
  simp only [Option.getD_some]
  omega
theorem LA {s : List Int} (h : Bytes s) : Gz s < 18446744073709551616 := by
 unfold Gz
 have h1 := Oh h 0
 have h2 := Oj (h.drop 1) (wdt (at0 s 0))
 have h3 := wdt_le (at0 s 0)
 split
 ·omega
 ·exact Nat.lt_of_lt_of_le h2 (Nat.le_trans (Nat.pow_le_pow_right (by omega) (show 8 * wdt (at0 s 0) ≤ 64 by omega)) (by decide))
theorem Rd.vn_le (r : Rd) (m : Nat) : r.vn m ≤ m := by
 unfold Rd.vn
 split
 ·rename_i h
  unfold Rd.ve at h
  split at h
  ·split at h
   ·cases h
   ·split at h
    ·cases h
    ·split at h
     ·cases h
     ·omega
  ·rename_i hne; exact absurd h hne
 ·exact Nat.zero_le _
structure OutM where
 v : Nat
 nl : Bool
 b : List Int
def IQ (r : Rd) : Rd := (r.tk 8).wd 64
def LW (r : Rd) : OutM := ⟨r.nv 8, if ((r.tk 8).we 64) = 0 then false else true, (r.tk 8).wv 64⟩
def EL : Nat → Rd → Rd
 | 0, r => r
 | n + 1, r => EL n (IQ r)
def Iq : Nat → Rd → List OutM
 | 0, _ => []
 | n + 1, r => LW r :: Iq n (IQ r)
def DW (b : List Int) : Rd := (Rd.mk b 0).tk 1
def IP (b : List Int) : Rd := (DW b).tk 8
def IM (b : List Int) : Rd := (IP b).var 8
def txN (b : List Int) : Nat := (IP b).vn 8
def txR4 (b : List Int) : Rd := EL (txN b) (IM b)
def I5 (b : List Int) : Prop := b.length = 64 ∨ ((DW b).e = 0 ∧ (Rd.mk b 0).nv 1 ≠ 1)
instance (b : List Int) : Decidable (I5 b) := by unfold I5; infer_instance
def txE (b : List Int) : Nat := if I5 b then 3 else if (txR4 b).e = 0 then (if (txR4 b).s = [] then 0 else 3) else (txR4 b).e
def G6 (b : List Int) : Nat := (DW b).nv 8
def L8 (b : List Int) : List OutM := Iq (txN b) (IM b)
end Go.Pm
namespace Go.Proofs
open Go Go.Pe Go.Pm
set_option maxRecDepth 100000
set_option linter.unusedVariables false
theorem FJ {nl : Bool} {n : Nat} (hn : n ≤ 1000000000) {l : Liz} (hl : l.length = n) (hnl : nl = true → n = 0) : Pt 24 [] [.vec nl (.iarr .u8 n l)] [] (.vec nl (.iarr .u8 n l)) := by
 refine pO Tryz.func24 (by kernel_rfl) ?_
 have hT : l.take n = l := List.take_of_length_le (by omega)
 cases nl with
 | true =>
  have h0 := hnl rfl
  subst h0
  have : l = [] := List.eq_nil_of_length_eq_zero hl
  subst this
  refine W.ret [] [] [rr (PV.vec true (B8 0 []))] (by kernel_rfl) (ao rfl)
 | false => refine W.ret [(5, Ans.vu (PV.ref 144 [] 1 0 n) [(112, none), (144, some (Row.mk (B8 n l) false))])] [] [([(112, none), (144, some (Row.mk (B8 (0 + n) l) false))] : List (Nat × Option Row)) = [(112, none), (144, some (Row.mk (B8 n l) false))], PV.ref 144 [] 1 0 (0 + n) = PV.ref 144 [] 1 0 n, rr (0), (0 + n) * 1 ≤ 140737488355328, 0 + n ≤ 9223372036854775807, 0 + n ≤ n, PV.vec false (B8 n (List.take n l)) = PV.vec false (B8 n l)] (by kernel_rfl) (ac (by simp only [Nat.zero_add]) (ac (by simp only [Nat.zero_add]) (ac rfl (ac (by omega) (ac (by omega) (ac (by omega) (ao (by (simp; omega)))))))))
def rdq (nl : Bool) (N : Nat) (bs : List Int) (a e : Nat) : Row := ⟨.st 3 [.vec nl (.iarr .u8 N bs), .int .i64 a, .int .i64 e], false⟩
theorem pc_rdOf {nl : Bool} {n : Nat} (hn : n ≤ 1000000) {l : Liz} (hl : l.length = n) (hnl : nl = true → n = 0) : Pt 49 [] [.vec nl (.iarr .u8 n l)] [(1, rdq nl n l 0 0)] (.at 1 []) := by
 refine pO Tryz.func49 (by kernel_rfl) ?_
 have c1 := FJ (by omega) hl hnl
 unfold rdq
 refine W.ret [(2, Ans.call false [] [] (PV.vec nl (B8 n l)))] [(128, 1)] [Pt 24 [] [PV.vec nl (B8 n l)] [] (PV.vec nl (B8 n l)), PV.st 3 [PV.vec nl (B8 n l), I6 0, I6 0] = PV.st 3 [PV.vec nl (B8 n l), I6 ↑(0 : Nat), I6 ↑(0 : Nat)], rr (PV.at 1 [])] (by kernel_rfl) (ac (c1) (ac rfl (ao rfl)))
theorem Ca {nl : Bool} {N : Nat} {bs : Liz} {a e a' e' : Nat} (hl : bs.length = N) (ha : a ≤ 1000000) (ha' : a' ≤ 1000000) (he : e ≤ 100) (he' : e' ≤ 100) : Pt 74 [(0, rdq nl N bs a e)] [.at 0 [], .int .i64 a', .int .i64 e'] [(0, rdq nl N bs a' (if e = 0 then e' else e))] (.tup []) := by
 refine pO Tryz.func74 (by kernel_rfl) ?_
 unfold rdq
 by_cases h : e = 0
 ·rw [if_pos h]
  subst h
  refine W.ret [(3, aV (I6 0))] [(0, 0)] [I6 ↑(0 : Nat) = I6 0, rr (PV.st 3 [PV.vec nl (B8 N bs), I6 a', I6 e']), rr (PV.tup [])] (by kernel_rfl) (ac (cg (by omega)) (ac rfl (ao rfl)))
 ·rw [if_neg h]
  have h1 : ¬ ((e : Int) = 0) := by omega
  refine W.ret [(4, aF)] [(0, 0)] [((e:Int) == 0) = false, rr (PV.st 3 [PV.vec nl (B8 N bs), I6 a', I6 e]), rr (PV.tup [])] (by kernel_rfl) (ac (decide_eq_false (by omega)) (ac rfl (ao rfl)))
def Mw : PV := .vec true (.iarr .u8 0 [])
theorem Jr {nl : Bool} {N : Nat} {bs : Liz} {a e w : Nat} (hl : bs.length = N) (hw : w ≤ 1000000) (he : e ≤ 100) (h0 : e ≠ 0) : Pt 73 [(0, rdq nl N bs a e)] [.at 0 [], .int .i64 w] [(0, rdq nl N bs a e)] Mw := by
 refine pO Tryz.func73 (by kernel_rfl) ?_
 unfold rdq Mw
 have h1 : ¬ ((e : Int) = 0) := by omega
 have h2 : mx (w : Int) 0 = (w : Int) := by unfold mx; split <;> omega
 refine W.ret [(2, aV (I6 w)), (8, aT)] [(0, 0)] [I6 (mx (w:Int) (0 : Int)) = I6 w, ((e:Int) != 0) = true, rr (PV.st 3 [PV.vec nl (B8 N bs), I6 a, I6 e]), rr (PV.vec true (B8 0 []))] (by kernel_rfl) (ac (cg (h2)) (ac (bne_iff_ne.2 (by omega)) (ac rfl (ao rfl))))
theorem JZ {nl : Bool} {N : Nat} {bs : Liz} {a w : Nat} (hl : bs.length = N) (hN : N ≤ 1000000) (hw : w ≤ 1000000) (ha : a ≤ N) (h0 : N < a + w) : Pt 73 [(0, rdq nl N bs a 0)] [.at 0 [], .int .i64 w] [(0, rdq nl N bs a 2)] Mw := by
 refine pO Tryz.func73 (by kernel_rfl) ?_
 have c1 := Ca (nl := nl) (e := 0) (a := a) (a' := a) (e' := 2) hl (by omega) (by omega) (by omega) (by omega)
 rw [if_pos rfl] at c1
 unfold rdq Mw at *
 have h2 : mx (w : Int) 0 = (w : Int) := by unfold mx; split <;> omega
 refine W.ret [(2, aV (I6 w)), (7, aV (I6 0)), (19, aV (I6 ((N:Int) - (a:Int)))), (20, aT), (26, Ans.call false [(0, 0)] [(0, Row.mk (PV.st 3 [PV.vec nl (B8 N bs), I6 a, I6 ↑(2 : Nat)]) false)] (PV.tup []))] [(0, 0)] [I6 (mx (w:Int) (0 : Int)) = I6 w, I6 ↑(0 : Nat) = I6 0, I6 (IntKind.wrap .i64 ((N:Int) - (a:Int))) = I6 ((N:Int) - (a:Int)), decide ((w:Int) > (N:Int) - (a:Int)) = true, Pt 74 [(0, Row.mk (PV.st 3 [PV.vec nl (B8 N bs), I6 a, I6 ↑(0 : Nat)]) false)] [PV.at 0 [], I6 a, I6 2] [(0, Row.mk (PV.st 3 [PV.vec nl (B8 N bs), I6 a, I6 ↑(2 : Nat)]) false)] (PV.tup []), rr (PV.st 3 [PV.vec nl (B8 N bs), I6 a, I6 ↑(2 : Nat)]), rr (PV.vec true (B8 0 []))] (by kernel_rfl) (ac (cg (h2)) (ac (cg (by omega)) (ac (wj (by omega)) (ac (decide_eq_true (by omega)) (ac (c1) (ac rfl (ao rfl)))))))
theorem JL {nl : Bool} {N : Nat} {bs : Liz} {a w : Nat} (hl : bs.length = N) (hN : N ≤ 1000000) (ha : a + w ≤ N) (hnl : nl = true → N = 0) : Pt 73 [(0, rdq nl N bs a 0)] [.at 0 [], .int .i64 w] [(0, rdq nl N bs (a + w) 0)] (.vec nl (.iarr .u8 w ((bs.drop a).take w))) := by
 refine pO Tryz.func73 (by kernel_rfl) ?_
 have c1 := FJ (nl := nl) (n := w) (l := (bs.drop a).take w) (by omega) (by rw [List.length_take, List.length_drop]; omega) (by intro h; have := hnl h; omega)
 unfold rdq at *
 have h2 : mx (w : Int) 0 = (w : Int) := by unfold mx; split <;> omega
 have h3 : ((a : Int) + (w : Int)) - (w : Int) = (a : Int) := by omega
 rw [← Dh] at c1 ⊢
 refine W.ret [(2, aV (I6 w)), (7, aV (I6 0)), (19, aV (I6 ((N:Int) - (a:Int)))), (20, aF), (26, aV (I6 ↑(a + w))), (39, aV (I6 a)), (44, aV (PV.vec nl (B8 w (List.take w (BZ bs a))))), (45, Ans.call false [] [] (PV.vec nl (B8 w (List.take w (BZ bs a)))))] [(0, 0)] [I6 (mx (w:Int) (0 : Int)) = I6 w, I6 ↑(0 : Nat) = I6 0, I6 (IntKind.wrap .i64 ((N:Int) - (a:Int))) = I6 ((N:Int) - (a:Int)), decide ((w:Int) > (N:Int) - (a:Int)) = false, I6 (IntKind.wrap .i64 ((a:Int) + (w:Int))) = I6 ↑(a + w), I6 (IntKind.wrap .i64 ((↑(a + w) : Int) - (w:Int))) = I6 a, PV.vec nl (B8 (Int.toNat ((↑(a + w) : Int) - (a:Int))) (List.take (Int.toNat ((↑(a + w) : Int) - (a:Int))) (BZ bs a))) = PV.vec nl (B8 w (List.take w (BZ bs a))), 0 ≤ (a:Int), (a:Int) ≤ (↑(a + w) : Int), (↑(a + w) : Int) ≤ (N:Int), Pt 24 [] [PV.vec nl (B8 w (List.take w (BZ bs a)))] [] (PV.vec nl (B8 w (List.take w (BZ bs a)))), rr (PV.st 3 [PV.vec nl (B8 N bs), I6 ↑(a + w), I6 ↑(0 : Nat)]), rr (PV.vec nl (B8 w (List.take w (BZ bs a))))] (by kernel_rfl) (ac (cg (h2)) (ac (cg (by omega)) (ac (wj (by omega)) (ac (decide_eq_false (by omega)) (ac (wj (by omega)) (ac (cg (Dw (by omega) (by omega) (by omega))) (ac (by rw [show Int.toNat ((↑(a + w) : Int) - (a:Int)) = w by omega]) (ob3 (by omega) (ac (c1) (ac rfl (ao rfl)))))))))))
theorem Bc {nl : Bool} {N : Nat} {bs : Liz} {r : Rd} {w : Nat} (hr : r.In bs N) (hN : N ≤ 1000000) (he : r.e ≤ 100) (hw : w ≤ 8) (hw0 : 0 < w) (hnl : nl = true → N = 0) : Pt 50 [(0, rdq nl N bs (N - r.s.length) r.e)] [.at 0 [], .int .i64 w] [(0, rdq nl N bs (N - (r.tk w).s.length) (r.tk w).e)] (.int .u64 ((r.nv w : Nat) : Int)) := by
 refine pO Tryz.func50 (by kernel_rfl) ?_
 have hle := hr.le
 have h2 : mx (w : Int) 0 = (w : Int) := by unfold mx; split <;> omega
 have h3 : mn (w : Int) 8 = (w : Int) := by unfold mn; split <;> omega
 have c0 := OW (nl := true) (n := 0) (l := []) rfl (by intro x hx; cases hx)
 have e0 : lv [] (min 0 8) = 0 := rfl
 rw [e0] at c0
 by_cases h0 : r.e = 0
 ·by_cases hl : w ≤ r.s.length
  ·have e1 : (r.tk w).s.length = r.s.length - w := by unfold Rd.tk; rw [if_pos h0, if_pos hl, List.length_drop]
   have e2 : (r.tk w).e = 0 := by unfold Rd.tk; rw [if_pos h0, if_pos hl]
   have e3 : r.nv w = lv r.s w := by unfold Rd.nv; rw [if_pos ⟨h0, hl⟩]
   have c1 := JL (nl := nl) (a := N - r.s.length) (w := w) hr.len hN (by omega) hnl
   rw [← hr.eq] at c1
   have c2 := OW (nl := nl) (n := w) (l := r.s.take w) (by rw [List.length_take]; omega) (hr.bytes.take w)
   rw [Nat.min_eq_left hw, Oy (Nat.le_refl w)] at c2
   have e4 : N - (r.s.length - w) = N - r.s.length + w := by omega
   rw [e1, e2, e3, h0, e4]
   generalize lv r.s w = v at *
   generalize r.s.take w = tk at *
   generalize N - r.s.length = a at *
   unfold rdq at *
   refine W.ret [(3, aV (I6 w)), (4, aV (I6 w)), (5, Ans.call false [(0, 0)] [(0, Row.mk (PV.st 3 [PV.vec nl (B8 N bs), I6 ↑(a + w), I6 ↑(0 : Nat)]) false)] (PV.vec nl (B8 w tk))), (6, aK (U6 v))] [(0, 0)] [I6 (mx (w:Int) (0 : Int)) = I6 w, I6 (mn (w:Int) (8 : Int)) = I6 w, Pt 73 [(0, Row.mk (PV.st 3 [PV.vec nl (B8 N bs), I6 a, I6 ↑(0 : Nat)]) false)] [PV.at 0 [], I6 w] [(0, Row.mk (PV.st 3 [PV.vec nl (B8 N bs), I6 ↑(a + w), I6 ↑(0 : Nat)]) false)] (PV.vec nl (B8 w tk)), Pt 72 [] [PV.vec nl (B8 w tk)] [] (U6 v), rr (PV.st 3 [PV.vec nl (B8 N bs), I6 ↑(a + w), I6 ↑(0 : Nat)]), rr (U6 v)] (by kernel_rfl) (ac (cg (h2)) (ac (cg (h3)) (ac (c1) (ac (c2) (ac rfl (ao rfl))))))
  ·have e1 : (r.tk w).s = r.s := by unfold Rd.tk; rw [if_pos h0, if_neg hl]
   have e2 : (r.tk w).e = 2 := by unfold Rd.tk; rw [if_pos h0, if_neg hl]
   have e3 : r.nv w = 0 := by unfold Rd.nv; rw [if_neg (fun h => hl h.2)]
   have c1 := JZ (nl := nl) (a := N - r.s.length) (w := w) hr.len hN (by omega) (by omega) (by omega)
   rw [e1, e2, e3, h0]
   generalize N - r.s.length = a at *
   unfold rdq Mw at *
   refine W.ret [(3, aV (I6 w)), (4, aV (I6 w)), (5, Ans.call false [(0, 0)] [(0, Row.mk (PV.st 3 [PV.vec nl (B8 N bs), I6 a, I6 ↑(2 : Nat)]) false)] (PV.vec true (B8 0 []))), (6, aK (U6 ↑(0 : Nat))), (7, aV (U6 0))] [(0, 0)] [I6 (mx (w:Int) (0 : Int)) = I6 w, I6 (mn (w:Int) (8 : Int)) = I6 w, Pt 73 [(0, Row.mk (PV.st 3 [PV.vec nl (B8 N bs), I6 a, I6 ↑(0 : Nat)]) false)] [PV.at 0 [], I6 w] [(0, Row.mk (PV.st 3 [PV.vec nl (B8 N bs), I6 a, I6 ↑(2 : Nat)]) false)] (PV.vec true (B8 0 [])), Pt 72 [] [PV.vec true (B8 0 [])] [] (U6 ↑(0 : Nat)), U6 ↑(0 : Nat) = U6 0, rr (PV.st 3 [PV.vec nl (B8 N bs), I6 a, I6 ↑(2 : Nat)]), U6 0 = U6 ↑(0 : Nat)] (by kernel_rfl) (ac (cg (h2)) (ac (cg (h3)) (ac (c1) (ac (c0) (ac (cg (by omega)) (ac rfl (ao (cg (by omega)))))))))
 ·have e1 : r.tk w = r := by unfold Rd.tk; rw [if_neg h0]
  have e3 : r.nv w = 0 := by unfold Rd.nv; rw [if_neg (fun h => h0 h.1)]
  have c1 := Jr (nl := nl) (a := N - r.s.length) (w := w) hr.len (by omega) he h0
  rw [e1, e3]
  generalize N - r.s.length = a at *
  generalize r.e = e at *
  unfold rdq Mw at *
  refine W.ret [(3, aV (I6 w)), (4, aV (I6 w)), (5, Ans.call false [(0, 0)] [(0, Row.mk (PV.st 3 [PV.vec nl (B8 N bs), I6 a, I6 e]) false)] (PV.vec true (B8 0 []))), (6, aK (U6 ↑(0 : Nat))), (7, aV (U6 0))] [(0, 0)] [I6 (mx (w:Int) (0 : Int)) = I6 w, I6 (mn (w:Int) (8 : Int)) = I6 w, Pt 73 [(0, Row.mk (PV.st 3 [PV.vec nl (B8 N bs), I6 a, I6 e]) false)] [PV.at 0 [], I6 w] [(0, Row.mk (PV.st 3 [PV.vec nl (B8 N bs), I6 a, I6 e]) false)] (PV.vec true (B8 0 [])), Pt 72 [] [PV.vec true (B8 0 [])] [] (U6 ↑(0 : Nat)), U6 ↑(0 : Nat) = U6 0, rr (PV.st 3 [PV.vec nl (B8 N bs), I6 a, I6 e]), U6 0 = U6 ↑(0 : Nat)] (by kernel_rfl) (ac (cg (h2)) (ac (cg (h3)) (ac (c1) (ac (c0) (ac (cg (by omega)) (ac rfl (ao (cg (by omega)))))))))
theorem QW {nl : Bool} {N a e : Nat} {bs : Liz} (hl : bs.length = N) (he : e ≤ 100) : Pt 51 [(0, rdq nl N bs a e)] [.at 0 []] [(0, rdq nl N bs a e)] (.int .i64 e) := by
 refine pO Tryz.func51 (by kernel_rfl) ?_
 unfold rdq at *
 refine W.ret [] [(0, 0)] [rr (PV.st 3 [PV.vec nl (B8 N bs), I6 a, I6 e]), rr (I6 e)] (by kernel_rfl) (ac rfl (ao rfl))
theorem PG {nl : Bool} {N a e : Nat} {bs : Liz} (hl : bs.length = N) (hN : N ≤ 1000000) (ha : a ≤ N) : Pt 75 [(0, rdq nl N bs a e)] [.at 0 []] [(0, rdq nl N bs a e)] (.int .i64 ((N - a : Nat) : Int)) := by
 refine pO Tryz.func75 (by kernel_rfl) ?_
 have h : (N : Int) - (a : Int) = ((N - a : Nat) : Int) := by omega
 have hb : N - a ≤ 1000000 := by omega
 generalize N - a = m at *
 unfold rdq at *
 refine W.ret [(10, aV (I6 m))] [(0, 0)] [I6 (IntKind.wrap .i64 ((N:Int) - (a:Int))) = I6 m, rr (PV.st 3 [PV.vec nl (B8 N bs), I6 a, I6 e]), rr (I6 m)] (by kernel_rfl) (ac (cg (Dw h (by omega) (by omega))) (ac rfl (ao rfl)))
def DI (r : Rd) : Nat := if r.e = 0 then (if r.s = [] then 0 else 3) else r.e
theorem Nf {nl : Bool} {N : Nat} {bs : Liz} {r : Rd} (hr : r.In bs N) (hN : N ≤ 1000000) (he : r.e ≤ 100) : Pt 54 [(0, rdq nl N bs (N - r.s.length) r.e)] [.at 0 []] [(0, rdq nl N bs (N - r.s.length) (DI r))] (.int .i64 (DI r)) := by
 refine pO Tryz.func54 (by kernel_rfl) ?_
 have hle := hr.le
 have hbl := hr.len
 have c1 := PG (nl := nl) (a := N - r.s.length) (e := r.e) hr.len hN (by omega)
 have e1 : N - (N - r.s.length) = r.s.length := by omega
 rw [e1] at c1
 unfold DI
 by_cases h0 : r.e = 0
 ·rw [if_pos h0, h0]
  rw [h0] at c1
  by_cases hs : r.s = []
  ·rw [if_pos hs]
   have hl : r.s.length = 0 := by rw [hs]; rfl
   rw [hl] at c1 ⊢
   unfold rdq at *
   refine W.ret [(4, aV (I6 0)), (8, Ans.call false [(0, 0)] [(0, Row.mk (PV.st 3 [PV.vec nl (B8 N bs), I6 N, I6 ↑(0 : Nat)]) false)] (I6 ↑(0 : Nat))), (14, aV (I6 0))] [(0, 0)] [I6 ↑(0 : Nat) = I6 0, Pt 75 [(0, Row.mk (PV.st 3 [PV.vec nl (B8 N bs), I6 N, I6 ↑(0 : Nat)]) false)] [PV.at 0 []] [(0, Row.mk (PV.st 3 [PV.vec nl (B8 N bs), I6 N, I6 ↑(0 : Nat)]) false)] (I6 ↑(0 : Nat)), I6 ↑(0 : Nat) = I6 0, rr (PV.st 3 [PV.vec nl (B8 N bs), I6 N, I6 ↑(0 : Nat)]), I6 0 = I6 ↑(0 : Nat)] (by kernel_rfl) (ac (cg (by omega)) (ac (c1) (ac (cg (by omega)) (ac rfl (ao (cg (by omega)))))))
  ·rw [if_neg hs]
   have hl : 0 < r.s.length := List.length_pos_iff.2 hs
   generalize r.s.length = m at *
   generalize N - m = a at *
   unfold rdq at *
   refine W.ret [(4, aV (I6 0)), (8, Ans.call false [(0, 0)] [(0, Row.mk (PV.st 3 [PV.vec nl (B8 N bs), I6 a, I6 ↑(0 : Nat)]) false)] (I6 m)), (9, aT)] [(0, 0)] [I6 ↑(0 : Nat) = I6 0, Pt 75 [(0, Row.mk (PV.st 3 [PV.vec nl (B8 N bs), I6 a, I6 ↑(0 : Nat)]) false)] [PV.at 0 []] [(0, Row.mk (PV.st 3 [PV.vec nl (B8 N bs), I6 a, I6 ↑(0 : Nat)]) false)] (I6 m), decide ((m:Int) > 0) = true, PV.st 3 [PV.vec nl (B8 N bs), I6 a, I6 3] = PV.st 3 [PV.vec nl (B8 N bs), I6 a, I6 ↑(3 : Nat)], I6 3 = I6 ↑(3 : Nat)] (by kernel_rfl) (ac (cg (by omega)) (ac (c1) (ac (decide_eq_true (by omega)) (ac rfl (ao (cg (by omega)))))))
 ·rw [if_neg h0]
  have h1 : ¬ ((r.e : Int) = 0) := by omega
  generalize r.s.length = m at *
  generalize N - m = a at *
  generalize r.e = e at *
  unfold rdq at *
  refine W.ret [(5, aF)] [(0, 0)] [((e:Int) == 0) = false, rr (PV.st 3 [PV.vec nl (B8 N bs), I6 a, I6 e]), rr (I6 e)] (by kernel_rfl) (ac (decide_eq_false (by omega)) (ac rfl (ao rfl)))
end Go.Proofs
namespace Go.Proofs
open Go Go.Pe Go.Pm
set_option maxRecDepth 100000
set_option linter.unusedVariables false
theorem Jp (s : List Int) : lv s 1 = at0 s 0 := by simp [lv]
theorem Rd.Cs {r : Rd} {m x : Nat} (h : r.ve m = x) (hx : x ≠ 0) : r.var m = ⟨r.s, x⟩ ∧ r.vn m = 0 := by
 unfold Rd.var Rd.vn
 rw [h, if_neg hx, if_neg hx]
 exact ⟨rfl, rfl⟩
theorem Rd.JW {r : Rd} {m : Nat} (h : r.ve m = 0) : r.var m = ⟨r.s.drop (1 + wdt (at0 r.s 0)), 0⟩ ∧ r.vn m = Gz r.s := by
 unfold Rd.var Rd.vn
 rw [if_pos h, if_pos h]
 exact ⟨rfl, rfl⟩
theorem PH {nl : Bool} {N m : Nat} {bs : Liz} {r : Rd} (hr : r.In bs N) (hN : N ≤ 1000000) (he : r.e ≤ 100) (hm : m < 18446744073709551616) (hnl : nl = true → N = 0) (h0 : r.e ≠ 0) : Pt 52 [(0, rdq nl N bs (N - r.s.length) r.e)] [.at 0 [], .int .u64 m] [(0, rdq nl N bs (N - r.s.length) r.e)] (.int .u64 0) := by
 refine pO Tryz.func52 (by kernel_rfl) ?_
 have hle := hr.le
 have hbl := hr.len
 have c1 := Bc (nl := nl) (w := 1) hr hN he (by omega) (by omega) hnl
 have e1 : r.tk 1 = r := by unfold Rd.tk; rw [if_neg h0]
 have e3 : r.nv 1 = 0 := by unfold Rd.nv; rw [if_neg (fun h => h0 h.1)]
 rw [e1, e3] at c1
 have h1 : ¬ ((r.e : Int) = 0) := by omega
 have hb : N - r.s.length ≤ 1000000 := by omega
 generalize N - r.s.length = a at *
 generalize r.e = e at *
 unfold rdq at *
 refine W.ret [(7, Ans.call false [(0, 0)] [(0, Row.mk (PV.st 3 [PV.vec nl (B8 N bs), I6 a, I6 e]) false)] (U6 ↑(0 : Nat))), (8, aV (U6 0)), (21, aT)] [(0, 0)] [Pt 50 [(0, Row.mk (PV.st 3 [PV.vec nl (B8 N bs), I6 a, I6 e]) false)] [PV.at 0 [], I6 1] [(0, Row.mk (PV.st 3 [PV.vec nl (B8 N bs), I6 a, I6 e]) false)] (U6 ↑(0 : Nat)), U6 ↑(0 : Nat) = U6 0, ((e:Int) != 0) = true, rr (PV.st 3 [PV.vec nl (B8 N bs), I6 a, I6 e]), rr (U6 0)] (by kernel_rfl) (ac (c1) (ac (cg (by omega)) (ac (bne_iff_ne.2 (by omega)) (ac rfl (ao rfl)))))
theorem O4 {nl : Bool} {N m : Nat} {bs : Liz} {r : Rd} (hr : r.In bs N) (hN : N ≤ 1000000) (hm : m < 18446744073709551616) (hnl : nl = true → N = 0) (h0 : r.e = 0) (hs : r.s.length = 0) : Pt 52 [(0, rdq nl N bs (N - r.s.length) 0)] [.at 0 [], .int .u64 m] [(0, rdq nl N bs (N - r.s.length) 2)] (.int .u64 0) := by
 refine pO Tryz.func52 (by kernel_rfl) ?_
 have hle := hr.le
 have hbl := hr.len
 have c1 := Bc (nl := nl) (w := 1) hr hN (by omega) (by omega) (by omega) hnl
 have e1 : r.tk 1 = ⟨r.s, 2⟩ := by unfold Rd.tk; rw [if_pos h0, if_neg (by omega)]
 have e3 : r.nv 1 = 0 := by unfold Rd.nv; rw [if_neg (fun h => by have := h.2; omega)]
 rw [e1, e3, h0] at c1
 have hb : N - r.s.length ≤ 1000000 := by omega
 generalize N - r.s.length = a at *
 unfold rdq at *
 refine W.ret [(7, Ans.call false [(0, 0)] [(0, Row.mk (PV.st 3 [PV.vec nl (B8 N bs), I6 a, I6 ↑(2 : Nat)]) false)] (U6 ↑(0 : Nat))), (8, aV (U6 0)), (20, aV (I6 2))] [(0, 0)] [Pt 50 [(0, Row.mk (PV.st 3 [PV.vec nl (B8 N bs), I6 a, I6 ↑(0 : Nat)]) false)] [PV.at 0 [], I6 1] [(0, Row.mk (PV.st 3 [PV.vec nl (B8 N bs), I6 a, I6 ↑(2 : Nat)]) false)] (U6 ↑(0 : Nat)), U6 ↑(0 : Nat) = U6 0, I6 ↑(2 : Nat) = I6 2, rr (PV.st 3 [PV.vec nl (B8 N bs), I6 a, I6 ↑(2 : Nat)]), rr (U6 0)] (by kernel_rfl) (ac (c1) (ac (cg (by omega)) (ac (cg (by omega)) (ac rfl (ao rfl)))))
theorem O0 {nl : Bool} {N m : Nat} {bs : Liz} {r : Rd} (hr : r.In bs N) (hN : N ≤ 1000000) (hm : m < 18446744073709551616) (hnl : nl = true → N = 0) (h0 : r.e = 0) (hs : 0 < r.s.length) (hw : at0 r.s 0 ≠ 253 ∧ at0 r.s 0 ≠ 254 ∧ at0 r.s 0 ≠ 255) :
  Pt 52 [(0, rdq nl N bs (N - r.s.length) 0)] [.at 0 [], .int .u64 m] [(0, rdq nl N bs (N - (r.var m).s.length) (r.var m).e)] (.int .u64 ((r.vn m : Nat) : Int)) := by
 refine pO Tryz.func52 (by kernel_rfl) ?_
 have hle := hr.le
 have hbl := hr.len
 have hx := Oh hr.bytes 0
 have c1 := Bc (nl := nl) (w := 1) hr hN (by omega) (by omega) (by omega) hnl
 have e1 : r.tk 1 = ⟨r.s.drop 1, 0⟩ := by unfold Rd.tk; rw [if_pos h0, if_pos (by omega)]
 have e3 : r.nv 1 = at0 r.s 0 := by unfold Rd.nv; rw [if_pos ⟨h0, by omega⟩, Jp]
 rw [e1, e3, h0] at c1
 have w0 : wdt (at0 r.s 0) = 0 := by unfold wdt; rw [if_neg hw.1, if_neg hw.2.1, if_neg hw.2.2]
 have l0 : lst (at0 r.s 0) = 0 := by unfold lst; rw [if_neg hw.1, if_neg hw.2.1, if_neg hw.2.2]
 have v0 : Gz r.s = at0 r.s 0 := by unfold Gz; rw [if_pos w0]
 have hve : r.ve m = if m < at0 r.s 0 then 4 else 0 := by unfold Rd.ve; rw [if_pos h0, w0, if_neg (by omega), l0, if_neg (by omega), v0]
 obtain ⟨n1, n2, n3⟩ := hw
 have b1 : ¬ ((at0 r.s 0 : Int) = 253) := by omega
 have b2 : ¬ ((at0 r.s 0 : Int) = 254) := by omega
 have b3 : ¬ ((at0 r.s 0 : Int) = 255) := by omega
 by_cases hlt : m < at0 r.s 0
 ·rw [if_pos hlt] at hve
  obtain ⟨q1, q2⟩ := Rd.Cs hve (by omega)
  rw [q1, q2]
  have c2 := Ca (nl := nl) (e := 0) (a := N - (r.s.drop 1).length) (a' := N - r.s.length) (e' := 4) hbl (by omega) (by omega) (by omega) (by omega)
  rw [if_pos rfl] at c2
  dsimp only at *
  have hb : N - r.s.length ≤ 1000000 := by omega
  have hb2 : N - (r.s.drop 1).length ≤ 1000000 := by omega
  clear hve q1 q2 e1 e3 w0 l0 v0 hle
  generalize at0 r.s 0 = x at *
  generalize N - (r.s.drop 1).length = a1 at *
  generalize N - r.s.length = a at *
  unfold rdq at *
  refine W.ret [(7, Ans.call false [(0, 0)] [(0, Row.mk (PV.st 3 [PV.vec nl (B8 N bs), I6 a1, I6 ↑(0 : Nat)]) false)] (U6 x)), (11, aF), (13, aF), (15, aF), (20, aV (I6 0)), (29, aT), (33, Ans.call false [(0, 0)] [(0, Row.mk (PV.st 3 [PV.vec nl (B8 N bs), I6 a, I6 ↑(4 : Nat)]) false)] (PV.tup []))] [(0, 0)] [Pt 50 [(0, Row.mk (PV.st 3 [PV.vec nl (B8 N bs), I6 a, I6 ↑(0 : Nat)]) false)] [PV.at 0 [], I6 1] [(0, Row.mk (PV.st 3 [PV.vec nl (B8 N bs), I6 a1, I6 ↑(0 : Nat)]) false)] (U6 x), ((x:Int) == 253) = false, ((x:Int) == 254) = false, ((x:Int) == 255) = false, I6 ↑(0 : Nat) = I6 0, decide ((x:Int) > (m:Int)) = true, Pt 74 [(0, Row.mk (PV.st 3 [PV.vec nl (B8 N bs), I6 a1, I6 ↑(0 : Nat)]) false)] [PV.at 0 [], I6 a, I6 4] [(0, Row.mk (PV.st 3 [PV.vec nl (B8 N bs), I6 a, I6 ↑(4 : Nat)]) false)] (PV.tup []), rr (PV.st 3 [PV.vec nl (B8 N bs), I6 a, I6 ↑(4 : Nat)]), U6 0 = U6 ↑(0 : Nat)] (by kernel_rfl) (ac (c1) (ac (decide_eq_false (by omega)) (ac (decide_eq_false (by omega)) (ac (decide_eq_false (by omega)) (ac (cg (by omega)) (ac (decide_eq_true (by omega)) (ac (c2) (ac rfl (ao (cg (by omega)))))))))))
 ·rw [if_neg hlt] at hve
  obtain ⟨q1, q2⟩ := Rd.JW hve
  rw [w0] at q1
  rw [q1, q2, v0]
  dsimp only at *
  have hb : N - r.s.length ≤ 1000000 := by omega
  have hb2 : N - (r.s.drop 1).length ≤ 1000000 := by omega
  clear hve q1 q2 e1 e3 w0 l0 v0 hle
  rw [Nat.add_zero] at *
  generalize at0 r.s 0 = x at *
  generalize N - (r.s.drop 1).length = a1 at *
  generalize N - r.s.length = a at *
  unfold rdq at *
  refine W.ret [(7, Ans.call false [(0, 0)] [(0, Row.mk (PV.st 3 [PV.vec nl (B8 N bs), I6 a1, I6 ↑(0 : Nat)]) false)] (U6 x)), (11, aF), (13, aF), (15, aF), (20, aV (I6 0)), (29, aF)] [(0, 0)] [Pt 50 [(0, Row.mk (PV.st 3 [PV.vec nl (B8 N bs), I6 a, I6 ↑(0 : Nat)]) false)] [PV.at 0 [], I6 1] [(0, Row.mk (PV.st 3 [PV.vec nl (B8 N bs), I6 a1, I6 ↑(0 : Nat)]) false)] (U6 x), ((x:Int) == 253) = false, ((x:Int) == 254) = false, ((x:Int) == 255) = false, I6 ↑(0 : Nat) = I6 0, decide ((x:Int) > (m:Int)) = false, rr (PV.st 3 [PV.vec nl (B8 N bs), I6 a1, I6 ↑(0 : Nat)]), rr (U6 x)] (by kernel_rfl) (ac (c1) (ac (decide_eq_false (by omega)) (ac (decide_eq_false (by omega)) (ac (decide_eq_false (by omega)) (ac (cg (by omega)) (ac (decide_eq_false (by omega)) (ac rfl (ao rfl))))))))
set_option maxHeartbeats 4000000 in
theorem PD {nl : Bool} {N m : Nat} {bs : Liz} {r : Rd} (hr : r.In bs N) (hN : N ≤ 1000000) (hm : m < 18446744073709551616) (hnl : nl = true → N = 0) (h0 : r.e = 0) (hs : 0 < r.s.length) (hw : at0 r.s 0 = 253) :
  Pt 52 [(0, rdq nl N bs (N - r.s.length) 0)] [.at 0 [], .int .u64 m] [(0, rdq nl N bs (N - (r.var m).s.length) (r.var m).e)] (.int .u64 ((r.vn m : Nat) : Int)) := by
 refine pO Tryz.func52 (by kernel_rfl) ?_
 have hle := hr.le
 have hbl := hr.len
 have c1 := Bc (nl := nl) (w := 1) hr hN (by omega) (by omega) (by omega) hnl
 have e1 : r.tk 1 = ⟨r.s.drop 1, 0⟩ := by unfold Rd.tk; rw [if_pos h0, if_pos (by omega)]
 have e3 : r.nv 1 = 253 := by unfold Rd.nv; rw [if_pos ⟨h0, by omega⟩, Jp, hw]
 rw [e1, e3, h0] at c1
 have hr1 : (Rd.mk (r.s.drop 1) 0).In bs N := by rw [← e1]; exact hr.tk 1
 have c2 := Bc (nl := nl) (w := 2) hr1 hN (by show 0 ≤ 100; omega) (by omega) (by omega) hnl
 have w0 : wdt (at0 r.s 0) = 2 := by rw [hw]; rfl
 have l0 : lst (at0 r.s 0) = 253 := by rw [hw]; rfl
 have v0 : Gz r.s = lv (r.s.drop 1) 2 := by unfold Gz; rw [w0, if_neg (by omega)]
 have hl1 : (r.s.drop 1).length = r.s.length - 1 := List.length_drop
 by_cases hsh : r.s.length < 1 + 2
 ·have hve : r.ve m = 2 := by unfold Rd.ve; rw [if_pos h0, w0, if_pos hsh]
  obtain ⟨q1, q2⟩ := Rd.Cs hve (by omega)
  have t1 : (Rd.mk (r.s.drop 1) 0).tk 2 = ⟨r.s.drop 1, 2⟩ := by unfold Rd.tk; rw [if_pos rfl, if_neg (by show ¬ _ ≤ (r.s.drop 1).length; omega)]
  have t2 : (Rd.mk (r.s.drop 1) 0).nv 2 = 0 := by unfold Rd.nv; rw [if_neg (fun h => by have := h.2; simp only at this; omega)]
  rw [t1, t2] at c2
  rw [q1, q2]
  dsimp only at *
  have hb : N - r.s.length ≤ 1000000 := by omega
  have hb2 : N - (r.s.drop 1).length ≤ 1000000 := by omega
  clear hve q1 q2 e1 e3 w0 l0 v0 hle t1 t2 hl1
  generalize N - (r.s.drop 1).length = a1 at *
  generalize N - r.s.length = a at *
  unfold rdq at *
  refine W.ret [(7, Ans.call false [(0, 0)] [(0, Row.mk (PV.st 3 [PV.vec nl (B8 N bs), I6 a1, I6 ↑(0 : Nat)]) false)] (U6 ↑(253 : Nat))), (8, aV (U6 253)), (14, Ans.call false [(0, 0)] [(0, Row.mk (PV.st 3 [PV.vec nl (B8 N bs), I6 a1, I6 ↑(2 : Nat)]) false)] (U6 ↑(0 : Nat))), (15, aV (U6 0)), (20, aV (I6 2))] [(0, 0)] [Pt 50 [(0, Row.mk (PV.st 3 [PV.vec nl (B8 N bs), I6 a, I6 ↑(0 : Nat)]) false)] [PV.at 0 [], I6 1] [(0, Row.mk (PV.st 3 [PV.vec nl (B8 N bs), I6 a1, I6 ↑(0 : Nat)]) false)] (U6 ↑(253 : Nat)), U6 ↑(253 : Nat) = U6 253, Pt 50 [(0, Row.mk (PV.st 3 [PV.vec nl (B8 N bs), I6 a1, I6 ↑(0 : Nat)]) false)] [PV.at 0 [], I6 2] [(0, Row.mk (PV.st 3 [PV.vec nl (B8 N bs), I6 a1, I6 ↑(2 : Nat)]) false)] (U6 ↑(0 : Nat)), U6 ↑(0 : Nat) = U6 0, I6 ↑(2 : Nat) = I6 2, rr (PV.st 3 [PV.vec nl (B8 N bs), I6 a, I6 ↑(2 : Nat)]), U6 0 = U6 ↑(0 : Nat)] (by kernel_rfl) (ac (c1) (ac (cg (by omega)) (ac (c2) (ac (cg (by omega)) (ac (cg (by omega)) (ac rfl (ao (cg (by omega)))))))))
 ·have t1 : (Rd.mk (r.s.drop 1) 0).tk 2 = ⟨r.s.drop (1 + 2), 0⟩ := by unfold Rd.tk; rw [if_pos rfl, if_pos (by show _ ≤ (r.s.drop 1).length; omega), List.drop_drop]
  have t2 : (Rd.mk (r.s.drop 1) 0).nv 2 = lv (r.s.drop 1) 2 := by unfold Rd.nv; rw [if_pos ⟨rfl, by show _ ≤ (r.s.drop 1).length; omega⟩]
  rw [t1, t2] at c2
  have hvl := LA hr.bytes
  rw [v0] at hvl
  have hve : r.ve m = if lv (r.s.drop 1) 2 < 253 then 3 else if m < lv (r.s.drop 1) 2 then 4 else 0 := by unfold Rd.ve; rw [if_pos h0, w0, if_neg hsh, l0, v0]
  have hb : N - r.s.length ≤ 1000000 := by omega
  have hb2 : N - (r.s.drop 1).length ≤ 1000000 := by omega
  have hb3 : N - (r.s.drop (1 + 2)).length ≤ 1000000 := by omega
  by_cases hlt : lv (r.s.drop 1) 2 < 253
  ·rw [if_pos hlt] at hve
   obtain ⟨q1, q2⟩ := Rd.Cs hve (by omega)
   rw [q1, q2]
   have c3 := Ca (nl := nl) (e := 0) (a := N - (r.s.drop (1 + 2)).length) (a' := N - r.s.length) (e' := 3) hbl (by omega) (by omega) (by omega) (by omega)
   rw [if_pos rfl] at c3
   dsimp only at *
   clear hve q1 q2 e1 e3 w0 l0 v0 hle t1 t2 hl1
   generalize lv (r.s.drop 1) 2 = v at *
   generalize N - (r.s.drop (1 + 2)).length = a2 at *
   generalize N - (r.s.drop 1).length = a1 at *
   generalize N - r.s.length = a at *
   unfold rdq at *
   refine W.ret [(7, Ans.call false [(0, 0)] [(0, Row.mk (PV.st 3 [PV.vec nl (B8 N bs), I6 a1, I6 ↑(0 : Nat)]) false)] (U6 ↑(253 : Nat))), (8, aV (U6 253)), (14, Ans.call false [(0, 0)] [(0, Row.mk (PV.st 3 [PV.vec nl (B8 N bs), I6 a2, I6 ↑(0 : Nat)]) false)] (U6 v)), (20, aV (I6 0)), (25, aT), (29, Ans.call false [(0, 0)] [(0, Row.mk (PV.st 3 [PV.vec nl (B8 N bs), I6 a, I6 ↑(3 : Nat)]) false)] (PV.tup []))] [(0, 0)] [Pt 50 [(0, Row.mk (PV.st 3 [PV.vec nl (B8 N bs), I6 a, I6 ↑(0 : Nat)]) false)] [PV.at 0 [], I6 1] [(0, Row.mk (PV.st 3 [PV.vec nl (B8 N bs), I6 a1, I6 ↑(0 : Nat)]) false)] (U6 ↑(253 : Nat)), U6 ↑(253 : Nat) = U6 253, Pt 50 [(0, Row.mk (PV.st 3 [PV.vec nl (B8 N bs), I6 a1, I6 ↑(0 : Nat)]) false)] [PV.at 0 [], I6 2] [(0, Row.mk (PV.st 3 [PV.vec nl (B8 N bs), I6 a2, I6 ↑(0 : Nat)]) false)] (U6 v), I6 ↑(0 : Nat) = I6 0, decide ((v:Int) < 253) = true, Pt 74 [(0, Row.mk (PV.st 3 [PV.vec nl (B8 N bs), I6 a2, I6 ↑(0 : Nat)]) false)] [PV.at 0 [], I6 a, I6 3] [(0, Row.mk (PV.st 3 [PV.vec nl (B8 N bs), I6 a, I6 ↑(3 : Nat)]) false)] (PV.tup []), rr (PV.st 3 [PV.vec nl (B8 N bs), I6 a, I6 ↑(3 : Nat)]), U6 0 = U6 ↑(0 : Nat)] (by kernel_rfl) (ac (c1) (ac (cg (by omega)) (ac (c2) (ac (cg (by omega)) (ac (decide_eq_true (by omega)) (ac (c3) (ac rfl (ao (cg (by omega))))))))))
  ·rw [if_neg hlt] at hve
   by_cases hgt : m < lv (r.s.drop 1) 2
   ·rw [if_pos hgt] at hve
    obtain ⟨q1, q2⟩ := Rd.Cs hve (by omega)
    rw [q1, q2]
    have c3 := Ca (nl := nl) (e := 0) (a := N - (r.s.drop (1 + 2)).length) (a' := N - r.s.length) (e' := 4) hbl (by omega) (by omega) (by omega) (by omega)
    rw [if_pos rfl] at c3
    dsimp only at *
    clear hve q1 q2 e1 e3 w0 l0 v0 hle t1 t2 hl1
    generalize lv (r.s.drop 1) 2 = v at *
    generalize N - (r.s.drop (1 + 2)).length = a2 at *
    generalize N - (r.s.drop 1).length = a1 at *
    generalize N - r.s.length = a at *
    unfold rdq at *
    refine W.ret [(7, Ans.call false [(0, 0)] [(0, Row.mk (PV.st 3 [PV.vec nl (B8 N bs), I6 a1, I6 ↑(0 : Nat)]) false)] (U6 ↑(253 : Nat))), (8, aV (U6 253)), (14, Ans.call false [(0, 0)] [(0, Row.mk (PV.st 3 [PV.vec nl (B8 N bs), I6 a2, I6 ↑(0 : Nat)]) false)] (U6 v)), (20, aV (I6 0)), (25, aF), (29, aT), (33, Ans.call false [(0, 0)] [(0, Row.mk (PV.st 3 [PV.vec nl (B8 N bs), I6 a, I6 ↑(4 : Nat)]) false)] (PV.tup []))] [(0, 0)] [Pt 50 [(0, Row.mk (PV.st 3 [PV.vec nl (B8 N bs), I6 a, I6 ↑(0 : Nat)]) false)] [PV.at 0 [], I6 1] [(0, Row.mk (PV.st 3 [PV.vec nl (B8 N bs), I6 a1, I6 ↑(0 : Nat)]) false)] (U6 ↑(253 : Nat)), U6 ↑(253 : Nat) = U6 253, Pt 50 [(0, Row.mk (PV.st 3 [PV.vec nl (B8 N bs), I6 a1, I6 ↑(0 : Nat)]) false)] [PV.at 0 [], I6 2] [(0, Row.mk (PV.st 3 [PV.vec nl (B8 N bs), I6 a2, I6 ↑(0 : Nat)]) false)] (U6 v), I6 ↑(0 : Nat) = I6 0, decide ((v:Int) < 253) = false, decide ((v:Int) > (m:Int)) = true, Pt 74 [(0, Row.mk (PV.st 3 [PV.vec nl (B8 N bs), I6 a2, I6 ↑(0 : Nat)]) false)] [PV.at 0 [], I6 a, I6 4] [(0, Row.mk (PV.st 3 [PV.vec nl (B8 N bs), I6 a, I6 ↑(4 : Nat)]) false)] (PV.tup []), rr (PV.st 3 [PV.vec nl (B8 N bs), I6 a, I6 ↑(4 : Nat)]), U6 0 = U6 ↑(0 : Nat)] (by kernel_rfl) (ac (c1) (ac (cg (by omega)) (ac (c2) (ac (cg (by omega)) (ac (decide_eq_false (by omega)) (ac (decide_eq_true (by omega)) (ac (c3) (ac rfl (ao (cg (by omega)))))))))))
   ·rw [if_neg hgt] at hve
    obtain ⟨q1, q2⟩ := Rd.JW hve
    rw [w0] at q1
    rw [q1, q2, v0]
    dsimp only at *
    clear hve q1 q2 e1 e3 w0 l0 v0 hle t1 t2 hl1
    generalize lv (r.s.drop 1) 2 = v at *
    generalize N - (r.s.drop (1 + 2)).length = a2 at *
    generalize N - (r.s.drop 1).length = a1 at *
    generalize N - r.s.length = a at *
    unfold rdq at *
    refine W.ret [(7, Ans.call false [(0, 0)] [(0, Row.mk (PV.st 3 [PV.vec nl (B8 N bs), I6 a1, I6 ↑(0 : Nat)]) false)] (U6 ↑(253 : Nat))), (8, aV (U6 253)), (14, Ans.call false [(0, 0)] [(0, Row.mk (PV.st 3 [PV.vec nl (B8 N bs), I6 a2, I6 ↑(0 : Nat)]) false)] (U6 v)), (20, aV (I6 0)), (25, aF), (29, aF)] [(0, 0)] [Pt 50 [(0, Row.mk (PV.st 3 [PV.vec nl (B8 N bs), I6 a, I6 ↑(0 : Nat)]) false)] [PV.at 0 [], I6 1] [(0, Row.mk (PV.st 3 [PV.vec nl (B8 N bs), I6 a1, I6 ↑(0 : Nat)]) false)] (U6 ↑(253 : Nat)), U6 ↑(253 : Nat) = U6 253, Pt 50 [(0, Row.mk (PV.st 3 [PV.vec nl (B8 N bs), I6 a1, I6 ↑(0 : Nat)]) false)] [PV.at 0 [], I6 2] [(0, Row.mk (PV.st 3 [PV.vec nl (B8 N bs), I6 a2, I6 ↑(0 : Nat)]) false)] (U6 v), I6 ↑(0 : Nat) = I6 0, decide ((v:Int) < 253) = false, decide ((v:Int) > (m:Int)) = false, rr (PV.st 3 [PV.vec nl (B8 N bs), I6 a2, I6 ↑(0 : Nat)]), rr (U6 v)] (by kernel_rfl) (ac (c1) (ac (cg (by omega)) (ac (c2) (ac (cg (by omega)) (ac (decide_eq_false (by omega)) (ac (decide_eq_false (by omega)) (ac rfl (ao rfl))))))))
set_option maxHeartbeats 4000000 in
theorem Pz {nl : Bool} {N m : Nat} {bs : Liz} {r : Rd} (hr : r.In bs N) (hN : N ≤ 1000000) (hm : m < 18446744073709551616) (hnl : nl = true → N = 0) (h0 : r.e = 0) (hs : 0 < r.s.length) (hw : at0 r.s 0 = 254) :
  Pt 52 [(0, rdq nl N bs (N - r.s.length) 0)] [.at 0 [], .int .u64 m] [(0, rdq nl N bs (N - (r.var m).s.length) (r.var m).e)] (.int .u64 ((r.vn m : Nat) : Int)) := by
 refine pO Tryz.func52 (by kernel_rfl) ?_
 have hle := hr.le
 have hbl := hr.len
 have c1 := Bc (nl := nl) (w := 1) hr hN (by omega) (by omega) (by omega) hnl
 have e1 : r.tk 1 = ⟨r.s.drop 1, 0⟩ := by unfold Rd.tk; rw [if_pos h0, if_pos (by omega)]
 have e3 : r.nv 1 = 254 := by unfold Rd.nv; rw [if_pos ⟨h0, by omega⟩, Jp, hw]
 rw [e1, e3, h0] at c1
 have hr1 : (Rd.mk (r.s.drop 1) 0).In bs N := by rw [← e1]; exact hr.tk 1
 have c2 := Bc (nl := nl) (w := 4) hr1 hN (by show 0 ≤ 100; omega) (by omega) (by omega) hnl
 have w0 : wdt (at0 r.s 0) = 4 := by rw [hw]; rfl
 have l0 : lst (at0 r.s 0) = 65536 := by rw [hw]; rfl
 have v0 : Gz r.s = lv (r.s.drop 1) 4 := by unfold Gz; rw [w0, if_neg (by omega)]
 have hl1 : (r.s.drop 1).length = r.s.length - 1 := List.length_drop
 by_cases hsh : r.s.length < 1 + 4
 ·have hve : r.ve m = 2 := by unfold Rd.ve; rw [if_pos h0, w0, if_pos hsh]
  obtain ⟨q1, q2⟩ := Rd.Cs hve (by omega)
  have t1 : (Rd.mk (r.s.drop 1) 0).tk 4 = ⟨r.s.drop 1, 2⟩ := by unfold Rd.tk; rw [if_pos rfl, if_neg (by show ¬ _ ≤ (r.s.drop 1).length; omega)]
  have t2 : (Rd.mk (r.s.drop 1) 0).nv 4 = 0 := by unfold Rd.nv; rw [if_neg (fun h => by have := h.2; simp only at this; omega)]
  rw [t1, t2] at c2
  rw [q1, q2]
  dsimp only at *
  have hb : N - r.s.length ≤ 1000000 := by omega
  have hb2 : N - (r.s.drop 1).length ≤ 1000000 := by omega
  clear hve q1 q2 e1 e3 w0 l0 v0 hle t1 t2 hl1
  generalize N - (r.s.drop 1).length = a1 at *
  generalize N - r.s.length = a at *
  unfold rdq at *
  refine W.ret [(7, Ans.call false [(0, 0)] [(0, Row.mk (PV.st 3 [PV.vec nl (B8 N bs), I6 a1, I6 ↑(0 : Nat)]) false)] (U6 ↑(254 : Nat))), (8, aV (U6 254)), (16, Ans.call false [(0, 0)] [(0, Row.mk (PV.st 3 [PV.vec nl (B8 N bs), I6 a1, I6 ↑(2 : Nat)]) false)] (U6 ↑(0 : Nat))), (17, aV (U6 0)), (22, aV (I6 2))] [(0, 0)] [Pt 50 [(0, Row.mk (PV.st 3 [PV.vec nl (B8 N bs), I6 a, I6 ↑(0 : Nat)]) false)] [PV.at 0 [], I6 1] [(0, Row.mk (PV.st 3 [PV.vec nl (B8 N bs), I6 a1, I6 ↑(0 : Nat)]) false)] (U6 ↑(254 : Nat)), U6 ↑(254 : Nat) = U6 254, Pt 50 [(0, Row.mk (PV.st 3 [PV.vec nl (B8 N bs), I6 a1, I6 ↑(0 : Nat)]) false)] [PV.at 0 [], I6 4] [(0, Row.mk (PV.st 3 [PV.vec nl (B8 N bs), I6 a1, I6 ↑(2 : Nat)]) false)] (U6 ↑(0 : Nat)), U6 ↑(0 : Nat) = U6 0, I6 ↑(2 : Nat) = I6 2, rr (PV.st 3 [PV.vec nl (B8 N bs), I6 a, I6 ↑(2 : Nat)]), U6 0 = U6 ↑(0 : Nat)] (by kernel_rfl) (ac (c1) (ac (cg (by omega)) (ac (c2) (ac (cg (by omega)) (ac (cg (by omega)) (ac rfl (ao (cg (by omega)))))))))
 ·have t1 : (Rd.mk (r.s.drop 1) 0).tk 4 = ⟨r.s.drop (1 + 4), 0⟩ := by unfold Rd.tk; rw [if_pos rfl, if_pos (by show _ ≤ (r.s.drop 1).length; omega), List.drop_drop]
  have t2 : (Rd.mk (r.s.drop 1) 0).nv 4 = lv (r.s.drop 1) 4 := by unfold Rd.nv; rw [if_pos ⟨rfl, by show _ ≤ (r.s.drop 1).length; omega⟩]
  rw [t1, t2] at c2
  have hvl := LA hr.bytes
  rw [v0] at hvl
  have hve : r.ve m = if lv (r.s.drop 1) 4 < 65536 then 3 else if m < lv (r.s.drop 1) 4 then 4 else 0 := by unfold Rd.ve; rw [if_pos h0, w0, if_neg hsh, l0, v0]
  have hb : N - r.s.length ≤ 1000000 := by omega
  have hb2 : N - (r.s.drop 1).length ≤ 1000000 := by omega
  have hb3 : N - (r.s.drop (1 + 4)).length ≤ 1000000 := by omega
  by_cases hlt : lv (r.s.drop 1) 4 < 65536
  ·rw [if_pos hlt] at hve
   obtain ⟨q1, q2⟩ := Rd.Cs hve (by omega)
   rw [q1, q2]
   have c3 := Ca (nl := nl) (e := 0) (a := N - (r.s.drop (1 + 4)).length) (a' := N - r.s.length) (e' := 3) hbl (by omega) (by omega) (by omega) (by omega)
   rw [if_pos rfl] at c3
   dsimp only at *
   clear hve q1 q2 e1 e3 w0 l0 v0 hle t1 t2 hl1
   generalize lv (r.s.drop 1) 4 = v at *
   generalize N - (r.s.drop (1 + 4)).length = a2 at *
   generalize N - (r.s.drop 1).length = a1 at *
   generalize N - r.s.length = a at *
   unfold rdq at *
   refine W.ret [(7, Ans.call false [(0, 0)] [(0, Row.mk (PV.st 3 [PV.vec nl (B8 N bs), I6 a1, I6 ↑(0 : Nat)]) false)] (U6 ↑(254 : Nat))), (8, aV (U6 254)), (16, Ans.call false [(0, 0)] [(0, Row.mk (PV.st 3 [PV.vec nl (B8 N bs), I6 a2, I6 ↑(0 : Nat)]) false)] (U6 v)), (22, aV (I6 0)), (27, aT), (31, Ans.call false [(0, 0)] [(0, Row.mk (PV.st 3 [PV.vec nl (B8 N bs), I6 a, I6 ↑(3 : Nat)]) false)] (PV.tup []))] [(0, 0)] [Pt 50 [(0, Row.mk (PV.st 3 [PV.vec nl (B8 N bs), I6 a, I6 ↑(0 : Nat)]) false)] [PV.at 0 [], I6 1] [(0, Row.mk (PV.st 3 [PV.vec nl (B8 N bs), I6 a1, I6 ↑(0 : Nat)]) false)] (U6 ↑(254 : Nat)), U6 ↑(254 : Nat) = U6 254, Pt 50 [(0, Row.mk (PV.st 3 [PV.vec nl (B8 N bs), I6 a1, I6 ↑(0 : Nat)]) false)] [PV.at 0 [], I6 4] [(0, Row.mk (PV.st 3 [PV.vec nl (B8 N bs), I6 a2, I6 ↑(0 : Nat)]) false)] (U6 v), I6 ↑(0 : Nat) = I6 0, decide ((v:Int) < 65536) = true, Pt 74 [(0, Row.mk (PV.st 3 [PV.vec nl (B8 N bs), I6 a2, I6 ↑(0 : Nat)]) false)] [PV.at 0 [], I6 a, I6 3] [(0, Row.mk (PV.st 3 [PV.vec nl (B8 N bs), I6 a, I6 ↑(3 : Nat)]) false)] (PV.tup []), rr (PV.st 3 [PV.vec nl (B8 N bs), I6 a, I6 ↑(3 : Nat)]), U6 0 = U6 ↑(0 : Nat)] (by kernel_rfl) (ac (c1) (ac (cg (by omega)) (ac (c2) (ac (cg (by omega)) (ac (decide_eq_true (by omega)) (ac (c3) (ac rfl (ao (cg (by omega))))))))))
  ·rw [if_neg hlt] at hve
   by_cases hgt : m < lv (r.s.drop 1) 4
   ·rw [if_pos hgt] at hve
    obtain ⟨q1, q2⟩ := Rd.Cs hve (by omega)
    rw [q1, q2]
    have c3 := Ca (nl := nl) (e := 0) (a := N - (r.s.drop (1 + 4)).length) (a' := N - r.s.length) (e' := 4) hbl (by omega) (by omega) (by omega) (by omega)
    rw [if_pos rfl] at c3
    dsimp only at *
    clear hve q1 q2 e1 e3 w0 l0 v0 hle t1 t2 hl1
    generalize lv (r.s.drop 1) 4 = v at *
    generalize N - (r.s.drop (1 + 4)).length = a2 at *
    generalize N - (r.s.drop 1).length = a1 at *
    generalize N - r.s.length = a at *
    unfold rdq at *
    refine W.ret [(7, Ans.call false [(0, 0)] [(0, Row.mk (PV.st 3 [PV.vec nl (B8 N bs), I6 a1, I6 ↑(0 : Nat)]) false)] (U6 ↑(254 : Nat))), (8, aV (U6 254)), (16, Ans.call false [(0, 0)] [(0, Row.mk (PV.st 3 [PV.vec nl (B8 N bs), I6 a2, I6 ↑(0 : Nat)]) false)] (U6 v)), (22, aV (I6 0)), (27, aF), (31, aT), (35, Ans.call false [(0, 0)] [(0, Row.mk (PV.st 3 [PV.vec nl (B8 N bs), I6 a, I6 ↑(4 : Nat)]) false)] (PV.tup []))] [(0, 0)] [Pt 50 [(0, Row.mk (PV.st 3 [PV.vec nl (B8 N bs), I6 a, I6 ↑(0 : Nat)]) false)] [PV.at 0 [], I6 1] [(0, Row.mk (PV.st 3 [PV.vec nl (B8 N bs), I6 a1, I6 ↑(0 : Nat)]) false)] (U6 ↑(254 : Nat)), U6 ↑(254 : Nat) = U6 254, Pt 50 [(0, Row.mk (PV.st 3 [PV.vec nl (B8 N bs), I6 a1, I6 ↑(0 : Nat)]) false)] [PV.at 0 [], I6 4] [(0, Row.mk (PV.st 3 [PV.vec nl (B8 N bs), I6 a2, I6 ↑(0 : Nat)]) false)] (U6 v), I6 ↑(0 : Nat) = I6 0, decide ((v:Int) < 65536) = false, decide ((v:Int) > (m:Int)) = true, Pt 74 [(0, Row.mk (PV.st 3 [PV.vec nl (B8 N bs), I6 a2, I6 ↑(0 : Nat)]) false)] [PV.at 0 [], I6 a, I6 4] [(0, Row.mk (PV.st 3 [PV.vec nl (B8 N bs), I6 a, I6 ↑(4 : Nat)]) false)] (PV.tup []), rr (PV.st 3 [PV.vec nl (B8 N bs), I6 a, I6 ↑(4 : Nat)]), U6 0 = U6 ↑(0 : Nat)] (by kernel_rfl) (ac (c1) (ac (cg (by omega)) (ac (c2) (ac (cg (by omega)) (ac (decide_eq_false (by omega)) (ac (decide_eq_true (by omega)) (ac (c3) (ac rfl (ao (cg (by omega)))))))))))
   ·rw [if_neg hgt] at hve
    obtain ⟨q1, q2⟩ := Rd.JW hve
    rw [w0] at q1
    rw [q1, q2, v0]
    dsimp only at *
    clear hve q1 q2 e1 e3 w0 l0 v0 hle t1 t2 hl1
    generalize lv (r.s.drop 1) 4 = v at *
    generalize N - (r.s.drop (1 + 4)).length = a2 at *
    generalize N - (r.s.drop 1).length = a1 at *
    generalize N - r.s.length = a at *
    unfold rdq at *
    refine W.ret [(7, Ans.call false [(0, 0)] [(0, Row.mk (PV.st 3 [PV.vec nl (B8 N bs), I6 a1, I6 ↑(0 : Nat)]) false)] (U6 ↑(254 : Nat))), (8, aV (U6 254)), (16, Ans.call false [(0, 0)] [(0, Row.mk (PV.st 3 [PV.vec nl (B8 N bs), I6 a2, I6 ↑(0 : Nat)]) false)] (U6 v)), (22, aV (I6 0)), (27, aF), (31, aF)] [(0, 0)] [Pt 50 [(0, Row.mk (PV.st 3 [PV.vec nl (B8 N bs), I6 a, I6 ↑(0 : Nat)]) false)] [PV.at 0 [], I6 1] [(0, Row.mk (PV.st 3 [PV.vec nl (B8 N bs), I6 a1, I6 ↑(0 : Nat)]) false)] (U6 ↑(254 : Nat)), U6 ↑(254 : Nat) = U6 254, Pt 50 [(0, Row.mk (PV.st 3 [PV.vec nl (B8 N bs), I6 a1, I6 ↑(0 : Nat)]) false)] [PV.at 0 [], I6 4] [(0, Row.mk (PV.st 3 [PV.vec nl (B8 N bs), I6 a2, I6 ↑(0 : Nat)]) false)] (U6 v), I6 ↑(0 : Nat) = I6 0, decide ((v:Int) < 65536) = false, decide ((v:Int) > (m:Int)) = false, rr (PV.st 3 [PV.vec nl (B8 N bs), I6 a2, I6 ↑(0 : Nat)]), rr (U6 v)] (by kernel_rfl) (ac (c1) (ac (cg (by omega)) (ac (c2) (ac (cg (by omega)) (ac (decide_eq_false (by omega)) (ac (decide_eq_false (by omega)) (ac rfl (ao rfl))))))))
set_option maxHeartbeats 4000000 in
theorem Pn {nl : Bool} {N m : Nat} {bs : Liz} {r : Rd} (hr : r.In bs N) (hN : N ≤ 1000000) (hm : m < 18446744073709551616) (hnl : nl = true → N = 0) (h0 : r.e = 0) (hs : 0 < r.s.length) (hw : at0 r.s 0 = 255) :
  Pt 52 [(0, rdq nl N bs (N - r.s.length) 0)] [.at 0 [], .int .u64 m] [(0, rdq nl N bs (N - (r.var m).s.length) (r.var m).e)] (.int .u64 ((r.vn m : Nat) : Int)) := by
 refine pO Tryz.func52 (by kernel_rfl) ?_
 have hle := hr.le
 have hbl := hr.len
 have c1 := Bc (nl := nl) (w := 1) hr hN (by omega) (by omega) (by omega) hnl
 have e1 : r.tk 1 = ⟨r.s.drop 1, 0⟩ := by unfold Rd.tk; rw [if_pos h0, if_pos (by omega)]
 have e3 : r.nv 1 = 255 := by unfold Rd.nv; rw [if_pos ⟨h0, by omega⟩, Jp, hw]
 rw [e1, e3, h0] at c1
 have hr1 : (Rd.mk (r.s.drop 1) 0).In bs N := by rw [← e1]; exact hr.tk 1
 have c2 := Bc (nl := nl) (w := 8) hr1 hN (by show 0 ≤ 100; omega) (by omega) (by omega) hnl
 have w0 : wdt (at0 r.s 0) = 8 := by rw [hw]; rfl
 have l0 : lst (at0 r.s 0) = 4294967296 := by rw [hw]; rfl
 have v0 : Gz r.s = lv (r.s.drop 1) 8 := by unfold Gz; rw [w0, if_neg (by omega)]
 have hl1 : (r.s.drop 1).length = r.s.length - 1 := List.length_drop
 by_cases hsh : r.s.length < 1 + 8
 ·have hve : r.ve m = 2 := by unfold Rd.ve; rw [if_pos h0, w0, if_pos hsh]
  obtain ⟨q1, q2⟩ := Rd.Cs hve (by omega)
  have t1 : (Rd.mk (r.s.drop 1) 0).tk 8 = ⟨r.s.drop 1, 2⟩ := by unfold Rd.tk; rw [if_pos rfl, if_neg (by show ¬ _ ≤ (r.s.drop 1).length; omega)]
  have t2 : (Rd.mk (r.s.drop 1) 0).nv 8 = 0 := by unfold Rd.nv; rw [if_neg (fun h => by have := h.2; simp only at this; omega)]
  rw [t1, t2] at c2
  rw [q1, q2]
  dsimp only at *
  have hb : N - r.s.length ≤ 1000000 := by omega
  have hb2 : N - (r.s.drop 1).length ≤ 1000000 := by omega
  clear hve q1 q2 e1 e3 w0 l0 v0 hle t1 t2 hl1
  generalize N - (r.s.drop 1).length = a1 at *
  generalize N - r.s.length = a at *
  unfold rdq at *
  refine W.ret [(7, Ans.call false [(0, 0)] [(0, Row.mk (PV.st 3 [PV.vec nl (B8 N bs), I6 a1, I6 ↑(0 : Nat)]) false)] (U6 ↑(255 : Nat))), (8, aV (U6 255)), (18, Ans.call false [(0, 0)] [(0, Row.mk (PV.st 3 [PV.vec nl (B8 N bs), I6 a1, I6 ↑(2 : Nat)]) false)] (U6 ↑(0 : Nat))), (19, aV (U6 0)), (24, aV (I6 2))] [(0, 0)] [Pt 50 [(0, Row.mk (PV.st 3 [PV.vec nl (B8 N bs), I6 a, I6 ↑(0 : Nat)]) false)] [PV.at 0 [], I6 1] [(0, Row.mk (PV.st 3 [PV.vec nl (B8 N bs), I6 a1, I6 ↑(0 : Nat)]) false)] (U6 ↑(255 : Nat)), U6 ↑(255 : Nat) = U6 255, Pt 50 [(0, Row.mk (PV.st 3 [PV.vec nl (B8 N bs), I6 a1, I6 ↑(0 : Nat)]) false)] [PV.at 0 [], I6 8] [(0, Row.mk (PV.st 3 [PV.vec nl (B8 N bs), I6 a1, I6 ↑(2 : Nat)]) false)] (U6 ↑(0 : Nat)), U6 ↑(0 : Nat) = U6 0, I6 ↑(2 : Nat) = I6 2, rr (PV.st 3 [PV.vec nl (B8 N bs), I6 a, I6 ↑(2 : Nat)]), U6 0 = U6 ↑(0 : Nat)] (by kernel_rfl) (ac (c1) (ac (cg (by omega)) (ac (c2) (ac (cg (by omega)) (ac (cg (by omega)) (ac rfl (ao (cg (by omega)))))))))
 ·have t1 : (Rd.mk (r.s.drop 1) 0).tk 8 = ⟨r.s.drop (1 + 8), 0⟩ := by unfold Rd.tk; rw [if_pos rfl, if_pos (by show _ ≤ (r.s.drop 1).length; omega), List.drop_drop]
  have t2 : (Rd.mk (r.s.drop 1) 0).nv 8 = lv (r.s.drop 1) 8 := by unfold Rd.nv; rw [if_pos ⟨rfl, by show _ ≤ (r.s.drop 1).length; omega⟩]
  rw [t1, t2] at c2
  have hvl := LA hr.bytes
  rw [v0] at hvl
  have hve : r.ve m = if lv (r.s.drop 1) 8 < 4294967296 then 3 else if m < lv (r.s.drop 1) 8 then 4 else 0 := by unfold Rd.ve; rw [if_pos h0, w0, if_neg hsh, l0, v0]
  have hb : N - r.s.length ≤ 1000000 := by omega
  have hb2 : N - (r.s.drop 1).length ≤ 1000000 := by omega
  have hb3 : N - (r.s.drop (1 + 8)).length ≤ 1000000 := by omega
  by_cases hlt : lv (r.s.drop 1) 8 < 4294967296
  ·rw [if_pos hlt] at hve
   obtain ⟨q1, q2⟩ := Rd.Cs hve (by omega)
   rw [q1, q2]
   have c3 := Ca (nl := nl) (e := 0) (a := N - (r.s.drop (1 + 8)).length) (a' := N - r.s.length) (e' := 3) hbl (by omega) (by omega) (by omega) (by omega)
   rw [if_pos rfl] at c3
   dsimp only at *
   clear hve q1 q2 e1 e3 w0 l0 v0 hle t1 t2 hl1
   generalize lv (r.s.drop 1) 8 = v at *
   generalize N - (r.s.drop (1 + 8)).length = a2 at *
   generalize N - (r.s.drop 1).length = a1 at *
   generalize N - r.s.length = a at *
   unfold rdq at *
   refine W.ret [(7, Ans.call false [(0, 0)] [(0, Row.mk (PV.st 3 [PV.vec nl (B8 N bs), I6 a1, I6 ↑(0 : Nat)]) false)] (U6 ↑(255 : Nat))), (8, aV (U6 255)), (18, Ans.call false [(0, 0)] [(0, Row.mk (PV.st 3 [PV.vec nl (B8 N bs), I6 a2, I6 ↑(0 : Nat)]) false)] (U6 v)), (24, aV (I6 0)), (29, aT), (33, Ans.call false [(0, 0)] [(0, Row.mk (PV.st 3 [PV.vec nl (B8 N bs), I6 a, I6 ↑(3 : Nat)]) false)] (PV.tup []))] [(0, 0)] [Pt 50 [(0, Row.mk (PV.st 3 [PV.vec nl (B8 N bs), I6 a, I6 ↑(0 : Nat)]) false)] [PV.at 0 [], I6 1] [(0, Row.mk (PV.st 3 [PV.vec nl (B8 N bs), I6 a1, I6 ↑(0 : Nat)]) false)] (U6 ↑(255 : Nat)), U6 ↑(255 : Nat) = U6 255, Pt 50 [(0, Row.mk (PV.st 3 [PV.vec nl (B8 N bs), I6 a1, I6 ↑(0 : Nat)]) false)] [PV.at 0 [], I6 8] [(0, Row.mk (PV.st 3 [PV.vec nl (B8 N bs), I6 a2, I6 ↑(0 : Nat)]) false)] (U6 v), I6 ↑(0 : Nat) = I6 0, decide ((v:Int) < 4294967296) = true, Pt 74 [(0, Row.mk (PV.st 3 [PV.vec nl (B8 N bs), I6 a2, I6 ↑(0 : Nat)]) false)] [PV.at 0 [], I6 a, I6 3] [(0, Row.mk (PV.st 3 [PV.vec nl (B8 N bs), I6 a, I6 ↑(3 : Nat)]) false)] (PV.tup []), rr (PV.st 3 [PV.vec nl (B8 N bs), I6 a, I6 ↑(3 : Nat)]), U6 0 = U6 ↑(0 : Nat)] (by kernel_rfl) (ac (c1) (ac (cg (by omega)) (ac (c2) (ac (cg (by omega)) (ac (decide_eq_true (by omega)) (ac (c3) (ac rfl (ao (cg (by omega))))))))))
  ·rw [if_neg hlt] at hve
   by_cases hgt : m < lv (r.s.drop 1) 8
   ·rw [if_pos hgt] at hve
    obtain ⟨q1, q2⟩ := Rd.Cs hve (by omega)
    rw [q1, q2]
    have c3 := Ca (nl := nl) (e := 0) (a := N - (r.s.drop (1 + 8)).length) (a' := N - r.s.length) (e' := 4) hbl (by omega) (by omega) (by omega) (by omega)
    rw [if_pos rfl] at c3
    dsimp only at *
    clear hve q1 q2 e1 e3 w0 l0 v0 hle t1 t2 hl1
    generalize lv (r.s.drop 1) 8 = v at *
    generalize N - (r.s.drop (1 + 8)).length = a2 at *
    generalize N - (r.s.drop 1).length = a1 at *
    generalize N - r.s.length = a at *
    unfold rdq at *
    refine W.ret [(7, Ans.call false [(0, 0)] [(0, Row.mk (PV.st 3 [PV.vec nl (B8 N bs), I6 a1, I6 ↑(0 : Nat)]) false)] (U6 ↑(255 : Nat))), (8, aV (U6 255)), (18, Ans.call false [(0, 0)] [(0, Row.mk (PV.st 3 [PV.vec nl (B8 N bs), I6 a2, I6 ↑(0 : Nat)]) false)] (U6 v)), (24, aV (I6 0)), (29, aF), (33, aT), (37, Ans.call false [(0, 0)] [(0, Row.mk (PV.st 3 [PV.vec nl (B8 N bs), I6 a, I6 ↑(4 : Nat)]) false)] (PV.tup []))] [(0, 0)] [Pt 50 [(0, Row.mk (PV.st 3 [PV.vec nl (B8 N bs), I6 a, I6 ↑(0 : Nat)]) false)] [PV.at 0 [], I6 1] [(0, Row.mk (PV.st 3 [PV.vec nl (B8 N bs), I6 a1, I6 ↑(0 : Nat)]) false)] (U6 ↑(255 : Nat)), U6 ↑(255 : Nat) = U6 255, Pt 50 [(0, Row.mk (PV.st 3 [PV.vec nl (B8 N bs), I6 a1, I6 ↑(0 : Nat)]) false)] [PV.at 0 [], I6 8] [(0, Row.mk (PV.st 3 [PV.vec nl (B8 N bs), I6 a2, I6 ↑(0 : Nat)]) false)] (U6 v), I6 ↑(0 : Nat) = I6 0, decide ((v:Int) < 4294967296) = false, decide ((v:Int) > (m:Int)) = true, Pt 74 [(0, Row.mk (PV.st 3 [PV.vec nl (B8 N bs), I6 a2, I6 ↑(0 : Nat)]) false)] [PV.at 0 [], I6 a, I6 4] [(0, Row.mk (PV.st 3 [PV.vec nl (B8 N bs), I6 a, I6 ↑(4 : Nat)]) false)] (PV.tup []), rr (PV.st 3 [PV.vec nl (B8 N bs), I6 a, I6 ↑(4 : Nat)]), U6 0 = U6 ↑(0 : Nat)] (by kernel_rfl) (ac (c1) (ac (cg (by omega)) (ac (c2) (ac (cg (by omega)) (ac (decide_eq_false (by omega)) (ac (decide_eq_true (by omega)) (ac (c3) (ac rfl (ao (cg (by omega)))))))))))
   ·rw [if_neg hgt] at hve
    obtain ⟨q1, q2⟩ := Rd.JW hve
    rw [w0] at q1
    rw [q1, q2, v0]
    dsimp only at *
    clear hve q1 q2 e1 e3 w0 l0 v0 hle t1 t2 hl1
    generalize lv (r.s.drop 1) 8 = v at *
    generalize N - (r.s.drop (1 + 8)).length = a2 at *
    generalize N - (r.s.drop 1).length = a1 at *
    generalize N - r.s.length = a at *
    unfold rdq at *
    refine W.ret [(7, Ans.call false [(0, 0)] [(0, Row.mk (PV.st 3 [PV.vec nl (B8 N bs), I6 a1, I6 ↑(0 : Nat)]) false)] (U6 ↑(255 : Nat))), (8, aV (U6 255)), (18, Ans.call false [(0, 0)] [(0, Row.mk (PV.st 3 [PV.vec nl (B8 N bs), I6 a2, I6 ↑(0 : Nat)]) false)] (U6 v)), (24, aV (I6 0)), (29, aF), (33, aF)] [(0, 0)] [Pt 50 [(0, Row.mk (PV.st 3 [PV.vec nl (B8 N bs), I6 a, I6 ↑(0 : Nat)]) false)] [PV.at 0 [], I6 1] [(0, Row.mk (PV.st 3 [PV.vec nl (B8 N bs), I6 a1, I6 ↑(0 : Nat)]) false)] (U6 ↑(255 : Nat)), U6 ↑(255 : Nat) = U6 255, Pt 50 [(0, Row.mk (PV.st 3 [PV.vec nl (B8 N bs), I6 a1, I6 ↑(0 : Nat)]) false)] [PV.at 0 [], I6 8] [(0, Row.mk (PV.st 3 [PV.vec nl (B8 N bs), I6 a2, I6 ↑(0 : Nat)]) false)] (U6 v), I6 ↑(0 : Nat) = I6 0, decide ((v:Int) < 4294967296) = false, decide ((v:Int) > (m:Int)) = false, rr (PV.st 3 [PV.vec nl (B8 N bs), I6 a2, I6 ↑(0 : Nat)]), rr (U6 v)] (by kernel_rfl) (ac (c1) (ac (cg (by omega)) (ac (c2) (ac (cg (by omega)) (ac (decide_eq_false (by omega)) (ac (decide_eq_false (by omega)) (ac rfl (ao rfl))))))))
theorem Mc {nl : Bool} {N m : Nat} {bs : Liz} {r : Rd} (hr : r.In bs N) (hN : N ≤ 1000000) (he : r.e ≤ 100) (hm : m < 18446744073709551616) (hnl : nl = true → N = 0) :
  Pt 52 [(0, rdq nl N bs (N - r.s.length) r.e)] [.at 0 [], .int .u64 m] [(0, rdq nl N bs (N - (r.var m).s.length) (r.var m).e)] (.int .u64 ((r.vn m : Nat) : Int)) := by
 by_cases h0 : r.e = 0
 ·rw [h0]
  by_cases hs : r.s.length = 0
  ·have a0 : at0 r.s 0 = 0 := by rw [List.eq_nil_of_length_eq_zero hs]; rfl
   have hve : r.ve m = 2 := by unfold Rd.ve; rw [if_pos h0, a0]; exact if_pos (by show r.s.length < 1 + 0; omega)
   obtain ⟨q1, q2⟩ := Rd.Cs hve (by omega)
   rw [q1, q2]
   exact O4 hr hN hm hnl h0 hs
  ·by_cases h2 : at0 r.s 0 = 253
   ·exact PD hr hN hm hnl h0 (by omega) h2
   ·by_cases h4 : at0 r.s 0 = 254
    ·exact Pz hr hN hm hnl h0 (by omega) h4
    ·by_cases h8 : at0 r.s 0 = 255
     ·exact Pn hr hN hm hnl h0 (by omega) h8
     ·exact O0 hr hN hm hnl h0 (by omega) ⟨h2, h4, h8⟩
 ·have hve : r.ve m = r.e := by unfold Rd.ve; rw [if_neg h0]
  obtain ⟨q1, q2⟩ := Rd.Cs hve h0
  rw [q1, q2]
  exact PH hr hN he hm hnl h0
end Go.Proofs
namespace Go.Proofs
open Go Go.Pe Go.Pm
set_option maxRecDepth 100000
set_option linter.unusedVariables false
def wPV (r : Rd) (m : Nat) : PV := .vec (if r.we m = 0 then false else true) (.iarr .u8 (r.wv m).length (r.wv m))
theorem KY {nl : Bool} {N m : Nat} {bs : Liz} {r : Rd} (hr : r.In bs N) (hN : N ≤ 1000000) (he : r.e ≤ 100) (hm : m ≤ 1000000) (hnl : nl = true → N = 0) :
  Pt 53 [(0, rdq nl N bs (N - r.s.length) r.e)] [.at 0 [], .int .i64 m] [(0, rdq nl N bs (N - (r.wd m).s.length) (r.wd m).e)] (wPV r m) := by
 refine pO Tryz.func53 (by kernel_rfl) ?_
 have hle := hr.le
 have hbl := hr.len
 have h2 : mx (m : Int) 0 = (m : Int) := by unfold mx; split <;> omega
 have c1 := Mc (nl := nl) (m := m) hr hN he (by omega) hnl
 have hv := hr.var m
 have hvle := hv.le
 have hvn := Rd.vn_le r m
 unfold wPV
 by_cases h0 : r.ve m = 0
 ·obtain ⟨q1, q2⟩ := Rd.JW h0
  have hve : (r.var m).e = 0 := by rw [q1]
  by_cases hl : r.vn m ≤ (r.var m).s.length
  ·have hwe : r.we m = 0 := by unfold Rd.we; rw [if_pos h0, if_pos hl]
   have hwd : r.wd m = ⟨(r.var m).s.drop (r.vn m), 0⟩ := by unfold Rd.wd; rw [if_pos hwe]
   have hwv : r.wv m = (r.var m).s.take (r.vn m) := by unfold Rd.wv; rw [if_pos hwe]
   have hlen : ((r.var m).s.take (r.vn m)).length = r.vn m := by rw [List.length_take]; omega
   have hnl' : nl = false := by
    cases nl with
    | false => rfl
    | true =>
     have := hnl rfl
     have := Rd.Qq h0
     omega
   have c2 := JL (nl := nl) (a := N - (r.var m).s.length) (w := r.vn m) hbl hN (by omega) hnl
   rw [← hv.eq] at c2
   rw [hwd, hwe, hwv, if_pos rfl, hlen]
   rw [hve] at c1
   have e4 : N - ((r.var m).s.drop (r.vn m)).length = N - (r.var m).s.length + r.vn m := by rw [List.length_drop]; omega
   dsimp only
   rw [e4]
   subst hnl'
   have hb : N - r.s.length ≤ 1000000 := by omega
   have hb2 : N - (r.var m).s.length ≤ 1000000 := by omega
   generalize (r.var m).s.take (r.vn m) = tk at *
   generalize r.vn m = v at *
   clear q1 q2 hwe hwd hwv hve hl e4
   generalize N - (r.var m).s.length = a1 at *
   generalize N - r.s.length = a at *
   generalize r.e = e at *
   unfold rdq at *
   refine W.ret [(8, aV (I6 m)), (9, aV (U6 m)), (10, Ans.call false [(0, 0)] [(0, Row.mk (PV.st 3 [PV.vec false (B8 N bs), I6 a1, I6 ↑(0 : Nat)]) false)] (U6 v)), (14, aV (I6 v)), (15, Ans.call false [(0, 0)] [(0, Row.mk (PV.st 3 [PV.vec false (B8 N bs), I6 ↑(a1 + v), I6 ↑(0 : Nat)]) false)] (PV.vec false (B8 v tk))), (20, aV (I6 0))] [(0, 0)] [I6 (mx (m:Int) (0 : Int)) = I6 m, U6 (IntKind.wrap .u64 (m:Int)) = U6 m, Pt 52 [(0, Row.mk (PV.st 3 [PV.vec false (B8 N bs), I6 a, I6 e]) false)] [PV.at 0 [], U6 m] [(0, Row.mk (PV.st 3 [PV.vec false (B8 N bs), I6 a1, I6 ↑(0 : Nat)]) false)] (U6 v), I6 (IntKind.wrap .i64 (v:Int)) = I6 v, Pt 73 [(0, Row.mk (PV.st 3 [PV.vec false (B8 N bs), I6 a1, I6 ↑(0 : Nat)]) false)] [PV.at 0 [], I6 v] [(0, Row.mk (PV.st 3 [PV.vec false (B8 N bs), I6 ↑(a1 + v), I6 ↑(0 : Nat)]) false)] (PV.vec false (B8 v tk)), I6 ↑(0 : Nat) = I6 0, rr (PV.st 3 [PV.vec false (B8 N bs), I6 ↑(a1 + v), I6 ↑(0 : Nat)]), rr (PV.vec false (B8 v tk))] (by kernel_rfl) (ac (cg (h2)) (ac (cg (BC rfl (by omega) (by omega))) (ac (c1) (ac (wj (by omega)) (ac (c2) (ac (cg (by omega)) (ac rfl (ao rfl))))))))
  ·have hwe : r.we m = 2 := by unfold Rd.we; rw [if_pos h0, if_neg hl]
   have hwd : r.wd m = ⟨r.s, 2⟩ := by unfold Rd.wd; rw [hwe, if_neg (by omega)]
   have hwv : r.wv m = [] := by unfold Rd.wv; rw [hwe, if_neg (by omega)]
   have c2 := JZ (nl := nl) (a := N - (r.var m).s.length) (w := r.vn m) hbl hN (by omega) (by omega) (by omega)
   rw [hwd, hwe, hwv, if_neg (by omega)]
   rw [hve] at c1
   dsimp only [List.length_nil]
   have hb : N - r.s.length ≤ 1000000 := by omega
   have hb2 : N - (r.var m).s.length ≤ 1000000 := by omega
   generalize r.vn m = v at *
   clear q1 q2 hwe hwd hwv hve hl
   generalize N - (r.var m).s.length = a1 at *
   generalize N - r.s.length = a at *
   generalize r.e = e at *
   unfold rdq Mw at *
   refine W.ret [(8, aV (I6 m)), (9, aV (U6 m)), (10, Ans.call false [(0, 0)] [(0, Row.mk (PV.st 3 [PV.vec nl (B8 N bs), I6 a1, I6 ↑(0 : Nat)]) false)] (U6 v)), (14, aV (I6 v)), (15, Ans.call false [(0, 0)] [(0, Row.mk (PV.st 3 [PV.vec nl (B8 N bs), I6 a1, I6 ↑(2 : Nat)]) false)] (PV.vec true (B8 0 []))), (20, aV (I6 2))] [(0, 0)] [I6 (mx (m:Int) (0 : Int)) = I6 m, U6 (IntKind.wrap .u64 (m:Int)) = U6 m, Pt 52 [(0, Row.mk (PV.st 3 [PV.vec nl (B8 N bs), I6 a, I6 e]) false)] [PV.at 0 [], U6 m] [(0, Row.mk (PV.st 3 [PV.vec nl (B8 N bs), I6 a1, I6 ↑(0 : Nat)]) false)] (U6 v), I6 (IntKind.wrap .i64 (v:Int)) = I6 v, Pt 73 [(0, Row.mk (PV.st 3 [PV.vec nl (B8 N bs), I6 a1, I6 ↑(0 : Nat)]) false)] [PV.at 0 [], I6 v] [(0, Row.mk (PV.st 3 [PV.vec nl (B8 N bs), I6 a1, I6 ↑(2 : Nat)]) false)] (PV.vec true (B8 0 [])), I6 ↑(2 : Nat) = I6 2, rr (PV.st 3 [PV.vec nl (B8 N bs), I6 a, I6 ↑(2 : Nat)]), rr (PV.vec true (B8 0 []))] (by kernel_rfl) (ac (cg (h2)) (ac (cg (BC rfl (by omega) (by omega))) (ac (c1) (ac (wj (by omega)) (ac (c2) (ac (cg (by omega)) (ac rfl (ao rfl))))))))
 ·obtain ⟨q1, q2⟩ := Rd.Cs (r := r) (m := m) rfl h0
  have hwe : r.we m = r.ve m := by unfold Rd.we; rw [if_neg h0]
  have hwd : r.wd m = ⟨r.s, r.ve m⟩ := by unfold Rd.wd; rw [hwe, if_neg h0]
  have hwv : r.wv m = [] := by unfold Rd.wv; rw [hwe, if_neg h0]
  have hvb : r.ve m ≤ 100 := by
   unfold Rd.ve
   repeat' split
   all_goals omega
  have c2 := Jr (nl := nl) (a := N - r.s.length) (e := r.ve m) (w := 0) hbl (by omega) hvb h0
  rw [q1, q2] at c1
  rw [hwd, hwe, hwv, if_neg h0]
  dsimp only [List.length_nil] at *
  have hb : N - r.s.length ≤ 1000000 := by omega
  have hne : ¬ ((r.ve m : Int) = 0) := by omega
  clear q1 q2 hwe hwd hwv
  generalize r.ve m = ve at *
  generalize N - r.s.length = a at *
  generalize r.e = e at *
  unfold rdq Mw at *
  refine W.ret [(8, aV (I6 m)), (9, aV (U6 m)), (10, Ans.call false [(0, 0)] [(0, Row.mk (PV.st 3 [PV.vec nl (B8 N bs), I6 a, I6 ve]) false)] (U6 ↑(0 : Nat))), (11, aV (U6 0)), (14, aV (I6 0)), (15, Ans.call false [(0, 0)] [(0, Row.mk (PV.st 3 [PV.vec nl (B8 N bs), I6 a, I6 ve]) false)] (PV.vec true (B8 0 []))), (21, aT)] [(0, 0)] [I6 (mx (m:Int) (0 : Int)) = I6 m, U6 (IntKind.wrap .u64 (m:Int)) = U6 m, Pt 52 [(0, Row.mk (PV.st 3 [PV.vec nl (B8 N bs), I6 a, I6 e]) false)] [PV.at 0 [], U6 m] [(0, Row.mk (PV.st 3 [PV.vec nl (B8 N bs), I6 a, I6 ve]) false)] (U6 ↑(0 : Nat)), U6 ↑(0 : Nat) = U6 0, I6 (IntKind.wrap .i64 (0 : Int)) = I6 0, Pt 73 [(0, Row.mk (PV.st 3 [PV.vec nl (B8 N bs), I6 a, I6 ve]) false)] [PV.at 0 [], I6 0] [(0, Row.mk (PV.st 3 [PV.vec nl (B8 N bs), I6 a, I6 ve]) false)] (PV.vec true (B8 0 [])), ((ve:Int) != 0) = true, rr (PV.st 3 [PV.vec nl (B8 N bs), I6 a, I6 ve]), rr (PV.vec true (B8 0 []))] (by kernel_rfl) (ac (cg (h2)) (ac (cg (BC rfl (by omega) (by omega))) (ac (c1) (ac (cg (by omega)) (ac (wj (by omega)) (ac (c2) (ac (bne_iff_ne.2 (by omega)) (ac rfl (ao rfl)))))))))
end Go.Proofs
namespace Go.Proofs
open Go Go.Pe Go.Pm
set_option maxRecDepth 100000
set_option linter.unusedVariables false
def osh : Sh := .st 2 [.int .u64, .vec 1 (.int .u8)]
def E9 (o : OutM) : PV := .st 2 [.int .u64 ((o.v : Nat) : Int), .vec o.nl (.iarr .u8 o.b.length o.b)]
def Eb : PV := .vec true (.parr 2 0 osh [])
def zTx : PV := .st 2 [.int .u64 0, Eb]
def Lh (L : List OutM) : PV := if L = [] then Eb else .vec false (.parr 2 L.length osh (L.map E9))
theorem Rd.tk_e {r : Rd} {n : Nat} (h : r.e ≤ 100) : (r.tk n).e ≤ 100 := by
 unfold Rd.tk
 split
 ·split
  ·exact Nat.zero_le _
  ·show 2 ≤ 100; omega
 ·exact h
theorem Rd.ve_e {r : Rd} {m : Nat} (h : r.e ≤ 100) : r.ve m ≤ 100 := by
 unfold Rd.ve
 repeat' split
 all_goals omega
theorem Rd.we_e {r : Rd} {m : Nat} (h : r.e ≤ 100) : r.we m ≤ 100 := by
 have := Rd.ve_e (m := m) h
 unfold Rd.we; repeat' split
 all_goals omega
theorem Rd.wd_e {r : Rd} {m : Nat} (h : r.e ≤ 100) : (r.wd m).e ≤ 100 := by
 have := Rd.we_e (m := m) h
 unfold Rd.wd; split
 ·exact Nat.zero_le _
 ·exact this
def dsTx (nl : Bool) (N : Nat) (b : List Int) (salt n i a e : Nat) (M : List PV) : DS := ⟨[(2, .at 1 []), (4, .at 2 []), (6, .at 3 []), (30, .int .u64 n), (31, .int .u64 i)],
 [(1, ⟨zTx, false⟩), (2, rdq nl N b a e), (3, ⟨.st 2 [.int .u64 salt, .ref 4 [] 2 0 i], false⟩), (4, ⟨.parr 2 i osh M, false⟩)]⟩
def Lb (nl : Bool) (N : Nat) (b : List Int) (salt n a e : Nat) : DS := ⟨[(2, .at 1 []), (4, .at 2 []), (6, .at 3 []), (30, .int .u64 n), (31, .int .u64 0)],
 [(1, ⟨zTx, false⟩), (2, rdq nl N b a e), (3, ⟨.st 2 [.int .u64 salt, Eb], false⟩)]⟩
def Di (salt : Nat) (L : List OutM) (e : Nat) : PV := .tup [if e = 0 then .st 2 [.int .u64 salt, Lh L] else zTx, .int .i64 e]
theorem Qs {r : Rd} (h : r.e ≤ 100) : DI r ≤ 100 := by
 unfold DI
 repeat' split
 all_goals omega
theorem OV : ∀ {n : Nat} {r : Rd}, r.e ≤ 100 → (EL n r).e ≤ 100
 | 0, _, h => h
 | n + 1, r, h => OV (n := n) (Rd.wd_e (Rd.tk_e h))
theorem W_tx {nl : Bool} {N : Nat} {b : Liz} {salt n : Nat} (hN : N ≤ 1000000) (hnl : nl = true → N = 0) (hn : n ≤ 8) : ∀ (k i : Nat) (r : Rd) (L : List OutM), L.length = i → 0 < i → i + k = n → r.In b N → r.e ≤ 100 →
  Wt Tryz.f33 [] [] (Di salt (L ++ Iq k r) (DI (EL k r))) (Ad Tryz.f33 0) (dsTx nl N b salt n i (N - r.s.length) r.e (L.map E9))
 | 0, i, r, L, hL, hi, hk, hr, he => by
  have hc := Nf (nl := nl) hr hN he
  have hbl := hr.len
  have hle := hr.le
  have heb := Qs he
  have hMl : (L.map E9).length = i := by rw [List.length_map, hL]
  have hLne : L ≠ [] := by intro e; rw [e] at hL; simp at hL; omega
  have hin : i = n := by omega
  show W _ _ _ _ _ (Di salt (L ++ []) (DI r)) _ _
  rw [List.append_nil]
  unfold Di Lh
  rw [if_neg hLne, hL]
  have hT : (L.map E9).take i = L.map E9 := List.take_of_length_le (by omega)
  subst hin
  by_cases h0 : DI r = 0
  ·rw [if_pos h0]
   rw [h0] at hc ⊢
   generalize L.map E9 = M at *
   generalize N - r.s.length = a at *
   generalize r.e = e at *
   unfold dsTx rdq zTx Eb at *
   refine W.ret [(0, aF), (2, Ans.call false [(2, 0)] [(0, Row.mk (PV.st 3 [PV.vec nl (B8 N b), I6 a, I6 ↑(0 : Nat)]) false)] (I6 ↑(0 : Nat))), (3, aV (I6 0))] [] [decide ((i:Int) < (i:Int)) = false, Pt 54 [(0, Row.mk (PV.st 3 [PV.vec nl (B8 N b), I6 a, I6 e]) false)] [PV.at 0 []] [(0, Row.mk (PV.st 3 [PV.vec nl (B8 N b), I6 a, I6 ↑(0 : Nat)]) false)] (I6 ↑(0 : Nat)), I6 ↑(0 : Nat) = I6 0, 0 + i ≤ i, PV.tup [PV.st 2 [U6 salt, PV.vec false (PV.parr 2 i (Sh.st 2 [Sh.int .u64, Sh.vec 1 (Sh.int .u8)]) (List.take i M))], I6 0] = PV.tup [PV.st 2 [U6 salt, PV.vec false (PV.parr 2 i (Sh.st 2 [Sh.int .u64, Sh.vec 1 (Sh.int .u8)]) M)], I6 ↑(0 : Nat)]] (by kernel_rfl) (ac (decide_eq_false (by omega)) (ac (hc) (ac (cg (by omega)) (ac (by omega) (ao (by (simp; omega)))))))
  ·rw [if_neg h0]
   have hne : ¬ ((DI r : Int) = 0) := by omega
   generalize L.map E9 = M at *
   generalize DI r = ee at *
   generalize N - r.s.length = a at *
   generalize r.e = e at *
   unfold dsTx rdq zTx Eb at *
   refine W.ret [(0, aF), (2, Ans.call false [(2, 0)] [(0, Row.mk (PV.st 3 [PV.vec nl (B8 N b), I6 a, I6 ee]) false)] (I6 ee)), (5, aT)] [] [decide ((i:Int) < (i:Int)) = false, Pt 54 [(0, Row.mk (PV.st 3 [PV.vec nl (B8 N b), I6 a, I6 e]) false)] [PV.at 0 []] [(0, Row.mk (PV.st 3 [PV.vec nl (B8 N b), I6 a, I6 ee]) false)] (I6 ee), ((ee:Int) != 0) = true, rr (PV.tup [PV.st 2 [U6 0, PV.vec true (PV.parr 2 0 (Sh.st 2 [Sh.int .u64, Sh.vec 1 (Sh.int .u8)]) [])], I6 ee])] (by kernel_rfl) (ac (decide_eq_false (by omega)) (ac (hc) (ac (bne_iff_ne.2 (by omega)) (ao rfl))))
 | k + 1, i, r, L, hL, hi, hk, hr, he => by
  have hbl := hr.len
  have hle := hr.le
  have he1 := Rd.tk_e (n := 8) he
  have hr1 := hr.tk 8
  have hle1 := hr1.le
  have hr2 : (IQ r).In b N := hr1.wd 64
  have hle2 := hr2.le
  have c1 := Bc (nl := nl) (w := 8) hr hN he (by omega) (by omega) hnl
  have c2 := KY (nl := nl) (m := 64) hr1 hN he1 (by omega) hnl
  have hw := W_tx (nl := nl) (salt := salt) hN hnl hn k (i + 1) (IQ r) (L ++ [LW r]) (by rw [List.length_append, hL]; rfl) (by omega) (by omega) hr2 (Rd.wd_e he1)
  rw [List.append_assoc, List.map_append] at hw
  have hq1 : [LW r].map E9 = [.st 2 [.int .u64 ((r.nv 8 : Nat) : Int), wPV (r.tk 8) 64]] := rfl
  rw [hq1] at hw
  clear hq1
  show W _ _ _ _ _ (Di salt (L ++ ([LW r] ++ Iq k (IQ r))) (DI (EL k (IQ r)))) _ _
  have hMl : (L.map E9).length = i := by rw [List.length_map, hL]
  unfold IQ at *
  unfold wPV at *
  generalize Di salt (L ++ ([LW r] ++ Iq k ((r.tk 8).wd 64))) (DI (EL k ((r.tk 8).wd 64))) = res at *
  generalize L.map E9 = M at *
  have hb0 : N - r.s.length ≤ 1000000 := by omega
  have hb1 : N - (r.tk 8).s.length ≤ 1000000 := by omega
  have hb2 : N - ((r.tk 8).wd 64).s.length ≤ 1000000 := by omega
  generalize N - ((r.tk 8).wd 64).s.length = a2 at *
  generalize N - (r.tk 8).s.length = a1 at *
  generalize N - r.s.length = a at *
  generalize ((r.tk 8).wd 64).e = ee2 at *
  generalize (r.tk 8).e = ee1 at *
  generalize r.nv 8 = v at *
  generalize (r.tk 8).wv 64 = tx at *
  generalize (if (r.tk 8).we 64 = 0 then false else true) = nq at *
  generalize r.e = e at *
  unfold dsTx rdq zTx Eb at *
  refine W.seg [(0, aT), (2, Ans.call false [(2, 0)] [(0, Row.mk (PV.st 3 [PV.vec nl (B8 N b), I6 a1, I6 ee1]) false)] (U6 v)), (7, Ans.call false [(2, 0)] [(0, Row.mk (PV.st 3 [PV.vec nl (B8 N b), I6 a2, I6 ee2]) false)] (PV.vec nq (B8 (List.length tx) tx))), (14, Ans.ups [(4, none), (288, some (Row.mk (PV.parr 2 (i + 1) (Sh.st 2 [Sh.int .u64, Sh.vec 1 (Sh.int .u8)]) (M ++ [PV.st 2 [U6 v, PV.vec nq (B8 (List.length tx) tx)]])) false))]), (17, aV (U6 ↑(i + 1)))] [(1, 1), (2, 2), (3, 3), (288, 4)] (DS.mk [(2, PV.at 1 []), (4, PV.at 2 []), (6, PV.at 3 []), (30, U6 n), (31, U6 ↑(i + 1))] [(1, Row.mk (PV.st 2 [U6 0, PV.vec true (PV.parr 2 0 osh [])]) false), (2, Row.mk (PV.st 3 [PV.vec nl (B8 N b), I6 a2, I6 ee2]) false), (3, Row.mk (PV.st 2 [U6 salt, PV.ref 4 [] 2 0 (i + 1)]) false), (4, Row.mk (PV.parr 2 (i + 1) osh (M ++ [PV.st 2 [U6 v, PV.vec nq (B8 (List.length tx) tx)]])) false)]) (todo' := Ad Tryz.f33 0) [decide ((i:Int) < (n:Int)) = true, Pt 50 [(0, Row.mk (PV.st 3 [PV.vec nl (B8 N b), I6 a, I6 e]) false)] [PV.at 0 [], I6 8] [(0, Row.mk (PV.st 3 [PV.vec nl (B8 N b), I6 a1, I6 ee1]) false)] (U6 v), Pt 53 [(0, Row.mk (PV.st 3 [PV.vec nl (B8 N b), I6 a1, I6 ee1]) false)] [PV.at 0 [], I6 64] [(0, Row.mk (PV.st 3 [PV.vec nl (B8 N b), I6 a2, I6 ee2]) false)] (PV.vec nq (B8 (List.length tx) tx)), ([(4, none), (288, some (Row.mk (PV.parr 2 (i + 1) (Sh.st 2 [Sh.int .u64, Sh.vec 1 (Sh.int .u8)]) (List.take i M ++ [PV.st 2 [U6 v, PV.vec nq (B8 (List.length tx) tx)]])) false))] : List (Nat × Option Row)) = [(4, none), (288, some (Row.mk (PV.parr 2 (i + 1) (Sh.st 2 [Sh.int .u64, Sh.vec 1 (Sh.int .u8)]) (M ++ [PV.st 2 [U6 v, PV.vec nq (B8 (List.length tx) tx)]])) false))], 1 ≤ 1, 0 + i = i, (i + 1) * 32 ≤ 140737488355328, i + 1 ≤ 9223372036854775807, U6 (IntKind.wrap .u64 ((i:Int) + 1)) = U6 ↑(i + 1), rr (PV.at 1 []), rr (PV.at 2 []), rr (PV.at 3 []), rr (U6 n), rr (U6 ↑(i + 1)), rr (PV.st 2 [U6 0, PV.vec true (PV.parr 2 0 (Sh.st 2 [Sh.int .u64, Sh.vec 1 (Sh.int .u8)]) [])]), rr (PV.st 3 [PV.vec nl (B8 N b), I6 a2, I6 ee2]), rr (PV.st 2 [U6 salt, PV.ref 4 [] 2 0 (i + 1)]), rr (PV.parr 2 (i + 1) (Sh.st 2 [Sh.int .u64, Sh.vec 1 (Sh.int .u8)]) (M ++ [PV.st 2 [U6 v, PV.vec nq (B8 (List.length tx) tx)]]))] (by kernel_rfl) (ac (decide_eq_true (by omega)) (ac (c1) (ac (c2) (ac (by rw [List.take_of_length_le (show List.length M ≤ i by omega)]) (ac (by omega) (ac (by omega) (ob2 (by omega) (ac (cg (BC rfl (by omega) (by omega))) (ac rfl (ac rfl (ac rfl (ac rfl (ac rfl (ac rfl (ac rfl (ac rfl (ao rfl))))))))))))))))) ?_
  exact hw
theorem W_tx0 {nl : Bool} {N : Nat} {b : Liz} {salt n : Nat} (hN : N ≤ 1000000) (hnl : nl = true → N = 0) (hn : n ≤ 8) (r : Rd) (hr : r.In b N) (he : r.e ≤ 100) :
  Wt Tryz.f33 [] [] (Di salt (Iq n r) (DI (EL n r))) (Ad Tryz.f33 0) (Lb nl N b salt n (N - r.s.length) r.e) := by
 have hbl := hr.len
 have hle := hr.le
 cases n with
 | zero =>
  have hc := Nf (nl := nl) hr hN he
  have heb := Qs he
  show W _ _ _ _ _ (Di salt [] (DI r)) _ _
  unfold Di Lh
  rw [if_pos rfl]
  by_cases h0 : DI r = 0
  ·rw [if_pos h0]
   rw [h0] at hc ⊢
   generalize N - r.s.length = a at *
   generalize r.e = e at *
   unfold Lb rdq zTx Eb at *
   refine W.ret [(2, Ans.call false [(2, 0)] [(0, Row.mk (PV.st 3 [PV.vec nl (B8 N b), I6 a, I6 ↑(0 : Nat)]) false)] (I6 ↑(0 : Nat))), (3, aV (I6 0))] [] [Pt 54 [(0, Row.mk (PV.st 3 [PV.vec nl (B8 N b), I6 a, I6 e]) false)] [PV.at 0 []] [(0, Row.mk (PV.st 3 [PV.vec nl (B8 N b), I6 a, I6 ↑(0 : Nat)]) false)] (I6 ↑(0 : Nat)), I6 ↑(0 : Nat) = I6 0, PV.tup [PV.st 2 [U6 salt, PV.vec true (PV.parr 2 0 (Sh.st 2 [Sh.int .u64, Sh.vec 1 (Sh.int .u8)]) [])], I6 0] = PV.tup [PV.st 2 [U6 salt, PV.vec true (PV.parr 2 0 (Sh.st 2 [Sh.int .u64, Sh.vec 1 (Sh.int .u8)]) [])], I6 ↑(0 : Nat)]] (by kernel_rfl) (ac (hc) (ac (cg (by omega)) (ao rfl)))
  ·rw [if_neg h0]
   have hne : ¬ ((DI r : Int) = 0) := by omega
   generalize DI r = ee at *
   generalize N - r.s.length = a at *
   generalize r.e = e at *
   unfold Lb rdq zTx Eb at *
   refine W.ret [(2, Ans.call false [(2, 0)] [(0, Row.mk (PV.st 3 [PV.vec nl (B8 N b), I6 a, I6 ee]) false)] (I6 ee)), (5, aT)] [] [Pt 54 [(0, Row.mk (PV.st 3 [PV.vec nl (B8 N b), I6 a, I6 e]) false)] [PV.at 0 []] [(0, Row.mk (PV.st 3 [PV.vec nl (B8 N b), I6 a, I6 ee]) false)] (I6 ee), ((ee:Int) != 0) = true, rr (PV.tup [PV.st 2 [U6 0, PV.vec true (PV.parr 2 0 (Sh.st 2 [Sh.int .u64, Sh.vec 1 (Sh.int .u8)]) [])], I6 ee])] (by kernel_rfl) (ac (hc) (ac (bne_iff_ne.2 (by omega)) (ao rfl)))
 | succ k =>
  have he1 := Rd.tk_e (n := 8) he
  have hr1 := hr.tk 8
  have hle1 := hr1.le
  have hr2 : (IQ r).In b N := hr1.wd 64
  have hle2 := hr2.le
  have c1 := Bc (nl := nl) (w := 8) hr hN he (by omega) (by omega) hnl
  have c2 := KY (nl := nl) (m := 64) hr1 hN he1 (by omega) hnl
  have hw := W_tx (nl := nl) (salt := salt) hN hnl hn k 1 (IQ r) [LW r] rfl (by omega) (by omega) hr2 (Rd.wd_e he1)
  have hq1 : [LW r].map E9 = [.st 2 [.int .u64 ((r.nv 8 : Nat) : Int), wPV (r.tk 8) 64]] := rfl
  rw [hq1] at hw
  clear hq1
  show W _ _ _ _ _ (Di salt ([LW r] ++ Iq k (IQ r)) (DI (EL k (IQ r)))) _ _
  unfold IQ at *
  unfold wPV at *
  generalize Di salt ([LW r] ++ Iq k ((r.tk 8).wd 64)) (DI (EL k ((r.tk 8).wd 64))) = res at *
  have hb0 : N - r.s.length ≤ 1000000 := by omega
  have hb1 : N - (r.tk 8).s.length ≤ 1000000 := by omega
  have hb2 : N - ((r.tk 8).wd 64).s.length ≤ 1000000 := by omega
  generalize N - ((r.tk 8).wd 64).s.length = a2 at *
  generalize N - (r.tk 8).s.length = a1 at *
  generalize N - r.s.length = a at *
  generalize ((r.tk 8).wd 64).e = ee2 at *
  generalize (r.tk 8).e = ee1 at *
  generalize r.nv 8 = v at *
  generalize (r.tk 8).wv 64 = tx at *
  generalize (if (r.tk 8).we 64 = 0 then false else true) = nq at *
  generalize r.e = e at *
  have hk1 : k + 1 ≤ 8 := hn
  have hn0 : 0 < k + 1 := Nat.succ_pos k
  generalize k + 1 = n at *
  unfold dsTx Lb rdq zTx Eb at *
  refine W.seg [(0, aT), (2, Ans.call false [(2, 0)] [(0, Row.mk (PV.st 3 [PV.vec nl (B8 N b), I6 a1, I6 ee1]) false)] (U6 v)), (7, Ans.call false [(2, 0)] [(0, Row.mk (PV.st 3 [PV.vec nl (B8 N b), I6 a2, I6 ee2]) false)] (PV.vec nq (B8 (List.length tx) tx))), (17, aV (U6 1))] [(1, 1), (2, 2), (3, 3), (288, 4)] (DS.mk [(2, PV.at 1 []), (4, PV.at 2 []), (6, PV.at 3 []), (30, U6 n), (31, U6 ↑(1 : Nat))] [(1, Row.mk (PV.st 2 [U6 0, PV.vec true (PV.parr 2 0 osh [])]) false), (2, Row.mk (PV.st 3 [PV.vec nl (B8 N b), I6 a2, I6 ee2]) false), (3, Row.mk (PV.st 2 [U6 salt, PV.ref 4 [] 2 0 1]) false), (4, Row.mk (PV.parr 2 1 osh [PV.st 2 [U6 v, PV.vec nq (B8 (List.length tx) tx)]]) false)]) (todo' := Ad Tryz.f33 0) [decide (0 < (n:Int)) = true, Pt 50 [(0, Row.mk (PV.st 3 [PV.vec nl (B8 N b), I6 a, I6 e]) false)] [PV.at 0 [], I6 8] [(0, Row.mk (PV.st 3 [PV.vec nl (B8 N b), I6 a1, I6 ee1]) false)] (U6 v), Pt 53 [(0, Row.mk (PV.st 3 [PV.vec nl (B8 N b), I6 a1, I6 ee1]) false)] [PV.at 0 [], I6 64] [(0, Row.mk (PV.st 3 [PV.vec nl (B8 N b), I6 a2, I6 ee2]) false)] (PV.vec nq (B8 (List.length tx) tx)), 1 ≤ 1, 0 < 1, 32 ≤ 140737488355328, 1 ≤ 9223372036854775807, U6 (IntKind.wrap .u64 ((0 : Int) + (1 : Int))) = U6 1, rr (PV.at 1 []), rr (PV.at 2 []), rr (PV.at 3 []), rr (U6 n), U6 1 = U6 ↑(1 : Nat), rr (PV.st 2 [U6 0, PV.vec true (PV.parr 2 0 (Sh.st 2 [Sh.int .u64, Sh.vec 1 (Sh.int .u8)]) [])]), rr (PV.st 3 [PV.vec nl (B8 N b), I6 a2, I6 ee2]), rr (PV.st 2 [U6 salt, PV.ref 4 [] 2 0 1]), rr (PV.parr 2 1 (Sh.st 2 [Sh.int .u64, Sh.vec 1 (Sh.int .u8)]) [PV.st 2 [U6 v, PV.vec nq (B8 (List.length tx) tx)]])] (by kernel_rfl) (ac (decide_eq_true (by omega)) (ac (c1) (ac (c2) (ob4 (by omega) (ac (cg (BC rfl (by omega) (by omega))) (ac rfl (ac rfl (ac rfl (ac rfl (ac (cg (by omega)) (ac rfl (ac rfl (ac rfl (ao rfl)))))))))))))) ?_
  exact hw
def txP (b : List Int) : PV := Di (G6 b) (L8 b) (txE b)
theorem PZ {nl : Bool} {N : Nat} {b : Liz} (hl : b.length = N) (hb : Bytes b) (hN : N ≤ 1000000) (hnl : nl = true → N = 0) : Pt 33 [] [.vec nl (.iarr .u8 N b)] [] (txP b) := by
 refine pO Tryz.func33 (by kernel_rfl) ?_
 have hr : (Rd.mk b 0).In b N := ⟨hl, by show b.length ≤ N; omega, by show b = b.drop (N - b.length); rw [hl, Nat.sub_self]; rfl, hb⟩
 have c0 := pc_rdOf (nl := nl) hN hl hnl
 have c1 := Bc (nl := nl) (w := 1) hr hN (by show 0 ≤ 100; omega) (by omega) (by omega) hnl
 have hr1 : (DW b).In b N := hr.tk 1
 have he1 : (DW b).e ≤ 100 := Rd.tk_e (by show 0 ≤ 100; omega)
 have cE := QW (nl := nl) (N := N) (a := N - (DW b).s.length) (e := (DW b).e) hl he1
 have z0 : N - (Rd.mk b 0).s.length = 0 := by show N - b.length = 0; omega
 rw [z0] at c1
 change PC _ _ _ [(0, rdq nl N b 0 0)] _ [(0, rdq nl N b (N - (DW b).s.length) (DW b).e)] _ at c1
 have hfl : (Rd.mk b 0).nv 1 < 18446744073709551616 := by
  unfold Rd.nv
  split
  ·rw [Jp]; have := Oh hb 0; show at0 b 0 < _; omega
  ·omega
 have hb1 : N - (DW b).s.length ≤ 1000000 := by omega
 unfold txP
 by_cases hf : I5 b
 ·have e3 : txE b = 3 := by unfold txE; rw [if_pos hf]
  rw [e3]
  unfold Di
  rw [if_neg (by omega)]
  clear hr hr1 z0 e3
  rcases hf with h64 | ⟨h0, h1⟩
  ·have hN64 : N = 64 := by omega
   generalize N - (DW b).s.length = a1 at *
   generalize (Rd.mk b 0).nv 1 = v at *
   generalize (DW b).e = e1 at *
   unfold rdq zTx Eb at *
   refine W.ret [(3, Ans.call false [] [(1, Row.mk (PV.st 3 [PV.vec nl (B8 N b), I6 ↑(0 : Nat), I6 ↑(0 : Nat)]) false)] (PV.at 1 [])), (6, Ans.call false [(113, 0)] [(0, Row.mk (PV.st 3 [PV.vec nl (B8 N b), I6 a1, I6 e1]) false)] (U6 v)), (10, aT)] [] [Pt 49 [] [PV.vec nl (B8 N b)] [(1, Row.mk (PV.st 3 [PV.vec nl (B8 N b), I6 ↑(0 : Nat), I6 ↑(0 : Nat)]) false)] (PV.at 1 []), Pt 50 [(0, Row.mk (PV.st 3 [PV.vec nl (B8 N b), I6 ↑(0 : Nat), I6 ↑(0 : Nat)]) false)] [PV.at 0 [], I6 1] [(0, Row.mk (PV.st 3 [PV.vec nl (B8 N b), I6 a1, I6 e1]) false)] (U6 v), ((N:Int) == 64) = true, PV.tup [PV.st 2 [U6 0, PV.vec true (PV.parr 2 0 (Sh.st 2 [Sh.int .u64, Sh.vec 1 (Sh.int .u8)]) [])], I6 3] = PV.tup [PV.st 2 [U6 0, PV.vec true (PV.parr 2 0 (Sh.st 2 [Sh.int .u64, Sh.vec 1 (Sh.int .u8)]) [])], I6 ↑(3 : Nat)]] (by kernel_rfl) (ac (c0) (ac (c1) (ac (decide_eq_true (by omega)) (ao rfl))))
  ·have h1' : ¬ (((Rd.mk b 0).nv 1 : Int) = 1) := by omega
   rw [h0] at c1 cE
   generalize N - (DW b).s.length = a1 at *
   generalize (Rd.mk b 0).nv 1 = v at *
   generalize (DW b).e = e1 at *
   unfold rdq zTx Eb at *
   by_cases hN64 : N = 64
   ·refine W.ret [(3, Ans.call false [] [(1, Row.mk (PV.st 3 [PV.vec nl (B8 N b), I6 (↑(0 : Nat) : Int), I6 (↑(0 : Nat) : Int)]) false)] (PV.at 1 [])), (6, Ans.call false [(113, 0)] [(0, Row.mk (PV.st 3 [PV.vec nl (B8 N b), I6 (a1:Int), I6 (↑(0 : Nat) : Int)]) false)] (U6 (v:Int))), (10, aT)] [] [Pt 49 [] [PV.vec nl (B8 N b)] [(1, Row.mk (PV.st 3 [PV.vec nl (B8 N b), I6 (↑(0 : Nat) : Int), I6 (↑(0 : Nat) : Int)]) false)] (PV.at 1 []), Pt 50 [(0, Row.mk (PV.st 3 [PV.vec nl (B8 N b), I6 (↑(0 : Nat) : Int), I6 (↑(0 : Nat) : Int)]) false)] [PV.at 0 [], I6 1] [(0, Row.mk (PV.st 3 [PV.vec nl (B8 N b), I6 (a1:Int), I6 (↑(0 : Nat) : Int)]) false)] (U6 (v:Int)), ((N:Int) == 64) = true, PV.tup [PV.st 2 [U6 0, PV.vec true (PV.parr 2 0 (Sh.st 2 [Sh.int IntKind.u64, Sh.vec 1 (Sh.int IntKind.u8)]) [])], I6 3] = PV.tup [PV.st 2 [U6 0, PV.vec true (PV.parr 2 0 (Sh.st 2 [Sh.int IntKind.u64, Sh.vec 1 (Sh.int IntKind.u8)]) [])], I6 (↑(3 : Nat) : Int)]] (by kernel_rfl) (ac (c0) (ac (c1) (ac (decide_eq_true (by omega)) (ao rfl))))
   ·refine W.ret [(3, Ans.call false [] [(1, Row.mk (PV.st 3 [PV.vec nl (B8 N b), I6 (↑(0 : Nat) : Int), I6 (↑(0 : Nat) : Int)]) false)] (PV.at 1 [])), (6, Ans.call false [(113, 0)] [(0, Row.mk (PV.st 3 [PV.vec nl (B8 N b), I6 (a1:Int), I6 (↑(0 : Nat) : Int)]) false)] (U6 (v:Int))), (10, aF), (13, Ans.call false [(113, 0)] [(0, Row.mk (PV.st 3 [PV.vec nl (B8 N b), I6 (a1:Int), I6 (↑(0 : Nat) : Int)]) false)] (I6 (↑(0 : Nat) : Int))), (17, aT)] [] [Pt 49 [] [PV.vec nl (B8 N b)] [(1, Row.mk (PV.st 3 [PV.vec nl (B8 N b), I6 (↑(0 : Nat) : Int), I6 (↑(0 : Nat) : Int)]) false)] (PV.at 1 []), Pt 50 [(0, Row.mk (PV.st 3 [PV.vec nl (B8 N b), I6 (↑(0 : Nat) : Int), I6 (↑(0 : Nat) : Int)]) false)] [PV.at 0 [], I6 1] [(0, Row.mk (PV.st 3 [PV.vec nl (B8 N b), I6 (a1:Int), I6 (↑(0 : Nat) : Int)]) false)] (U6 (v:Int)), ((N:Int) == 64) = false, Pt 51 [(0, Row.mk (PV.st 3 [PV.vec nl (B8 N b), I6 (a1:Int), I6 (↑(0 : Nat) : Int)]) false)] [PV.at 0 []] [(0, Row.mk (PV.st 3 [PV.vec nl (B8 N b), I6 (a1:Int), I6 (↑(0 : Nat) : Int)]) false)] (I6 (↑(0 : Nat) : Int)), ((v:Int) != 1) = true, PV.tup [PV.st 2 [U6 0, PV.vec true (PV.parr 2 0 (Sh.st 2 [Sh.int IntKind.u64, Sh.vec 1 (Sh.int IntKind.u8)]) [])], I6 3] = PV.tup [PV.st 2 [U6 0, PV.vec true (PV.parr 2 0 (Sh.st 2 [Sh.int IntKind.u64, Sh.vec 1 (Sh.int IntKind.u8)]) [])], I6 (↑(3 : Nat) : Int)]] (by kernel_rfl) (ac (c0) (ac (c1) (ac (decide_eq_false (by omega)) (ac (cE) (ac (bne_iff_ne.2 (by omega)) (ao rfl))))))
 ·have eE : txE b = DI (EL (txN b) (IM b)) := by unfold txE; rw [if_neg hf]; rfl
  rw [eE]
  have c2 := Bc (nl := nl) (w := 8) hr1 hN he1 (by omega) (by omega) hnl
  have hr2 : (IP b).In b N := hr1.tk 8
  have he2 : (IP b).e ≤ 100 := Rd.tk_e he1
  have c3 := Mc (nl := nl) (m := 8) hr2 hN he2 (by omega) hnl
  have hr3 : (IM b).In b N := hr2.var 8
  have he3 : (IM b).e ≤ 100 := by
   show ((IP b).var 8).e ≤ 100
   have := Rd.ve_e (m := 8) he2
   unfold Rd.var
   split
   ·exact Nat.zero_le _
   ·exact this
  have hw := W_tx0 (nl := nl) (salt := G6 b) hN hnl (n := txN b) (Rd.vn_le _ _) (IM b) hr3 he3
  change W _ _ _ _ _ (Di (G6 b) (L8 b) _) _ _ at hw
  change PC _ _ _ _ _ [(0, rdq nl N b (N - (IP b).s.length) (IP b).e)] (.int .u64 ((G6 b : Nat) : Int)) at c2
  change PC _ _ _ _ _ [(0, rdq nl N b (N - (IM b).s.length) (IM b).e)] (.int .u64 ((txN b : Nat) : Int)) at c3
  have hn8 : txN b ≤ 8 := Rd.vn_le _ _
  have hb2 : N - (IP b).s.length ≤ 1000000 := by omega
  have hb3 : N - (IM b).s.length ≤ 1000000 := by omega
  have hN64 : ¬ ((N : Int) = 64) := by intro e; exact hf (.inl (by omega))
  have hfirst : (DW b).e = 0 → ((Rd.mk b 0).nv 1 : Int) = 1 := fun h => by
   by_cases h1 : (Rd.mk b 0).nv 1 = 1
   ·rw [h1]; rfl
   ·exact absurd (.inr ⟨h, h1⟩) hf
  generalize Di (G6 b) (L8 b) (DI (EL (txN b) (IM b))) = res at *
  clear eE hr hr1 hr2 hr3 z0 hf
  generalize N - (IM b).s.length = a3 at *
  generalize N - (IP b).s.length = a2 at *
  generalize N - (DW b).s.length = a1 at *
  generalize (IM b).e = ee3 at *
  generalize (IP b).e = ee2 at *
  generalize txN b = n at *
  generalize G6 b = salt at *
  generalize (Rd.mk b 0).nv 1 = v at *
  by_cases he0 : (DW b).e = 0
  ·have hv := hfirst he0
   rw [he0] at c1 c2 cE
   generalize (DW b).e = ee1 at *
   unfold Lb rdq zTx Eb at *
   refine W.seg [(3, Ans.call false [] [(1, Row.mk (PV.st 3 [PV.vec nl (B8 N b), I6 ↑(0 : Nat), I6 ↑(0 : Nat)]) false)] (PV.at 1 [])), (6, Ans.call false [(113, 0)] [(0, Row.mk (PV.st 3 [PV.vec nl (B8 N b), I6 a1, I6 ↑(0 : Nat)]) false)] (U6 v)), (7, aV (U6 1)), (10, aF), (13, Ans.call false [(113, 0)] [(0, Row.mk (PV.st 3 [PV.vec nl (B8 N b), I6 a1, I6 ↑(0 : Nat)]) false)] (I6 ↑(0 : Nat))), (21, Ans.call false [(113, 0)] [(0, Row.mk (PV.st 3 [PV.vec nl (B8 N b), I6 a2, I6 ee2]) false)] (U6 salt)), (26, Ans.call false [(113, 0)] [(0, Row.mk (PV.st 3 [PV.vec nl (B8 N b), I6 a3, I6 ee3]) false)] (U6 n))] [(64, 1), (113, 2), (432, 3)] (DS.mk [(2, PV.at 1 []), (4, PV.at 2 []), (6, PV.at 3 []), (30, U6 n), (31, U6 0)] [(1, Row.mk (PV.st 2 [U6 0, PV.vec true (PV.parr 2 0 osh [])]) false), (2, Row.mk (PV.st 3 [PV.vec nl (B8 N b), I6 a3, I6 ee3]) false), (3, Row.mk (PV.st 2 [U6 salt, PV.vec true (PV.parr 2 0 osh [])]) false)]) (todo' := Ad Tryz.f33 0) [Pt 49 [] [PV.vec nl (B8 N b)] [(1, Row.mk (PV.st 3 [PV.vec nl (B8 N b), I6 ↑(0 : Nat), I6 ↑(0 : Nat)]) false)] (PV.at 1 []), Pt 50 [(0, Row.mk (PV.st 3 [PV.vec nl (B8 N b), I6 ↑(0 : Nat), I6 ↑(0 : Nat)]) false)] [PV.at 0 [], I6 1] [(0, Row.mk (PV.st 3 [PV.vec nl (B8 N b), I6 a1, I6 ↑(0 : Nat)]) false)] (U6 v), U6 v = U6 1, ((N:Int) == 64) = false, Pt 51 [(0, Row.mk (PV.st 3 [PV.vec nl (B8 N b), I6 a1, I6 ↑(0 : Nat)]) false)] [PV.at 0 []] [(0, Row.mk (PV.st 3 [PV.vec nl (B8 N b), I6 a1, I6 ↑(0 : Nat)]) false)] (I6 ↑(0 : Nat)), Pt 50 [(0, Row.mk (PV.st 3 [PV.vec nl (B8 N b), I6 a1, I6 ↑(0 : Nat)]) false)] [PV.at 0 [], I6 8] [(0, Row.mk (PV.st 3 [PV.vec nl (B8 N b), I6 a2, I6 ee2]) false)] (U6 salt), Pt 52 [(0, Row.mk (PV.st 3 [PV.vec nl (B8 N b), I6 a2, I6 ee2]) false)] [PV.at 0 [], U6 8] [(0, Row.mk (PV.st 3 [PV.vec nl (B8 N b), I6 a3, I6 ee3]) false)] (U6 n), rr (PV.at 1 []), rr (PV.at 2 []), rr (PV.at 3 []), rr (U6 n), rr (U6 0), rr (PV.st 2 [U6 0, PV.vec true (PV.parr 2 0 (Sh.st 2 [Sh.int .u64, Sh.vec 1 (Sh.int .u8)]) [])]), rr (PV.st 3 [PV.vec nl (B8 N b), I6 a3, I6 ee3]), rr (PV.st 2 [U6 salt, PV.vec true (PV.parr 2 0 (Sh.st 2 [Sh.int .u64, Sh.vec 1 (Sh.int .u8)]) [])])] (by kernel_rfl) (ac (c0) (ac (c1) (ac (cg (hv)) (ac (decide_eq_false (by omega)) (ac (cE) (ac (c2) (ac (c3) (ac rfl (ac rfl (ac rfl (ac rfl (ac rfl (ac rfl (ac rfl (ao rfl))))))))))))))) ?_
   exact hw
  ·have hne : ¬ (((DW b).e : Int) = 0) := by omega
   clear hfirst
   generalize (DW b).e = ee1 at *
   unfold Lb rdq zTx Eb at *
   refine W.seg [(3, Ans.call false [] [(1, Row.mk (PV.st 3 [PV.vec nl (B8 N b), I6 ↑(0 : Nat), I6 ↑(0 : Nat)]) false)] (PV.at 1 [])), (6, Ans.call false [(113, 0)] [(0, Row.mk (PV.st 3 [PV.vec nl (B8 N b), I6 a1, I6 ee1]) false)] (U6 v)), (10, aF), (13, Ans.call false [(113, 0)] [(0, Row.mk (PV.st 3 [PV.vec nl (B8 N b), I6 a1, I6 ee1]) false)] (I6 ee1)), (14, aF), (21, Ans.call false [(113, 0)] [(0, Row.mk (PV.st 3 [PV.vec nl (B8 N b), I6 a2, I6 ee2]) false)] (U6 salt)), (26, Ans.call false [(113, 0)] [(0, Row.mk (PV.st 3 [PV.vec nl (B8 N b), I6 a3, I6 ee3]) false)] (U6 n))] [(64, 1), (113, 2), (432, 3)] (DS.mk [(2, PV.at 1 []), (4, PV.at 2 []), (6, PV.at 3 []), (30, U6 n), (31, U6 0)] [(1, Row.mk (PV.st 2 [U6 0, PV.vec true (PV.parr 2 0 osh [])]) false), (2, Row.mk (PV.st 3 [PV.vec nl (B8 N b), I6 a3, I6 ee3]) false), (3, Row.mk (PV.st 2 [U6 salt, PV.vec true (PV.parr 2 0 osh [])]) false)]) (todo' := Ad Tryz.f33 0) [Pt 49 [] [PV.vec nl (B8 N b)] [(1, Row.mk (PV.st 3 [PV.vec nl (B8 N b), I6 ↑(0 : Nat), I6 ↑(0 : Nat)]) false)] (PV.at 1 []), Pt 50 [(0, Row.mk (PV.st 3 [PV.vec nl (B8 N b), I6 ↑(0 : Nat), I6 ↑(0 : Nat)]) false)] [PV.at 0 [], I6 1] [(0, Row.mk (PV.st 3 [PV.vec nl (B8 N b), I6 a1, I6 ee1]) false)] (U6 v), ((N:Int) == 64) = false, Pt 51 [(0, Row.mk (PV.st 3 [PV.vec nl (B8 N b), I6 a1, I6 ee1]) false)] [PV.at 0 []] [(0, Row.mk (PV.st 3 [PV.vec nl (B8 N b), I6 a1, I6 ee1]) false)] (I6 ee1), ((ee1:Int) == 0) = false, Pt 50 [(0, Row.mk (PV.st 3 [PV.vec nl (B8 N b), I6 a1, I6 ee1]) false)] [PV.at 0 [], I6 8] [(0, Row.mk (PV.st 3 [PV.vec nl (B8 N b), I6 a2, I6 ee2]) false)] (U6 salt), Pt 52 [(0, Row.mk (PV.st 3 [PV.vec nl (B8 N b), I6 a2, I6 ee2]) false)] [PV.at 0 [], U6 8] [(0, Row.mk (PV.st 3 [PV.vec nl (B8 N b), I6 a3, I6 ee3]) false)] (U6 n), rr (PV.at 1 []), rr (PV.at 2 []), rr (PV.at 3 []), rr (U6 n), rr (U6 0), rr (PV.st 2 [U6 0, PV.vec true (PV.parr 2 0 (Sh.st 2 [Sh.int .u64, Sh.vec 1 (Sh.int .u8)]) [])]), rr (PV.st 3 [PV.vec nl (B8 N b), I6 a3, I6 ee3]), rr (PV.st 2 [U6 salt, PV.vec true (PV.parr 2 0 (Sh.st 2 [Sh.int .u64, Sh.vec 1 (Sh.int .u8)]) [])])] (by kernel_rfl) (ac (c0) (ac (c1) (ac (decide_eq_false (by omega)) (ac (cE) (ac (decide_eq_false (by omega)) (ac (c2) (ac (c3) (ac rfl (ac rfl (ac rfl (ac rfl (ac rfl (ac rfl (ac rfl (ao rfl))))))))))))))) ?_
   exact hw
end Go.Proofs
namespace Go.Pm
def above (l : List (List Int)) : List (List Int) := (List.range ((l.length + 1) / 2)).map fun i => HV (l.getD (2 * i) [] ++ l.getD (min (2 * i + 1) (l.length - 1)) [])
def lvl (l : List (List Int)) : Nat → List (List Int)
 | 0 => l
 | k + 1 => above (lvl l k)
def wid (n : Nat) : Nat → Nat
 | 0 => n
 | k + 1 => (wid n k + 1) / 2
theorem AL (l : List (List Int)) : (above l).length = (l.length + 1) / 2 := by unfold above; rw [List.length_map, List.length_range]
theorem PR {l : List (List Int)} {i : Nat} (h : i < (l.length + 1) / 2) : (above l).getD i [] = HV (l.getD (2 * i) [] ++ l.getD (min (2 * i + 1) (l.length - 1)) []) := by
 unfold above
 rw [List.getD_eq_getElem?_getD, List.getElem?_map, List.getElem?_range h]
 rfl
theorem Ej (l : List (List Int)) : ∀ k, (lvl l k).length = wid l.length k
 | 0 => rfl
 | k + 1 => by rw [lvl, AL, Ej l k, wid]
theorem wid_le (n : Nat) : ∀ k, wid n k ≤ 2 ^ 0 * 1 ↔ n ≤ 2 ^ k
 | 0 => by simp [wid]
 | k + 1 => by
  have h : ∀ k c, wid n k ≤ c ↔ n ≤ c * 2 ^ k := by
   intro k
   induction k with
   | zero => intro c; simp [wid]
   | succ k ih =>
    intro c
    rw [wid, show ((wid n k + 1) / 2 ≤ c ↔ wid n k ≤ 2 * c) by omega, ih (2 * c), Nat.pow_succ]
    rw [show 2 * c * 2 ^ k = c * (2 ^ k * 2) by rw [Nat.mul_comm (2 ^ k) 2, ← Nat.mul_assoc, Nat.mul_comm c 2]]
  have := h (k + 1) 1
  simpa using this
theorem OX (n k : Nat) : wid n k ≤ 1 ↔ n ≤ 2 ^ k := by have := wid_le n k; simpa using this
def Gs : Nat → Nat := fun n => if n ≤ 1 then 0 else Nat.log2 (n - 1) + 1
def CL (l : List (List Int)) : List Int := if l = [] then List.replicate 32 0 else (lvl l (Gs l.length)).getD 0 []
theorem IY (n k : Nat) : Gs n ≤ k ↔ n ≤ 2 ^ k := by
 unfold Gs
 have hp := Nat.two_pow_pos k
 split
 ·omega
 ·rw [Nat.succ_le_iff, Nat.log2_lt (by omega)]
  omega
def dblM (l : List (List Int)) : Prop := ∃ k i, 2 * i + 1 < wid l.length k ∧ (lvl l k).getD (2 * i) [] = (lvl l k).getD (2 * i + 1) []
theorem PN {n : Nat} (h : 1 < n) : Gs n = Gs ((n + 1) / 2) + 1 := by
 have e : ∀ k, Gs n ≤ k + 1 ↔ Gs ((n + 1) / 2) ≤ k := by
  intro k
  rw [IY, IY, Nat.pow_succ]
  omega
 have h0 : Gs n ≠ 0 := by
  intro h0
  have := (IY n 0).1 (by omega)
  simp at this
  omega
 have h1 := (e (Gs ((n + 1) / 2))).2 (Nat.le_refl _)
 have h2 := (e (Gs n - 1)).1 (by omega)
 omega
theorem FL (l : List (List Int)) : ∀ k, lvl (above l) k = lvl l (k + 1)
 | 0 => rfl
 | k + 1 => by rw [lvl, FL l k]; rfl
theorem Pg {l : List (List Int)} (h : 0 < l.length) : above l ≠ [] := by
 intro e
 have := AL l
 rw [e] at this
 simp at this
 omega
theorem MC {l : List (List Int)} (h : 1 < l.length) : CL (above l) = CL l := by
 unfold CL
 rw [if_neg (Pg (by omega)), if_neg (by intro e; rw [e] at h; simp at h), FL, AL, PN h]
theorem Po {l : List (List Int)} (h : l.length = 1) : CL l = l.getD 0 [] := by
 unfold CL
 rw [if_neg (by intro e; rw [e] at h; simp at h), h]
 rfl
theorem Kb (n : Nat) : ∀ k, wid ((n + 1) / 2) k = wid n (k + 1)
 | 0 => rfl
 | k + 1 => by rw [wid, Kb n k]; rfl
def dbl1 (l : List (List Int)) : Prop := ∃ i, 2 * i + 1 < l.length ∧ l.getD (2 * i) [] = l.getD (2 * i + 1) []
theorem Ku (l : List (List Int)) : dblM l ↔ dbl1 l ∨ dblM (above l) := by
 constructor
 ·rintro ⟨k, i, h1, h2⟩
  cases k with
  | zero => exact .inl ⟨i, h1, h2⟩
  | succ k => exact .inr ⟨k, i, by rw [AL, Kb]; exact h1, by rw [FL]; exact h2⟩
 ·rintro (⟨i, h1, h2⟩ | ⟨k, i, h1, h2⟩)
  ·exact ⟨0, i, h1, h2⟩
  ·exact ⟨k + 1, i, by rw [AL, Kb] at h1; exact h1, by rw [FL] at h2; exact h2⟩
theorem NM {l : List (List Int)} (h : l.length ≤ 1) : ¬ dblM l := by
 rintro ⟨k, i, h1, _⟩
 have := (OX l.length k).2 (Nat.le_trans h (Nat.two_pow_pos k))
 omega
def dblB (l : List (List Int)) : Bool := (List.range (Gs l.length)).any fun k => (List.range ((lvl l k).length / 2)).any fun i => decide ((lvl l k).getD (2 * i) [] = (lvl l k).getD (2 * i + 1) [])
theorem PW (l : List (List Int)) : dblB l = true ↔ dblM l := by
 unfold dblB dblM
 simp only [List.any_eq_true, List.mem_range, decide_eq_true_eq]
 constructor
 ·rintro ⟨k, hk, i, hi, h⟩
  rw [Ej] at hi
  exact ⟨k, i, by omega, h⟩
 ·rintro ⟨k, i, h1, h2⟩
  refine ⟨k, ?_, i, by rw [Ej]; omega, h2⟩
  rcases Nat.lt_or_ge k (Gs l.length) with g | g
  ·exact g
  ·have := (OX l.length k).2 ((IY l.length k).1 g)
   omega
end Go.Pm
namespace Go.Proofs
open Go Go.Pe Go.Pm
set_option maxRecDepth 100000
set_option linter.unusedVariables false
def hv (x : List Int) : PV := .iarr .u8 32 x
def hsE : Sh := .iarr .u8 32
def hL (n : Nat) (l : List (List Int)) : PV := .parr 32 n (.iarr .u8 32) (l.map hv)
structure Gg (l : List (List Int)) (n : Nat) : Prop where
 len : l.length = n
 el : ∀ x ∈ l, x.length = 32 ∧ Bytes x
theorem Kg {l : List (List Int)} {i : Nat} (h : i < l.length) : (l.map hv).getD i .undef = hv (l.getD i []) := by
 simp [List.getD_eq_getElem?_getD, h]
theorem Gg.get {l : List (List Int)} {n i : Nat} (h : Gg l n) (hi : i < n) : (l.getD i []).length = 32 ∧ Bytes (l.getD i []) := by
 have hi' : i < l.length := by rw [h.len]; exact hi
 have : l.getD i [] = l[i] := by simp [List.getD_eq_getElem?_getD, hi']
 rw [this]
 exact h.el _ (List.getElem_mem hi')
theorem Gg.above {l : List (List Int)} {n : Nat} (h : Gg l n) : Gg (above l) ((n + 1) / 2) := by
 refine ⟨by rw [AL, h.len], fun x hx => ?_⟩
 unfold Pm.above at hx
 obtain ⟨i, _, rfl⟩ := List.mem_map.1 hx
 exact ⟨Dp _, HZ _⟩
theorem pc_pair {a b : Liz} (ha : a.length = 32 ∧ Bytes a) (hb : b.length = 32 ∧ Bytes b) : Pt 22 [] [.vec false (.parr 1 2 bsh [.vec false (.iarr .u8 32 a), .vec false (.iarr .u8 32 b)])] [] (.iarr .u8 32 (HV (a ++ b))) := by
 have e : cat [(false, 32, a), (false, 32, b)] = a ++ b := by simp [cat]
 have c := Jc (nl := false) (l := [(false, 32, a), (false, 32, b)]) (c := 2) rfl (by intro x hx; simp at hx; rcases hx with rfl | rfl; exact ⟨ha.1, ha.2⟩; exact ⟨hb.1, hb.2⟩) (by rw [e, List.length_append]; omega) (by omega)
 rw [e] at c
 exact c
def dsAb (nl : Bool) (n : Nat) (L M : List PV) (j : Nat) : DS := ⟨[(0, .vec nl (.parr 32 n hsE L)), (3, .ref 1 [] 32 0 j), (4, .int .i64 ((2 * j : Nat) : Int))], [(1, ⟨.parr 32 j hsE M, false⟩)]⟩
theorem Ov {nl : Bool} {l : List (List Int)} {n : Nat} (ho : Gg l n) (hn : n ≤ 100000) : ∀ (k j : Nat), k + j = (n + 1) / 2 →
  Wt Tryz.f77 [] [(1, ⟨hL ((n + 1) / 2) (above l), false⟩)] (.ref 1 [] 32 0 ((n + 1) / 2)) (Ad Tryz.f77 0) (dsAb nl n (l.map hv) (((above l).take j).map hv) j)
 | 0, j, hk => by
  have e : (above l).take j = above l := List.take_of_length_le (by rw [AL, ho.len]; omega)
  rw [e]
  have hj : j = (n + 1) / 2 := by omega
  rw [← hj]
  have hge : ¬ (((2 * j : Nat) : Int) < (n : Int)) := by omega
  generalize above l = M at *
  generalize l.map hv = L at *
  unfold hL
  refine W.ret [(3, aF)] [(1, 1)] [decide ((↑(2 * j) : Int) < (n:Int)) = false, rr (PV.parr 32 j (Sh.iarr .u8 32) (List.map hv M)), rr (PV.ref 1 [] 32 0 j)] (by kernel_rfl) (ac (decide_eq_false (by omega)) (ac rfl (ao rfl)))
 | k + 1, j, hk => by
  have h1 : 2 * j < n := by omega
  obtain ⟨m, hm⟩ : ∃ m, m = min (2 * j + 1) (n - 1) := ⟨_, rfl⟩
  have hmI : mn (((2 * j + 1 : Nat)) : Int) ((n : Int) - 1) = (m : Int) := by unfold mn; split <;> omega
  have g1 := Kg (l := l) (i := 2 * j) (by rw [ho.len]; omega)
  have g2 := Kg (l := l) (i := m) (by rw [ho.len]; omega)
  have o1 := ho.get (i := 2 * j) (by omega)
  have o2 := ho.get (i := m) (by omega)
  have c1 := pc_pair o1 o2
  have hab := PR (l := l) (i := j) (by rw [ho.len]; omega)
  rw [ho.len, ← hm] at hab
  have hsucc : (above l).take (j + 1) = (above l).take j ++ [(above l).getD j []] := by
   rw [List.take_add_one]
   congr 1
   rw [List.getD_eq_getElem?_getD, List.getElem?_eq_getElem (by rw [AL, ho.len]; omega)]
   rfl
  have hw := Ov (nl := nl) ho hn k (j + 1) (by omega)
  rw [hsucc, hab, List.map_append] at hw
  have hMl : (((above l).take j).map hv).length = j := by rw [List.length_map, List.length_take, AL, ho.len]; omega
  generalize HV (l.getD (2 * j) [] ++ l.getD m []) = res at *
  generalize l.getD (2 * j) [] = x at *
  generalize l.getD m [] = y at *
  generalize ((above l).take j).map hv = M at *
  generalize l.map hv = L at *
  generalize above l = A at *
  generalize hres : (n + 1) / 2 = N at *
  unfold hv at *
  refine W.seg [(3, aT), (6, aV (PV.cptr (PV.parr 32 n (Sh.iarr .u8 32) L) [Stp.idx (2 * j) 32])), (7, aV (B8 32 x)), (10, aV (I6 ↑(2 * j + 1))), (13, aV (I6 ((n:Int) - 1))), (14, aV (I6 m)), (16, aV (B8 32 y)), (24, Ans.frz [336, 352]), (25, Ans.calla true [] [] [PV.vec false (PV.parr 1 2 bsh [PV.vec false (B8 32 x), PV.vec false (B8 32 y)])] [] (B8 32 res)), (27, Ans.ups [(1, none), (496, some (Row.mk (PV.parr 32 (j + 1) (Sh.iarr .u8 32) (M ++ [B8 32 res])) false))]), (30, aV (I6 ↑(2 * j + 2)))] [(496, 1)] (dsAb nl n L (M ++ List.map (B8 32) [res]) (j + 1)) (todo' := Ad Tryz.f77 0) [decide ((↑(2 * j) : Int) < (n:Int)) = true, PV.cptr (PV.parr 32 n (Sh.iarr .u8 32) L) [Stp.idx (Int.toNat (↑(2 * j) : Int)) 32] = PV.cptr (PV.parr 32 n (Sh.iarr .u8 32) L) [Stp.idx (2 * j) 32], 0 ≤ (↑(2 * j) : Int), (↑(2 * j) : Int) < (n:Int), B8 32 (PV.nums (List.getD L (2 * j) PV.undef)) = B8 32 x, 2 * j < n, I6 (IntKind.wrap .i64 ((↑(2 * j) : Int) + 1)) = I6 ↑(2 * j + 1), I6 (IntKind.wrap .i64 ((n:Int) - 1)) = I6 ((n:Int) - 1), I6 (mn (↑(2 * j + 1) : Int) ((n:Int) - 1)) = I6 m, 0 ≤ (m:Int), (m:Int) < (n:Int), B8 32 (PV.nums (List.getD L m PV.undef)) = B8 32 y, m < n, (0 : Int) ≤ 0, 0 ≤ (↑(32 : Nat) : Int), (↑(32 : Nat) : Int) ≤ (↑(32 : Nat) : Int), (0 : Int) ≤ 0, 0 ≤ (↑(32 : Nat) : Int), (↑(32 : Nat) : Int) ≤ (↑(32 : Nat) : Int), 32 ≤ 32, 32 ≤ 32, 2 ≤ 2, rr ([] : List (Nat × Row)), ([PV.vec false (PV.parr 1 2 (Sh.vec 1 (Sh.int .u8)) [PV.vec false (B8 32 (List.take 32 x)), PV.vec false (B8 32 (List.take 32 y))])] : List PV) = [PV.vec false (PV.parr 1 2 (Sh.vec 1 (Sh.int .u8)) [PV.vec false (B8 32 x), PV.vec false (B8 32 y)])], Pt 22 [] [PV.vec false (PV.parr 1 2 (Sh.vec 1 (Sh.int .u8)) [PV.vec false (B8 32 x), PV.vec false (B8 32 y)])] [] (B8 32 res), ([(1, none), (496, some (Row.mk (PV.parr 32 (j + 1) (Sh.iarr .u8 32) (List.take j M ++ [B8 32 res])) false))] : List (Nat × Option Row)) = [(1, none), (496, some (Row.mk (PV.parr 32 (j + 1) (Sh.iarr .u8 32) (M ++ [B8 32 res])) false))], 1 ≤ 1, 0 + j = j, (j + 1) * 32 ≤ 140737488355328, j + 1 ≤ 9223372036854775807, I6 (IntKind.wrap .i64 ((↑(2 * j) : Int) + 2)) = I6 ↑(2 * j + 2), rr (PV.vec nl (PV.parr 32 n (Sh.iarr .u8 32) L)), rr (PV.ref 1 [] 32 0 (j + 1)), I6 ↑(2 * j + 2) = I6 ↑(2 * (j + 1)), rr (PV.parr 32 (j + 1) (Sh.iarr .u8 32) (M ++ [B8 32 res]))] (by kernel_rfl) (ac (decide_eq_true (by omega)) (ac (by rw [show Int.toNat (↑(2 * j) : Int) = 2 * j by omega]) (ob2 (by omega) (ac (by (rw [g1]; rfl)) (ac (by omega) (ac (wj (by omega)) (ac (wj (by omega)) (ac (cg (hmI)) (ob2 (by omega) (ac (by (rw [g2]; rfl)) (ob4 (by omega) (ob4 (by omega) (ob2 (by omega) (ac rfl (ac (by rw [List.take_of_length_le (show List.length x ≤ 32 by omega), List.take_of_length_le (show List.length y ≤ 32 by omega)]) (ac (c1) (ac (by rw [List.take_of_length_le (show List.length M ≤ j by omega)]) (ac (by omega) (ac (by omega) (ob2 (by omega) (ac (wj (by omega)) (ac rfl (ac rfl (ac (cg (by omega)) (ao rfl))))))))))))))))))))))))) ?_
  exact hw
end Go.Proofs
namespace Go.Proofs
open Go Go.Pe Go.Pm
set_option maxRecDepth 100000
set_option linter.unusedVariables false
theorem MM {nl : Bool} {l : List (List Int)} {n : Nat} (ho : Gg l n) (hn : n ≤ 100000) : Pt 77 [] [.vec nl (hL n l)] [(1, ⟨hL ((n + 1) / 2) (above l), false⟩)] (.ref 1 [] 32 0 ((n + 1) / 2)) := by
 refine pO Tryz.func77 (by kernel_rfl) ?_
 have hw := Ov (nl := nl) ho hn ((n + 1) / 2) 0 (by omega)
 have e : ((above l).take 0).map hv = [] := rfl
 rw [e] at hw
 generalize above l = A at *
 unfold hL at *
 have hN : ((n : Int) + 1).tdiv 2 = (((n + 1) / 2 : Nat) : Int) := by rw [Int.tdiv_eq_ediv_of_nonneg (by omega)]; omega
 generalize (n + 1) / 2 = N at *
 generalize l.map hv = L at *
 refine W.seg [(3, aV (I6 ↑(n + 1))), (4, aV (I6 ↑((n + 1) / 2)))] [(144, 1)] (dsAb nl n L [] 0) (todo' := Ad Tryz.f77 0) [I6 (IntKind.wrap .i64 ((n:Int) + 1)) = I6 ↑(n + 1), I6 (IntKind.wrap .i64 (Int.tdiv (↑(n + 1) : Int) (2 : Int))) = I6 ↑((n + 1) / 2), (2 : Int) ≠ 0, (0 : Int) ≤ 0, 0 ≤ (↑((n + 1) / 2) : Int), (↑((n + 1) / 2) : Int) ≤ 9223372036854775807, (↑(32 : Nat) : Int) * (↑((n + 1) / 2) : Int) ≤ 140737488355328, rr (PV.vec nl (PV.parr 32 n (Sh.iarr .u8 32) L)), rr (PV.ref 1 [] 32 0 0), I6 0 = I6 ↑(0 : Nat), rr (PV.parr 32 0 (Sh.iarr .u8 32) [])] (by kernel_rfl) (ac (wj (by omega)) (ac (wj (by omega)) (ob4 (by omega) (ac (by omega) (ac rfl (ac rfl (ac (cg (by omega)) (ao rfl)))))))) ?_
 exact hw
theorem KI {nl : Bool} {c : PV} (hc : good (.vec nl c) = true) : Pt 56 [] [.vec nl c] [(1, ⟨.vec nl c, false⟩)] (.fn 76 1) := by
 refine pO Tryz.func56 (by kernel_rfl) ?_
 refine W.ret [] [(64, 1)] [rr (PV.vec nl c), rr (PV.fn 76 1)] (by kernel_rfl) (ac rfl (ao rfl))
end Go.Proofs
namespace Go.Proofs
open Go Go.Pe Go.Pm
set_option maxRecDepth 100000
set_option linter.unusedVariables false
def z32 : List Int := List.replicate 32 0
def yv (l : Nat) : PV := .fv (.func (.yield l) #[] #[])
def EZ (rt : List Int) (nl : Bool) (c : PV) : List (Nat × Row) := [(1, ⟨.iarr .u8 32 z32, false⟩), (2, ⟨.iarr .u8 32 rt, false⟩), (3, ⟨.vec nl c, false⟩)]
def QL (rt : List Int) (nl : Bool) (c : PV) : DS := ⟨[(2, .at 1 []), (3, .at 2 []), (6, .fn 76 3)], EZ rt nl c⟩
def Hq : List (Nat × PV) := [(2, .at 1 []), (3, .at 2 [])]
def dLev (y : Nat) (rt : List Int) (nl : Bool) (c : PV) : DS := ⟨[(0, yv y), (1, .at 3 [])], EZ rt nl c⟩
def dLevY (y : Nat) (rt : List Int) (nl : Bool) (c : PV) : DS := ⟨[(0, yv y), (1, .at 3 []), (3, yv y), (4, .vec nl c)], EZ rt nl c⟩
def Jg (l : List (List Int)) (rt : List Int) : List Int := if l.length = 1 then l.getD 0 [] else rt
theorem Pf {rt : List Int} : WM Tryz.prog G0 Tryz.f36 [] [] (.iarr .u8 32 rt) (rgK (Ah Tryz.f36 0)) ⟨Hq, [(1, ⟨.iarr .u8 32 z32, false⟩), (2, ⟨.iarr .u8 32 rt, false⟩)]⟩ := by
 unfold Hq
 refine WM.ret [] [] [rr (B8 32 rt)] (by kernel_rfl) (ao rfl)
def dRnd (rt : List Int) (nl : Bool) (c : PV) : DS := ⟨[(2, .at 1 []), (3, .at 2 []), (4, .vec nl c)], EZ rt nl c⟩
theorem Nb {y : Nat} {rt res : List Int} {nl : Bool} {l : List (List Int)} {n : Nat} (ho : Gg l n) (hn : n ≤ 100000)
  (hw : Wh Tryz.f76 [1, 2] (CJ (CZ Tryz.f36 0 [] (.iarr .u8 32 res) [] Hq 76) y .ready none) (.inRegion (rgOps (Ah Tryz.f76 0)) (Ga (Ah Tryz.f76 0)) :: rgK (Ah Tryz.f76 0))
   ⟨[(0, yv y), (1, .at 3 []), (5, .bool true)], EZ (Jg l rt) nl (hL n l)⟩) :
  Wh Tryz.f76 [1, 2] (CJ (CZ Tryz.f36 0 [] (.iarr .u8 32 res) [] Hq 76) y .ready none) (Ah Tryz.f76 0) (dLevY y rt nl (hL n l)) := by
 refine WH.Er (args := [.vec nl (hL n l)]) (pinsR := [1, 2, 3]) (frI := [(0, yv y), (1, .at 3 [])]) (by kernel_rfl) (by kernel_rfl) (by kernel_rfl) (by kernel_rfl) (by kernel_rfl) (BH.ofL ⟨rfl, rfl, trivial⟩) ?_
 show WH _ _ Tryz.f36 [1, 2, 3] _ _ (⟨[(2, .at 1 []), (3, .at 2 []), (7, .vec nl (hL n l))], EZ rt nl (hL n l)⟩)
 have hll := ho.len
 have g0 : 0 < n → (l.map hv).getD 0 .undef = hv (l.getD 0 []) := fun h => Kg (by omega)
 have o0 : 0 < n → (l.getD 0 []).length = 32 := fun h => (ho.get h).1
 have hr : Jg l rt = if n = 1 then l.getD 0 [] else rt := by unfold Jg; rw [hll]
 rw [hr] at hw
 unfold hL at *
 generalize l.getD 0 [] = x at *
 generalize l.map hv = L at *
 unfold EZ hv at *
 refine WH.seg [] [(1, 1), (2, 2), (3, 3)] (dRnd rt nl (PV.parr 32 n hsE L)) (todo' := [Item.beginRound, Item.code (EW (Ah Tryz.f36 0))]) [rr (PV.at 1 []), rr (PV.at 2 []), rr (PV.vec nl (PV.parr 32 n (Sh.iarr .u8 32) L)), rr (B8 32 (List.replicate 32 0)), rr (B8 32 rt), rr (PV.vec nl (PV.parr 32 n (Sh.iarr .u8 32) L))] (by kernel_rfl) (ac rfl (ac rfl (ac rfl (ac rfl (ac rfl (ao rfl)))))) ?_
 refine WH.begin ?_
 by_cases h1 : n = 1
 ·rw [if_pos h1] at hw
  have g := g0 (by omega)
  have o := o0 (by omega)
  refine WH.seg [(2, aT), (5, aV (B8 32 x))] [(1, 1), (2, 2), (3, 3)] (DS.mk [] [(1, Row.mk (B8 32 z32) false), (2, Row.mk (B8 32 x) false), (3, Row.mk (PV.vec nl (PV.parr 32 n hsE L)) false)]) (todo' := []) [((n:Int) == 1) = true, (0 : Int) ≤ 0, 0 < (n:Int), B8 32 (PV.nums (List.getD L 0 PV.undef)) = B8 32 x, 0 < n, rr (B8 32 (List.replicate 32 0)), rr (B8 32 x), rr (PV.vec nl (PV.parr 32 n (Sh.iarr .u8 32) L))] (by kernel_rfl) (ac (decide_eq_true (by omega)) (ob2 (by omega) (ac (by (rw [g]; rfl)) (ac (by omega) (ac rfl (ac rfl (ao rfl))))))) ?_
  exact WH.Dz (by kernel_rfl) hw
 ·rw [if_neg h1] at hw
  refine WH.seg [(2, aF)] [(1, 1), (2, 2), (3, 3)] (DS.mk [] [(1, Row.mk (B8 32 z32) false), (2, Row.mk (B8 32 rt) false), (3, Row.mk (PV.vec nl (PV.parr 32 n hsE L)) false)]) (todo' := []) [((n:Int) == 1) = false, rr (B8 32 (List.replicate 32 0)), rr (B8 32 rt), rr (PV.vec nl (PV.parr 32 n (Sh.iarr .u8 32) L))] (by kernel_rfl) (ac (decide_eq_false (by omega)) (ac rfl (ac rfl (ao rfl)))) ?_
  exact WH.Dz (by kernel_rfl) hw
theorem NS {y : Nat} {res : Liz} : ∀ (n : Nat) (l : List (List Int)) (rt : List Int) (nl : Bool), Gg l n → n ≤ 100000 → (n = 0 → res = rt) → (0 < n → res = CL l) →
  Wh Tryz.f76 [1, 2] (CJ (CZ Tryz.f36 0 [] (.iarr .u8 32 res) [] Hq 76) y .ready none) (Ad Tryz.f76 0) (dLev y rt nl (hL n l)) := by
 intro n
 induction n using Nat.strongRecOn with
 | _ n ih =>
  intro l rt nl ho hn h0 h1
  unfold dLev EZ
  generalize hc : hL n l = c
  refine WH.seg [] [(1, 1), (2, 2), (3, 3)] (DS.mk [(0, yv y), (1, PV.at 3 []), (3, yv y), (4, PV.vec nl c)] [(1, Row.mk (B8 32 z32) false), (2, Row.mk (B8 32 rt) false), (3, Row.mk (PV.vec nl c) false)]) (todo' := Ah Tryz.f76 0) [rr (PV.fv (Value.func (Fn.yield y) #[] #[])), rr (PV.at 3 []), rr (PV.fv (Value.func (Fn.yield y) #[] #[])), rr (PV.vec nl c), rr (B8 32 (List.replicate 32 0)), rr (B8 32 rt), rr (PV.vec nl c)] (by kernel_rfl) (ac rfl (ac rfl (ac rfl (ac rfl (ac rfl (ac rfl (ao rfl))))))) ?_
  rw [← hc]
  refine Nb ho hn ?_
  by_cases hgt : 1 < n
  ·have c1 := MM (nl := nl) ho hn
   have hw := ih ((n + 1) / 2) (by omega) (above l) (Jg l rt) false ho.above (by omega) (by omega) (fun _ => by rw [h1 (by omega), MC (by rw [ho.len]; exact hgt)])
   clear hc
   have hln := ho.len
   unfold hL at *
   have hT : ((above l).map hv).take ((n + 1) / 2) = (above l).map hv := List.take_of_length_le (by rw [List.length_map, AL, hln]; omega)
   generalize Jg l rt = rw at *
   generalize (above l).map hv = M at *
   generalize (n + 1) / 2 = m at *
   generalize l.map hv = L at *
   unfold dLev at *
   unfold EZ at *
   refine WH.seg [(6, aT), (12, Ans.call true [] [(1, Row.mk (PV.parr 32 m (Sh.iarr .u8 32) M) false)] (PV.ref 1 [] 32 0 m)), (13, Ans.frz [257])] [(1, 1), (2, 2), (3, 3)] (DS.mk [(0, yv y), (1, PV.at 3 [])] [(1, Row.mk (B8 32 z32) false), (2, Row.mk (B8 32 rw) false), (3, Row.mk (PV.vec false (PV.parr 32 m hsE M)) false)]) (todo' := Ad Tryz.f76 0) [decide ((n:Int) > 1) = true, Pt 77 [] [PV.vec nl (PV.parr 32 n (Sh.iarr .u8 32) L)] [(1, Row.mk (PV.parr 32 m (Sh.iarr .u8 32) M) false)] (PV.ref 1 [] 32 0 m), 0 + m ≤ m, rr (PV.fv (Value.func (Fn.yield y) #[] #[])), rr (PV.at 3 []), rr (B8 32 (List.replicate 32 0)), rr (B8 32 rw), PV.vec false (PV.parr 32 m (Sh.iarr .u8 32) (List.take m M)) = PV.vec false (PV.parr 32 m (Sh.iarr .u8 32) M)] (by kernel_rfl) (ac (decide_eq_true (by omega)) (ac (c1) (ac (by omega) (ac rfl (ac rfl (ac rfl (ac rfl (ao (by (simp; omega)))))))))) ?_
   exact hw
  ·have hres : res = Jg l rt := by
    unfold Jg
    rw [ho.len]
    by_cases hn1 : n = 1
    ·rw [if_pos hn1, h1 (by omega), Po (by rw [ho.len, hn1])]
    ·rw [if_neg hn1, h0 (by omega)]
   rw [← hres]
   have hle : ¬ ((n : Int) > 1) := by omega
   clear hc
   unfold hL EZ at *
   generalize l.map hv = L at *
   refine WH.seg [(6, aF)] [(1, 1), (2, 2)] (DS.mk [] [(1, Row.mk (B8 32 z32) false), (2, Row.mk (B8 32 res) false)]) (todo' := []) [decide ((n:Int) > 1) = false, rr (B8 32 (List.replicate 32 0)), rr (B8 32 res)] (by kernel_rfl) (ac (decide_eq_false (by omega)) (ac rfl (ao rfl))) ?_
   exact WH.Lx Tryz.func76 (by kernel_rfl) (by intro e; cases e) rfl Pf
theorem pc_root {nl : Bool} {l : List (List Int)} {n : Nat} (ho : Gg l n) (hn : n ≤ 100000) : Pt 36 [] [.vec nl (hL n l)] [] (hv (CL l)) := by
 refine pO Tryz.func36 (by kernel_rfl) ?_
 have hw := fun y => NS (y := y) (res := CL l) n l z32 nl ho hn (fun h => by
  have : l = [] := List.eq_nil_of_length_eq_zero (by rw [ho.len, h])
  rw [this]; rfl) (fun _ => rfl)
 have c1 := KI (nl := nl) (c := hL n l) rfl
 generalize CL l = res at *
 unfold dLev at hw
 generalize hL n l = c at *
 refine W.seg [(3, Ans.call false [] [(1, Row.mk (PV.vec nl c) false)] (PV.fn 76 1))] [(64, 1), (80, 2), (113, 3)] (QL z32 nl c) (todo' := Ah Tryz.f36 0) [Pt 56 [] [PV.vec nl c] [(1, Row.mk (PV.vec nl c) false)] (PV.fn 76 1), rr (PV.at 1 []), rr (PV.at 2 []), rr (PV.fn 76 3), rr (B8 32 (List.replicate 32 0)), rr (B8 32 (List.replicate 32 0)), rr (PV.vec nl c)] (by kernel_rfl) (ac (c1) (ac rfl (ac rfl (ac rfl (ac rfl (ac rfl (ao rfl))))))) ?_
 refine W.KA (g := 6) (fi := 76) (fI := Tryz.f76) (id := 3) (pinsI := [1, 2]) (by kernel_rfl) Hq rfl Tryz.func76 (by kernel_rfl) (by kernel_rfl) (by kernel_rfl) (by kernel_rfl) (by kernel_rfl) (BH.ofL ⟨rfl, rfl, trivial⟩) fun y => ?_
 have hw := hw y
 unfold QL EZ at *
 dsimp only
 unfold yv at *
 refine WH.seg [] [(1, 1), (2, 2), (3, 3)] (DS.mk [(0, yv y), (1, PV.at 3 [])] [(1, Row.mk (B8 32 z32) false), (2, Row.mk (B8 32 z32) false), (3, Row.mk (PV.vec nl c) false)]) (todo' := Ad Tryz.f76 0) [rr (PV.fv (Value.func (Fn.yield y) #[] #[])), rr (PV.at 3 []), rr (B8 32 (List.replicate 32 0)), rr (B8 32 (List.replicate 32 0)), rr (PV.vec nl c)] (by kernel_rfl) (ac rfl (ac rfl (ac rfl (ac rfl (ao rfl))))) ?_
 exact hw
end Go.Proofs
namespace Go.Proofs
open Go Go.Pe Go.Pm
set_option maxRecDepth 100000
set_option linter.unusedVariables false
def Gv : List (Nat × PV) := [(2, .at 1 [])]
theorem P8 {b : Bool} {k : List Item} (hk : k = rgK (Ah Tryz.f35 0)) (hb : b = false) : WM Tryz.prog G0 Tryz.f35 [] [] (.bool false) k ⟨Gv, [(1, ⟨.bool b, false⟩)]⟩ := by
 subst hk; subst hb
 unfold Gv
 refine WM.ret [] [] [rr (PV.bool false)] (by kernel_rfl) (ao rfl)
theorem Qh {b : Bool} {k : List Item} : WM Tryz.prog G0 Tryz.f35 [] [] (.bool b) (.code .ret :: k) ⟨Gv, [(1, ⟨.bool b, false⟩)]⟩ := by
 unfold Gv
 refine WM.ret [] [] [rr (PV.bool b)] (by kernel_rfl) (ao rfl)
def dDbl (nl : Bool) (n : Nat) (L : List PV) (j : Nat) : DS := ⟨[(2, .at 1 []), (3, .vec nl (.parr 32 n hsE L)), (4, .int .i64 ((2 * j + 1 : Nat) : Int))], [(1, ⟨.bool false, false⟩), (2, ⟨.vec nl (.parr 32 n hsE L), false⟩)]⟩
theorem JY {y : Nat} {res nl : Bool} {l : List (List Int)} {n : Nat} (ho : Gg l n) (hn : n ≤ 100000)
  (hw1 : (∀ i, 2 * i + 1 < n → l.getD (2 * i) [] ≠ l.getD (2 * i + 1) []) → Wh Tryz.f76 [1] (CJ (CZ Tryz.f35 0 [] (.bool res) [] Gv 76) y .ready none) (.inRegion (rgOps (Ah Tryz.f76 0)) (Ga (Ah Tryz.f76 0)) :: rgK (Ah Tryz.f76 0))
   ⟨[(0, yv y), (1, .at 2 []), (5, .bool true)], [(1, ⟨.bool false, false⟩), (2, ⟨.vec nl (.parr 32 n hsE (l.map hv)), false⟩)]⟩)
  (hw2 : (∃ i, 2 * i + 1 < n ∧ l.getD (2 * i) [] = l.getD (2 * i + 1) []) → Wh Tryz.f76 [1] (CJ (CZ Tryz.f35 0 [] (.bool res) [] Gv 76) y .done (some .ret)) (.inRegion (rgOps (Ah Tryz.f76 0)) (Ga (Ah Tryz.f76 0)) :: rgK (Ah Tryz.f76 0))
   ⟨[(0, yv y), (1, .at 2 []), (5, .bool false)], [(1, ⟨.bool true, false⟩), (2, ⟨.vec nl (.parr 32 n hsE (l.map hv)), false⟩)]⟩) : ∀ (k j : Nat), n ≤ 2 * (k + j) + 1 → 2 * j ≤ n + 1 → (∀ i, i < j → l.getD (2 * i) [] ≠ l.getD (2 * i + 1) []) →
  Wh Tryz.f35 [1, 2] (Fw (CZ Tryz.f35 0 [] (.bool res) [] Gv 76) (roundOf Tryz.f76 0 [1] [(0, yv y), (1, .at 2 [])]) y .busy none) (Np (EW (Ah Tryz.f35 0)) 0) (dDbl nl n (l.map hv) j)
 | 0, j, hk, hj, hne => by
  have hw1 := hw1 fun i hi => hne i (by omega)
  have hge : ¬ (((2 * j + 1 : Nat) : Int) < (n : Int)) := by omega
  generalize l.map hv = L at *
  unfold dDbl
  refine WH.seg [(3, aF)] [(1, 1), (2, 2)] (DS.mk [] [(1, Row.mk (PV.bool false) false), (2, Row.mk (PV.vec nl (PV.parr 32 n hsE L)) false)]) (todo' := []) [decide ((↑(2 * j + 1) : Int) < (n:Int)) = false, rr (PV.bool false), rr (PV.vec nl (PV.parr 32 n (Sh.iarr .u8 32) L))] (by kernel_rfl) (ac (decide_eq_false (by omega)) (ac rfl (ao rfl))) ?_
  exact WH.Dz (by kernel_rfl) hw1
 | k + 1, j, hk, hj, hne => by
  by_cases hlt : 2 * j + 1 < n
  ·have g1 := Kg (l := l) (i := 2 * j) (by rw [ho.len]; omega)
   have g2 := Kg (l := l) (i := 2 * j + 1) (by rw [ho.len]; omega)
   have o1 := (ho.get (i := 2 * j) (by omega)).1
   have o2 := (ho.get (i := 2 * j + 1) (by omega)).1
   have e1 : ((2 * j + 1 : Nat) : Int) - 1 = ((2 * j : Nat) : Int) := by omega
   by_cases heq : l.getD (2 * j) [] = l.getD (2 * j + 1) []
   ·have hw2 := hw2 ⟨j, hlt, heq⟩
    generalize l.getD (2 * j) [] = x at *
    generalize l.getD (2 * j + 1) [] = z at *
    subst heq
    generalize l.map hv = L at *
    unfold hv at *
    unfold dDbl
    refine WH.seg [(3, aT), (6, aV (PV.cptr (PV.parr 32 n (Sh.iarr .u8 32) L) [Stp.idx (2 * j + 1) 32])), (7, aV (B8 32 x)), (10, aV (I6 ↑(2 * j))), (11, aV (PV.cptr (PV.parr 32 n (Sh.iarr .u8 32) L) [Stp.idx (2 * j) 32])), (12, aV (B8 32 x)), (13, aT)] [(1, 1), (2, 2)] (DS.mk [] [(1, Row.mk (PV.bool true) false), (2, Row.mk (PV.vec nl (PV.parr 32 n hsE L)) false)]) (todo' := retIn (EW (Ah Tryz.f35 0)) 0) [decide ((↑(2 * j + 1) : Int) < (n:Int)) = true, PV.cptr (PV.parr 32 n (Sh.iarr .u8 32) L) [Stp.idx (Int.toNat (↑(2 * j + 1) : Int)) 32] = PV.cptr (PV.parr 32 n (Sh.iarr .u8 32) L) [Stp.idx (2 * j + 1) 32], 0 ≤ (↑(2 * j + 1) : Int), (↑(2 * j + 1) : Int) < (n:Int), B8 32 (PV.nums (List.getD L (2 * j + 1) PV.undef)) = B8 32 x, 2 * j + 1 < n, I6 (IntKind.wrap .i64 ((↑(2 * j + 1) : Int) - 1)) = I6 ↑(2 * j), PV.cptr (PV.parr 32 n (Sh.iarr .u8 32) L) [Stp.idx (Int.toNat (↑(2 * j) : Int)) 32] = PV.cptr (PV.parr 32 n (Sh.iarr .u8 32) L) [Stp.idx (2 * j) 32], 0 ≤ (↑(2 * j) : Int), (↑(2 * j) : Int) < (n:Int), B8 32 (PV.nums (List.getD L (2 * j) PV.undef)) = B8 32 x, 2 * j < n, decide (x = x) = true, rr (PV.bool true), rr (PV.vec nl (PV.parr 32 n (Sh.iarr .u8 32) L))] (by kernel_rfl) (ac (decide_eq_true (by omega)) (ac (by rw [show Int.toNat (↑(2 * j + 1) : Int) = 2 * j + 1 by omega]) (ob2 (by omega) (ac (by (rw [g2]; rfl)) (ac (by omega) (ac (cg (Dw e1 (by omega) (by omega))) (ac (by rw [show Int.toNat (↑(2 * j) : Int) = 2 * j by omega]) (ob2 (by omega) (ac (by (rw [g1]; rfl)) (ac (by omega) (ac (by (simp [*]; done)) (ac rfl (ao rfl))))))))))))) ?_
    exact WH.PX (by kernel_rfl) (by kernel_rfl) hw2
   ·have hw := JY ho hn hw1 hw2 k (j + 1) (by omega) (by omega) (fun i hi => by
     rcases Nat.lt_or_eq_of_le (Nat.le_of_lt_succ hi) with h | rfl
     ·exact hne i h
     ·exact heq)
    have hne' := fun h => heq (Eq.symm h)
    have e2 : ((2 * j + 1 : Nat) : Int) + 2 = ((2 * (j + 1) + 1 : Nat) : Int) := by omega
    have b2 : 2 * (j + 1) + 1 ≤ 100010 := by omega
    generalize l.getD (2 * j) [] = x at *
    generalize l.getD (2 * j + 1) [] = z at *
    generalize l.map hv = L at *
    clear hw1 hw2 hne
    unfold hv at *
    unfold dDbl at *
    generalize 2 * (j + 1) + 1 = i2 at *
    refine WH.seg [(3, aT), (6, aV (PV.cptr (PV.parr 32 n (Sh.iarr .u8 32) L) [Stp.idx (2 * j + 1) 32])), (7, aV (B8 32 z)), (10, aV (I6 ↑(2 * j))), (11, aV (PV.cptr (PV.parr 32 n (Sh.iarr .u8 32) L) [Stp.idx (2 * j) 32])), (12, aV (B8 32 x)), (13, aF), (15, aV (I6 i2))] [(1, 1), (2, 2)] (DS.mk [(2, PV.at 1 []), (3, PV.vec nl (PV.parr 32 n hsE L)), (4, I6 i2)] [(1, Row.mk (PV.bool false) false), (2, Row.mk (PV.vec nl (PV.parr 32 n hsE L)) false)]) (todo' := Np (EW (Ah Tryz.f35 0)) 0) [decide ((↑(2 * j + 1) : Int) < (n:Int)) = true, PV.cptr (PV.parr 32 n (Sh.iarr .u8 32) L) [Stp.idx (Int.toNat (↑(2 * j + 1) : Int)) 32] = PV.cptr (PV.parr 32 n (Sh.iarr .u8 32) L) [Stp.idx (2 * j + 1) 32], 0 ≤ (↑(2 * j + 1) : Int), (↑(2 * j + 1) : Int) < (n:Int), B8 32 (PV.nums (List.getD L (2 * j + 1) PV.undef)) = B8 32 z, 2 * j + 1 < n, I6 (IntKind.wrap .i64 ((↑(2 * j + 1) : Int) - 1)) = I6 ↑(2 * j), PV.cptr (PV.parr 32 n (Sh.iarr .u8 32) L) [Stp.idx (Int.toNat (↑(2 * j) : Int)) 32] = PV.cptr (PV.parr 32 n (Sh.iarr .u8 32) L) [Stp.idx (2 * j) 32], 0 ≤ (↑(2 * j) : Int), (↑(2 * j) : Int) < (n:Int), B8 32 (PV.nums (List.getD L (2 * j) PV.undef)) = B8 32 x, 2 * j < n, decide (z = x) = false, I6 (IntKind.wrap .i64 ((↑(2 * j + 1) : Int) + 2)) = I6 i2, rr (PV.at 1 []), rr (PV.vec nl (PV.parr 32 n (Sh.iarr .u8 32) L)), rr (I6 i2), rr (PV.bool false), rr (PV.vec nl (PV.parr 32 n (Sh.iarr .u8 32) L))] (by kernel_rfl) (ac (decide_eq_true (by omega)) (ac (by rw [show Int.toNat (↑(2 * j + 1) : Int) = 2 * j + 1 by omega]) (ob2 (by omega) (ac (by (rw [g2]; rfl)) (ac (by omega) (ac (cg (Dw e1 (by omega) (by omega))) (ac (by rw [show Int.toNat (↑(2 * j) : Int) = 2 * j by omega]) (ob2 (by omega) (ac (by (rw [g1]; rfl)) (ac (by omega) (ac (decide_eq_false (by omega)) (ac (cg (Dw e2 (by omega) (by omega))) (ac rfl (ac rfl (ac rfl (ac rfl (ao rfl))))))))))))))))) ?_
    exact hw
  ·have hw1 := hw1 fun i hi => hne i (by omega)
   have hge : ¬ (((2 * j + 1 : Nat) : Int) < (n : Int)) := by omega
   generalize l.map hv = L at *
   unfold dDbl
   refine WH.seg [(3, aF)] [(1, 1), (2, 2)] (DS.mk [] [(1, Row.mk (PV.bool false) false), (2, Row.mk (PV.vec nl (PV.parr 32 n hsE L)) false)]) (todo' := []) [decide ((↑(2 * j + 1) : Int) < (n:Int)) = false, rr (PV.bool false), rr (PV.vec nl (PV.parr 32 n (Sh.iarr .u8 32) L))] (by kernel_rfl) (ac (decide_eq_false (by omega)) (ac rfl (ao rfl))) ?_
   exact WH.Dz (by kernel_rfl) hw1
theorem Pw {y : Nat} {res : Bool} : ∀ (n : Nat) (l : List (List Int)) (nl : Bool), Gg l n → n ≤ 100000 → (res = true ↔ dblM l) →
  Wh Tryz.f76 [1] (CJ (CZ Tryz.f35 0 [] (.bool res) [] Gv 76) y .ready none) (Ad Tryz.f76 0) ⟨[(0, yv y), (1, .at 2 [])], [(1, ⟨.bool false, false⟩), (2, ⟨.vec nl (hL n l), false⟩)]⟩ := by
 intro n
 induction n using Nat.strongRecOn with
 | _ n ih =>
  intro l nl ho hn hres
  have hln := ho.len
  unfold hL
  generalize hLe : l.map hv = L
  refine WH.seg [] [(1, 1), (2, 2)] (DS.mk [(0, yv y), (1, PV.at 2 []), (3, yv y), (4, PV.vec nl (PV.parr 32 n hsE L))] [(1, Row.mk (PV.bool false) false), (2, Row.mk (PV.vec nl (PV.parr 32 n hsE L)) false)]) (todo' := Ah Tryz.f76 0) [rr (PV.fv (Value.func (Fn.yield y) #[] #[])), rr (PV.at 2 []), rr (PV.fv (Value.func (Fn.yield y) #[] #[])), rr (PV.vec nl (PV.parr 32 n (Sh.iarr .u8 32) L)), rr (PV.bool false), rr (PV.vec nl (PV.parr 32 n (Sh.iarr .u8 32) L))] (by kernel_rfl) (ac rfl (ac rfl (ac rfl (ac rfl (ac rfl (ao rfl)))))) ?_
  refine WH.Er (args := [.vec nl (.parr 32 n hsE L)]) (pinsR := [1, 2]) (frI := [(0, yv y), (1, .at 2 [])]) (by kernel_rfl) (by kernel_rfl) (by kernel_rfl) (by kernel_rfl) (by kernel_rfl) (BH.ofL ⟨rfl, rfl, trivial⟩) ?_
  show WH _ _ Tryz.f35 [1, 2] _ _ (⟨[(2, .at 1 []), (7, .vec nl (.parr 32 n hsE L))], [(1, ⟨.bool false, false⟩), (2, ⟨.vec nl (.parr 32 n hsE L), false⟩)]⟩)
  refine WH.seg [] [(1, 1), (2, 2)] (DS.mk [(2, PV.at 1 []), (3, PV.vec nl (PV.parr 32 n hsE L))] [(1, Row.mk (PV.bool false) false), (2, Row.mk (PV.vec nl (PV.parr 32 n hsE L)) false)]) (todo' := [Item.beginRound, Item.code (EW (Ah Tryz.f35 0))]) [rr (PV.at 1 []), rr (PV.vec nl (PV.parr 32 n (Sh.iarr .u8 32) L)), rr (PV.bool false), rr (PV.vec nl (PV.parr 32 n (Sh.iarr .u8 32) L))] (by kernel_rfl) (ac rfl (ac rfl (ac rfl (ao rfl)))) ?_
  refine WH.begin ?_
  refine WH.seg [] [(1, 1), (2, 2)] (DS.mk [(2, PV.at 1 []), (3, PV.vec nl (PV.parr 32 n hsE L)), (4, I6 1)] [(1, Row.mk (PV.bool false) false), (2, Row.mk (PV.vec nl (PV.parr 32 n hsE L)) false)]) (todo' := Np (EW (Ah Tryz.f35 0)) 0) [rr (PV.at 1 []), rr (PV.vec nl (PV.parr 32 n (Sh.iarr .u8 32) L)), rr (I6 1), rr (PV.bool false), rr (PV.vec nl (PV.parr 32 n (Sh.iarr .u8 32) L))] (by kernel_rfl) (ac rfl (ac rfl (ac rfl (ac rfl (ao rfl))))) ?_
  rw [← hLe]
  refine JY (l := l) ho hn (fun hno => ?_) (fun hyes => ?_) n 0 (by omega) (by omega) (fun i hi => by omega)
  ·rw [hLe]
   have hd1 : ¬ dbl1 l := by rintro ⟨i, h1, h2⟩; rw [hln] at h1; exact hno i h1 h2
   by_cases hgt : 1 < n
   ·have c1 := MM (nl := nl) ho hn
    have hw := ih ((n + 1) / 2) (by omega) (above l) false ho.above (by omega) (by rw [hres, Ku]; simp [hd1])
    have hT : ((above l).map hv).take ((n + 1) / 2) = (above l).map hv := List.take_of_length_le (by rw [List.length_map, AL, hln]; omega)
    unfold hL at *
    rw [hLe] at c1
    generalize (above l).map hv = M at *
    generalize (n + 1) / 2 = m at *
    clear hno hd1 hres hLe hln
    refine WH.seg [(6, aT), (12, Ans.call true [] [(1, Row.mk (PV.parr 32 m (Sh.iarr .u8 32) M) false)] (PV.ref 1 [] 32 0 m)), (13, Ans.frz [257])] [(1, 1), (2, 2)] (DS.mk [(0, yv y), (1, PV.at 2 [])] [(1, Row.mk (PV.bool false) false), (2, Row.mk (PV.vec false (PV.parr 32 m hsE M)) false)]) (todo' := Ad Tryz.f76 0) [decide ((n:Int) > 1) = true, Pt 77 [] [PV.vec nl (PV.parr 32 n (Sh.iarr .u8 32) L)] [(1, Row.mk (PV.parr 32 m (Sh.iarr .u8 32) M) false)] (PV.ref 1 [] 32 0 m), 0 + m ≤ m, rr (PV.fv (Value.func (Fn.yield y) #[] #[])), rr (PV.at 2 []), rr (PV.bool false), PV.vec false (PV.parr 32 m (Sh.iarr .u8 32) (List.take m M)) = PV.vec false (PV.parr 32 m (Sh.iarr .u8 32) M)] (by kernel_rfl) (ac (decide_eq_true (by omega)) (ac (c1) (ac (by omega) (ac rfl (ac rfl (ac rfl (ao (by (simp; omega))))))))) ?_
    exact hw
   ·have hr : res = false := by
     have := NM (l := l) (by omega)
     rw [← hres] at this
     simpa using this
    have hle : ¬ ((n : Int) > 1) := by omega
    subst hr
    clear hno hd1 hres
    refine WH.seg [(6, aF)] [(1, 1)] (DS.mk [] [(1, Row.mk (PV.bool false) false)]) (todo' := []) [decide ((n:Int) > 1) = false, rr (PV.bool false)] (by kernel_rfl) (ac (decide_eq_false (by omega)) (ao rfl)) ?_
    exact WH.Lx Tryz.func76 (by kernel_rfl) (by intro e; cases e) rfl (P8 rfl rfl)
  ·rw [hLe]
   have hr : res = true := by
    rw [hres, Ku]
    obtain ⟨i, h1, h2⟩ := hyes
    exact .inl ⟨i, by rw [hln]; exact h1, h2⟩
   subst hr
   clear hyes hres
   refine WH.seg [] [(1, 1)] (DS.mk [] [(1, Row.mk (PV.bool true) false)]) (todo' := []) [rr (PV.bool true)] (by kernel_rfl) (ao rfl) ?_
   exact WH.Lx Tryz.func76 (by kernel_rfl) (by intro e; cases e) rfl Qh
def dDblR (nl : Bool) (c : PV) : DS := ⟨[(2, .at 1 []), (6, .fn 76 2)], [(1, ⟨.bool false, false⟩), (2, ⟨.vec nl c, false⟩)]⟩
theorem Oa {nl : Bool} {l : List (List Int)} {n : Nat} {res : Bool} (ho : Gg l n) (hn : n ≤ 100000) (hres : res = true ↔ dblM l) : Pt 35 [] [.vec nl (hL n l)] [] (.bool res) := by
 refine pO Tryz.func35 (by kernel_rfl) ?_
 have hw := fun y => Pw (y := y) (res := res) n l nl ho hn hres
 have c1 := KI (nl := nl) (c := hL n l) rfl
 generalize hL n l = c at *
 refine W.seg [(2, Ans.call false [] [(1, Row.mk (PV.vec nl c) false)] (PV.fn 76 1))] [(64, 1), (97, 2)] (dDblR nl c) (todo' := Ah Tryz.f35 0) [Pt 56 [] [PV.vec nl c] [(1, Row.mk (PV.vec nl c) false)] (PV.fn 76 1), rr (PV.at 1 []), rr (PV.fn 76 2), rr (PV.bool false), rr (PV.vec nl c)] (by kernel_rfl) (ac (c1) (ac rfl (ac rfl (ac rfl (ao rfl))))) ?_
 refine W.KA (g := 6) (fi := 76) (fI := Tryz.f76) (id := 2) (pinsI := [1]) (by kernel_rfl) Gv rfl Tryz.func76 (by kernel_rfl) (by kernel_rfl) (by kernel_rfl) (by kernel_rfl) (by kernel_rfl) (BH.ofL ⟨rfl, trivial⟩) fun y => ?_
 have hw := hw y
 unfold dDblR at *
 dsimp only
 unfold yv at *
 refine WH.seg [] [(1, 1), (2, 2)] (DS.mk [(0, yv y), (1, PV.at 2 [])] [(1, Row.mk (PV.bool false) false), (2, Row.mk (PV.vec nl c) false)]) (todo' := Ad Tryz.f76 0) [rr (PV.fv (Value.func (Fn.yield y) #[] #[])), rr (PV.at 2 []), rr (PV.bool false), rr (PV.vec nl c)] (by kernel_rfl) (ac rfl (ac rfl (ac rfl (ao rfl)))) ?_
 exact hw
end Go.Proofs
namespace Go.Proofs
open Go Go.Pe Go.Pm
structure Hd where
 ver : Nat
 prev : List Int
 root : List Int
 time : Nat
 bits : Nat
 nonce : Nat
def Hd.pv (h : Hd) : PV := .st 68 [.int .u32 h.ver, .iarr .u8 32 h.prev, .iarr .u8 32 h.root, .int .u32 h.time, .int .u32 h.bits, .int .u32 h.nonce]
structure Hd.Ok (h : Hd) : Prop where
 ver : h.ver < 4294967296
 time : h.time < 4294967296
 bits : h.bits < 4294967296
 nonce : h.nonce < 4294967296
 prev : h.prev.length = 32
 root : h.root.length = 32
 prevB : ∀ x ∈ h.prev, 0 ≤ x ∧ x ≤ 255
 rootB : ∀ x ∈ h.root, 0 ≤ x ∧ x ≤ 255
def hsh : Sh := .st 68 [.int .u32, .iarr .u8 32, .iarr .u8 32, .int .u32, .int .u32, .int .u32]
end Go.Proofs
namespace Go.Proofs
open Go Go.Pe Go.Pm
set_option maxRecDepth 100000
set_option linter.unusedVariables false
abbrev TxM := Bool × Nat × List Int
structure Fa (L : List TxM) (n : Nat) : Prop where
 len : L.length = n
 el : ∀ x ∈ L, Kl x ∧ (x.1 = true → x.2.1 = 0) ∧ x.2.1 ≤ 1000000
def EN (nl : Bool) (n : Nat) (L : List TxM) : PV := .vec nl (.parr 1 n bsh (L.map AV))
def BX (h : Hd) (nl : Bool) (n : Nat) (L : List TxM) : PV := .st 69 [h.pv, EN nl n L]
def EI : Sh := .st 69 [hsh, .vec 1 (.vec 1 (.int .u8))]
def BO (L : List TxM) : List (List Int) := L.map fun x => HV x.2.2
theorem Fa.get {L : List TxM} {n i : Nat} (h : Fa L n) (hi : i < n) : Kl (L.getD i default) ∧ ((L.getD i default).1 = true → (L.getD i default).2.1 = 0) ∧ (L.getD i default).2.1 ≤ 1000000 := by
 have hi' : i < L.length := by rw [h.len]; exact hi
 have : L.getD i default = L[i] := by simp [List.getD_eq_getElem?_getD, hi']
 rw [this]
 exact h.el _ (List.getElem_mem hi')
theorem EC {L : List TxM} {n : Nat} (h : Fa L n) : Gg (BO L) n := ⟨by unfold BO; rw [List.length_map, h.len], fun x hx => by
 unfold BO at hx
 obtain ⟨y, _, rfl⟩ := List.mem_map.1 hx
 exact ⟨Dp _, HZ _⟩⟩
theorem pc_txId {nl : Bool} {N : Nat} {b : Liz} (hb : Kl (nl, N, b)) (hN : N ≤ 1000000) : Pt 55 [] [.vec nl (.iarr .u8 N b)] [] (.iarr .u8 32 (HV b)) := by
 refine pO Tryz.func55 (by kernel_rfl) ?_
 have e : cat [(nl, N, b)] = b := by simp [cat]
 have hl : b.length = N := hb.len
 have c1 := Jc (nl := false) (l := [(nl, N, b)]) (c := 1) rfl (by intro x hx; simp at hx; subst hx; exact hb) (by rw [e]; omega) (by omega)
 rw [e] at c1
 unfold AV at c1
 dsimp only [List.map] at c1
 generalize HV b = r at *
 refine W.ret [(3, aK (B8 32 r))] [] [1 ≤ 1, Pt 22 [] [PV.vec false (PV.parr 1 1 (Sh.vec 1 (Sh.int .u8)) [PV.vec nl (B8 N b)])] [] (B8 32 r), rr (B8 32 r)] (by kernel_rfl) (ac (by omega) (ac (c1) (ao rfl)))
def OP (nl : Bool) (n : Nat) (T I : List PV) (j : Nat) : DS := ⟨[(3, .ref 1 [] 32 0 j), (11, .vec nl (.parr 1 n bsh T)), (12, .int .i64 n), (13, .int .i64 j)], [(1, ⟨.parr 32 j hsE I, false⟩)]⟩
theorem W_ids {nl : Bool} {n : Nat} {L : List TxM} (ho : Fa L n) (hn : n ≤ 100000) : ∀ (k j : Nat), k + j = n →
  Wt Tryz.f34 [] [(1, ⟨hL n (BO L), false⟩)] (.ref 1 [] 32 0 n) (Ad Tryz.f34 0) (OP nl n (L.map AV) (((BO L).take j).map hv) j)
 | 0, j, hk => by
  have hj : j = n := by omega
  subst hj
  have e : (BO L).take j = BO L := List.take_of_length_le (by rw [(EC ho).len]; omega)
  rw [e]
  unfold hL
  generalize (BO L).map hv = I at *
  generalize L.map AV = T at *
  unfold OP
  refine W.ret [(0, aF)] [(1, 1)] [decide ((j:Int) < (j:Int)) = false, rr (PV.parr 32 j (Sh.iarr .u8 32) I), rr (PV.ref 1 [] 32 0 j)] (by kernel_rfl) (ac (decide_eq_false (by omega)) (ac rfl (ao rfl)))
 | k + 1, j, hk => by
  have hj : j < n := by omega
  have hlt : j < L.length := by rw [ho.len]; exact hj
  have g := Gp (l := L) (i := j) hlt
  obtain ⟨hb, hnl, hN⟩ := ho.get hj
  have hs : (BO L).take (j + 1) = (BO L).take j ++ [HV (L.getD j default).2.2] := by
   rw [List.take_add_one]
   congr 1
   unfold BO
   simp [List.getD_eq_getElem?_getD, hlt]
  have hw := W_ids (nl := nl) ho hn k (j + 1) (by omega)
  rw [hs, List.map_append] at hw
  have hIl : (((BO L).take j).map hv).length = j := by rw [List.length_map, List.length_take, (EC ho).len]; omega
  generalize L.getD j default = x at *
  obtain ⟨xnl, xN, xb⟩ := x
  dsimp only at *
  have c1 := pc_txId hb hN
  change _ = PV.vec xnl (.iarr .u8 xN xb) at g
  generalize HV xb = r at *
  generalize ((BO L).take j).map hv = I at *
  generalize L.map AV = T at *
  have hr : [r].map hv = [PV.iarr .u8 32 r] := rfl
  rw [hr] at hw
  unfold OP at *
  refine W.seg [(0, aT), (2, aV (PV.vec xnl (B8 xN xb))), (6, aK (B8 32 r)), (8, Ans.ups [(1, none), (192, some (Row.mk (PV.parr 32 (j + 1) (Sh.iarr .u8 32) (I ++ [B8 32 r])) false))]), (10, aV (I6 ↑(j + 1)))] [(192, 1)] (DS.mk [(3, PV.ref 1 [] 32 0 (j + 1)), (11, PV.vec nl (PV.parr 1 n bsh T)), (12, I6 n), (13, I6 ↑(j + 1))] [(1, Row.mk (PV.parr 32 (j + 1) hsE (I ++ [B8 32 r])) false)]) (todo' := Ad Tryz.f34 0) [decide ((j:Int) < (n:Int)) = true, 0 ≤ (j:Int), (j:Int) < (n:Int), PV.vec (PV.MX (List.getD T j PV.undef)) (B8 (PV.len (PV.els (List.getD T j PV.undef))) (PV.nums (PV.els (List.getD T j PV.undef)))) = PV.vec xnl (B8 xN xb), j < n, Pt 55 [] [PV.vec xnl (B8 xN xb)] [] (B8 32 r), ([(1, none), (192, some (Row.mk (PV.parr 32 (j + 1) (Sh.iarr .u8 32) (List.take j I ++ [B8 32 r])) false))] : List (Nat × Option Row)) = [(1, none), (192, some (Row.mk (PV.parr 32 (j + 1) (Sh.iarr .u8 32) (I ++ [B8 32 r])) false))], 1 ≤ 1, 0 + j = j, (j + 1) * 32 ≤ 140737488355328, j + 1 ≤ 9223372036854775807, I6 (IntKind.wrap .i64 ((j:Int) + 1)) = I6 ↑(j + 1), rr (PV.ref 1 [] 32 0 (j + 1)), rr (PV.vec nl (PV.parr 1 n (Sh.vec 1 (Sh.int .u8)) T)), rr (I6 n), rr (I6 ↑(j + 1)), rr (PV.parr 32 (j + 1) (Sh.iarr .u8 32) (I ++ [B8 32 r]))] (by kernel_rfl) (ac (decide_eq_true (by omega)) (ob2 (by omega) (ac (by (rw [g]; rfl)) (ac (by omega) (ac (c1) (ac (by rw [List.take_of_length_le (show List.length I ≤ j by omega)]) (ac (by omega) (ac (by omega) (ob2 (by omega) (ac (wj (by omega)) (ac rfl (ac rfl (ac rfl (ac rfl (ao rfl))))))))))))))) ?_
  exact hw
theorem pc_ids {h : Hd} {nl : Bool} {n : Nat} {L : List TxM} (ho : Fa L n) (hn : n ≤ 100000) : Pt 34 [] [BX h nl n L] [(1, ⟨hL n (BO L), false⟩)] (.ref 1 [] 32 0 n) := by
 refine pO Tryz.func34 (by kernel_rfl) ?_
 have hw := W_ids (nl := nl) ho hn n 0 (by omega)
 have e : ((BO L).take 0).map hv = [] := rfl
 rw [e] at hw
 unfold hL at *
 generalize (BO L).map hv = I at *
 unfold BX EN Hd.pv
 generalize L.map AV = T at *
 unfold OP at *
 refine W.seg [] [(144, 1)] (DS.mk [(3, PV.ref 1 [] 32 0 0), (11, PV.vec nl (PV.parr 1 n bsh T)), (12, I6 n), (13, I6 ↑(0 : Nat))] [(1, Row.mk (PV.parr 32 0 hsE []) false)]) (todo' := Ad Tryz.f34 0) [(0 : Int) ≤ 0, 0 ≤ (n:Int), (n:Int) ≤ 9223372036854775807, (↑(32 : Nat) : Int) * (n:Int) ≤ 140737488355328, rr (PV.ref 1 [] 32 0 0), rr (PV.vec nl (PV.parr 1 n (Sh.vec 1 (Sh.int .u8)) T)), rr (I6 n), I6 0 = I6 ↑(0 : Nat), rr (PV.parr 32 0 (Sh.iarr .u8 32) [])] (by kernel_rfl) (ob4 (by omega) (ac rfl (ac rfl (ac rfl (ac (cg (by omega)) (ao rfl)))))) ?_
 exact hw
end Go.Proofs
namespace Go.Proofs
open Go Go.Pe Go.Pm
set_option maxRecDepth 100000
set_option linter.unusedVariables false
theorem Qj (b : List Int) : ∃ (s : Nat) (o : Bool) (m : Nat) (M : List PV), txP b = .tup [.st 2 [.int .u64 s, .vec o (.parr 2 m osh M)], .int .i64 (txE b)] := by
 unfold txP Di Lh
 by_cases h : txE b = 0
 ·rw [if_pos h]
  by_cases g : L8 b = []
  ·rw [if_pos g]; exact ⟨_, _, _, _, rfl⟩
  ·rw [if_neg g]; exact ⟨_, _, _, _, rfl⟩
 ·rw [if_neg h]; exact ⟨0, true, 0, [], rfl⟩
theorem QB (b : List Int) : txE b ≤ 100 := by
 have h1 : (txR4 b).e ≤ 100 := OV (by
  show ((IP b).var 8).e ≤ 100
  have he : (IP b).e ≤ 100 := Rd.tk_e (Rd.tk_e (Nat.zero_le _))
  have := Rd.ve_e (m := 8) he
  unfold Rd.var
  split
  ·exact Nat.zero_le _
  ·exact this)
 unfold txE
 repeat' split
 all_goals omega
def Ep : List TxM → Nat
 | [] => 0
 | x :: l => if txE x.2.2 = 0 then Ep l else txE x.2.2
def BR (L : List TxM) : Nat := if L.length < 1 ∨ 16 < L.length then 5 else if Ep L = 0 then (if dblB (BO L) = true then 7 else 0) else Ep L
def Dr (L : List TxM) : PV := .tup [hv (if BR L = 0 then CL (BO L) else z32), .int .i64 (BR L)]
theorem GY {l : List (List Int)} {n : Nat} (h : Gg l n) : (CL l).length = 32 := by
 unfold CL
 split
 ·rfl
 ·rename_i hne
  have hk : ∀ k (l : List (List Int)), (∀ x ∈ l, x.length = 32) → ∀ x ∈ lvl l k, x.length = 32 := by
   intro k
   induction k with
   | zero => intro l hl; exact hl
   | succ k ih =>
    intro l hl x hx
    rw [lvl] at hx
    unfold above at hx
    obtain ⟨i, _, rfl⟩ := List.mem_map.1 hx
    exact Dp _
  have hpos : 0 < (lvl l (Gs l.length)).length := by
   rw [Ej]
   have : ∀ k n, 0 < n → 0 < wid n k := by
    intro k
    induction k with
    | zero => intro n h; exact h
    | succ k ih => intro n h; have := ih n h; rw [wid]; omega
   exact this _ _ (List.length_pos_iff.2 hne)
  have : (lvl l (Gs l.length)).getD 0 [] = (lvl l (Gs l.length))[0] := by simp [List.getD_eq_getElem?_getD, hpos]
  rw [this]
  exact hk _ l (fun x hx => (h.el x hx).1) _ (List.getElem_mem hpos)
def dsSd (h : Hd) (nl : Bool) (n : Nat) (T : List PV) (i : Nat) : DS := ⟨[(1, .at 1 []), (2, .at 2 []), (21, .vec nl (.parr 1 n bsh T)), (22, .int .i64 n), (23, .int .i64 i)], [(1, ⟨.st 69 [h.pv, .vec nl (.parr 1 n bsh T)], false⟩), (2, ⟨.iarr .u8 32 z32, false⟩)]⟩
theorem Ol {h : Hd} {nl : Bool} {n : Nat} {L : List TxM} (ho : Fa L n) (hn : n ≤ 16) (hn0 : 0 < n) : ∀ (k i : Nat), i + k = n → Ep L = Ep (L.drop i) →
  Wt Tryz.f21 [] [] (Dr L) (Ad Tryz.f21 0) (dsSd h nl n (L.map AV) i)
 | 0, i, hk, hp => by
  have hi : i = n := by omega
  subst hi
  have hp0 : Ep L = 0 := by rw [hp, List.drop_of_length_le (by rw [ho.len]; omega)]; rfl
  have hse : BR L = if dblB (BO L) = true then 7 else 0 := by unfold BR; rw [ho.len, if_neg (by omega), if_pos hp0]
  have c1 := pc_ids (h := h) (nl := nl) ho (by omega)
  have c2 := Oa (nl := false) (EC ho) (by omega) (PW (BO L))
  have c3 := pc_root (nl := false) (EC ho) (by omega)
  have hrl := GY (EC ho)
  have hT : ((BO L).map hv).take i = (BO L).map hv := List.take_of_length_le (by rw [List.length_map, (EC ho).len]; omega)
  unfold Dr
  by_cases hd : dblB (BO L) = true
  ·rw [hse, if_pos hd, if_neg (by omega)]
   rw [hd] at c2
   clear hse hp0 hp
   unfold BX EN hL hv at *
   generalize (BO L).map (PV.iarr .u8 32) = I at *
   generalize L.map AV = T at *
   have hT' := Eq.symm hT
   rw [hT'] at c2 c3
   unfold dsSd Hd.pv at *
   refine W.ret [(0, aF), (2, Ans.call true [] [(1, Row.mk (PV.parr 32 i (Sh.iarr .u8 32) I) false)] (PV.ref 1 [] 32 0 i)), (5, aK (PV.bool true))] [] [decide ((i:Int) < (i:Int)) = false, Pt 34 [] [PV.st 69 [Hd.pv h, PV.vec nl (PV.parr 1 i (Sh.vec 1 (Sh.int .u8)) T)]] [(1, Row.mk (PV.parr 32 i (Sh.iarr .u8 32) I) false)] (PV.ref 1 [] 32 0 i), 0 + i ≤ i, Pt 35 [] [PV.vec false (PV.parr 32 i (Sh.iarr .u8 32) (List.take i I))] [] (PV.bool true), PV.tup [B8 32 (List.replicate 32 0), I6 7] = PV.tup [B8 32 (List.replicate 32 0), I6 ↑(7 : Nat)]] (by kernel_rfl) (ac (decide_eq_false (by omega)) (ac (c1) (ac (by omega) (ac (c2) (ao rfl)))))
  ·rw [hse, if_neg hd, if_pos rfl]
   have hd' : dblB (BO L) = false := by simpa using hd
   rw [hd'] at c2
   clear hse hp0 hp hd hd'
   unfold BX EN hL hv at *
   generalize CL (BO L) = rt at *
   generalize (BO L).map (PV.iarr .u8 32) = I at *
   generalize L.map AV = T at *
   have hT' := Eq.symm hT
   rw [hT'] at c2 c3
   unfold dsSd Hd.pv at *
   refine W.ret [(0, aF), (2, Ans.call true [] [(1, Row.mk (PV.parr 32 i (Sh.iarr .u8 32) I) false)] (PV.ref 1 [] 32 0 i)), (5, aK (PV.bool false)), (7, aK (B8 32 rt))] [] [decide ((i:Int) < (i:Int)) = false, Pt 34 [] [PV.st 69 [Hd.pv h, PV.vec nl (PV.parr 1 i (Sh.vec 1 (Sh.int .u8)) T)]] [(1, Row.mk (PV.parr 32 i (Sh.iarr .u8 32) I) false)] (PV.ref 1 [] 32 0 i), 0 + i ≤ i, Pt 35 [] [PV.vec false (PV.parr 32 i (Sh.iarr .u8 32) (List.take i I))] [] (PV.bool false), 0 + i ≤ i, Pt 36 [] [PV.vec false (PV.parr 32 i (Sh.iarr .u8 32) (List.take i I))] [] (B8 32 rt), PV.tup [B8 32 rt, I6 0] = PV.tup [B8 32 rt, I6 ↑(0 : Nat)]] (by kernel_rfl) (ac (decide_eq_false (by omega)) (ac (c1) (ac (by omega) (ac (c2) (ac (by omega) (ac (c3) (ao rfl)))))))
 | k + 1, i, hk, hp => by
  have hi : i < n := by omega
  have hlt : i < L.length := by rw [ho.len]; exact hi
  have g := Gp (l := L) (i := i) hlt
  obtain ⟨hb, hnl, hN⟩ := ho.get hi
  have hdrop : L.drop i = L.getD i default :: L.drop (i + 1) := by rw [List.drop_eq_getElem_cons hlt]; simp [List.getD_eq_getElem?_getD, hlt]
  rw [hdrop] at hp
  have hw := Ol (h := h) (nl := nl) ho hn hn0 k (i + 1) (by omega)
  generalize L.getD i default = x at *
  obtain ⟨xnl, xN, xb⟩ := x
  dsimp only [Ep] at *
  have c1 := PZ hb.len hb.bytes hN hnl
  change _ = PV.vec xnl (.iarr .u8 xN xb) at g
  dsimp only at c1
  obtain ⟨s, o, m, M, hf⟩ := Qj xb
  rw [hf] at c1
  have hle := QB xb
  by_cases h0 : txE xb = 0
  ·rw [if_pos h0] at hp
   have hw := hw hp
   rw [h0] at c1
   clear hdrop hf hp h0
   generalize Dr L = res at *
   generalize L.map AV = T at *
   unfold dsSd Hd.pv at *
   refine W.seg [(0, aT), (2, aV (PV.vec xnl (B8 xN xb))), (5, Ans.call false [] [] (PV.tup [PV.st 2 [U6 s, PV.vec o (PV.parr 2 m (Sh.st 2 [Sh.int .u64, Sh.vec 1 (Sh.int .u8)]) M)], I6 ↑(0 : Nat)])), (8, aV (I6 0)), (14, aV (I6 ↑(i + 1)))] [(1, 1), (2, 2)] (DS.mk [(1, PV.at 1 []), (2, PV.at 2 []), (21, PV.vec nl (PV.parr 1 n bsh T)), (22, I6 n), (23, I6 ↑(i + 1))] [(1, Row.mk (PV.st 69 [Hd.pv h, PV.vec nl (PV.parr 1 n bsh T)]) false), (2, Row.mk (B8 32 z32) false)]) (todo' := Ad Tryz.f21 0) [decide ((i:Int) < (n:Int)) = true, 0 ≤ (i:Int), (i:Int) < (n:Int), PV.vec (PV.MX (List.getD T i PV.undef)) (B8 (PV.len (PV.els (List.getD T i PV.undef))) (PV.nums (PV.els (List.getD T i PV.undef)))) = PV.vec xnl (B8 xN xb), i < n, Pt 33 [] [PV.vec xnl (B8 xN xb)] [] (PV.tup [PV.st 2 [U6 s, PV.vec o (PV.parr 2 m (Sh.st 2 [Sh.int .u64, Sh.vec 1 (Sh.int .u8)]) M)], I6 ↑(0 : Nat)]), I6 ↑(0 : Nat) = I6 0, I6 (IntKind.wrap .i64 ((i:Int) + 1)) = I6 ↑(i + 1), rr (PV.at 1 []), rr (PV.at 2 []), rr (PV.vec nl (PV.parr 1 n (Sh.vec 1 (Sh.int .u8)) T)), rr (I6 n), rr (I6 ↑(i + 1)), rr (PV.st 69 [Hd.pv h, PV.vec nl (PV.parr 1 n (Sh.vec 1 (Sh.int .u8)) T)]), rr (B8 32 (List.replicate 32 0))] (by kernel_rfl) (ac (decide_eq_true (by omega)) (ob2 (by omega) (ac (by (rw [g]; rfl)) (ac (by omega) (ac (c1) (ac (cg (by omega)) (ac (wj (by omega)) (ac rfl (ac rfl (ac rfl (ac rfl (ac rfl (ac rfl (ao rfl)))))))))))))) ?_
   exact hw
  ·rw [if_neg h0] at hp
   have hse : BR L = txE xb := by unfold BR; rw [ho.len, if_neg (by omega), hp, if_neg h0]
   have hne : ¬ ((txE xb : Int) = 0) := by omega
   unfold Dr
   rw [hse, if_neg h0]
   clear hdrop hf hp hw hse
   generalize txE xb = e at *
   generalize L.map AV = T at *
   unfold dsSd Hd.pv hv at *
   refine W.ret [(0, aT), (2, aV (PV.vec xnl (B8 xN xb))), (5, Ans.call false [] [] (PV.tup [PV.st 2 [U6 s, PV.vec o (PV.parr 2 m (Sh.st 2 [Sh.int .u64, Sh.vec 1 (Sh.int .u8)]) M)], I6 e])), (13, aT)] [] [decide ((i:Int) < (n:Int)) = true, 0 ≤ (i:Int), (i:Int) < (n:Int), PV.vec (PV.MX (List.getD T i PV.undef)) (B8 (PV.len (PV.els (List.getD T i PV.undef))) (PV.nums (PV.els (List.getD T i PV.undef)))) = PV.vec xnl (B8 xN xb), i < n, Pt 33 [] [PV.vec xnl (B8 xN xb)] [] (PV.tup [PV.st 2 [U6 s, PV.vec o (PV.parr 2 m (Sh.st 2 [Sh.int .u64, Sh.vec 1 (Sh.int .u8)]) M)], I6 e]), ((e:Int) != 0) = true, rr (PV.tup [B8 32 (List.replicate 32 0), I6 e])] (by kernel_rfl) (ac (decide_eq_true (by omega)) (ob2 (by omega) (ac (by (rw [g]; rfl)) (ac (by omega) (ac (c1) (ac (bne_iff_ne.2 (by omega)) (ao rfl)))))))
theorem Ql {h : Hd} {nl : Bool} {n : Nat} {L : List TxM} (ho : Fa L n) (hn : n ≤ 100000) : Pt 21 [] [BX h nl n L] [] (Dr L) := by
 refine pO Tryz.func21 (by kernel_rfl) ?_
 by_cases hr : n < 1 ∨ 16 < n
 ·have hse : BR L = 5 := by unfold BR; rw [ho.len, if_pos hr]
  unfold Dr
  rw [hse, if_neg (by omega)]
  unfold BX EN Hd.pv hv
  clear hse
  generalize L.map AV = T at *
  rcases hr with h1 | h1
  ·refine W.ret [(6, aT)] [] [decide ((n:Int) < 1) = true, PV.tup [B8 32 (List.replicate 32 0), I6 5] = PV.tup [B8 32 (List.replicate 32 0), I6 (↑(5 : Nat) : Int)]] (by kernel_rfl) (ac (decide_eq_true (by omega)) (ao rfl))
  ·have h2 : ¬ ((n : Int) < 1) := by omega
   refine W.ret [(6, aF), (11, aT)] [] [decide ((n:Int) < 1) = false, decide ((n:Int) > 16) = true, PV.tup [B8 32 (List.replicate 32 0), I6 5] = PV.tup [B8 32 (List.replicate 32 0), I6 ↑(5 : Nat)]] (by kernel_rfl) (ac (decide_eq_false (by omega)) (ac (decide_eq_true (by omega)) (ao rfl)))
 ·have hw := Ol (h := h) (nl := nl) ho (by omega) (by omega) n 0 (by omega) rfl
  generalize Dr L = res at *
  unfold BX EN Hd.pv
  generalize L.map AV = T at *
  unfold dsSd Hd.pv at *
  refine W.seg [(6, aF), (11, aF)] [(64, 1), (80, 2)] (DS.mk [(1, PV.at 1 []), (2, PV.at 2 []), (21, PV.vec nl (PV.parr 1 n bsh T)), (22, I6 n), (23, I6 ↑(0 : Nat))] [(1, Row.mk (PV.st 69 [Hd.pv h, PV.vec nl (PV.parr 1 n bsh T)]) false), (2, Row.mk (B8 32 z32) false)]) (todo' := Ad Tryz.f21 0) [decide ((n:Int) < 1) = false, decide ((n:Int) > 16) = false, rr (PV.at 1 []), rr (PV.at 2 []), rr (PV.vec nl (PV.parr 1 n (Sh.vec 1 (Sh.int .u8)) T)), rr (I6 n), I6 0 = I6 ↑(0 : Nat), rr (PV.st 69 [Hd.pv h, PV.vec nl (PV.parr 1 n (Sh.vec 1 (Sh.int .u8)) T)]), rr (B8 32 (List.replicate 32 0))] (by kernel_rfl) (ac (decide_eq_false (by omega)) (ac (decide_eq_false (by omega)) (ac rfl (ac rfl (ac rfl (ac rfl (ac (cg (by omega)) (ac rfl (ao rfl))))))))) ?_
  exact hw
end Go.Proofs
namespace Go.Proofs
open Go Go.Pe Go.Pm
set_option maxRecDepth 100000
set_option linter.unusedVariables false
def J5 (h : Hd) (L : List TxM) : Nat := if BR L = 0 then (if CL (BO L) = h.root then 0 else 15) else BR L
theorem Px (L : List TxM) : BR L ≤ 100 := by
 have h : Ep L ≤ 100 := by
  induction L with
  | nil => exact Nat.zero_le _
  | cons x l ih =>
   rw [Ep]
   have := QB x.2.2
   split <;> assumption
 unfold BR
 repeat' split
 all_goals omega
theorem Pv {h : Hd} {nl : Bool} {n : Nat} {L : List TxM} (hh : h.Ok) (ho : Fa L n) (hn : n ≤ 100000) : Pt 14 [] [BX h nl n L] [] (.int .i64 (J5 h L)) := by
 refine pO Tryz.func14 (by kernel_rfl) ?_
 have c1 := Ql (h := h) (nl := nl) ho hn
 have hl := Px L
 have hrl := GY (EC ho)
 have hroot := hh.root
 unfold Dr at c1
 unfold J5
 by_cases h0 : BR L = 0
 ·rw [h0, if_pos rfl] at c1
  rw [if_pos h0]
  unfold BX EN Hd.pv hv at *
  by_cases hr : CL (BO L) = h.root
  ·rw [if_pos hr]
   generalize CL (BO L) = rt at *
   subst hr
   generalize L.map AV = T at *
   refine W.ret [(3, aK (PV.tup [B8 32 (Hd.root h), I6 ↑(0 : Nat)])), (6, aV (I6 0)), (17, aF)] [] [Pt 21 [] [PV.st 69 [Hd.pv h, PV.vec nl (PV.parr 1 n (Sh.vec 1 (Sh.int .u8)) T)]] [] (PV.tup [B8 32 (Hd.root h), I6 ↑(0 : Nat)]), I6 ↑(0 : Nat) = I6 0, (!decide (Hd.root h = Hd.root h)) = false, I6 0 = I6 ↑(0 : Nat)] (by kernel_rfl) (ac (c1) (ac (cg (by omega)) (ac (by (simp [*]; done)) (ao (cg (by omega))))))
  ·rw [if_neg hr]
   generalize CL (BO L) = rt at *
   generalize L.map AV = T at *
   generalize h.root = hr0 at *
   refine W.ret [(3, aK (PV.tup [B8 32 rt, I6 ↑(0 : Nat)])), (6, aV (I6 0)), (17, aT)] [] [Pt 21 [] [PV.st 69 [PV.st 68 [U3 ↑(Hd.ver h), B8 32 (Hd.prev h), B8 32 hr0, U3 ↑(Hd.time h), U3 ↑(Hd.bits h), U3 ↑(Hd.nonce h)], PV.vec nl (PV.parr 1 n (Sh.vec 1 (Sh.int .u8)) T)]] [] (PV.tup [B8 32 rt, I6 ↑(0 : Nat)]), I6 ↑(0 : Nat) = I6 0, (!decide (rt = hr0)) = true, I6 15 = I6 ↑(15 : Nat)] (by kernel_rfl) (ac (c1) (ac (cg (by omega)) (ac (by (simp [*]; done)) (ao (cg (by omega))))))
 ·rw [if_neg h0] at c1 ⊢
  have hne : ¬ ((BR L : Int) = 0) := by omega
  unfold BX EN Hd.pv hv at *
  generalize BR L = e at *
  generalize L.map AV = T at *
  refine W.ret [(3, aK (PV.tup [B8 32 (List.replicate 32 0), I6 e])), (11, aF)] [] [Pt 21 [] [PV.st 69 [Hd.pv h, PV.vec nl (PV.parr 1 n (Sh.vec 1 (Sh.int .u8)) T)]] [] (PV.tup [B8 32 (List.replicate 32 0), I6 e]), ((e:Int) == 0) = false, rr (I6 e)] (by kernel_rfl) (ac (c1) (ac (decide_eq_false (by omega)) (ao rfl)))
end Go.Proofs
namespace Go.Proofs
open Go Go.Pe Go.Pm
set_option maxRecDepth 100000
set_option linter.unusedVariables false
theorem OE {L : List TxM} {i : Nat} (h : i < L.length) : (L.map AV).take (i + 1) = (L.map AV).take i ++ [AV (L.getD i default)] := by
 rw [List.take_add_one]
 congr 1
 simp [List.getD_eq_getElem?_getD, h]
end Go.Proofs
namespace Go.Proofs
open Go Go.Pe Go.Pm
set_option maxRecDepth 100000
set_option linter.unusedVariables false
def dsOw (h : Hd) (nl : Bool) (n : Nat) (T M : List PV) (i : Nat) : DS := ⟨[(2, .at 1 []), (3, .at 2 []), (10, .vec nl (.parr 1 n bsh T)), (11, .int .i64 n), (12, .int .i64 i)], [(1, ⟨.st 69 [.st 68 [.int .u32 0, .iarr .u8 32 z32, .iarr .u8 32 z32, .int .u32 0, .int .u32 0, .int .u32 0], .vec true (.parr 1 0 bsh [])], false⟩), (2, ⟨.st 69 [.st 68 [.int .u32 h.ver, .iarr .u8 32 h.prev, .iarr .u8 32 h.root, .int .u32 h.time, .int .u32 h.bits, .int .u32 h.nonce], .ref 3 [] 1 0 i], false⟩), (3, ⟨.parr 1 i bsh M, false⟩)]⟩
theorem W_own {h : Hd} {nl : Bool} {n : Nat} {L : List TxM} (ho : Fa L n) (hn : n ≤ 100000) : ∀ (k i : Nat), i + k = n → 0 < i →
  Wt Tryz.f16 [] [] (BX h (decide (n = 0)) n L) (Ad Tryz.f16 0) (dsOw h nl n (L.map AV) ((L.map AV).take i) i)
 | 0, i, hk, h0 => by
  have hi : i = n := by omega
  subst hi
  have e : (L.map AV).take i = L.map AV := List.take_of_length_le (by rw [List.length_map, ho.len]; omega)
  rw [e]
  have hl : (L.map AV).length = i := by rw [List.length_map, ho.len]
  have hd : decide (i = 0) = false := decide_eq_false (by omega)
  unfold BX EN
  rw [hd]
  generalize L.map AV = T at *
  unfold dsOw Hd.pv
  refine W.ret [(0, aF)] [] [decide ((i:Int) < (i:Int)) = false, 0 + i ≤ i, PV.st 69 [Hd.pv h, PV.vec false (PV.parr 1 i (Sh.vec 1 (Sh.int .u8)) (List.take i T))] = PV.st 69 [Hd.pv h, PV.vec false (PV.parr 1 i (Sh.vec 1 (Sh.int .u8)) T)]] (by kernel_rfl) (ac (dF (by omega)) (ac (by omega) (ao (by (simp; omega)))))
 | k + 1, i, hk, h0 => by
  have hi : i < n := by omega
  have hlt : i < L.length := by rw [ho.len]; exact hi
  have g := Gp (l := L) (i := i) hlt
  obtain ⟨hb, hnl, hN⟩ := ho.get hi
  have hw := W_own (h := h) (nl := nl) ho hn k (i + 1) (by omega) (by omega)
  rw [OE hlt] at hw
  have hl : ((L.map AV).take i).length = i := by rw [List.length_take, List.length_map, ho.len]; omega
  generalize L.getD i default = x at *
  obtain ⟨xnl, xN, xb⟩ := x
  have c1 := FJ (by omega) hb.len hnl
  dsimp only at *
  change _ = PV.vec xnl (.iarr .u8 xN xb) at g
  change W _ _ _ _ _ _ _ (dsOw h nl n (L.map AV) ((L.map AV).take i ++ [PV.vec xnl (.iarr .u8 xN xb)]) (i + 1)) at hw
  generalize BX h (decide (n = 0)) n L = res at *
  generalize (L.map AV).take i = M at *
  generalize L.map AV = T at *
  unfold dsOw at *
  refine W.sgA 0 [(0, aT), (2, aE g), (7, c0 c1), (9, Ans.ups [(3, none), (208, some (Row.mk (PV.parr 1 (i + 1) (Sh.vec 1 (Sh.int .u8)) (M ++ [PV.vec xnl (B8 xN xb)])) false))]), (12, aV (I6 ↑(i + 1)))] [(1, 1), (2, 2), (208, 3)] (⟨[(2, .at 1 []), (3, .at 2 []), (10, .vec nl (.parr 1 n bsh T)), (11, .int .i64 n), (12, .int .i64 ((i + 1 : Nat) : Int))], [(1, ⟨.st 69 [.st 68 [.int .u32 0, .iarr .u8 32 z32, .iarr .u8 32 z32, .int .u32 0, .int .u32 0, .int .u32 0], .vec true (.parr 1 0 bsh [])], false⟩), (2, ⟨.st 69 [.st 68 [.int .u32 h.ver, .iarr .u8 32 h.prev, .iarr .u8 32 h.root, .int .u32 h.time, .int .u32 h.bits, .int .u32 h.nonce], .ref 3 [] 1 0 (i + 1)], false⟩), (3, ⟨.parr 1 (i + 1) bsh (M ++ [.vec xnl (.iarr .u8 xN xb)]), false⟩)]⟩ : DS) [decide ((i:Int) < (n:Int)) = true, 0 ≤ (i:Int), (i:Int) < (n:Int), _, i < n, _, ([(3, none), (208, some (Row.mk (PV.parr 1 (i + 1) (Sh.vec 1 (Sh.int .u8)) (List.take i M ++ [PV.vec xnl (B8 xN xb)])) false))] : List (Nat × Option Row)) = [(3, none), (208, some (Row.mk (PV.parr 1 (i + 1) (Sh.vec 1 (Sh.int .u8)) (M ++ [PV.vec xnl (B8 xN xb)])) false))], 1 ≤ 1, 0 + i = i, (i + 1) * 24 ≤ 140737488355328, i + 1 ≤ 9223372036854775807, I6 (IntKind.wrap .i64 ((i:Int) + 1)) = I6 ↑(i + 1)] (ac (dT (by omega)) (ob2 (by omega) (ac (ex g) (ac (by omega) (ac (c1) (ac (by rw [List.take_of_length_le (show List.length M ≤ i by omega)]) (ac (by omega) (ac (by omega) (ob2 (by omega) (ao (wj (by omega)))))))))))) ?_
  exact hw
theorem pc_own {h : Hd} {nl : Bool} {n : Nat} {L : List TxM} (ho : Fa L n) (hn : n ≤ 100000) : Pt 16 [] [BX h nl n L] [] (BX h (decide (n = 0)) n L) := by
 refine pO Tryz.func16 (by kernel_rfl) ?_
 by_cases h0 : n = 0
 ·subst h0
  have hL : L = [] := List.eq_nil_of_length_eq_zero ho.len
  subst hL
  unfold BX EN Hd.pv at *
  change W _ _ _ _ _ (PV.st 69 [_, PV.vec true (PV.parr 1 0 bsh [])]) _ _
  rw [List.map_nil]
  refine W.sgA 0 [(9, aV (I6 0))] [(80, 1), (144, 2)] (⟨[(2, .at 1 []), (3, .at 2 []), (10, .vec nl (.parr 1 0 bsh [])), (11, .int .i64 (0 : Int)), (12, .int .i64 0)], [(1, ⟨.st 69 [.st 68 [.int .u32 0, .iarr .u8 32 z32, .iarr .u8 32 z32, .int .u32 0, .int .u32 0, .int .u32 0], .vec true (.parr 1 0 bsh [])], false⟩), (2, ⟨.st 69 [.st 68 [.int .u32 h.ver, .iarr .u8 32 h.prev, .iarr .u8 32 h.root, .int .u32 h.time, .int .u32 h.bits, .int .u32 h.nonce], .vec true (.parr 1 0 bsh [])], false⟩)]⟩ : DS) [I6 ↑(0 : Nat) = I6 0] (ao (cg (by omega))) ?_
  refine W.rtA [] [] [] trivial
 ·have hlt : 0 < L.length := by rw [ho.len]; omega
  have g := Gp (l := L) (i := 0) hlt
  obtain ⟨hb, hnl, hN⟩ := ho.get (i := 0) (by omega)
  have hw := W_own (h := h) (nl := nl) ho hn (n - 1) 1 (by omega) (by omega)
  have hs := OE hlt
  rw [List.take_zero, List.nil_append] at hs
  rw [hs] at hw
  generalize L.getD 0 default = x at *
  obtain ⟨xnl, xN, xb⟩ := x
  have c1 := FJ (by omega) hb.len hnl
  dsimp only at *
  change _ = PV.vec xnl (.iarr .u8 xN xb) at g
  change W _ _ _ _ _ _ _ (dsOw h nl n (L.map AV) [PV.vec xnl (.iarr .u8 xN xb)] 1) at hw
  have hn0 : 0 < n := by omega
  clear hs h0
  generalize BX h (decide (n = 0)) n L = res at *
  unfold BX EN at *
  generalize L.map AV = T at *
  unfold dsOw Hd.pv at *
  refine W.sgA 0 [] [(80, 1), (144, 2)] (⟨[(2, .at 1 []), (3, .at 2 []), (10, .vec nl (.parr 1 n bsh T)), (11, .int .i64 n), (12, .int .i64 0)], [(1, ⟨.st 69 [.st 68 [.int .u32 0, .iarr .u8 32 z32, .iarr .u8 32 z32, .int .u32 0, .int .u32 0, .int .u32 0], .vec true (.parr 1 0 bsh [])], false⟩), (2, ⟨.st 69 [.st 68 [.int .u32 h.ver, .iarr .u8 32 h.prev, .iarr .u8 32 h.root, .int .u32 h.time, .int .u32 h.bits, .int .u32 h.nonce], .vec true (.parr 1 0 bsh [])], false⟩)]⟩ : DS) [] trivial ?_
  refine W.sgA 0 [(0, aT), (2, aE g), (7, c0 c1), (12, aV (I6 1))] [(1, 1), (2, 2), (208, 3)] (⟨[(2, .at 1 []), (3, .at 2 []), (10, .vec nl (.parr 1 n bsh T)), (11, .int .i64 n), (12, .int .i64 (1 : Int))], [(1, ⟨.st 69 [.st 68 [.int .u32 0, .iarr .u8 32 z32, .iarr .u8 32 z32, .int .u32 0, .int .u32 0, .int .u32 0], .vec true (.parr 1 0 bsh [])], false⟩), (2, ⟨.st 69 [.st 68 [.int .u32 h.ver, .iarr .u8 32 h.prev, .iarr .u8 32 h.root, .int .u32 h.time, .int .u32 h.bits, .int .u32 h.nonce], .ref 3 [] 1 0 1], false⟩), (3, ⟨.parr 1 1 bsh [.vec xnl (.iarr .u8 xN xb)], false⟩)]⟩ : DS) [decide (0 < (n:Int)) = true, (0 : Int) ≤ 0, 0 < (n:Int), _, 0 < n, _, 1 ≤ 1, 0 < 1, 24 ≤ 140737488355328, 1 ≤ 9223372036854775807, I6 (IntKind.wrap .i64 ((0 : Int) + (1 : Int))) = I6 1] (ac (dT (by omega)) (ob2 (by omega) (ac (ex g) (ac (by omega) (ac (c1) (ob4 (by omega) (ao (wj (by omega))))))))) ?_
  exact hw
structure Blk where
 h : Hd
 nl : Bool
 n : Nat
 L : List TxM
instance : Inhabited Blk := ⟨⟨⟨0, z32, z32, 0, 0, 0⟩, true, 0, []⟩⟩
def Blk.pv (b : Blk) : PV := BX b.h b.nl b.n b.L
structure BlkOk (b : Blk) : Prop where
 h : b.h.Ok
 t : Fa b.L b.n
 n : b.n ≤ 100000
def QQ (bn : Bool) (n : Nat) (Bs : List Blk) : PV := .vec bn (.parr 69 n EI (Bs.map Blk.pv))
theorem blk_get {Bs : List Blk} {i : Nat} (h : i < Bs.length) : (Bs.map Blk.pv).getD i .undef = (Bs.getD i default).pv := by simp [List.getD_eq_getElem?_getD, h]
end Go.Proofs
namespace Go.Proofs
open Go Go.Pe Go.Pm
set_option maxRecDepth 100000
set_option linter.unusedVariables false
def hb (h : Hd) : List Int := (((le h.ver 4 ++ (h.prev ++ h.root)) ++ le h.time 4) ++ le h.bits 4) ++ le h.nonce 4
def Du (h : Hd) : List Int := HV (hb h)
theorem KF {h : Hd} (ho : h.Ok) : (hb h).length = 80 := by
 unfold hb
 simp only [List.length_append, Cc, ho.prev, ho.root]
theorem QM {h : Hd} (ho : h.Ok) : Bytes (hb h) := by
 unfold hb
 exact (((((GK _ _).append (Bytes.append ho.prevB ho.rootB)).append (GK _ _)).append (GK _ _)).append (GK _ _))
theorem GQ (h : Hd) : (Du h).length = 32 := Dp _
def dsHb (ns : List Int) (n : Nat) (b : List Int) (i : Nat) : DS := ⟨[(3, .at 2 []), (25, .iarr .u32 3 ns), (26, .int .i64 i)], [(2, wrR 3 n), (3, BV n b)]⟩
set_option maxHeartbeats 4000000 in
theorem NL {h : Hd} (ho : h.Ok) : Pt 23 [] [h.pv] [(1, BV 80 (hb h))] (.ref 1 [] 1 0 80) := by
 refine pO Tryz.func23 (by kernel_rfl) ?_
 have hlen := KF ho
 have p1 := ho.ver
 have p2 := ho.time
 have p3 := ho.bits
 have p4 := ho.nonce
 have p5 := ho.prev
 have p6 := ho.root
 have c1 := Qk
 have c2 := Ps (x := h.ver) (w := 4) (by omega) (by omega) (by omega)
 have l1 := Cc h.ver 4
 have c3 := Q6 (nl := false) (l := [(false, 32, h.prev), (false, 32, h.root)]) (c := 2) (n := 4) (m := 68) (b := le h.ver 4) (q := le h.ver 4 ++ (h.prev ++ h.root)) rfl (by omega) (by
  intro x hx
  simp only [List.mem_cons, List.not_mem_nil, or_false] at hx
  rcases hx with rfl | rfl
  ·exact ⟨ho.prev, ho.prevB⟩
  ·exact ⟨ho.root, ho.rootB⟩) (by omega) (by omega) l1 (by simp [cat]) (by simp only [List.length_append, l1, p5, p6])
 have l2 : (le h.ver 4 ++ (h.prev ++ h.root)).length = 68 := by simp only [List.length_append, l1, p5, p6]
 have c4 := Jf (x := h.time) (w := 4) (by omega) (by omega) l2 (by omega)
 have l3 : ((le h.ver 4 ++ (h.prev ++ h.root)) ++ le h.time 4).length = 72 := by rw [List.length_append, l2, Cc]
 have c5 := Jf (x := h.bits) (w := 4) (by omega) (by omega) l3 (by omega)
 have l4 : (((le h.ver 4 ++ (h.prev ++ h.root)) ++ le h.time 4) ++ le h.bits 4).length = 76 := by rw [List.length_append, l3, Cc]
 have c6 := Jf (x := h.nonce) (w := 4) (by omega) (by omega) l4 (by omega)
 have c7 := NR (n := 80) (l := hb h) (by omega) (by omega) hlen
 unfold hb at c7 hlen ⊢
 unfold AV at c3
 dsimp only [List.map] at c3
 generalize le h.ver 4 ++ (h.prev ++ h.root) = b1 at *
 generalize b1 ++ le h.time 4 = b2 at *
 generalize b2 ++ le h.bits 4 = b3 at *
 generalize b3 ++ le h.nonce 4 = b4 at *
 generalize le h.ver 4 = b0 at *
 obtain ⟨ver, prev, root, time, bits, nonce⟩ := h
 unfold Hd.pv
 dsimp only at *
 refine W.sgA 0 [(2, c9 c1), (7, aV (U6 ver)), (8, cC true [(97, 0)] c2), (14, Ans.frz [64]), (15, cL true [(97, 0), (194, 1)] c3)] [(97, 2), (306, 3)] (dsHb [(time : Int), (bits : Int), (nonce : Int)] 68 b1 0) [_, U6 (IntKind.wrap .u64 (ver:Int)) = U6 ver, _, (0 : Int) ≤ 0, 0 ≤ (↑(32 : Nat) : Int), (↑(32 : Nat) : Int) ≤ (↑(32 : Nat) : Int), (0 : Int) ≤ 0, 0 ≤ (↑(32 : Nat) : Int), (↑(32 : Nat) : Int) ≤ (↑(32 : Nat) : Int), 32 ≤ 32, 32 ≤ 32, 2 ≤ 2, rr ([(0, Row.mk (PV.st 1 [PV.ref 1 [] 1 0 4]) false), (1, Row.mk (B8 4 b0) false)] : List (Nat × Row)), ([PV.at 0 [], PV.vec false (PV.parr 1 2 (Sh.vec 1 (Sh.int .u8)) [PV.vec false (B8 32 (List.take 32 prev)), PV.vec false (B8 32 (List.take 32 root))])] : List PV) = [PV.at 0 [], PV.vec false (PV.parr 1 2 (Sh.vec 1 (Sh.int .u8)) [PV.vec false (B8 32 prev), PV.vec false (B8 32 root)])], _] (ac (c1) (ac (cg (BC rfl (by omega) (by omega))) (ac (c2) (ob4 (by omega) (ob4 (by omega) (ac (by omega) (ac rfl (ac (by rw [List.take_of_length_le (show List.length prev ≤ 32 by omega), List.take_of_length_le (show List.length root ≤ 32 by omega)]) (ao (c3)))))))))) ?_
 refine W.sgA 0 [(5, aV (U6 time)), (6, cC true [(2, 0), (3, 1)] c4), (7, aV (I6 1))] [(2, 2), (162, 3)] (dsHb [(time : Int), (bits : Int), (nonce : Int)] 72 b2 1) [0 ≤ (↑(0 : Nat) : Int), (↑(0 : Nat) : Int) < (↑(3 : Nat) : Int), U6 (IntKind.wrap .u64 (time:Int)) = U6 time, _, I6 (IntKind.wrap .i64 ((↑(0 : Nat) : Int) + 1)) = I6 1] (ob2 (by omega) (ac (cg (BC rfl (by omega) (by omega))) (ac (c4) (ao (wj (by omega)))))) ?_
 refine W.sgA 0 [(5, aV (U6 bits)), (6, cC true [(2, 0), (3, 1)] c5), (7, aV (I6 2))] [(2, 2), (162, 3)] (dsHb [(time : Int), (bits : Int), (nonce : Int)] 76 b3 2) [0 ≤ (↑(1 : Nat) : Int), (↑(1 : Nat) : Int) < (↑(3 : Nat) : Int), U6 (IntKind.wrap .u64 (bits:Int)) = U6 bits, _, I6 (IntKind.wrap .i64 ((↑(1 : Nat) : Int) + 1)) = I6 2] (ob2 (by omega) (ac (cg (BC rfl (by omega) (by omega))) (ac (c5) (ao (wj (by omega)))))) ?_
 refine W.sgA 0 [(5, aV (U6 nonce)), (6, cC true [(2, 0), (3, 1)] c6), (7, aV (I6 3))] [(2, 2), (162, 3)] (dsHb [(time : Int), (bits : Int), (nonce : Int)] 80 b4 3) [0 ≤ (↑(2 : Nat) : Int), (↑(2 : Nat) : Int) < (↑(3 : Nat) : Int), U6 (IntKind.wrap .u64 (nonce:Int)) = U6 nonce, _, I6 (IntKind.wrap .i64 ((↑(2 : Nat) : Int) + 1)) = I6 3] (ob2 (by omega) (ac (cg (BC rfl (by omega) (by omega))) (ac (c6) (ao (wj (by omega)))))) ?_
 refine W.rtA [(2, cC true [(2, 0), (3, 1)] c7)] [(98, 1)] [_] (ao (c7))
theorem PE {h : Hd} (ho : h.Ok) : Pt 15 [] [h.pv] [] (.iarr .u8 32 (Du h)) := by
 refine pO Tryz.func15 (by kernel_rfl) ?_
 have c1 := NL ho
 have hl := KF ho
 have e : cat [(false, 80, hb h)] = hb h := by simp [cat]
 have c2 := Jc (nl := false) (l := [(false, 80, hb h)]) (c := 1) rfl (by intro x hx; simp at hx; subst hx; exact ⟨hl, QM ho⟩) (by rw [e]; omega) (by omega)
 rw [e] at c2
 unfold AV at c2
 dsimp only [List.map] at c2
 unfold Du
 generalize HV (hb h) = res at *
 generalize hb h = b at *
 refine W.rtA [(3, c9 c1), (4, Ans.frz [113]), (5, cL true [] c2)] [] [_, 80 ≤ 80, 1 ≤ 1, rr ([] : List (Nat × Row)), ([PV.vec false (PV.parr 1 1 (Sh.vec 1 (Sh.int .u8)) [PV.vec false (B8 80 (List.take 80 b))])] : List PV) = [PV.vec false (PV.parr 1 1 (Sh.vec 1 (Sh.int .u8)) [PV.vec false (B8 80 b)])], _] (ac (c1) (ob2 (by omega) (ac rfl (ac (by rw [List.take_of_length_le (show List.length b ≤ 80 by omega)]) (ao (c2))))))
end Go.Proofs
