/- Merged texts: the pure machine and what the walks show. Conditions: as each statement says. -/
import Derived.KernelRfl
import Derived.Test.YtjclbapcmepnpaaGreatDoorChecked
import Derived.Laws.Externs
import Derived.Test.YtjclbapcmepnpaaGreatDoorQ2
namespace Go.Pe
def Ht (b : List (Nat × Nat)) (src : DS) : List (Nat × PV) → Option (List Prop × List PV)
 | [] => some ([], [])
 | x :: l => if CF x.2 then Ht b src l else match Co (Ad b) (Ad src.hp) (Bn src.fr x.1), Ht b src l with
  | some q, some m => if untup (Bn src.fr x.1) && !CF (Bn src.fr x.1) then some (q.2 ++ m.1, q.1 :: m.2) else none
  | _, _ => none
def Gf : List (Nat × PV) → List PV
 | [] => []
 | x :: l => if CF x.2 then Gf l else x.2 :: Gf l
def La (b : List (Nat × Nat)) (src : DS) : List (Nat × Row) → Option (List PV)
 | [] => some []
 | x :: l => match Ad (Bl b) x.1 with
  | some i => (match Ad src.hp i with
   | some r => (match ren (Ad b) r.c, La b src l with
    | some c, some m => if Nat.blt x.1 64 && (x.2.frz || !r.frz) then some (c :: m) else none
    | _, _ => none)
   | none => none)
  | none => none
def D7 : List (Nat × Row) → List PV
 | [] => []
 | x :: l => x.2.c :: D7 l
def NV (b : List (Nat × Nat)) (pins : List Nat) (src tgt : DS) : Option (List Prop × List PV × List PV) :=
 if nodupB (keys b) && nodupB (keys (Bl b)) && pins.all (fun i => match Ad b i with
   | some j => Nat.beq i j
   | none => false) && (keys (Bl b)).all (fun j => Nat.blt j 64) then (match Ht b src tgt.fr, La b src tgt.hp with
  | some m, some m' => some (m.1, m.2, m')
  | _, _ => none) else none
theorem Gb {b : List (Nat × Nat)} {src : DS} : ∀ {l : List (Nat × PV)} {m : List Prop}, Ht b src l = some (m, Gf l) → ∃ m', F6 b src l = some m' ∧ (All m → All m')
 | [], m, _ => ⟨[], rfl, fun _ => All.nil⟩
 | x :: l, m, h => by
  unfold Ht Gf at h
  unfold F6
  by_cases hu : CF x.2 = true
  ·rw [if_pos hu] at h ⊢
   rw [if_pos hu] at h
   exact Gb h
  ·rw [if_neg hu] at h ⊢
   rw [if_neg hu] at h
   split at h
   ·rename_i q y hq hy
    rw [hq]
    split at h
    ·rename_i hc
     simp only [Option.some.injEq, Prod.mk.injEq, List.cons.injEq] at h
     obtain ⟨rfl, e1, e2⟩ := h
     obtain ⟨m', g1, g2⟩ := Gb (m := y.1) (by rw [hy, ← e2])
     rw [g1]
     dsimp only
     rw [if_pos hc]
     exact ⟨_, rfl, fun ho => All.append ho.left (All.cons e1 (g2 ho.right))⟩
    ·cases h
   ·cases h
theorem Jt {b : List (Nat × Nat)} {src : DS} : ∀ {l : List (Nat × Row)}, La b src l = some (D7 l) → ∃ m', FU b src l = some m' ∧ All m'
 | [], _ => ⟨[], rfl, All.nil⟩
 | x :: l, h => by
  unfold La D7 at h
  unfold FU
  split at h
  ·rename_i i hi
   rw [hi]
   dsimp only
   split at h
   ·rename_i r hr
    rw [hr]
    dsimp only
    split at h
    ·rename_i c m hc hm
     rw [hc]
     split at h
     ·rename_i hk
      simp only [Option.some.injEq, List.cons.injEq] at h
      obtain ⟨e1, e2⟩ := h
      obtain ⟨m', g1, g2⟩ := Jt (l := l) (by rw [hm, e2])
      rw [g1]
      dsimp only
      rw [if_pos hk]
      exact ⟨_, rfl, All.cons e1 g2⟩
     ·cases h
    ·cases h
   ·cases h
  ·cases h
theorem X5 {b : List (Nat × Nat)} {pins : List Nat} {src tgt : DS} {m m' : List Prop} (hc : (nodupB (keys b) && nodupB (keys (Bl b)) && pins.all (fun i => match Ad b i with
   | some j => Nat.beq i j
   | none => false) && (keys (Bl b)).all (fun j => Nat.blt j 64)) = true) (h1 : F6 b src tgt.fr = some m) (h2 : FU b src tgt.hp = some m') : KE b pins src tgt = some (m ++ m') := by
 unfold KE
 split
 ·rw [h1, h2]
 ·rename_i hn
  exact absurd hc hn
theorem L9 {b : List (Nat × Nat)} {pins : List Nat} {src tgt : DS} {m : List Prop} (h : NV b pins src tgt = some (m, Gf tgt.fr, D7 tgt.hp)) : ∃ m', KE b pins src tgt = some m' ∧ (All m → All m') := by
 unfold NV at h
 split at h
 ·rename_i hc
  split at h
  ·rename_i x y hx hy
   simp only [Option.some.injEq, Prod.mk.injEq] at h
   obtain ⟨rfl, e1, rfl⟩ := h
   obtain ⟨m1, g1, g2⟩ := Gb (m := x.1) (by rw [hx, ← e1])
   obtain ⟨m2, k1, k2⟩ := Jt hy
   exact ⟨_, X5 hc g1 k1, fun ho => All.append (g2 ho) k2⟩
  ·cases h
 ·cases h
def Q0 (P : Program) (G : Nat → Option PV) (nt : Nat) (pins : List Nat) (todo : List Item) (d : DS) (az : List (Nat × Ans)) (b : List (Nat × Nat)) (tgt : DS) : Option (List Item × List Prop × List PV × List PV) :=
 match G6 P G nt 4000 todo 0 d az with
 | some x => (match NV b pins x.2.1 tgt with
  | some y => some (x.1, x.2.2 ++ y.1, y.2)
  | none => none)
 | none => none
theorem Vt {P : Program} {G : Nat → Option PV} {nt : Nat} {pins : List Nat} {todo : List Item} {d : DS} {az : List (Nat × Ans)} {b : List (Nat × Nat)} {tgt : DS} {todo' : List Item} {ob : List Prop}
  (h : Q0 P G nt pins todo d az b tgt = some (todo', ob, Gf tgt.fr, D7 tgt.hp)) : ∃ ob', segB P G nt pins todo d az b tgt = some (todo', ob') ∧ (All ob → All ob') := by
 unfold Q0 at h
 unfold segB
 split at h
 ·rename_i x hx
  split at h
  ·rename_i y hy
   simp only [Option.some.injEq, Prod.mk.injEq] at h
   obtain ⟨rfl, rfl, e⟩ := h
   obtain ⟨m', g1, g2⟩ := L9 (m := y.1) (by rw [hy, ← e])
   rw [hx]
   dsimp only
   rw [g1]
   exact ⟨_, rfl, fun ho => All.append ho.left (g2 ho.right)⟩
  ·cases h
 ·cases h
def retS (P : Program) (G : Nat → Option PV) (fn : Func) (pins : List Nat) (todo : List Item) (d : DS) (az : List (Nat × Ans)) (b : List (Nat × Nat)) (hout : List (Nat × Row)) : Option (List Prop × List PV × PV) :=
 match G6 P G fn.ntmps 4000 todo 0 d az with
 | some x => if LC x.1 then (match Iy P x.2.1 fn.results.toList, NV b pins x.2.1 ⟨[], hout⟩ with
   | some r, some y => (match TU (Ad b) (Ad x.2.1.hp) (Ty r.1) with
    | some q => some (x.2.2 ++ (r.2 ++ q.2), y.2.2, q.1)
    | none => none)
   | _, _ => none) else none
 | none => none
theorem RY {b : List (Nat × Nat)} {pins : List Nat} {src : DS} {hout : List (Nat × Row)} {y : List Prop × List PV × List PV} (h : NV b pins src ⟨[], hout⟩ = some y) : y.1 = [] ∧ y.2.1 = [] := by
 unfold NV at h
 split at h
 ·split at h
  ·rename_i x z hx hz
   unfold Ht at hx
   simp only [Option.some.injEq] at hx h
   subst hx; subst h
   exact ⟨rfl, rfl⟩
  ·cases h
 ·cases h
theorem NZ {P : Program} {G : Nat → Option PV} {fn : Func} {pins : List Nat} {todo : List Item} {d : DS} {az : List (Nat × Ans)} {b : List (Nat × Nat)} {hout : List (Nat × Row)} {res : PV} {ob : List Prop}
  (h : retS P G fn pins todo d az b hout = some (ob, D7 hout, res)) : ∃ ob', retB P G fn pins todo d az b hout res = some ob' ∧ (All ob → All ob') := by
 unfold retS at h
 unfold retB
 split at h
 ·rename_i x hx
  split at h
  ·rename_i hr
   rw [hx]
   dsimp only
   rw [if_pos hr]
   split at h
   ·rename_i r y hrr hy
    rw [hrr]
    split at h
    ·rename_i q hq
     simp only [Option.some.injEq, Prod.mk.injEq] at h
     obtain ⟨rfl, e1, e2⟩ := h
     obtain ⟨k1, k2⟩ := RY hy
     obtain ⟨m', g1, g2⟩ := L9 (m := []) (tgt := ⟨[], hout⟩) (by rw [hy]; show some y = some ([], [], D7 hout); rw [← e1, ← k1, ← k2])
     rw [g1]
     dsimp only
     rw [hq]
     dsimp only
     exact ⟨_, rfl, fun ho => All.append ho.left (All.append ho.right.left (All.append (g2 All.nil) (All.append ho.right.right (All.cons e2 All.nil))))⟩
    ·cases h
   ·cases h
  ·cases h
 ·cases h
section
variable {P : Program} {G : Nat → Option PV} {fn : Func} {pins : List Nat} {hout : List (Nat × Row)} {res : PV} {todo : List Item} {d : DS} {H : Nu}
theorem Ld : ∀ {l : List Prop}, All l → Dr l
 | [], _ => trivial
 | [_], h => h.head
 | _ :: _ :: _, h => ⟨h.head, Ld h.tail⟩
theorem WH.sg (az : List (Nat × Ans)) (b : List (Nat × Nat)) (tgt : DS) (todo' : List Item) (ob : List Prop) (h : Q0 P G fn.ntmps pins todo d az b tgt = some (todo', ob, Gf tgt.fr, D7 tgt.hp)) (ho : Dr ob) (hw : WH P G fn pins H todo' tgt) : WH P G fn pins H todo d := by
 obtain ⟨ob', g1, g2⟩ := Vt h
 exact WH.seg az b tgt ob' g1 (Ld (g2 ho.all)) hw
theorem W.sg (n : Nat) (az : List (Nat × Ans)) (b : List (Nat × Nat)) (tgt : DS) (ob : List Prop) (h : Q0 P G fn.ntmps pins todo d az b tgt = some (Af fn n, ob, Gf tgt.fr, D7 tgt.hp)) (ho : Dr ob) (hw : W P G fn pins hout res (Af fn n) tgt) : W P G fn pins hout res todo d :=
 WH.sg az b tgt _ ob h ho hw
theorem W.st (az : List (Nat × Ans)) (b : List (Nat × Nat)) (tgt : DS) (todo' : List Item) (ob : List Prop) (h : Q0 P G fn.ntmps pins todo d az b tgt = some (todo', ob, Gf tgt.fr, D7 tgt.hp)) (ho : Dr ob) (hw : W P G fn pins hout res todo' tgt) : W P G fn pins hout res todo d :=
 WH.sg az b tgt todo' ob h ho hw
theorem WM.st (az : List (Nat × Ans)) (b : List (Nat × Nat)) (tgt : DS) (todo' : List Item) (ob : List Prop) (h : Q0 P G fn.ntmps pins todo d az b tgt = some (todo', ob, Gf tgt.fr, D7 tgt.hp)) (ho : Dr ob) (hw : WM P G fn pins hout res todo' tgt) : WM P G fn pins hout res todo d :=
 WH.sg az b tgt todo' ob h ho hw
theorem W.rt (az : List (Nat × Ans)) (b : List (Nat × Nat)) (ob : List Prop) (h : retS P G fn pins todo d az b hout = some (ob, D7 hout, res)) (ho : Dr ob) : W P G fn pins hout res todo d := by
 obtain ⟨ob', g1, g2⟩ := NZ h
 exact W.ret az b ob' g1 (Ld (g2 ho.all))
theorem WM.rt (az : List (Nat × Ans)) (b : List (Nat × Nat)) (ob : List Prop) (h : retS P G fn pins todo d az b hout = some (ob, D7 hout, res)) (ho : Dr ob) : WM P G fn pins hout res todo d := by
 obtain ⟨ob', g1, g2⟩ := NZ h
 exact WM.ret az b ob' g1 (Ld (g2 ho.all))
end
def cC {P : Program} {G : Nat → Option PV} {f : FuncId} {hin : List (Nat × Row)} {args : List PV} {hout : List (Nat × Row)} {res : PV} (keep : Bool) (b : List (Nat × Nat)) (_ : PC P G f hin args hout res) : Ans := .call keep b hout res
def cL {P : Program} {G : Nat → Option PV} {f : FuncId} {hin : List (Nat × Row)} {args : List PV} {hout : List (Nat × Row)} {res : PV} (keep : Bool) (b : List (Nat × Nat)) (_ : PC P G f hin args hout res) : Ans := .calla keep b hin args hout res
def c0 {P : Program} {G : Nat → Option PV} {f : FuncId} {hin : List (Nat × Row)} {args : List PV} {hout : List (Nat × Row)} {res : PV} (_ : PC P G f hin args hout res) : Ans := .call false [] hout res
def c9 {P : Program} {G : Nat → Option PV} {f : FuncId} {hin : List (Nat × Row)} {args : List PV} {hout : List (Nat × Row)} {res : PV} (_ : PC P G f hin args hout res) : Ans := .call true [] hout res
def cS {P : Program} {G : Nat → Option PV} {f : FuncId} {hin : List (Nat × Row)} {args : List PV} {hout : List (Nat × Row)} {res : PV} (ids : List Nat) (keep : Bool) (b : List (Nat × Nat)) (_ : PC P G f hin args hout res) : Ans := .same ids [] keep b hout res none
def rowX (b : List (Nat × Nat)) (hin : List (Nat × Row)) (i : Nat) : Option Row := match Ad hin i with
 | some r => (match ren (Ad (Bl b)) r.c with
  | some c => some ⟨c, r.frz⟩
  | none => none)
 | none => none
def rO {P : Program} {G : Nat → Option PV} {f : FuncId} {hin : List (Nat × Row)} {args : List PV} {hout : List (Nat × Row)} {res : PV} (_ : PC P G f hin args hout res) (i : Nat) : Prop := Ad hin i = Ad hin i
def rX {P : Program} {G : Nat → Option PV} {f : FuncId} {hin : List (Nat × Row)} {args : List PV} {hout : List (Nat × Row)} {res : PV} (b : List (Nat × Nat)) (_ : PC P G f hin args hout res) (i : Nat) : Prop := rowX b hin i = rowX b hin i
def aE {p q : PV} (_ : p = q) : Ans := .val q
mutual
def shp : PV → Sh
 | .int k _ => .int k
 | .bool _ => .bool
 | .str _ => .str
 | .st n fs => .st n (shpL fs)
 | .iarr k n _ => .iarr k n
 | .parr s n e _ => .parr s n e
 | .vec _ (.iarr k _ _) => .vec 1 (.int k)
 | .vec _ (.parr s _ e _) => if e.isInt then .any else .vec s e
 | _ => .any
termination_by structural p => p
def shpL : List PV → List Sh
 | [] => []
 | p :: l => shp p :: shpL l
termination_by structural l => l
end
theorem IntKind.Dg (k : IntKind) : IntKind.same k k = true := by cases k <;> rfl
mutual
theorem Sh.beq_refl : ∀ (a : Sh), Sh.beq a a = true
 | .any | .bool | .str => rfl
 | .int k => by simp only [Sh.beq]; exact IntKind.Dg k
 | .st n fs => by simp only [Sh.beq, Nat.beq_refl, Bool.true_and]; exact Sh.Oy fs
 | .iarr k n => by simp only [Sh.beq, Nat.beq_refl, Bool.and_true]; exact IntKind.Dg k
 | .parr s n e => by simp only [Sh.beq, Nat.beq_refl, Bool.true_and]; exact Sh.beq_refl e
 | .vec s e => by simp only [Sh.beq, Nat.beq_refl, Bool.true_and]; exact Sh.beq_refl e
theorem Sh.Oy : ∀ (l : List Sh), Sh.Pn l l = true
 | [] => rfl
 | a :: l => by simp only [Sh.Pn, Bool.and_eq_true]; exact ⟨Sh.beq_refl a, Sh.Oy l⟩
end
mutual
theorem M4 : ∀ (p : PV), Bo (shp p) p = p
 | .int k _ | .bool _ | .str _ => rfl
 | .iarr k n _ => rfl
 | .parr s n e _ => rfl
 | .st n fs => by simp only [shp, Bo, PV.fs, KJ fs]
 | .vec nl c => by
  cases c with
  | iarr k n l => exact BB _ _ (by simp only [shp, conf]; exact IntKind.Dg k)
  | parr s n e l =>
   by_cases he : e.isInt = true
   ·simp only [shp, he, if_true]; rfl
   ·have he' : e.isInt = false := by simpa using he
    refine BB _ _ ?_
    simp only [shp, he', Bool.false_eq_true, if_false]
    cases e <;> first | (simp [Sh.isInt] at he'; done) | (simp only [conf, Sh.isInt, Nat.beq_refl, Sh.beq_refl]; rfl)
  | _ => rfl
 | .tup _ | .cptr .. | .at .. | .ref .. | .nilp | .fn .. | .fn2 .. | .fv _ | .fb .. | .undef => rfl
theorem KJ : ∀ (l : List PV), FM (shpL l) l = l
 | [] => rfl
 | p :: l => by simp only [shpL, FM, List.headD_cons, List.tail_cons, M4 p, KJ l]
end
theorem ex {p q : PV} (h : p = q) : Bo (shp q) p = q := by rw [h]; exact M4 q
def rI : Nat → List (Nat × Nat)
 | 0 => []
 | n + 1 => rI n ++ [(n + 1, n + 1)]
theorem dT {p : Prop} [Decidable p] (h : p) : decide p = true := decide_eq_true h
theorem dF {p : Prop} [Decidable p] (h : ¬ p) : decide p = false := decide_eq_false h
theorem pO {P : Program} {G : Nat → Option PV} {f : FuncId} {fn : Func} {hin : List (Nat × Row)} {args : List PV} {hout : List (Nat × Row)} {res : PV} (hf : P.funcs[f]? = some fn) (h : (fn.body.isSome && !(fn.name == "runtime.NumGoroutine") && Nat.ble args.length fn.ntmps && hin.all (fun x => Nat.blt x.1 64 && !x.2.frz)) = true)
  (hw : W P G fn (keys hin) hout res [.code (F8 fn)] ⟨IE 0 args, hin⟩) : PC P G f hin args hout res := by
 simp only [Bool.and_eq_true, Bool.not_eq_true'] at h
 obtain ⟨⟨⟨h1, h2⟩, h3⟩, h4⟩ := h
 obtain ⟨c, hc⟩ := Option.isSome_iff_exists.1 h1
 have e : F8 fn = c := by simp [F8, hc]
 rw [e] at hw
 exact PC.of hf hc h2 h3 (List.all_eq_true.2 fun x hx => by simpa using List.all_eq_true.1 h4 x hx) hw
theorem wj {x y : Int} (h : -9223372036854775808 ≤ y ∧ y ≤ 9223372036854775807) (e : x = y := by rfl) : PV.int .i64 (IntKind.i64.wrap x) = PV.int .i64 y := cg (Ac e h.1 h.2)
theorem ob2 {p q r : Prop} {l : List Prop} (h : p ∧ q) (h' : Dr (r :: l)) : Dr (p :: q :: r :: l) := ⟨h.1, h.2, h'⟩
theorem ob3 {p q s r : Prop} {l : List Prop} (h : p ∧ q ∧ s) (h' : Dr (r :: l)) : Dr (p :: q :: s :: r :: l) := ⟨h.1, h.2.1, h.2.2, h'⟩
theorem ob4 {p q s t r : Prop} {l : List Prop} (h : p ∧ q ∧ s ∧ t) (h' : Dr (r :: l)) : Dr (p :: q :: s :: t :: r :: l) := ⟨h.1, h.2.1, h.2.2.1, h.2.2.2, h'⟩
section
variable {P : Program} {G : Nat → Option PV} {fn : Func} {pins : List Nat} {hout : List (Nat × Row)} {res : PV} {todo : List Item} {d : DS} {H : Nu}
theorem WH.sgA (az : List (Nat × Ans)) (b : List (Nat × Nat)) (tgt : DS) (todo' : List Item) (ob : List Prop) (ho : Dr ob) (hw : WH P G fn pins H todo' tgt) (h : Q0 P G fn.ntmps pins todo d az b tgt = some (todo', ob, Gf tgt.fr, D7 tgt.hp) := by kernel_rfl) : WH P G fn pins H todo d := WH.sg az b tgt todo' ob h ho hw
theorem W.sgA (n : Nat) (az : List (Nat × Ans)) (b : List (Nat × Nat)) (tgt : DS) (ob : List Prop) (ho : Dr ob) (hw : W P G fn pins hout res (Af fn n) tgt) (h : Q0 P G fn.ntmps pins todo d az b tgt = some (Af fn n, ob, Gf tgt.fr, D7 tgt.hp) := by kernel_rfl) : W P G fn pins hout res todo d := W.sg n az b tgt ob h ho hw
theorem W.rtA (az : List (Nat × Ans)) (b : List (Nat × Nat)) (ob : List Prop) (ho : Dr ob) (h : retS P G fn pins todo d az b hout = some (ob, D7 hout, res) := by kernel_rfl) : W P G fn pins hout res todo d := W.rt az b ob h ho
end
end Go.Pe
namespace Go.Pm
set_option maxRecDepth 100000
def rot (x k : Nat) : Nat := x / 2 ^ k ||| x * 2 ^ (32 - k) % 4294967296
theorem rot_eq {x k : Nat} (hk : k ≤ 32) (hx : x < 4294967296) : rot x k = x / 2 ^ k + x % 2 ^ k * 2 ^ (32 - k) := by
 have hp : 2 ^ k * 2 ^ (32 - k) = 4294967296 := by rw [← Nat.pow_add, show k + (32 - k) = 32 by omega]
 have e1 : x * 2 ^ (32 - k) % 4294967296 = x % 2 ^ k * 2 ^ (32 - k) := by rw [← hp, Nat.mul_mod_mul_right]
 have h1 : x / 2 ^ k < 2 ^ (32 - k) := by rw [Nat.div_lt_iff_lt_mul (Nat.two_pow_pos k), Nat.mul_comm, hp]; exact hx
 have h2 := Nat.two_pow_add_eq_or_of_lt h1 (x % 2 ^ k)
 unfold rot
 rw [e1, Nat.mul_comm (x % 2 ^ k), Nat.or_comm, ← h2, Nat.add_comm]
theorem BM {x k : Nat} (hx : x < 4294967296) : rot x k < 4294967296 := by
 unfold rot
 exact Nat.or_lt_two_pow (n := 32) (Nat.lt_of_le_of_lt (Nat.div_le_self _ _) hx) (Nat.mod_lt _ (by decide))
def Nc (x : Nat) : Nat := x / 2 + x % 2 * 2147483648
def ML (f : Nat → Nat) : Nat → Nat → Nat
 | 0, x => x
 | k + 1, x => ML f k (f x)
theorem MR (f : Nat → Nat) : ∀ (k x : Nat), ML f (k + 1) x = f (ML f k x)
 | 0, x => rfl
 | k + 1, x => by rw [ML, MR f k, ML]
def Ig (k x : Nat) : Nat := ML Nc k x
theorem MQ (x : Nat) : Ig 0 x = x := rfl
theorem SC (k x : Nat) : Ig (k + 1) x = Nc (Ig k x) := MR Nc k x
theorem Qy (k x : Nat) : Ig (k + 1) x = Ig k (Nc x) := by unfold Ig; rw [ML]
theorem PL {x : Nat} (hx : x < 4294967296) : ∀ (k : Nat), k ≤ 32 → Ig k x = x / 2 ^ k + x % 2 ^ k * 2 ^ (32 - k)
 | 0, _ => by rw [MQ, Nat.pow_zero, Nat.div_one, Nat.mod_one, Nat.zero_mul]; rfl
 | k + 1, h => by
  rw [SC, PL hx k (by omega)]
  have e0 : 2 ^ (32 - k) = 2 * 2 ^ (32 - (k + 1)) := by rw [← Nat.pow_succ']; congr 1; omega
  have e1 : x % 2 ^ (k + 1) = x % 2 ^ k + 2 ^ k * (x / 2 ^ k % 2) := by rw [Nat.pow_succ, Nat.mod_mul]
  have e2 : x / 2 ^ (k + 1) = x / 2 ^ k / 2 := by rw [Nat.pow_succ, Nat.div_div_eq_div_mul]
  have e3 : 2 ^ k * 2 ^ (32 - (k + 1)) = 2147483648 := by rw [← Nat.pow_add, show k + (32 - (k + 1)) = 31 by omega]
  have e4 : 2 ^ k * (x / 2 ^ k % 2) * 2 ^ (32 - (k + 1)) = x / 2 ^ k % 2 * 2147483648 := by rw [← e3, Nat.mul_comm (2 ^ k), Nat.mul_assoc]
  unfold Nc
  rw [e1, e2, e0, Nat.add_mul, e4, Nat.mul_left_comm]
  generalize x % 2 ^ k * 2 ^ (32 - (k + 1)) = y
  generalize x / 2 ^ k = z
  omega
theorem Uq {x k : Nat} (hx : x < 4294967296) (hk : k ≤ 32) : Ig k x = rot x k := by rw [PL hx k hk, rot_eq hk hx]
def at0 (l : List Int) (i : Nat) : Nat := (l.getD i 0).toNat
def be4 (a b c d : Nat) : Nat := a * 16777216 + b * 65536 + c * 256 + d
def word (b : List Int) (i : Nat) : Nat := be4 (at0 b (4 * i)) (at0 b (4 * i + 1)) (at0 b (4 * i + 2)) (at0 b (4 * i + 3))
def words (b : List Int) : Nat → List Int
 | 0 => []
 | n + 1 => words b n ++ [((word b n : Nat) : Int)]
def sg0 (x : Nat) : Nat := rot x 7 ^^^ rot x 18 ^^^ x / 8
def sg1 (x : Nat) : Nat := rot x 17 ^^^ rot x 19 ^^^ x / 1024
def NG (w : List Int) (t : Nat) : Nat := (((at0 w (t - 16) + sg0 (at0 w (t - 15))) % 4294967296 + at0 w (t - 7)) % 4294967296 + sg1 (at0 w (t - 2))) % 4294967296
def sched (b : List Int) : Nat → List Int
 | 0 => words b 16
 | n + 1 => sched b n ++ [((NG (sched b n) (16 + n) : Nat) : Int)]
theorem Dm (b : List Int) : ∀ n, (words b n).length = n
 | 0 => rfl
 | n + 1 => by simp [words, Dm b n]
theorem Dq (b : List Int) : ∀ n, (sched b n).length = 16 + n
 | 0 => Dm b 16
 | n + 1 => by simp [sched, Dq b n]; omega
def W32 (l : List Int) : Prop := ∀ x ∈ l, 0 ≤ x ∧ x < 4294967296
def Bytes (l : List Int) : Prop := ∀ x ∈ l, 0 ≤ x ∧ x ≤ 255
theorem W32.get {l : List Int} (h : W32 l) (i : Nat) : l.getD i 0 = ((at0 l i : Nat) : Int) ∧ at0 l i < 4294967296 := by
 unfold at0
 by_cases hi : i < l.length
 ·have := h _ (List.getElem_mem hi)
  rw [List.getD_eq_getElem?_getD, List.getElem?_eq_getElem hi]
  simp only [Option.getD_some]
  omega
 ·rw [List.getD_eq_getElem?_getD, List.getElem?_eq_none (by omega)]
  simp
theorem Bytes.get {l : List Int} (h : Bytes l) (i : Nat) : l.getD i 0 = ((at0 l i : Nat) : Int) ∧ at0 l i < 256 := by
 unfold at0
 by_cases hi : i < l.length
 ·have := h _ (List.getElem_mem hi)
  rw [List.getD_eq_getElem?_getD, List.getElem?_eq_getElem hi]
  simp only [Option.getD_some]
  omega
 ·rw [List.getD_eq_getElem?_getD, List.getElem?_eq_none (by omega)]
  simp
theorem word_lt {b : List Int} (hb : Bytes b) (i : Nat) : word b i < 4294967296 := by
 have h1 := (hb.get (4 * i)).2
 have h2 := (hb.get (4 * i + 1)).2
 have h3 := (hb.get (4 * i + 2)).2
 have h4 := (hb.get (4 * i + 3)).2
 unfold word be4
 omega
theorem W32.snoc {l : List Int} (h : W32 l) {x : Nat} (hx : x < 4294967296) : W32 (l ++ [(x : Int)]) := fun y hy => by
 rcases List.mem_append.1 hy with hy | hy
 ·exact h y hy
 ·simp at hy; subst hy; omega
theorem ND {b : List Int} (hb : Bytes b) : ∀ n, W32 (words b n)
 | 0 => fun x hx => by cases hx
 | n + 1 => (ND hb n).snoc (word_lt hb n)
theorem NY {b : List Int} (hb : Bytes b) : ∀ n, W32 (sched b n)
 | 0 => ND hb 16
 | n + 1 => (NY hb n).snoc (Nat.mod_lt _ (by decide))
structure V8 where
 a : Nat
 b : Nat
 c : Nat
 d : Nat
 e : Nat
 f : Nat
 g : Nat
 h : Nat
def V8.l (v : V8) : List Int := [(v.a : Int), (v.b : Int), (v.c : Int), (v.d : Int), (v.e : Int), (v.f : Int), (v.g : Int), (v.h : Int)]
structure V8.Ok (v : V8) : Prop where
 a : v.a < 4294967296
 b : v.b < 4294967296
 c : v.c < 4294967296
 d : v.d < 4294967296
 e : v.e < 4294967296
 f : v.f < 4294967296
 g : v.g < 4294967296
 h : v.h < 4294967296
def bs1 (x : Nat) : Nat := rot x 6 ^^^ rot x 11 ^^^ rot x 25
def bs0 (x : Nat) : Nat := rot x 2 ^^^ rot x 13 ^^^ rot x 22
def chN (e f g : Nat) : Nat := (e &&& f) ^^^ ((4294967295 - e) &&& g)
def majN (a b c : Nat) : Nat := (a &&& b) ^^^ (a &&& c) ^^^ (b &&& c)
def rp (v : V8) (k w : Nat) : Nat := ((((v.h + bs1 v.e) % 4294967296 + chN v.e v.f v.g) % 4294967296 + k) % 4294967296 + w) % 4294967296
def rq (v : V8) : Nat := (bs0 v.a + majN v.a v.b v.c) % 4294967296
def rd (v : V8) (k w : Nat) : V8 := ⟨(rp v k w + rq v) % 4294967296, v.a, v.b, v.c, (v.d + rp v k w) % 4294967296, v.e, v.f, v.g⟩
theorem rd_ok {v : V8} (h : v.Ok) (k w : Nat) : (rd v k w).Ok := ⟨Nat.mod_lt _ (by decide), h.a, h.b, h.c, Nat.mod_lt _ (by decide), h.e, h.f, h.g⟩
def rounds (ks ws : List Int) : Nat → Nat → V8 → V8
 | 0, _, v => v
 | n + 1, t, v => rounds ks ws n (t + 1) (rd v (at0 ks t) (at0 ws t))
def DW (v w : V8) : V8 := ⟨(v.a + w.a) % 4294967296, (v.b + w.b) % 4294967296, (v.c + w.c) % 4294967296, (v.d + w.d) % 4294967296, (v.e + w.e) % 4294967296, (v.f + w.f) % 4294967296, (v.g + w.g) % 4294967296, (v.h + w.h) % 4294967296⟩
theorem addV_ok (v w : V8) : (DW v w).Ok := ⟨Nat.mod_lt _ (by decide), Nat.mod_lt _ (by decide), Nat.mod_lt _ (by decide), Nat.mod_lt _ (by decide), Nat.mod_lt _ (by decide), Nat.mod_lt _ (by decide), Nat.mod_lt _ (by decide), Nat.mod_lt _ (by decide)⟩
def kS : List Int := [1116352408, 1899447441, 3049323471, 3921009573, 961987163, 1508970993, 2453635748, 2870763221,
  3624381080, 310598401, 607225278, 1426881987, 1925078388, 2162078206, 2614888103, 3248222580,
  3835390401, 4022224774, 264347078, 604807628, 770255983, 1249150122, 1555081692, 1996064986,
  2554220882, 2821834349, 2952996808, 3210313671, 3336571891, 3584528711, 113926993, 338241895,
  666307205, 773529912, 1294757372, 1396182291, 1695183700, 1986661051, 2177026350, 2456956037,
  2730485921, 2820302411, 3259730800, 3345764771, 3516065817, 3600352804, 4094571909, 275423344,
  430227734, 506948616, 659060556, 883997877, 958139571, 1322822218, 1537002063, 1747873779,
  1955562222, 2024104815, 2227730452, 2361852424, 2428436474, 2756734187, 3204031479, 3329325298]
theorem WK : W32 kS := by unfold W32 kS; decide
def blk (v : V8) (b : List Int) : V8 := DW v (rounds kS (sched b 48) 64 0 v)
theorem blk_ok (v : V8) (b : List Int) : (blk v b).Ok := addV_ok _ _
def iv : V8 := ⟨1779033703, 3144134277, 1013904242, 2773480762, 1359893119, 2600822924, 528734635, 1541459225⟩
theorem TB : iv.Ok := ⟨by decide, by decide, by decide, by decide, by decide, by decide, by decide, by decide⟩
def Bh : Nat → V8 → List Int → V8
 | 0, v, _ => v
 | n + 1, v, m => Bh n (blk v (m.take 64)) (m.drop 64)
def DU (v : V8) (m : List Int) : V8 := Bh (m.length / 64) v m
theorem Fv : ∀ (n : Nat) {v : V8} (m : List Int), v.Ok → (Bh n v m).Ok
 | 0, _, _, h => h
 | n + 1, _, m, _ => Fv n (m.drop 64) (blk_ok _ _)
theorem Ia : ∀ (n : Nat) (v : V8) (m l : List Int), 64 * n ≤ m.length → Bh n v (m ++ l) = Bh n v m
 | 0, _, _, _, _ => rfl
 | n + 1, v, m, l, h => by
  rw [Bh, Bh, List.take_append_of_le_length (by omega), List.drop_append_of_le_length (by omega)]
  exact Ia n _ _ _ (by rw [List.length_drop]; omega)
theorem Iq : ∀ (n k : Nat) (v : V8) (m : List Int), Bh (n + k) v m = Bh k (Bh n v m) (m.drop (64 * n))
 | 0, k, v, m => by simp [Bh]
 | n + 1, k, v, m => by
  rw [show n + 1 + k = (n + k) + 1 by omega, Bh, Iq n k, Bh, List.drop_drop]
  congr 2
  omega
theorem KG (v : V8) (m l : List Int) : DU v (m ++ l) = DU (DU v m) (m.drop (64 * (m.length / 64)) ++ l) := by
 unfold DU
 have h : (m ++ l).length / 64 = m.length / 64 + (m.drop (64 * (m.length / 64)) ++ l).length / 64 := by
  simp only [List.length_append, List.length_drop]; omega
 rw [h, Iq, Ia _ _ _ _ (by omega), List.drop_append_of_le_length (by omega)]
def be (n width : Nat) : List Int := (List.range width).map fun i => ((n / 256 ^ (width - 1 - i) % 256 : Nat) : Int)
def Ns (x : Nat) : List Int := be x 4
def V8.bytes (v : V8) : List Int := Ns v.a ++ Ns v.b ++ Ns v.c ++ Ns v.d ++ Ns v.e ++ Ns v.f ++ Ns v.g ++ Ns v.h
def Q4 (n : Nat) : List Int := 128 :: List.replicate ((64 + 64 - 8 - 1 - n % 64) % 64) 0
def padded (m : List Int) : List Int := m ++ Q4 m.length ++ be (m.length * 8) 8
def sha (m : List Int) : List Int := (DU iv (padded m)).bytes
def EP (m : List Int) : List Int := sha (sha m)
theorem CG (n w : Nat) : (be n w).length = w := by simp [be]
theorem CS (n w : Nat) : Bytes (be n w) := fun x hx => by
 simp only [be, List.mem_map, List.mem_range] at hx
 obtain ⟨i, _, rfl⟩ := hx
 have : n / 256 ^ (w - 1 - i) % 256 < 256 := Nat.mod_lt _ (by omega)
 omega
theorem V8.Bv (v : V8) : v.bytes.length = 32 := by simp [V8.bytes, Ns, CG]
theorem Bytes.append {l m : List Int} (h : Bytes l) (h' : Bytes m) : Bytes (l ++ m) := fun x hx => (List.mem_append.1 hx).elim (h x) (h' x)
theorem V8.PQ (v : V8) : Bytes v.bytes := by
 unfold V8.bytes Ns
 exact ((((((((CS _ _).append (CS _ _)).append (CS _ _)).append (CS _ _)).append (CS _ _)).append (CS _ _)).append (CS _ _)).append (CS _ _))
theorem Iw (m : List Int) : (sha m).length = 32 := V8.Bv _
theorem JZ (m : List Int) : Bytes (sha m) := V8.PQ _
end Go.Pm
namespace Go.Proofs
open Go Go.Pe
def K5 (n : Nat) (l : List Int) : Row := ⟨.iarr .i64 n l, false⟩
def G0 : Nat → Option PV := fun g => if Nat.beq g 0 then some (.iarr .u32 64 Go.Pm.kS) else none
abbrev Pt := PC Tryz.prog G0
abbrev Wt := W Tryz.prog G0
abbrev Wh := WH Tryz.prog G0
abbrev Liz := List Int
abbrev Lpz := List PV
abbrev Lrz := List (Nat × Row)
theorem J6 {w : World} {T : T2} {ρ : Pls} {v : Value} {k : IntKind} {n : Int} (h : RV w T ρ v (.int k n)) : v = .int k n ∧ k.wrap n = n := by
 have h1 := h.1
 simp only [WF] at h1
 have h2 := h.Bd rfl (fun _ e => by cases e)
 simp only [RO] at h2
 cases h2
 exact ⟨rfl, h1⟩
theorem args3 {w : World} {T : T2} {ρ : Pls} {vs : Array Value} {k1 k2 k3 : IntKind} {x y z : Int} (hs : vs.size = 3)
  (h : ∀ (j : Nat) (p : PV) (v : Value), [PV.int k1 x, PV.int k2 y, PV.int k3 z][j]? = some p → vs[j]? = some v → p ≠ .undef → RV w T ρ v p) : vs = #[.int k1 x, .int k2 y, .int k3 z] ∧ k1.wrap x = x ∧ k2.wrap y = y ∧ k3.wrap z = z := by
 obtain ⟨l⟩ := vs
 match l, hs with
 | [a, b, c], _ =>
  obtain ⟨rfl, h1⟩ := J6 (h 0 _ a rfl rfl (by intro e; cases e))
  obtain ⟨rfl, h2⟩ := J6 (h 1 _ b rfl rfl (by intro e; cases e))
  obtain ⟨rfl, h3⟩ := J6 (h 2 _ c rfl rfl (by intro e; cases e))
  exact ⟨rfl, h1, h2, h3⟩
theorem Ub {w : World} {T : T2} {ρ : Pls} {k1 k2 : IntKind} {x y : Int} (h1 : k1.wrap x = x) (h2 : k2.wrap y = y) : WF (.tup [.int k1 x, .int k2 y]) ∧ noref (.tup [.int k1 x, .int k2 y]) = true ∧ RV w T ρ (.tuple #[.int k1 x, .int k2 y]) (.tup [.int k1 x, .int k2 y]) := by
 have hw : WF (.tup [.int k1 x, .int k2 y]) := by simp only [WF, WFL]; exact ⟨h1, h2, trivial⟩
 refine ⟨hw, rfl, hw, #[.int k1 x, .int k2 y], rfl, rfl, fun j q u hq hu => ?_⟩
 match j with
 | 0 => simp at hq hu; subst hq; subst hu; exact (RV.int h1).P5 (fun _ e => by cases e)
 | 1 => simp at hq hu; subst hq; subst hu; exact (RV.int h2).P5 (fun _ e => by cases e)
 | j + 2 => simp at hq
def Kk : Array Value → Sem Value := fun args => do
 let (x, y, b) ← Extern.MathBitsCarry.three "Sub64" args
 pure (Extern.MathBitsCarry.pair ((x + Extern.MathBitsCarry.m64 - y - b) % Extern.MathBitsCarry.m64) (if x < y + b then 1 else 0))
theorem RQ {P : Program} (x y b : Nat) (hb : b ≤ 1) (w : World) :
  (Kk #[.int .u64 x, .int .u64 y, .int .u64 b]).run P w = .ok (.tuple #[.int .u64 (((x + 18446744073709551616 - y - b) % 18446744073709551616 : Nat) : Int), .int .u64 ((if x < y + b then 1 else 0 : Nat) : Int)]) w := by
 have : b = 0 ∨ b = 1 := by omega
 rcases this with rfl | rfl <;> rfl
end Go.Proofs
namespace Go.Pm
def uw (v : Nat) : List Int := [((v % 18446744073709551616 : Nat) : Int), ((v / 18446744073709551616 % 18446744073709551616 : Nat) : Int), ((v / 18446744073709551616 / 18446744073709551616 % 18446744073709551616 : Nat) : Int), ((v / 18446744073709551616 / 18446744073709551616 / 18446744073709551616 % 18446744073709551616 : Nat) : Int)]
def Aa : Nat := 115792089237316195423570985008687907853269984665640564039457584007913129639936
def wu (a b c d : Nat) : Nat := a + 18446744073709551616 * (b + 18446744073709551616 * (c + 18446744073709551616 * d))
theorem P6 {a b c d : Nat} (ha : a < 18446744073709551616) (hb : b < 18446744073709551616) (hc : c < 18446744073709551616) (hd : d < 18446744073709551616) : uw (wu a b c d) = [(a : Int), (b : Int), (c : Int), (d : Int)] := by
 have e1 : wu a b c d % 18446744073709551616 = a := by unfold wu; omega
 have e2 : wu a b c d / 18446744073709551616 = b + 18446744073709551616 * (c + 18446744073709551616 * d) := by unfold wu; omega
 have e3 : (b + 18446744073709551616 * (c + 18446744073709551616 * d)) / 18446744073709551616 = c + 18446744073709551616 * d := by omega
 have e4 : (c + 18446744073709551616 * d) / 18446744073709551616 = d := by omega
 unfold uw
 rw [e1, e2, e3, e4]
 congr 2
 ·omega
 ·congr 1
  ·omega
  ·congr 1
   omega
theorem Gi {a b c d : Nat} (ha : a < 18446744073709551616) (hb : b < 18446744073709551616) (hc : c < 18446744073709551616) (hd : d < 18446744073709551616) : wu a b c d < Aa := by unfold wu Aa; omega
theorem wu_uw (v : Nat) (h : v < Aa) : wu (v % 18446744073709551616) (v / 18446744073709551616 % 18446744073709551616) (v / 18446744073709551616 / 18446744073709551616 % 18446744073709551616) (v / 18446744073709551616 / 18446744073709551616 / 18446744073709551616 % 18446744073709551616) = v := by
 unfold wu Aa at *; omega
theorem I1 {v a b c d : Nat} (hv : v = wu a b c d) (ha : a < 18446744073709551616) (hb : b < 18446744073709551616) (hc : c < 18446744073709551616) (hd : d < 18446744073709551616) : [(a : Int), (b : Int), (c : Int), (d : Int)] = uw v := by
 subst hv; exact (P6 ha hb hc hd).symm
theorem uw_inj {v w : Nat} (hv : v < Aa) (hw : w < Aa) (h : uw v = uw w) : v = w := by
 simp only [uw, List.cons.injEq, Int.natCast_inj, and_true] at h
 rw [← wu_uw v hv, ← wu_uw w hw, h.1, h.2.1, h.2.2.1, h.2.2.2]
theorem uw_of {l : List Int} (h : l.length = 4) (hw : ∀ x ∈ l, 0 ≤ x ∧ x ≤ 18446744073709551615) : ∃ v, v < Aa ∧ l = uw v := by
 match l, h with
 | [a, b, c, d], _ =>
  have ha := hw a (by simp)
  have hb := hw b (by simp)
  have hc := hw c (by simp)
  have hd := hw d (by simp)
  refine ⟨wu a.toNat b.toNat c.toNat d.toNat, Gi (by omega) (by omega) (by omega) (by omega), ?_⟩
  rw [P6 (by omega) (by omega) (by omega) (by omega)]
  rw [Int.toNat_of_nonneg ha.1, Int.toNat_of_nonneg hb.1, Int.toNat_of_nonneg hc.1, Int.toNat_of_nonneg hd.1]
theorem Cn {v : Nat} (h : v < Aa) : ∃ a b c d, a < 18446744073709551616 ∧ b < 18446744073709551616 ∧ c < 18446744073709551616 ∧ d < 18446744073709551616 ∧ v = wu a b c d ∧ uw v = [(a : Int), (b : Int), (c : Int), (d : Int)] := by
 refine ⟨v % 18446744073709551616, v / 18446744073709551616 % 18446744073709551616, v / 18446744073709551616 / 18446744073709551616 % 18446744073709551616, v / 18446744073709551616 / 18446744073709551616 / 18446744073709551616 % 18446744073709551616, by omega, by omega, by omega, by omega, (wu_uw v h).symm, rfl⟩
theorem Va (a0 a1 a2 a3 b0 b1 b2 b3 : Nat) :
  wu a0 a1 a2 a3 + wu b0 b1 b2 b3 = wu ((a0 + b0) % 18446744073709551616) ((a1 + b1 + (a0 + b0) / 18446744073709551616) % 18446744073709551616)
   ((a2 + b2 + (a1 + b1 + (a0 + b0) / 18446744073709551616) / 18446744073709551616) % 18446744073709551616)
   ((a3 + b3 + (a2 + b2 + (a1 + b1 + (a0 + b0) / 18446744073709551616) / 18446744073709551616) / 18446744073709551616) % 18446744073709551616)
   + Aa * ((a3 + b3 + (a2 + b2 + (a1 + b1 + (a0 + b0) / 18446744073709551616) / 18446744073709551616) / 18446744073709551616) / 18446744073709551616) := by
 unfold wu Aa
 generalize h0 : (a0 + b0) / 18446744073709551616 = c0
 have e0 : (a0 + b0) % 18446744073709551616 + 18446744073709551616 * c0 = a0 + b0 := by omega
 generalize (a0 + b0) % 18446744073709551616 = s0 at *
 generalize h1 : (a1 + b1 + c0) / 18446744073709551616 = c1
 have e1 : (a1 + b1 + c0) % 18446744073709551616 + 18446744073709551616 * c1 = a1 + b1 + c0 := by omega
 generalize (a1 + b1 + c0) % 18446744073709551616 = s1 at *
 generalize h2 : (a2 + b2 + c1) / 18446744073709551616 = c2
 have e2 : (a2 + b2 + c1) % 18446744073709551616 + 18446744073709551616 * c2 = a2 + b2 + c1 := by omega
 generalize (a2 + b2 + c1) % 18446744073709551616 = s2 at *
 generalize h3 : (a3 + b3 + c2) / 18446744073709551616 = c3
 have e3 : (a3 + b3 + c2) % 18446744073709551616 + 18446744073709551616 * c3 = a3 + b3 + c2 := by omega
 generalize (a3 + b3 + c2) % 18446744073709551616 = s3 at *
 clear h0 h1 h2 h3
 omega
def Ab (v : Nat) : Nat := if v = 0 then 0 else Nat.log2 v + 1
theorem Bu {v k : Nat} : Ab v ≤ k ↔ v < 2 ^ k := by
 unfold Ab
 split
 ·subst_vars
  simp [Nat.two_pow_pos]
 ·rename_i h
  rw [← Nat.log2_lt h]
  omega
theorem TZ {v k : Nat} (h1 : v < 2 ^ k) (h2 : k = 0 ∨ 2 ^ (k - 1) ≤ v) : Ab v = k := by
 have h := Bu.2 h1
 rcases h2 with h2 | h2
 ·omega
 ·have : ¬ Ab v ≤ k - 1 := fun e => by have := Bu.1 e; omega
  omega
theorem DJ (v : Nat) : v < 2 ^ Ab v := Bu.1 (Nat.le_refl _)
theorem Jw {v : Nat} (h : 0 < v) : 2 ^ (Ab v - 1) ≤ v := by
 apply Nat.le_of_not_lt
 intro h1
 have h2 := Bu.2 h1
 have h3 : Ab v = 0 := by omega
 have := DJ v
 rw [h3] at this
 omega
theorem CV {v k : Nat} (h : 2 ^ k ≤ v) : Ab (v / 2 ^ k) + k = Ab v := by
 have hp := Nat.two_pow_pos k
 have h0 : 0 < v / 2 ^ k := Nat.div_pos h hp
 have h1 := DJ (v / 2 ^ k)
 have h2 := Jw h0
 symm
 refine TZ ?_ (.inr ?_)
 ·rw [Nat.pow_add]
  exact (Nat.div_lt_iff_lt_mul hp).1 h1
 ·have hb : 0 < Ab (v / 2 ^ k) := by
   apply Nat.pos_of_ne_zero
   intro e
   rw [e] at h1
   omega
  rw [show Ab (v / 2 ^ k) + k - 1 = (Ab (v / 2 ^ k) - 1) + k by omega, Nat.pow_add]
  exact (Nat.le_div_iff_mul_le hp).1 h2
def bor (a b c : Nat) : Nat := if a < b + c then 1 else 0
theorem LX (a b c : Nat) : bor a b c ≤ 1 := by unfold bor; split <;> omega
theorem Jv {a b c : Nat} (ha : a < 18446744073709551616) (hb : b < 18446744073709551616) (hc : c ≤ 1) : (a + 18446744073709551616 - b - c) % 18446744073709551616 + b + c = a + 18446744073709551616 * bor a b c := by unfold bor; split <;> omega
theorem Vo {a0 a1 a2 a3 b0 b1 b2 b3 c0 c1 c2 c3 s0 s1 s2 s3 : Nat} (e0 : s0 + b0 + 0 = a0 + 18446744073709551616 * c0) (e1 : s1 + b1 + c0 = a1 + 18446744073709551616 * c1) (e2 : s2 + b2 + c1 = a2 + 18446744073709551616 * c2) (e3 : s3 + b3 + c2 = a3 + 18446744073709551616 * c3) :
  wu s0 s1 s2 s3 + wu b0 b1 b2 b3 = wu a0 a1 a2 a3 + Aa * c3 := by
 unfold wu Aa
 omega
end Go.Pm
namespace Go.Pm
def dgn : Nat → Nat → List Int
 | 0, _ => []
 | n + 1, v => ((v % 65536 : Nat) : Int) :: dgn n (v / 65536)
theorem AP : ∀ (n v : Nat), (dgn n v).length = n
 | 0, _ => rfl
 | n + 1, v => by simp [dgn, AP n]
theorem FI (v i : Nat) : v / 65536 / 65536 ^ i = v / 65536 ^ (i + 1) := by
 rw [Nat.div_div_eq_div_mul, Nat.pow_succ, Nat.mul_comm]
theorem Gn : ∀ {n v i : Nat}, i < n → (dgn n v).getD i 0 = ((v / 65536 ^ i % 65536 : Nat) : Int)
 | n + 1, v, 0, _ => by simp [dgn]
 | n + 1, v, i + 1, h => by
  have := Gn (v := v / 65536) (by omega : i < n)
  rw [FI] at this
  simpa [dgn] using this
theorem Ev : ∀ (n v : Nat), dgn (n + 1) v = dgn n v ++ [((v / 65536 ^ n % 65536 : Nat) : Int)]
 | 0, v => by simp [dgn]
 | n + 1, v => by
  have h := Ev n (v / 65536)
  rw [FI] at h
  rw [dgn, h]
  rfl
theorem QO : ∀ {k n : Nat} (v : Nat), k ≤ n → (dgn n v).take k = dgn k v
 | 0, n, v, _ => by simp [dgn]
 | k + 1, n + 1, v, h => by simp [dgn, QO (v / 65536) (by omega : k ≤ n)]
theorem Ji : ∀ (n : Nat), dgn n 0 = List.replicate n 0
 | 0 => rfl
 | n + 1 => by
  rw [dgn, List.replicate_succ, Nat.zero_div, Ji n]; rfl
theorem Lp : ∀ {n i lo d hi x : Nat}, i < n → lo < 65536 ^ i → d < 65536 → x < 65536 → (dgn n (lo + 65536 ^ i * (d + 65536 * hi))).set i (x : Int) = dgn n (lo + 65536 ^ i * (x + 65536 * hi))
 | n + 1, 0, lo, d, hi, x, _, hl, hd, hx => by
  have : lo = 0 := by simpa using hl
  subst this
  simp only [Nat.pow_zero, Nat.one_mul, Nat.zero_add, dgn, List.set_cons_zero]
  rw [show (d + 65536 * hi) / 65536 = hi by omega, show (x + 65536 * hi) / 65536 = hi by omega, show (x + 65536 * hi) % 65536 = x by omega]
 | n + 1, i + 1, lo, d, hi, x, h, hl, hd, hx => by
  have e : ∀ y, (lo + 65536 ^ (i + 1) * y) / 65536 = lo / 65536 + 65536 ^ i * y := fun y => by
   rw [Nat.pow_succ, Nat.mul_comm (65536 ^ i) 65536, Nat.mul_assoc, Nat.add_mul_div_left _ _ (by omega)]
  have e' : ∀ y, (lo + 65536 ^ (i + 1) * y) % 65536 = lo % 65536 := fun y => by
   rw [Nat.pow_succ, Nat.mul_comm (65536 ^ i) 65536, Nat.mul_assoc, Nat.add_mul_mod_self_left]
  simp only [dgn, List.set_cons_succ, e, e']
  rw [Lp (by omega) (by rw [Nat.div_lt_iff_lt_mul (by omega)]; rwa [Nat.pow_succ] at hl) hd hx]
def nd (v : Nat) : Nat := (Ab v + 15) / 16
theorem OC (n : Nat) : 65536 ^ n = 2 ^ (16 * n) := by rw [Nat.pow_mul]
theorem Db {v n : Nat} : nd v ≤ n ↔ v < 65536 ^ n := by
 rw [OC, ← Bu]; unfold nd; omega
theorem Mx (v : Nat) : v < 65536 ^ nd v := Db.1 (Nat.le_refl _)
theorem nd_eq {v n : Nat} (h1 : v < 65536 ^ n) (h2 : n = 0 ∨ 65536 ^ (n - 1) ≤ v) : nd v = n := by
 have h := Db.2 h1
 rcases h2 with h2 | h2
 ·omega
 ·have : ¬ nd v ≤ n - 1 := fun e => by have := Db.1 e; omega
  omega
theorem nd_low {v : Nat} (h : 0 < v) : 65536 ^ (nd v - 1) ≤ v ∧ 0 < nd v := by
 have h0 : 0 < nd v := by
  apply Nat.pos_of_ne_zero
  intro e
  have := Mx v
  rw [e] at this
  omega
 refine ⟨Nat.le_of_not_lt fun h1 => ?_, h0⟩
 have := Db.2 h1
 omega
theorem nd_zero : nd 0 = 0 := rfl
theorem Ep {v : Nat} : nd v = 0 ↔ v = 0 := by
 constructor
 ·intro e
  have := Mx v
  rw [e] at this
  omega
 ·rintro rfl; rfl
def dg (v : Nat) : List Int := dgn (nd v) v
theorem UA (v : Nat) : (dg v).length = nd v := AP _ _
theorem Cz {v i : Nat} (h : nd v ≤ i) : v / 65536 ^ i = 0 := Nat.div_eq_of_lt (Db.1 h)
theorem Ck (v i : Nat) : (dg v).getD i 0 = ((v / 65536 ^ i % 65536 : Nat) : Int) := by
 by_cases h : i < nd v
 ·exact Gn h
 ·rw [Cz (by omega), List.getD_eq_getElem?_getD, List.getElem?_eq_none (by rw [UA]; omega)]; rfl
theorem EZ (v i : Nat) : v / 65536 ^ i = v / 65536 ^ i % 65536 + 65536 * (v / 65536 ^ (i + 1)) := by
 have := FI v i
 rw [Nat.div_div_eq_div_mul, Nat.mul_comm, ← Nat.div_div_eq_div_mul] at this
 omega
theorem V6 {a b : Nat} (h : nd a ≠ nd b) : decide (a < b) = decide (nd a < nd b) := by
 rw [decide_eq_decide]
 constructor
 ·intro hl
  have := Db.2 (Nat.lt_trans hl (Mx b))
  omega
 ·intro hl
  have h1 := nd_low (v := b) (by apply Nat.pos_of_ne_zero; rintro rfl; rw [nd_zero] at hl; omega)
  have h2 : a < 65536 ^ (nd b - 1) := Db.1 (by omega)
  omega
theorem RF {a b i : Nat} (h : a / 65536 ^ (i + 1) = b / 65536 ^ (i + 1)) (hne : a / 65536 ^ i % 65536 ≠ b / 65536 ^ i % 65536) : decide (a < b) = decide (a / 65536 ^ i % 65536 < b / 65536 ^ i % 65536) := by
 have ha := EZ a i
 have hb := EZ b i
 rw [h] at ha
 have hp : 0 < 65536 ^ i := Nat.pow_pos (by omega)
 rw [decide_eq_decide]
 have ea := Nat.div_add_mod a (65536 ^ i)
 have eb := Nat.div_add_mod b (65536 ^ i)
 have la := Nat.mod_lt a hp
 have lb := Nat.mod_lt b hp
 generalize a / 65536 ^ i % 65536 = x at *
 generalize b / 65536 ^ i % 65536 = y at *
 generalize b / 65536 ^ (i + 1) = z at *
 constructor
 ·intro hl
  apply Nat.lt_of_not_le
  intro hle
  have : y + 1 ≤ x := by omega
  have h1 : 65536 ^ i * (b / 65536 ^ i + 1) ≤ 65536 ^ i * (a / 65536 ^ i) := Nat.mul_le_mul_left _ (by omega)
  rw [Nat.mul_add] at h1
  omega
 ·intro hl
  have h1 : 65536 ^ i * (a / 65536 ^ i + 1) ≤ 65536 ^ i * (b / 65536 ^ i) := Nat.mul_le_mul_left _ (by omega)
  rw [Nat.mul_add] at h1
  omega
theorem Cw (v i : Nat) : v / 65536 ^ (i + 1) = v / 65536 ^ i / 65536 := by rw [Nat.pow_succ, Nat.div_div_eq_div_mul]
theorem Qh {a b c i x y : Nat} (h : (a + b) / 65536 ^ i = a / 65536 ^ i + b / 65536 ^ i + c) (hx : a / 65536 ^ i % 65536 = x) (hy : b / 65536 ^ i % 65536 = y) :
  (a + b) / 65536 ^ i % 65536 = (c + x + y) % 65536 ∧ (a + b) / 65536 ^ (i + 1) = a / 65536 ^ (i + 1) + b / 65536 ^ (i + 1) + (c + x + y) / 65536 := by
 rw [Cw, Cw, Cw]
 generalize (a + b) / 65536 ^ i = s at *
 omega
theorem LJ (a b : Nat) : nd (a + b) ≤ max (nd a) (nd b) + 1 := by
 rw [Db]
 have h1 : a < 65536 ^ max (nd a) (nd b) := Db.1 (Nat.le_max_left _ _)
 have h2 : b < 65536 ^ max (nd a) (nd b) := Db.1 (Nat.le_max_right _ _)
 rw [Nat.pow_succ]
 omega
theorem Rh {a b d c i x y : Nat} (h : a / 65536 ^ i = b / 65536 ^ i + d / 65536 ^ i + c) (hx : a / 65536 ^ i % 65536 = x) (hy : b / 65536 ^ i % 65536 = y) :
  (c + y ≤ x → c ≤ 1 → d / 65536 ^ i % 65536 = x - c - y ∧ a / 65536 ^ (i + 1) = b / 65536 ^ (i + 1) + d / 65536 ^ (i + 1) + 0) ∧
  (x < c + y → c ≤ 1 → d / 65536 ^ i % 65536 = x + 65536 - c - y ∧ a / 65536 ^ (i + 1) = b / 65536 ^ (i + 1) + d / 65536 ^ (i + 1) + 1) := by
 rw [Cw, Cw, Cw]
 generalize a / 65536 ^ i = s at *
 constructor
 ·intro h1 h2; omega
 ·intro h1 h2; omega
theorem Ob {a i h c x : Nat} (hh : a / 65536 ^ (i + 1) = 2 * h + c) (hc : c < 2) (hx : a / 65536 ^ i % 65536 = x) :
  a / 65536 ^ i = 2 * (h * 65536 + (65536 * c + x) / 2) + (65536 * c + x) % 2 ∧ (65536 * c + x) / 2 < 65536 := by
 rw [Cw] at hh
 omega
theorem XG {V n W c x y i j : Nat} (h : V + c * 65536 ^ (i + j) = W) (d : Nat) (hd : V / 65536 ^ (i + j) % 65536 = d) (hn : n = d + c + x * y) :
  V = V % 65536 ^ (i + j) + 65536 ^ (i + j) * (d + 65536 * (V / 65536 ^ (i + j + 1))) ∧
  (V % 65536 ^ (i + j) + 65536 ^ (i + j) * (n % 65536 + 65536 * (V / 65536 ^ (i + j + 1)))) + n / 65536 * 65536 ^ (i + j + 1) = W + x * y * 65536 ^ (i + j) := by
 have e1 := Nat.div_add_mod V (65536 ^ (i + j))
 have e2 := EZ V (i + j)
 rw [hd] at e2
 generalize V % 65536 ^ (i + j) = lo at *
 generalize V / 65536 ^ (i + j + 1) = hi at *
 rw [Nat.pow_succ]
 generalize V / 65536 ^ (i + j) = q at *
 subst e2
 generalize 65536 ^ (i + j) = p at *
 refine ⟨by omega, ?_⟩
 have e3 : n / 65536 * (p * 65536) = p * (65536 * (n / 65536)) := by rw [Nat.mul_comm p, ← Nat.mul_assoc, Nat.mul_comm (n / 65536), Nat.mul_comm _ p]
 have e4 := Nat.div_add_mod n 65536
 have e5 : p * (n % 65536 + 65536 * hi) + p * (65536 * (n / 65536)) = p * (n + 65536 * hi) := by rw [← Nat.mul_add]; congr 1; omega
 rw [e3, Nat.add_assoc, e5, hn, ← h, ← e1]
 have e6 : p * (d + c + x * y + 65536 * hi) = p * (d + 65536 * hi) + c * p + x * y * p := by
  simp only [Nat.add_mul, Nat.mul_comm p]; omega
 omega
end Go.Pm
namespace Go.Proofs
open Go Go.Pe Go.Pm
set_option maxRecDepth 100000
set_option linter.unusedVariables false
def bv (nl : Bool) (v : Nat) : PV := .vec nl (.iarr .i64 (nd v) (dg v))
def Sd (nl : Bool) (m : Nat) (l : List Int) (n : Nat) : DS := ⟨[(0, .vec nl (.iarr .i64 m l)), (3, .int .i64 n)], []⟩
theorem XW {nl : Bool} {m v : Nat} (hm : m ≤ 1000000) : ∀ (n : Nat), n ≤ m → v < 65536 ^ n →
  Wt Tryz.f63 [] [] (bv nl v) (Af Tryz.f63 0) (Sd nl m (dgn m v) n)
 | 0, hn, hv => by
  have : v = 0 := by simpa using hv
  subst this
  refine W.ret [(0, aV (I6 0)), (11, aV (I6 0))] [] [I6 ↑(0 : Nat) = I6 0, I6 ↑(0 : Nat) = I6 0, (0 : Int) ≤ 0, (0 : Int) ≤ 0, 0 ≤ (m:Int), PV.vec nl (BI 0 []) = PV.vec nl (BI 0 (dg 0))] (by kernel_rfl) (ac (cg (by omega)) (ac (cg (by omega)) (ob3 (by omega) (ao rfl))))
 | n + 1, hn, hv => by
  have hg : (dgn m v).getD n 0 = ((v / 65536 ^ n % 65536 : Nat) : Int) := Gn (by omega)
  by_cases h0 : v / 65536 ^ n % 65536 = 0
  ·refine W.sg 0 [(1, aT), (5, aV (I6 (n:Int))), (7, aV (I6 (↑(v / 65536 ^ n % 65536) : Int))), (8, aT), (11, aV (I6 (n:Int)))] [] (Sd nl m (dgn m v) n) [decide ((↑(n + 1) : Int) > 0) = true, I6 (IntKind.wrap .i64 ((↑(n + 1) : Int) - 1)) = I6 (n:Int), 0 ≤ (n:Int), (n:Int) < (m:Int), I6 (List.getD (dgn m v) n (0 : Int)) = I6 (↑(v / 65536 ^ n % 65536) : Int), n < m, ((↑(v / 65536 ^ n % 65536) : Int) == 0) = true, I6 (IntKind.wrap .i64 ((↑(n + 1) : Int) - 1)) = I6 (n:Int)] (by kernel_rfl) (ac (dT (by omega)) (ac (cg (Ac (by omega) (by omega) (by omega))) (ac (by omega) (ac (by omega) (ac (cg (hg)) (ac (by omega) (ac (dT (by omega)) (ao (cg (Ac (by omega) (by omega) (by omega))))))))))) ?_
   refine XW hm n (by omega) ?_
   have h1 : v / 65536 ^ n < 65536 := by rw [Nat.div_lt_iff_lt_mul (Nat.pow_pos (by omega)), ← Nat.pow_succ']; exact hv
   refine (Nat.div_eq_zero_iff_lt (Nat.pow_pos (by omega))).1 ?_
   generalize v / 65536 ^ n = q at *
   omega
  ·refine W.ret [(1, aT), (5, aV (I6 (n:Int))), (7, aV (I6 (↑(v / 65536 ^ n % 65536) : Int))), (8, aF), (12, aV (PV.vec nl (BI (n + 1) (List.take (n + 1) (dgn m v)))))] [] [decide ((↑(n + 1) : Int) > 0) = true, I6 (IntKind.wrap .i64 ((↑(n + 1) : Int) - 1)) = I6 (n:Int), 0 ≤ (n:Int), (n:Int) < (m:Int), I6 (List.getD (dgn m v) n (0 : Int)) = I6 (↑(v / 65536 ^ n % 65536) : Int), n < m, ((↑(v / 65536 ^ n % 65536) : Int) == 0) = false, PV.vec nl (BI (Int.toNat ((↑(n + 1) : Int) - 0)) (List.take (Int.toNat ((↑(n + 1) : Int) - 0)) (dgn m v))) = PV.vec nl (BI (n + 1) (List.take (n + 1) (dgn m v))), (0 : Int) ≤ (0 : Int), 0 ≤ (↑(n + 1) : Int), (↑(n + 1) : Int) ≤ (m:Int), PV.vec nl (BI (n + 1) (List.take (n + 1) (dgn m v))) = PV.vec nl (BI (nd v) (dg v))] (by kernel_rfl) (ac (dT (by omega)) (ac (cg (Ac (by omega) (by omega) (by omega))) (ac (by omega) (ac (by omega) (ac (cg (hg)) (ac (by omega) (ac (dF (by omega)) (ac (by rw [show Int.toNat ((↑(n + 1) : Int) - 0) = n + 1 by omega]) (ac (by omega) (ac (by omega) (ac (by omega) (ao ?_))))))))))))
   rw [QO v hn]
   have h1 : 0 < v / 65536 ^ n := by generalize v / 65536 ^ n = q at *; omega
   have h2 : 65536 ^ n ≤ v := by
    apply Nat.le_of_not_lt
    intro h
    rw [Nat.div_eq_of_lt h] at h1
    omega
   unfold dg
   rw [nd_eq hv (.inr h2)]
theorem EC {nl : Bool} {m v : Nat} (hm : m ≤ 1000000) (hv : v < 65536 ^ m) : Pt 63 [] [.vec nl (.iarr .i64 m (dgn m v))] [] (bv nl v) := by
 refine pO Tryz.func63 (by kernel_rfl) ?_
 refine W.sgA 0 [] [] (Sd nl m (dgn m v) m) [] trivial ?_
 exact XW hm m (Nat.le_refl m) hv
def Sa (na nb : Bool) (a b : Nat) (i : Int) : DS := ⟨[(0, bv na a), (1, bv nb b), (5, .int .i64 i)], []⟩
theorem VH {na nb : Bool} {a b : Nat} (hn : nd a = nd b) (hm : nd b ≤ 1000000) : ∀ (n : Nat), n ≤ nd b → a / 65536 ^ n = b / 65536 ^ n →
  Wt Tryz.f58 [] [] (.bool (decide (a < b))) (Af Tryz.f58 0) (Sa na nb a b ((n : Int) - 1))
 | 0, hi, he => by
  have : a = b := by simpa using he
  subst this
  have h : decide (a < a) = false := by simp
  rw [h]
  refine W.rtA [(0, aV (I6 (-1)))] [] [I6 ((↑(0 : Nat) : Int) - 1) = I6 (-1)] (ao (cg (by omega)))
 | n + 1, hi, he => by
  have ha := Ck a n
  have hb := Ck b n
  have hx := EZ a n
  have hy := EZ b n
  by_cases h0 : a / 65536 ^ n % 65536 = b / 65536 ^ n % 65536
  ·refine W.sg 0 [(0, aV (I6 (n:Int))), (3, aV (I6 (n:Int))), (5, aV (I6 (↑(a / 65536 ^ n % 65536) : Int))), (7, aV (I6 (n:Int))), (9, aV (I6 (↑(b / 65536 ^ n % 65536) : Int))), (10, aF), (11, aV (I6 (n:Int))), (12, aV (I6 ((n:Int) - 1)))] [] (Sa na nb a b ((n : Int) - 1)) [I6 ((↑(n + 1) : Int) - 1) = I6 (n:Int), I6 ((↑(n + 1) : Int) - 1) = I6 (n:Int), 0 ≤ (n:Int), (n:Int) < (↑(nd a) : Int), I6 (List.getD (dg a) n (0 : Int)) = I6 (↑(a / 65536 ^ n % 65536) : Int), n < nd a, I6 ((↑(n + 1) : Int) - 1) = I6 (n:Int), 0 ≤ (n:Int), (n:Int) < (↑(nd b) : Int), I6 (List.getD (dg b) n (0 : Int)) = I6 (↑(b / 65536 ^ n % 65536) : Int), n < nd b, ((↑(a / 65536 ^ n % 65536) : Int) != (↑(b / 65536 ^ n % 65536) : Int)) = false, I6 ((↑(n + 1) : Int) - 1) = I6 (n:Int), I6 (IntKind.wrap .i64 ((n:Int) - 1)) = I6 ((n:Int) - 1)] (by kernel_rfl) (ac (cg (by omega)) (ac (cg (by omega)) (ac (by omega) (ac (by omega) (ac (cg (ha)) (ac (by omega) (ac (cg (by omega)) (ac (by omega) (ac (by omega) (ac (cg (hb)) (ac (by omega) (ac (bne_eq_false_iff_eq.2 (by omega)) (ac (cg (by omega)) (ao (cg (Ac rfl (by omega) (by omega))))))))))))))))) ?_
   exact VH hn hm n (by omega) (by rw [hx, hy, h0, he])
  ·rw [RF he h0]
   refine W.ret [(0, aV (I6 n)), (3, aV (I6 n)), (5, aV (I6 ↑(a / 65536 ^ n % 65536))), (7, aV (I6 n)), (9, aV (I6 ↑(b / 65536 ^ n % 65536))), (10, aT), (12, aV (I6 n)), (14, aV (I6 ↑(a / 65536 ^ n % 65536))), (16, aV (I6 n)), (18, aV (I6 ↑(b / 65536 ^ n % 65536)))] [] [I6 ((↑(n + 1) : Int) - 1) = I6 n, I6 ((↑(n + 1) : Int) - 1) = I6 n, 0 ≤ (n:Int), (n:Int) < (↑(nd a) : Int), I6 (List.getD (dg a) n (0 : Int)) = I6 ↑(a / 65536 ^ n % 65536), n < nd a, I6 ((↑(n + 1) : Int) - 1) = I6 n, 0 ≤ (n:Int), (n:Int) < (↑(nd b) : Int), I6 (List.getD (dg b) n (0 : Int)) = I6 ↑(b / 65536 ^ n % 65536), n < nd b, ((↑(a / 65536 ^ n % 65536) : Int) != (↑(b / 65536 ^ n % 65536) : Int)) = true, I6 ((↑(n + 1) : Int) - 1) = I6 n, 0 ≤ (n:Int), (n:Int) < (↑(nd a) : Int), I6 (List.getD (dg a) n (0 : Int)) = I6 ↑(a / 65536 ^ n % 65536), n < nd a, I6 ((↑(n + 1) : Int) - 1) = I6 n, 0 ≤ (n:Int), (n:Int) < (↑(nd b) : Int), I6 (List.getD (dg b) n (0 : Int)) = I6 ↑(b / 65536 ^ n % 65536), n < nd b, PV.bool (decide ((↑(a / 65536 ^ n % 65536) : Int) < (↑(b / 65536 ^ n % 65536) : Int))) = PV.bool (decide (a / 65536 ^ n % 65536 < b / 65536 ^ n % 65536))] (by kernel_rfl) (ac (cg (by omega)) (ac (cg (by omega)) (ob2 (by omega) (ac (cg (ha)) (ac (by omega) (ac (cg (by omega)) (ob2 (by omega) (ac (cg (hb)) (ac (by omega) (ac (bne_iff_ne.2 (by omega)) (ac (cg (by omega)) (ob2 (by omega) (ac (cg (ha)) (ac (by omega) (ac (cg (by omega)) (ob2 (by omega) (ac (cg (hb)) (ac (by omega) (ao ?_)))))))))))))))))))
   simp only [Int.ofNat_lt]
theorem Cq {na nb : Bool} {a b : Nat} (ha : nd a ≤ 1000000) (hb : nd b ≤ 1000000) : Pt 58 [] [bv na a, bv nb b] [] (.bool (decide (a < b))) := by
 refine pO Tryz.func58 (by kernel_rfl) ?_
 by_cases h : nd a = nd b
 ·refine W.seg [(5, aF), (8, aV (I6 ((↑(nd a) : Int) - 1)))] [] (Sa na nb a b ((nd b : Int) - 1)) (todo' := Af Tryz.f58 0) [((↑(nd a) : Int) != (↑(nd b) : Int)) = false, I6 (IntKind.wrap .i64 ((↑(nd a) : Int) - 1)) = I6 ((↑(nd a) : Int) - 1), rr (PV.vec na (BI (nd a) (dg a))), rr (PV.vec nb (BI (nd b) (dg b))), I6 ((↑(nd a) : Int) - 1) = I6 ((↑(nd b) : Int) - 1)] (by kernel_rfl) (ac (bne_eq_false_iff_eq.2 (by omega)) (ac (cg (Ac rfl (by omega) (by omega))) (ac rfl (ac rfl (ao (cg (by omega))))))) ?_
  exact VH h hb (nd b) (Nat.le_refl _) (by rw [Cz (by omega), Cz (by omega)])
 ·rw [V6 h]
  refine W.ret [(5, aT)] [] [((↑(nd a) : Int) != (↑(nd b) : Int)) = true, PV.bool (decide ((↑(nd a) : Int) < (↑(nd b) : Int))) = PV.bool (decide (nd a < nd b))] (by kernel_rfl) (ac (bne_iff_ne.2 (by omega)) (ao (by (simp; done))))
end Go.Proofs
namespace Go.Proofs
open Go Go.Pe Go.Pm
set_option maxRecDepth 100000
set_option linter.unusedVariables false
def VY (na nb : Bool) (a b : Nat) : DS := ⟨[(0, bv na a), (1, bv nb b), (5, .vec true (.iarr .i64 0 [])), (6, .int .i64 0), (7, .int .i64 0)], []⟩
def Kn (na nb : Bool) (a b i : Nat) (l : List Int) (c : Nat) : DS := ⟨[(0, bv na a), (1, bv nb b), (5, .ref 1 [] 1 0 i), (6, .int .i64 c), (7, .int .i64 i)], [(1, K5 i l)]⟩
theorem Mo {na nb : Bool} {a b M : Nat} (hM : M = max (nd a) (nd b)) (hm : M ≤ 100000) : ∀ (k i c : Nat) (l : List Int), i + k = M + 1 → 0 < i → c ≤ 1 → l = dgn i (a + b) → (a + b) / 65536 ^ i = a / 65536 ^ i + b / 65536 ^ i + c →
  Wt Tryz.f41 [] [] (bv false (a + b)) (Af Tryz.f41 0) (Kn na nb a b i l c)
 | 0, i, c, l, hk, hi, hc, hl, h => by
  have hlt : a + b < 65536 ^ i := Db.1 (by have := LJ a b; omega)
  have c0 : c = 0 := by rw [Nat.div_eq_of_lt hlt, Cz (by omega), Cz (by omega)] at h; omega
  subst c0
  have hll : l.length = i := by rw [hl, AP]
  have ht := EC (nl := false) (m := i) (by omega) hlt
  rw [← hl] at ht
  refine W.rtA [(3, aF), (8, aF), (11, aV (I6 0)), (15, cL false [] ht)] [] [decide ((i:Int) < (↑(nd a) : Int)) = false, decide ((i:Int) < (↑(nd b) : Int)) = false, I6 ↑(0 : Nat) = I6 0, 0 + i ≤ i, rr ([] : List (Nat × Row)), ([PV.vec false (BI i (List.take i l))] : List PV) = [PV.vec false (BI i l)], _] (ac (dF (by omega)) (ac (dF (by omega)) (ac (cg (by omega)) (ac (by omega) (ac rfl (ac (by rw [List.take_of_length_le (show List.length l ≤ i by omega)]) (ao (ht))))))))
 | k + 1, i, c, l, hk, hi, hc, hl, h => by
  have hll : l.length = i := by rw [hl, AP]
  have hx := Ck a i
  have hy := Ck b i
  obtain ⟨e1, e2⟩ := Qh h rfl rfl
  have hs := Ev i (a + b)
  rw [e1, ← hl] at hs
  have lx : a / 65536 ^ i % 65536 < 65536 := Nat.mod_lt _ (by omega)
  have ly : b / 65536 ^ i % 65536 < 65536 := Nat.mod_lt _ (by omega)
  have zx : nd a ≤ i → a / 65536 ^ i % 65536 = 0 := fun hz => by rw [Cz hz]
  have zy : nd b ≤ i → b / 65536 ^ i % 65536 = 0 := fun hz => by rw [Cz hz]
  have wx : nd a ≤ i → a / 65536 ^ i = 0 := Cz
  have wy : nd b ≤ i → b / 65536 ^ i = 0 := Cz
  generalize a / 65536 ^ i % 65536 = x at *
  generalize b / 65536 ^ i % 65536 = y at *
  have hc' : (c + x + y) / 65536 ≤ 1 := by omega
  by_cases ha : i < nd a
  ·by_cases hb : i < nd b
   ·refine W.sg 0 [(3, aT), (19, aT), (24, aV (I6 (x:Int))), (25, aV (I6 (↑(c + x) : Int))), (30, aT), (35, aV (I6 (y:Int))), (36, aV (I6 (↑(c + x + y) : Int))), (40, aV (I6 (↑((c + x + y) % 65536) : Int))), (42, Ans.ups [(1, none), (736, some (Row.mk (BI (i + 1) (l ++ [(↑((c + x + y) % 65536) : Int)])) false))]), (45, aV (I6 (↑((c + x + y) / 65536) : Int))), (48, aV (I6 (↑(i + 1) : Int)))] [(736, 1)] (Kn na nb a b (i + 1) (l ++ [(((c + x + y) % 65536 : Nat) : Int)]) ((c + x + y) / 65536)) [decide ((i:Int) < (↑(nd a) : Int)) = true, decide ((i:Int) < (↑(nd a) : Int)) = true, 0 ≤ (i:Int), (i:Int) < (↑(nd a) : Int), I6 (List.getD (dg a) i (0 : Int)) = I6 (x:Int), i < nd a, I6 (IntKind.wrap .i64 ((c:Int) + (x:Int))) = I6 (↑(c + x) : Int), decide ((i:Int) < (↑(nd b) : Int)) = true, 0 ≤ (i:Int), (i:Int) < (↑(nd b) : Int), I6 (List.getD (dg b) i (0 : Int)) = I6 (y:Int), i < nd b, I6 (IntKind.wrap .i64 ((↑(c + x) : Int) + (y:Int))) = I6 (↑(c + x + y) : Int), I6 (Int.tmod (↑(c + x + y) : Int) (65536 : Int)) = I6 (↑((c + x + y) % 65536) : Int), (65536 : Int) ≠ (0 : Int), ([(1, none), (736, some (Row.mk (BI (i + 1) (List.take i l ++ [(↑((c + x + y) % 65536) : Int)])) false))] : List (Nat × Option Row)) = [(1, none), (736, some (Row.mk (BI (i + 1) (l ++ [(↑((c + x + y) % 65536) : Int)])) false))], 1 ≤ 1, 0 + i = i, (i + 1) * 8 ≤ 140737488355328, i + 1 ≤ 9223372036854775807, I6 (IntKind.wrap .i64 (Int.tdiv (↑(c + x + y) : Int) (65536 : Int))) = I6 (↑((c + x + y) / 65536) : Int), (65536 : Int) ≠ (0 : Int), I6 (IntKind.wrap .i64 ((i:Int) + 1)) = I6 (↑(i + 1) : Int)] (by kernel_rfl) (ac (dT (by omega)) (ac (dT (by omega)) (ac (by omega) (ac (by omega) (ac (cg (hx)) (ac (by omega) (ac (cg (Ac rfl (by omega) (by omega))) (ac (dT (by omega)) (ac (by omega) (ac (by omega) (ac (cg (hy)) (ac (by omega) (ac (cg (Ac rfl (by omega) (by omega))) (ac (cg rfl) (ac (by omega) (ac (by rw [List.take_of_length_le (show List.length l ≤ i by omega)]) (ac (by omega) (ac (by omega) (ac (by omega) (ac (by omega) (ac (cg (Ac rfl (by omega) (by omega))) (ac (by omega) (ao (cg (Ac rfl (by omega) (by omega)))))))))))))))))))))))))) ?_
    exact Mo hM hm k (i + 1) _ _ (by omega) (by omega) hc' hs.symm e2
   ·have := zy (by omega)
    subst this
    refine W.sgA 0 [(3, aT), (19, aT), (24, aV (I6 x)), (25, aV (I6 ↑(c + x))), (30, aF), (33, aV (I6 ↑((c + x) % 65536))), (35, Ans.ups [(1, none), (624, some (Row.mk (BI (i + 1) (l ++ [(↑((c + x) % 65536) : Int)])) false))]), (38, aV (I6 ↑((c + x) / 65536))), (41, aV (I6 ↑(i + 1)))] [(624, 1)] (Kn na nb a b (i + 1) (l ++ [(((c + x) % 65536 : Nat) : Int)]) ((c + x) / 65536)) [decide ((i:Int) < (↑(nd a) : Int)) = true, decide ((i:Int) < (↑(nd a) : Int)) = true, 0 ≤ (i:Int), (i:Int) < (↑(nd a) : Int), I6 (List.getD (dg a) i (0 : Int)) = I6 x, i < nd a, I6 (IntKind.wrap .i64 ((c:Int) + (x:Int))) = I6 ↑(c + x), decide ((i:Int) < (↑(nd b) : Int)) = false, I6 (Int.tmod (↑(c + x) : Int) (65536 : Int)) = I6 ↑((c + x) % 65536), (65536 : Int) ≠ 0, ([(1, none), (624, some (Row.mk (BI (i + 1) (List.take i l ++ [(↑((c + x) % 65536) : Int)])) false))] : List (Nat × Option Row)) = [(1, none), (624, some (Row.mk (BI (i + 1) (l ++ [(↑((c + x) % 65536) : Int)])) false))], 1 ≤ 1, 0 + i = i, (i + 1) * 8 ≤ 140737488355328, i + 1 ≤ 9223372036854775807, I6 (IntKind.wrap .i64 (Int.tdiv (↑(c + x) : Int) (65536 : Int))) = I6 ↑((c + x) / 65536), (65536 : Int) ≠ 0, I6 (IntKind.wrap .i64 ((i:Int) + 1)) = I6 ↑(i + 1)] (ac (dT (by omega)) (ac (dT (by omega)) (ob2 (by omega) (ac (cg (hx)) (ac (by omega) (ac (wj (by omega)) (ac (dF (by omega)) (ac (cg rfl) (ac (by omega) (ac (by rw [List.take_of_length_le (show List.length l ≤ i by omega)]) (ac (by omega) (ac (by omega) (ob2 (by omega) (ac (wj (by omega)) (ac (by omega) (ao (wj (by omega)))))))))))))))))) ?_
    exact Mo hM hm k (i + 1) _ _ (by omega) (by omega) hc' hs.symm e2
  ·by_cases hb : i < nd b
   ·have := zx (by omega)
    subst this
    refine W.sgA 0 [(3, aF), (8, aT), (19, aF), (23, aT), (28, aV (I6 y)), (29, aV (I6 ↑(c + y))), (33, aV (I6 ↑((c + y) % 65536))), (35, Ans.ups [(1, none), (624, some (Row.mk (BI (i + 1) (l ++ [(↑((c + y) % 65536) : Int)])) false))]), (38, aV (I6 ↑((c + y) / 65536))), (41, aV (I6 ↑(i + 1)))] [(624, 1)] (Kn na nb a b (i + 1) (l ++ [(((c + y) % 65536 : Nat) : Int)]) ((c + y) / 65536)) [decide ((i:Int) < (↑(nd a) : Int)) = false, decide ((i:Int) < (↑(nd b) : Int)) = true, decide ((i:Int) < (↑(nd a) : Int)) = false, decide ((i:Int) < (↑(nd b) : Int)) = true, 0 ≤ (i:Int), (i:Int) < (↑(nd b) : Int), I6 (List.getD (dg b) i (0 : Int)) = I6 y, i < nd b, I6 (IntKind.wrap .i64 ((c:Int) + (y:Int))) = I6 ↑(c + y), I6 (Int.tmod (↑(c + y) : Int) (65536 : Int)) = I6 ↑((c + y) % 65536), (65536 : Int) ≠ 0, ([(1, none), (624, some (Row.mk (BI (i + 1) (List.take i l ++ [(↑((c + y) % 65536) : Int)])) false))] : List (Nat × Option Row)) = [(1, none), (624, some (Row.mk (BI (i + 1) (l ++ [(↑((c + y) % 65536) : Int)])) false))], 1 ≤ 1, 0 + i = i, (i + 1) * 8 ≤ 140737488355328, i + 1 ≤ 9223372036854775807, I6 (IntKind.wrap .i64 (Int.tdiv (↑(c + y) : Int) (65536 : Int))) = I6 ↑((c + y) / 65536), (65536 : Int) ≠ 0, I6 (IntKind.wrap .i64 ((i:Int) + 1)) = I6 ↑(i + 1)] (ac (dF (by omega)) (ac (dT (by omega)) (ac (dF (by omega)) (ac (dT (by omega)) (ob2 (by omega) (ac (cg (hy)) (ac (by omega) (ac (wj (by omega)) (ac (cg rfl) (ac (by omega) (ac (by rw [List.take_of_length_le (show List.length l ≤ i by omega)]) (ac (by omega) (ac (by omega) (ob2 (by omega) (ac (wj (by omega)) (ac (by omega) (ao (wj (by omega))))))))))))))))))) ?_
    exact Mo hM hm k (i + 1) _ _ (by omega) (by omega) hc' hs.symm e2
   ·have := zx (by omega)
    subst this
    have := zy (by omega)
    subst this
    by_cases h0 : c = 0
    ·subst h0
     have hlt : a + b < 65536 ^ i := (Nat.div_eq_zero_iff_lt (Nat.pow_pos (by omega))).1 (by rw [h, wx (by omega), wy (by omega)])
     have ht := EC (nl := false) (m := i) (by omega) hlt
     rw [← hl] at ht
     refine W.rtA [(3, aF), (8, aF), (11, aV (I6 0)), (15, cL false [] ht)] [] [decide ((i:Int) < (↑(nd a) : Int)) = false, decide ((i:Int) < (↑(nd b) : Int)) = false, I6 ↑(0 : Nat) = I6 0, 0 + i ≤ i, rr ([] : List (Nat × Row)), ([PV.vec false (BI i (List.take i l))] : List PV) = [PV.vec false (BI i l)], _] (ac (dF (by omega)) (ac (dF (by omega)) (ac (cg (by omega)) (ac (by omega) (ac rfl (ac (by rw [List.take_of_length_le (show List.length l ≤ i by omega)]) (ao (ht))))))))
    ·refine W.sg 0 [(3, aF), (8, aF), (12, aT), (19, aF), (23, aF), (26, aV (I6 (↑(c % 65536) : Int))), (28, Ans.ups [(1, none), (512, some (Row.mk (BI (i + 1) (l ++ [(↑(c % 65536) : Int)])) false))]), (31, aV (I6 (↑(c / 65536) : Int))), (34, aV (I6 (↑(i + 1) : Int)))] [(512, 1)] (Kn na nb a b (i + 1) (l ++ [((c % 65536 : Nat) : Int)]) (c / 65536)) [decide ((i:Int) < (↑(nd a) : Int)) = false, decide ((i:Int) < (↑(nd b) : Int)) = false, decide ((c:Int) > 0) = true, decide ((i:Int) < (↑(nd a) : Int)) = false, decide ((i:Int) < (↑(nd b) : Int)) = false, I6 (Int.tmod (c:Int) (65536 : Int)) = I6 (↑(c % 65536) : Int), (65536 : Int) ≠ (0 : Int), ([(1, none), (512, some (Row.mk (BI (i + 1) (List.take i l ++ [(↑(c % 65536) : Int)])) false))] : List (Nat × Option Row)) = [(1, none), (512, some (Row.mk (BI (i + 1) (l ++ [(↑(c % 65536) : Int)])) false))], 1 ≤ 1, 0 + i = i, (i + 1) * 8 ≤ 140737488355328, i + 1 ≤ 9223372036854775807, I6 (IntKind.wrap .i64 (Int.tdiv (c:Int) (65536 : Int))) = I6 (↑(c / 65536) : Int), (65536 : Int) ≠ (0 : Int), I6 (IntKind.wrap .i64 ((i:Int) + 1)) = I6 (↑(i + 1) : Int)] (by kernel_rfl) (ac (dF (by omega)) (ac (dF (by omega)) (ac (dT (by omega)) (ac (dF (by omega)) (ac (dF (by omega)) (ac (cg rfl) (ac (by omega) (ac (by rw [List.take_of_length_le (show List.length l ≤ i by omega)]) (ac (by omega) (ac (by omega) (ac (by omega) (ac (by omega) (ac (cg (Ac rfl (by omega) (by omega))) (ac (by omega) (ao (cg (Ac rfl (by omega) (by omega)))))))))))))))))) ?_
     exact Mo hM hm k (i + 1) _ _ (by omega) (by omega) hc' hs.symm e2
theorem Ll {na nb : Bool} {a b : Nat} (ha : nd a ≤ 100000) (hb : nd b ≤ 100000) : Pt 41 [] [bv na a, bv nb b] [] (bv (decide (a + b = 0)) (a + b)) := by
 refine pO Tryz.func41 (by kernel_rfl) ?_
 refine W.sgA 0 [] [] (VY na nb a b) [] trivial ?_
 by_cases h0 : a + b = 0
 ·have h1 : a = 0 := by omega
  have h2 : b = 0 := by omega
  subst h1; subst h2
  have ht := EC (nl := true) (m := 0) (v := 0) (by omega) (by omega)
  refine W.rtA [(2, aV (I6 0)), (7, aV (I6 0)), (15, c9 ht)] [] [I6 ↑(0 : Nat) = I6 0, I6 ↑(0 : Nat) = I6 0, _] (ac (cg (by omega)) (ac (cg (by omega)) (ao (ht))))
 ·have hf : decide (a + b = 0) = false := decide_eq_false h0
  rw [hf]
  have h : (a + b) / 65536 ^ 0 = a / 65536 ^ 0 + b / 65536 ^ 0 + 0 := by simp
  have hx := Ck a 0
  have hy := Ck b 0
  obtain ⟨e1, e2⟩ := Qh h rfl rfl
  have hs := Ev 0 (a + b)
  rw [e1] at hs
  have lx : a / 65536 ^ 0 % 65536 < 65536 := Nat.mod_lt _ (by omega)
  have ly : b / 65536 ^ 0 % 65536 < 65536 := Nat.mod_lt _ (by omega)
  have zx : nd a ≤ 0 → a / 65536 ^ 0 % 65536 = 0 := fun hz => by rw [Cz hz]
  have zy : nd b ≤ 0 → b / 65536 ^ 0 % 65536 = 0 := fun hz => by rw [Cz hz]
  generalize a / 65536 ^ 0 % 65536 = x at *
  generalize b / 65536 ^ 0 % 65536 = y at *
  have hc' : (0 + x + y) / 65536 ≤ 1 := by omega
  have hM : max (nd a) (nd b) ≤ 100000 := by omega
  by_cases ha : 0 < nd a
  ·by_cases hb : 0 < nd b
   ·simp only [Nat.zero_add] at hs hc' e2
    refine W.sgA 0 [(3, aT), (19, aT), (24, aV (I6 x)), (25, aV (I6 x)), (30, aT), (35, aV (I6 y)), (36, aV (I6 ↑(x + y))), (40, aV (I6 ↑((x + y) % 65536))), (45, aV (I6 ↑((x + y) / 65536))), (48, aV (I6 1))] [(736, 1)] (Kn na nb a b 1 [(((x + y) % 65536 : Nat) : Int)] ((x + y) / 65536)) [decide (0 < (↑(nd a) : Int)) = true, decide (0 < (↑(nd a) : Int)) = true, (0 : Int) ≤ 0, 0 < (↑(nd a) : Int), I6 (List.getD (dg a) 0 (0 : Int)) = I6 x, 0 < nd a, I6 (IntKind.wrap .i64 (0 + (x:Int))) = I6 x, decide (0 < (↑(nd b) : Int)) = true, (0 : Int) ≤ 0, 0 < (↑(nd b) : Int), I6 (List.getD (dg b) 0 (0 : Int)) = I6 y, 0 < nd b, I6 (IntKind.wrap .i64 ((x:Int) + (y:Int))) = I6 ↑(x + y), I6 (Int.tmod (↑(x + y) : Int) (65536 : Int)) = I6 ↑((x + y) % 65536), (65536 : Int) ≠ 0, 1 ≤ 1, 0 < 1, 8 ≤ 140737488355328, 1 ≤ 9223372036854775807, I6 (IntKind.wrap .i64 (Int.tdiv (↑(x + y) : Int) (65536 : Int))) = I6 ↑((x + y) / 65536), (65536 : Int) ≠ 0, I6 (IntKind.wrap .i64 ((0 : Int) + (1 : Int))) = I6 1] (ac (dT (by omega)) (ac (dT (by omega)) (ob2 (by omega) (ac (cg (hx)) (ac (by omega) (ac (cg (Ac (by omega) (by omega) (by omega))) (ac (dT (by omega)) (ob2 (by omega) (ac (cg (hy)) (ac (by omega) (ac (wj (by omega)) (ac (cg rfl) (ob4 (by omega) (ac (by omega) (ac (wj (by omega)) (ac (by omega) (ao (wj (by omega))))))))))))))))))) ?_
    exact Mo rfl hM (max (nd a) (nd b)) 1 _ _ (by omega) (by omega) hc' hs.symm e2
   ·have := zy (by omega)
    subst this
    simp only [Nat.zero_add, Nat.add_zero] at hs hc' e2
    refine W.sgA 0 [(3, aT), (19, aT), (24, aV (I6 x)), (25, aV (I6 x)), (30, aF), (33, aV (I6 ↑(x % 65536))), (38, aV (I6 ↑(x / 65536))), (41, aV (I6 1))] [(624, 1)] (Kn na nb a b 1 [((x % 65536 : Nat) : Int)] (x / 65536)) [decide (0 < (↑(nd a) : Int)) = true, decide (0 < (↑(nd a) : Int)) = true, (0 : Int) ≤ 0, 0 < (↑(nd a) : Int), I6 (List.getD (dg a) 0 (0 : Int)) = I6 x, 0 < nd a, I6 (IntKind.wrap .i64 (0 + (x:Int))) = I6 x, decide (0 < (↑(nd b) : Int)) = false, I6 (Int.tmod (x:Int) (65536 : Int)) = I6 ↑(x % 65536), (65536 : Int) ≠ 0, 1 ≤ 1, 0 < 1, 8 ≤ 140737488355328, 1 ≤ 9223372036854775807, I6 (IntKind.wrap .i64 (Int.tdiv (x:Int) (65536 : Int))) = I6 ↑(x / 65536), (65536 : Int) ≠ 0, I6 (IntKind.wrap .i64 ((0 : Int) + (1 : Int))) = I6 1] (ac (dT (by omega)) (ac (dT (by omega)) (ob2 (by omega) (ac (cg (hx)) (ac (by omega) (ac (cg (Ac (by omega) (by omega) (by omega))) (ac (dF (by omega)) (ac (cg rfl) (ob4 (by omega) (ac (by omega) (ac (wj (by omega)) (ac (by omega) (ao (wj (by omega))))))))))))))) ?_
    exact Mo rfl hM (max (nd a) (nd b)) 1 _ _ (by omega) (by omega) hc' hs.symm e2
  ·have := zx (by omega)
   subst this
   have hb : 0 < nd b := by
    apply Nat.pos_of_ne_zero
    intro e
    have := Ep.1 e
    have := Ep.1 (show nd a = 0 by omega)
    omega
   simp only [Nat.zero_add] at hs hc' e2
   refine W.sgA 0 [(3, aF), (8, aT), (19, aF), (23, aT), (28, aV (I6 y)), (29, aV (I6 y)), (33, aV (I6 ↑(y % 65536))), (38, aV (I6 ↑(y / 65536))), (41, aV (I6 1))] [(624, 1)] (Kn na nb a b 1 [((y % 65536 : Nat) : Int)] (y / 65536)) [decide (0 < (↑(nd a) : Int)) = false, decide (0 < (↑(nd b) : Int)) = true, decide (0 < (↑(nd a) : Int)) = false, decide (0 < (↑(nd b) : Int)) = true, (0 : Int) ≤ 0, 0 < (↑(nd b) : Int), I6 (List.getD (dg b) 0 (0 : Int)) = I6 y, 0 < nd b, I6 (IntKind.wrap .i64 (0 + (y:Int))) = I6 y, I6 (Int.tmod (y:Int) (65536 : Int)) = I6 ↑(y % 65536), (65536 : Int) ≠ 0, 1 ≤ 1, 0 < 1, 8 ≤ 140737488355328, 1 ≤ 9223372036854775807, I6 (IntKind.wrap .i64 (Int.tdiv (y:Int) (65536 : Int))) = I6 ↑(y / 65536), (65536 : Int) ≠ 0, I6 (IntKind.wrap .i64 ((0 : Int) + (1 : Int))) = I6 1] (ac (dF (by omega)) (ac (dT (by omega)) (ac (dF (by omega)) (ac (dT (by omega)) (ob2 (by omega) (ac (cg (hy)) (ac (by omega) (ac (cg (Ac (by omega) (by omega) (by omega))) (ac (cg rfl) (ob4 (by omega) (ac (by omega) (ac (wj (by omega)) (ac (by omega) (ao (wj (by omega)))))))))))))))) ?_
   exact Mo rfl hM (max (nd a) (nd b)) 1 _ _ (by omega) (by omega) hc' hs.symm e2
end Go.Proofs
namespace Go.Pm
theorem VP {a h c x m n : Nat} (hn : n < m) (hh : a / 65536 ^ (n + 1) = 2 * h + c) (hc : c < 2) (hx : a / 65536 ^ n % 65536 = x) :
  (dgn m (h * 65536 ^ (n + 1))).set n (((65536 * c + x) / 2 : Nat) : Int) = dgn m ((h * 65536 + (65536 * c + x) / 2) * 65536 ^ n) := by
 obtain ⟨_, h2⟩ := Ob hh hc hx
 have h3 := Lp (n := m) (i := n) (lo := 0) (d := 0) (hi := h) (x := (65536 * c + x) / 2) hn (Nat.pow_pos (by omega)) (by omega) h2
 rw [Nat.zero_add, Nat.zero_add, Nat.zero_add] at h3
 have e1 : h * 65536 ^ (n + 1) = 65536 ^ n * (65536 * h) := by rw [Nat.pow_succ, Nat.mul_comm h, Nat.mul_assoc]
 have e2 : (h * 65536 + (65536 * c + x) / 2) * 65536 ^ n = 65536 ^ n * ((65536 * c + x) / 2 + 65536 * h) := by rw [Nat.mul_comm]; congr 1; omega
 rw [e1, e2, h3]
theorem Qt (k : Nat) : 2 ^ (k % 16) * 65536 ^ (k / 16) = 2 ^ k := by
 rw [OC, ← Nat.pow_add]; congr 1; omega
theorem Vk {m i n : Nat} (hi : i < 16) (hn : n < m) : (dgn m (2 ^ i * 65536 ^ n)).getD n 0 = ((2 ^ i : Nat) : Int) := by
 rw [Gn hn, Nat.mul_div_cancel _ (Nat.pow_pos (by omega)), Nat.mod_eq_of_lt]
 have := Nat.pow_lt_pow_right (a := 2) (by omega) hi
 simpa using this
theorem TP {m n p q : Nat} (hp : p < 65536) (hq : q < 65536) (hn : n < m) : (dgn m (p * 65536 ^ n)).set n (q : Int) = dgn m (q * 65536 ^ n) := by
 have h := Lp (n := m) (i := n) (lo := 0) (d := p) (hi := 0) (x := q) hn (Nat.pow_pos (by omega)) hp hq
 simp only [Nat.zero_add, Nat.mul_zero, Nat.add_zero] at h
 rw [Nat.mul_comm p, Nat.mul_comm q, h]
theorem J8 (k : Nat) : nd (2 ^ k) = k / 16 + 1 := by
 refine nd_eq ?_ (.inr ?_)
 ·rw [OC]; exact Nat.pow_lt_pow_right (by omega) (by omega)
 ·rw [OC]; exact Nat.pow_le_pow_right (by omega) (by omega)
def wat (v n j : Nat) : Nat := v / 65536 ^ (max n (4 * j)) % 65536 ^ (4 * j + 4 - max n (4 * j))
def wsn (v n : Nat) : List Int := [((wat v n 0 : Nat) : Int), ((wat v n 1 : Nat) : Int), ((wat v n 2 : Nat) : Int), ((wat v n 3 : Nat) : Int)]
theorem wat_lt (v n j : Nat) : wat v n j < 18446744073709551616 := by
 unfold wat
 have h1 : v / 65536 ^ (max n (4 * j)) % 65536 ^ (4 * j + 4 - max n (4 * j)) < 65536 ^ (4 * j + 4 - max n (4 * j)) := Nat.mod_lt _ (Nat.pow_pos (by omega))
 have h2 : 65536 ^ (4 * j + 4 - max n (4 * j)) ≤ 65536 ^ 4 := Nat.pow_le_pow_right (by omega) (by omega)
 have h3 : 65536 ^ 4 = 18446744073709551616 := by decide
 omega
theorem Q9 {v n x : Nat} (hx : v / 65536 ^ n % 65536 = x) : wat v n (n / 4) = 65536 * wat v (n + 1) (n / 4) + x := by
 unfold wat
 rw [show max n (4 * (n / 4)) = n by omega, show max (n + 1) (4 * (n / 4)) = n + 1 by omega, Cw,
  show 4 * (n / 4) + 4 - n = (4 * (n / 4) + 4 - (n + 1)) + 1 by omega, Nat.pow_succ, Nat.mul_comm (65536 ^ _) 65536, Nat.mod_mul, hx]
 omega
theorem BQ {v n j : Nat} (h : j ≠ n / 4) : wat v n j = wat v (n + 1) j := by
 unfold wat
 by_cases h1 : n / 4 < j
 ·rw [show max n (4 * j) = 4 * j by omega, show max (n + 1) (4 * j) = 4 * j by omega]
 ·rw [show 4 * j + 4 - max n (4 * j) = 0 by omega, show 4 * j + 4 - max (n + 1) (4 * j) = 0 by omega]
  simp [Nat.mod_one]
theorem wsn_get {v n : Nat} (hn : n < 16) : (wsn v (n + 1)).getD (n / 4) 0 = ((wat v (n + 1) (n / 4) : Nat) : Int) := by
 have : n / 4 = 0 ∨ n / 4 = 1 ∨ n / 4 = 2 ∨ n / 4 = 3 := by omega
 rcases this with h | h | h | h <;> rw [h] <;> rfl
theorem wsn_set {v n x : Nat} (hn : n < 16) (hx : v / 65536 ^ n % 65536 = x) : (wsn v (n + 1)).set (n / 4) ((65536 * wat v (n + 1) (n / 4) + x : Nat) : Int) = wsn v n := by
 rw [← Q9 hx]
 have : n / 4 = 0 ∨ n / 4 = 1 ∨ n / 4 = 2 ∨ n / 4 = 3 := by omega
 unfold wsn
 rcases this with h | h | h | h
 ·rw [BQ (j := 1) (n := n) (by omega), BQ (j := 2) (n := n) (by omega), BQ (j := 3) (n := n) (by omega), h]; rfl
 ·rw [BQ (j := 0) (n := n) (by omega), BQ (j := 2) (n := n) (by omega), BQ (j := 3) (n := n) (by omega), h]; rfl
 ·rw [BQ (j := 0) (n := n) (by omega), BQ (j := 1) (n := n) (by omega), BQ (j := 3) (n := n) (by omega), h]; rfl
 ·rw [BQ (j := 0) (n := n) (by omega), BQ (j := 1) (n := n) (by omega), BQ (j := 2) (n := n) (by omega), h]; rfl
theorem VN (v : Nat) : wsn v 0 = uw v := by
 unfold wsn wat uw
 simp only [Nat.mul_zero, Nat.zero_max, Nat.max_self, Nat.pow_zero, Nat.div_one, Nat.zero_add, Nat.sub_zero, Nat.mul_one]
 have e : ∀ a b : Nat, v / a / b = v / (a * b) := fun a b => Nat.div_div_eq_div_mul v a b
 rw [e, e, show 4 + 4 - 4 = 4 by omega, show (65536 : Nat) ^ 4 = 18446744073709551616 by decide,
  show (65536 : Nat) ^ (4 * 2) = 18446744073709551616 * 18446744073709551616 by decide, show (65536 : Nat) ^ (4 * 3) = 18446744073709551616 * 18446744073709551616 * 18446744073709551616 by decide]
theorem K7 {v n : Nat} (h : nd v ≤ n) (j : Nat) : wat v n j = 0 := by
 unfold wat
 rw [Cz (Nat.le_trans h (Nat.le_max_left _ _)), Nat.zero_mod]
theorem wsn_end {v n : Nat} (h : nd v ≤ n) : wsn v n = [0, 0, 0, 0] := by unfold wsn; rw [K7 h, K7 h, K7 h, K7 h]; rfl
theorem CO {v : Nat} : nd v ≤ 16 ↔ v < Aa := by rw [Db]; exact Iff.rfl
def wdn : Nat → Nat → List Int
 | 0, _ => []
 | m + 1, v => ((v % 18446744073709551616 : Nat) : Int) :: wdn m (v / 18446744073709551616)
theorem IU : ∀ (m v : Nat), (wdn m v).length = m
 | 0, _ => rfl
 | m + 1, v => by simp [wdn, IU m]
theorem Mf : ∀ {m v i : Nat}, i < m → (wdn m v).getD i 0 = ((v / 18446744073709551616 ^ i % 18446744073709551616 : Nat) : Int)
 | m + 1, v, 0, _ => by simp [wdn]
 | m + 1, v, i + 1, h => by
  have := Mf (v := v / 18446744073709551616) (by omega : i < m)
  rw [Nat.div_div_eq_div_mul, Nat.mul_comm, ← Nat.pow_succ] at this
  simpa [wdn] using this
theorem MZ {v i j w : Nat} (hi : i < 4) (hw : v / 18446744073709551616 ^ j % 18446744073709551616 = w) : v / 65536 ^ (4 * j + i) % 65536 = w / 65536 ^ i % 65536 := by
 rw [← hw, Nat.pow_add, show 65536 ^ (4 * j) = 18446744073709551616 ^ j by rw [Nat.pow_mul], ← Nat.div_div_eq_div_mul]
 generalize v / 18446744073709551616 ^ j = q
 obtain rfl | rfl | rfl | rfl : i = 0 ∨ i = 1 ∨ i = 2 ∨ i = 3 := by omega
 all_goals (simp only [Nat.reducePow]; omega)
end Go.Pm
namespace Go.Proofs
open Go Go.Pe Go.Pm
set_option maxRecDepth 100000
set_option linter.unusedVariables false
def KV (na nb : Bool) (a b i : Nat) (l : List Int) (c : Nat) : DS := ⟨[(0, bv na a), (1, bv nb b), (5, .ref 1 [] 1 0 i), (6, .int .i64 c), (7, .int .i64 i)], [(1, K5 i l)]⟩
theorem LQ {na nb : Bool} {a b d : Nat} (hm : nd a ≤ 100000) (hb : nd b ≤ 100000) (hd : d ≤ a) : ∀ (k i c : Nat) (l : List Int), i + k = nd a → 0 < i → c ≤ 1 → l = dgn i d → a / 65536 ^ i = b / 65536 ^ i + d / 65536 ^ i + c →
  Wt Tryz.f100 [] [] (bv false d) (Af Tryz.f100 0) (KV na nb a b i l c)
 | 0, i, c, l, hk, hi, hc, hl, h => by
  have hlt : d < 65536 ^ i := by rw [show i = nd a by omega]; exact Nat.lt_of_le_of_lt hd (Mx a)
  have hll : l.length = i := by rw [hl, AP]
  have ht := EC (nl := false) (m := i) (by omega) hlt
  rw [← hl] at ht
  refine W.rtA [(3, aF), (5, cL false [] ht)] [] [decide ((i:Int) < (↑(nd a) : Int)) = false, 0 + i ≤ i, rr ([] : List (Nat × Row)), ([PV.vec false (BI i (List.take i l))] : List PV) = [PV.vec false (BI i l)], _] (ac (dF (by omega)) (ac (by omega) (ac rfl (ac (by rw [List.take_of_length_le (show List.length l ≤ i by omega)]) (ao (ht))))))
 | k + 1, i, c, l, hk, hi, hc, hl, h => by
  have hll : l.length = i := by rw [hl, AP]
  have hx := Ck a i
  have hy := Ck b i
  obtain ⟨g1, g2⟩ := Rh h rfl rfl
  have hs := Ev i d
  rw [← hl] at hs
  have lx : a / 65536 ^ i % 65536 < 65536 := Nat.mod_lt _ (by omega)
  have ly : b / 65536 ^ i % 65536 < 65536 := Nat.mod_lt _ (by omega)
  have zy : nd b ≤ i → b / 65536 ^ i % 65536 = 0 := fun hz => by rw [Cz hz]
  generalize a / 65536 ^ i % 65536 = x at *
  generalize b / 65536 ^ i % 65536 = y at *
  by_cases hbr : c + y ≤ x
  ·obtain ⟨e1, e2⟩ := g1 hbr hc
   rw [e1] at hs
   generalize hz : x - c - y = z at *
   by_cases hb : i < nd b
   ·have hz' : (x : Int) - c - y = (z : Int) := by omega
    refine W.sgA 0 [(3, aT), (7, aV (I6 x)), (9, aV (I6 ((x:Int) - (c:Int)))), (14, aT), (19, aV (I6 y)), (20, aV (I6 z)), (28, Ans.ups [(1, none), (512, some (Row.mk (BI (i + 1) (l ++ [(z:Int)])) false))]), (31, aV (I6 ↑(i + 1)))] [(512, 1)] (KV na nb a b (i + 1) (l ++ [(z : Int)]) 0) [decide ((i:Int) < (↑(nd a) : Int)) = true, 0 ≤ (i:Int), (i:Int) < (↑(nd a) : Int), I6 (List.getD (dg a) i (0 : Int)) = I6 x, i < nd a, I6 (IntKind.wrap .i64 ((x:Int) - (c:Int))) = I6 ((x:Int) - (c:Int)), decide ((i:Int) < (↑(nd b) : Int)) = true, 0 ≤ (i:Int), (i:Int) < (↑(nd b) : Int), I6 (List.getD (dg b) i (0 : Int)) = I6 y, i < nd b, I6 (IntKind.wrap .i64 ((x:Int) - (c:Int) - (y:Int))) = I6 z, ([(1, none), (512, some (Row.mk (BI (i + 1) (List.take i l ++ [(z:Int)])) false))] : List (Nat × Option Row)) = [(1, none), (512, some (Row.mk (BI (i + 1) (l ++ [(z:Int)])) false))], 1 ≤ 1, 0 + i = i, (i + 1) * 8 ≤ 140737488355328, i + 1 ≤ 9223372036854775807, I6 (IntKind.wrap .i64 ((i:Int) + 1)) = I6 ↑(i + 1)] (ac (dT (by omega)) (ob2 (by omega) (ac (cg (hx)) (ac (by omega) (ac (wj (by omega)) (ac (dT (by omega)) (ob2 (by omega) (ac (cg (hy)) (ac (by omega) (ac (cg (Ac hz' (by omega) (by omega))) (ac (by rw [List.take_of_length_le (show List.length l ≤ i by omega)]) (ac (by omega) (ac (by omega) (ob2 (by omega) (ao (wj (by omega))))))))))))))))) ?_
    exact LQ hm (by assumption) hd k (i + 1) _ _ (by omega) (by omega) (by omega) hs.symm e2
   ·have := zy (by omega)
    subst this
    have hz' : (x : Int) - c = (z : Int) := by omega
    refine W.sgA 0 [(3, aT), (7, aV (I6 x)), (9, aV (I6 z)), (14, aF), (21, Ans.ups [(1, none), (400, some (Row.mk (BI (i + 1) (l ++ [(z:Int)])) false))]), (24, aV (I6 ↑(i + 1)))] [(400, 1)] (KV na nb a b (i + 1) (l ++ [(z : Int)]) 0) [decide ((i:Int) < (↑(nd a) : Int)) = true, 0 ≤ (i:Int), (i:Int) < (↑(nd a) : Int), I6 (List.getD (dg a) i (0 : Int)) = I6 x, i < nd a, I6 (IntKind.wrap .i64 ((x:Int) - (c:Int))) = I6 z, decide ((i:Int) < (↑(nd b) : Int)) = false, ([(1, none), (400, some (Row.mk (BI (i + 1) (List.take i l ++ [(z:Int)])) false))] : List (Nat × Option Row)) = [(1, none), (400, some (Row.mk (BI (i + 1) (l ++ [(z:Int)])) false))], 1 ≤ 1, 0 + i = i, (i + 1) * 8 ≤ 140737488355328, i + 1 ≤ 9223372036854775807, I6 (IntKind.wrap .i64 ((i:Int) + 1)) = I6 ↑(i + 1)] (ac (dT (by omega)) (ob2 (by omega) (ac (cg (hx)) (ac (by omega) (ac (cg (Ac hz' (by omega) (by omega))) (ac (dF (by omega)) (ac (by rw [List.take_of_length_le (show List.length l ≤ i by omega)]) (ac (by omega) (ac (by omega) (ob2 (by omega) (ao (wj (by omega))))))))))))) ?_
    exact LQ hm (by assumption) hd k (i + 1) _ _ (by omega) (by omega) (by omega) hs.symm e2
  ·obtain ⟨e1, e2⟩ := g2 (by omega) hc
   rw [e1] at hs
   generalize hz : x + 65536 - c - y = z at *
   by_cases hb : i < nd b
   ·have hz' : (x : Int) + 65536 - c - y = (z : Int) := by omega
    refine W.sgA 0 [(3, aT), (7, aV (I6 x)), (9, aV (I6 ((x:Int) - (c:Int)))), (14, aT), (19, aV (I6 y)), (20, aV (I6 ((x:Int) - (c:Int) - (y:Int)))), (24, aT), (26, aV (I6 z)), (32, Ans.ups [(1, none), (576, some (Row.mk (BI (i + 1) (l ++ [(z:Int)])) false))]), (35, aV (I6 ↑(i + 1)))] [(576, 1)] (KV na nb a b (i + 1) (l ++ [(z : Int)]) 1) [decide ((i:Int) < (↑(nd a) : Int)) = true, 0 ≤ (i:Int), (i:Int) < (↑(nd a) : Int), I6 (List.getD (dg a) i (0 : Int)) = I6 x, i < nd a, I6 (IntKind.wrap .i64 ((x:Int) - (c:Int))) = I6 ((x:Int) - (c:Int)), decide ((i:Int) < (↑(nd b) : Int)) = true, 0 ≤ (i:Int), (i:Int) < (↑(nd b) : Int), I6 (List.getD (dg b) i (0 : Int)) = I6 y, i < nd b, I6 (IntKind.wrap .i64 ((x:Int) - (c:Int) - (y:Int))) = I6 ((x:Int) - (c:Int) - (y:Int)), decide ((x:Int) - (c:Int) - (y:Int) < 0) = true, I6 (IntKind.wrap .i64 ((x:Int) - (c:Int) - (y:Int) + 65536)) = I6 z, ([(1, none), (576, some (Row.mk (BI (i + 1) (List.take i l ++ [(z:Int)])) false))] : List (Nat × Option Row)) = [(1, none), (576, some (Row.mk (BI (i + 1) (l ++ [(z:Int)])) false))], 1 ≤ 1, 0 + i = i, (i + 1) * 8 ≤ 140737488355328, i + 1 ≤ 9223372036854775807, I6 (IntKind.wrap .i64 ((i:Int) + 1)) = I6 ↑(i + 1)] (ac (dT (by omega)) (ob2 (by omega) (ac (cg (hx)) (ac (by omega) (ac (wj (by omega)) (ac (dT (by omega)) (ob2 (by omega) (ac (cg (hy)) (ac (by omega) (ac (wj (by omega)) (ac (dT (by omega)) (ac (cg (Ac (by rw [← hz']; omega) (by omega) (by omega))) (ac (by rw [List.take_of_length_le (show List.length l ≤ i by omega)]) (ac (by omega) (ac (by omega) (ob2 (by omega) (ao (wj (by omega))))))))))))))))))) ?_
    exact LQ hm (by assumption) hd k (i + 1) _ _ (by omega) (by omega) (by omega) hs.symm e2
   ·have := zy (by omega)
    subst this
    have hz' : (x : Int) + 65536 - c = (z : Int) := by omega
    refine W.sgA 0 [(3, aT), (7, aV (I6 x)), (9, aV (I6 ((x:Int) - (c:Int)))), (14, aF), (17, aT), (19, aV (I6 z)), (25, Ans.ups [(1, none), (464, some (Row.mk (BI (i + 1) (l ++ [(z:Int)])) false))]), (28, aV (I6 ↑(i + 1)))] [(464, 1)] (KV na nb a b (i + 1) (l ++ [(z : Int)]) 1) [decide ((i:Int) < (↑(nd a) : Int)) = true, 0 ≤ (i:Int), (i:Int) < (↑(nd a) : Int), I6 (List.getD (dg a) i (0 : Int)) = I6 x, i < nd a, I6 (IntKind.wrap .i64 ((x:Int) - (c:Int))) = I6 ((x:Int) - (c:Int)), decide ((i:Int) < (↑(nd b) : Int)) = false, decide ((x:Int) - (c:Int) < 0) = true, I6 (IntKind.wrap .i64 ((x:Int) - (c:Int) + 65536)) = I6 z, ([(1, none), (464, some (Row.mk (BI (i + 1) (List.take i l ++ [(z:Int)])) false))] : List (Nat × Option Row)) = [(1, none), (464, some (Row.mk (BI (i + 1) (l ++ [(z:Int)])) false))], 1 ≤ 1, 0 + i = i, (i + 1) * 8 ≤ 140737488355328, i + 1 ≤ 9223372036854775807, I6 (IntKind.wrap .i64 ((i:Int) + 1)) = I6 ↑(i + 1)] (ac (dT (by omega)) (ob2 (by omega) (ac (cg (hx)) (ac (by omega) (ac (wj (by omega)) (ac (dF (by omega)) (ac (dT (by omega)) (ac (cg (Ac (by rw [← hz']; omega) (by omega) (by omega))) (ac (by rw [List.take_of_length_le (show List.length l ≤ i by omega)]) (ac (by omega) (ac (by omega) (ob2 (by omega) (ao (wj (by omega))))))))))))))) ?_
    exact LQ hm (by assumption) hd k (i + 1) _ _ (by omega) (by omega) (by omega) hs.symm e2
theorem TL {na nb : Bool} {a b : Nat} (ha : nd a ≤ 100000) (hb : nd b ≤ 100000) (hle : b ≤ a) : Pt 100 [] [bv na a, bv nb b] [] (bv (decide (a = 0)) (a - b)) := by
 refine pO Tryz.func100 (by kernel_rfl) ?_
 refine W.sgA 0 [] [] (VY na nb a b) [] trivial ?_
 by_cases h0 : a = 0
 ·have h2 : b = 0 := by omega
  subst h0; subst h2
  have ht := EC (nl := true) (m := 0) (v := 0) (by omega) (by omega)
  refine W.rtA [(2, aV (I6 0)), (5, c9 ht)] [] [I6 ↑(0 : Nat) = I6 0, _] (ac (cg (by omega)) (ao (ht)))
 ·have hf : decide (a = 0) = false := decide_eq_false h0
  rw [hf]
  have hn0 : 0 < nd a := by
   apply Nat.pos_of_ne_zero
   intro e
   exact h0 (Ep.1 e)
  have h : a / 65536 ^ 0 = b / 65536 ^ 0 + (a - b) / 65536 ^ 0 + 0 := by simp only [Nat.pow_zero, Nat.div_one]; omega
  have hd : a - b ≤ a := Nat.sub_le _ _
  generalize a - b = d at *
  have hx := Ck a 0
  have hy := Ck b 0
  obtain ⟨g1, g2⟩ := Rh h rfl rfl
  have hs : dgn 1 d = [((d / 65536 ^ 0 % 65536 : Nat) : Int)] := Ev 0 d
  have lx : a / 65536 ^ 0 % 65536 < 65536 := Nat.mod_lt _ (by omega)
  have ly : b / 65536 ^ 0 % 65536 < 65536 := Nat.mod_lt _ (by omega)
  have zy : nd b ≤ 0 → b / 65536 ^ 0 % 65536 = 0 := fun hz => by rw [Cz hz]
  generalize a / 65536 ^ 0 % 65536 = x at *
  generalize b / 65536 ^ 0 % 65536 = y at *
  by_cases hbr : 0 + y ≤ x
  ·obtain ⟨e1, e2⟩ := g1 hbr (by omega)
   rw [e1] at hs
   generalize hz : x - 0 - y = z at *
   by_cases hb : 0 < nd b
   ·have hz' : (x : Int) - y = (z : Int) := by omega
    refine W.sgA 0 [(3, aT), (7, aV (I6 x)), (9, aV (I6 x)), (14, aT), (19, aV (I6 y)), (20, aV (I6 z)), (31, aV (I6 1))] [(512, 1)] (KV na nb a b 1 [(z : Int)] 0) [decide (0 < (↑(nd a) : Int)) = true, (0 : Int) ≤ 0, 0 < (↑(nd a) : Int), I6 (List.getD (dg a) 0 (0 : Int)) = I6 x, 0 < nd a, I6 (IntKind.wrap .i64 ((x:Int) - 0)) = I6 x, decide (0 < (↑(nd b) : Int)) = true, (0 : Int) ≤ 0, 0 < (↑(nd b) : Int), I6 (List.getD (dg b) 0 (0 : Int)) = I6 y, 0 < nd b, I6 (IntKind.wrap .i64 ((x:Int) - (y:Int))) = I6 z, 1 ≤ 1, 0 < 1, 8 ≤ 140737488355328, 1 ≤ 9223372036854775807, I6 (IntKind.wrap .i64 ((0 : Int) + (1 : Int))) = I6 1] (ac (dT (by omega)) (ob2 (by omega) (ac (cg (hx)) (ac (by omega) (ac (wj (by omega)) (ac (dT (by omega)) (ob2 (by omega) (ac (cg (hy)) (ac (by omega) (ac (cg (Ac hz' (by omega) (by omega))) (ob4 (by omega) (ao (wj (by omega)))))))))))))) ?_
    exact LQ ha (by assumption) hd (nd a - 1) 1 _ _ (by omega) (by omega) (by omega) hs.symm e2
   ·have := zy (by omega)
    subst this
    have hz' : (x : Int) = (z : Int) := by omega
    refine W.sgA 0 [(3, aT), (7, aV (I6 x)), (9, aV (I6 z)), (14, aF), (24, aV (I6 1))] [(400, 1)] (KV na nb a b 1 [(z : Int)] 0) [decide (0 < (↑(nd a) : Int)) = true, (0 : Int) ≤ 0, 0 < (↑(nd a) : Int), I6 (List.getD (dg a) 0 (0 : Int)) = I6 x, 0 < nd a, I6 (IntKind.wrap .i64 ((x:Int) - 0)) = I6 z, decide (0 < (↑(nd b) : Int)) = false, 1 ≤ 1, 0 < 1, 8 ≤ 140737488355328, 1 ≤ 9223372036854775807, I6 (IntKind.wrap .i64 ((0 : Int) + (1 : Int))) = I6 1] (ac (dT (by omega)) (ob2 (by omega) (ac (cg (hx)) (ac (by omega) (ac (cg (Ac hz' (by omega) (by omega))) (ac (dF (by omega)) (ob4 (by omega) (ao (wj (by omega)))))))))) ?_
    exact LQ ha (by assumption) hd (nd a - 1) 1 _ _ (by omega) (by omega) (by omega) hs.symm e2
  ·obtain ⟨e1, e2⟩ := g2 (by omega) (by omega)
   rw [e1] at hs
   generalize hz : x + 65536 - 0 - y = z at *
   by_cases hb : 0 < nd b
   ·have hz' : (x : Int) + 65536 - y = (z : Int) := by omega
    refine W.sgA 0 [(3, aT), (7, aV (I6 x)), (9, aV (I6 x)), (14, aT), (19, aV (I6 y)), (20, aV (I6 ((x:Int) - (y:Int)))), (24, aT), (26, aV (I6 z)), (35, aV (I6 1))] [(576, 1)] (KV na nb a b 1 [(z : Int)] 1) [decide (0 < (↑(nd a) : Int)) = true, (0 : Int) ≤ 0, 0 < (↑(nd a) : Int), I6 (List.getD (dg a) 0 (0 : Int)) = I6 x, 0 < nd a, I6 (IntKind.wrap .i64 ((x:Int) - 0)) = I6 x, decide (0 < (↑(nd b) : Int)) = true, (0 : Int) ≤ 0, 0 < (↑(nd b) : Int), I6 (List.getD (dg b) 0 (0 : Int)) = I6 y, 0 < nd b, I6 (IntKind.wrap .i64 ((x:Int) - (y:Int))) = I6 ((x:Int) - (y:Int)), decide ((x:Int) - (y:Int) < 0) = true, I6 (IntKind.wrap .i64 ((x:Int) - (y:Int) + 65536)) = I6 z, 1 ≤ 1, 0 < 1, 8 ≤ 140737488355328, 1 ≤ 9223372036854775807, I6 (IntKind.wrap .i64 ((0 : Int) + (1 : Int))) = I6 1] (ac (dT (by omega)) (ob2 (by omega) (ac (cg (hx)) (ac (by omega) (ac (wj (by omega)) (ac (dT (by omega)) (ob2 (by omega) (ac (cg (hy)) (ac (by omega) (ac (wj (by omega)) (ac (dT (by omega)) (ac (cg (Ac (by rw [← hz']; omega) (by omega) (by omega))) (ob4 (by omega) (ao (wj (by omega)))))))))))))))) ?_
    exact LQ ha (by assumption) hd (nd a - 1) 1 _ _ (by omega) (by omega) (by omega) hs.symm e2
   ·have := zy (by omega)
    omega
def SG (na : Bool) (a m : Nat) (l : List Int) (c : Nat) (i : Int) : DS := ⟨[(0, bv na a), (3, .ref 1 [] 1 0 m), (4, .int .i64 c), (5, .int .i64 i)], [(1, K5 m l)]⟩
theorem XQ {na : Bool} {a m : Nat} (hm : m = nd a) (hm1 : m ≤ 100000) : ∀ (n h c : Nat) (l : List Int), n ≤ m → a / 65536 ^ n = 2 * h + c → c < 2 → l = dgn m (h * 65536 ^ n) →
  Wt Tryz.f112 [] [] (bv false (a / 2)) (Af Tryz.f112 0) (SG na a m l c ((n : Int) - 1))
 | 0, h, c, l, hn, hh, hc, hl => by
  have e : a / 2 = h := by simp only [Nat.pow_zero, Nat.div_one] at hh; omega
  rw [e]
  have hlt : h < 65536 ^ m := by rw [← e, hm]; exact Nat.lt_of_le_of_lt (Nat.div_le_self _ _) (Mx a)
  rw [Nat.pow_zero, Nat.mul_one] at hl
  have hll : l.length = m := by rw [hl, AP]
  have ht := EC (nl := false) (m := m) (by omega) hlt
  rw [← hl] at ht
  refine W.rtA [(0, aV (I6 (-1))), (3, cL false [] ht)] [] [I6 ((↑(0 : Nat) : Int) - 1) = I6 (-1), 0 + m ≤ m, rr ([] : List (Nat × Row)), ([PV.vec false (BI m (List.take m l))] : List PV) = [PV.vec false (BI m l)], _] (ac (cg (by omega)) (ac (by omega) (ac rfl (ac (by rw [List.take_of_length_le (show List.length l ≤ m by omega)]) (ao (ht))))))
 | n + 1, h, c, l, hn, hh, hc, hl => by
  have hll : l.length = m := by rw [hl, AP]
  have hx := Ck a n
  have hset := VP (m := m) (by omega) hh hc rfl
  obtain ⟨e1, e2⟩ := Ob hh hc rfl
  rw [← hl] at hset
  have lx : a / 65536 ^ n % 65536 < 65536 := Nat.mod_lt _ (by omega)
  generalize a / 65536 ^ n % 65536 = x at *
  refine W.sgA 0 [(0, aV (I6 n)), (3, aV (I6 ↑(65536 * c))), (5, aV (I6 n)), (7, aV (I6 x)), (8, aV (I6 ↑(65536 * c + x))), (11, aV (I6 n)), (13, aV (I6 ↑((65536 * c + x) / 2))), (14, aV (PV.at 1 [Stp.idx n 1])), (17, aV (I6 ↑((65536 * c + x) % 2))), (19, aV (I6 n)), (20, aV (I6 ((n:Int) - 1)))] (rI 1) (SG na a m (l.set n (((65536 * c + x) / 2 : Nat) : Int)) ((65536 * c + x) % 2) ((n : Int) - 1)) [I6 ((↑(n + 1) : Int) - 1) = I6 n, I6 (IntKind.wrap .i64 ((c:Int) * (65536 : Int))) = I6 ↑(65536 * c), I6 ((↑(n + 1) : Int) - 1) = I6 n, 0 ≤ (n:Int), (n:Int) < (↑(nd a) : Int), I6 (List.getD (dg a) n (0 : Int)) = I6 x, n < nd a, I6 (IntKind.wrap .i64 ((↑(65536 * c) : Int) + (x:Int))) = I6 ↑(65536 * c + x), I6 ((↑(n + 1) : Int) - 1) = I6 n, I6 (IntKind.wrap .i64 (Int.tdiv (↑(65536 * c + x) : Int) (2 : Int))) = I6 ↑((65536 * c + x) / 2), (2 : Int) ≠ 0, PV.at 1 [Stp.idx (0 + n) 1] = PV.at 1 [Stp.idx n 1], 0 ≤ (n:Int), (n:Int) < (m:Int), n < m, I6 (Int.tmod (↑(65536 * c + x) : Int) (2 : Int)) = I6 ↑((65536 * c + x) % 2), (2 : Int) ≠ 0, I6 ((↑(n + 1) : Int) - 1) = I6 n, I6 (IntKind.wrap .i64 ((n:Int) - 1)) = I6 ((n:Int) - 1)] (ac (cg (by omega)) (ac (cg (Ac (by omega) (by omega) (by omega))) (ac (cg (by omega)) (ob2 (by omega) (ac (cg (hx)) (ac (by omega) (ac (wj (by omega)) (ac (cg (by omega)) (ac (wj (by omega)) (ac (by omega) (ac (by simp only [Nat.zero_add]) (ob3 (by omega) (ac (cg rfl) (ac (by omega) (ac (cg (by omega)) (ao (wj (by omega)))))))))))))))))) ?_
  exact XQ hm hm1 n _ _ _ (by omega) e1 (Nat.mod_lt _ (by omega)) hset
theorem QZ {na : Bool} {a : Nat} (ha : nd a ≤ 100000) : Pt 112 [] [bv na a] [] (bv false (a / 2)) := by
 refine pO Tryz.func112 (by kernel_rfl) ?_
 refine W.sgA 0 [(3, Ans.vu (PV.ref 112 [] 1 0 (nd a)) [(112, some (Row.mk (BI (nd a) (List.replicate (nd a) (0 : Int))) false))]), (8, aV (I6 ((↑(nd a) : Int) - 1)))] [(112, 1)] (SG na a (nd a) (List.replicate (nd a) 0) 0 ((nd a : Int) - 1)) [([(112, some (Row.mk (BI (Int.toNat (↑(nd a) : Int)) (List.replicate (Int.toNat (↑(nd a) : Int)) (0 : Int))) false))] : List (Nat × Option Row)) = [(112, some (Row.mk (BI (nd a) (List.replicate (nd a) (0 : Int))) false))], PV.ref 112 [] 1 0 (Int.toNat (↑(nd a) : Int)) = PV.ref 112 [] 1 0 (nd a), 0 ≤ (↑(nd a) : Int), (↑(nd a) : Int) ≤ (↑(nd a) : Int), (↑(nd a) : Int) ≤ 9223372036854775807, (↑(8 : Nat) : Int) * (↑(nd a) : Int) ≤ 140737488355328, I6 (IntKind.wrap .i64 ((↑(nd a) : Int) - 1)) = I6 ((↑(nd a) : Int) - 1)] (ac (by rw [show Int.toNat (↑(nd a) : Int) = nd a by omega]) (ac (by rw [show Int.toNat (↑(nd a) : Int) = nd a by omega]) (ob4 (by omega) (ao (wj (by omega)))))) ?_
 exact XQ rfl ha (nd a) 0 0 _ (Nat.le_refl _) (by rw [Cz (Nat.le_refl _)]) (by omega) (by rw [Nat.zero_mul, Ji])
def dsPow (k m : Nat) (l : List Int) (i : Nat) : DS := ⟨[(0, .int .i64 k), (3, .ref 1 [] 1 0 m), (4, .int .i64 i)], [(1, K5 m l)]⟩
theorem W_pow {k : Nat} (hk : k ≤ 1000000) : ∀ (j i : Nat) (l : List Int), i + j = k % 16 → l = dgn (k / 16 + 1) (2 ^ i * 65536 ^ (k / 16)) →
  Wt Tryz.f69 [] [] (bv false (2 ^ k)) (Af Tryz.f69 0) (dsPow k (k / 16 + 1) l i)
 | 0, i, l, hj, hl => by
  have hll : l.length = k / 16 + 1 := by rw [hl, AP]
  have e : bv false (2 ^ k) = .vec false (.iarr .i64 (k / 16 + 1) l) := by
   rw [hl, show i = k % 16 by omega, Qt]
   unfold bv dg
   rw [J8]
  rw [e]
  refine W.ret [(2, aV (I6 ↑(k % 16))), (3, aF)] [] [I6 (Int.tmod (k:Int) (16 : Int)) = I6 ↑(k % 16), (16 : Int) ≠ 0, decide ((i:Int) < (↑(k % 16) : Int)) = false, 0 + (k / 16 + 1) ≤ k / 16 + 1, PV.vec false (BI (k / 16 + 1) (List.take (k / 16 + 1) l)) = PV.vec false (BI (k / 16 + 1) l)] (by kernel_rfl) (ac (cg rfl) (ac (by omega) (ac (dF (by omega)) (ac (by omega) (ao ?_)))))
  rw [List.take_of_length_le (by omega)]
 | j + 1, i, l, hj, hl => by
  have hll : l.length = k / 16 + 1 := by rw [hl, AP]
  have hg := Vk (m := k / 16 + 1) (i := i) (n := k / 16) (by omega) (by omega)
  have hp1 : 2 ^ i < 65536 := by
   have := Nat.pow_lt_pow_right (a := 2) (by omega) (show i < 16 by omega)
   simpa using this
  have hp2 : 2 ^ (i + 1) < 65536 := by
   have := Nat.pow_lt_pow_right (a := 2) (by omega) (show i + 1 < 16 by omega)
   simpa using this
  have hset := TP (m := k / 16 + 1) (n := k / 16) hp1 hp2 (by omega)
  rw [← hl] at hg hset
  rw [Nat.pow_succ, Nat.mul_comm] at hset hp2
  generalize hpp : 2 ^ i = p at *
  refine W.sgA 0 [(2, aV (I6 ↑(k % 16))), (3, aT), (6, aV (I6 ↑(k / 16))), (7, aV (PV.at 1 [Stp.idx (k / 16) 1])), (8, aV (I6 p)), (9, aV (I6 ↑(2 * p))), (10, aV (PV.at 1 [Stp.idx (k / 16) 1])), (13, aV (I6 ↑(i + 1)))] (rI 1) (dsPow k (k / 16 + 1) (l.set (k / 16) ((2 * p : Nat) : Int)) (i + 1)) [I6 (Int.tmod (k:Int) (16 : Int)) = I6 ↑(k % 16), (16 : Int) ≠ 0, decide ((i:Int) < (↑(k % 16) : Int)) = true, I6 (IntKind.wrap .i64 (Int.tdiv (k:Int) (16 : Int))) = I6 ↑(k / 16), (16 : Int) ≠ 0, PV.at 1 [Stp.idx (0 + Int.toNat (↑(k / 16) : Int)) 1] = PV.at 1 [Stp.idx (k / 16) 1], 0 ≤ (↑(k / 16) : Int), (↑(k / 16) : Int) < (↑(k / 16 + 1) : Int), I6 (List.getD l (k / 16) (0 : Int)) = I6 p, k / 16 < k / 16 + 1, I6 (IntKind.wrap .i64 ((p:Int) * (2 : Int))) = I6 ↑(2 * p), PV.at 1 [Stp.idx (0 + Int.toNat (↑(k / 16) : Int)) 1] = PV.at 1 [Stp.idx (k / 16) 1], 0 ≤ (↑(k / 16) : Int), (↑(k / 16) : Int) < (↑(k / 16 + 1) : Int), k / 16 < k / 16 + 1, I6 (IntKind.wrap .i64 ((i:Int) + 1)) = I6 ↑(i + 1)] (ac (cg rfl) (ac (by omega) (ac (dT (by omega)) (ac (wj (by omega)) (ac (by omega) (ac (by (rw [show Int.toNat (↑(k / 16) : Int) = k / 16 by omega]; simp only [Nat.zero_add])) (ob2 (by omega) (ac (cg (hg)) (ac (by omega) (ac (cg (Ac (by omega) (by omega) (by omega))) (ac (by (rw [show Int.toNat (↑(k / 16) : Int) = k / 16 by omega]; simp only [Nat.zero_add])) (ob3 (by omega) (ao (wj (by omega))))))))))))))) ?_
  refine W_pow hk j (i + 1) _ (by omega) ?_
  rw [hset, Nat.pow_succ, hpp, Nat.mul_comm 2 p]
theorem Lh {k : Nat} (hk : k ≤ 1000000) : Pt 69 [] [.int .i64 k] [] (bv false (2 ^ k)) := by
 refine pO Tryz.func69 (by kernel_rfl) ?_
 have hset := TP (m := k / 16 + 1) (n := k / 16) (p := 0) (q := 1) (by omega) (by omega) (by omega)
 rw [Nat.zero_mul, Ji] at hset
 refine W.sgA 0 [(2, aV (I6 ↑(k / 16))), (3, aV (I6 ↑(k / 16 + 1))), (4, Ans.vu (PV.ref 128 [] 1 0 (k / 16 + 1)) [(128, some (Row.mk (BI (k / 16 + 1) (List.replicate (k / 16 + 1) (0 : Int))) false))]), (8, aV (I6 ↑(k / 16))), (9, aV (PV.at 128 [Stp.idx (k / 16) 1]))] [(128, 1)] (dsPow k (k / 16 + 1) ((List.replicate (k / 16 + 1) 0).set (k / 16) 1) 0) [I6 (IntKind.wrap .i64 (Int.tdiv (k:Int) (16 : Int))) = I6 ↑(k / 16), (16 : Int) ≠ 0, I6 (IntKind.wrap .i64 ((↑(k / 16) : Int) + 1)) = I6 ↑(k / 16 + 1), ([(128, some (Row.mk (BI (Int.toNat (↑(k / 16 + 1) : Int)) (List.replicate (Int.toNat (↑(k / 16 + 1) : Int)) (0 : Int))) false))] : List (Nat × Option Row)) = [(128, some (Row.mk (BI (k / 16 + 1) (List.replicate (k / 16 + 1) (0 : Int))) false))], PV.ref 128 [] 1 0 (Int.toNat (↑(k / 16 + 1) : Int)) = PV.ref 128 [] 1 0 (k / 16 + 1), 0 ≤ (↑(k / 16 + 1) : Int), (↑(k / 16 + 1) : Int) ≤ (↑(k / 16 + 1) : Int), (↑(k / 16 + 1) : Int) ≤ 9223372036854775807, (↑(8 : Nat) : Int) * (↑(k / 16 + 1) : Int) ≤ 140737488355328, I6 (IntKind.wrap .i64 (Int.tdiv (k:Int) (16 : Int))) = I6 ↑(k / 16), (16 : Int) ≠ 0, PV.at 128 [Stp.idx (0 + Int.toNat (↑(k / 16) : Int)) 1] = PV.at 128 [Stp.idx (k / 16) 1], 0 ≤ (↑(k / 16) : Int), (↑(k / 16) : Int) < (↑(k / 16 + 1) : Int), k / 16 < k / 16 + 1] (ac (wj (by omega)) (ac (by omega) (ac (wj (by omega)) (ac (by rw [show Int.toNat (↑(k / 16 + 1) : Int) = k / 16 + 1 by omega]) (ac (by rw [show Int.toNat (↑(k / 16 + 1) : Int) = k / 16 + 1 by omega]) (ob4 (by omega) (ac (wj (by omega)) (ac (by omega) (ac (by (rw [show Int.toNat (↑(k / 16) : Int) = k / 16 by omega]; simp only [Nat.zero_add])) (ob2 (by omega) (ao (by omega)))))))))))) ?_
 exact W_pow hk (k % 16) 0 _ (by omega) hset
end Go.Proofs
namespace Go.Proofs
open Go Go.Pe Go.Pm
set_option maxRecDepth 100000
set_option linter.unusedVariables false
def wv (nl : Bool) (m : Nat) (ws : List Int) : PV := .vec nl (.iarr .u64 m ws)
def dsOfO (nl : Bool) (m : Nat) (ws : List Int) (j n : Nat) (l : List Int) : DS := ⟨[(0, wv nl m ws), (3, .ref 1 [] 1 0 n), (7, wv nl m ws), (8, .int .i64 m), (9, .int .i64 j)], [(1, K5 n l)]⟩
def Tq (nl : Bool) (m : Nat) (ws : List Int) (j n : Nat) (l : List Int) (w i : Nat) : DS := ⟨[(0, wv nl m ws), (3, .ref 1 [] 1 0 n), (5, .int .u64 w), (6, .int .i64 i), (7, wv nl m ws), (8, .int .i64 m), (9, .int .i64 j)], [(1, K5 n l)]⟩
def dsOfO0 (nl : Bool) (m : Nat) (ws : List Int) : DS := ⟨[(0, wv nl m ws), (3, .vec true (.iarr .i64 0 [])), (7, wv nl m ws), (8, .int .i64 m), (9, .int .i64 0)], []⟩
def dsOfI0 (nl : Bool) (m : Nat) (ws : List Int) (w : Nat) : DS := ⟨[(0, wv nl m ws), (3, .vec true (.iarr .i64 0 [])), (5, .int .u64 w), (6, .int .i64 0), (7, wv nl m ws), (8, .int .i64 m), (9, .int .i64 0)], []⟩
theorem W_ofI {nl : Bool} {m v j w0 : Nat} {ws : Liz} {res : PV} (hm : m ≤ 1000) (hj : j < m) (hw : v / 18446744073709551616 ^ j % 18446744073709551616 = w0) (hlw : ws.length = m) : ∀ (k i n w : Nat) (l : List Int), i + k = 4 → 0 < n → n = 4 * j + i → l = dgn n v → w = w0 / 65536 ^ i → w < 18446744073709551616 →
  Wt Tryz.f36 [] [] res (Af Tryz.f36 0) (dsOfO nl m ws (j + 1) (4 * j + 4) (dgn (4 * j + 4) v)) →
  Wt Tryz.f36 [] [] res (Af Tryz.f36 1) (Tq nl m ws j n l w i)
 | 0, i, n, w, l, hk, h0, hn, hl, hww, hlt, hnext => by
  have e : n = 4 * j + 4 := by omega
  subst e
  have hll : l.length = 4 * j + 4 := by rw [hl, AP]
  rw [← hl] at hnext
  refine W.sgA 0 [(1, aF), (2, aV (I6 ↑(j + 1)))] (rI 1) (dsOfO nl m ws (j + 1) (4 * j + 4) l) [decide ((i:Int) < 4) = false, I6 (IntKind.wrap .i64 ((j:Int) + 1)) = I6 ↑(j + 1)] (ac (dF (by omega)) (ao (wj (by omega)))) ?_
  exact hnext
 | k + 1, i, n, w, l, hk, h0, hn, hl, hww, hlt, hnext => by
  have hll : l.length = n := by rw [hl, AP]
  have hs := Ev n v
  have hd := MZ (v := v) (i := i) (by omega) hw
  rw [← hn, ← hww] at hd
  rw [hd, ← hl] at hs
  have hww' : w / 65536 = w0 / 65536 ^ (i + 1) := by rw [hww, Nat.pow_succ, Nat.div_div_eq_div_mul]
  refine W.sgA 1 [(1, aT), (4, aV (U6 ↑(w % 65536))), (5, aV (I6 ↑(w % 65536))), (7, Ans.ups [(1, none), (176, some (Row.mk (BI (n + 1) (l ++ [(↑(w % 65536) : Int)])) false))]), (10, aV (U6 ↑(w / 65536))), (13, aV (I6 ↑(i + 1)))] [(176, 1)] (Tq nl m ws j (n + 1) (l ++ [((w % 65536 : Nat) : Int)]) (w / 65536) (i + 1)) [decide ((i:Int) < 4) = true, U6 (Int.tmod (w:Int) (65536 : Int)) = U6 ↑(w % 65536), (65536 : Int) ≠ 0, I6 (IntKind.wrap .i64 (↑(w % 65536) : Int)) = I6 ↑(w % 65536), ([(1, none), (176, some (Row.mk (BI (n + 1) (List.take n l ++ [(↑(w % 65536) : Int)])) false))] : List (Nat × Option Row)) = [(1, none), (176, some (Row.mk (BI (n + 1) (l ++ [(↑(w % 65536) : Int)])) false))], 1 ≤ 1, 0 + n = n, (n + 1) * 8 ≤ 140737488355328, n + 1 ≤ 9223372036854775807, U6 (IntKind.wrap .u64 (Int.tdiv (w:Int) (65536 : Int))) = U6 ↑(w / 65536), (65536 : Int) ≠ 0, I6 (IntKind.wrap .i64 ((i:Int) + 1)) = I6 ↑(i + 1)] (ac (dT (by omega)) (ac (cg rfl) (ac (by omega) (ac (wj (by omega)) (ac (by rw [List.take_of_length_le (show List.length l ≤ n by omega)]) (ac (by omega) (ac (by omega) (ob2 (by omega) (ac (cg (Ah rfl (by omega) (by omega))) (ac (by omega) (ao (wj (by omega))))))))))))) ?_
  exact W_ofI hm hj hw hlw k (i + 1) (n + 1) _ _ (by omega) (by omega) (by omega) hs.symm hww' (by omega) hnext
theorem W_ofO {nl : Bool} {m v : Nat} {ws : Liz} (hm : m ≤ 1000) (hws : ws = wdn m v) (hv : v < 65536 ^ (4 * m)) : ∀ (k j n : Nat) (l : List Int), j + k = m → n = 4 * j → 0 < n → l = dgn n v →
  Wt Tryz.f36 [] [] (bv false v) (Af Tryz.f36 0) (dsOfO nl m ws j n l)
 | 0, j, n, l, hk, hn, h0, hl => by
  have hll : l.length = n := by rw [hl, AP]
  have ht := EC (nl := false) (m := n) (v := v) (by omega) (by rw [show n = 4 * m by omega]; exact hv)
  rw [← hl] at ht
  refine W.rtA [(0, aF), (2, cL false [] ht)] [] [decide ((j:Int) < (m:Int)) = false, 0 + n ≤ n, rr ([] : List (Nat × Row)), ([PV.vec false (BI n (List.take n l))] : List PV) = [PV.vec false (BI n l)], _] (ac (dF (by omega)) (ac (by omega) (ac rfl (ac (by rw [List.take_of_length_le (show List.length l ≤ n by omega)]) (ao (ht))))))
 | k + 1, j, n, l, hk, hn, h0, hl => by
  have hll : l.length = n := by rw [hl, AP]
  have hlw : ws.length = m := by rw [hws, IU]
  have hg := Mf (v := v) (show j < m by omega)
  have hlt : v / 18446744073709551616 ^ j % 18446744073709551616 < 18446744073709551616 := Nat.mod_lt _ (by omega)
  rw [← hws] at hg
  generalize hw : v / 18446744073709551616 ^ j % 18446744073709551616 = w at *
  refine W.sgA 1 [(0, aT), (2, aV (U6 w))] (rI 1) (Tq nl m ws j n l w 0) [decide ((j:Int) < (m:Int)) = true, 0 ≤ (j:Int), (j:Int) < (m:Int), U6 (List.getD ws j (0 : Int)) = U6 w, j < m] (ac (dT (by omega)) (ob2 (by omega) (ac (cg (hg)) (ao (by omega))))) ?_
  refine W_ofI hm (by omega) hw hlw 4 0 n w l (by omega) h0 (by omega) hl (by simp) hlt ?_
  exact W_ofO hm hws hv k (j + 1) (4 * j + 4) _ (by omega) (by omega) (by omega) rfl
theorem Xr {nl : Bool} {m v : Nat} {ws : Liz} (h0 : 0 < m) (hm : m ≤ 1000) (hws : ws = wdn m v) (hv : v < 65536 ^ (4 * m)) : Pt 36 [] [wv nl m ws] [] (bv false v) := by
 refine pO Tryz.func36 (by kernel_rfl) ?_
 have hlw : ws.length = m := by rw [hws, IU]
 have hg := Mf (v := v) h0
 have hlt : v / 18446744073709551616 ^ 0 % 18446744073709551616 < 18446744073709551616 := Nat.mod_lt _ (by omega)
 rw [← hws] at hg
 generalize hw : v / 18446744073709551616 ^ 0 % 18446744073709551616 = w at *
 have hs : dgn 1 v = [((v / 65536 ^ (4 * 0 + 0) % 65536 : Nat) : Int)] := Ev 0 v
 rw [MZ (v := v) (i := 0) (by omega) hw, Nat.pow_zero, Nat.div_one] at hs
 refine W.sgA 0 [] [] (dsOfO0 nl m ws) [] trivial ?_
 refine W.sgA 1 [(0, aT), (2, aV (U6 w))] [] (dsOfI0 nl m ws w) [decide (0 < (m:Int)) = true, (0 : Int) ≤ 0, 0 < (m:Int), U6 (List.getD ws 0 (0 : Int)) = U6 w, 0 < m] (ac (dT (by omega)) (ob2 (by omega) (ac (cg (hg)) (ao (by omega))))) ?_
 refine W.sgA 1 [(4, aV (U6 ↑(w % 65536))), (5, aV (I6 ↑(w % 65536))), (10, aV (U6 ↑(w / 65536))), (13, aV (I6 1))] [(176, 1)] (Tq nl m ws 0 1 [((w % 65536 : Nat) : Int)] (w / 65536) 1) [U6 (Int.tmod (w:Int) (65536 : Int)) = U6 ↑(w % 65536), (65536 : Int) ≠ 0, I6 (IntKind.wrap .i64 (↑(w % 65536) : Int)) = I6 ↑(w % 65536), 1 ≤ 1, 0 < 1, 8 ≤ 140737488355328, 1 ≤ 9223372036854775807, U6 (IntKind.wrap .u64 (Int.tdiv (w:Int) (65536 : Int))) = U6 ↑(w / 65536), (65536 : Int) ≠ 0, I6 (IntKind.wrap .i64 ((0 : Int) + (1 : Int))) = I6 1] (ac (cg rfl) (ac (by omega) (ac (wj (by omega)) (ob4 (by omega) (ac (cg (Ah rfl (by omega) (by omega))) (ac (by omega) (ao (wj (by omega))))))))) ?_
 refine W_ofI hm (by omega) hw hlw 3 1 1 _ _ (by omega) (by omega) (by omega) hs.symm (by simp) (by omega) ?_
 exact W_ofO hm hws hv (m - 1) 1 4 _ (by omega) (by omega) (by omega) rfl
def OI (na : Bool) (a : Nat) (l : List Int) (i : Int) : DS := ⟨[(0, bv na a), (2, .at 1 []), (3, .at 2 []), (4, .int .i64 i)], [(1, ⟨.iarr .u64 4 [0, 0, 0, 0], false⟩), (2, ⟨.iarr .u64 4 l, false⟩)]⟩
theorem TT {na : Bool} {a : Nat} (ha : nd a ≤ 16) : ∀ (n : Nat) (l : List Int), n ≤ nd a → l = wsn a n →
  Wt Tryz.f54 [] [] (.iarr .u64 4 (uw a)) (Af Tryz.f54 0) (OI na a l ((n : Int) - 1))
 | 0, l, hn, hl => by
  rw [VN] at hl
  rw [← hl]
  refine W.rtA [(0, aV (I6 (-1)))] [] [I6 ((↑(0 : Nat) : Int) - 1) = I6 (-1)] (ao (cg (by omega)))
 | n + 1, l, hn, hl => by
  have hx := Ck a n
  have hg := wsn_get (v := a) (n := n) (by omega)
  have hset := wsn_set (v := a) (n := n) (by omega) rfl
  have hll : l.length = 4 := by rw [hl]; rfl
  have lx : a / 65536 ^ n % 65536 < 65536 := Nat.mod_lt _ (by omega)
  have lw : 65536 * wat a (n + 1) (n / 4) + a / 65536 ^ n % 65536 < 18446744073709551616 := by rw [← Q9 rfl]; exact wat_lt _ _ _
  rw [← hl] at hg hset
  generalize a / 65536 ^ n % 65536 = x at *
  generalize wat a (n + 1) (n / 4) = w at *
  refine W.sgA 0 [(0, aV (I6 n)), (2, aV (I6 n)), (3, aT), (4, aV (I6 n)), (5, aV (I6 ↑(n / 4))), (6, aV (I6 n)), (7, aV (I6 ↑(n / 4))), (8, aV (PV.at 2 [Stp.idx (n / 4) 1])), (9, aV (U6 w)), (10, aV (U6 ↑(65536 * w))), (12, aV (I6 n)), (14, aV (I6 x)), (15, aV (U6 x)), (16, aV (U6 ↑(65536 * w + x))), (17, aV (PV.at 2 [Stp.idx (n / 4) 1])), (19, aV (I6 n)), (20, aV (I6 ((n:Int) - 1)))] (rI 2) (OI na a (l.set (n / 4) ((65536 * w + x : Nat) : Int)) ((n : Int) - 1)) [I6 ((↑(n + 1) : Int) - 1) = I6 n, I6 ((↑(n + 1) : Int) - 1) = I6 n, decide ((n:Int) < 16) = true, I6 ((↑(n + 1) : Int) - 1) = I6 n, I6 (IntKind.wrap .i64 (Int.tdiv (n:Int) (4 : Int))) = I6 ↑(n / 4), (4 : Int) ≠ 0, I6 ((↑(n + 1) : Int) - 1) = I6 n, I6 (IntKind.wrap .i64 (Int.tdiv (n:Int) (4 : Int))) = I6 ↑(n / 4), (4 : Int) ≠ 0, PV.at 2 [Stp.idx (Int.toNat (↑(n / 4) : Int)) 1] = PV.at 2 [Stp.idx (n / 4) 1], 0 ≤ (↑(n / 4) : Int), (↑(n / 4) : Int) < (↑(4 : Nat) : Int), U6 (List.getD l (n / 4) (0 : Int)) = U6 w, n / 4 < 4, U6 (IntKind.wrap .u64 ((w:Int) * (65536 : Int))) = U6 ↑(65536 * w), I6 ((↑(n + 1) : Int) - 1) = I6 n, 0 ≤ (n:Int), (n:Int) < (↑(nd a) : Int), I6 (List.getD (dg a) n (0 : Int)) = I6 x, n < nd a, U6 (IntKind.wrap .u64 (x:Int)) = U6 x, U6 (IntKind.wrap .u64 ((↑(65536 * w) : Int) + (x:Int))) = U6 ↑(65536 * w + x), PV.at 2 [Stp.idx (Int.toNat (↑(n / 4) : Int)) 1] = PV.at 2 [Stp.idx (n / 4) 1], 0 ≤ (↑(n / 4) : Int), (↑(n / 4) : Int) < (↑(4 : Nat) : Int), n / 4 < 4, I6 ((↑(n + 1) : Int) - 1) = I6 n, I6 (IntKind.wrap .i64 ((n:Int) - 1)) = I6 ((n:Int) - 1)] (ac (cg (by omega)) (ac (cg (by omega)) (ac (dT (by omega)) (ac (cg (by omega)) (ac (wj (by omega)) (ac (by omega) (ac (cg (by omega)) (ac (wj (by omega)) (ac (by omega) (ac (by rw [show Int.toNat (↑(n / 4) : Int) = n / 4 by omega]) (ob2 (by omega) (ac (cg (hg)) (ac (by omega) (ac (cg (Ah (by omega) (by omega) (by omega))) (ac (cg (by omega)) (ob2 (by omega) (ac (cg (hx)) (ac (by omega) (ac (cg (Ah rfl (by omega) (by omega))) (ac (cg (Ah rfl (by omega) (by omega))) (ac (by rw [show Int.toNat (↑(n / 4) : Int) = n / 4 by omega]) (ob3 (by omega) (ac (cg (by omega)) (ao (wj (by omega)))))))))))))))))))))))))) ?_
  exact TT ha n _ (by omega) hset
theorem Od {na : Bool} {a : Nat} (ha : nd a ≤ 16) : Pt 54 [] [bv na a] [] (.iarr .u64 4 (uw a)) := by
 refine pO Tryz.func54 (by kernel_rfl) ?_
 refine W.sgA 0 [(4, aV (I6 ((↑(nd a) : Int) - 1)))] [(64, 1), (80, 2)] (OI na a [0, 0, 0, 0] ((nd a : Int) - 1)) [I6 (IntKind.wrap .i64 ((↑(nd a) : Int) - 1)) = I6 ((↑(nd a) : Int) - 1)] (ao (wj (by omega))) ?_
 exact TT ha (nd a) _ (Nat.le_refl _) (wsn_end (Nat.le_refl _)).symm
end Go.Proofs
namespace Go.Pm
theorem FL (v i : Nat) : v % 65536 ^ (i + 1) = v % 65536 ^ i + 65536 ^ i * (v / 65536 ^ i % 65536) := by
 rw [Nat.pow_succ, Nat.mod_mul]
def acc (a b i j x : Nat) : Nat := a % 65536 ^ i * b + x * (b % 65536 ^ j) * 65536 ^ i
theorem X6 {a b i j x y : Nat} (hy : b / 65536 ^ j % 65536 = y) : acc a b i j x + x * y * 65536 ^ (i + j) = acc a b i (j + 1) x := by
 unfold acc
 rw [FL, hy, Nat.pow_add, Nat.mul_add, Nat.add_mul, Nat.add_assoc]
 congr 2
 simp only [Nat.mul_comm, Nat.mul_left_comm, Nat.mul_assoc]
theorem Ti {a b i j x : Nat} (hj : nd b ≤ j) (hx : a / 65536 ^ i % 65536 = x) : acc a b i j x = a % 65536 ^ (i + 1) * b := by
 unfold acc
 rw [FL, hx, Nat.mod_eq_of_lt (Db.1 hj), Nat.add_mul]
 congr 1
 rw [Nat.mul_right_comm, Nat.mul_comm x]
theorem acc_le {a b i j x : Nat} (hx : a / 65536 ^ i % 65536 = x) : acc a b i j x ≤ a % 65536 ^ (i + 1) * b := by
 unfold acc
 rw [FL, hx, Nat.add_mul]
 apply Nat.add_le_add_left
 rw [Nat.mul_right_comm, Nat.mul_comm x]
 exact Nat.mul_le_mul_left _ (Nat.mod_le _ _)
theorem part_lt {a b i : Nat} (hb : 0 < b) : a % 65536 ^ i * b < 65536 ^ (i + nd b) := by
 rw [Nat.pow_add]
 have h1 : a % 65536 ^ i < 65536 ^ i := Nat.mod_lt _ (Nat.pow_pos (by omega))
 have h2 := Mx b
 exact Nat.lt_of_lt_of_le (Nat.mul_lt_mul_of_pos_right h1 hb) (Nat.mul_le_mul_left _ (Nat.le_of_lt h2))
theorem Qe (a b i : Nat) : a % 65536 ^ i * b < 65536 ^ (i + nd b) := by
 by_cases hb : 0 < b
 ·exact part_lt hb
 ·have : b = 0 := by omega
  subst this
  rw [Nat.mul_zero]
  exact Nat.pow_pos (by omega)
theorem Og {V c a b i j x : Nat} (hx : a / 65536 ^ i % 65536 = x) (h : V + c * 65536 ^ (i + j) = acc a b i j x) (hc : 0 < c) : i + j < i + 1 + nd b := by
 apply Nat.lt_of_not_le
 intro hle
 have h1 := acc_le (b := b) (j := j) hx
 have h2 := Qe a b (i + 1)
 have h3 : 65536 ^ (i + 1 + nd b) ≤ 65536 ^ (i + j) := Nat.pow_le_pow_right (by omega) hle
 have h4 : 1 * 65536 ^ (i + j) ≤ c * 65536 ^ (i + j) := Nat.mul_le_mul_right _ hc
 omega
theorem R4 (a b : Nat) : nd (a * b) ≤ nd a + nd b := by
 rw [Db]
 have := Qe a b (nd a)
 rwa [Nat.mod_eq_of_lt (Mx a)] at this
theorem Uo {a i : Nat} : a / 65536 ^ (i / 16) % 65536 / 2 ^ (i % 16) % 2 = a / 2 ^ i % 2 := by
 have e : 2 ^ i = 65536 ^ (i / 16) * 2 ^ (i % 16) := by rw [OC, ← Nat.pow_add]; congr 1; omega
 rw [e, ← Nat.div_div_eq_div_mul]
 generalize a / 65536 ^ (i / 16) = q
 have h : i % 16 < 16 := Nat.mod_lt _ (by omega)
 generalize i % 16 = s at *
 obtain ⟨d, hd⟩ : ∃ d, 16 = s + (1 + d) := ⟨15 - s, by omega⟩
 have e2 : 65536 = 2 ^ s * (2 * 2 ^ d) := by
  rw [show (65536 : Nat) = 2 ^ 16 by decide, hd, Nat.pow_add, Nat.pow_add]
 rw [e2, Nat.mod_mul_right_div_self, Nat.mod_mul_right_mod]
theorem Wy {a b i q r : Nat} (hq : a / 2 ^ (i + 1) / b = q) (hr : a / 2 ^ (i + 1) % b = r) (hb : 0 < b) (t : Nat) (ht : a / 2 ^ i % 2 = t) :
  (r + r + t < b → a / 2 ^ i / b = q + q ∧ a / 2 ^ i % b = r + r + t) ∧ (b ≤ r + r + t → a / 2 ^ i / b = q + q + 1 ∧ a / 2 ^ i % b = r + r + t - b) := by
 have e : a / 2 ^ i = 2 * (a / 2 ^ (i + 1)) + t := by
  rw [Nat.pow_succ, ← Nat.div_div_eq_div_mul]; omega
 have e2 := Nat.div_add_mod (a / 2 ^ (i + 1)) b
 have lr := Nat.mod_lt (a / 2 ^ (i + 1)) hb
 rw [hq, hr] at e2
 rw [hr] at lr
 generalize a / 2 ^ (i + 1) = A at *
 have e3 : a / 2 ^ i = b * (q + q) + (r + r + t) := by rw [Nat.mul_add]; omega
 rw [e3]
 constructor
 ·intro h
  rw [Nat.mul_add_div hb, Nat.div_eq_of_lt h, Nat.mul_add_mod, Nat.mod_eq_of_lt h]
  omega
 ·intro h
  have e4 : b * (q + q) + (r + r + t) = b * (q + q + 1) + (r + r + t - b) := by rw [Nat.mul_add b (q + q) 1]; omega
  have h2 : r + r + t - b < b := by omega
  rw [e4, Nat.mul_add_div hb, Nat.div_eq_of_lt h2, Nat.mul_add_mod, Nat.mod_eq_of_lt h2]
  omega
end Go.Pm
namespace Go.Proofs
open Go Go.Pe Go.Pm
set_option maxRecDepth 100000
set_option linter.unusedVariables false
def LB (na nb : Bool) (a b m : Nat) (l : List Int) (i : Nat) : DS := ⟨[(0, bv na a), (1, bv nb b), (5, .ref 1 [] 1 0 m), (6, .int .i64 i)], [(1, K5 m l)]⟩
def OL (na nb : Bool) (a b m : Nat) (l : List Int) (i c j : Nat) : DS := ⟨[(0, bv na a), (1, bv nb b), (5, .ref 1 [] 1 0 m), (6, .int .i64 i), (7, .int .i64 c), (8, .int .i64 j)], [(1, K5 m l)]⟩
theorem Sv {na nb : Bool} {a b m i x : Nat} {res : PV} (ha : nd a ≤ 100000) (hb : nd b ≤ 100000) (hm : m = nd a + nd b + 1) (hi : i < nd a) (hx : a / 65536 ^ i % 65536 = x)
  (hnext : ∀ l, l = dgn m (a % 65536 ^ (i + 1) * b) → Wt Tryz.f113 [] [] res (Af Tryz.f113 0) (LB na nb a b m l (i + 1))) :
  ∀ (k j c V : Nat) (l : List Int), j + k = nd b + 1 → c ≤ 65535 → V + c * 65536 ^ (i + j) = acc a b i j x → l = dgn m V →
  Wt Tryz.f113 [] [] res (Af Tryz.f113 1) (OL na nb a b m l i c j)
 | 0, j, c, V, l, hk, hc, hV, hl => by
  have c0 : c = 0 := by
   apply Nat.eq_zero_of_not_pos
   intro hp
   have := Og hx hV hp
   omega
  subst c0
  have hll : l.length = m := by rw [hl, AP]
  refine W.sgA 0 [(3, aF), (5, aV (I6 0)), (9, aV (I6 ↑(i + 1)))] (rI 1) (LB na nb a b m l (i + 1)) [decide ((j:Int) < (↑(nd b) : Int)) = false, I6 ↑(0 : Nat) = I6 0, I6 (IntKind.wrap .i64 ((i:Int) + 1)) = I6 ↑(i + 1)] (ac (dF (by omega)) (ac (cg (by omega)) (ao (wj (by omega))))) ?_
  refine hnext l ?_
  rw [hl, ← Ti (b := b) (j := j) (by omega) hx, ← hV, Nat.zero_mul, Nat.add_zero]
 | k + 1, j, c, V, l, hk, hc, hV, hl => by
  have hll : l.length = m := by rw [hl, AP]
  have gx := Ck a i
  have gy := Ck b j
  have lx : x < 65536 := by rw [← hx]; exact Nat.mod_lt _ (by omega)
  have ly : b / 65536 ^ j % 65536 < 65536 := Nat.mod_lt _ (by omega)
  have zy : nd b ≤ j → b / 65536 ^ j % 65536 = 0 := fun hz => by rw [Cz hz]
  have hcar := fun hp => Og hx hV hp
  have hend := fun hz => Ti (b := b) (j := j) hz hx
  rw [hx] at gx
  have hnx := fun y hy => X6 (a := a) (b := b) (i := i) (j := j) (x := x) (y := y) hy
  have hnx := hnx _ rfl
  generalize b / 65536 ^ j % 65536 = y at *
  have hxy : x * y ≤ 65535 * 65535 := Nat.mul_le_mul (by omega) (by omega)
  by_cases hij : i + j < m
  ·have hg := Gn (v := V) hij
   have hd : V / 65536 ^ (i + j) % 65536 < 65536 := Nat.mod_lt _ (by omega)
   rw [← hl] at hg
   generalize hdd : V / 65536 ^ (i + j) % 65536 = d at *
   obtain ⟨e1, e2⟩ := XG (x := x) (y := y) hV d hdd rfl
   have hset := Lp (n := m) (i := i + j) (lo := V % 65536 ^ (i + j)) (d := d) (hi := V / 65536 ^ (i + j + 1)) (x := (d + c + x * y) % 65536) hij (Nat.mod_lt _ (Nat.pow_pos (by omega))) hd (Nat.mod_lt _ (by omega))
   rw [← e1, ← hl] at hset
   rw [hnx] at e2
   by_cases hb : j < nd b
   ·refine W.sg 1 [(3, aT), (11, aV (I6 (↑(i + j) : Int))), (12, aV (PV.at 1 [Stp.idx (i + j) 1])), (13, aV (I6 (d:Int))), (15, aV (I6 (↑(d + c) : Int))), (20, aT), (25, aV (I6 (x:Int))), (29, aV (I6 (y:Int))), (30, aV (I6 (↑(x * y) : Int))), (31, aV (I6 (↑(d + c + x * y) : Int))), (36, aV (I6 (↑(i + j) : Int))), (38, aV (I6 (↑((d + c + x * y) % 65536) : Int))), (39, aV (PV.at 1 [Stp.idx (i + j) 1])), (42, aV (I6 (↑((d + c + x * y) / 65536) : Int))), (45, aV (I6 (↑(j + 1) : Int)))] (rI 1) (OL na nb a b m (l.set (i + j) (((d + c + x * y) % 65536 : Nat) : Int)) i ((d + c + x * y) / 65536) (j + 1)) [decide ((j:Int) < (↑(nd b) : Int)) = true, I6 (IntKind.wrap .i64 ((i:Int) + (j:Int))) = I6 (↑(i + j) : Int), PV.at 1 [Stp.idx (0 + Int.toNat (↑(i + j) : Int)) 1] = PV.at 1 [Stp.idx (i + j) 1], 0 ≤ (↑(i + j) : Int), (↑(i + j) : Int) < (m:Int), I6 (List.getD l (i + j) (0 : Int)) = I6 (d:Int), i + j < m, I6 (IntKind.wrap .i64 ((d:Int) + (c:Int))) = I6 (↑(d + c) : Int), decide ((j:Int) < (↑(nd b) : Int)) = true, 0 ≤ (i:Int), (i:Int) < (↑(nd a) : Int), I6 (List.getD (dg a) i (0 : Int)) = I6 (x:Int), i < nd a, 0 ≤ (j:Int), (j:Int) < (↑(nd b) : Int), I6 (List.getD (dg b) j (0 : Int)) = I6 (y:Int), j < nd b, I6 (IntKind.wrap .i64 ((x:Int) * (y:Int))) = I6 (↑(x * y) : Int), I6 (IntKind.wrap .i64 ((↑(d + c) : Int) + (↑(x * y) : Int))) = I6 (↑(d + c + x * y) : Int), I6 (IntKind.wrap .i64 ((i:Int) + (j:Int))) = I6 (↑(i + j) : Int), I6 (Int.tmod (↑(d + c + x * y) : Int) (65536 : Int)) = I6 (↑((d + c + x * y) % 65536) : Int), (65536 : Int) ≠ (0 : Int), PV.at 1 [Stp.idx (0 + Int.toNat (↑(i + j) : Int)) 1] = PV.at 1 [Stp.idx (i + j) 1], 0 ≤ (↑(i + j) : Int), (↑(i + j) : Int) < (m:Int), i + j < m, I6 (IntKind.wrap .i64 (Int.tdiv (↑(d + c + x * y) : Int) (65536 : Int))) = I6 (↑((d + c + x * y) / 65536) : Int), (65536 : Int) ≠ (0 : Int), I6 (IntKind.wrap .i64 ((j:Int) + 1)) = I6 (↑(j + 1) : Int)] (by kernel_rfl) (ac (dT (by omega)) (ac (cg (Ac rfl (by omega) (by omega))) (ac (by (rw [show Int.toNat (↑(i + j) : Int) = i + j by omega]; simp only [Nat.zero_add])) (ac (by omega) (ac (by omega) (ac (cg (hg)) (ac (by omega) (ac (cg (Ac rfl (by omega) (by omega))) (ac (dT (by omega)) (ac (by omega) (ac (by omega) (ac (cg (gx)) (ac (by omega) (ac (by omega) (ac (by omega) (ac (cg (gy)) (ac (by omega) (ac (cg (Ac rfl (by omega) (by omega))) (ac (cg (Ac rfl (by omega) (by omega))) (ac (cg (Ac rfl (by omega) (by omega))) (ac (cg rfl) (ac (by omega) (ac (by (rw [show Int.toNat (↑(i + j) : Int) = i + j by omega]; simp only [Nat.zero_add])) (ac (by omega) (ac (by omega) (ac (by omega) (ac (cg (Ac rfl (by omega) (by omega))) (ac (by omega) (ao (cg (Ac rfl (by omega) (by omega)))))))))))))))))))))))))))))))) ?_
    exact Sv ha (by assumption) hm hi hx hnext k (j + 1) _ _ _ (by omega) (by omega) (by rw [← e2, ← Nat.add_assoc i j 1]) hset
   ·have := zy (by omega)
    subst this
    rw [Nat.mul_zero, Nat.add_zero] at hset e2
    by_cases c0 : c = 0
    ·subst c0
     refine W.sgA 0 [(3, aF), (5, aV (I6 0)), (9, aV (I6 ↑(i + 1)))] (rI 1) (LB na nb a b m l (i + 1)) [decide ((j:Int) < (↑(nd b) : Int)) = false, I6 ↑(0 : Nat) = I6 0, I6 (IntKind.wrap .i64 ((i:Int) + 1)) = I6 ↑(i + 1)] (ac (dF (by omega)) (ac (cg (by omega)) (ao (wj (by omega))))) ?_
     refine hnext l ?_
     rw [hl, ← hend (by omega), ← hV, Nat.zero_mul, Nat.add_zero]
    ·refine W.sg 1 [(3, aF), (6, aT), (11, aV (I6 (↑(i + j) : Int))), (12, aV (PV.at 1 [Stp.idx (i + j) 1])), (13, aV (I6 (d:Int))), (15, aV (I6 (↑(d + c) : Int))), (20, aF), (24, aV (I6 (↑(i + j) : Int))), (26, aV (I6 (↑((d + c) % 65536) : Int))), (27, aV (PV.at 1 [Stp.idx (i + j) 1])), (30, aV (I6 (↑((d + c) / 65536) : Int))), (33, aV (I6 (↑(j + 1) : Int)))] (rI 1) (OL na nb a b m (l.set (i + j) (((d + c) % 65536 : Nat) : Int)) i ((d + c) / 65536) (j + 1)) [decide ((j:Int) < (↑(nd b) : Int)) = false, decide ((c:Int) > 0) = true, I6 (IntKind.wrap .i64 ((i:Int) + (j:Int))) = I6 (↑(i + j) : Int), PV.at 1 [Stp.idx (0 + Int.toNat (↑(i + j) : Int)) 1] = PV.at 1 [Stp.idx (i + j) 1], 0 ≤ (↑(i + j) : Int), (↑(i + j) : Int) < (m:Int), I6 (List.getD l (i + j) (0 : Int)) = I6 (d:Int), i + j < m, I6 (IntKind.wrap .i64 ((d:Int) + (c:Int))) = I6 (↑(d + c) : Int), decide ((j:Int) < (↑(nd b) : Int)) = false, I6 (IntKind.wrap .i64 ((i:Int) + (j:Int))) = I6 (↑(i + j) : Int), I6 (Int.tmod (↑(d + c) : Int) (65536 : Int)) = I6 (↑((d + c) % 65536) : Int), (65536 : Int) ≠ (0 : Int), PV.at 1 [Stp.idx (0 + Int.toNat (↑(i + j) : Int)) 1] = PV.at 1 [Stp.idx (i + j) 1], 0 ≤ (↑(i + j) : Int), (↑(i + j) : Int) < (m:Int), i + j < m, I6 (IntKind.wrap .i64 (Int.tdiv (↑(d + c) : Int) (65536 : Int))) = I6 (↑((d + c) / 65536) : Int), (65536 : Int) ≠ (0 : Int), I6 (IntKind.wrap .i64 ((j:Int) + 1)) = I6 (↑(j + 1) : Int)] (by kernel_rfl) (ac (dF (by omega)) (ac (dT (by omega)) (ac (cg (Ac rfl (by omega) (by omega))) (ac (by (rw [show Int.toNat (↑(i + j) : Int) = i + j by omega]; simp only [Nat.zero_add])) (ac (by omega) (ac (by omega) (ac (cg (hg)) (ac (by omega) (ac (cg (Ac rfl (by omega) (by omega))) (ac (dF (by omega)) (ac (cg (Ac rfl (by omega) (by omega))) (ac (cg rfl) (ac (by omega) (ac (by (rw [show Int.toNat (↑(i + j) : Int) = i + j by omega]; simp only [Nat.zero_add])) (ac (by omega) (ac (by omega) (ac (by omega) (ac (cg (Ac rfl (by omega) (by omega))) (ac (by omega) (ao (cg (Ac rfl (by omega) (by omega))))))))))))))))))))))) ?_
     exact Sv ha (by assumption) hm hi hx hnext k (j + 1) _ _ _ (by omega) (by omega) (by rw [← e2, ← Nat.add_assoc i j 1]) hset
  ·omega
theorem XY {na nb : Bool} {a b m : Nat} (ha : nd a ≤ 100000) (hb : nd b ≤ 100000) (hm : m = nd a + nd b + 1) : ∀ (k i : Nat) (l : List Int), i + k = nd a → l = dgn m (a % 65536 ^ i * b) →
  Wt Tryz.f113 [] [] (bv false (a * b)) (Af Tryz.f113 0) (LB na nb a b m l i)
 | 0, i, l, hk, hl => by
  have hll : l.length = m := by rw [hl, AP]
  rw [Nat.mod_eq_of_lt (Db.1 (by omega))] at hl
  have ht := EC (nl := false) (m := m) (v := a * b) (by omega) (Db.1 (by have := R4 a b; omega))
  rw [← hl] at ht
  refine W.rtA [(3, aF), (5, cL false [] ht)] [] [decide ((i:Int) < (↑(nd a) : Int)) = false, 0 + m ≤ m, rr ([] : List (Nat × Row)), ([PV.vec false (BI m (List.take m l))] : List PV) = [PV.vec false (BI m l)], _] (ac (dF (by omega)) (ac (by omega) (ac rfl (ac (by rw [List.take_of_length_le (show List.length l ≤ m by omega)]) (ao (ht))))))
 | k + 1, i, l, hk, hl => by
  have hll : l.length = m := by rw [hl, AP]
  refine W.sgA 1 [(3, aT)] (rI 1) (OL na nb a b m l i 0 0) [decide ((i:Int) < (↑(nd a) : Int)) = true] (ao (dT (by omega))) ?_
  refine Sv ha hb hm (by omega) rfl ?_ (nd b + 1) 0 0 (a % 65536 ^ i * b) l (by omega) (by omega) ?_ hl
  ·intro l hl
   exact XY ha hb hm k (i + 1) l (by omega) hl
  ·unfold acc
   rw [Nat.pow_zero, Nat.mod_one, Nat.mul_zero, Nat.zero_mul, Nat.zero_mul]
theorem O4 {na nb : Bool} {a b : Nat} (ha : nd a ≤ 100000) (hb : nd b ≤ 100000) : Pt 113 [] [bv na a, bv nb b] [] (bv false (a * b)) := by
 refine pO Tryz.func113 (by kernel_rfl) ?_
 generalize hm : nd a + nd b + 1 = m
 have hm' : ((nd a + nd b + 1 : Nat) : Int) = (m : Int) := by omega
 refine W.sgA 0 [(5, aV (I6 ↑(nd a + nd b))), (6, aV (I6 m))] [(176, 1)] (LB na nb a b m (List.replicate m 0) 0) [I6 (IntKind.wrap .i64 ((↑(nd a) : Int) + (↑(nd b) : Int))) = I6 ↑(nd a + nd b), I6 (IntKind.wrap .i64 ((↑(nd a + nd b) : Int) + 1)) = I6 m, 0 ≤ (m:Int), (m:Int) ≤ (m:Int), (m:Int) ≤ 9223372036854775807, (↑(8 : Nat) : Int) * (m:Int) ≤ 140737488355328] (ac (wj (by omega)) (ac (cg (Ac hm' (by omega) (by omega))) (ob3 (by omega) (ao (by omega))))) ?_
 exact XY ha hb hm.symm (nd a) 0 _ (by omega) (by rw [Nat.pow_zero, Nat.mod_one, Nat.zero_mul, Ji])
end Go.Proofs
namespace Go.Proofs
open Go Go.Pe Go.Pm
set_option maxRecDepth 100000
set_option linter.unusedVariables false
def IQ (na nb : Bool) (a b : Nat) (nr : Bool) (q r : Nat) (i : Int) : DS := ⟨[(0, bv na a), (1, bv nb b), (6, bv (decide (q = 0)) q), (7, bv nr r), (8, .int .i64 i)], []⟩
def R9 (na nb : Bool) (a b : Nat) (nr : Bool) (q r : Nat) (i bit k : Nat) : DS := ⟨[(0, bv na a), (1, bv nb b), (6, bv (decide (q = 0)) q), (7, bv nr r), (8, .int .i64 i), (9, .int .i64 bit), (10, .int .i64 k)], []⟩
theorem PG {na : Bool} {a : Nat} (ha : nd a ≤ 100000) : Pt 41 [] [bv na a, .vec false (.iarr .i64 1 [1])] [] (bv false (a + 1)) := by
 have h := Ll (na := na) (nb := false) (a := a) (b := 1) ha (by decide)
 have e : bv false 1 = .vec false (.iarr .i64 1 [1]) := by rfl
 rw [e, decide_eq_false (by omega : ¬ a + 1 = 0)] at h
 exact h
theorem Ch {a b n : Nat} (h : a ≤ b) (hb : nd b ≤ n) : nd a ≤ n := Db.2 (Nat.lt_of_le_of_lt h (Db.1 hb))
theorem XM {na nb : Bool} {a b i : Nat} {nr : Bool} {q r : Nat} {res : PV} (ha : nd a ≤ 1000) (hb : nd b ≤ 1000) (hq : nd q ≤ 1000) (hr : r < b) (hi : i < 16 * nd a) (x : Nat) (hx : x < 65536) (t : Nat) (ht : x / 2 ^ (i % 16) % 2 = t)
  (h1 : r + r + t < b → ∀ nr', nr' = decide (r + r + t = 0) → Wt Tryz.f68 [] [] res (Af Tryz.f68 0) (IQ na nb a b nr' (q + q) (r + r + t) ((i : Int) - 1)))
  (h2 : b ≤ r + r + t → ∀ nr', nr' = decide (r + r + t = 0) → Wt Tryz.f68 [] [] res (Af Tryz.f68 0) (IQ na nb a b nr' (q + q + 1) (r + r + t - b) ((i : Int) - 1))) :
  ∀ (j k bit : Nat), k + j = i % 16 → bit = x / 2 ^ k →
  Wt Tryz.f68 [] [] res (Af Tryz.f68 1) (R9 na nb a b nr q r i bit k)
 | 0, k, bit, hk, hbit => by
  have hk' : k = i % 16 := by omega
  have hbt : bit % 2 = t := by rw [hbit, hk', ht]
  have hlb : bit < 65536 := by rw [hbit]; exact Nat.lt_of_le_of_lt (Nat.div_le_self _ _) hx
  have nrr : nd r ≤ 1000 := Ch (Nat.le_of_lt hr) hb
  have nrr2 : nd (r + r) ≤ 1001 := by have := LJ r r; omega
  have nrr3 : nd (r + r + 1) ≤ 1002 := by have := LJ (r + r) 1; have : nd 1 = 1 := rfl; omega
  have nqq : nd (q + q) ≤ 1001 := by have := LJ q q; omega
  have d1 := Ll (na := nr) (nb := nr) (a := r) (b := r) (by omega) (by omega)
  have d2 := Ll (na := decide (q = 0)) (nb := decide (q = 0)) (a := q) (b := q) (by omega) (by omega)
  have d3 := PG (na := decide (r + r = 0)) (a := r + r) (by omega)
  have d4 := PG (na := decide (q + q = 0)) (a := q + q) (by omega)
  by_cases h0 : bit % 2 = 1
  ·have ht1 : t = 1 := by omega
   subst ht1
   by_cases hlt : r + r + 1 < b
   ·have d5 := Cq (na := false) (nb := nb) (a := r + r + 1) (b := b) (by omega) (by omega)
    rw [decide_eq_true hlt] at d5
    refine W.sgA 0 [(2, aV (I6 ↑(i % 16))), (3, aF), (6, c0 d1), (9, aV (I6 ↑(bit % 2))), (10, aT), (13, c0 d3), (17, c0 d2), (21, c9 d5), (24, aV (I6 ((i:Int) - 1)))] [] (IQ na nb a b false (q + q) (r + r + 1) ((i : Int) - 1)) [I6 (Int.tmod (i:Int) (16 : Int)) = I6 ↑(i % 16), (16 : Int) ≠ 0, decide ((k:Int) < (↑(i % 16) : Int)) = false, _, I6 (Int.tmod (bit:Int) (2 : Int)) = I6 ↑(bit % 2), (2 : Int) ≠ 0, ((↑(bit % 2) : Int) == 1) = true, 1 ≤ 1, _, _, _, I6 (IntKind.wrap .i64 ((i:Int) - 1)) = I6 ((i:Int) - 1)] (ac (cg rfl) (ac (by omega) (ac (dF (by omega)) (ac (d1) (ac (cg rfl) (ac (by omega) (ac (dT (by omega)) (ac (by omega) (ac (d3) (ac (d2) (ac (d5) (ao (wj (by omega)))))))))))))) ?_
    exact h1 hlt false (decide_eq_false (by omega)).symm
   ·have d5 := Cq (na := false) (nb := nb) (a := r + r + 1) (b := b) (by omega) (by omega)
    rw [decide_eq_false hlt] at d5
    have d6 := TL (na := false) (nb := nb) (a := r + r + 1) (b := b) (by omega) (by omega) (by omega)
    rw [decide_eq_false (by omega : ¬ r + r + 1 = 0)] at d6
    have hf : decide (q + q + 1 = 0) = false := decide_eq_false (by omega)
    have h2' := h2 (by omega) false (decide_eq_false (by omega)).symm
    unfold IQ at h2'
    rw [hf] at h2'
    refine W.sgA 0 [(2, aV (I6 ↑(i % 16))), (3, aF), (6, c0 d1), (9, aV (I6 ↑(bit % 2))), (10, aT), (13, c0 d3), (17, c0 d2), (21, c9 d5), (25, c0 d6), (29, c0 d4), (32, aV (I6 ((i:Int) - 1)))] [] (⟨[(0, bv na a), (1, bv nb b), (6, bv false (q + q + 1)), (7, bv false (r + r + 1 - b)), (8, .int .i64 ((i : Int) - 1))], []⟩) [I6 (Int.tmod (i:Int) (16 : Int)) = I6 ↑(i % 16), (16 : Int) ≠ 0, decide ((k:Int) < (↑(i % 16) : Int)) = false, _, I6 (Int.tmod (bit:Int) (2 : Int)) = I6 ↑(bit % 2), (2 : Int) ≠ 0, ((↑(bit % 2) : Int) == 1) = true, 1 ≤ 1, _, _, _, _, 1 ≤ 1, _, I6 (IntKind.wrap .i64 ((i:Int) - 1)) = I6 ((i:Int) - 1)] (ac (cg rfl) (ac (by omega) (ac (dF (by omega)) (ac (d1) (ac (cg rfl) (ac (by omega) (ac (dT (by omega)) (ac (by omega) (ac (d3) (ac (d2) (ac (d5) (ac (d6) (ac (by omega) (ac (d4) (ao (wj (by omega))))))))))))))))) ?_
    exact h2'
  ·have ht0 : t = 0 := by omega
   subst ht0
   rw [Nat.add_zero] at h1 h2
   by_cases hlt : r + r < b
   ·have d5 := Cq (na := decide (r + r = 0)) (nb := nb) (a := r + r) (b := b) (by omega) (by omega)
    rw [decide_eq_true hlt] at d5
    refine W.sgA 0 [(2, aV (I6 ↑(i % 16))), (3, aF), (6, c0 d1), (9, aV (I6 ↑(bit % 2))), (10, aF), (13, c0 d2), (17, c9 d5), (20, aV (I6 ((i:Int) - 1)))] [] (IQ na nb a b (decide (r + r = 0)) (q + q) (r + r) ((i : Int) - 1)) [I6 (Int.tmod (i:Int) (16 : Int)) = I6 ↑(i % 16), (16 : Int) ≠ 0, decide ((k:Int) < (↑(i % 16) : Int)) = false, _, I6 (Int.tmod (bit:Int) (2 : Int)) = I6 ↑(bit % 2), (2 : Int) ≠ 0, ((↑(bit % 2) : Int) == 1) = false, _, _, I6 (IntKind.wrap .i64 ((i:Int) - 1)) = I6 ((i:Int) - 1)] (ac (cg rfl) (ac (by omega) (ac (dF (by omega)) (ac (d1) (ac (cg rfl) (ac (by omega) (ac (dF (by omega)) (ac (d2) (ac (d5) (ao (wj (by omega)))))))))))) ?_
    exact h1 hlt _ rfl
   ·have d5 := Cq (na := decide (r + r = 0)) (nb := nb) (a := r + r) (b := b) (by omega) (by omega)
    rw [decide_eq_false hlt] at d5
    have d6 := TL (na := decide (r + r = 0)) (nb := nb) (a := r + r) (b := b) (by omega) (by omega) (by omega)
    have hf : decide (q + q + 1 = 0) = false := decide_eq_false (by omega)
    have h2' := h2 (by omega) (decide (r + r = 0)) rfl
    unfold IQ at h2'
    rw [hf] at h2'
    refine W.sgA 0 [(2, aV (I6 ↑(i % 16))), (3, aF), (6, c0 d1), (9, aV (I6 ↑(bit % 2))), (10, aF), (13, c0 d2), (17, c9 d5), (21, c0 d6), (25, c0 d4), (28, aV (I6 ((i:Int) - 1)))] [] (⟨[(0, bv na a), (1, bv nb b), (6, bv false (q + q + 1)), (7, bv (decide (r + r = 0)) (r + r - b)), (8, .int .i64 ((i : Int) - 1))], []⟩) [I6 (Int.tmod (i:Int) (16 : Int)) = I6 ↑(i % 16), (16 : Int) ≠ 0, decide ((k:Int) < (↑(i % 16) : Int)) = false, _, I6 (Int.tmod (bit:Int) (2 : Int)) = I6 ↑(bit % 2), (2 : Int) ≠ 0, ((↑(bit % 2) : Int) == 1) = false, _, _, _, 1 ≤ 1, _, I6 (IntKind.wrap .i64 ((i:Int) - 1)) = I6 ((i:Int) - 1)] (ac (cg rfl) (ac (by omega) (ac (dF (by omega)) (ac (d1) (ac (cg rfl) (ac (by omega) (ac (dF (by omega)) (ac (d2) (ac (d5) (ac (d6) (ac (by omega) (ac (d4) (ao (wj (by omega))))))))))))))) ?_
    exact h2'
 | j + 1, k, bit, hk, hbit => by
  have hlb : bit < 65536 := by rw [hbit]; exact Nat.lt_of_le_of_lt (Nat.div_le_self _ _) hx
  refine W.sgA 1 [(2, aV (I6 ↑(i % 16))), (3, aT), (5, aV (I6 ↑(bit / 2))), (8, aV (I6 ↑(k + 1)))] [] (R9 na nb a b nr q r i (bit / 2) (k + 1)) [I6 (Int.tmod (i:Int) (16 : Int)) = I6 ↑(i % 16), (16 : Int) ≠ 0, decide ((k:Int) < (↑(i % 16) : Int)) = true, I6 (IntKind.wrap .i64 (Int.tdiv (bit:Int) (2 : Int))) = I6 ↑(bit / 2), (2 : Int) ≠ 0, I6 (IntKind.wrap .i64 ((k:Int) + 1)) = I6 ↑(k + 1)] (ac (cg rfl) (ac (by omega) (ac (dT (by omega)) (ac (wj (by omega)) (ac (by omega) (ao (wj (by omega)))))))) ?_
  exact XM ha hb hq hr hi x hx t ht h1 h2 j (k + 1) _ (by omega) (by rw [hbit, Nat.pow_succ, Nat.div_div_eq_div_mul])
def qf (a b i : Nat) : Bool := decide (a / 2 ^ (i + 1) % b + a / 2 ^ (i + 1) % b + a / 2 ^ i % 2 = 0)
theorem SX {na nb : Bool} {a b : Nat} (ha : nd a ≤ 1000) (hb : nd b ≤ 1000) (hb0 : 0 < b) : ∀ (i q r : Nat) (nr : Bool), i ≤ 16 * nd a → a / 2 ^ i / b = q → a / 2 ^ i % b = r → nr = qf a b i →
  Wt Tryz.f68 [] [] (.tup [bv (decide (a / b = 0)) (a / b), bv (qf a b 0) (a % b)]) (Af Tryz.f68 0) (IQ na nb a b nr q r ((i : Int) - 1))
 | 0, q, r, nr, hi, hq, hr, hnr => by
  rw [Nat.pow_zero, Nat.div_one] at hq hr
  rw [hq, hr, ← hnr]
  refine W.rtA [(0, aV (I6 (-1)))] [] [I6 ((↑(0 : Nat) : Int) - 1) = I6 (-1)] (ao (cg (by omega)))
 | i + 1, q, r, nr, hi, hq, hr, hnr => by
  have hg := Ck a (i / 16)
  have hx : a / 65536 ^ (i / 16) % 65536 < 65536 := Nat.mod_lt _ (by omega)
  have ht : a / 65536 ^ (i / 16) % 65536 / 2 ^ (i % 16) % 2 = a / 2 ^ i % 2 := Uo
  have hrb : r < b := by rw [← hr]; exact Nat.mod_lt _ hb0
  have hqa : q ≤ a := by rw [← hq]; exact Nat.le_trans (Nat.div_le_self _ _) (Nat.div_le_self _ _)
  obtain ⟨g1, g2⟩ := Wy hq hr hb0 _ rfl
  have hf : qf a b i = decide (r + r + a / 2 ^ i % 2 = 0) := by unfold qf; rw [hr]
  generalize a / 65536 ^ (i / 16) % 65536 = x at *
  refine W.seg [(0, aV (I6 i)), (3, aV (I6 i)), (4, aV (I6 ↑(i / 16))), (5, aV (PV.cptr (BI (nd a) (dg a)) [Stp.idx (i / 16) 1])), (6, aV (I6 x))] [] (R9 na nb a b nr q r i x 0) (todo' := Af Tryz.f68 1) [I6 ((↑(i + 1) : Int) - 1) = I6 i, I6 ((↑(i + 1) : Int) - 1) = I6 i, I6 (IntKind.wrap .i64 (Int.tdiv (i:Int) (16 : Int))) = I6 ↑(i / 16), (16 : Int) ≠ 0, PV.cptr (BI (nd a) (dg a)) [Stp.idx (Int.toNat (↑(i / 16) : Int)) 1] = PV.cptr (BI (nd a) (dg a)) [Stp.idx (i / 16) 1], 0 ≤ (↑(i / 16) : Int), (↑(i / 16) : Int) < (↑(nd a) : Int), I6 (List.getD (dg a) (i / 16) (0 : Int)) = I6 x, i / 16 < nd a, rr (PV.vec na (BI (nd a) (dg a))), rr (PV.vec nb (BI (nd b) (dg b))), rr (PV.vec (decide (q = 0)) (BI (nd q) (dg q))), rr (PV.vec nr (BI (nd r) (dg r))), I6 ((↑(i + 1) : Int) - 1) = I6 i, rr (I6 x), I6 0 = I6 ↑(0 : Nat)] (by kernel_rfl) (ac (cg (by omega)) (ac (cg (by omega)) (ac (wj (by omega)) (ac (by omega) (ac (by rw [show Int.toNat (↑(i / 16) : Int) = i / 16 by omega]) (ob2 (by omega) (ac (cg (hg)) (ac (by omega) (ac rfl (ac rfl (ac rfl (ac rfl (ac (cg (by omega)) (ac rfl (ao (cg (by omega))))))))))))))))) ?_
  refine XM ha (by assumption) (Ch hqa ha) hrb (by omega) x hx _ ht ?_ ?_ (i % 16) 0 x (by omega) (by simp)
  ·intro h nr' hn
   obtain ⟨e1, e2⟩ := g1 h
   exact SX ha (by assumption) hb0 i _ _ _ (by omega) e1 e2 (by rw [hf, hn])
  ·intro h nr' hn
   obtain ⟨e1, e2⟩ := g2 h
   exact SX ha (by assumption) hb0 i _ _ _ (by omega) e1 e2 (by rw [hf, hn])
theorem Ug {na nb : Bool} {a b : Nat} (ha : nd a ≤ 1000) (hb : nd b ≤ 1000) (hb0 : 0 < b) : Pt 68 [] [bv na a, bv nb b] [] (.tup [bv (decide (a / b = 0)) (a / b), bv (qf a b 0) (a % b)]) := by
 refine pO Tryz.func68 (by kernel_rfl) ?_
 have e0 : a / 2 ^ (16 * nd a) = 0 := by rw [← OC]; exact Cz (Nat.le_refl _)
 have e1 : a / 2 ^ (16 * nd a + 1) = 0 := by rw [Nat.pow_succ, ← Nat.div_div_eq_div_mul, e0, Nat.zero_div]
 have hz := SX (na := na) (nb := nb) ha hb hb0 (16 * nd a) 0 0 true (Nat.le_refl _) (by rw [e0, Nat.zero_div]) (by rw [e0, Nat.zero_mod]) (by unfold qf; rw [e0, e1]; simp)
 refine W.seg [(6, aV (I6 ↑(16 * nd a))), (7, aV (I6 (16 * (↑(nd a) : Int) - 1)))] [] (⟨[(0, bv na a), (1, bv nb b), (6, .vec true (.iarr .i64 0 [])), (7, .vec true (.iarr .i64 0 [])), (8, .int .i64 (((16 * nd a : Nat) : Int) - 1))], []⟩) (todo' := Af Tryz.f68 0) [I6 (IntKind.wrap .i64 (16 * (↑(nd a) : Int))) = I6 ↑(16 * nd a), I6 (IntKind.wrap .i64 ((↑(16 * nd a) : Int) - 1)) = I6 (16 * (↑(nd a) : Int) - 1), rr (PV.vec na (BI (nd a) (dg a))), rr (PV.vec nb (BI (nd b) (dg b))), rr (PV.vec true (BI 0 [])), rr (PV.vec true (BI 0 [])), I6 (16 * (↑(nd a) : Int) - 1) = I6 ((↑(16 * nd a) : Int) - 1)] (by kernel_rfl) (ac (wj (by omega)) (ac (wj (by omega)) (ac rfl (ac rfl (ac rfl (ac rfl (ao (cg (by omega))))))))) ?_
 exact hz
end Go.Proofs
namespace Go.Proofs
open Go Go.Pe Go.Pm
set_option maxRecDepth 100000
theorem DR {x y c : Nat} (hc : c ≤ 1) : Pt 79 [] [.int .u64 x, .int .u64 y, .int .u64 c] [] (.tup [.int .u64 (((x + y + c) % 18446744073709551616 : Nat) : Int), .int .u64 (((x + y + c) / 18446744073709551616 : Nat) : Int)]) := by
 refine PC.extern (fn := Tryz.f79) (e := add64Entry) Tryz.func79 (by kernel_rfl) (by kernel_rfl) (by kernel_rfl) (by kernel_rfl) ?_
 intro T ρ w vs hs h
 obtain ⟨rfl, h1, h2, h3⟩ := args3 hs h
 have g1 : (x : Int) ≤ 18446744073709551615 := ((Aq _ _).1 h1).2
 have g2 : (y : Int) ≤ 18446744073709551615 := ((Aq _ _).1 h2).2
 refine ⟨_, ?_, Ub (Ah rfl (by omega) (by omega)) (Ah rfl (by omega) (by omega))⟩
 rw [run_add64 x y c (by omega) (by omega) (by omega) (by omega)]
 rfl
theorem Jh {x y c : Nat} (hc : c ≤ 1) : Pt 105 [] [.int .u64 x, .int .u64 y, .int .u64 c] [] (.tup [.int .u64 (((x + 18446744073709551616 - y - c) % 18446744073709551616 : Nat) : Int), .int .u64 ((bor x y c : Nat) : Int)]) := by
 refine PC.extern (fn := Tryz.f105) (e := Kk) Tryz.func105 (by kernel_rfl) (by kernel_rfl) (by kernel_rfl) (by kernel_rfl) ?_
 intro T ρ w vs hs h
 obtain ⟨rfl, h1, h2, h3⟩ := args3 hs h
 exact ⟨_, RQ x y c hc w, Ub (Ah rfl (by omega) (by omega)) (Ah rfl (by omega) (by have := LX x y c; omega))⟩
theorem Dh (x : Nat) (hx : x < 18446744073709551616) : Pt 75 [] [.int .u64 x] [] (.iarr .u64 4 (uw x)) := by
 refine pO Tryz.func75 (by kernel_rfl) ?_
 refine W.ret [] [] [B6 4 [(x:Int), 0, 0, 0] = B6 4 (uw x)] (by kernel_rfl) (ao ?_)
 exact congrArg (PV.iarr .u64 4) (I1 (a := x) (b := 0) (c := 0) (d := 0) (by unfold wu; omega) hx (by omega) (by omega) (by omega))
theorem XN {n : Nat} {l l' : List Int} {b b' : Bool} (h : l = l') (h' : b = b') : PV.tup [.iarr .u64 n l, .bool b] = PV.tup [.iarr .u64 n l', .bool b'] := by subst h; subst h'; rfl
set_option maxHeartbeats 4000000 in
theorem Jy {a b : Nat} (ha : a < Aa) (hb : b < Aa) : Pt 45 [] [.iarr .u64 4 (uw a), .iarr .u64 4 (uw b)] [] (.tup [.iarr .u64 4 (uw ((a + b) % Aa)), .bool (decide (Aa ≤ a + b))]) := by
 refine pO Tryz.func45 (by kernel_rfl) ?_
 obtain ⟨a0, a1, a2, a3, p0, p1, p2, p3, rfl, e⟩ := Cn ha
 obtain ⟨b0, b1, b2, b3, q0, q1, q2, q3, rfl, f⟩ := Cn hb
 rw [e, f]
 clear e f
 refine W.sgA 0 [] [(64, 1), (80, 2), (96, 3)] (DS.mk [(2, PV.at 1 []), (3, PV.at 2 []), (4, PV.at 3 []), (6, U6 0), (8, I6 0)] [(1, Row.mk (B6 4 [(a0:Int), (a1:Int), (a2:Int), (a3:Int)]) false), (2, Row.mk (B6 4 [(b0:Int), (b1:Int), (b2:Int), (b3:Int)]) false), (3, Row.mk (B6 4 [0, 0, 0, 0]) false)]) [] trivial ?_
 refine W.sgA 0 [(11, aK (PV.tup [U6 ↑((a0 + b0 + 0) % 18446744073709551616), U6 ↑((a0 + b0 + 0) / 18446744073709551616)])), (12, aV (PV.tup [U6 ↑((a0 + b0) % 18446744073709551616), U6 ↑((a0 + b0) / 18446744073709551616)])), (18, aV (I6 1))] (rI 3) (DS.mk [(2, PV.at 1 []), (3, PV.at 2 []), (4, PV.at 3 []), (6, U6 ↑((a0 + b0) / 18446744073709551616)), (8, I6 1)] [(1, Row.mk (B6 4 [(↑((a0 + b0) % 18446744073709551616) : Int), (a1:Int), (a2:Int), (a3:Int)]) false), (2, Row.mk (B6 4 [(b0:Int), (b1:Int), (b2:Int), (b3:Int)]) false), (3, Row.mk (B6 4 [0, 0, 0, 0]) false)]) [(0 : Int) ≤ 0, 0 < (↑(4 : Nat) : Int), 0 < 4, (0 : Int) ≤ 0, 0 < (↑(4 : Nat) : Int), 0 < 4, Pt 79 [] [U6 a0, U6 b0, U6 0] [] (PV.tup [U6 ↑((a0 + b0 + 0) % 18446744073709551616), U6 ↑((a0 + b0 + 0) / 18446744073709551616)]), PV.tup [U6 ↑((a0 + b0 + 0) % 18446744073709551616), U6 ↑((a0 + b0 + 0) / 18446744073709551616)] = PV.tup [U6 ↑((a0 + b0) % 18446744073709551616), U6 ↑((a0 + b0) / 18446744073709551616)], (0 : Int) ≤ 0, 0 < (↑(4 : Nat) : Int), 0 < 4, I6 (IntKind.wrap .i64 ((0 : Int) + (1 : Int))) = I6 1] (ob4 (by omega) (ob2 (by omega) (ac (DR (by first | omega | decide)) (ac (by simp only [Nat.add_zero]) (ob3 (by omega) (ao (wj (by omega)))))))) ?_
 refine W.sgA 0 [(11, aK (PV.tup [U6 ↑((a1 + b1 + (a0 + b0) / 18446744073709551616) % 18446744073709551616), U6 ↑((a1 + b1 + (a0 + b0) / 18446744073709551616) / 18446744073709551616)])), (18, aV (I6 2))] (rI 3) (DS.mk [(2, PV.at 1 []), (3, PV.at 2 []), (4, PV.at 3 []), (6, U6 ↑((a1 + b1 + (a0 + b0) / 18446744073709551616) / 18446744073709551616)), (8, I6 2)] [(1, Row.mk (B6 4 [(↑((a0 + b0) % 18446744073709551616) : Int), (↑((a1 + b1 + (a0 + b0) / 18446744073709551616) % 18446744073709551616) : Int), (a2:Int), (a3:Int)]) false), (2, Row.mk (B6 4 [(b0:Int), (b1:Int), (b2:Int), (b3:Int)]) false), (3, Row.mk (B6 4 [0, 0, 0, 0]) false)]) [(0 : Int) ≤ 1, 1 < (↑(4 : Nat) : Int), 1 < 4, (0 : Int) ≤ 1, 1 < (↑(4 : Nat) : Int), 1 < 4, Pt 79 [] [U6 a1, U6 b1, U6 ↑((a0 + b0) / 18446744073709551616)] [] (PV.tup [U6 ↑((a1 + b1 + (a0 + b0) / 18446744073709551616) % 18446744073709551616), U6 ↑((a1 + b1 + (a0 + b0) / 18446744073709551616) / 18446744073709551616)]), (0 : Int) ≤ 1, 1 < (↑(4 : Nat) : Int), 1 < 4, I6 (IntKind.wrap .i64 ((1 : Int) + (1 : Int))) = I6 2] (ob4 (by omega) (ob2 (by omega) (ac (DR (by first | omega | decide)) (ob3 (by omega) (ao (wj (by omega))))))) ?_
 refine W.sgA 0 [(11, aK (PV.tup [U6 ↑((a2 + b2 + (a1 + b1 + (a0 + b0) / 18446744073709551616) / 18446744073709551616) % 18446744073709551616), U6 ↑((a2 + b2 + (a1 + b1 + (a0 + b0) / 18446744073709551616) / 18446744073709551616) / 18446744073709551616)])), (18, aV (I6 3))] (rI 3) (DS.mk [(2, PV.at 1 []), (3, PV.at 2 []), (4, PV.at 3 []), (6, U6 ↑((a2 + b2 + (a1 + b1 + (a0 + b0) / 18446744073709551616) / 18446744073709551616) / 18446744073709551616)), (8, I6 3)] [(1, Row.mk (B6 4 [(↑((a0 + b0) % 18446744073709551616) : Int), (↑((a1 + b1 + (a0 + b0) / 18446744073709551616) % 18446744073709551616) : Int), (↑((a2 + b2 + (a1 + b1 + (a0 + b0) / 18446744073709551616) / 18446744073709551616) % 18446744073709551616) : Int), (a3:Int)]) false), (2, Row.mk (B6 4 [(b0:Int), (b1:Int), (b2:Int), (b3:Int)]) false), (3, Row.mk (B6 4 [0, 0, 0, 0]) false)]) [(0 : Int) ≤ 2, 2 < (↑(4 : Nat) : Int), 2 < 4, (0 : Int) ≤ 2, 2 < (↑(4 : Nat) : Int), 2 < 4, Pt 79 [] [U6 a2, U6 b2, U6 ↑((a1 + b1 + (a0 + b0) / 18446744073709551616) / 18446744073709551616)] [] (PV.tup [U6 ↑((a2 + b2 + (a1 + b1 + (a0 + b0) / 18446744073709551616) / 18446744073709551616) % 18446744073709551616), U6 ↑((a2 + b2 + (a1 + b1 + (a0 + b0) / 18446744073709551616) / 18446744073709551616) / 18446744073709551616)]), (0 : Int) ≤ 2, 2 < (↑(4 : Nat) : Int), 2 < 4, I6 (IntKind.wrap .i64 ((2 : Int) + (1 : Int))) = I6 3] (ob4 (by omega) (ob2 (by omega) (ac (DR (by first | omega | decide)) (ob3 (by omega) (ao (wj (by omega))))))) ?_
 refine W.sgA 0 [(11, aK (PV.tup [U6 ↑((a3 + b3 + (a2 + b2 + (a1 + b1 + (a0 + b0) / 18446744073709551616) / 18446744073709551616) / 18446744073709551616) % 18446744073709551616), U6 ↑((a3 + b3 + (a2 + b2 + (a1 + b1 + (a0 + b0) / 18446744073709551616) / 18446744073709551616) / 18446744073709551616) / 18446744073709551616)])), (18, aV (I6 4))] (rI 3) (DS.mk [(2, PV.at 1 []), (3, PV.at 2 []), (4, PV.at 3 []), (6, U6 ↑((a3 + b3 + (a2 + b2 + (a1 + b1 + (a0 + b0) / 18446744073709551616) / 18446744073709551616) / 18446744073709551616) / 18446744073709551616)), (8, I6 4)] [(1, Row.mk (B6 4 [(↑((a0 + b0) % 18446744073709551616) : Int), (↑((a1 + b1 + (a0 + b0) / 18446744073709551616) % 18446744073709551616) : Int), (↑((a2 + b2 + (a1 + b1 + (a0 + b0) / 18446744073709551616) / 18446744073709551616) % 18446744073709551616) : Int), (↑((a3 + b3 + (a2 + b2 + (a1 + b1 + (a0 + b0) / 18446744073709551616) / 18446744073709551616) / 18446744073709551616) % 18446744073709551616) : Int)]) false), (2, Row.mk (B6 4 [(b0:Int), (b1:Int), (b2:Int), (b3:Int)]) false), (3, Row.mk (B6 4 [0, 0, 0, 0]) false)]) [(0 : Int) ≤ 3, 3 < (↑(4 : Nat) : Int), 3 < 4, (0 : Int) ≤ 3, 3 < (↑(4 : Nat) : Int), 3 < 4, Pt 79 [] [U6 a3, U6 b3, U6 ↑((a2 + b2 + (a1 + b1 + (a0 + b0) / 18446744073709551616) / 18446744073709551616) / 18446744073709551616)] [] (PV.tup [U6 ↑((a3 + b3 + (a2 + b2 + (a1 + b1 + (a0 + b0) / 18446744073709551616) / 18446744073709551616) / 18446744073709551616) % 18446744073709551616), U6 ↑((a3 + b3 + (a2 + b2 + (a1 + b1 + (a0 + b0) / 18446744073709551616) / 18446744073709551616) / 18446744073709551616) / 18446744073709551616)]), (0 : Int) ≤ 3, 3 < (↑(4 : Nat) : Int), 3 < 4, I6 (IntKind.wrap .i64 ((3 : Int) + (1 : Int))) = I6 4] (ob4 (by omega) (ob2 (by omega) (ac (DR (by first | omega | decide)) (ob3 (by omega) (ao (wj (by omega))))))) ?_
 refine W.ret [] [] [PV.tup [B6 4 [(↑((a0 + b0) % 18446744073709551616) : Int), (↑((a1 + b1 + (a0 + b0) / 18446744073709551616) % 18446744073709551616) : Int), (↑((a2 + b2 + (a1 + b1 + (a0 + b0) / 18446744073709551616) / 18446744073709551616) % 18446744073709551616) : Int), (↑((a3 + b3 + (a2 + b2 + (a1 + b1 + (a0 + b0) / 18446744073709551616) / 18446744073709551616) / 18446744073709551616) % 18446744073709551616) : Int)], PV.bool (decide ((↑((a3 + b3 + (a2 + b2 + (a1 + b1 + (a0 + b0) / 18446744073709551616) / 18446744073709551616) / 18446744073709551616) / 18446744073709551616) : Int) > (0 : Int)))] = PV.tup [B6 4 (uw ((wu a0 a1 a2 a3 + wu b0 b1 b2 b3) % Aa)), PV.bool (decide (Aa ≤ wu a0 a1 a2 a3 + wu b0 b1 b2 b3))]] (by kernel_rfl) (ao ?_)
 have hs := Va a0 a1 a2 a3 b0 b1 b2 b3
 refine XN (I1 ?_ (by omega) (by omega) (by omega) (by omega)) ?_
 ·rw [hs, Nat.add_mul_mod_self_left, Nat.mod_eq_of_lt (Gi (by omega) (by omega) (by omega) (by omega))]
 ·have hl : wu ((a0 + b0) % 18446744073709551616) ((a1 + b1 + (a0 + b0) / 18446744073709551616) % 18446744073709551616) ((a2 + b2 + (a1 + b1 + (a0 + b0) / 18446744073709551616) / 18446744073709551616) % 18446744073709551616) ((a3 + b3 + (a2 + b2 + (a1 + b1 + (a0 + b0) / 18446744073709551616) / 18446744073709551616) / 18446744073709551616) % 18446744073709551616) < Aa := Gi (by omega) (by omega) (by omega) (by omega)
  rw [Bool.eq_iff_iff, decide_eq_true_iff, decide_eq_true_iff]
  rw [hs]
  generalize (a3 + b3 + (a2 + b2 + (a1 + b1 + (a0 + b0) / 18446744073709551616) / 18446744073709551616) / 18446744073709551616) / 18446744073709551616 = c at *
  unfold Aa at *
  omega
set_option maxHeartbeats 4000000 in
theorem Pk {a b : Nat} (ha : a < Aa) (hb : b < Aa) : Pt 81 [] [.iarr .u64 4 (uw a), .iarr .u64 4 (uw b)] [] (.tup [.iarr .u64 4 (uw ((a + Aa - b) % Aa)), .bool (decide (a < b))]) := by
 refine pO Tryz.func81 (by kernel_rfl) ?_
 obtain ⟨a0, a1, a2, a3, p0, p1, p2, p3, rfl, e⟩ := Cn ha
 obtain ⟨b0, b1, b2, b3, q0, q1, q2, q3, rfl, f⟩ := Cn hb
 rw [e, f]
 clear e f
 have h0 := LX a0 b0 0
 have h1 := LX a1 b1 (bor a0 b0 0)
 have h2 := LX a2 b2 (bor a1 b1 (bor a0 b0 0))
 have h3 := LX a3 b3 (bor a2 b2 (bor a1 b1 (bor a0 b0 0)))
 refine W.sgA 0 [] [(64, 1), (80, 2), (96, 3)] (DS.mk [(2, PV.at 1 []), (3, PV.at 2 []), (4, PV.at 3 []), (6, U6 0), (8, I6 0)] [(1, Row.mk (B6 4 [(a0:Int), (a1:Int), (a2:Int), (a3:Int)]) false), (2, Row.mk (B6 4 [(b0:Int), (b1:Int), (b2:Int), (b3:Int)]) false), (3, Row.mk (B6 4 [0, 0, 0, 0]) false)]) [] trivial ?_
 refine W.sgA 0 [(11, aK (PV.tup [U6 ↑((a0 + 18446744073709551616 - b0 - 0) % 18446744073709551616), U6 ↑(bor a0 b0 0)])), (12, aV (PV.tup [U6 ↑((a0 + 18446744073709551616 - b0) % 18446744073709551616), U6 ↑(bor a0 b0 0)])), (18, aV (I6 1))] (rI 3) (DS.mk [(2, PV.at 1 []), (3, PV.at 2 []), (4, PV.at 3 []), (6, U6 ↑(bor a0 b0 0)), (8, I6 1)] [(1, Row.mk (B6 4 [(↑((a0 + 18446744073709551616 - b0) % 18446744073709551616) : Int), (a1:Int), (a2:Int), (a3:Int)]) false), (2, Row.mk (B6 4 [(b0:Int), (b1:Int), (b2:Int), (b3:Int)]) false), (3, Row.mk (B6 4 [0, 0, 0, 0]) false)]) [(0 : Int) ≤ 0, 0 < (↑(4 : Nat) : Int), 0 < 4, (0 : Int) ≤ 0, 0 < (↑(4 : Nat) : Int), 0 < 4, Pt 105 [] [U6 a0, U6 b0, U6 0] [] (PV.tup [U6 ↑((a0 + 18446744073709551616 - b0 - 0) % 18446744073709551616), U6 ↑(bor a0 b0 0)]), PV.tup [U6 ↑((a0 + 18446744073709551616 - b0 - 0) % 18446744073709551616), U6 ↑(bor a0 b0 0)] = PV.tup [U6 ↑((a0 + 18446744073709551616 - b0) % 18446744073709551616), U6 ↑(bor a0 b0 0)], (0 : Int) ≤ 0, 0 < (↑(4 : Nat) : Int), 0 < 4, I6 (IntKind.wrap .i64 ((0 : Int) + (1 : Int))) = I6 1] (ob4 (by omega) (ob2 (by omega) (ac (Jh (by first | omega | decide)) (ac (by simp only [Nat.sub_zero]) (ob3 (by omega) (ao (wj (by omega)))))))) ?_
 refine W.sgA 0 [(11, aK (PV.tup [U6 ↑((a1 + 18446744073709551616 - b1 - bor a0 b0 0) % 18446744073709551616), U6 ↑(bor a1 b1 (bor a0 b0 0))])), (18, aV (I6 2))] (rI 3) (DS.mk [(2, PV.at 1 []), (3, PV.at 2 []), (4, PV.at 3 []), (6, U6 ↑(bor a1 b1 (bor a0 b0 0))), (8, I6 2)] [(1, Row.mk (B6 4 [(↑((a0 + 18446744073709551616 - b0) % 18446744073709551616) : Int), (↑((a1 + 18446744073709551616 - b1 - bor a0 b0 0) % 18446744073709551616) : Int), (a2:Int), (a3:Int)]) false), (2, Row.mk (B6 4 [(b0:Int), (b1:Int), (b2:Int), (b3:Int)]) false), (3, Row.mk (B6 4 [0, 0, 0, 0]) false)]) [(0 : Int) ≤ 1, 1 < (↑(4 : Nat) : Int), 1 < 4, (0 : Int) ≤ 1, 1 < (↑(4 : Nat) : Int), 1 < 4, Pt 105 [] [U6 a1, U6 b1, U6 ↑(bor a0 b0 0)] [] (PV.tup [U6 ↑((a1 + 18446744073709551616 - b1 - bor a0 b0 0) % 18446744073709551616), U6 ↑(bor a1 b1 (bor a0 b0 0))]), (0 : Int) ≤ 1, 1 < (↑(4 : Nat) : Int), 1 < 4, I6 (IntKind.wrap .i64 ((1 : Int) + (1 : Int))) = I6 2] (ob4 (by omega) (ob2 (by omega) (ac (Jh (by first | omega | decide)) (ob3 (by omega) (ao (wj (by omega))))))) ?_
 refine W.sgA 0 [(11, aK (PV.tup [U6 ↑((a2 + 18446744073709551616 - b2 - bor a1 b1 (bor a0 b0 0)) % 18446744073709551616), U6 ↑(bor a2 b2 (bor a1 b1 (bor a0 b0 0)))])), (18, aV (I6 3))] (rI 3) (DS.mk [(2, PV.at 1 []), (3, PV.at 2 []), (4, PV.at 3 []), (6, U6 ↑(bor a2 b2 (bor a1 b1 (bor a0 b0 0)))), (8, I6 3)] [(1, Row.mk (B6 4 [(↑((a0 + 18446744073709551616 - b0) % 18446744073709551616) : Int), (↑((a1 + 18446744073709551616 - b1 - bor a0 b0 0) % 18446744073709551616) : Int), (↑((a2 + 18446744073709551616 - b2 - bor a1 b1 (bor a0 b0 0)) % 18446744073709551616) : Int), (a3:Int)]) false), (2, Row.mk (B6 4 [(b0:Int), (b1:Int), (b2:Int), (b3:Int)]) false), (3, Row.mk (B6 4 [0, 0, 0, 0]) false)]) [(0 : Int) ≤ 2, 2 < (↑(4 : Nat) : Int), 2 < 4, (0 : Int) ≤ 2, 2 < (↑(4 : Nat) : Int), 2 < 4, Pt 105 [] [U6 a2, U6 b2, U6 ↑(bor a1 b1 (bor a0 b0 0))] [] (PV.tup [U6 ↑((a2 + 18446744073709551616 - b2 - bor a1 b1 (bor a0 b0 0)) % 18446744073709551616), U6 ↑(bor a2 b2 (bor a1 b1 (bor a0 b0 0)))]), (0 : Int) ≤ 2, 2 < (↑(4 : Nat) : Int), 2 < 4, I6 (IntKind.wrap .i64 ((2 : Int) + (1 : Int))) = I6 3] (ob4 (by omega) (ob2 (by omega) (ac (Jh (by first | omega | decide)) (ob3 (by omega) (ao (wj (by omega))))))) ?_
 refine W.sgA 0 [(11, aK (PV.tup [U6 ↑((a3 + 18446744073709551616 - b3 - bor a2 b2 (bor a1 b1 (bor a0 b0 0))) % 18446744073709551616), U6 ↑(bor a3 b3 (bor a2 b2 (bor a1 b1 (bor a0 b0 0))))])), (18, aV (I6 4))] (rI 3) (DS.mk [(2, PV.at 1 []), (3, PV.at 2 []), (4, PV.at 3 []), (6, U6 ↑(bor a3 b3 (bor a2 b2 (bor a1 b1 (bor a0 b0 0))))), (8, I6 4)] [(1, Row.mk (B6 4 [(↑((a0 + 18446744073709551616 - b0) % 18446744073709551616) : Int), (↑((a1 + 18446744073709551616 - b1 - bor a0 b0 0) % 18446744073709551616) : Int), (↑((a2 + 18446744073709551616 - b2 - bor a1 b1 (bor a0 b0 0)) % 18446744073709551616) : Int), (↑((a3 + 18446744073709551616 - b3 - bor a2 b2 (bor a1 b1 (bor a0 b0 0))) % 18446744073709551616) : Int)]) false), (2, Row.mk (B6 4 [(b0:Int), (b1:Int), (b2:Int), (b3:Int)]) false), (3, Row.mk (B6 4 [0, 0, 0, 0]) false)]) [(0 : Int) ≤ 3, 3 < (↑(4 : Nat) : Int), 3 < 4, (0 : Int) ≤ 3, 3 < (↑(4 : Nat) : Int), 3 < 4, Pt 105 [] [U6 a3, U6 b3, U6 ↑(bor a2 b2 (bor a1 b1 (bor a0 b0 0)))] [] (PV.tup [U6 ↑((a3 + 18446744073709551616 - b3 - bor a2 b2 (bor a1 b1 (bor a0 b0 0))) % 18446744073709551616), U6 ↑(bor a3 b3 (bor a2 b2 (bor a1 b1 (bor a0 b0 0))))]), (0 : Int) ≤ 3, 3 < (↑(4 : Nat) : Int), 3 < 4, I6 (IntKind.wrap .i64 ((3 : Int) + (1 : Int))) = I6 4] (ob4 (by omega) (ob2 (by omega) (ac (Jh (by first | omega | decide)) (ob3 (by omega) (ao (wj (by omega))))))) ?_
 refine W.ret [] [] [PV.tup [B6 4 [(↑((a0 + 18446744073709551616 - b0) % 18446744073709551616) : Int), (↑((a1 + 18446744073709551616 - b1 - bor a0 b0 0) % 18446744073709551616) : Int), (↑((a2 + 18446744073709551616 - b2 - bor a1 b1 (bor a0 b0 0)) % 18446744073709551616) : Int), (↑((a3 + 18446744073709551616 - b3 - bor a2 b2 (bor a1 b1 (bor a0 b0 0))) % 18446744073709551616) : Int)], PV.bool (decide ((↑(bor a3 b3 (bor a2 b2 (bor a1 b1 (bor a0 b0 0)))) : Int) > (0 : Int)))] = PV.tup [B6 4 (uw ((wu a0 a1 a2 a3 + Aa - wu b0 b1 b2 b3) % Aa)), PV.bool (decide (wu a0 a1 a2 a3 < wu b0 b1 b2 b3))]] (by kernel_rfl) (ao ?_)
 have e0 := Jv (c := 0) p0 q0 (by omega)
 have e1 := Jv p1 q1 h0
 have e2 := Jv p2 q2 h1
 have e3 := Jv p3 q3 h2
 have hs := Vo e0 e1 e2 e3
 clear e0 e1 e2 e3
 have hl := @Gi ((a0 + 18446744073709551616 - b0 - 0) % 18446744073709551616) ((a1 + 18446744073709551616 - b1 - bor a0 b0 0) % 18446744073709551616) ((a2 + 18446744073709551616 - b2 - bor a1 b1 (bor a0 b0 0)) % 18446744073709551616) ((a3 + 18446744073709551616 - b3 - bor a2 b2 (bor a1 b1 (bor a0 b0 0))) % 18446744073709551616) (by omega) (by omega) (by omega) (by omega)
 refine XN (I1 ?_ (by omega) (by omega) (by omega) (by omega)) ?_
 ·generalize wu ((a0 + 18446744073709551616 - b0 - 0) % 18446744073709551616) ((a1 + 18446744073709551616 - b1 - bor a0 b0 0) % 18446744073709551616) ((a2 + 18446744073709551616 - b2 - bor a1 b1 (bor a0 b0 0)) % 18446744073709551616) ((a3 + 18446744073709551616 - b3 - bor a2 b2 (bor a1 b1 (bor a0 b0 0))) % 18446744073709551616) = s at *
  generalize bor a3 b3 (bor a2 b2 (bor a1 b1 (bor a0 b0 0))) = c at *
  generalize wu a0 a1 a2 a3 = x at *
  generalize wu b0 b1 b2 b3 = y at *
  unfold Aa at *
  omega
 ·rw [Bool.eq_iff_iff, decide_eq_true_iff, decide_eq_true_iff]
  generalize wu ((a0 + 18446744073709551616 - b0 - 0) % 18446744073709551616) ((a1 + 18446744073709551616 - b1 - bor a0 b0 0) % 18446744073709551616) ((a2 + 18446744073709551616 - b2 - bor a1 b1 (bor a0 b0 0)) % 18446744073709551616) ((a3 + 18446744073709551616 - b3 - bor a2 b2 (bor a1 b1 (bor a0 b0 0))) % 18446744073709551616) = s at *
  generalize bor a3 b3 (bor a2 b2 (bor a1 b1 (bor a0 b0 0))) = c at *
  generalize wu a0 a1 a2 a3 = x at *
  generalize wu b0 b1 b2 b3 = y at *
  unfold Aa at *
  omega
def CQ (a b : Nat) : Int := if a < b then -1 else if b < a then 1 else 0
theorem Ec {a b : Nat} (ha : a < Aa) (hb : b < Aa) : Pt 28 [] [.iarr .u64 4 (uw a), .iarr .u64 4 (uw b)] [] (.int .i64 (CQ a b)) := by
 refine pO Tryz.func28 (by kernel_rfl) ?_
 obtain ⟨a0, a1, a2, a3, p0, p1, p2, p3, rfl, e⟩ := Cn ha
 obtain ⟨b0, b1, b2, b3, q0, q1, q2, q3, rfl, f⟩ := Cn hb
 rw [e, f]
 clear e f ha hb
 have lt : wu a0 a1 a2 a3 < wu b0 b1 b2 b3 → CQ (wu a0 a1 a2 a3) (wu b0 b1 b2 b3) = -1 := fun h => by simp [CQ, h]
 have gt : wu b0 b1 b2 b3 < wu a0 a1 a2 a3 → CQ (wu a0 a1 a2 a3) (wu b0 b1 b2 b3) = 1 := fun h => by simp [CQ, h]; omega
 refine W.sgA 0 [] [(64, 1), (80, 2)] (DS.mk [(2, PV.at 1 []), (3, PV.at 2 []), (5, I6 3)] [(1, Row.mk (B6 4 [(a0:Int), (a1:Int), (a2:Int), (a3:Int)]) false), (2, Row.mk (B6 4 [(b0:Int), (b1:Int), (b2:Int), (b3:Int)]) false)]) [] trivial ?_
 rcases Nat.lt_trichotomy a3 b3 with h | h | h
 ·rw [show CQ _ _ = -1 from lt (by unfold wu; omega)]
  refine W.rtA [(8, aT)] [] [(0 : Int) ≤ 3, 3 < (↑(4 : Nat) : Int), 3 < 4, (0 : Int) ≤ 3, 3 < (↑(4 : Nat) : Int), 3 < 4, decide ((a3:Int) < (b3:Int)) = true] (ob4 (by omega) (ob2 (by omega) (ao (dT (by omega)))))
 ·subst h
  refine W.sgA 0 [(8, aF), (15, aF), (17, aV (I6 2))] (rI 2) (DS.mk [(2, PV.at 1 []), (3, PV.at 2 []), (5, I6 2)] [(1, Row.mk (B6 4 [(a0:Int), (a1:Int), (a2:Int), (a3:Int)]) false), (2, Row.mk (B6 4 [(b0:Int), (b1:Int), (b2:Int), (a3:Int)]) false)]) [(0 : Int) ≤ 3, 3 < (↑(4 : Nat) : Int), 3 < 4, (0 : Int) ≤ 3, 3 < (↑(4 : Nat) : Int), 3 < 4, decide ((a3:Int) < (a3:Int)) = false, (0 : Int) ≤ 3, 3 < (↑(4 : Nat) : Int), 3 < 4, (0 : Int) ≤ 3, 3 < (↑(4 : Nat) : Int), 3 < 4, decide ((a3:Int) > (a3:Int)) = false, I6 (IntKind.wrap .i64 ((3 : Int) - (1 : Int))) = I6 2] (ob4 (by omega) (ob2 (by omega) (ac (dF (by omega)) (ob4 (by omega) (ob2 (by omega) (ac (dF (by omega)) (ao (wj (by omega))))))))) ?_
  rcases Nat.lt_trichotomy a2 b2 with h | h | h
  ·rw [show CQ _ _ = -1 from lt (by unfold wu; omega)]
   refine W.rtA [(8, aT)] [] [(0 : Int) ≤ 2, 2 < (↑(4 : Nat) : Int), 2 < 4, (0 : Int) ≤ 2, 2 < (↑(4 : Nat) : Int), 2 < 4, decide ((a2:Int) < (b2:Int)) = true] (ob4 (by omega) (ob2 (by omega) (ao (dT (by omega)))))
  ·subst h
   refine W.sgA 0 [(8, aF), (15, aF), (17, aV (I6 1))] (rI 2) (DS.mk [(2, PV.at 1 []), (3, PV.at 2 []), (5, I6 1)] [(1, Row.mk (B6 4 [(a0:Int), (a1:Int), (a2:Int), (a3:Int)]) false), (2, Row.mk (B6 4 [(b0:Int), (b1:Int), (a2:Int), (a3:Int)]) false)]) [(0 : Int) ≤ 2, 2 < (↑(4 : Nat) : Int), 2 < 4, (0 : Int) ≤ 2, 2 < (↑(4 : Nat) : Int), 2 < 4, decide ((a2:Int) < (a2:Int)) = false, (0 : Int) ≤ 2, 2 < (↑(4 : Nat) : Int), 2 < 4, (0 : Int) ≤ 2, 2 < (↑(4 : Nat) : Int), 2 < 4, decide ((a2:Int) > (a2:Int)) = false, I6 (IntKind.wrap .i64 ((2 : Int) - (1 : Int))) = I6 1] (ob4 (by omega) (ob2 (by omega) (ac (dF (by omega)) (ob4 (by omega) (ob2 (by omega) (ac (dF (by omega)) (ao (wj (by omega))))))))) ?_
   rcases Nat.lt_trichotomy a1 b1 with h | h | h
   ·rw [show CQ _ _ = -1 from lt (by unfold wu; omega)]
    refine W.rtA [(8, aT)] [] [(0 : Int) ≤ 1, 1 < (↑(4 : Nat) : Int), 1 < 4, (0 : Int) ≤ 1, 1 < (↑(4 : Nat) : Int), 1 < 4, decide ((a1:Int) < (b1:Int)) = true] (ob4 (by omega) (ob2 (by omega) (ao (dT (by omega)))))
   ·subst h
    refine W.sgA 0 [(8, aF), (15, aF), (17, aV (I6 0))] (rI 2) (DS.mk [(2, PV.at 1 []), (3, PV.at 2 []), (5, I6 0)] [(1, Row.mk (B6 4 [(a0:Int), (a1:Int), (a2:Int), (a3:Int)]) false), (2, Row.mk (B6 4 [(b0:Int), (a1:Int), (a2:Int), (a3:Int)]) false)]) [(0 : Int) ≤ 1, 1 < (↑(4 : Nat) : Int), 1 < 4, (0 : Int) ≤ 1, 1 < (↑(4 : Nat) : Int), 1 < 4, decide ((a1:Int) < (a1:Int)) = false, (0 : Int) ≤ 1, 1 < (↑(4 : Nat) : Int), 1 < 4, (0 : Int) ≤ 1, 1 < (↑(4 : Nat) : Int), 1 < 4, decide ((a1:Int) > (a1:Int)) = false, I6 (IntKind.wrap .i64 ((1 : Int) - (1 : Int))) = I6 0] (ob4 (by omega) (ob2 (by omega) (ac (dF (by omega)) (ob4 (by omega) (ob2 (by omega) (ac (dF (by omega)) (ao (wj (by omega))))))))) ?_
    rcases Nat.lt_trichotomy a0 b0 with h | h | h
    ·rw [show CQ _ _ = -1 from lt (by unfold wu; omega)]
     refine W.rtA [(8, aT)] [] [(0 : Int) ≤ 0, 0 < (↑(4 : Nat) : Int), 0 < 4, (0 : Int) ≤ 0, 0 < (↑(4 : Nat) : Int), 0 < 4, decide ((a0:Int) < (b0:Int)) = true] (ob4 (by omega) (ob2 (by omega) (ao (dT (by omega)))))
    ·subst h
     refine W.sgA 0 [(8, aF), (15, aF), (17, aV (I6 (-1)))] (rI 2) (DS.mk [(2, PV.at 1 []), (3, PV.at 2 []), (5, I6 (-1))] [(1, Row.mk (B6 4 [(a0:Int), (a1:Int), (a2:Int), (a3:Int)]) false), (2, Row.mk (B6 4 [(a0:Int), (a1:Int), (a2:Int), (a3:Int)]) false)]) [(0 : Int) ≤ 0, 0 < (↑(4 : Nat) : Int), 0 < 4, (0 : Int) ≤ 0, 0 < (↑(4 : Nat) : Int), 0 < 4, decide ((a0:Int) < (a0:Int)) = false, (0 : Int) ≤ 0, 0 < (↑(4 : Nat) : Int), 0 < 4, (0 : Int) ≤ 0, 0 < (↑(4 : Nat) : Int), 0 < 4, decide ((a0:Int) > (a0:Int)) = false, I6 (IntKind.wrap .i64 ((0 : Int) - (1 : Int))) = I6 (-1)] (ob4 (by omega) (ob2 (by omega) (ac (dF (by omega)) (ob4 (by omega) (ob2 (by omega) (ac (dF (by omega)) (ao (wj (by omega))))))))) ?_
     rw [show CQ _ _ = 0 by simp [CQ]]
     refine W.rtA [] [] [] trivial
    ·rw [show CQ _ _ = 1 from gt (by unfold wu; omega)]
     refine W.rtA [(8, aF), (15, aT)] [] [(0 : Int) ≤ 0, 0 < (↑(4 : Nat) : Int), 0 < 4, (0 : Int) ≤ 0, 0 < (↑(4 : Nat) : Int), 0 < 4, decide ((a0:Int) < (b0:Int)) = false, (0 : Int) ≤ 0, 0 < (↑(4 : Nat) : Int), 0 < 4, (0 : Int) ≤ 0, 0 < (↑(4 : Nat) : Int), 0 < 4, decide ((a0:Int) > (b0:Int)) = true] (ob4 (by omega) (ob2 (by omega) (ac (dF (by omega)) (ob4 (by omega) (ob2 (by omega) (ao (dT (by omega))))))))
   ·rw [show CQ _ _ = 1 from gt (by unfold wu; omega)]
    refine W.rtA [(8, aF), (15, aT)] [] [(0 : Int) ≤ 1, 1 < (↑(4 : Nat) : Int), 1 < 4, (0 : Int) ≤ 1, 1 < (↑(4 : Nat) : Int), 1 < 4, decide ((a1:Int) < (b1:Int)) = false, (0 : Int) ≤ 1, 1 < (↑(4 : Nat) : Int), 1 < 4, (0 : Int) ≤ 1, 1 < (↑(4 : Nat) : Int), 1 < 4, decide ((a1:Int) > (b1:Int)) = true] (ob4 (by omega) (ob2 (by omega) (ac (dF (by omega)) (ob4 (by omega) (ob2 (by omega) (ao (dT (by omega))))))))
  ·rw [show CQ _ _ = 1 from gt (by unfold wu; omega)]
   refine W.rtA [(8, aF), (15, aT)] [] [(0 : Int) ≤ 2, 2 < (↑(4 : Nat) : Int), 2 < 4, (0 : Int) ≤ 2, 2 < (↑(4 : Nat) : Int), 2 < 4, decide ((a2:Int) < (b2:Int)) = false, (0 : Int) ≤ 2, 2 < (↑(4 : Nat) : Int), 2 < 4, (0 : Int) ≤ 2, 2 < (↑(4 : Nat) : Int), 2 < 4, decide ((a2:Int) > (b2:Int)) = true] (ob4 (by omega) (ob2 (by omega) (ac (dF (by omega)) (ob4 (by omega) (ob2 (by omega) (ao (dT (by omega))))))))
 ·rw [show CQ _ _ = 1 from gt (by unfold wu; omega)]
  refine W.rtA [(8, aF), (15, aT)] [] [(0 : Int) ≤ 3, 3 < (↑(4 : Nat) : Int), 3 < 4, (0 : Int) ≤ 3, 3 < (↑(4 : Nat) : Int), 3 < 4, decide ((a3:Int) < (b3:Int)) = false, (0 : Int) ≤ 3, 3 < (↑(4 : Nat) : Int), 3 < 4, (0 : Int) ≤ 3, 3 < (↑(4 : Nat) : Int), 3 < 4, decide ((a3:Int) > (b3:Int)) = true] (ob4 (by omega) (ob2 (by omega) (ac (dF (by omega)) (ob4 (by omega) (ob2 (by omega) (ao (dT (by omega))))))))
end Go.Proofs
namespace Go.Proofs
open Go Go.Pe Go.Pm
set_option maxRecDepth 100000
def Nr : ByteArray := ⟨#[0, 1, 2, 2, 3, 3, 3, 3, 4, 4, 4, 4, 4, 4, 4, 4, 5, 5, 5, 5, 5, 5, 5, 5, 5, 5, 5, 5, 5, 5, 5, 5, 6, 6, 6, 6, 6, 6, 6, 6, 6, 6, 6, 6, 6, 6, 6, 6, 6, 6, 6, 6, 6, 6, 6, 6, 6, 6, 6, 6, 6, 6, 6, 6, 7, 7, 7, 7, 7, 7, 7, 7, 7, 7, 7, 7, 7, 7, 7, 7, 7, 7, 7, 7, 7, 7, 7, 7, 7, 7, 7, 7, 7, 7, 7, 7, 7, 7, 7, 7, 7, 7, 7, 7, 7, 7, 7, 7, 7, 7, 7, 7, 7, 7, 7, 7, 7, 7, 7, 7, 7, 7, 7, 7, 7, 7, 7, 7, 8, 8, 8, 8, 8, 8, 8, 8, 8, 8, 8, 8, 8, 8, 8, 8, 8, 8, 8, 8, 8, 8, 8, 8, 8, 8, 8, 8, 8, 8, 8, 8, 8, 8, 8, 8, 8, 8, 8, 8, 8, 8, 8, 8, 8, 8, 8, 8, 8, 8, 8, 8, 8, 8, 8, 8, 8, 8, 8, 8, 8, 8, 8, 8, 8, 8, 8, 8, 8, 8, 8, 8, 8, 8, 8, 8, 8, 8, 8, 8, 8, 8, 8, 8, 8, 8, 8, 8, 8, 8, 8, 8, 8, 8, 8, 8, 8, 8, 8, 8, 8, 8, 8, 8, 8, 8, 8, 8, 8, 8, 8, 8, 8, 8, 8, 8, 8, 8, 8, 8, 8, 8, 8, 8, 8, 8, 8, 8]⟩
theorem U7 : ∀ y : Nat, y < 256 → CX Nr y = (Ab y : Nat) := by decide +kernel
theorem Xt {y : Nat} (h : y < 256) : Ab y ≤ 8 := Bu.2 h
theorem GV {x : Nat} (hx : x < 18446744073709551616) : Pt 104 [] [.int .u64 x] [] (.int .i64 (Ab x)) := by
 refine pO Tryz.func104 (by kernel_rfl) ?_
 have key : ∀ y n : Nat, y < 256 → Ab y + n = Ab x → CX Nr y = (Ab y : Nat) ∧ Ab y ≤ 8 ∧ Ab x = Ab y + n := fun y n h e => ⟨U7 y h, Xt h, e.symm⟩
 by_cases c1 : 4294967296 ≤ x
 ·have e1 := CV (v := x) (k := 32) c1
  by_cases c2 : 65536 ≤ x / 4294967296
  ·have e2 := CV (v := x / 4294967296) (k := 16) c2
   by_cases c3 : 256 ≤ x / 4294967296 / 65536
   ·have e3 := CV (v := x / 4294967296 / 65536) (k := 8) c3
    obtain ⟨hb, hl, he⟩ := key (x / 4294967296 / 65536 / 256) 56 (by omega) (by simp only [Nat.reducePow] at e1 e2 e3; omega)
    rw [he]
    refine W.rtA [(2, aT), (4, aV (U6 ↑(x / 4294967296))), (8, aT), (10, aV (U6 ↑(x / 4294967296 / 65536))), (13, aV (I6 48)), (16, aT), (18, aV (U6 ↑(x / 4294967296 / 65536 / 256))), (21, aV (I6 56)), (25, aV (U8 ↑(x / 4294967296 / 65536 / 256))), (26, aV (U8 ↑(Ab (x / 4294967296 / 65536 / 256)))), (27, aV (I6 ↑(Ab (x / 4294967296 / 65536 / 256)))), (28, aV (I6 ↑(Ab (x / 4294967296 / 65536 / 256) + 56)))] [] [decide ((x:Int) ≥ 4294967296) = true, U6 (Int.fdiv (x:Int) ((2 : Int) ^ 32)) = U6 ↑(x / 4294967296), (0 : Int) ≤ 32, decide ((↑(x / 4294967296) : Int) ≥ 65536) = true, U6 (Int.fdiv (↑(x / 4294967296) : Int) ((2 : Int) ^ 16)) = U6 ↑(x / 4294967296 / 65536), (0 : Int) ≤ 16, I6 (IntKind.wrap .i64 ((32 : Int) + (16 : Int))) = I6 48, decide ((↑(x / 4294967296 / 65536) : Int) ≥ 256) = true, U6 (Int.fdiv (↑(x / 4294967296 / 65536) : Int) ((2 : Int) ^ 8)) = U6 ↑(x / 4294967296 / 65536 / 256), (0 : Int) ≤ 8, I6 (IntKind.wrap .i64 ((48 : Int) + (8 : Int))) = I6 56, U8 (IntKind.wrap .u8 (↑(x / 4294967296 / 65536 / 256) : Int)) = U8 ↑(x / 4294967296 / 65536 / 256), U8 (CX Nr (↑(x / 4294967296 / 65536 / 256) : Int)) = U8 ↑(Ab (x / 4294967296 / 65536 / 256)), 0 ≤ (↑(x / 4294967296 / 65536 / 256) : Int), (↑(x / 4294967296 / 65536 / 256) : Int) < (↑(256 : Nat) : Int), I6 (IntKind.wrap .i64 (↑(Ab (x / 4294967296 / 65536 / 256)) : Int)) = I6 ↑(Ab (x / 4294967296 / 65536 / 256)), I6 (IntKind.wrap .i64 (56 + (↑(Ab (x / 4294967296 / 65536 / 256)) : Int))) = I6 ↑(Ab (x / 4294967296 / 65536 / 256) + 56)] (ac (dT (by omega)) (ac (cg (Am (y := 32) (s := 32) rfl rfl (by decide) (by omega))) (ac (by omega) (ac (dT (by omega)) (ac (cg (Am (y := 16) (s := 16) rfl rfl (by decide) (by omega))) (ac (by omega) (ac (wj (by omega)) (ac (dT (by omega)) (ac (cg (Am (y := 8) (s := 8) rfl rfl (by decide) (by omega))) (ac (by omega) (ac (wj (by omega)) (ac (cg (IY rfl (by omega) (by omega))) (ac (cg (hb)) (ob2 (by omega) (ac (wj (by omega)) (ao (cg (Ac (by omega) (by omega) (by omega)))))))))))))))))))
   ·obtain ⟨hb, hl, he⟩ := key (x / 4294967296 / 65536) 48 (by omega) (by simp only [Nat.reducePow] at e1 e2; omega)
    rw [he]
    refine W.rtA [(2, aT), (4, aV (U6 ↑(x / 4294967296))), (8, aT), (10, aV (U6 ↑(x / 4294967296 / 65536))), (13, aV (I6 48)), (16, aF), (19, aV (U8 ↑(x / 4294967296 / 65536))), (20, aV (U8 ↑(Ab (x / 4294967296 / 65536)))), (21, aV (I6 ↑(Ab (x / 4294967296 / 65536)))), (22, aV (I6 ↑(Ab (x / 4294967296 / 65536) + 48)))] [] [decide ((x:Int) ≥ 4294967296) = true, U6 (Int.fdiv (x:Int) ((2 : Int) ^ 32)) = U6 ↑(x / 4294967296), (0 : Int) ≤ 32, decide ((↑(x / 4294967296) : Int) ≥ 65536) = true, U6 (Int.fdiv (↑(x / 4294967296) : Int) ((2 : Int) ^ 16)) = U6 ↑(x / 4294967296 / 65536), (0 : Int) ≤ 16, I6 (IntKind.wrap .i64 ((32 : Int) + (16 : Int))) = I6 48, decide ((↑(x / 4294967296 / 65536) : Int) ≥ 256) = false, U8 (IntKind.wrap .u8 (↑(x / 4294967296 / 65536) : Int)) = U8 ↑(x / 4294967296 / 65536), U8 (CX Nr (↑(x / 4294967296 / 65536) : Int)) = U8 ↑(Ab (x / 4294967296 / 65536)), 0 ≤ (↑(x / 4294967296 / 65536) : Int), (↑(x / 4294967296 / 65536) : Int) < (↑(256 : Nat) : Int), I6 (IntKind.wrap .i64 (↑(Ab (x / 4294967296 / 65536)) : Int)) = I6 ↑(Ab (x / 4294967296 / 65536)), I6 (IntKind.wrap .i64 (48 + (↑(Ab (x / 4294967296 / 65536)) : Int))) = I6 ↑(Ab (x / 4294967296 / 65536) + 48)] (ac (dT (by omega)) (ac (cg (Am (y := 32) (s := 32) rfl rfl (by decide) (by omega))) (ac (by omega) (ac (dT (by omega)) (ac (cg (Am (y := 16) (s := 16) rfl rfl (by decide) (by omega))) (ac (by omega) (ac (wj (by omega)) (ac (dF (by omega)) (ac (cg (IY rfl (by omega) (by omega))) (ac (cg (hb)) (ob2 (by omega) (ac (wj (by omega)) (ao (cg (Ac (by omega) (by omega) (by omega))))))))))))))))
  ·by_cases c3 : 256 ≤ x / 4294967296
   ·have e3 := CV (v := x / 4294967296) (k := 8) c3
    obtain ⟨hb, hl, he⟩ := key (x / 4294967296 / 256) 40 (by omega) (by simp only [Nat.reducePow] at e1 e3; omega)
    rw [he]
    refine W.rtA [(2, aT), (4, aV (U6 ↑(x / 4294967296))), (8, aF), (10, aT), (12, aV (U6 ↑(x / 4294967296 / 256))), (15, aV (I6 40)), (19, aV (U8 ↑(x / 4294967296 / 256))), (20, aV (U8 ↑(Ab (x / 4294967296 / 256)))), (21, aV (I6 ↑(Ab (x / 4294967296 / 256)))), (22, aV (I6 ↑(Ab (x / 4294967296 / 256) + 40)))] [] [decide ((x:Int) ≥ 4294967296) = true, U6 (Int.fdiv (x:Int) ((2 : Int) ^ 32)) = U6 ↑(x / 4294967296), (0 : Int) ≤ 32, decide ((↑(x / 4294967296) : Int) ≥ 65536) = false, decide ((↑(x / 4294967296) : Int) ≥ 256) = true, U6 (Int.fdiv (↑(x / 4294967296) : Int) ((2 : Int) ^ 8)) = U6 ↑(x / 4294967296 / 256), (0 : Int) ≤ 8, I6 (IntKind.wrap .i64 ((32 : Int) + (8 : Int))) = I6 40, U8 (IntKind.wrap .u8 (↑(x / 4294967296 / 256) : Int)) = U8 ↑(x / 4294967296 / 256), U8 (CX Nr (↑(x / 4294967296 / 256) : Int)) = U8 ↑(Ab (x / 4294967296 / 256)), 0 ≤ (↑(x / 4294967296 / 256) : Int), (↑(x / 4294967296 / 256) : Int) < (↑(256 : Nat) : Int), I6 (IntKind.wrap .i64 (↑(Ab (x / 4294967296 / 256)) : Int)) = I6 ↑(Ab (x / 4294967296 / 256)), I6 (IntKind.wrap .i64 (40 + (↑(Ab (x / 4294967296 / 256)) : Int))) = I6 ↑(Ab (x / 4294967296 / 256) + 40)] (ac (dT (by omega)) (ac (cg (Am (y := 32) (s := 32) rfl rfl (by decide) (by omega))) (ac (by omega) (ac (dF (by omega)) (ac (dT (by omega)) (ac (cg (Am (y := 8) (s := 8) rfl rfl (by decide) (by omega))) (ac (by omega) (ac (wj (by omega)) (ac (cg (IY rfl (by omega) (by omega))) (ac (cg (hb)) (ob2 (by omega) (ac (wj (by omega)) (ao (cg (Ac (by omega) (by omega) (by omega))))))))))))))))
   ·obtain ⟨hb, hl, he⟩ := key (x / 4294967296) 32 (by omega) (by simp only [Nat.reducePow] at e1; omega)
    rw [he]
    refine W.rtA [(2, aT), (4, aV (U6 ↑(x / 4294967296))), (8, aF), (10, aF), (13, aV (U8 ↑(x / 4294967296))), (14, aV (U8 ↑(Ab (x / 4294967296)))), (15, aV (I6 ↑(Ab (x / 4294967296)))), (16, aV (I6 ↑(Ab (x / 4294967296) + 32)))] [] [decide ((x:Int) ≥ 4294967296) = true, U6 (Int.fdiv (x:Int) ((2 : Int) ^ 32)) = U6 ↑(x / 4294967296), (0 : Int) ≤ 32, decide ((↑(x / 4294967296) : Int) ≥ 65536) = false, decide ((↑(x / 4294967296) : Int) ≥ 256) = false, U8 (IntKind.wrap .u8 (↑(x / 4294967296) : Int)) = U8 ↑(x / 4294967296), U8 (CX Nr (↑(x / 4294967296) : Int)) = U8 ↑(Ab (x / 4294967296)), 0 ≤ (↑(x / 4294967296) : Int), (↑(x / 4294967296) : Int) < (↑(256 : Nat) : Int), I6 (IntKind.wrap .i64 (↑(Ab (x / 4294967296)) : Int)) = I6 ↑(Ab (x / 4294967296)), I6 (IntKind.wrap .i64 (32 + (↑(Ab (x / 4294967296)) : Int))) = I6 ↑(Ab (x / 4294967296) + 32)] (ac (dT (by omega)) (ac (cg (Am (y := 32) (s := 32) rfl rfl (by decide) (by omega))) (ac (by omega) (ac (dF (by omega)) (ac (dF (by omega)) (ac (cg (IY rfl (by omega) (by omega))) (ac (cg (hb)) (ob2 (by omega) (ac (wj (by omega)) (ao (cg (Ac (by omega) (by omega) (by omega)))))))))))))
 ·by_cases c2 : 65536 ≤ x
  ·have e2 := CV (v := x) (k := 16) c2
   by_cases c3 : 256 ≤ x / 65536
   ·have e3 := CV (v := x / 65536) (k := 8) c3
    obtain ⟨hb, hl, he⟩ := key (x / 65536 / 256) 24 (by omega) (by simp only [Nat.reducePow] at e2 e3; omega)
    rw [he]
    refine W.rtA [(2, aF), (4, aT), (6, aV (U6 ↑(x / 65536))), (9, aV (I6 16)), (12, aT), (14, aV (U6 ↑(x / 65536 / 256))), (17, aV (I6 24)), (21, aV (U8 ↑(x / 65536 / 256))), (22, aV (U8 ↑(Ab (x / 65536 / 256)))), (23, aV (I6 ↑(Ab (x / 65536 / 256)))), (24, aV (I6 ↑(Ab (x / 65536 / 256) + 24)))] [] [decide ((x:Int) ≥ 4294967296) = false, decide ((x:Int) ≥ 65536) = true, U6 (Int.fdiv (x:Int) ((2 : Int) ^ 16)) = U6 ↑(x / 65536), (0 : Int) ≤ 16, I6 (IntKind.wrap .i64 ((0 : Int) + (16 : Int))) = I6 16, decide ((↑(x / 65536) : Int) ≥ 256) = true, U6 (Int.fdiv (↑(x / 65536) : Int) ((2 : Int) ^ 8)) = U6 ↑(x / 65536 / 256), (0 : Int) ≤ 8, I6 (IntKind.wrap .i64 ((16 : Int) + (8 : Int))) = I6 24, U8 (IntKind.wrap .u8 (↑(x / 65536 / 256) : Int)) = U8 ↑(x / 65536 / 256), U8 (CX Nr (↑(x / 65536 / 256) : Int)) = U8 ↑(Ab (x / 65536 / 256)), 0 ≤ (↑(x / 65536 / 256) : Int), (↑(x / 65536 / 256) : Int) < (↑(256 : Nat) : Int), I6 (IntKind.wrap .i64 (↑(Ab (x / 65536 / 256)) : Int)) = I6 ↑(Ab (x / 65536 / 256)), I6 (IntKind.wrap .i64 (24 + (↑(Ab (x / 65536 / 256)) : Int))) = I6 ↑(Ab (x / 65536 / 256) + 24)] (ac (dF (by omega)) (ac (dT (by omega)) (ac (cg (Am (y := 16) (s := 16) rfl rfl (by decide) (by omega))) (ac (by omega) (ac (wj (by omega)) (ac (dT (by omega)) (ac (cg (Am (y := 8) (s := 8) rfl rfl (by decide) (by omega))) (ac (by omega) (ac (wj (by omega)) (ac (cg (IY rfl (by omega) (by omega))) (ac (cg (hb)) (ob2 (by omega) (ac (wj (by omega)) (ao (cg (Ac (by omega) (by omega) (by omega)))))))))))))))))
   ·obtain ⟨hb, hl, he⟩ := key (x / 65536) 16 (by omega) (by simp only [Nat.reducePow] at e2; omega)
    rw [he]
    refine W.rtA [(2, aF), (4, aT), (6, aV (U6 ↑(x / 65536))), (9, aV (I6 16)), (12, aF), (15, aV (U8 ↑(x / 65536))), (16, aV (U8 ↑(Ab (x / 65536)))), (17, aV (I6 ↑(Ab (x / 65536)))), (18, aV (I6 ↑(Ab (x / 65536) + 16)))] [] [decide ((x:Int) ≥ 4294967296) = false, decide ((x:Int) ≥ 65536) = true, U6 (Int.fdiv (x:Int) ((2 : Int) ^ 16)) = U6 ↑(x / 65536), (0 : Int) ≤ 16, I6 (IntKind.wrap .i64 ((0 : Int) + (16 : Int))) = I6 16, decide ((↑(x / 65536) : Int) ≥ 256) = false, U8 (IntKind.wrap .u8 (↑(x / 65536) : Int)) = U8 ↑(x / 65536), U8 (CX Nr (↑(x / 65536) : Int)) = U8 ↑(Ab (x / 65536)), 0 ≤ (↑(x / 65536) : Int), (↑(x / 65536) : Int) < (↑(256 : Nat) : Int), I6 (IntKind.wrap .i64 (↑(Ab (x / 65536)) : Int)) = I6 ↑(Ab (x / 65536)), I6 (IntKind.wrap .i64 (16 + (↑(Ab (x / 65536)) : Int))) = I6 ↑(Ab (x / 65536) + 16)] (ac (dF (by omega)) (ac (dT (by omega)) (ac (cg (Am (y := 16) (s := 16) rfl rfl (by decide) (by omega))) (ac (by omega) (ac (wj (by omega)) (ac (dF (by omega)) (ac (cg (IY rfl (by omega) (by omega))) (ac (cg (hb)) (ob2 (by omega) (ac (wj (by omega)) (ao (cg (Ac (by omega) (by omega) (by omega))))))))))))))
  ·by_cases c3 : 256 ≤ x
   ·have e3 := CV (v := x) (k := 8) c3
    obtain ⟨hb, hl, he⟩ := key (x / 256) 8 (by omega) (by simp only [Nat.reducePow] at e3; omega)
    rw [he]
    refine W.rtA [(2, aF), (4, aF), (6, aT), (8, aV (U6 ↑(x / 256))), (11, aV (I6 8)), (15, aV (U8 ↑(x / 256))), (16, aV (U8 ↑(Ab (x / 256)))), (17, aV (I6 ↑(Ab (x / 256)))), (18, aV (I6 ↑(Ab (x / 256) + 8)))] [] [decide ((x:Int) ≥ 4294967296) = false, decide ((x:Int) ≥ 65536) = false, decide ((x:Int) ≥ 256) = true, U6 (Int.fdiv (x:Int) ((2 : Int) ^ 8)) = U6 ↑(x / 256), (0 : Int) ≤ 8, I6 (IntKind.wrap .i64 ((0 : Int) + (8 : Int))) = I6 8, U8 (IntKind.wrap .u8 (↑(x / 256) : Int)) = U8 ↑(x / 256), U8 (CX Nr (↑(x / 256) : Int)) = U8 ↑(Ab (x / 256)), 0 ≤ (↑(x / 256) : Int), (↑(x / 256) : Int) < (↑(256 : Nat) : Int), I6 (IntKind.wrap .i64 (↑(Ab (x / 256)) : Int)) = I6 ↑(Ab (x / 256)), I6 (IntKind.wrap .i64 (8 + (↑(Ab (x / 256)) : Int))) = I6 ↑(Ab (x / 256) + 8)] (ac (dF (by omega)) (ac (dF (by omega)) (ac (dT (by omega)) (ac (cg (Am (y := 8) (s := 8) rfl rfl (by decide) (by omega))) (ac (by omega) (ac (wj (by omega)) (ac (cg (IY rfl (by omega) (by omega))) (ac (cg (hb)) (ob2 (by omega) (ac (wj (by omega)) (ao (cg (Ac (by omega) (by omega) (by omega))))))))))))))
   ·obtain ⟨hb, hl, he⟩ := key x 0 (by omega) rfl
    refine W.rtA [(2, aF), (4, aF), (6, aF), (9, aV (U8 x)), (10, aV (U8 ↑(Ab x))), (11, aV (I6 ↑(Ab x))), (12, aV (I6 ↑(Ab x)))] [] [decide ((x:Int) ≥ 4294967296) = false, decide ((x:Int) ≥ 65536) = false, decide ((x:Int) ≥ 256) = false, U8 (IntKind.wrap .u8 (x:Int)) = U8 x, U8 (CX Nr (x:Int)) = U8 ↑(Ab x), 0 ≤ (x:Int), (x:Int) < (↑(256 : Nat) : Int), I6 (IntKind.wrap .i64 (↑(Ab x) : Int)) = I6 ↑(Ab x), I6 (IntKind.wrap .i64 (0 + (↑(Ab x) : Int))) = I6 ↑(Ab x)] (ac (dF (by omega)) (ac (dF (by omega)) (ac (dF (by omega)) (ac (cg (IY rfl (by omega) (by omega))) (ac (cg (hb)) (ob2 (by omega) (ac (wj (by omega)) (ao (cg (Ac (by omega) (by omega) (by omega)))))))))))
theorem pc_lz64 {x : Nat} (hx : x < 18446744073709551616) : Pt 155 [] [.int .u64 x] [] (.int .i64 ((64 - Ab x : Nat) : Int)) := by
 refine pO Tryz.func155 (by kernel_rfl) ?_
 have h : Ab x ≤ 64 := Bu.2 hx
 refine W.ret [(2, aK (I6 ↑(Ab x))), (3, aV (I6 (64 - (↑(Ab x) : Int))))] [] [Pt 104 [] [U6 x] [] (I6 ↑(Ab x)), I6 (IntKind.wrap .i64 (64 - (↑(Ab x) : Int))) = I6 (64 - (↑(Ab x) : Int)), I6 (64 - (↑(Ab x) : Int)) = I6 ↑(64 - Ab x)] (by kernel_rfl) (ac (GV (by first | omega | decide)) (ac (wj (by omega)) (ao (cg (by omega)))))
theorem S9 {a0 a1 a2 a3 : Nat} (p0 : a0 < 18446744073709551616) (p1 : a1 < 18446744073709551616) (p2 : a2 < 18446744073709551616) :
  Ab (wu a0 a1 a2 a3) = if a3 ≠ 0 then 192 + Ab a3 else if a2 ≠ 0 then 128 + Ab a2 else if a1 ≠ 0 then 64 + Ab a1 else Ab a0 := by
 have hw : wu a0 a1 a2 a3 / 2 ^ 192 = a3 := by
  rw [show (2 : Nat) ^ 192 = 18446744073709551616 * 18446744073709551616 * 18446744073709551616 by decide, ← Nat.div_div_eq_div_mul, ← Nat.div_div_eq_div_mul]
  unfold wu; omega
 split
 ·have := CV (v := wu a0 a1 a2 a3) (k := 192) (by apply Nat.le_of_not_lt; intro h; rw [Nat.div_eq_of_lt h] at hw; omega)
  rw [hw] at this; omega
 ·rename_i h3
  have h3 : a3 = 0 := by omega
  subst h3
  have hw : wu a0 a1 a2 0 / 2 ^ 128 = a2 := by
   rw [show (2 : Nat) ^ 128 = 18446744073709551616 * 18446744073709551616 by decide, ← Nat.div_div_eq_div_mul]
   unfold wu; omega
  split
  ·have := CV (v := wu a0 a1 a2 0) (k := 128) (by apply Nat.le_of_not_lt; intro h; rw [Nat.div_eq_of_lt h] at hw; omega)
   rw [hw] at this; omega
  ·rename_i h2
   have h2 : a2 = 0 := by omega
   subst h2
   have hw : wu a0 a1 0 0 / 2 ^ 64 = a1 := by
    rw [show (2 : Nat) ^ 64 = 18446744073709551616 by decide]
    unfold wu; omega
   split
   ·have := CV (v := wu a0 a1 0 0) (k := 64) (by apply Nat.le_of_not_lt; intro h; rw [Nat.div_eq_of_lt h] at hw; omega)
    rw [hw] at this; omega
   ·rename_i h1
    have h1 : a1 = 0 := by omega
    subst h1
    simp [wu]
theorem Eh {a : Nat} (ha : a < Aa) : Pt 77 [] [.iarr .u64 4 (uw a)] [] (.int .i64 (Ab a)) := by
 refine pO Tryz.func77 (by kernel_rfl) ?_
 obtain ⟨a0, a1, a2, a3, p0, p1, p2, p3, rfl, e⟩ := Cn ha
 rw [e, S9 p0 p1 p2]
 clear e ha
 have l0 : Ab a0 ≤ 64 := Bu.2 p0
 have l1 : Ab a1 ≤ 64 := Bu.2 p1
 have l2 : Ab a2 ≤ 64 := Bu.2 p2
 have l3 : Ab a3 ≤ 64 := Bu.2 p3
 refine W.sgA 0 [] [(64, 1)] (DS.mk [(1, PV.at 1 []), (3, I6 3)] [(1, Row.mk (B6 4 [(a0:Int), (a1:Int), (a2:Int), (a3:Int)]) false)]) [] trivial ?_
 by_cases h3 : a3 = 0
 ·rw [if_neg (by omega)]
  refine W.sgA 0 [(5, aF), (7, aV (I6 2))] (rI 1) (DS.mk [(1, PV.at 1 []), (3, I6 2)] [(1, Row.mk (B6 4 [(a0:Int), (a1:Int), (a2:Int), (a3:Int)]) false)]) [(0 : Int) ≤ 3, 3 < (↑(4 : Nat) : Int), 3 < 4, ((a3:Int) != 0) = false, I6 (IntKind.wrap .i64 ((3 : Int) - (1 : Int))) = I6 2] (ob3 (by omega) (ac (bne_eq_false_iff_eq.2 (by omega)) (ao (wj (by omega))))) ?_
  by_cases h2 : a2 = 0
  ·rw [if_neg (by omega)]
   refine W.sgA 0 [(5, aF), (7, aV (I6 1))] (rI 1) (DS.mk [(1, PV.at 1 []), (3, I6 1)] [(1, Row.mk (B6 4 [(a0:Int), (a1:Int), (a2:Int), (a3:Int)]) false)]) [(0 : Int) ≤ 2, 2 < (↑(4 : Nat) : Int), 2 < 4, ((a2:Int) != 0) = false, I6 (IntKind.wrap .i64 ((2 : Int) - (1 : Int))) = I6 1] (ob3 (by omega) (ac (bne_eq_false_iff_eq.2 (by omega)) (ao (wj (by omega))))) ?_
   by_cases h1 : a1 = 0
   ·rw [if_neg (by omega)]
    refine W.sgA 0 [(5, aF), (7, aV (I6 0))] (rI 1) (DS.mk [(1, PV.at 1 []), (3, I6 0)] [(1, Row.mk (B6 4 [(a0:Int), (a1:Int), (a2:Int), (a3:Int)]) false)]) [(0 : Int) ≤ 1, 1 < (↑(4 : Nat) : Int), 1 < 4, ((a1:Int) != 0) = false, I6 (IntKind.wrap .i64 ((1 : Int) - (1 : Int))) = I6 0] (ob3 (by omega) (ac (bne_eq_false_iff_eq.2 (by omega)) (ao (wj (by omega))))) ?_
    by_cases h0 : a0 = 0
    ·subst h0
     refine W.sgA 0 [(4, aV (U6 0)), (7, aV (I6 (-1)))] (rI 1) (DS.mk [(1, PV.at 1 []), (3, I6 (-1))] [(1, Row.mk (B6 4 [(↑(0 : Nat) : Int), (a1:Int), (a2:Int), (a3:Int)]) false)]) [(0 : Int) ≤ 0, 0 < (↑(4 : Nat) : Int), U6 ↑(0 : Nat) = U6 0, 0 < 4, I6 (IntKind.wrap .i64 ((0 : Int) - (1 : Int))) = I6 (-1)] (ob2 (by omega) (ac (cg (by omega)) (ac (by omega) (ao (wj (by omega)))))) ?_
     refine W.rtA [] [] [] trivial
    ·refine W.rt [(5, aT), (7, aV (I6 0)), (11, aK (I6 (↑(Ab a0) : Int))), (12, aV (I6 (↑(Ab a0) : Int)))] [] [(0 : Int) ≤ (0 : Int), 0 < (↑(4 : Nat) : Int), 0 < 4, ((a0:Int) != 0) = true, I6 (IntKind.wrap .i64 ((64 : Int) * (0 : Int))) = I6 0, (0 : Int) ≤ (0 : Int), 0 < (↑(4 : Nat) : Int), 0 < 4, Pt 104 [] [U6 (a0:Int)] [] (I6 (↑(Ab a0) : Int)), I6 (IntKind.wrap .i64 (0 + (↑(Ab a0) : Int))) = I6 (↑(Ab a0) : Int)] (by kernel_rfl) (ac (by omega) (ac (by omega) (ac (by omega) (ac (bne_iff_ne.2 (by omega)) (ac (cg (Ac rfl (by omega) (by omega))) (ac (by omega) (ac (by omega) (ac (by omega) (ac (GV (by first | omega | decide)) (ao (cg (Ac (by omega) (by omega) (by omega)))))))))))))
   ·rw [if_pos h1]
    refine W.ret [(5, aT), (7, aV (I6 64)), (11, aK (I6 ↑(Ab a1))), (12, aV (I6 ↑(Ab a1 + 64)))] [] [(0 : Int) ≤ 1, 1 < (↑(4 : Nat) : Int), 1 < 4, ((a1:Int) != 0) = true, I6 (IntKind.wrap .i64 ((64 : Int) * (1 : Int))) = I6 64, (0 : Int) ≤ 1, 1 < (↑(4 : Nat) : Int), 1 < 4, Pt 104 [] [U6 a1] [] (I6 ↑(Ab a1)), I6 (IntKind.wrap .i64 (64 + (↑(Ab a1) : Int))) = I6 ↑(Ab a1 + 64), I6 ↑(Ab a1 + 64) = I6 ↑(64 + Ab a1)] (by kernel_rfl) (ob3 (by omega) (ac (bne_iff_ne.2 (by omega)) (ac (wj (by omega)) (ob3 (by omega) (ac (GV (by first | omega | decide)) (ac (cg (Ac (by omega) (by omega) (by omega))) (ao (cg (by omega)))))))))
  ·rw [if_pos h2]
   refine W.ret [(5, aT), (7, aV (I6 128)), (11, aK (I6 ↑(Ab a2))), (12, aV (I6 ↑(Ab a2 + 128)))] [] [(0 : Int) ≤ 2, 2 < (↑(4 : Nat) : Int), 2 < 4, ((a2:Int) != 0) = true, I6 (IntKind.wrap .i64 ((64 : Int) * (2 : Int))) = I6 128, (0 : Int) ≤ 2, 2 < (↑(4 : Nat) : Int), 2 < 4, Pt 104 [] [U6 a2] [] (I6 ↑(Ab a2)), I6 (IntKind.wrap .i64 (128 + (↑(Ab a2) : Int))) = I6 ↑(Ab a2 + 128), I6 ↑(Ab a2 + 128) = I6 ↑(128 + Ab a2)] (by kernel_rfl) (ob3 (by omega) (ac (bne_iff_ne.2 (by omega)) (ac (wj (by omega)) (ob3 (by omega) (ac (GV (by first | omega | decide)) (ac (cg (Ac (by omega) (by omega) (by omega))) (ao (cg (by omega)))))))))
 ·rw [if_pos h3]
  refine W.ret [(5, aT), (7, aV (I6 192)), (11, aK (I6 ↑(Ab a3))), (12, aV (I6 ↑(Ab a3 + 192)))] [] [(0 : Int) ≤ 3, 3 < (↑(4 : Nat) : Int), 3 < 4, ((a3:Int) != 0) = true, I6 (IntKind.wrap .i64 ((64 : Int) * (3 : Int))) = I6 192, (0 : Int) ≤ 3, 3 < (↑(4 : Nat) : Int), 3 < 4, Pt 104 [] [U6 a3] [] (I6 ↑(Ab a3)), I6 (IntKind.wrap .i64 (192 + (↑(Ab a3) : Int))) = I6 ↑(Ab a3 + 192), I6 ↑(Ab a3 + 192) = I6 ↑(192 + Ab a3)] (by kernel_rfl) (ob3 (by omega) (ac (bne_iff_ne.2 (by omega)) (ac (wj (by omega)) (ob3 (by omega) (ac (GV (by first | omega | decide)) (ac (cg (Ac (by omega) (by omega) (by omega))) (ao (cg (by omega)))))))))
end Go.Proofs
namespace Go.Pm
theorem FB {s : Nat} (hs : s ≤ 64) : 2 ^ s * 2 ^ (64 - s) = 18446744073709551616 := by
 rw [← Nat.pow_add, show s + (64 - s) = 64 by omega]
theorem MB {x y s : Nat} (hs : s ≤ 64) (hx : x < 18446744073709551616) : x / 2 ^ s ||| y * 2 ^ (64 - s) % 18446744073709551616 = (x + 18446744073709551616 * y) / 2 ^ s % 18446744073709551616 := by
 have hp := FB hs
 have hs0 := Nat.two_pow_pos s
 have ht0 := Nat.two_pow_pos (64 - s)
 generalize 2 ^ s = p at *
 have e1 : y * 2 ^ (64 - s) % 18446744073709551616 = 2 ^ (64 - s) * (y % p) := by
  rw [← hp, Nat.mul_comm y, Nat.mul_comm p, Nat.mul_mod_mul_left]
 have e2 : x / p < 2 ^ (64 - s) := by
  rw [Nat.div_lt_iff_lt_mul hs0, Nat.mul_comm, hp]; exact hx
 rw [e1, Nat.or_comm, ← Nat.two_pow_add_eq_or_of_lt e2]
 generalize 2 ^ (64 - s) = q at *
 have e3 : (x + 18446744073709551616 * y) / p = x / p + q * y := by
  rw [← hp, Nat.mul_assoc, Nat.add_mul_div_left _ _ hs0]
 have e4 : y = p * (y / p) + y % p := (Nat.div_add_mod y p).symm
 have e5 : q * y = q * (y % p) + 18446744073709551616 * (y / p) := by
  conv => lhs; rw [e4]
  rw [Nat.mul_add, ← Nat.mul_assoc, Nat.mul_comm q p, hp, Nat.add_comm]
 have e6 : y % p + 1 ≤ p := Nat.mod_lt _ hs0
 have e7 : q * (y % p + 1) ≤ q * p := Nat.mul_le_mul_left _ e6
 rw [Nat.mul_comm q p, hp, Nat.mul_add, Nat.mul_one] at e7
 have e8 : x / p + q * (y % p) < 18446744073709551616 := by omega
 rw [e3, e5, ← Nat.add_assoc, Nat.add_mul_mod_self_left, Nat.mod_eq_of_lt e8, Nat.add_comm]
theorem K8 {x y s : Nat} (hs : s ≤ 64) (hy : y < 18446744073709551616) : x * 2 ^ s % 18446744073709551616 ||| y / 2 ^ (64 - s) = x * 2 ^ s % 18446744073709551616 + y / 2 ^ (64 - s) := by
 have hp := FB hs
 have ht0 := Nat.two_pow_pos (64 - s)
 have e1 : x * 2 ^ s % 18446744073709551616 = 2 ^ s * (x % 2 ^ (64 - s)) := by
  rw [← hp, Nat.mul_comm x, Nat.mul_mod_mul_left]
 have e2 : y / 2 ^ (64 - s) < 2 ^ s := by
  rw [Nat.div_lt_iff_lt_mul ht0, hp]; exact hy
 rw [e1, ← Nat.two_pow_add_eq_or_of_lt e2]
theorem low_shr {x y z s : Nat} (hs : s ≤ 64) : (x + 18446744073709551616 * (y + 18446744073709551616 * z)) / 2 ^ s % 18446744073709551616 = (x + 18446744073709551616 * y) / 2 ^ s % 18446744073709551616 := by
 have hp := FB hs
 have hs0 := Nat.two_pow_pos s
 generalize 2 ^ s = p at *
 generalize 2 ^ (64 - s) = q at *
 have e : x + 18446744073709551616 * (y + 18446744073709551616 * z) = (x + 18446744073709551616 * y) + p * (q * 18446744073709551616 * z) := by
  rw [← Nat.mul_assoc p, ← Nat.mul_assoc p, hp, Nat.mul_add, ← Nat.mul_assoc]
  omega
 rw [e, Nat.add_mul_div_left _ _ hs0, Nat.mul_comm q, Nat.mul_assoc, Nat.add_mul_mod_self_left]
theorem Ka (a b c d : Nat) (ha : a < 18446744073709551616) : wu a b c d / 18446744073709551616 = wu b c d 0 := by unfold wu; omega
theorem Pb (a b c d s : Nat) (hs : s ≤ 64) : wu a b c d / 2 ^ s % 18446744073709551616 = (a + 18446744073709551616 * b) / 2 ^ s % 18446744073709551616 := low_shr hs
theorem PD {a b c d s : Nat} (hs : s ≤ 64) (ha : a < 18446744073709551616) (hb : b < 18446744073709551616) (hc : c < 18446744073709551616) (hd : d < 18446744073709551616) :
  uw (wu a b c d / 2 ^ s) = [((a / 2 ^ s ||| b * 2 ^ (64 - s) % 18446744073709551616 : Nat) : Int), ((b / 2 ^ s ||| c * 2 ^ (64 - s) % 18446744073709551616 : Nat) : Int), ((c / 2 ^ s ||| d * 2 ^ (64 - s) % 18446744073709551616 : Nat) : Int), ((d / 2 ^ s : Nat) : Int)] := by
 have key : ∀ v : Nat, v / 2 ^ s / 18446744073709551616 = v / 18446744073709551616 / 2 ^ s := fun v => by rw [Nat.div_div_eq_div_mul, Nat.mul_comm, ← Nat.div_div_eq_div_mul]
 unfold uw
 rw [key, key, key, Ka a b c d ha, Ka b c d 0 hb, Ka c d 0 0 hc, Pb _ _ _ _ s hs, Pb _ _ _ _ s hs, Pb _ _ _ _ s hs, Pb _ _ _ _ s hs, MB hs ha, MB hs hb, MB hs hc, Nat.mul_zero, Nat.add_zero, Nat.mod_eq_of_lt (Nat.lt_of_le_of_lt (Nat.div_le_self d _) hd)]
theorem GR (x s : Nat) (hs : s ≤ 64) : x * 2 ^ s = 18446744073709551616 * (x / 2 ^ (64 - s)) + x * 2 ^ s % 18446744073709551616 := by
 have hp := FB hs
 have hs0 := Nat.two_pow_pos s
 have : x * 2 ^ s / 18446744073709551616 = x / 2 ^ (64 - s) := by
  rw [← hp, Nat.mul_comm x, Nat.mul_div_mul_left _ _ hs0]
 rw [← this]
 exact (Nat.div_add_mod _ _).symm
theorem Pp {a b c d s : Nat} (hs : s ≤ 64) (ha : a < 18446744073709551616) (hb : b < 18446744073709551616) (hc : c < 18446744073709551616) :
  uw (wu a b c d * 2 ^ s % Aa) = [((a * 2 ^ s % 18446744073709551616 : Nat) : Int), ((b * 2 ^ s % 18446744073709551616 ||| a / 2 ^ (64 - s) : Nat) : Int), ((c * 2 ^ s % 18446744073709551616 ||| b / 2 ^ (64 - s) : Nat) : Int), ((d * 2 ^ s % 18446744073709551616 ||| c / 2 ^ (64 - s) : Nat) : Int)] := by
 rw [K8 hs ha, K8 hs hb, K8 hs hc]
 have ea := GR a s hs
 have eb := GR b s hs
 have ec := GR c s hs
 have ed := GR d s hs
 have hp := FB hs
 have ht0 := Nat.two_pow_pos (64 - s)
 have bound : ∀ x y : Nat, y < 18446744073709551616 → x * 2 ^ s % 18446744073709551616 + y / 2 ^ (64 - s) < 18446744073709551616 := by
  intro x y hy
  have e1 : x * 2 ^ s % 18446744073709551616 = 2 ^ s * (x % 2 ^ (64 - s)) := by
   rw [← hp, Nat.mul_comm x, Nat.mul_mod_mul_left]
  have e2 : y / 2 ^ (64 - s) < 2 ^ s := by
   rw [Nat.div_lt_iff_lt_mul ht0, hp]; exact hy
  have e3 : x % 2 ^ (64 - s) + 1 ≤ 2 ^ (64 - s) := Nat.mod_lt _ ht0
  have e4 := Nat.mul_le_mul_left (2 ^ s) e3
  rw [hp, Nat.mul_add, Nat.mul_one] at e4
  omega
 have b1 := bound b a ha
 have b2 := bound c b hb
 have b3 := bound d c hc
 have b0 : a * 2 ^ s % 18446744073709551616 < 18446744073709551616 := Nat.mod_lt _ (by omega)
 refine (I1 ?_ b0 b1 b2 b3).symm
 have hl := Gi b0 b1 b2 b3
 have e : wu a b c d * 2 ^ s = wu (a * 2 ^ s % 18446744073709551616) (b * 2 ^ s % 18446744073709551616 + a / 2 ^ (64 - s)) (c * 2 ^ s % 18446744073709551616 + b / 2 ^ (64 - s)) (d * 2 ^ s % 18446744073709551616 + c / 2 ^ (64 - s)) + Aa * (d / 2 ^ (64 - s)) := by
  have ex : wu a b c d * 2 ^ s = a * 2 ^ s + 18446744073709551616 * (b * 2 ^ s + 18446744073709551616 * (c * 2 ^ s + 18446744073709551616 * (d * 2 ^ s))) := by
   unfold wu
   simp only [Nat.add_mul, Nat.mul_assoc]
  rw [ex]
  unfold wu Aa
  generalize a * 2 ^ s = x0 at *
  generalize b * 2 ^ s = x1 at *
  generalize c * 2 ^ s = x2 at *
  generalize d * 2 ^ s = x3 at *
  generalize a / 2 ^ (64 - s) = c0 at *
  generalize b / 2 ^ (64 - s) = c1 at *
  generalize c / 2 ^ (64 - s) = c2 at *
  generalize d / 2 ^ (64 - s) = c3 at *
  omega
 rw [e, Nat.add_mul_mod_self_left, Nat.mod_eq_of_lt hl]
end Go.Pm
namespace Go.Proofs
open Go Go.Pe Go.Pm
set_option maxRecDepth 100000
set_option linter.unusedVariables false
set_option maxHeartbeats 4000000 in
theorem pc_shr0 {a0 a1 a2 a3 k s : Nat} {x : Int} (hm : mx x 0 = k) (p0 : a0 < 18446744073709551616) (p1 : a1 < 18446744073709551616) (p2 : a2 < 18446744073709551616) (p3 : a3 < 18446744073709551616) (hs0 : 0 < s) (hs : s < 64) (hk : k = 0 + s) : Pt 76 [] [.iarr .u64 4 [(a0 : Int), (a1 : Int), (a2 : Int), (a3 : Int)], .int .i64 x] [] (.iarr .u64 4 [((a0 / 2 ^ s ||| a1 * 2 ^ (64 - s) % 18446744073709551616 : Nat) : Int), ((a1 / 2 ^ s ||| a2 * 2 ^ (64 - s) % 18446744073709551616 : Nat) : Int), ((a2 / 2 ^ s ||| a3 * 2 ^ (64 - s) % 18446744073709551616 : Nat) : Int), ((a3 / 2 ^ s : Nat) : Int)]) := by
 refine pO Tryz.func76 (by kernel_rfl) ?_
 have hq : (k : Int).tdiv 64 = 0 := by rw [Int.tdiv_eq_ediv_of_nonneg (by omega)]; omega
 have hr : (k : Int).tmod 64 = (s : Int) := by rw [Int.tmod_eq_emod_of_nonneg (by omega)]; omega
 have d0 : a0 / 2 ^ s < 18446744073709551616 := Nat.lt_of_le_of_lt (Nat.div_le_self _ _) p0
 have d1 : a1 / 2 ^ s < 18446744073709551616 := Nat.lt_of_le_of_lt (Nat.div_le_self _ _) p1
 have d2 : a2 / 2 ^ s < 18446744073709551616 := Nat.lt_of_le_of_lt (Nat.div_le_self _ _) p2
 have d3 : a3 / 2 ^ s < 18446744073709551616 := Nat.lt_of_le_of_lt (Nat.div_le_self _ _) p3
 have h6 : (64 : Int) - s = ((64 - s : Nat) : Int) := by omega
 refine W.sgA 0 [(4, aV (I6 k)), (7, aF), (9, aV (I6 0)), (11, aV (I6 s))] [(64, 1), (80, 2), (96, 3)] (DS.mk [(2, PV.at 1 []), (4, PV.at 2 []), (5, PV.at 3 []), (6, I6 0), (7, I6 s), (8, I6 0)] [(1, Row.mk (B6 4 [(a0:Int), (a1:Int), (a2:Int), (a3:Int)]) false), (2, Row.mk (B6 4 [0, 0, 0, 0]) false), (3, Row.mk (B6 4 [0, 0, 0, 0]) false)]) [I6 (mx x (0 : Int)) = I6 k, decide ((k:Int) ≥ 256) = false, I6 (IntKind.wrap .i64 (Int.tdiv (k:Int) (64 : Int))) = I6 0, (64 : Int) ≠ 0, I6 (Int.tmod (k:Int) (64 : Int)) = I6 s, (64 : Int) ≠ 0] (ac (cg (hm)) (ac (dF (by omega)) (ac (cg (Ac hq (by omega) (by omega))) (ac (by omega) (ac (cg (hr)) (ao (by omega))))))) ?_
 refine W.sgA 0 [(2, aV (I6 0)), (7, aV (I6 0)), (11, aV (U6 ↑(a0 / 2 ^ s))), (16, aV (I6 0)), (17, aV (I6 1)), (21, aT), (28, aV (I6 0)), (29, aV (I6 1)), (33, aV (I6 ↑(64 - s))), (34, aV (U6 ↑(a1 * 2 ^ (64 - s) % 18446744073709551616))), (35, aV (U6 ↑(a0 / 2 ^ s ||| a1 * 2 ^ (64 - s) % 18446744073709551616))), (39, aV (I6 1))] (rI 3) (DS.mk [(2, PV.at 1 []), (4, PV.at 2 []), (5, PV.at 3 []), (6, I6 0), (7, I6 s), (8, I6 1)] [(1, Row.mk (B6 4 [(a0:Int), (a1:Int), (a2:Int), (a3:Int)]) false), (2, Row.mk (B6 4 [0, 0, 0, 0]) false), (3, Row.mk (B6 4 [(↑(a0 / 2 ^ s ||| a1 * 2 ^ (64 - s) % 18446744073709551616) : Int), 0, 0, 0]) false)]) [I6 (IntKind.wrap .i64 ((0 : Int) + (0 : Int))) = I6 0, I6 (IntKind.wrap .i64 ((0 : Int) + (0 : Int))) = I6 0, (0 : Int) ≤ 0, 0 < (↑(4 : Nat) : Int), 0 < 4, U6 (Int.fdiv (a0:Int) ((2 : Int) ^ min s 64)) = U6 ↑(a0 / 2 ^ s), 0 ≤ (s:Int), (0 : Int) ≤ 0, 0 < (↑(4 : Nat) : Int), 0 < 4, I6 (IntKind.wrap .i64 ((0 : Int) + (0 : Int))) = I6 0, I6 (IntKind.wrap .i64 ((0 : Int) + (1 : Int))) = I6 1, decide ((s:Int) > 0) = true, (0 : Int) ≤ 0, 0 < (↑(4 : Nat) : Int), 0 < 4, I6 (IntKind.wrap .i64 ((0 : Int) + (0 : Int))) = I6 0, I6 (IntKind.wrap .i64 ((0 : Int) + (1 : Int))) = I6 1, (0 : Int) ≤ 1, 1 < (↑(4 : Nat) : Int), 1 < 4, I6 (IntKind.wrap .i64 (64 - (s:Int))) = I6 ↑(64 - s), U6 (IntKind.wrap .u64 ((a1:Int) * (2 : Int) ^ min (Int.toNat (↑(64 - s) : Int)) 64)) = U6 ↑(a1 * 2 ^ (64 - s) % 18446744073709551616), 0 ≤ (↑(64 - s) : Int), U6 (bits BinOp.or .u64 (↑(a0 / 2 ^ s) : Int) (↑(a1 * 2 ^ (64 - s) % 18446744073709551616) : Int)) = U6 ↑(a0 / 2 ^ s ||| a1 * 2 ^ (64 - s) % 18446744073709551616), (0 : Int) ≤ 0, 0 < (↑(4 : Nat) : Int), 0 < 4, I6 (IntKind.wrap .i64 ((0 : Int) + (1 : Int))) = I6 1] (ac (wj (by omega)) (ac (wj (by omega)) (ob3 (by omega) (ac (cg (AL rfl rfl (by omega))) (ob4 (by omega) (ac (wj (by omega)) (ac (wj (by omega)) (ac (dT (by omega)) (ob3 (by omega) (ac (wj (by omega)) (ac (wj (by omega)) (ob3 (by omega) (ac (cg (Ac h6 (by omega) (by omega))) (ac (cg (Bt rfl rfl)) (ac (by omega) (ac (cg (BF rfl rfl (by omega) (by omega))) (ob3 (by omega) (ao (wj (by omega)))))))))))))))))))) ?_
 refine W.sgA 0 [(2, aV (I6 1)), (7, aV (I6 1)), (11, aV (U6 ↑(a1 / 2 ^ s))), (16, aV (I6 1)), (17, aV (I6 2)), (21, aT), (28, aV (I6 1)), (29, aV (I6 2)), (33, aV (I6 ↑(64 - s))), (34, aV (U6 ↑(a2 * 2 ^ (64 - s) % 18446744073709551616))), (35, aV (U6 ↑(a1 / 2 ^ s ||| a2 * 2 ^ (64 - s) % 18446744073709551616))), (39, aV (I6 2))] (rI 3) (DS.mk [(2, PV.at 1 []), (4, PV.at 2 []), (5, PV.at 3 []), (6, I6 0), (7, I6 s), (8, I6 2)] [(1, Row.mk (B6 4 [(a0:Int), (a1:Int), (a2:Int), (a3:Int)]) false), (2, Row.mk (B6 4 [0, 0, 0, 0]) false), (3, Row.mk (B6 4 [(↑(a0 / 2 ^ s ||| a1 * 2 ^ (64 - s) % 18446744073709551616) : Int), (↑(a1 / 2 ^ s ||| a2 * 2 ^ (64 - s) % 18446744073709551616) : Int), 0, 0]) false)]) [I6 (IntKind.wrap .i64 ((1 : Int) + (0 : Int))) = I6 1, I6 (IntKind.wrap .i64 ((1 : Int) + (0 : Int))) = I6 1, (0 : Int) ≤ 1, 1 < (↑(4 : Nat) : Int), 1 < 4, U6 (Int.fdiv (a1:Int) ((2 : Int) ^ min s 64)) = U6 ↑(a1 / 2 ^ s), 0 ≤ (s:Int), (0 : Int) ≤ 1, 1 < (↑(4 : Nat) : Int), 1 < 4, I6 (IntKind.wrap .i64 ((1 : Int) + (0 : Int))) = I6 1, I6 (IntKind.wrap .i64 ((1 : Int) + (1 : Int))) = I6 2, decide ((s:Int) > 0) = true, (0 : Int) ≤ 1, 1 < (↑(4 : Nat) : Int), 1 < 4, I6 (IntKind.wrap .i64 ((1 : Int) + (0 : Int))) = I6 1, I6 (IntKind.wrap .i64 ((1 : Int) + (1 : Int))) = I6 2, (0 : Int) ≤ 2, 2 < (↑(4 : Nat) : Int), 2 < 4, I6 (IntKind.wrap .i64 (64 - (s:Int))) = I6 ↑(64 - s), U6 (IntKind.wrap .u64 ((a2:Int) * (2 : Int) ^ min (Int.toNat (↑(64 - s) : Int)) 64)) = U6 ↑(a2 * 2 ^ (64 - s) % 18446744073709551616), 0 ≤ (↑(64 - s) : Int), U6 (bits BinOp.or .u64 (↑(a1 / 2 ^ s) : Int) (↑(a2 * 2 ^ (64 - s) % 18446744073709551616) : Int)) = U6 ↑(a1 / 2 ^ s ||| a2 * 2 ^ (64 - s) % 18446744073709551616), (0 : Int) ≤ 1, 1 < (↑(4 : Nat) : Int), 1 < 4, I6 (IntKind.wrap .i64 ((1 : Int) + (1 : Int))) = I6 2] (ac (wj (by omega)) (ac (wj (by omega)) (ob3 (by omega) (ac (cg (AL rfl rfl (by omega))) (ob4 (by omega) (ac (wj (by omega)) (ac (wj (by omega)) (ac (dT (by omega)) (ob3 (by omega) (ac (wj (by omega)) (ac (wj (by omega)) (ob3 (by omega) (ac (cg (Ac h6 (by omega) (by omega))) (ac (cg (Bt rfl rfl)) (ac (by omega) (ac (cg (BF rfl rfl (by omega) (by omega))) (ob3 (by omega) (ao (wj (by omega)))))))))))))))))))) ?_
 refine W.sgA 0 [(2, aV (I6 2)), (7, aV (I6 2)), (11, aV (U6 ↑(a2 / 2 ^ s))), (16, aV (I6 2)), (17, aV (I6 3)), (21, aT), (28, aV (I6 2)), (29, aV (I6 3)), (33, aV (I6 ↑(64 - s))), (34, aV (U6 ↑(a3 * 2 ^ (64 - s) % 18446744073709551616))), (35, aV (U6 ↑(a2 / 2 ^ s ||| a3 * 2 ^ (64 - s) % 18446744073709551616))), (39, aV (I6 3))] (rI 3) (DS.mk [(2, PV.at 1 []), (4, PV.at 2 []), (5, PV.at 3 []), (6, I6 0), (7, I6 s), (8, I6 3)] [(1, Row.mk (B6 4 [(a0:Int), (a1:Int), (a2:Int), (a3:Int)]) false), (2, Row.mk (B6 4 [0, 0, 0, 0]) false), (3, Row.mk (B6 4 [(↑(a0 / 2 ^ s ||| a1 * 2 ^ (64 - s) % 18446744073709551616) : Int), (↑(a1 / 2 ^ s ||| a2 * 2 ^ (64 - s) % 18446744073709551616) : Int), (↑(a2 / 2 ^ s ||| a3 * 2 ^ (64 - s) % 18446744073709551616) : Int), 0]) false)]) [I6 (IntKind.wrap .i64 ((2 : Int) + (0 : Int))) = I6 2, I6 (IntKind.wrap .i64 ((2 : Int) + (0 : Int))) = I6 2, (0 : Int) ≤ 2, 2 < (↑(4 : Nat) : Int), 2 < 4, U6 (Int.fdiv (a2:Int) ((2 : Int) ^ min s 64)) = U6 ↑(a2 / 2 ^ s), 0 ≤ (s:Int), (0 : Int) ≤ 2, 2 < (↑(4 : Nat) : Int), 2 < 4, I6 (IntKind.wrap .i64 ((2 : Int) + (0 : Int))) = I6 2, I6 (IntKind.wrap .i64 ((2 : Int) + (1 : Int))) = I6 3, decide ((s:Int) > 0) = true, (0 : Int) ≤ 2, 2 < (↑(4 : Nat) : Int), 2 < 4, I6 (IntKind.wrap .i64 ((2 : Int) + (0 : Int))) = I6 2, I6 (IntKind.wrap .i64 ((2 : Int) + (1 : Int))) = I6 3, (0 : Int) ≤ 3, 3 < (↑(4 : Nat) : Int), 3 < 4, I6 (IntKind.wrap .i64 (64 - (s:Int))) = I6 ↑(64 - s), U6 (IntKind.wrap .u64 ((a3:Int) * (2 : Int) ^ min (Int.toNat (↑(64 - s) : Int)) 64)) = U6 ↑(a3 * 2 ^ (64 - s) % 18446744073709551616), 0 ≤ (↑(64 - s) : Int), U6 (bits BinOp.or .u64 (↑(a2 / 2 ^ s) : Int) (↑(a3 * 2 ^ (64 - s) % 18446744073709551616) : Int)) = U6 ↑(a2 / 2 ^ s ||| a3 * 2 ^ (64 - s) % 18446744073709551616), (0 : Int) ≤ 2, 2 < (↑(4 : Nat) : Int), 2 < 4, I6 (IntKind.wrap .i64 ((2 : Int) + (1 : Int))) = I6 3] (ac (wj (by omega)) (ac (wj (by omega)) (ob3 (by omega) (ac (cg (AL rfl rfl (by omega))) (ob4 (by omega) (ac (wj (by omega)) (ac (wj (by omega)) (ac (dT (by omega)) (ob3 (by omega) (ac (wj (by omega)) (ac (wj (by omega)) (ob3 (by omega) (ac (cg (Ac h6 (by omega) (by omega))) (ac (cg (Bt rfl rfl)) (ac (by omega) (ac (cg (BF rfl rfl (by omega) (by omega))) (ob3 (by omega) (ao (wj (by omega)))))))))))))))))))) ?_
 refine W.sgA 0 [(2, aV (I6 3)), (7, aV (I6 3)), (11, aV (U6 ↑(a3 / 2 ^ s))), (16, aV (I6 3)), (17, aV (I6 4)), (24, aV (I6 4))] (rI 3) (DS.mk [(2, PV.at 1 []), (4, PV.at 2 []), (5, PV.at 3 []), (6, I6 0), (7, I6 s), (8, I6 4)] [(1, Row.mk (B6 4 [(a0:Int), (a1:Int), (a2:Int), (a3:Int)]) false), (2, Row.mk (B6 4 [0, 0, 0, 0]) false), (3, Row.mk (B6 4 [(↑(a0 / 2 ^ s ||| a1 * 2 ^ (64 - s) % 18446744073709551616) : Int), (↑(a1 / 2 ^ s ||| a2 * 2 ^ (64 - s) % 18446744073709551616) : Int), (↑(a2 / 2 ^ s ||| a3 * 2 ^ (64 - s) % 18446744073709551616) : Int), (↑(a3 / 2 ^ s) : Int)]) false)]) [I6 (IntKind.wrap .i64 ((3 : Int) + (0 : Int))) = I6 3, I6 (IntKind.wrap .i64 ((3 : Int) + (0 : Int))) = I6 3, (0 : Int) ≤ 3, 3 < (↑(4 : Nat) : Int), 3 < 4, U6 (Int.fdiv (a3:Int) ((2 : Int) ^ min s 64)) = U6 ↑(a3 / 2 ^ s), 0 ≤ (s:Int), (0 : Int) ≤ 3, 3 < (↑(4 : Nat) : Int), 3 < 4, I6 (IntKind.wrap .i64 ((3 : Int) + (0 : Int))) = I6 3, I6 (IntKind.wrap .i64 ((3 : Int) + (1 : Int))) = I6 4, I6 (IntKind.wrap .i64 ((3 : Int) + (1 : Int))) = I6 4] (ac (wj (by omega)) (ac (wj (by omega)) (ob3 (by omega) (ac (cg (AL rfl rfl (by omega))) (ob4 (by omega) (ac (wj (by omega)) (ac (wj (by omega)) (ao (wj (by omega)))))))))) ?_
 refine W.rtA [(2, aV (I6 4))] [] [I6 (IntKind.wrap .i64 ((4 : Int) + (0 : Int))) = I6 4] (ao (wj (by omega)))
 all_goals first | rfl | (simp; done)
set_option maxHeartbeats 4000000 in
theorem V5 {a0 a1 a2 a3 k s : Nat} {x : Int} (hm : mx x 0 = k) (p0 : a0 < 18446744073709551616) (p1 : a1 < 18446744073709551616) (p2 : a2 < 18446744073709551616) (p3 : a3 < 18446744073709551616) (hk : k = 0 + 0) : Pt 76 [] [.iarr .u64 4 [(a0 : Int), (a1 : Int), (a2 : Int), (a3 : Int)], .int .i64 x] [] (.iarr .u64 4 [((a0 : Nat) : Int), ((a1 : Nat) : Int), ((a2 : Nat) : Int), ((a3 : Nat) : Int)]) := by
 refine pO Tryz.func76 (by kernel_rfl) ?_
 have hq : (k : Int).tdiv 64 = 0 := by rw [Int.tdiv_eq_ediv_of_nonneg (by omega)]; omega
 have hr : (k : Int).tmod 64 = 0 := by rw [Int.tmod_eq_emod_of_nonneg (by omega)]; omega
 refine W.sgA 0 [(4, aV (I6 k)), (7, aF), (9, aV (I6 0)), (11, aV (I6 0))] [(64, 1), (80, 2), (96, 3)] (DS.mk [(2, PV.at 1 []), (4, PV.at 2 []), (5, PV.at 3 []), (6, I6 0), (7, I6 0), (8, I6 0)] [(1, Row.mk (B6 4 [(a0:Int), (a1:Int), (a2:Int), (a3:Int)]) false), (2, Row.mk (B6 4 [0, 0, 0, 0]) false), (3, Row.mk (B6 4 [0, 0, 0, 0]) false)]) [I6 (mx x (0 : Int)) = I6 k, decide ((k:Int) ≥ 256) = false, I6 (IntKind.wrap .i64 (Int.tdiv (k:Int) (64 : Int))) = I6 0, (64 : Int) ≠ 0, I6 (Int.tmod (k:Int) (64 : Int)) = I6 0, (64 : Int) ≠ 0] (ac (cg (hm)) (ac (dF (by omega)) (ac (cg (Ac hq (by omega) (by omega))) (ac (by omega) (ac (cg (hr)) (ao (by omega))))))) ?_
 refine W.sgA 0 [(2, aV (I6 0)), (7, aV (I6 0)), (11, aV (U6 ↑(a0 / 1))), (16, aV (I6 0)), (17, aV (I6 1)), (24, aV (I6 1))] (rI 3) (DS.mk [(2, PV.at 1 []), (4, PV.at 2 []), (5, PV.at 3 []), (6, I6 0), (7, I6 0), (8, I6 1)] [(1, Row.mk (B6 4 [(a0:Int), (a1:Int), (a2:Int), (a3:Int)]) false), (2, Row.mk (B6 4 [0, 0, 0, 0]) false), (3, Row.mk (B6 4 [(↑(a0 / 1) : Int), 0, 0, 0]) false)]) [I6 (IntKind.wrap .i64 ((0 : Int) + (0 : Int))) = I6 0, I6 (IntKind.wrap .i64 ((0 : Int) + (0 : Int))) = I6 0, (0 : Int) ≤ 0, 0 < (↑(4 : Nat) : Int), 0 < 4, U6 (Int.fdiv (a0:Int) ((2 : Int) ^ 0)) = U6 ↑(a0 / 1), (0 : Int) ≤ 0, (0 : Int) ≤ 0, 0 < (↑(4 : Nat) : Int), 0 < 4, I6 (IntKind.wrap .i64 ((0 : Int) + (0 : Int))) = I6 0, I6 (IntKind.wrap .i64 ((0 : Int) + (1 : Int))) = I6 1, I6 (IntKind.wrap .i64 ((0 : Int) + (1 : Int))) = I6 1] (ac (wj (by omega)) (ac (wj (by omega)) (ob3 (by omega) (ac (cg (Am (y := 0) (s := 0) rfl rfl (by decide) (by omega))) (ob4 (by omega) (ac (wj (by omega)) (ac (wj (by omega)) (ao (wj (by omega)))))))))) ?_
 refine W.sgA 0 [(2, aV (I6 1)), (7, aV (I6 1)), (11, aV (U6 ↑(a1 / 1))), (16, aV (I6 1)), (17, aV (I6 2)), (24, aV (I6 2))] (rI 3) (DS.mk [(2, PV.at 1 []), (4, PV.at 2 []), (5, PV.at 3 []), (6, I6 0), (7, I6 0), (8, I6 2)] [(1, Row.mk (B6 4 [(a0:Int), (a1:Int), (a2:Int), (a3:Int)]) false), (2, Row.mk (B6 4 [0, 0, 0, 0]) false), (3, Row.mk (B6 4 [(↑(a0 / 1) : Int), (↑(a1 / 1) : Int), 0, 0]) false)]) [I6 (IntKind.wrap .i64 ((1 : Int) + (0 : Int))) = I6 1, I6 (IntKind.wrap .i64 ((1 : Int) + (0 : Int))) = I6 1, (0 : Int) ≤ 1, 1 < (↑(4 : Nat) : Int), 1 < 4, U6 (Int.fdiv (a1:Int) ((2 : Int) ^ 0)) = U6 ↑(a1 / 1), (0 : Int) ≤ 0, (0 : Int) ≤ 1, 1 < (↑(4 : Nat) : Int), 1 < 4, I6 (IntKind.wrap .i64 ((1 : Int) + (0 : Int))) = I6 1, I6 (IntKind.wrap .i64 ((1 : Int) + (1 : Int))) = I6 2, I6 (IntKind.wrap .i64 ((1 : Int) + (1 : Int))) = I6 2] (ac (wj (by omega)) (ac (wj (by omega)) (ob3 (by omega) (ac (cg (Am (y := 0) (s := 0) rfl rfl (by decide) (by omega))) (ob4 (by omega) (ac (wj (by omega)) (ac (wj (by omega)) (ao (wj (by omega)))))))))) ?_
 refine W.sgA 0 [(2, aV (I6 2)), (7, aV (I6 2)), (11, aV (U6 ↑(a2 / 1))), (16, aV (I6 2)), (17, aV (I6 3)), (24, aV (I6 3))] (rI 3) (DS.mk [(2, PV.at 1 []), (4, PV.at 2 []), (5, PV.at 3 []), (6, I6 0), (7, I6 0), (8, I6 3)] [(1, Row.mk (B6 4 [(a0:Int), (a1:Int), (a2:Int), (a3:Int)]) false), (2, Row.mk (B6 4 [0, 0, 0, 0]) false), (3, Row.mk (B6 4 [(↑(a0 / 1) : Int), (↑(a1 / 1) : Int), (↑(a2 / 1) : Int), 0]) false)]) [I6 (IntKind.wrap .i64 ((2 : Int) + (0 : Int))) = I6 2, I6 (IntKind.wrap .i64 ((2 : Int) + (0 : Int))) = I6 2, (0 : Int) ≤ 2, 2 < (↑(4 : Nat) : Int), 2 < 4, U6 (Int.fdiv (a2:Int) ((2 : Int) ^ 0)) = U6 ↑(a2 / 1), (0 : Int) ≤ 0, (0 : Int) ≤ 2, 2 < (↑(4 : Nat) : Int), 2 < 4, I6 (IntKind.wrap .i64 ((2 : Int) + (0 : Int))) = I6 2, I6 (IntKind.wrap .i64 ((2 : Int) + (1 : Int))) = I6 3, I6 (IntKind.wrap .i64 ((2 : Int) + (1 : Int))) = I6 3] (ac (wj (by omega)) (ac (wj (by omega)) (ob3 (by omega) (ac (cg (Am (y := 0) (s := 0) rfl rfl (by decide) (by omega))) (ob4 (by omega) (ac (wj (by omega)) (ac (wj (by omega)) (ao (wj (by omega)))))))))) ?_
 refine W.sgA 0 [(2, aV (I6 3)), (7, aV (I6 3)), (11, aV (U6 ↑(a3 / 1))), (16, aV (I6 3)), (17, aV (I6 4)), (24, aV (I6 4))] (rI 3) (DS.mk [(2, PV.at 1 []), (4, PV.at 2 []), (5, PV.at 3 []), (6, I6 0), (7, I6 0), (8, I6 4)] [(1, Row.mk (B6 4 [(a0:Int), (a1:Int), (a2:Int), (a3:Int)]) false), (2, Row.mk (B6 4 [0, 0, 0, 0]) false), (3, Row.mk (B6 4 [(↑(a0 / 1) : Int), (↑(a1 / 1) : Int), (↑(a2 / 1) : Int), (↑(a3 / 1) : Int)]) false)]) [I6 (IntKind.wrap .i64 ((3 : Int) + (0 : Int))) = I6 3, I6 (IntKind.wrap .i64 ((3 : Int) + (0 : Int))) = I6 3, (0 : Int) ≤ 3, 3 < (↑(4 : Nat) : Int), 3 < 4, U6 (Int.fdiv (a3:Int) ((2 : Int) ^ 0)) = U6 ↑(a3 / 1), (0 : Int) ≤ 0, (0 : Int) ≤ 3, 3 < (↑(4 : Nat) : Int), 3 < 4, I6 (IntKind.wrap .i64 ((3 : Int) + (0 : Int))) = I6 3, I6 (IntKind.wrap .i64 ((3 : Int) + (1 : Int))) = I6 4, I6 (IntKind.wrap .i64 ((3 : Int) + (1 : Int))) = I6 4] (ac (wj (by omega)) (ac (wj (by omega)) (ob3 (by omega) (ac (cg (Am (y := 0) (s := 0) rfl rfl (by decide) (by omega))) (ob4 (by omega) (ac (wj (by omega)) (ac (wj (by omega)) (ao (wj (by omega)))))))))) ?_
 refine W.ret [(2, aV (I6 4))] [] [I6 (IntKind.wrap .i64 ((4 : Int) + (0 : Int))) = I6 4, B6 4 [(↑(a0 / 1) : Int), (↑(a1 / 1) : Int), (↑(a2 / 1) : Int), (↑(a3 / 1) : Int)] = B6 4 [(a0:Int), (a1:Int), (a2:Int), (a3:Int)]] (by kernel_rfl) (ac (wj (by omega)) (ao (by (simp; done))))
 all_goals first | rfl | (simp; done)
set_option maxHeartbeats 4000000 in
theorem pc_shr1 {a0 a1 a2 a3 k s : Nat} {x : Int} (hm : mx x 0 = k) (p0 : a0 < 18446744073709551616) (p1 : a1 < 18446744073709551616) (p2 : a2 < 18446744073709551616) (p3 : a3 < 18446744073709551616) (hs0 : 0 < s) (hs : s < 64) (hk : k = 64 + s) : Pt 76 [] [.iarr .u64 4 [(a0 : Int), (a1 : Int), (a2 : Int), (a3 : Int)], .int .i64 x] [] (.iarr .u64 4 [((a1 / 2 ^ s ||| a2 * 2 ^ (64 - s) % 18446744073709551616 : Nat) : Int), ((a2 / 2 ^ s ||| a3 * 2 ^ (64 - s) % 18446744073709551616 : Nat) : Int), ((a3 / 2 ^ s : Nat) : Int), ((0 : Nat) : Int)]) := by
 refine pO Tryz.func76 (by kernel_rfl) ?_
 have hq : (k : Int).tdiv 64 = 1 := by rw [Int.tdiv_eq_ediv_of_nonneg (by omega)]; omega
 have hr : (k : Int).tmod 64 = (s : Int) := by rw [Int.tmod_eq_emod_of_nonneg (by omega)]; omega
 have d0 : a0 / 2 ^ s < 18446744073709551616 := Nat.lt_of_le_of_lt (Nat.div_le_self _ _) p0
 have d1 : a1 / 2 ^ s < 18446744073709551616 := Nat.lt_of_le_of_lt (Nat.div_le_self _ _) p1
 have d2 : a2 / 2 ^ s < 18446744073709551616 := Nat.lt_of_le_of_lt (Nat.div_le_self _ _) p2
 have d3 : a3 / 2 ^ s < 18446744073709551616 := Nat.lt_of_le_of_lt (Nat.div_le_self _ _) p3
 have h6 : (64 : Int) - s = ((64 - s : Nat) : Int) := by omega
 refine W.sgA 0 [(4, aV (I6 k)), (7, aF), (9, aV (I6 1)), (11, aV (I6 s))] [(64, 1), (80, 2), (96, 3)] (DS.mk [(2, PV.at 1 []), (4, PV.at 2 []), (5, PV.at 3 []), (6, I6 1), (7, I6 s), (8, I6 0)] [(1, Row.mk (B6 4 [(a0:Int), (a1:Int), (a2:Int), (a3:Int)]) false), (2, Row.mk (B6 4 [0, 0, 0, 0]) false), (3, Row.mk (B6 4 [0, 0, 0, 0]) false)]) [I6 (mx x (0 : Int)) = I6 k, decide ((k:Int) ≥ 256) = false, I6 (IntKind.wrap .i64 (Int.tdiv (k:Int) (64 : Int))) = I6 1, (64 : Int) ≠ 0, I6 (Int.tmod (k:Int) (64 : Int)) = I6 s, (64 : Int) ≠ 0] (ac (cg (hm)) (ac (dF (by omega)) (ac (cg (Ac hq (by omega) (by omega))) (ac (by omega) (ac (cg (hr)) (ao (by omega))))))) ?_
 refine W.sgA 0 [(2, aV (I6 1)), (7, aV (I6 1)), (11, aV (U6 ↑(a1 / 2 ^ s))), (16, aV (I6 1)), (17, aV (I6 2)), (21, aT), (28, aV (I6 1)), (29, aV (I6 2)), (33, aV (I6 ↑(64 - s))), (34, aV (U6 ↑(a2 * 2 ^ (64 - s) % 18446744073709551616))), (35, aV (U6 ↑(a1 / 2 ^ s ||| a2 * 2 ^ (64 - s) % 18446744073709551616))), (39, aV (I6 1))] (rI 3) (DS.mk [(2, PV.at 1 []), (4, PV.at 2 []), (5, PV.at 3 []), (6, I6 1), (7, I6 s), (8, I6 1)] [(1, Row.mk (B6 4 [(a0:Int), (a1:Int), (a2:Int), (a3:Int)]) false), (2, Row.mk (B6 4 [0, 0, 0, 0]) false), (3, Row.mk (B6 4 [(↑(a1 / 2 ^ s ||| a2 * 2 ^ (64 - s) % 18446744073709551616) : Int), 0, 0, 0]) false)]) [I6 (IntKind.wrap .i64 ((0 : Int) + (1 : Int))) = I6 1, I6 (IntKind.wrap .i64 ((0 : Int) + (1 : Int))) = I6 1, (0 : Int) ≤ 1, 1 < (↑(4 : Nat) : Int), 1 < 4, U6 (Int.fdiv (a1:Int) ((2 : Int) ^ min s 64)) = U6 ↑(a1 / 2 ^ s), 0 ≤ (s:Int), (0 : Int) ≤ 0, 0 < (↑(4 : Nat) : Int), 0 < 4, I6 (IntKind.wrap .i64 ((0 : Int) + (1 : Int))) = I6 1, I6 (IntKind.wrap .i64 ((1 : Int) + (1 : Int))) = I6 2, decide ((s:Int) > 0) = true, (0 : Int) ≤ 0, 0 < (↑(4 : Nat) : Int), 0 < 4, I6 (IntKind.wrap .i64 ((0 : Int) + (1 : Int))) = I6 1, I6 (IntKind.wrap .i64 ((1 : Int) + (1 : Int))) = I6 2, (0 : Int) ≤ 2, 2 < (↑(4 : Nat) : Int), 2 < 4, I6 (IntKind.wrap .i64 (64 - (s:Int))) = I6 ↑(64 - s), U6 (IntKind.wrap .u64 ((a2:Int) * (2 : Int) ^ min (Int.toNat (↑(64 - s) : Int)) 64)) = U6 ↑(a2 * 2 ^ (64 - s) % 18446744073709551616), 0 ≤ (↑(64 - s) : Int), U6 (bits BinOp.or .u64 (↑(a1 / 2 ^ s) : Int) (↑(a2 * 2 ^ (64 - s) % 18446744073709551616) : Int)) = U6 ↑(a1 / 2 ^ s ||| a2 * 2 ^ (64 - s) % 18446744073709551616), (0 : Int) ≤ 0, 0 < (↑(4 : Nat) : Int), 0 < 4, I6 (IntKind.wrap .i64 ((0 : Int) + (1 : Int))) = I6 1] (ac (wj (by omega)) (ac (wj (by omega)) (ob3 (by omega) (ac (cg (AL rfl rfl (by omega))) (ob4 (by omega) (ac (wj (by omega)) (ac (wj (by omega)) (ac (dT (by omega)) (ob3 (by omega) (ac (wj (by omega)) (ac (wj (by omega)) (ob3 (by omega) (ac (cg (Ac h6 (by omega) (by omega))) (ac (cg (Bt rfl rfl)) (ac (by omega) (ac (cg (BF rfl rfl (by omega) (by omega))) (ob3 (by omega) (ao (wj (by omega)))))))))))))))))))) ?_
 refine W.sgA 0 [(2, aV (I6 2)), (7, aV (I6 2)), (11, aV (U6 ↑(a2 / 2 ^ s))), (16, aV (I6 2)), (17, aV (I6 3)), (21, aT), (28, aV (I6 2)), (29, aV (I6 3)), (33, aV (I6 ↑(64 - s))), (34, aV (U6 ↑(a3 * 2 ^ (64 - s) % 18446744073709551616))), (35, aV (U6 ↑(a2 / 2 ^ s ||| a3 * 2 ^ (64 - s) % 18446744073709551616))), (39, aV (I6 2))] (rI 3) (DS.mk [(2, PV.at 1 []), (4, PV.at 2 []), (5, PV.at 3 []), (6, I6 1), (7, I6 s), (8, I6 2)] [(1, Row.mk (B6 4 [(a0:Int), (a1:Int), (a2:Int), (a3:Int)]) false), (2, Row.mk (B6 4 [0, 0, 0, 0]) false), (3, Row.mk (B6 4 [(↑(a1 / 2 ^ s ||| a2 * 2 ^ (64 - s) % 18446744073709551616) : Int), (↑(a2 / 2 ^ s ||| a3 * 2 ^ (64 - s) % 18446744073709551616) : Int), 0, 0]) false)]) [I6 (IntKind.wrap .i64 ((1 : Int) + (1 : Int))) = I6 2, I6 (IntKind.wrap .i64 ((1 : Int) + (1 : Int))) = I6 2, (0 : Int) ≤ 2, 2 < (↑(4 : Nat) : Int), 2 < 4, U6 (Int.fdiv (a2:Int) ((2 : Int) ^ min s 64)) = U6 ↑(a2 / 2 ^ s), 0 ≤ (s:Int), (0 : Int) ≤ 1, 1 < (↑(4 : Nat) : Int), 1 < 4, I6 (IntKind.wrap .i64 ((1 : Int) + (1 : Int))) = I6 2, I6 (IntKind.wrap .i64 ((2 : Int) + (1 : Int))) = I6 3, decide ((s:Int) > 0) = true, (0 : Int) ≤ 1, 1 < (↑(4 : Nat) : Int), 1 < 4, I6 (IntKind.wrap .i64 ((1 : Int) + (1 : Int))) = I6 2, I6 (IntKind.wrap .i64 ((2 : Int) + (1 : Int))) = I6 3, (0 : Int) ≤ 3, 3 < (↑(4 : Nat) : Int), 3 < 4, I6 (IntKind.wrap .i64 (64 - (s:Int))) = I6 ↑(64 - s), U6 (IntKind.wrap .u64 ((a3:Int) * (2 : Int) ^ min (Int.toNat (↑(64 - s) : Int)) 64)) = U6 ↑(a3 * 2 ^ (64 - s) % 18446744073709551616), 0 ≤ (↑(64 - s) : Int), U6 (bits BinOp.or .u64 (↑(a2 / 2 ^ s) : Int) (↑(a3 * 2 ^ (64 - s) % 18446744073709551616) : Int)) = U6 ↑(a2 / 2 ^ s ||| a3 * 2 ^ (64 - s) % 18446744073709551616), (0 : Int) ≤ 1, 1 < (↑(4 : Nat) : Int), 1 < 4, I6 (IntKind.wrap .i64 ((1 : Int) + (1 : Int))) = I6 2] (ac (wj (by omega)) (ac (wj (by omega)) (ob3 (by omega) (ac (cg (AL rfl rfl (by omega))) (ob4 (by omega) (ac (wj (by omega)) (ac (wj (by omega)) (ac (dT (by omega)) (ob3 (by omega) (ac (wj (by omega)) (ac (wj (by omega)) (ob3 (by omega) (ac (cg (Ac h6 (by omega) (by omega))) (ac (cg (Bt rfl rfl)) (ac (by omega) (ac (cg (BF rfl rfl (by omega) (by omega))) (ob3 (by omega) (ao (wj (by omega)))))))))))))))))))) ?_
 refine W.sgA 0 [(2, aV (I6 3)), (7, aV (I6 3)), (11, aV (U6 ↑(a3 / 2 ^ s))), (16, aV (I6 3)), (17, aV (I6 4)), (24, aV (I6 3))] (rI 3) (DS.mk [(2, PV.at 1 []), (4, PV.at 2 []), (5, PV.at 3 []), (6, I6 1), (7, I6 s), (8, I6 3)] [(1, Row.mk (B6 4 [(a0:Int), (a1:Int), (a2:Int), (a3:Int)]) false), (2, Row.mk (B6 4 [0, 0, 0, 0]) false), (3, Row.mk (B6 4 [(↑(a1 / 2 ^ s ||| a2 * 2 ^ (64 - s) % 18446744073709551616) : Int), (↑(a2 / 2 ^ s ||| a3 * 2 ^ (64 - s) % 18446744073709551616) : Int), (↑(a3 / 2 ^ s) : Int), 0]) false)]) [I6 (IntKind.wrap .i64 ((2 : Int) + (1 : Int))) = I6 3, I6 (IntKind.wrap .i64 ((2 : Int) + (1 : Int))) = I6 3, (0 : Int) ≤ 3, 3 < (↑(4 : Nat) : Int), 3 < 4, U6 (Int.fdiv (a3:Int) ((2 : Int) ^ min s 64)) = U6 ↑(a3 / 2 ^ s), 0 ≤ (s:Int), (0 : Int) ≤ 2, 2 < (↑(4 : Nat) : Int), 2 < 4, I6 (IntKind.wrap .i64 ((2 : Int) + (1 : Int))) = I6 3, I6 (IntKind.wrap .i64 ((3 : Int) + (1 : Int))) = I6 4, I6 (IntKind.wrap .i64 ((2 : Int) + (1 : Int))) = I6 3] (ac (wj (by omega)) (ac (wj (by omega)) (ob3 (by omega) (ac (cg (AL rfl rfl (by omega))) (ob4 (by omega) (ac (wj (by omega)) (ac (wj (by omega)) (ao (wj (by omega)))))))))) ?_
 refine W.rtA [(2, aV (I6 4))] [] [I6 (IntKind.wrap .i64 ((3 : Int) + (1 : Int))) = I6 4] (ao (wj (by omega)))
 all_goals first | rfl | (simp; done)
set_option maxHeartbeats 4000000 in
theorem WG {a0 a1 a2 a3 k s : Nat} {x : Int} (hm : mx x 0 = k) (p0 : a0 < 18446744073709551616) (p1 : a1 < 18446744073709551616) (p2 : a2 < 18446744073709551616) (p3 : a3 < 18446744073709551616) (hk : k = 64 + 0) : Pt 76 [] [.iarr .u64 4 [(a0 : Int), (a1 : Int), (a2 : Int), (a3 : Int)], .int .i64 x] [] (.iarr .u64 4 [((a1 : Nat) : Int), ((a2 : Nat) : Int), ((a3 : Nat) : Int), ((0 : Nat) : Int)]) := by
 refine pO Tryz.func76 (by kernel_rfl) ?_
 have hq : (k : Int).tdiv 64 = 1 := by rw [Int.tdiv_eq_ediv_of_nonneg (by omega)]; omega
 have hr : (k : Int).tmod 64 = 0 := by rw [Int.tmod_eq_emod_of_nonneg (by omega)]; omega
 refine W.sgA 0 [(4, aV (I6 k)), (7, aF), (9, aV (I6 1)), (11, aV (I6 0))] [(64, 1), (80, 2), (96, 3)] (DS.mk [(2, PV.at 1 []), (4, PV.at 2 []), (5, PV.at 3 []), (6, I6 1), (7, I6 0), (8, I6 0)] [(1, Row.mk (B6 4 [(a0:Int), (a1:Int), (a2:Int), (a3:Int)]) false), (2, Row.mk (B6 4 [0, 0, 0, 0]) false), (3, Row.mk (B6 4 [0, 0, 0, 0]) false)]) [I6 (mx x (0 : Int)) = I6 k, decide ((k:Int) ≥ 256) = false, I6 (IntKind.wrap .i64 (Int.tdiv (k:Int) (64 : Int))) = I6 1, (64 : Int) ≠ 0, I6 (Int.tmod (k:Int) (64 : Int)) = I6 0, (64 : Int) ≠ 0] (ac (cg (hm)) (ac (dF (by omega)) (ac (cg (Ac hq (by omega) (by omega))) (ac (by omega) (ac (cg (hr)) (ao (by omega))))))) ?_
 refine W.sgA 0 [(2, aV (I6 1)), (7, aV (I6 1)), (11, aV (U6 ↑(a1 / 1))), (16, aV (I6 1)), (17, aV (I6 2)), (24, aV (I6 1))] (rI 3) (DS.mk [(2, PV.at 1 []), (4, PV.at 2 []), (5, PV.at 3 []), (6, I6 1), (7, I6 0), (8, I6 1)] [(1, Row.mk (B6 4 [(a0:Int), (a1:Int), (a2:Int), (a3:Int)]) false), (2, Row.mk (B6 4 [0, 0, 0, 0]) false), (3, Row.mk (B6 4 [(↑(a1 / 1) : Int), 0, 0, 0]) false)]) [I6 (IntKind.wrap .i64 ((0 : Int) + (1 : Int))) = I6 1, I6 (IntKind.wrap .i64 ((0 : Int) + (1 : Int))) = I6 1, (0 : Int) ≤ 1, 1 < (↑(4 : Nat) : Int), 1 < 4, U6 (Int.fdiv (a1:Int) ((2 : Int) ^ 0)) = U6 ↑(a1 / 1), (0 : Int) ≤ 0, (0 : Int) ≤ 0, 0 < (↑(4 : Nat) : Int), 0 < 4, I6 (IntKind.wrap .i64 ((0 : Int) + (1 : Int))) = I6 1, I6 (IntKind.wrap .i64 ((1 : Int) + (1 : Int))) = I6 2, I6 (IntKind.wrap .i64 ((0 : Int) + (1 : Int))) = I6 1] (ac (wj (by omega)) (ac (wj (by omega)) (ob3 (by omega) (ac (cg (Am (y := 0) (s := 0) rfl rfl (by decide) (by omega))) (ob4 (by omega) (ac (wj (by omega)) (ac (wj (by omega)) (ao (wj (by omega)))))))))) ?_
 refine W.sgA 0 [(2, aV (I6 2)), (7, aV (I6 2)), (11, aV (U6 ↑(a2 / 1))), (16, aV (I6 2)), (17, aV (I6 3)), (24, aV (I6 2))] (rI 3) (DS.mk [(2, PV.at 1 []), (4, PV.at 2 []), (5, PV.at 3 []), (6, I6 1), (7, I6 0), (8, I6 2)] [(1, Row.mk (B6 4 [(a0:Int), (a1:Int), (a2:Int), (a3:Int)]) false), (2, Row.mk (B6 4 [0, 0, 0, 0]) false), (3, Row.mk (B6 4 [(↑(a1 / 1) : Int), (↑(a2 / 1) : Int), 0, 0]) false)]) [I6 (IntKind.wrap .i64 ((1 : Int) + (1 : Int))) = I6 2, I6 (IntKind.wrap .i64 ((1 : Int) + (1 : Int))) = I6 2, (0 : Int) ≤ 2, 2 < (↑(4 : Nat) : Int), 2 < 4, U6 (Int.fdiv (a2:Int) ((2 : Int) ^ 0)) = U6 ↑(a2 / 1), (0 : Int) ≤ 0, (0 : Int) ≤ 1, 1 < (↑(4 : Nat) : Int), 1 < 4, I6 (IntKind.wrap .i64 ((1 : Int) + (1 : Int))) = I6 2, I6 (IntKind.wrap .i64 ((2 : Int) + (1 : Int))) = I6 3, I6 (IntKind.wrap .i64 ((1 : Int) + (1 : Int))) = I6 2] (ac (wj (by omega)) (ac (wj (by omega)) (ob3 (by omega) (ac (cg (Am (y := 0) (s := 0) rfl rfl (by decide) (by omega))) (ob4 (by omega) (ac (wj (by omega)) (ac (wj (by omega)) (ao (wj (by omega)))))))))) ?_
 refine W.sgA 0 [(2, aV (I6 3)), (7, aV (I6 3)), (11, aV (U6 ↑(a3 / 1))), (16, aV (I6 3)), (17, aV (I6 4)), (24, aV (I6 3))] (rI 3) (DS.mk [(2, PV.at 1 []), (4, PV.at 2 []), (5, PV.at 3 []), (6, I6 1), (7, I6 0), (8, I6 3)] [(1, Row.mk (B6 4 [(a0:Int), (a1:Int), (a2:Int), (a3:Int)]) false), (2, Row.mk (B6 4 [0, 0, 0, 0]) false), (3, Row.mk (B6 4 [(↑(a1 / 1) : Int), (↑(a2 / 1) : Int), (↑(a3 / 1) : Int), 0]) false)]) [I6 (IntKind.wrap .i64 ((2 : Int) + (1 : Int))) = I6 3, I6 (IntKind.wrap .i64 ((2 : Int) + (1 : Int))) = I6 3, (0 : Int) ≤ 3, 3 < (↑(4 : Nat) : Int), 3 < 4, U6 (Int.fdiv (a3:Int) ((2 : Int) ^ 0)) = U6 ↑(a3 / 1), (0 : Int) ≤ 0, (0 : Int) ≤ 2, 2 < (↑(4 : Nat) : Int), 2 < 4, I6 (IntKind.wrap .i64 ((2 : Int) + (1 : Int))) = I6 3, I6 (IntKind.wrap .i64 ((3 : Int) + (1 : Int))) = I6 4, I6 (IntKind.wrap .i64 ((2 : Int) + (1 : Int))) = I6 3] (ac (wj (by omega)) (ac (wj (by omega)) (ob3 (by omega) (ac (cg (Am (y := 0) (s := 0) rfl rfl (by decide) (by omega))) (ob4 (by omega) (ac (wj (by omega)) (ac (wj (by omega)) (ao (wj (by omega)))))))))) ?_
 refine W.ret [(2, aV (I6 4))] [] [I6 (IntKind.wrap .i64 ((3 : Int) + (1 : Int))) = I6 4, B6 4 [(↑(a1 / 1) : Int), (↑(a2 / 1) : Int), (↑(a3 / 1) : Int), 0] = B6 4 [(a1:Int), (a2:Int), (a3:Int), (↑(0 : Nat) : Int)]] (by kernel_rfl) (ac (wj (by omega)) (ao (by (simp; done))))
 all_goals first | rfl | (simp; done)
set_option maxHeartbeats 4000000 in
theorem pc_shr2 {a0 a1 a2 a3 k s : Nat} {x : Int} (hm : mx x 0 = k) (p0 : a0 < 18446744073709551616) (p1 : a1 < 18446744073709551616) (p2 : a2 < 18446744073709551616) (p3 : a3 < 18446744073709551616) (hs0 : 0 < s) (hs : s < 64) (hk : k = 128 + s) : Pt 76 [] [.iarr .u64 4 [(a0 : Int), (a1 : Int), (a2 : Int), (a3 : Int)], .int .i64 x] [] (.iarr .u64 4 [((a2 / 2 ^ s ||| a3 * 2 ^ (64 - s) % 18446744073709551616 : Nat) : Int), ((a3 / 2 ^ s : Nat) : Int), ((0 : Nat) : Int), ((0 : Nat) : Int)]) := by
 refine pO Tryz.func76 (by kernel_rfl) ?_
 have hq : (k : Int).tdiv 64 = 2 := by rw [Int.tdiv_eq_ediv_of_nonneg (by omega)]; omega
 have hr : (k : Int).tmod 64 = (s : Int) := by rw [Int.tmod_eq_emod_of_nonneg (by omega)]; omega
 have d0 : a0 / 2 ^ s < 18446744073709551616 := Nat.lt_of_le_of_lt (Nat.div_le_self _ _) p0
 have d1 : a1 / 2 ^ s < 18446744073709551616 := Nat.lt_of_le_of_lt (Nat.div_le_self _ _) p1
 have d2 : a2 / 2 ^ s < 18446744073709551616 := Nat.lt_of_le_of_lt (Nat.div_le_self _ _) p2
 have d3 : a3 / 2 ^ s < 18446744073709551616 := Nat.lt_of_le_of_lt (Nat.div_le_self _ _) p3
 have h6 : (64 : Int) - s = ((64 - s : Nat) : Int) := by omega
 refine W.sgA 0 [(4, aV (I6 k)), (7, aF), (9, aV (I6 2)), (11, aV (I6 s))] [(64, 1), (80, 2), (96, 3)] (DS.mk [(2, PV.at 1 []), (4, PV.at 2 []), (5, PV.at 3 []), (6, I6 2), (7, I6 s), (8, I6 0)] [(1, Row.mk (B6 4 [(a0:Int), (a1:Int), (a2:Int), (a3:Int)]) false), (2, Row.mk (B6 4 [0, 0, 0, 0]) false), (3, Row.mk (B6 4 [0, 0, 0, 0]) false)]) [I6 (mx x (0 : Int)) = I6 k, decide ((k:Int) ≥ 256) = false, I6 (IntKind.wrap .i64 (Int.tdiv (k:Int) (64 : Int))) = I6 2, (64 : Int) ≠ 0, I6 (Int.tmod (k:Int) (64 : Int)) = I6 s, (64 : Int) ≠ 0] (ac (cg (hm)) (ac (dF (by omega)) (ac (cg (Ac hq (by omega) (by omega))) (ac (by omega) (ac (cg (hr)) (ao (by omega))))))) ?_
 refine W.sgA 0 [(2, aV (I6 2)), (7, aV (I6 2)), (11, aV (U6 ↑(a2 / 2 ^ s))), (16, aV (I6 2)), (17, aV (I6 3)), (21, aT), (28, aV (I6 2)), (29, aV (I6 3)), (33, aV (I6 ↑(64 - s))), (34, aV (U6 ↑(a3 * 2 ^ (64 - s) % 18446744073709551616))), (35, aV (U6 ↑(a2 / 2 ^ s ||| a3 * 2 ^ (64 - s) % 18446744073709551616))), (39, aV (I6 1))] (rI 3) (DS.mk [(2, PV.at 1 []), (4, PV.at 2 []), (5, PV.at 3 []), (6, I6 2), (7, I6 s), (8, I6 1)] [(1, Row.mk (B6 4 [(a0:Int), (a1:Int), (a2:Int), (a3:Int)]) false), (2, Row.mk (B6 4 [0, 0, 0, 0]) false), (3, Row.mk (B6 4 [(↑(a2 / 2 ^ s ||| a3 * 2 ^ (64 - s) % 18446744073709551616) : Int), 0, 0, 0]) false)]) [I6 (IntKind.wrap .i64 ((0 : Int) + (2 : Int))) = I6 2, I6 (IntKind.wrap .i64 ((0 : Int) + (2 : Int))) = I6 2, (0 : Int) ≤ 2, 2 < (↑(4 : Nat) : Int), 2 < 4, U6 (Int.fdiv (a2:Int) ((2 : Int) ^ min s 64)) = U6 ↑(a2 / 2 ^ s), 0 ≤ (s:Int), (0 : Int) ≤ 0, 0 < (↑(4 : Nat) : Int), 0 < 4, I6 (IntKind.wrap .i64 ((0 : Int) + (2 : Int))) = I6 2, I6 (IntKind.wrap .i64 ((2 : Int) + (1 : Int))) = I6 3, decide ((s:Int) > 0) = true, (0 : Int) ≤ 0, 0 < (↑(4 : Nat) : Int), 0 < 4, I6 (IntKind.wrap .i64 ((0 : Int) + (2 : Int))) = I6 2, I6 (IntKind.wrap .i64 ((2 : Int) + (1 : Int))) = I6 3, (0 : Int) ≤ 3, 3 < (↑(4 : Nat) : Int), 3 < 4, I6 (IntKind.wrap .i64 (64 - (s:Int))) = I6 ↑(64 - s), U6 (IntKind.wrap .u64 ((a3:Int) * (2 : Int) ^ min (Int.toNat (↑(64 - s) : Int)) 64)) = U6 ↑(a3 * 2 ^ (64 - s) % 18446744073709551616), 0 ≤ (↑(64 - s) : Int), U6 (bits BinOp.or .u64 (↑(a2 / 2 ^ s) : Int) (↑(a3 * 2 ^ (64 - s) % 18446744073709551616) : Int)) = U6 ↑(a2 / 2 ^ s ||| a3 * 2 ^ (64 - s) % 18446744073709551616), (0 : Int) ≤ 0, 0 < (↑(4 : Nat) : Int), 0 < 4, I6 (IntKind.wrap .i64 ((0 : Int) + (1 : Int))) = I6 1] (ac (wj (by omega)) (ac (wj (by omega)) (ob3 (by omega) (ac (cg (AL rfl rfl (by omega))) (ob4 (by omega) (ac (wj (by omega)) (ac (wj (by omega)) (ac (dT (by omega)) (ob3 (by omega) (ac (wj (by omega)) (ac (wj (by omega)) (ob3 (by omega) (ac (cg (Ac h6 (by omega) (by omega))) (ac (cg (Bt rfl rfl)) (ac (by omega) (ac (cg (BF rfl rfl (by omega) (by omega))) (ob3 (by omega) (ao (wj (by omega)))))))))))))))))))) ?_
 refine W.sgA 0 [(2, aV (I6 3)), (7, aV (I6 3)), (11, aV (U6 ↑(a3 / 2 ^ s))), (16, aV (I6 3)), (17, aV (I6 4)), (24, aV (I6 2))] (rI 3) (DS.mk [(2, PV.at 1 []), (4, PV.at 2 []), (5, PV.at 3 []), (6, I6 2), (7, I6 s), (8, I6 2)] [(1, Row.mk (B6 4 [(a0:Int), (a1:Int), (a2:Int), (a3:Int)]) false), (2, Row.mk (B6 4 [0, 0, 0, 0]) false), (3, Row.mk (B6 4 [(↑(a2 / 2 ^ s ||| a3 * 2 ^ (64 - s) % 18446744073709551616) : Int), (↑(a3 / 2 ^ s) : Int), 0, 0]) false)]) [I6 (IntKind.wrap .i64 ((1 : Int) + (2 : Int))) = I6 3, I6 (IntKind.wrap .i64 ((1 : Int) + (2 : Int))) = I6 3, (0 : Int) ≤ 3, 3 < (↑(4 : Nat) : Int), 3 < 4, U6 (Int.fdiv (a3:Int) ((2 : Int) ^ min s 64)) = U6 ↑(a3 / 2 ^ s), 0 ≤ (s:Int), (0 : Int) ≤ 1, 1 < (↑(4 : Nat) : Int), 1 < 4, I6 (IntKind.wrap .i64 ((1 : Int) + (2 : Int))) = I6 3, I6 (IntKind.wrap .i64 ((3 : Int) + (1 : Int))) = I6 4, I6 (IntKind.wrap .i64 ((1 : Int) + (1 : Int))) = I6 2] (ac (wj (by omega)) (ac (wj (by omega)) (ob3 (by omega) (ac (cg (AL rfl rfl (by omega))) (ob4 (by omega) (ac (wj (by omega)) (ac (wj (by omega)) (ao (wj (by omega)))))))))) ?_
 refine W.rtA [(2, aV (I6 4))] [] [I6 (IntKind.wrap .i64 ((2 : Int) + (2 : Int))) = I6 4] (ao (wj (by omega)))
 all_goals first | rfl | (simp; done)
set_option maxHeartbeats 4000000 in
theorem X8 {a0 a1 a2 a3 k s : Nat} {x : Int} (hm : mx x 0 = k) (p0 : a0 < 18446744073709551616) (p1 : a1 < 18446744073709551616) (p2 : a2 < 18446744073709551616) (p3 : a3 < 18446744073709551616) (hk : k = 128 + 0) : Pt 76 [] [.iarr .u64 4 [(a0 : Int), (a1 : Int), (a2 : Int), (a3 : Int)], .int .i64 x] [] (.iarr .u64 4 [((a2 : Nat) : Int), ((a3 : Nat) : Int), ((0 : Nat) : Int), ((0 : Nat) : Int)]) := by
 refine pO Tryz.func76 (by kernel_rfl) ?_
 have hq : (k : Int).tdiv 64 = 2 := by rw [Int.tdiv_eq_ediv_of_nonneg (by omega)]; omega
 have hr : (k : Int).tmod 64 = 0 := by rw [Int.tmod_eq_emod_of_nonneg (by omega)]; omega
 refine W.sgA 0 [(4, aV (I6 k)), (7, aF), (9, aV (I6 2)), (11, aV (I6 0))] [(64, 1), (80, 2), (96, 3)] (DS.mk [(2, PV.at 1 []), (4, PV.at 2 []), (5, PV.at 3 []), (6, I6 2), (7, I6 0), (8, I6 0)] [(1, Row.mk (B6 4 [(a0:Int), (a1:Int), (a2:Int), (a3:Int)]) false), (2, Row.mk (B6 4 [0, 0, 0, 0]) false), (3, Row.mk (B6 4 [0, 0, 0, 0]) false)]) [I6 (mx x (0 : Int)) = I6 k, decide ((k:Int) ≥ 256) = false, I6 (IntKind.wrap .i64 (Int.tdiv (k:Int) (64 : Int))) = I6 2, (64 : Int) ≠ 0, I6 (Int.tmod (k:Int) (64 : Int)) = I6 0, (64 : Int) ≠ 0] (ac (cg (hm)) (ac (dF (by omega)) (ac (cg (Ac hq (by omega) (by omega))) (ac (by omega) (ac (cg (hr)) (ao (by omega))))))) ?_
 refine W.sgA 0 [(2, aV (I6 2)), (7, aV (I6 2)), (11, aV (U6 ↑(a2 / 1))), (16, aV (I6 2)), (17, aV (I6 3)), (24, aV (I6 1))] (rI 3) (DS.mk [(2, PV.at 1 []), (4, PV.at 2 []), (5, PV.at 3 []), (6, I6 2), (7, I6 0), (8, I6 1)] [(1, Row.mk (B6 4 [(a0:Int), (a1:Int), (a2:Int), (a3:Int)]) false), (2, Row.mk (B6 4 [0, 0, 0, 0]) false), (3, Row.mk (B6 4 [(↑(a2 / 1) : Int), 0, 0, 0]) false)]) [I6 (IntKind.wrap .i64 ((0 : Int) + (2 : Int))) = I6 2, I6 (IntKind.wrap .i64 ((0 : Int) + (2 : Int))) = I6 2, (0 : Int) ≤ 2, 2 < (↑(4 : Nat) : Int), 2 < 4, U6 (Int.fdiv (a2:Int) ((2 : Int) ^ 0)) = U6 ↑(a2 / 1), (0 : Int) ≤ 0, (0 : Int) ≤ 0, 0 < (↑(4 : Nat) : Int), 0 < 4, I6 (IntKind.wrap .i64 ((0 : Int) + (2 : Int))) = I6 2, I6 (IntKind.wrap .i64 ((2 : Int) + (1 : Int))) = I6 3, I6 (IntKind.wrap .i64 ((0 : Int) + (1 : Int))) = I6 1] (ac (wj (by omega)) (ac (wj (by omega)) (ob3 (by omega) (ac (cg (Am (y := 0) (s := 0) rfl rfl (by decide) (by omega))) (ob4 (by omega) (ac (wj (by omega)) (ac (wj (by omega)) (ao (wj (by omega)))))))))) ?_
 refine W.sgA 0 [(2, aV (I6 3)), (7, aV (I6 3)), (11, aV (U6 ↑(a3 / 1))), (16, aV (I6 3)), (17, aV (I6 4)), (24, aV (I6 2))] (rI 3) (DS.mk [(2, PV.at 1 []), (4, PV.at 2 []), (5, PV.at 3 []), (6, I6 2), (7, I6 0), (8, I6 2)] [(1, Row.mk (B6 4 [(a0:Int), (a1:Int), (a2:Int), (a3:Int)]) false), (2, Row.mk (B6 4 [0, 0, 0, 0]) false), (3, Row.mk (B6 4 [(↑(a2 / 1) : Int), (↑(a3 / 1) : Int), 0, 0]) false)]) [I6 (IntKind.wrap .i64 ((1 : Int) + (2 : Int))) = I6 3, I6 (IntKind.wrap .i64 ((1 : Int) + (2 : Int))) = I6 3, (0 : Int) ≤ 3, 3 < (↑(4 : Nat) : Int), 3 < 4, U6 (Int.fdiv (a3:Int) ((2 : Int) ^ 0)) = U6 ↑(a3 / 1), (0 : Int) ≤ 0, (0 : Int) ≤ 1, 1 < (↑(4 : Nat) : Int), 1 < 4, I6 (IntKind.wrap .i64 ((1 : Int) + (2 : Int))) = I6 3, I6 (IntKind.wrap .i64 ((3 : Int) + (1 : Int))) = I6 4, I6 (IntKind.wrap .i64 ((1 : Int) + (1 : Int))) = I6 2] (ac (wj (by omega)) (ac (wj (by omega)) (ob3 (by omega) (ac (cg (Am (y := 0) (s := 0) rfl rfl (by decide) (by omega))) (ob4 (by omega) (ac (wj (by omega)) (ac (wj (by omega)) (ao (wj (by omega)))))))))) ?_
 refine W.ret [(2, aV (I6 4))] [] [I6 (IntKind.wrap .i64 ((2 : Int) + (2 : Int))) = I6 4, B6 4 [(↑(a2 / 1) : Int), (↑(a3 / 1) : Int), 0, 0] = B6 4 [(a2:Int), (a3:Int), (↑(0 : Nat) : Int), (↑(0 : Nat) : Int)]] (by kernel_rfl) (ac (wj (by omega)) (ao (by (simp; done))))
 all_goals first | rfl | (simp; done)
set_option maxHeartbeats 4000000 in
theorem pc_shr3 {a0 a1 a2 a3 k s : Nat} {x : Int} (hm : mx x 0 = k) (p0 : a0 < 18446744073709551616) (p1 : a1 < 18446744073709551616) (p2 : a2 < 18446744073709551616) (p3 : a3 < 18446744073709551616) (hs0 : 0 < s) (hs : s < 64) (hk : k = 192 + s) : Pt 76 [] [.iarr .u64 4 [(a0 : Int), (a1 : Int), (a2 : Int), (a3 : Int)], .int .i64 x] [] (.iarr .u64 4 [((a3 / 2 ^ s : Nat) : Int), ((0 : Nat) : Int), ((0 : Nat) : Int), ((0 : Nat) : Int)]) := by
 refine pO Tryz.func76 (by kernel_rfl) ?_
 have hq : (k : Int).tdiv 64 = 3 := by rw [Int.tdiv_eq_ediv_of_nonneg (by omega)]; omega
 have hr : (k : Int).tmod 64 = (s : Int) := by rw [Int.tmod_eq_emod_of_nonneg (by omega)]; omega
 have d0 : a0 / 2 ^ s < 18446744073709551616 := Nat.lt_of_le_of_lt (Nat.div_le_self _ _) p0
 have d1 : a1 / 2 ^ s < 18446744073709551616 := Nat.lt_of_le_of_lt (Nat.div_le_self _ _) p1
 have d2 : a2 / 2 ^ s < 18446744073709551616 := Nat.lt_of_le_of_lt (Nat.div_le_self _ _) p2
 have d3 : a3 / 2 ^ s < 18446744073709551616 := Nat.lt_of_le_of_lt (Nat.div_le_self _ _) p3
 have h6 : (64 : Int) - s = ((64 - s : Nat) : Int) := by omega
 refine W.sgA 0 [(4, aV (I6 k)), (7, aF), (9, aV (I6 3)), (11, aV (I6 s))] [(64, 1), (80, 2), (96, 3)] (DS.mk [(2, PV.at 1 []), (4, PV.at 2 []), (5, PV.at 3 []), (6, I6 3), (7, I6 s), (8, I6 0)] [(1, Row.mk (B6 4 [(a0:Int), (a1:Int), (a2:Int), (a3:Int)]) false), (2, Row.mk (B6 4 [0, 0, 0, 0]) false), (3, Row.mk (B6 4 [0, 0, 0, 0]) false)]) [I6 (mx x (0 : Int)) = I6 k, decide ((k:Int) ≥ 256) = false, I6 (IntKind.wrap .i64 (Int.tdiv (k:Int) (64 : Int))) = I6 3, (64 : Int) ≠ 0, I6 (Int.tmod (k:Int) (64 : Int)) = I6 s, (64 : Int) ≠ 0] (ac (cg (hm)) (ac (dF (by omega)) (ac (cg (Ac hq (by omega) (by omega))) (ac (by omega) (ac (cg (hr)) (ao (by omega))))))) ?_
 refine W.sgA 0 [(2, aV (I6 3)), (7, aV (I6 3)), (11, aV (U6 ↑(a3 / 2 ^ s))), (16, aV (I6 3)), (17, aV (I6 4)), (24, aV (I6 1))] (rI 3) (DS.mk [(2, PV.at 1 []), (4, PV.at 2 []), (5, PV.at 3 []), (6, I6 3), (7, I6 s), (8, I6 1)] [(1, Row.mk (B6 4 [(a0:Int), (a1:Int), (a2:Int), (a3:Int)]) false), (2, Row.mk (B6 4 [0, 0, 0, 0]) false), (3, Row.mk (B6 4 [(↑(a3 / 2 ^ s) : Int), 0, 0, 0]) false)]) [I6 (IntKind.wrap .i64 ((0 : Int) + (3 : Int))) = I6 3, I6 (IntKind.wrap .i64 ((0 : Int) + (3 : Int))) = I6 3, (0 : Int) ≤ 3, 3 < (↑(4 : Nat) : Int), 3 < 4, U6 (Int.fdiv (a3:Int) ((2 : Int) ^ min s 64)) = U6 ↑(a3 / 2 ^ s), 0 ≤ (s:Int), (0 : Int) ≤ 0, 0 < (↑(4 : Nat) : Int), 0 < 4, I6 (IntKind.wrap .i64 ((0 : Int) + (3 : Int))) = I6 3, I6 (IntKind.wrap .i64 ((3 : Int) + (1 : Int))) = I6 4, I6 (IntKind.wrap .i64 ((0 : Int) + (1 : Int))) = I6 1] (ac (wj (by omega)) (ac (wj (by omega)) (ob3 (by omega) (ac (cg (AL rfl rfl (by omega))) (ob4 (by omega) (ac (wj (by omega)) (ac (wj (by omega)) (ao (wj (by omega)))))))))) ?_
 refine W.rtA [(2, aV (I6 4))] [] [I6 (IntKind.wrap .i64 ((1 : Int) + (3 : Int))) = I6 4] (ao (wj (by omega)))
 all_goals first | rfl | (simp; done)
set_option maxHeartbeats 4000000 in
theorem Xc {a0 a1 a2 a3 k s : Nat} {x : Int} (hm : mx x 0 = k) (p0 : a0 < 18446744073709551616) (p1 : a1 < 18446744073709551616) (p2 : a2 < 18446744073709551616) (p3 : a3 < 18446744073709551616) (hk : k = 192 + 0) : Pt 76 [] [.iarr .u64 4 [(a0 : Int), (a1 : Int), (a2 : Int), (a3 : Int)], .int .i64 x] [] (.iarr .u64 4 [((a3 : Nat) : Int), ((0 : Nat) : Int), ((0 : Nat) : Int), ((0 : Nat) : Int)]) := by
 refine pO Tryz.func76 (by kernel_rfl) ?_
 have hq : (k : Int).tdiv 64 = 3 := by rw [Int.tdiv_eq_ediv_of_nonneg (by omega)]; omega
 have hr : (k : Int).tmod 64 = 0 := by rw [Int.tmod_eq_emod_of_nonneg (by omega)]; omega
 refine W.sgA 0 [(4, aV (I6 k)), (7, aF), (9, aV (I6 3)), (11, aV (I6 0))] [(64, 1), (80, 2), (96, 3)] (DS.mk [(2, PV.at 1 []), (4, PV.at 2 []), (5, PV.at 3 []), (6, I6 3), (7, I6 0), (8, I6 0)] [(1, Row.mk (B6 4 [(a0:Int), (a1:Int), (a2:Int), (a3:Int)]) false), (2, Row.mk (B6 4 [0, 0, 0, 0]) false), (3, Row.mk (B6 4 [0, 0, 0, 0]) false)]) [I6 (mx x (0 : Int)) = I6 k, decide ((k:Int) ≥ 256) = false, I6 (IntKind.wrap .i64 (Int.tdiv (k:Int) (64 : Int))) = I6 3, (64 : Int) ≠ 0, I6 (Int.tmod (k:Int) (64 : Int)) = I6 0, (64 : Int) ≠ 0] (ac (cg (hm)) (ac (dF (by omega)) (ac (cg (Ac hq (by omega) (by omega))) (ac (by omega) (ac (cg (hr)) (ao (by omega))))))) ?_
 refine W.sgA 0 [(2, aV (I6 3)), (7, aV (I6 3)), (11, aV (U6 ↑(a3 / 1))), (16, aV (I6 3)), (17, aV (I6 4)), (24, aV (I6 1))] (rI 3) (DS.mk [(2, PV.at 1 []), (4, PV.at 2 []), (5, PV.at 3 []), (6, I6 3), (7, I6 0), (8, I6 1)] [(1, Row.mk (B6 4 [(a0:Int), (a1:Int), (a2:Int), (a3:Int)]) false), (2, Row.mk (B6 4 [0, 0, 0, 0]) false), (3, Row.mk (B6 4 [(↑(a3 / 1) : Int), 0, 0, 0]) false)]) [I6 (IntKind.wrap .i64 ((0 : Int) + (3 : Int))) = I6 3, I6 (IntKind.wrap .i64 ((0 : Int) + (3 : Int))) = I6 3, (0 : Int) ≤ 3, 3 < (↑(4 : Nat) : Int), 3 < 4, U6 (Int.fdiv (a3:Int) ((2 : Int) ^ 0)) = U6 ↑(a3 / 1), (0 : Int) ≤ 0, (0 : Int) ≤ 0, 0 < (↑(4 : Nat) : Int), 0 < 4, I6 (IntKind.wrap .i64 ((0 : Int) + (3 : Int))) = I6 3, I6 (IntKind.wrap .i64 ((3 : Int) + (1 : Int))) = I6 4, I6 (IntKind.wrap .i64 ((0 : Int) + (1 : Int))) = I6 1] (ac (wj (by omega)) (ac (wj (by omega)) (ob3 (by omega) (ac (cg (Am (y := 0) (s := 0) rfl rfl (by decide) (by omega))) (ob4 (by omega) (ac (wj (by omega)) (ac (wj (by omega)) (ao (wj (by omega)))))))))) ?_
 refine W.ret [(2, aV (I6 4))] [] [I6 (IntKind.wrap .i64 ((1 : Int) + (3 : Int))) = I6 4, B6 4 [(↑(a3 / 1) : Int), 0, 0, 0] = B6 4 [(a3:Int), (↑(0 : Nat) : Int), (↑(0 : Nat) : Int), (↑(0 : Nat) : Int)]] (by kernel_rfl) (ac (wj (by omega)) (ao (by (simp; done))))
 all_goals first | rfl | (simp; done)
set_option maxHeartbeats 4000000 in
theorem pc_shl0 {a0 a1 a2 a3 k s : Nat} {x : Int} (hm : mx x 0 = k) (p0 : a0 < 18446744073709551616) (p1 : a1 < 18446744073709551616) (p2 : a2 < 18446744073709551616) (p3 : a3 < 18446744073709551616) (hs0 : 0 < s) (hs : s < 64) (hk : k = 0 + s) : Pt 78 [] [.iarr .u64 4 [(a0 : Int), (a1 : Int), (a2 : Int), (a3 : Int)], .int .i64 x] [] (.iarr .u64 4 [((a0 * 2 ^ s % 18446744073709551616 : Nat) : Int), ((a1 * 2 ^ s % 18446744073709551616 ||| a0 / 2 ^ (64 - s) : Nat) : Int), ((a2 * 2 ^ s % 18446744073709551616 ||| a1 / 2 ^ (64 - s) : Nat) : Int), ((a3 * 2 ^ s % 18446744073709551616 ||| a2 / 2 ^ (64 - s) : Nat) : Int)]) := by
 refine pO Tryz.func78 (by kernel_rfl) ?_
 have hq : (k : Int).tdiv 64 = 0 := by rw [Int.tdiv_eq_ediv_of_nonneg (by omega)]; omega
 have hr : (k : Int).tmod 64 = (s : Int) := by rw [Int.tmod_eq_emod_of_nonneg (by omega)]; omega
 have d0 : a0 / 2 ^ (64 - s) < 18446744073709551616 := Nat.lt_of_le_of_lt (Nat.div_le_self _ _) p0
 have d1 : a1 / 2 ^ (64 - s) < 18446744073709551616 := Nat.lt_of_le_of_lt (Nat.div_le_self _ _) p1
 have d2 : a2 / 2 ^ (64 - s) < 18446744073709551616 := Nat.lt_of_le_of_lt (Nat.div_le_self _ _) p2
 have d3 : a3 / 2 ^ (64 - s) < 18446744073709551616 := Nat.lt_of_le_of_lt (Nat.div_le_self _ _) p3
 have f0 : ((a0 : Nat) : Int).fdiv (2 ^ (min (64 - s) 64)) = ((a0 / 2 ^ (64 - s) : Nat) : Int) := AL (y := ((64 - s : Nat) : Int)) rfl rfl p0
 have f1 : ((a1 : Nat) : Int).fdiv (2 ^ (min (64 - s) 64)) = ((a1 / 2 ^ (64 - s) : Nat) : Int) := AL (y := ((64 - s : Nat) : Int)) rfl rfl p1
 have f2 : ((a2 : Nat) : Int).fdiv (2 ^ (min (64 - s) 64)) = ((a2 / 2 ^ (64 - s) : Nat) : Int) := AL (y := ((64 - s : Nat) : Int)) rfl rfl p2
 have f3 : ((a3 : Nat) : Int).fdiv (2 ^ (min (64 - s) 64)) = ((a3 / 2 ^ (64 - s) : Nat) : Int) := AL (y := ((64 - s : Nat) : Int)) rfl rfl p3
 have orr : ∀ x y : Nat, x < 18446744073709551616 → y < 18446744073709551616 → bits .or .u64 (x : Int) (y : Int) = ((x ||| y : Nat) : Int) := fun x y hx hy => BF rfl rfl hx hy
 have md : ∀ x : Nat, x % 18446744073709551616 < 18446744073709551616 := fun x => Nat.mod_lt _ (by omega)
 have h6 : (64 : Int) - s = ((64 - s : Nat) : Int) := by omega
 refine W.sgA 0 [(4, aV (I6 k)), (7, aF), (9, aV (I6 0)), (11, aV (I6 s))] [(64, 1), (80, 2), (96, 3)] (DS.mk [(2, PV.at 1 []), (4, PV.at 2 []), (5, PV.at 3 []), (6, I6 0), (7, I6 s), (8, I6 3)] [(1, Row.mk (B6 4 [(a0:Int), (a1:Int), (a2:Int), (a3:Int)]) false), (2, Row.mk (B6 4 [0, 0, 0, 0]) false), (3, Row.mk (B6 4 [0, 0, 0, 0]) false)]) [I6 (mx x (0 : Int)) = I6 k, decide ((k:Int) ≥ 256) = false, I6 (IntKind.wrap .i64 (Int.tdiv (k:Int) (64 : Int))) = I6 0, (64 : Int) ≠ 0, I6 (Int.tmod (k:Int) (64 : Int)) = I6 s, (64 : Int) ≠ 0] (ac (cg (hm)) (ac (dF (by omega)) (ac (cg (Ac hq (by omega) (by omega))) (ac (by omega) (ac (cg (hr)) (ao (by omega))))))) ?_
 refine W.sgA 0 [(6, aV (I6 3)), (10, aV (U6 ↑(a3 * 2 ^ s % 18446744073709551616))), (18, aT), (25, aV (I6 3)), (26, aV (I6 2)), (30, aV (I6 ↑(64 - s))), (31, aV (U6 ↑(a2 / 2 ^ (64 - s)))), (32, aV (U6 ↑(a3 * 2 ^ s % 18446744073709551616 ||| a2 / 2 ^ (64 - s)))), (36, aV (I6 2))] (rI 3) (DS.mk [(2, PV.at 1 []), (4, PV.at 2 []), (5, PV.at 3 []), (6, I6 0), (7, I6 s), (8, I6 2)] [(1, Row.mk (B6 4 [(a0:Int), (a1:Int), (a2:Int), (a3:Int)]) false), (2, Row.mk (B6 4 [0, 0, 0, 0]) false), (3, Row.mk (B6 4 [0, 0, 0, (↑(a3 * 2 ^ s % 18446744073709551616 ||| a2 / 2 ^ (64 - s)) : Int)]) false)]) [I6 (IntKind.wrap .i64 ((3 : Int) - (0 : Int))) = I6 3, (0 : Int) ≤ 3, 3 < (↑(4 : Nat) : Int), 3 < 4, U6 (IntKind.wrap .u64 ((a3:Int) * (2 : Int) ^ min s 64)) = U6 ↑(a3 * 2 ^ s % 18446744073709551616), 0 ≤ (s:Int), (0 : Int) ≤ 3, 3 < (↑(4 : Nat) : Int), 3 < 4, decide ((s:Int) > 0) = true, (0 : Int) ≤ 3, 3 < (↑(4 : Nat) : Int), 3 < 4, I6 (IntKind.wrap .i64 ((3 : Int) - (0 : Int))) = I6 3, I6 (IntKind.wrap .i64 ((3 : Int) - (1 : Int))) = I6 2, (0 : Int) ≤ 2, 2 < (↑(4 : Nat) : Int), 2 < 4, I6 (IntKind.wrap .i64 (64 - (s:Int))) = I6 ↑(64 - s), U6 (Int.fdiv (a2:Int) ((2 : Int) ^ min (Int.toNat (↑(64 - s) : Int)) 64)) = U6 ↑(a2 / 2 ^ (64 - s)), 0 ≤ (↑(64 - s) : Int), U6 (bits BinOp.or .u64 (↑(a3 * 2 ^ s % 18446744073709551616) : Int) (↑(a2 / 2 ^ (64 - s)) : Int)) = U6 ↑(a3 * 2 ^ s % 18446744073709551616 ||| a2 / 2 ^ (64 - s)), (0 : Int) ≤ 3, 3 < (↑(4 : Nat) : Int), 3 < 4, I6 (IntKind.wrap .i64 ((3 : Int) - (1 : Int))) = I6 2] (ac (wj (by omega)) (ob3 (by omega) (ac (cg (Bt (y := ((s : Nat) : Int)) rfl rfl)) (ob4 (by omega) (ac (dT (by omega)) (ob3 (by omega) (ac (wj (by omega)) (ac (wj (by omega)) (ob3 (by omega) (ac (cg (Ac h6 (by omega) (by omega))) (ac (cg (f2)) (ac (by omega) (ac (cg (BF rfl rfl (by omega) (by omega))) (ob3 (by omega) (ao (wj (by omega))))))))))))))))) ?_
 refine W.sgA 0 [(6, aV (I6 2)), (10, aV (U6 ↑(a2 * 2 ^ s % 18446744073709551616))), (18, aT), (25, aV (I6 2)), (26, aV (I6 1)), (30, aV (I6 ↑(64 - s))), (31, aV (U6 ↑(a1 / 2 ^ (64 - s)))), (32, aV (U6 ↑(a2 * 2 ^ s % 18446744073709551616 ||| a1 / 2 ^ (64 - s)))), (36, aV (I6 1))] (rI 3) (DS.mk [(2, PV.at 1 []), (4, PV.at 2 []), (5, PV.at 3 []), (6, I6 0), (7, I6 s), (8, I6 1)] [(1, Row.mk (B6 4 [(a0:Int), (a1:Int), (a2:Int), (a3:Int)]) false), (2, Row.mk (B6 4 [0, 0, 0, 0]) false), (3, Row.mk (B6 4 [0, 0, (↑(a2 * 2 ^ s % 18446744073709551616 ||| a1 / 2 ^ (64 - s)) : Int), (↑(a3 * 2 ^ s % 18446744073709551616 ||| a2 / 2 ^ (64 - s)) : Int)]) false)]) [I6 (IntKind.wrap .i64 ((2 : Int) - (0 : Int))) = I6 2, (0 : Int) ≤ 2, 2 < (↑(4 : Nat) : Int), 2 < 4, U6 (IntKind.wrap .u64 ((a2:Int) * (2 : Int) ^ min s 64)) = U6 ↑(a2 * 2 ^ s % 18446744073709551616), 0 ≤ (s:Int), (0 : Int) ≤ 2, 2 < (↑(4 : Nat) : Int), 2 < 4, decide ((s:Int) > 0) = true, (0 : Int) ≤ 2, 2 < (↑(4 : Nat) : Int), 2 < 4, I6 (IntKind.wrap .i64 ((2 : Int) - (0 : Int))) = I6 2, I6 (IntKind.wrap .i64 ((2 : Int) - (1 : Int))) = I6 1, (0 : Int) ≤ 1, 1 < (↑(4 : Nat) : Int), 1 < 4, I6 (IntKind.wrap .i64 (64 - (s:Int))) = I6 ↑(64 - s), U6 (Int.fdiv (a1:Int) ((2 : Int) ^ min (Int.toNat (↑(64 - s) : Int)) 64)) = U6 ↑(a1 / 2 ^ (64 - s)), 0 ≤ (↑(64 - s) : Int), U6 (bits BinOp.or .u64 (↑(a2 * 2 ^ s % 18446744073709551616) : Int) (↑(a1 / 2 ^ (64 - s)) : Int)) = U6 ↑(a2 * 2 ^ s % 18446744073709551616 ||| a1 / 2 ^ (64 - s)), (0 : Int) ≤ 2, 2 < (↑(4 : Nat) : Int), 2 < 4, I6 (IntKind.wrap .i64 ((2 : Int) - (1 : Int))) = I6 1] (ac (wj (by omega)) (ob3 (by omega) (ac (cg (Bt (y := ((s : Nat) : Int)) rfl rfl)) (ob4 (by omega) (ac (dT (by omega)) (ob3 (by omega) (ac (wj (by omega)) (ac (wj (by omega)) (ob3 (by omega) (ac (cg (Ac h6 (by omega) (by omega))) (ac (cg (f1)) (ac (by omega) (ac (cg (BF rfl rfl (by omega) (by omega))) (ob3 (by omega) (ao (wj (by omega))))))))))))))))) ?_
 refine W.sgA 0 [(6, aV (I6 1)), (10, aV (U6 ↑(a1 * 2 ^ s % 18446744073709551616))), (18, aT), (25, aV (I6 1)), (26, aV (I6 0)), (30, aV (I6 ↑(64 - s))), (31, aV (U6 ↑(a0 / 2 ^ (64 - s)))), (32, aV (U6 ↑(a1 * 2 ^ s % 18446744073709551616 ||| a0 / 2 ^ (64 - s)))), (36, aV (I6 0))] (rI 3) (DS.mk [(2, PV.at 1 []), (4, PV.at 2 []), (5, PV.at 3 []), (6, I6 0), (7, I6 s), (8, I6 0)] [(1, Row.mk (B6 4 [(a0:Int), (a1:Int), (a2:Int), (a3:Int)]) false), (2, Row.mk (B6 4 [0, 0, 0, 0]) false), (3, Row.mk (B6 4 [0, (↑(a1 * 2 ^ s % 18446744073709551616 ||| a0 / 2 ^ (64 - s)) : Int), (↑(a2 * 2 ^ s % 18446744073709551616 ||| a1 / 2 ^ (64 - s)) : Int), (↑(a3 * 2 ^ s % 18446744073709551616 ||| a2 / 2 ^ (64 - s)) : Int)]) false)]) [I6 (IntKind.wrap .i64 ((1 : Int) - (0 : Int))) = I6 1, (0 : Int) ≤ 1, 1 < (↑(4 : Nat) : Int), 1 < 4, U6 (IntKind.wrap .u64 ((a1:Int) * (2 : Int) ^ min s 64)) = U6 ↑(a1 * 2 ^ s % 18446744073709551616), 0 ≤ (s:Int), (0 : Int) ≤ 1, 1 < (↑(4 : Nat) : Int), 1 < 4, decide ((s:Int) > 0) = true, (0 : Int) ≤ 1, 1 < (↑(4 : Nat) : Int), 1 < 4, I6 (IntKind.wrap .i64 ((1 : Int) - (0 : Int))) = I6 1, I6 (IntKind.wrap .i64 ((1 : Int) - (1 : Int))) = I6 0, (0 : Int) ≤ 0, 0 < (↑(4 : Nat) : Int), 0 < 4, I6 (IntKind.wrap .i64 (64 - (s:Int))) = I6 ↑(64 - s), U6 (Int.fdiv (a0:Int) ((2 : Int) ^ min (Int.toNat (↑(64 - s) : Int)) 64)) = U6 ↑(a0 / 2 ^ (64 - s)), 0 ≤ (↑(64 - s) : Int), U6 (bits BinOp.or .u64 (↑(a1 * 2 ^ s % 18446744073709551616) : Int) (↑(a0 / 2 ^ (64 - s)) : Int)) = U6 ↑(a1 * 2 ^ s % 18446744073709551616 ||| a0 / 2 ^ (64 - s)), (0 : Int) ≤ 1, 1 < (↑(4 : Nat) : Int), 1 < 4, I6 (IntKind.wrap .i64 ((1 : Int) - (1 : Int))) = I6 0] (ac (wj (by omega)) (ob3 (by omega) (ac (cg (Bt (y := ((s : Nat) : Int)) rfl rfl)) (ob4 (by omega) (ac (dT (by omega)) (ob3 (by omega) (ac (wj (by omega)) (ac (wj (by omega)) (ob3 (by omega) (ac (cg (Ac h6 (by omega) (by omega))) (ac (cg (f0)) (ac (by omega) (ac (cg (BF rfl rfl (by omega) (by omega))) (ob3 (by omega) (ao (wj (by omega))))))))))))))))) ?_
 refine W.sgA 0 [(6, aV (I6 0)), (10, aV (U6 ↑(a0 * 2 ^ s % 18446744073709551616))), (21, aV (I6 (-1)))] (rI 3) (DS.mk [(2, PV.at 1 []), (4, PV.at 2 []), (5, PV.at 3 []), (6, I6 0), (7, I6 s), (8, I6 (-1))] [(1, Row.mk (B6 4 [(a0:Int), (a1:Int), (a2:Int), (a3:Int)]) false), (2, Row.mk (B6 4 [0, 0, 0, 0]) false), (3, Row.mk (B6 4 [(↑(a0 * 2 ^ s % 18446744073709551616) : Int), (↑(a1 * 2 ^ s % 18446744073709551616 ||| a0 / 2 ^ (64 - s)) : Int), (↑(a2 * 2 ^ s % 18446744073709551616 ||| a1 / 2 ^ (64 - s)) : Int), (↑(a3 * 2 ^ s % 18446744073709551616 ||| a2 / 2 ^ (64 - s)) : Int)]) false)]) [I6 (IntKind.wrap .i64 ((0 : Int) - (0 : Int))) = I6 0, (0 : Int) ≤ 0, 0 < (↑(4 : Nat) : Int), 0 < 4, U6 (IntKind.wrap .u64 ((a0:Int) * (2 : Int) ^ min s 64)) = U6 ↑(a0 * 2 ^ s % 18446744073709551616), 0 ≤ (s:Int), (0 : Int) ≤ 0, 0 < (↑(4 : Nat) : Int), 0 < 4, I6 (IntKind.wrap .i64 ((0 : Int) - (1 : Int))) = I6 (-1)] (ac (wj (by omega)) (ob3 (by omega) (ac (cg (Bt (y := ((s : Nat) : Int)) rfl rfl)) (ob4 (by omega) (ao (wj (by omega))))))) ?_
 refine W.rtA [] [] [] trivial
 all_goals first | rfl | (simp; done) | (rw [f0, orr _ _ (md _) d0]; rfl) | (rw [f1, f0, orr _ _ (md _) d0, orr _ _ (md _) d1]; rfl) | (rw [f2, f1, f0, orr _ _ (md _) d0, orr _ _ (md _) d1, orr _ _ (md _) d2]; rfl)
set_option maxHeartbeats 4000000 in
theorem WY {a0 a1 a2 a3 k s : Nat} {x : Int} (hm : mx x 0 = k) (p0 : a0 < 18446744073709551616) (p1 : a1 < 18446744073709551616) (p2 : a2 < 18446744073709551616) (p3 : a3 < 18446744073709551616) (hk : k = 0 + 0) : Pt 78 [] [.iarr .u64 4 [(a0 : Int), (a1 : Int), (a2 : Int), (a3 : Int)], .int .i64 x] [] (.iarr .u64 4 [((a0 : Nat) : Int), ((a1 : Nat) : Int), ((a2 : Nat) : Int), ((a3 : Nat) : Int)]) := by
 refine pO Tryz.func78 (by kernel_rfl) ?_
 have hq : (k : Int).tdiv 64 = 0 := by rw [Int.tdiv_eq_ediv_of_nonneg (by omega)]; omega
 have hr : (k : Int).tmod 64 = 0 := by rw [Int.tmod_eq_emod_of_nonneg (by omega)]; omega
 refine W.sgA 0 [(4, aV (I6 k)), (7, aF), (9, aV (I6 0)), (11, aV (I6 0))] [(64, 1), (80, 2), (96, 3)] (DS.mk [(2, PV.at 1 []), (4, PV.at 2 []), (5, PV.at 3 []), (6, I6 0), (7, I6 0), (8, I6 3)] [(1, Row.mk (B6 4 [(a0:Int), (a1:Int), (a2:Int), (a3:Int)]) false), (2, Row.mk (B6 4 [0, 0, 0, 0]) false), (3, Row.mk (B6 4 [0, 0, 0, 0]) false)]) [I6 (mx x (0 : Int)) = I6 k, decide ((k:Int) ≥ 256) = false, I6 (IntKind.wrap .i64 (Int.tdiv (k:Int) (64 : Int))) = I6 0, (64 : Int) ≠ 0, I6 (Int.tmod (k:Int) (64 : Int)) = I6 0, (64 : Int) ≠ 0] (ac (cg (hm)) (ac (dF (by omega)) (ac (cg (Ac hq (by omega) (by omega))) (ac (by omega) (ac (cg (hr)) (ao (by omega))))))) ?_
 refine W.sgA 0 [(6, aV (I6 3)), (10, aV (U6 ((a3:Int) * (2 : Int) ^ 0))), (21, aV (I6 2))] (rI 3) (DS.mk [(2, PV.at 1 []), (4, PV.at 2 []), (5, PV.at 3 []), (6, I6 0), (7, I6 0), (8, I6 2)] [(1, Row.mk (B6 4 [(a0:Int), (a1:Int), (a2:Int), (a3:Int)]) false), (2, Row.mk (B6 4 [0, 0, 0, 0]) false), (3, Row.mk (B6 4 [0, 0, 0, (a3:Int) * (2 : Int) ^ 0]) false)]) [I6 (IntKind.wrap .i64 ((3 : Int) - (0 : Int))) = I6 3, (0 : Int) ≤ 3, 3 < (↑(4 : Nat) : Int), 3 < 4, U6 (IntKind.wrap .u64 ((a3:Int) * (2 : Int) ^ 0)) = U6 ((a3:Int) * (2 : Int) ^ 0), (0 : Int) ≤ 0, (0 : Int) ≤ 3, 3 < (↑(4 : Nat) : Int), 3 < 4, I6 (IntKind.wrap .i64 ((3 : Int) - (1 : Int))) = I6 2] (ac (wj (by omega)) (ob3 (by omega) (ac (cg (Ah rfl (by omega) (by omega))) (ob4 (by omega) (ao (wj (by omega))))))) ?_
 refine W.sgA 0 [(6, aV (I6 2)), (10, aV (U6 ((a2:Int) * (2 : Int) ^ 0))), (21, aV (I6 1))] (rI 3) (DS.mk [(2, PV.at 1 []), (4, PV.at 2 []), (5, PV.at 3 []), (6, I6 0), (7, I6 0), (8, I6 1)] [(1, Row.mk (B6 4 [(a0:Int), (a1:Int), (a2:Int), (a3:Int)]) false), (2, Row.mk (B6 4 [0, 0, 0, 0]) false), (3, Row.mk (B6 4 [0, 0, (a2:Int) * (2 : Int) ^ 0, (a3:Int) * (2 : Int) ^ 0]) false)]) [I6 (IntKind.wrap .i64 ((2 : Int) - (0 : Int))) = I6 2, (0 : Int) ≤ 2, 2 < (↑(4 : Nat) : Int), 2 < 4, U6 (IntKind.wrap .u64 ((a2:Int) * (2 : Int) ^ 0)) = U6 ((a2:Int) * (2 : Int) ^ 0), (0 : Int) ≤ 0, (0 : Int) ≤ 2, 2 < (↑(4 : Nat) : Int), 2 < 4, I6 (IntKind.wrap .i64 ((2 : Int) - (1 : Int))) = I6 1] (ac (wj (by omega)) (ob3 (by omega) (ac (cg (Ah rfl (by omega) (by omega))) (ob4 (by omega) (ao (wj (by omega))))))) ?_
 refine W.sgA 0 [(6, aV (I6 1)), (10, aV (U6 ((a1:Int) * (2 : Int) ^ 0))), (21, aV (I6 0))] (rI 3) (DS.mk [(2, PV.at 1 []), (4, PV.at 2 []), (5, PV.at 3 []), (6, I6 0), (7, I6 0), (8, I6 0)] [(1, Row.mk (B6 4 [(a0:Int), (a1:Int), (a2:Int), (a3:Int)]) false), (2, Row.mk (B6 4 [0, 0, 0, 0]) false), (3, Row.mk (B6 4 [0, (a1:Int) * (2 : Int) ^ 0, (a2:Int) * (2 : Int) ^ 0, (a3:Int) * (2 : Int) ^ 0]) false)]) [I6 (IntKind.wrap .i64 ((1 : Int) - (0 : Int))) = I6 1, (0 : Int) ≤ 1, 1 < (↑(4 : Nat) : Int), 1 < 4, U6 (IntKind.wrap .u64 ((a1:Int) * (2 : Int) ^ 0)) = U6 ((a1:Int) * (2 : Int) ^ 0), (0 : Int) ≤ 0, (0 : Int) ≤ 1, 1 < (↑(4 : Nat) : Int), 1 < 4, I6 (IntKind.wrap .i64 ((1 : Int) - (1 : Int))) = I6 0] (ac (wj (by omega)) (ob3 (by omega) (ac (cg (Ah rfl (by omega) (by omega))) (ob4 (by omega) (ao (wj (by omega))))))) ?_
 refine W.sgA 0 [(6, aV (I6 0)), (10, aV (U6 ((a0:Int) * (2 : Int) ^ 0))), (21, aV (I6 (-1)))] (rI 3) (DS.mk [(2, PV.at 1 []), (4, PV.at 2 []), (5, PV.at 3 []), (6, I6 0), (7, I6 0), (8, I6 (-1))] [(1, Row.mk (B6 4 [(a0:Int), (a1:Int), (a2:Int), (a3:Int)]) false), (2, Row.mk (B6 4 [0, 0, 0, 0]) false), (3, Row.mk (B6 4 [(a0:Int) * (2 : Int) ^ 0, (a1:Int) * (2 : Int) ^ 0, (a2:Int) * (2 : Int) ^ 0, (a3:Int) * (2 : Int) ^ 0]) false)]) [I6 (IntKind.wrap .i64 ((0 : Int) - (0 : Int))) = I6 0, (0 : Int) ≤ 0, 0 < (↑(4 : Nat) : Int), 0 < 4, U6 (IntKind.wrap .u64 ((a0:Int) * (2 : Int) ^ 0)) = U6 ((a0:Int) * (2 : Int) ^ 0), (0 : Int) ≤ 0, (0 : Int) ≤ 0, 0 < (↑(4 : Nat) : Int), 0 < 4, I6 (IntKind.wrap .i64 ((0 : Int) - (1 : Int))) = I6 (-1)] (ac (wj (by omega)) (ob3 (by omega) (ac (cg (Ah rfl (by omega) (by omega))) (ob4 (by omega) (ao (wj (by omega))))))) ?_
 refine W.ret [] [] [B6 4 [(a0:Int) * (2 : Int) ^ 0, (a1:Int) * (2 : Int) ^ 0, (a2:Int) * (2 : Int) ^ 0, (a3:Int) * (2 : Int) ^ 0] = B6 4 [(a0:Int), (a1:Int), (a2:Int), (a3:Int)]] (by kernel_rfl) (ao (by (simp; done)))
 all_goals first | rfl | (simp; done)
set_option maxHeartbeats 4000000 in
theorem pc_shl1 {a0 a1 a2 a3 k s : Nat} {x : Int} (hm : mx x 0 = k) (p0 : a0 < 18446744073709551616) (p1 : a1 < 18446744073709551616) (p2 : a2 < 18446744073709551616) (p3 : a3 < 18446744073709551616) (hs0 : 0 < s) (hs : s < 64) (hk : k = 64 + s) : Pt 78 [] [.iarr .u64 4 [(a0 : Int), (a1 : Int), (a2 : Int), (a3 : Int)], .int .i64 x] [] (.iarr .u64 4 [((0 : Nat) : Int), ((a0 * 2 ^ s % 18446744073709551616 : Nat) : Int), ((a1 * 2 ^ s % 18446744073709551616 ||| a0 / 2 ^ (64 - s) : Nat) : Int), ((a2 * 2 ^ s % 18446744073709551616 ||| a1 / 2 ^ (64 - s) : Nat) : Int)]) := by
 refine pO Tryz.func78 (by kernel_rfl) ?_
 have hq : (k : Int).tdiv 64 = 1 := by rw [Int.tdiv_eq_ediv_of_nonneg (by omega)]; omega
 have hr : (k : Int).tmod 64 = (s : Int) := by rw [Int.tmod_eq_emod_of_nonneg (by omega)]; omega
 have d0 : a0 / 2 ^ (64 - s) < 18446744073709551616 := Nat.lt_of_le_of_lt (Nat.div_le_self _ _) p0
 have d1 : a1 / 2 ^ (64 - s) < 18446744073709551616 := Nat.lt_of_le_of_lt (Nat.div_le_self _ _) p1
 have d2 : a2 / 2 ^ (64 - s) < 18446744073709551616 := Nat.lt_of_le_of_lt (Nat.div_le_self _ _) p2
 have d3 : a3 / 2 ^ (64 - s) < 18446744073709551616 := Nat.lt_of_le_of_lt (Nat.div_le_self _ _) p3
 have f0 : ((a0 : Nat) : Int).fdiv (2 ^ (min (64 - s) 64)) = ((a0 / 2 ^ (64 - s) : Nat) : Int) := AL (y := ((64 - s : Nat) : Int)) rfl rfl p0
 have f1 : ((a1 : Nat) : Int).fdiv (2 ^ (min (64 - s) 64)) = ((a1 / 2 ^ (64 - s) : Nat) : Int) := AL (y := ((64 - s : Nat) : Int)) rfl rfl p1
 have f2 : ((a2 : Nat) : Int).fdiv (2 ^ (min (64 - s) 64)) = ((a2 / 2 ^ (64 - s) : Nat) : Int) := AL (y := ((64 - s : Nat) : Int)) rfl rfl p2
 have f3 : ((a3 : Nat) : Int).fdiv (2 ^ (min (64 - s) 64)) = ((a3 / 2 ^ (64 - s) : Nat) : Int) := AL (y := ((64 - s : Nat) : Int)) rfl rfl p3
 have orr : ∀ x y : Nat, x < 18446744073709551616 → y < 18446744073709551616 → bits .or .u64 (x : Int) (y : Int) = ((x ||| y : Nat) : Int) := fun x y hx hy => BF rfl rfl hx hy
 have md : ∀ x : Nat, x % 18446744073709551616 < 18446744073709551616 := fun x => Nat.mod_lt _ (by omega)
 have h6 : (64 : Int) - s = ((64 - s : Nat) : Int) := by omega
 refine W.sgA 0 [(4, aV (I6 k)), (7, aF), (9, aV (I6 1)), (11, aV (I6 s))] [(64, 1), (80, 2), (96, 3)] (DS.mk [(2, PV.at 1 []), (4, PV.at 2 []), (5, PV.at 3 []), (6, I6 1), (7, I6 s), (8, I6 3)] [(1, Row.mk (B6 4 [(a0:Int), (a1:Int), (a2:Int), (a3:Int)]) false), (2, Row.mk (B6 4 [0, 0, 0, 0]) false), (3, Row.mk (B6 4 [0, 0, 0, 0]) false)]) [I6 (mx x (0 : Int)) = I6 k, decide ((k:Int) ≥ 256) = false, I6 (IntKind.wrap .i64 (Int.tdiv (k:Int) (64 : Int))) = I6 1, (64 : Int) ≠ 0, I6 (Int.tmod (k:Int) (64 : Int)) = I6 s, (64 : Int) ≠ 0] (ac (cg (hm)) (ac (dF (by omega)) (ac (cg (Ac hq (by omega) (by omega))) (ac (by omega) (ac (cg (hr)) (ao (by omega))))))) ?_
 refine W.sgA 0 [(6, aV (I6 2)), (10, aV (U6 ↑(a2 * 2 ^ s % 18446744073709551616))), (18, aT), (25, aV (I6 2)), (26, aV (I6 1)), (30, aV (I6 ↑(64 - s))), (31, aV (U6 ↑(a1 / 2 ^ (64 - s)))), (32, aV (U6 ↑(a2 * 2 ^ s % 18446744073709551616 ||| a1 / 2 ^ (64 - s)))), (36, aV (I6 2))] (rI 3) (DS.mk [(2, PV.at 1 []), (4, PV.at 2 []), (5, PV.at 3 []), (6, I6 1), (7, I6 s), (8, I6 2)] [(1, Row.mk (B6 4 [(a0:Int), (a1:Int), (a2:Int), (a3:Int)]) false), (2, Row.mk (B6 4 [0, 0, 0, 0]) false), (3, Row.mk (B6 4 [0, 0, 0, (↑(a2 * 2 ^ s % 18446744073709551616 ||| a1 / 2 ^ (64 - s)) : Int)]) false)]) [I6 (IntKind.wrap .i64 ((3 : Int) - (1 : Int))) = I6 2, (0 : Int) ≤ 2, 2 < (↑(4 : Nat) : Int), 2 < 4, U6 (IntKind.wrap .u64 ((a2:Int) * (2 : Int) ^ min s 64)) = U6 ↑(a2 * 2 ^ s % 18446744073709551616), 0 ≤ (s:Int), (0 : Int) ≤ 3, 3 < (↑(4 : Nat) : Int), 3 < 4, decide ((s:Int) > 0) = true, (0 : Int) ≤ 3, 3 < (↑(4 : Nat) : Int), 3 < 4, I6 (IntKind.wrap .i64 ((3 : Int) - (1 : Int))) = I6 2, I6 (IntKind.wrap .i64 ((2 : Int) - (1 : Int))) = I6 1, (0 : Int) ≤ 1, 1 < (↑(4 : Nat) : Int), 1 < 4, I6 (IntKind.wrap .i64 (64 - (s:Int))) = I6 ↑(64 - s), U6 (Int.fdiv (a1:Int) ((2 : Int) ^ min (Int.toNat (↑(64 - s) : Int)) 64)) = U6 ↑(a1 / 2 ^ (64 - s)), 0 ≤ (↑(64 - s) : Int), U6 (bits BinOp.or .u64 (↑(a2 * 2 ^ s % 18446744073709551616) : Int) (↑(a1 / 2 ^ (64 - s)) : Int)) = U6 ↑(a2 * 2 ^ s % 18446744073709551616 ||| a1 / 2 ^ (64 - s)), (0 : Int) ≤ 3, 3 < (↑(4 : Nat) : Int), 3 < 4, I6 (IntKind.wrap .i64 ((3 : Int) - (1 : Int))) = I6 2] (ac (wj (by omega)) (ob3 (by omega) (ac (cg (Bt (y := ((s : Nat) : Int)) rfl rfl)) (ob4 (by omega) (ac (dT (by omega)) (ob3 (by omega) (ac (wj (by omega)) (ac (wj (by omega)) (ob3 (by omega) (ac (cg (Ac h6 (by omega) (by omega))) (ac (cg (f1)) (ac (by omega) (ac (cg (BF rfl rfl (by omega) (by omega))) (ob3 (by omega) (ao (wj (by omega))))))))))))))))) ?_
 refine W.sgA 0 [(6, aV (I6 1)), (10, aV (U6 ↑(a1 * 2 ^ s % 18446744073709551616))), (18, aT), (25, aV (I6 1)), (26, aV (I6 0)), (30, aV (I6 ↑(64 - s))), (31, aV (U6 ↑(a0 / 2 ^ (64 - s)))), (32, aV (U6 ↑(a1 * 2 ^ s % 18446744073709551616 ||| a0 / 2 ^ (64 - s)))), (36, aV (I6 1))] (rI 3) (DS.mk [(2, PV.at 1 []), (4, PV.at 2 []), (5, PV.at 3 []), (6, I6 1), (7, I6 s), (8, I6 1)] [(1, Row.mk (B6 4 [(a0:Int), (a1:Int), (a2:Int), (a3:Int)]) false), (2, Row.mk (B6 4 [0, 0, 0, 0]) false), (3, Row.mk (B6 4 [0, 0, (↑(a1 * 2 ^ s % 18446744073709551616 ||| a0 / 2 ^ (64 - s)) : Int), (↑(a2 * 2 ^ s % 18446744073709551616 ||| a1 / 2 ^ (64 - s)) : Int)]) false)]) [I6 (IntKind.wrap .i64 ((2 : Int) - (1 : Int))) = I6 1, (0 : Int) ≤ 1, 1 < (↑(4 : Nat) : Int), 1 < 4, U6 (IntKind.wrap .u64 ((a1:Int) * (2 : Int) ^ min s 64)) = U6 ↑(a1 * 2 ^ s % 18446744073709551616), 0 ≤ (s:Int), (0 : Int) ≤ 2, 2 < (↑(4 : Nat) : Int), 2 < 4, decide ((s:Int) > 0) = true, (0 : Int) ≤ 2, 2 < (↑(4 : Nat) : Int), 2 < 4, I6 (IntKind.wrap .i64 ((2 : Int) - (1 : Int))) = I6 1, I6 (IntKind.wrap .i64 ((1 : Int) - (1 : Int))) = I6 0, (0 : Int) ≤ 0, 0 < (↑(4 : Nat) : Int), 0 < 4, I6 (IntKind.wrap .i64 (64 - (s:Int))) = I6 ↑(64 - s), U6 (Int.fdiv (a0:Int) ((2 : Int) ^ min (Int.toNat (↑(64 - s) : Int)) 64)) = U6 ↑(a0 / 2 ^ (64 - s)), 0 ≤ (↑(64 - s) : Int), U6 (bits BinOp.or .u64 (↑(a1 * 2 ^ s % 18446744073709551616) : Int) (↑(a0 / 2 ^ (64 - s)) : Int)) = U6 ↑(a1 * 2 ^ s % 18446744073709551616 ||| a0 / 2 ^ (64 - s)), (0 : Int) ≤ 2, 2 < (↑(4 : Nat) : Int), 2 < 4, I6 (IntKind.wrap .i64 ((2 : Int) - (1 : Int))) = I6 1] (ac (wj (by omega)) (ob3 (by omega) (ac (cg (Bt (y := ((s : Nat) : Int)) rfl rfl)) (ob4 (by omega) (ac (dT (by omega)) (ob3 (by omega) (ac (wj (by omega)) (ac (wj (by omega)) (ob3 (by omega) (ac (cg (Ac h6 (by omega) (by omega))) (ac (cg (f0)) (ac (by omega) (ac (cg (BF rfl rfl (by omega) (by omega))) (ob3 (by omega) (ao (wj (by omega))))))))))))))))) ?_
 refine W.sgA 0 [(6, aV (I6 0)), (10, aV (U6 ↑(a0 * 2 ^ s % 18446744073709551616))), (21, aV (I6 0))] (rI 3) (DS.mk [(2, PV.at 1 []), (4, PV.at 2 []), (5, PV.at 3 []), (6, I6 1), (7, I6 s), (8, I6 0)] [(1, Row.mk (B6 4 [(a0:Int), (a1:Int), (a2:Int), (a3:Int)]) false), (2, Row.mk (B6 4 [0, 0, 0, 0]) false), (3, Row.mk (B6 4 [0, (↑(a0 * 2 ^ s % 18446744073709551616) : Int), (↑(a1 * 2 ^ s % 18446744073709551616 ||| a0 / 2 ^ (64 - s)) : Int), (↑(a2 * 2 ^ s % 18446744073709551616 ||| a1 / 2 ^ (64 - s)) : Int)]) false)]) [I6 (IntKind.wrap .i64 ((1 : Int) - (1 : Int))) = I6 0, (0 : Int) ≤ 0, 0 < (↑(4 : Nat) : Int), 0 < 4, U6 (IntKind.wrap .u64 ((a0:Int) * (2 : Int) ^ min s 64)) = U6 ↑(a0 * 2 ^ s % 18446744073709551616), 0 ≤ (s:Int), (0 : Int) ≤ 1, 1 < (↑(4 : Nat) : Int), 1 < 4, I6 (IntKind.wrap .i64 ((1 : Int) - (1 : Int))) = I6 0] (ac (wj (by omega)) (ob3 (by omega) (ac (cg (Bt (y := ((s : Nat) : Int)) rfl rfl)) (ob4 (by omega) (ao (wj (by omega))))))) ?_
 refine W.rtA [] [] [] trivial
 all_goals first | rfl | (simp; done) | (rw [f0, orr _ _ (md _) d0]; rfl) | (rw [f1, f0, orr _ _ (md _) d0, orr _ _ (md _) d1]; rfl) | (rw [f2, f1, f0, orr _ _ (md _) d0, orr _ _ (md _) d1, orr _ _ (md _) d2]; rfl)
set_option maxHeartbeats 4000000 in
theorem WI {a0 a1 a2 a3 k s : Nat} {x : Int} (hm : mx x 0 = k) (p0 : a0 < 18446744073709551616) (p1 : a1 < 18446744073709551616) (p2 : a2 < 18446744073709551616) (p3 : a3 < 18446744073709551616) (hk : k = 64 + 0) : Pt 78 [] [.iarr .u64 4 [(a0 : Int), (a1 : Int), (a2 : Int), (a3 : Int)], .int .i64 x] [] (.iarr .u64 4 [((0 : Nat) : Int), ((a0 : Nat) : Int), ((a1 : Nat) : Int), ((a2 : Nat) : Int)]) := by
 refine pO Tryz.func78 (by kernel_rfl) ?_
 have hq : (k : Int).tdiv 64 = 1 := by rw [Int.tdiv_eq_ediv_of_nonneg (by omega)]; omega
 have hr : (k : Int).tmod 64 = 0 := by rw [Int.tmod_eq_emod_of_nonneg (by omega)]; omega
 refine W.sgA 0 [(4, aV (I6 k)), (7, aF), (9, aV (I6 1)), (11, aV (I6 0))] [(64, 1), (80, 2), (96, 3)] (DS.mk [(2, PV.at 1 []), (4, PV.at 2 []), (5, PV.at 3 []), (6, I6 1), (7, I6 0), (8, I6 3)] [(1, Row.mk (B6 4 [(a0:Int), (a1:Int), (a2:Int), (a3:Int)]) false), (2, Row.mk (B6 4 [0, 0, 0, 0]) false), (3, Row.mk (B6 4 [0, 0, 0, 0]) false)]) [I6 (mx x (0 : Int)) = I6 k, decide ((k:Int) ≥ 256) = false, I6 (IntKind.wrap .i64 (Int.tdiv (k:Int) (64 : Int))) = I6 1, (64 : Int) ≠ 0, I6 (Int.tmod (k:Int) (64 : Int)) = I6 0, (64 : Int) ≠ 0] (ac (cg (hm)) (ac (dF (by omega)) (ac (cg (Ac hq (by omega) (by omega))) (ac (by omega) (ac (cg (hr)) (ao (by omega))))))) ?_
 refine W.sgA 0 [(6, aV (I6 2)), (10, aV (U6 ((a2:Int) * (2 : Int) ^ 0))), (21, aV (I6 2))] (rI 3) (DS.mk [(2, PV.at 1 []), (4, PV.at 2 []), (5, PV.at 3 []), (6, I6 1), (7, I6 0), (8, I6 2)] [(1, Row.mk (B6 4 [(a0:Int), (a1:Int), (a2:Int), (a3:Int)]) false), (2, Row.mk (B6 4 [0, 0, 0, 0]) false), (3, Row.mk (B6 4 [0, 0, 0, (a2:Int) * (2 : Int) ^ 0]) false)]) [I6 (IntKind.wrap .i64 ((3 : Int) - (1 : Int))) = I6 2, (0 : Int) ≤ 2, 2 < (↑(4 : Nat) : Int), 2 < 4, U6 (IntKind.wrap .u64 ((a2:Int) * (2 : Int) ^ 0)) = U6 ((a2:Int) * (2 : Int) ^ 0), (0 : Int) ≤ 0, (0 : Int) ≤ 3, 3 < (↑(4 : Nat) : Int), 3 < 4, I6 (IntKind.wrap .i64 ((3 : Int) - (1 : Int))) = I6 2] (ac (wj (by omega)) (ob3 (by omega) (ac (cg (Ah rfl (by omega) (by omega))) (ob4 (by omega) (ao (wj (by omega))))))) ?_
 refine W.sgA 0 [(6, aV (I6 1)), (10, aV (U6 ((a1:Int) * (2 : Int) ^ 0))), (21, aV (I6 1))] (rI 3) (DS.mk [(2, PV.at 1 []), (4, PV.at 2 []), (5, PV.at 3 []), (6, I6 1), (7, I6 0), (8, I6 1)] [(1, Row.mk (B6 4 [(a0:Int), (a1:Int), (a2:Int), (a3:Int)]) false), (2, Row.mk (B6 4 [0, 0, 0, 0]) false), (3, Row.mk (B6 4 [0, 0, (a1:Int) * (2 : Int) ^ 0, (a2:Int) * (2 : Int) ^ 0]) false)]) [I6 (IntKind.wrap .i64 ((2 : Int) - (1 : Int))) = I6 1, (0 : Int) ≤ 1, 1 < (↑(4 : Nat) : Int), 1 < 4, U6 (IntKind.wrap .u64 ((a1:Int) * (2 : Int) ^ 0)) = U6 ((a1:Int) * (2 : Int) ^ 0), (0 : Int) ≤ 0, (0 : Int) ≤ 2, 2 < (↑(4 : Nat) : Int), 2 < 4, I6 (IntKind.wrap .i64 ((2 : Int) - (1 : Int))) = I6 1] (ac (wj (by omega)) (ob3 (by omega) (ac (cg (Ah rfl (by omega) (by omega))) (ob4 (by omega) (ao (wj (by omega))))))) ?_
 refine W.sgA 0 [(6, aV (I6 0)), (10, aV (U6 ((a0:Int) * (2 : Int) ^ 0))), (21, aV (I6 0))] (rI 3) (DS.mk [(2, PV.at 1 []), (4, PV.at 2 []), (5, PV.at 3 []), (6, I6 1), (7, I6 0), (8, I6 0)] [(1, Row.mk (B6 4 [(a0:Int), (a1:Int), (a2:Int), (a3:Int)]) false), (2, Row.mk (B6 4 [0, 0, 0, 0]) false), (3, Row.mk (B6 4 [0, (a0:Int) * (2 : Int) ^ 0, (a1:Int) * (2 : Int) ^ 0, (a2:Int) * (2 : Int) ^ 0]) false)]) [I6 (IntKind.wrap .i64 ((1 : Int) - (1 : Int))) = I6 0, (0 : Int) ≤ 0, 0 < (↑(4 : Nat) : Int), 0 < 4, U6 (IntKind.wrap .u64 ((a0:Int) * (2 : Int) ^ 0)) = U6 ((a0:Int) * (2 : Int) ^ 0), (0 : Int) ≤ 0, (0 : Int) ≤ 1, 1 < (↑(4 : Nat) : Int), 1 < 4, I6 (IntKind.wrap .i64 ((1 : Int) - (1 : Int))) = I6 0] (ac (wj (by omega)) (ob3 (by omega) (ac (cg (Ah rfl (by omega) (by omega))) (ob4 (by omega) (ao (wj (by omega))))))) ?_
 refine W.ret [] [] [B6 4 [0, (a0:Int) * (2 : Int) ^ 0, (a1:Int) * (2 : Int) ^ 0, (a2:Int) * (2 : Int) ^ 0] = B6 4 [(↑(0 : Nat) : Int), (a0:Int), (a1:Int), (a2:Int)]] (by kernel_rfl) (ao (by (simp; done)))
 all_goals first | rfl | (simp; done)
set_option maxHeartbeats 4000000 in
theorem pc_shl2 {a0 a1 a2 a3 k s : Nat} {x : Int} (hm : mx x 0 = k) (p0 : a0 < 18446744073709551616) (p1 : a1 < 18446744073709551616) (p2 : a2 < 18446744073709551616) (p3 : a3 < 18446744073709551616) (hs0 : 0 < s) (hs : s < 64) (hk : k = 128 + s) : Pt 78 [] [.iarr .u64 4 [(a0 : Int), (a1 : Int), (a2 : Int), (a3 : Int)], .int .i64 x] [] (.iarr .u64 4 [((0 : Nat) : Int), ((0 : Nat) : Int), ((a0 * 2 ^ s % 18446744073709551616 : Nat) : Int), ((a1 * 2 ^ s % 18446744073709551616 ||| a0 / 2 ^ (64 - s) : Nat) : Int)]) := by
 refine pO Tryz.func78 (by kernel_rfl) ?_
 have hq : (k : Int).tdiv 64 = 2 := by rw [Int.tdiv_eq_ediv_of_nonneg (by omega)]; omega
 have hr : (k : Int).tmod 64 = (s : Int) := by rw [Int.tmod_eq_emod_of_nonneg (by omega)]; omega
 have d0 : a0 / 2 ^ (64 - s) < 18446744073709551616 := Nat.lt_of_le_of_lt (Nat.div_le_self _ _) p0
 have d1 : a1 / 2 ^ (64 - s) < 18446744073709551616 := Nat.lt_of_le_of_lt (Nat.div_le_self _ _) p1
 have d2 : a2 / 2 ^ (64 - s) < 18446744073709551616 := Nat.lt_of_le_of_lt (Nat.div_le_self _ _) p2
 have d3 : a3 / 2 ^ (64 - s) < 18446744073709551616 := Nat.lt_of_le_of_lt (Nat.div_le_self _ _) p3
 have f0 : ((a0 : Nat) : Int).fdiv (2 ^ (min (64 - s) 64)) = ((a0 / 2 ^ (64 - s) : Nat) : Int) := AL (y := ((64 - s : Nat) : Int)) rfl rfl p0
 have f1 : ((a1 : Nat) : Int).fdiv (2 ^ (min (64 - s) 64)) = ((a1 / 2 ^ (64 - s) : Nat) : Int) := AL (y := ((64 - s : Nat) : Int)) rfl rfl p1
 have f2 : ((a2 : Nat) : Int).fdiv (2 ^ (min (64 - s) 64)) = ((a2 / 2 ^ (64 - s) : Nat) : Int) := AL (y := ((64 - s : Nat) : Int)) rfl rfl p2
 have f3 : ((a3 : Nat) : Int).fdiv (2 ^ (min (64 - s) 64)) = ((a3 / 2 ^ (64 - s) : Nat) : Int) := AL (y := ((64 - s : Nat) : Int)) rfl rfl p3
 have orr : ∀ x y : Nat, x < 18446744073709551616 → y < 18446744073709551616 → bits .or .u64 (x : Int) (y : Int) = ((x ||| y : Nat) : Int) := fun x y hx hy => BF rfl rfl hx hy
 have md : ∀ x : Nat, x % 18446744073709551616 < 18446744073709551616 := fun x => Nat.mod_lt _ (by omega)
 have h6 : (64 : Int) - s = ((64 - s : Nat) : Int) := by omega
 refine W.sgA 0 [(4, aV (I6 k)), (7, aF), (9, aV (I6 2)), (11, aV (I6 s))] [(64, 1), (80, 2), (96, 3)] (DS.mk [(2, PV.at 1 []), (4, PV.at 2 []), (5, PV.at 3 []), (6, I6 2), (7, I6 s), (8, I6 3)] [(1, Row.mk (B6 4 [(a0:Int), (a1:Int), (a2:Int), (a3:Int)]) false), (2, Row.mk (B6 4 [0, 0, 0, 0]) false), (3, Row.mk (B6 4 [0, 0, 0, 0]) false)]) [I6 (mx x (0 : Int)) = I6 k, decide ((k:Int) ≥ 256) = false, I6 (IntKind.wrap .i64 (Int.tdiv (k:Int) (64 : Int))) = I6 2, (64 : Int) ≠ 0, I6 (Int.tmod (k:Int) (64 : Int)) = I6 s, (64 : Int) ≠ 0] (ac (cg (hm)) (ac (dF (by omega)) (ac (cg (Ac hq (by omega) (by omega))) (ac (by omega) (ac (cg (hr)) (ao (by omega))))))) ?_
 refine W.sgA 0 [(6, aV (I6 1)), (10, aV (U6 ↑(a1 * 2 ^ s % 18446744073709551616))), (18, aT), (25, aV (I6 1)), (26, aV (I6 0)), (30, aV (I6 ↑(64 - s))), (31, aV (U6 ↑(a0 / 2 ^ (64 - s)))), (32, aV (U6 ↑(a1 * 2 ^ s % 18446744073709551616 ||| a0 / 2 ^ (64 - s)))), (36, aV (I6 2))] (rI 3) (DS.mk [(2, PV.at 1 []), (4, PV.at 2 []), (5, PV.at 3 []), (6, I6 2), (7, I6 s), (8, I6 2)] [(1, Row.mk (B6 4 [(a0:Int), (a1:Int), (a2:Int), (a3:Int)]) false), (2, Row.mk (B6 4 [0, 0, 0, 0]) false), (3, Row.mk (B6 4 [0, 0, 0, (↑(a1 * 2 ^ s % 18446744073709551616 ||| a0 / 2 ^ (64 - s)) : Int)]) false)]) [I6 (IntKind.wrap .i64 ((3 : Int) - (2 : Int))) = I6 1, (0 : Int) ≤ 1, 1 < (↑(4 : Nat) : Int), 1 < 4, U6 (IntKind.wrap .u64 ((a1:Int) * (2 : Int) ^ min s 64)) = U6 ↑(a1 * 2 ^ s % 18446744073709551616), 0 ≤ (s:Int), (0 : Int) ≤ 3, 3 < (↑(4 : Nat) : Int), 3 < 4, decide ((s:Int) > 0) = true, (0 : Int) ≤ 3, 3 < (↑(4 : Nat) : Int), 3 < 4, I6 (IntKind.wrap .i64 ((3 : Int) - (2 : Int))) = I6 1, I6 (IntKind.wrap .i64 ((1 : Int) - (1 : Int))) = I6 0, (0 : Int) ≤ 0, 0 < (↑(4 : Nat) : Int), 0 < 4, I6 (IntKind.wrap .i64 (64 - (s:Int))) = I6 ↑(64 - s), U6 (Int.fdiv (a0:Int) ((2 : Int) ^ min (Int.toNat (↑(64 - s) : Int)) 64)) = U6 ↑(a0 / 2 ^ (64 - s)), 0 ≤ (↑(64 - s) : Int), U6 (bits BinOp.or .u64 (↑(a1 * 2 ^ s % 18446744073709551616) : Int) (↑(a0 / 2 ^ (64 - s)) : Int)) = U6 ↑(a1 * 2 ^ s % 18446744073709551616 ||| a0 / 2 ^ (64 - s)), (0 : Int) ≤ 3, 3 < (↑(4 : Nat) : Int), 3 < 4, I6 (IntKind.wrap .i64 ((3 : Int) - (1 : Int))) = I6 2] (ac (wj (by omega)) (ob3 (by omega) (ac (cg (Bt (y := ((s : Nat) : Int)) rfl rfl)) (ob4 (by omega) (ac (dT (by omega)) (ob3 (by omega) (ac (wj (by omega)) (ac (wj (by omega)) (ob3 (by omega) (ac (cg (Ac h6 (by omega) (by omega))) (ac (cg (f0)) (ac (by omega) (ac (cg (BF rfl rfl (by omega) (by omega))) (ob3 (by omega) (ao (wj (by omega))))))))))))))))) ?_
 refine W.sgA 0 [(6, aV (I6 0)), (10, aV (U6 ↑(a0 * 2 ^ s % 18446744073709551616))), (21, aV (I6 1))] (rI 3) (DS.mk [(2, PV.at 1 []), (4, PV.at 2 []), (5, PV.at 3 []), (6, I6 2), (7, I6 s), (8, I6 1)] [(1, Row.mk (B6 4 [(a0:Int), (a1:Int), (a2:Int), (a3:Int)]) false), (2, Row.mk (B6 4 [0, 0, 0, 0]) false), (3, Row.mk (B6 4 [0, 0, (↑(a0 * 2 ^ s % 18446744073709551616) : Int), (↑(a1 * 2 ^ s % 18446744073709551616 ||| a0 / 2 ^ (64 - s)) : Int)]) false)]) [I6 (IntKind.wrap .i64 ((2 : Int) - (2 : Int))) = I6 0, (0 : Int) ≤ 0, 0 < (↑(4 : Nat) : Int), 0 < 4, U6 (IntKind.wrap .u64 ((a0:Int) * (2 : Int) ^ min s 64)) = U6 ↑(a0 * 2 ^ s % 18446744073709551616), 0 ≤ (s:Int), (0 : Int) ≤ 2, 2 < (↑(4 : Nat) : Int), 2 < 4, I6 (IntKind.wrap .i64 ((2 : Int) - (1 : Int))) = I6 1] (ac (wj (by omega)) (ob3 (by omega) (ac (cg (Bt (y := ((s : Nat) : Int)) rfl rfl)) (ob4 (by omega) (ao (wj (by omega))))))) ?_
 refine W.rtA [] [] [] trivial
 all_goals first | rfl | (simp; done) | (rw [f0, orr _ _ (md _) d0]; rfl) | (rw [f1, f0, orr _ _ (md _) d0, orr _ _ (md _) d1]; rfl) | (rw [f2, f1, f0, orr _ _ (md _) d0, orr _ _ (md _) d1, orr _ _ (md _) d2]; rfl)
set_option maxHeartbeats 4000000 in
theorem X4 {a0 a1 a2 a3 k s : Nat} {x : Int} (hm : mx x 0 = k) (p0 : a0 < 18446744073709551616) (p1 : a1 < 18446744073709551616) (p2 : a2 < 18446744073709551616) (p3 : a3 < 18446744073709551616) (hk : k = 128 + 0) : Pt 78 [] [.iarr .u64 4 [(a0 : Int), (a1 : Int), (a2 : Int), (a3 : Int)], .int .i64 x] [] (.iarr .u64 4 [((0 : Nat) : Int), ((0 : Nat) : Int), ((a0 : Nat) : Int), ((a1 : Nat) : Int)]) := by
 refine pO Tryz.func78 (by kernel_rfl) ?_
 have hq : (k : Int).tdiv 64 = 2 := by rw [Int.tdiv_eq_ediv_of_nonneg (by omega)]; omega
 have hr : (k : Int).tmod 64 = 0 := by rw [Int.tmod_eq_emod_of_nonneg (by omega)]; omega
 refine W.sgA 0 [(4, aV (I6 k)), (7, aF), (9, aV (I6 2)), (11, aV (I6 0))] [(64, 1), (80, 2), (96, 3)] (DS.mk [(2, PV.at 1 []), (4, PV.at 2 []), (5, PV.at 3 []), (6, I6 2), (7, I6 0), (8, I6 3)] [(1, Row.mk (B6 4 [(a0:Int), (a1:Int), (a2:Int), (a3:Int)]) false), (2, Row.mk (B6 4 [0, 0, 0, 0]) false), (3, Row.mk (B6 4 [0, 0, 0, 0]) false)]) [I6 (mx x (0 : Int)) = I6 k, decide ((k:Int) ≥ 256) = false, I6 (IntKind.wrap .i64 (Int.tdiv (k:Int) (64 : Int))) = I6 2, (64 : Int) ≠ 0, I6 (Int.tmod (k:Int) (64 : Int)) = I6 0, (64 : Int) ≠ 0] (ac (cg (hm)) (ac (dF (by omega)) (ac (cg (Ac hq (by omega) (by omega))) (ac (by omega) (ac (cg (hr)) (ao (by omega))))))) ?_
 refine W.sgA 0 [(6, aV (I6 1)), (10, aV (U6 ((a1:Int) * (2 : Int) ^ 0))), (21, aV (I6 2))] (rI 3) (DS.mk [(2, PV.at 1 []), (4, PV.at 2 []), (5, PV.at 3 []), (6, I6 2), (7, I6 0), (8, I6 2)] [(1, Row.mk (B6 4 [(a0:Int), (a1:Int), (a2:Int), (a3:Int)]) false), (2, Row.mk (B6 4 [0, 0, 0, 0]) false), (3, Row.mk (B6 4 [0, 0, 0, (a1:Int) * (2 : Int) ^ 0]) false)]) [I6 (IntKind.wrap .i64 ((3 : Int) - (2 : Int))) = I6 1, (0 : Int) ≤ 1, 1 < (↑(4 : Nat) : Int), 1 < 4, U6 (IntKind.wrap .u64 ((a1:Int) * (2 : Int) ^ 0)) = U6 ((a1:Int) * (2 : Int) ^ 0), (0 : Int) ≤ 0, (0 : Int) ≤ 3, 3 < (↑(4 : Nat) : Int), 3 < 4, I6 (IntKind.wrap .i64 ((3 : Int) - (1 : Int))) = I6 2] (ac (wj (by omega)) (ob3 (by omega) (ac (cg (Ah rfl (by omega) (by omega))) (ob4 (by omega) (ao (wj (by omega))))))) ?_
 refine W.sgA 0 [(6, aV (I6 0)), (10, aV (U6 ((a0:Int) * (2 : Int) ^ 0))), (21, aV (I6 1))] (rI 3) (DS.mk [(2, PV.at 1 []), (4, PV.at 2 []), (5, PV.at 3 []), (6, I6 2), (7, I6 0), (8, I6 1)] [(1, Row.mk (B6 4 [(a0:Int), (a1:Int), (a2:Int), (a3:Int)]) false), (2, Row.mk (B6 4 [0, 0, 0, 0]) false), (3, Row.mk (B6 4 [0, 0, (a0:Int) * (2 : Int) ^ 0, (a1:Int) * (2 : Int) ^ 0]) false)]) [I6 (IntKind.wrap .i64 ((2 : Int) - (2 : Int))) = I6 0, (0 : Int) ≤ 0, 0 < (↑(4 : Nat) : Int), 0 < 4, U6 (IntKind.wrap .u64 ((a0:Int) * (2 : Int) ^ 0)) = U6 ((a0:Int) * (2 : Int) ^ 0), (0 : Int) ≤ 0, (0 : Int) ≤ 2, 2 < (↑(4 : Nat) : Int), 2 < 4, I6 (IntKind.wrap .i64 ((2 : Int) - (1 : Int))) = I6 1] (ac (wj (by omega)) (ob3 (by omega) (ac (cg (Ah rfl (by omega) (by omega))) (ob4 (by omega) (ao (wj (by omega))))))) ?_
 refine W.ret [] [] [B6 4 [0, 0, (a0:Int) * (2 : Int) ^ 0, (a1:Int) * (2 : Int) ^ 0] = B6 4 [(↑(0 : Nat) : Int), (↑(0 : Nat) : Int), (a0:Int), (a1:Int)]] (by kernel_rfl) (ao (by (simp; done)))
 all_goals first | rfl | (simp; done)
set_option maxHeartbeats 4000000 in
theorem pc_shl3 {a0 a1 a2 a3 k s : Nat} {x : Int} (hm : mx x 0 = k) (p0 : a0 < 18446744073709551616) (p1 : a1 < 18446744073709551616) (p2 : a2 < 18446744073709551616) (p3 : a3 < 18446744073709551616) (hs0 : 0 < s) (hs : s < 64) (hk : k = 192 + s) : Pt 78 [] [.iarr .u64 4 [(a0 : Int), (a1 : Int), (a2 : Int), (a3 : Int)], .int .i64 x] [] (.iarr .u64 4 [((0 : Nat) : Int), ((0 : Nat) : Int), ((0 : Nat) : Int), ((a0 * 2 ^ s % 18446744073709551616 : Nat) : Int)]) := by
 refine pO Tryz.func78 (by kernel_rfl) ?_
 have hq : (k : Int).tdiv 64 = 3 := by rw [Int.tdiv_eq_ediv_of_nonneg (by omega)]; omega
 have hr : (k : Int).tmod 64 = (s : Int) := by rw [Int.tmod_eq_emod_of_nonneg (by omega)]; omega
 have d0 : a0 / 2 ^ (64 - s) < 18446744073709551616 := Nat.lt_of_le_of_lt (Nat.div_le_self _ _) p0
 have d1 : a1 / 2 ^ (64 - s) < 18446744073709551616 := Nat.lt_of_le_of_lt (Nat.div_le_self _ _) p1
 have d2 : a2 / 2 ^ (64 - s) < 18446744073709551616 := Nat.lt_of_le_of_lt (Nat.div_le_self _ _) p2
 have d3 : a3 / 2 ^ (64 - s) < 18446744073709551616 := Nat.lt_of_le_of_lt (Nat.div_le_self _ _) p3
 have f0 : ((a0 : Nat) : Int).fdiv (2 ^ (min (64 - s) 64)) = ((a0 / 2 ^ (64 - s) : Nat) : Int) := AL (y := ((64 - s : Nat) : Int)) rfl rfl p0
 have f1 : ((a1 : Nat) : Int).fdiv (2 ^ (min (64 - s) 64)) = ((a1 / 2 ^ (64 - s) : Nat) : Int) := AL (y := ((64 - s : Nat) : Int)) rfl rfl p1
 have f2 : ((a2 : Nat) : Int).fdiv (2 ^ (min (64 - s) 64)) = ((a2 / 2 ^ (64 - s) : Nat) : Int) := AL (y := ((64 - s : Nat) : Int)) rfl rfl p2
 have f3 : ((a3 : Nat) : Int).fdiv (2 ^ (min (64 - s) 64)) = ((a3 / 2 ^ (64 - s) : Nat) : Int) := AL (y := ((64 - s : Nat) : Int)) rfl rfl p3
 have orr : ∀ x y : Nat, x < 18446744073709551616 → y < 18446744073709551616 → bits .or .u64 (x : Int) (y : Int) = ((x ||| y : Nat) : Int) := fun x y hx hy => BF rfl rfl hx hy
 have md : ∀ x : Nat, x % 18446744073709551616 < 18446744073709551616 := fun x => Nat.mod_lt _ (by omega)
 have h6 : (64 : Int) - s = ((64 - s : Nat) : Int) := by omega
 refine W.sgA 0 [(4, aV (I6 k)), (7, aF), (9, aV (I6 3)), (11, aV (I6 s))] [(64, 1), (80, 2), (96, 3)] (DS.mk [(2, PV.at 1 []), (4, PV.at 2 []), (5, PV.at 3 []), (6, I6 3), (7, I6 s), (8, I6 3)] [(1, Row.mk (B6 4 [(a0:Int), (a1:Int), (a2:Int), (a3:Int)]) false), (2, Row.mk (B6 4 [0, 0, 0, 0]) false), (3, Row.mk (B6 4 [0, 0, 0, 0]) false)]) [I6 (mx x (0 : Int)) = I6 k, decide ((k:Int) ≥ 256) = false, I6 (IntKind.wrap .i64 (Int.tdiv (k:Int) (64 : Int))) = I6 3, (64 : Int) ≠ 0, I6 (Int.tmod (k:Int) (64 : Int)) = I6 s, (64 : Int) ≠ 0] (ac (cg (hm)) (ac (dF (by omega)) (ac (cg (Ac hq (by omega) (by omega))) (ac (by omega) (ac (cg (hr)) (ao (by omega))))))) ?_
 refine W.sgA 0 [(6, aV (I6 0)), (10, aV (U6 ↑(a0 * 2 ^ s % 18446744073709551616))), (21, aV (I6 2))] (rI 3) (DS.mk [(2, PV.at 1 []), (4, PV.at 2 []), (5, PV.at 3 []), (6, I6 3), (7, I6 s), (8, I6 2)] [(1, Row.mk (B6 4 [(a0:Int), (a1:Int), (a2:Int), (a3:Int)]) false), (2, Row.mk (B6 4 [0, 0, 0, 0]) false), (3, Row.mk (B6 4 [0, 0, 0, (↑(a0 * 2 ^ s % 18446744073709551616) : Int)]) false)]) [I6 (IntKind.wrap .i64 ((3 : Int) - (3 : Int))) = I6 0, (0 : Int) ≤ 0, 0 < (↑(4 : Nat) : Int), 0 < 4, U6 (IntKind.wrap .u64 ((a0:Int) * (2 : Int) ^ min s 64)) = U6 ↑(a0 * 2 ^ s % 18446744073709551616), 0 ≤ (s:Int), (0 : Int) ≤ 3, 3 < (↑(4 : Nat) : Int), 3 < 4, I6 (IntKind.wrap .i64 ((3 : Int) - (1 : Int))) = I6 2] (ac (wj (by omega)) (ob3 (by omega) (ac (cg (Bt (y := ((s : Nat) : Int)) rfl rfl)) (ob4 (by omega) (ao (wj (by omega))))))) ?_
 refine W.rtA [] [] [] trivial
 all_goals first | rfl | (simp; done) | (rw [f0, orr _ _ (md _) d0]; rfl) | (rw [f1, f0, orr _ _ (md _) d0, orr _ _ (md _) d1]; rfl) | (rw [f2, f1, f0, orr _ _ (md _) d0, orr _ _ (md _) d1, orr _ _ (md _) d2]; rfl)
set_option maxHeartbeats 4000000 in
theorem V3 {a0 a1 a2 a3 k s : Nat} {x : Int} (hm : mx x 0 = k) (p0 : a0 < 18446744073709551616) (p1 : a1 < 18446744073709551616) (p2 : a2 < 18446744073709551616) (p3 : a3 < 18446744073709551616) (hk : k = 192 + 0) : Pt 78 [] [.iarr .u64 4 [(a0 : Int), (a1 : Int), (a2 : Int), (a3 : Int)], .int .i64 x] [] (.iarr .u64 4 [((0 : Nat) : Int), ((0 : Nat) : Int), ((0 : Nat) : Int), ((a0 : Nat) : Int)]) := by
 refine pO Tryz.func78 (by kernel_rfl) ?_
 have hq : (k : Int).tdiv 64 = 3 := by rw [Int.tdiv_eq_ediv_of_nonneg (by omega)]; omega
 have hr : (k : Int).tmod 64 = 0 := by rw [Int.tmod_eq_emod_of_nonneg (by omega)]; omega
 refine W.sgA 0 [(4, aV (I6 k)), (7, aF), (9, aV (I6 3)), (11, aV (I6 0))] [(64, 1), (80, 2), (96, 3)] (DS.mk [(2, PV.at 1 []), (4, PV.at 2 []), (5, PV.at 3 []), (6, I6 3), (7, I6 0), (8, I6 3)] [(1, Row.mk (B6 4 [(a0:Int), (a1:Int), (a2:Int), (a3:Int)]) false), (2, Row.mk (B6 4 [0, 0, 0, 0]) false), (3, Row.mk (B6 4 [0, 0, 0, 0]) false)]) [I6 (mx x (0 : Int)) = I6 k, decide ((k:Int) ≥ 256) = false, I6 (IntKind.wrap .i64 (Int.tdiv (k:Int) (64 : Int))) = I6 3, (64 : Int) ≠ 0, I6 (Int.tmod (k:Int) (64 : Int)) = I6 0, (64 : Int) ≠ 0] (ac (cg (hm)) (ac (dF (by omega)) (ac (cg (Ac hq (by omega) (by omega))) (ac (by omega) (ac (cg (hr)) (ao (by omega))))))) ?_
 refine W.sgA 0 [(6, aV (I6 0)), (10, aV (U6 ((a0:Int) * (2 : Int) ^ 0))), (21, aV (I6 2))] (rI 3) (DS.mk [(2, PV.at 1 []), (4, PV.at 2 []), (5, PV.at 3 []), (6, I6 3), (7, I6 0), (8, I6 2)] [(1, Row.mk (B6 4 [(a0:Int), (a1:Int), (a2:Int), (a3:Int)]) false), (2, Row.mk (B6 4 [0, 0, 0, 0]) false), (3, Row.mk (B6 4 [0, 0, 0, (a0:Int) * (2 : Int) ^ 0]) false)]) [I6 (IntKind.wrap .i64 ((3 : Int) - (3 : Int))) = I6 0, (0 : Int) ≤ 0, 0 < (↑(4 : Nat) : Int), 0 < 4, U6 (IntKind.wrap .u64 ((a0:Int) * (2 : Int) ^ 0)) = U6 ((a0:Int) * (2 : Int) ^ 0), (0 : Int) ≤ 0, (0 : Int) ≤ 3, 3 < (↑(4 : Nat) : Int), 3 < 4, I6 (IntKind.wrap .i64 ((3 : Int) - (1 : Int))) = I6 2] (ac (wj (by omega)) (ob3 (by omega) (ac (cg (Ah rfl (by omega) (by omega))) (ob4 (by omega) (ao (wj (by omega))))))) ?_
 refine W.ret [] [] [B6 4 [0, 0, 0, (a0:Int) * (2 : Int) ^ 0] = B6 4 [(↑(0 : Nat) : Int), (↑(0 : Nat) : Int), (↑(0 : Nat) : Int), (a0:Int)]] (by kernel_rfl) (ao (by (simp; done)))
 all_goals first | rfl | (simp; done)
end Go.Proofs
namespace Go.Proofs
open Go Go.Pe Go.Pm
set_option maxRecDepth 100000
theorem UZ {l : Liz} {x : Int} {k : Nat} (hm : mx x 0 = k) (hk : 256 ≤ k) : Pt 76 [] [.iarr .u64 4 l, .int .i64 x] [] (.iarr .u64 4 (uw 0)) := by
 refine pO Tryz.func76 (by kernel_rfl) ?_
 refine W.ret [(4, aV (I6 k)), (7, aT)] [] [I6 (mx x (0 : Int)) = I6 k, decide ((k:Int) ≥ 256) = true, B6 4 [0, 0, 0, 0] = B6 4 (uw 0)] (by kernel_rfl) (ac (cg (hm)) (ac (dT (by omega)) (ao rfl)))
theorem Uu {l : Liz} {x : Int} {k : Nat} (hm : mx x 0 = k) (hk : 256 ≤ k) : Pt 78 [] [.iarr .u64 4 l, .int .i64 x] [] (.iarr .u64 4 (uw 0)) := by
 refine pO Tryz.func78 (by kernel_rfl) ?_
 refine W.ret [(4, aV (I6 k)), (7, aT)] [] [I6 (mx x (0 : Int)) = I6 k, decide ((k:Int) ≥ 256) = true, B6 4 [0, 0, 0, 0] = B6 4 (uw 0)] (by kernel_rfl) (ac (cg (hm)) (ac (dT (by omega)) (ao rfl)))
theorem PS (x : Int) : mx x 0 = (x.toNat : Int) := by unfold mx; split <;> omega
theorem Uj (n s : Nat) : 2 ^ (64 * n + s) = 18446744073709551616 ^ n * 2 ^ s := by rw [Nat.pow_add, Nat.pow_mul]
theorem GL {a b c d : Nat} (ha : a < 18446744073709551616) (hb : b < 18446744073709551616) (hc : c < 18446744073709551616) (hd : d < 18446744073709551616) {l : List Int} (h : l = [(a : Int), (b : Int), (c : Int), (d : Int)]) : PV.iarr .u64 4 l = PV.iarr .u64 4 (uw (wu a b c d)) := by rw [h, P6 ha hb hc hd]
theorem D6 {f : Nat} {ar : Lpz} {v v' : PV} (h : Pt f [] ar [] v) (e : v = v') : Pt f [] ar [] v' := e ▸ h
theorem Lf {a : Nat} (ha : a < Aa) (x : Int) : Pt 76 [] [.iarr .u64 4 (uw a), .int .i64 x] [] (.iarr .u64 4 (uw (a / 2 ^ x.toNat))) := by
 have hm := PS x
 generalize x.toNat = k at hm
 by_cases hk : 256 ≤ k
 ·have e : a / 2 ^ k = 0 := Nat.div_eq_of_lt (Nat.lt_of_lt_of_le ha (Nat.le_trans (by decide : Aa ≤ 2 ^ 256) (Nat.pow_le_pow_right (by omega) hk)))
  rw [e]
  exact UZ hm hk
 ·obtain ⟨a0, a1, a2, a3, p0, p1, p2, p3, rfl, e⟩ := Cn ha
  rw [e]
  obtain ⟨n, s, hks, hs⟩ : ∃ n s, k = 64 * n + s ∧ s < 64 := ⟨k / 64, k % 64, by omega, by omega⟩
  have d1 := Ka a0 a1 a2 a3 p0
  have d2 := Ka a1 a2 a3 0 p1
  have d3 := Ka a2 a3 0 0 p2
  have hdiv : wu a0 a1 a2 a3 / 2 ^ k = wu a0 a1 a2 a3 / 18446744073709551616 ^ n / 2 ^ s := by rw [hks, Uj, Nat.div_div_eq_div_mul]
  rw [hdiv]
  have z : (0 : Nat) < 18446744073709551616 := by omega
  by_cases hs0 : s = 0
  ·subst hs0
   obtain rfl | rfl | rfl | rfl : n = 0 ∨ n = 1 ∨ n = 2 ∨ n = 3 := by omega
   ·exact D6 (V5 (s := 0) hm p0 p1 p2 p3 hks) (by rw [Nat.pow_zero, Nat.div_one, Nat.div_one]; exact GL p0 p1 p2 p3 rfl)
   ·exact D6 (WG (s := 0) hm p0 p1 p2 p3 hks) (by rw [Nat.pow_one, d1, Nat.pow_zero, Nat.div_one]; exact GL p1 p2 p3 z rfl)
   ·exact D6 (X8 (s := 0) hm p0 p1 p2 p3 hks) (by rw [Nat.pow_succ, Nat.pow_one, ← Nat.div_div_eq_div_mul, d1, d2, Nat.pow_zero, Nat.div_one]; exact GL p2 p3 z z rfl)
   ·exact D6 (Xc (s := 0) hm p0 p1 p2 p3 hks) (by rw [Nat.pow_succ, Nat.pow_succ, Nat.pow_one, ← Nat.div_div_eq_div_mul, ← Nat.div_div_eq_div_mul, d1, d2, d3, Nat.pow_zero, Nat.div_one]; exact GL p3 z z z rfl)
  ·have hs1 : 0 < s := by omega
   have z1 : (0 * 2 ^ (64 - s) % 18446744073709551616 : Nat) = 0 := by rw [Nat.zero_mul, Nat.zero_mod]
   obtain rfl | rfl | rfl | rfl : n = 0 ∨ n = 1 ∨ n = 2 ∨ n = 3 := by omega
   ·exact D6 (pc_shr0 hm p0 p1 p2 p3 hs1 hs hks) (by rw [Nat.pow_zero, Nat.div_one, PD (by omega) p0 p1 p2 p3])
   ·exact D6 (pc_shr1 hm p0 p1 p2 p3 hs1 hs hks) (by rw [Nat.pow_one, d1, PD (by omega) p1 p2 p3 z, z1, Nat.or_zero, Nat.zero_div])
   ·exact D6 (pc_shr2 hm p0 p1 p2 p3 hs1 hs hks) (by rw [Nat.pow_succ, Nat.pow_one, ← Nat.div_div_eq_div_mul, d1, d2, PD (by omega) p2 p3 z z, z1, Nat.or_zero, Nat.zero_div, Nat.or_zero])
   ·exact D6 (pc_shr3 hm p0 p1 p2 p3 hs1 hs hks) (by rw [Nat.pow_succ, Nat.pow_succ, Nat.pow_one, ← Nat.div_div_eq_div_mul, ← Nat.div_div_eq_div_mul, d1, d2, d3, PD (by omega) p3 z z z, z1, Nat.or_zero, Nat.zero_div, Nat.or_zero])
theorem Rk (a b c d : Nat) (ha : a < 18446744073709551616) (hb : b < 18446744073709551616) (hc : c < 18446744073709551616) : wu a b c d * 18446744073709551616 % Aa = wu 0 a b c := by
 have e : wu a b c d * 18446744073709551616 = wu 0 a b c + Aa * d := by unfold wu Aa; omega
 rw [e, Nat.add_mul_mod_self_left, Nat.mod_eq_of_lt (Gi (by omega) ha hb hc)]
theorem J4 (x y z : Nat) : x * (y * z) % Aa = (x * y % Aa) * z % Aa := by
 rw [← Nat.mul_assoc, Nat.mod_mul_mod]
theorem HZ {a : Nat} (ha : a < Aa) (x : Int) : Pt 78 [] [.iarr .u64 4 (uw a), .int .i64 x] [] (.iarr .u64 4 (uw (a * 2 ^ x.toNat % Aa))) := by
 have hm := PS x
 generalize x.toNat = k at hm
 by_cases hk : 256 ≤ k
 ·have e : a * 2 ^ k % Aa = 0 := by
   obtain ⟨d, rfl⟩ : ∃ d, k = 256 + d := ⟨k - 256, by omega⟩
   rw [Nat.pow_add, ← Nat.mul_assoc, Nat.mul_comm a, Nat.mul_assoc, show (2 : Nat) ^ 256 = Aa by decide, Nat.mul_mod_right]
  rw [e]
  exact Uu hm hk
 ·obtain ⟨a0, a1, a2, a3, p0, p1, p2, p3, rfl, e⟩ := Cn ha
  rw [e]
  obtain ⟨n, s, hks, hs⟩ : ∃ n s, k = 64 * n + s ∧ s < 64 := ⟨k / 64, k % 64, by omega, by omega⟩
  have z : (0 : Nat) < 18446744073709551616 := by omega
  have d1 := Rk a0 a1 a2 a3 p0 p1 p2
  have d2 := Rk 0 a0 a1 a2 z p0 p1
  have d3 := Rk 0 0 a0 a1 z z p0
  have hdiv : wu a0 a1 a2 a3 * 2 ^ k % Aa = wu a0 a1 a2 a3 * 18446744073709551616 ^ n % Aa * 2 ^ s % Aa := by rw [hks, Uj, J4]
  rw [hdiv]
  have e0 : wu a0 a1 a2 a3 * 18446744073709551616 ^ 0 % Aa = wu a0 a1 a2 a3 := by rw [Nat.pow_zero, Nat.mul_one, Nat.mod_eq_of_lt (Gi p0 p1 p2 p3)]
  have e1 : wu a0 a1 a2 a3 * 18446744073709551616 ^ 1 % Aa = wu 0 a0 a1 a2 := by rw [Nat.pow_one, d1]
  have e2 : wu a0 a1 a2 a3 * 18446744073709551616 ^ 2 % Aa = wu 0 0 a0 a1 := by rw [Nat.pow_succ, Nat.pow_one, J4, d1, d2]
  have e3 : wu a0 a1 a2 a3 * 18446744073709551616 ^ 3 % Aa = wu 0 0 0 a0 := by rw [Nat.pow_succ, J4, e2, d3]
  by_cases hs0 : s = 0
  ·subst hs0
   rw [Nat.pow_zero, Nat.mul_one, Nat.mod_mod]
   obtain rfl | rfl | rfl | rfl : n = 0 ∨ n = 1 ∨ n = 2 ∨ n = 3 := by omega
   ·exact D6 (WY (s := 0) hm p0 p1 p2 p3 hks) (by rw [e0]; exact GL p0 p1 p2 p3 rfl)
   ·exact D6 (WI (s := 0) hm p0 p1 p2 p3 hks) (by rw [e1]; exact GL z p0 p1 p2 rfl)
   ·exact D6 (X4 (s := 0) hm p0 p1 p2 p3 hks) (by rw [e2]; exact GL z z p0 p1 rfl)
   ·exact D6 (V3 (s := 0) hm p0 p1 p2 p3 hks) (by rw [e3]; exact GL z z z p0 rfl)
  ·have hs1 : 0 < s := by omega
   have z1 : (0 * 2 ^ s % 18446744073709551616 : Nat) = 0 := by rw [Nat.zero_mul, Nat.zero_mod]
   obtain rfl | rfl | rfl | rfl : n = 0 ∨ n = 1 ∨ n = 2 ∨ n = 3 := by omega
   ·exact D6 (pc_shl0 hm p0 p1 p2 p3 hs1 hs hks) (by rw [e0, Pp (by omega) p0 p1 p2])
   ·exact D6 (pc_shl1 hm p0 p1 p2 p3 hs1 hs hks) (by rw [e1, Pp (by omega) z p0 p1, z1, Nat.zero_div, Nat.or_zero])
   ·exact D6 (pc_shl2 hm p0 p1 p2 p3 hs1 hs hks) (by rw [e2, Pp (by omega) z z p0, z1, Nat.zero_div, Nat.or_zero, Nat.or_zero])
   ·exact D6 (pc_shl3 hm p0 p1 p2 p3 hs1 hs hks) (by rw [e3, Pp (by omega) z z z, z1, Nat.zero_div, Nat.or_zero, Nat.or_zero])
end Go.Proofs
