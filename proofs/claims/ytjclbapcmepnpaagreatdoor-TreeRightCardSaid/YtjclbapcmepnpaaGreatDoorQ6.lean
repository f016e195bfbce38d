/- Merged texts: the pure machine and what the walks show. Conditions: as each statement says. -/
import Derived.Carry
import Derived.ChangeArms
import Derived.ChangeSame
import Derived.ChangeCalls
import Derived.JoinedOf
import Derived.Handed
import Derived.OpenShut
import Derived.RowKit
import Derived.ProofKit
import Derived.LaidLaws
import Derived.LaidHandle
import Derived.FnData
import GoSem.ClaimSeven
import Derived.Test.YtjclbapcmepnpaaGreatDoorQ5
namespace Go.Proofs
open Go Go.Pe Go.Pm
set_option maxRecDepth 100000
set_option linter.unusedVariables false
attribute [local irreducible] Ak lv EP
def zRT : PV := .st 75 [.st 74 [.int .u32 0, .int .i64 0, .int .i64 0, .int .i64 0, .int .i64 0, .st 68 [.int .u32 0, .iarr .u8 32 z32, .iarr .u8 32 z32, .int .u32 0, .int .u32 0, .int .u32 0], .vec true (.iarr .i64 0 [])], .vec true (.parr 102 0 rnsh [])]
def dMd (p : Prm) (n : Nat) (L H : List PV) (V : List Int) (m : Nat) (B : List Int) (R : List PV) (nl : Bool) (k : Nat) (I : List PV) (i : Nat) : DS := ⟨[(3, .at 6 []), (5, .at 1 []), (7, .at 5 []), (30, .vec nl (.parr 69 k K3 I)), (31, .int .i64 k), (32, .int .i64 i)], trR p n L H V m B ++ [(5, ⟨.st 75 [p.rpv, .vec false (.parr 102 n rnsh R)], false⟩), (6, ⟨zRT, false⟩)]⟩
theorem W_mdA {p : Prm} {n : Nat} {L H : Lpz} {V : Liz} {m : Nat} {B : Liz} {R : Lpz} {nl : Bool} {k : Nat} {I : Lpz} {i : Nat} {n' : Nat} {L' H' : Lpz} {V' : Liz} {m' : Nat} {B' : Liz} {R' : Lpz} {h : Hd} {now e : Int} {hout : Lrz} {res : PV} (hi : i < k) (hk : k ≤ 24) (g : I.getD i .undef = .st 69 [.st 68 [.int .u32 h.ver, .iarr .u8 32 h.prev, .iarr .u8 32 h.root, .int .u32 h.time, .int .u32 h.bits, .int .u32 h.nonce], .int .i64 now])
  (cA : Pt 16 (trR p n L H V m B) [.at 1 [], h.pv, .int .i64 now] (trX 2 4 p n' L' H' V' m' B') (.int .i64 e)) (cR : Pt 14 [] [rT p n R, h.pv, .int .i64 now] [] (.tup [rT p n' R', .int .i64 e]))
  (hw : Wt Tryz.f22 [] hout res (Af Tryz.f22 0) (dMd p n' L' H' V' m' B' R' nl k I (i + 1))) : Wt Tryz.f22 [] hout res (Af Tryz.f22 0) (dMd p n L H V m B R nl k I i) := by
 have cL := Lb h
 unfold trR trX at cA
 unfold rT at cR
 refine W.sgA 0 [(0, aT), (2, aE g), (8, c9 cL), (11, c0 cR), (25, cC true [(1, 1), (2, 2), (3, 3), (4, 4)] cA), (27, aF), (28, aV (I6 ↑(i + 1)))] [(6, 6), (1, 1), (5, 5), (2, 2), (3, 3), (4, 4)] (dMd p n' L' H' V' m' B' R' nl k I (i + 1)) [decide ((i:Int) < (k:Int)) = true, 0 ≤ (i:Int), (i:Int) < (k:Int), _, i < k, _, _, _, (e != e) = false, I6 (IntKind.wrap .i64 ((i:Int) + 1)) = I6 ↑(i + 1)] (ac (dT (by omega)) (ob2 (by omega) (ac (ex g) (ac (by omega) (ac (cL) (ac (cR) (ac (cA) (ac (bne_eq_false_iff_eq.2 (by omega)) (ao (wj (by omega))))))))))) ?_
 exact hw
theorem W_mdB {p : Prm} {n : Nat} {L H : Lpz} {V : Liz} {m : Nat} {B : Liz} {R : Lpz} {nl : Bool} {k : Nat} {I : Lpz} {i : Nat} {n' : Nat} {L' H' : Lpz} {V' : Liz} {m' : Nat} {B' : Liz} {R' : Lpz} {h : Hd} {now e : Int} {hout : Lrz} {res : PV} (hi : i < k) (hk : k ≤ 24) (g : I.getD i .undef = .st 69 [.st 68 [.int .u32 h.ver, .iarr .u8 32 h.prev, .iarr .u8 32 h.root, .int .u32 h.time, .int .u32 h.bits, .int .u32 h.nonce], .int .i64 now])
  (cA : Pt 16 (trR p n L H V m B) [.at 1 [], h.pv, .int .i64 now] (trX 6 4 p n' L' H' V' m' B') (.int .i64 e)) (cR : Pt 14 [] [rT p n R, h.pv, .int .i64 now] [] (.tup [rT p n' R', .int .i64 e]))
  (hw : Wt Tryz.f22 [] hout res (Af Tryz.f22 0) (dMd p n' L' H' V' m' B' R' nl k I (i + 1))) : Wt Tryz.f22 [] hout res (Af Tryz.f22 0) (dMd p n L H V m B R nl k I i) := by
 have cL := Lb h
 unfold trR trX at cA
 unfold rT at cR
 refine W.sgA 0 [(0, aT), (2, aE g), (8, c9 cL), (11, c0 cR), (25, cC true [(1, 1), (2, 2), (3, 3), (4, 4)] cA), (27, aF), (28, aV (I6 ↑(i + 1)))] [(6, 6), (1, 1), (5, 5), (470, 2), (3, 3), (4, 4)] (dMd p n' L' H' V' m' B' R' nl k I (i + 1)) [decide ((i:Int) < (k:Int)) = true, 0 ≤ (i:Int), (i:Int) < (k:Int), _, i < k, _, _, _, (e != e) = false, I6 (IntKind.wrap .i64 ((i:Int) + 1)) = I6 ↑(i + 1)] (ac (dT (by omega)) (ob2 (by omega) (ac (ex g) (ac (by omega) (ac (cL) (ac (cR) (ac (cA) (ac (bne_eq_false_iff_eq.2 (by omega)) (ao (wj (by omega))))))))))) ?_
 exact hw
theorem W_mdC {p : Prm} {n : Nat} {L H : Lpz} {V : Liz} {m : Nat} {B : Liz} {R : Lpz} {nl : Bool} {k : Nat} {I : Lpz} {i : Nat} {n' : Nat} {L' H' : Lpz} {V' : Liz} {m' : Nat} {B' : Liz} {R' : Lpz} {h : Hd} {now e : Int} {hout : Lrz} {res : PV} (hi : i < k) (hk : k ≤ 24) (g : I.getD i .undef = .st 69 [.st 68 [.int .u32 h.ver, .iarr .u8 32 h.prev, .iarr .u8 32 h.root, .int .u32 h.time, .int .u32 h.bits, .int .u32 h.nonce], .int .i64 now])
  (cA : Pt 16 (trR p n L H V m B) [.at 1 [], h.pv, .int .i64 now] (trX 6 5 p n' L' H' V' m' B') (.int .i64 e)) (cR : Pt 14 [] [rT p n R, h.pv, .int .i64 now] [] (.tup [rT p n' R', .int .i64 e]))
  (hw : Wt Tryz.f22 [] hout res (Af Tryz.f22 0) (dMd p n' L' H' V' m' B' R' nl k I (i + 1))) : Wt Tryz.f22 [] hout res (Af Tryz.f22 0) (dMd p n L H V m B R nl k I i) := by
 have cL := Lb h
 unfold trR trX at cA
 unfold rT at cR
 refine W.sgA 0 [(0, aT), (2, aE g), (8, c9 cL), (11, c0 cR), (25, cC true [(1, 1), (2, 2), (3, 3), (4, 4)] cA), (27, aF), (28, aV (I6 ↑(i + 1)))] [(6, 6), (1, 1), (5, 5), (470, 2), (3, 3), (469, 4)] (dMd p n' L' H' V' m' B' R' nl k I (i + 1)) [decide ((i:Int) < (k:Int)) = true, 0 ≤ (i:Int), (i:Int) < (k:Int), _, i < k, _, _, _, (e != e) = false, I6 (IntKind.wrap .i64 ((i:Int) + 1)) = I6 ↑(i + 1)] (ac (dT (by omega)) (ob2 (by omega) (ac (ex g) (ac (by omega) (ac (cL) (ac (cR) (ac (cA) (ac (bne_eq_false_iff_eq.2 (by omega)) (ao (wj (by omega))))))))))) ?_
 exact hw
theorem W_mdEnd {p : Prm} {n : Nat} {L H : Lpz} {V : Liz} {m : Nat} {B : Liz} {R : Lpz} {nl : Bool} {k : Nat} {I : Lpz} : Wt Tryz.f22 [] (trR p n L H V m B) (.tup [.at 1 [], rT p n R, .bool true]) (Af Tryz.f22 0) (dMd p n L H V m B R nl k I k) := by
 unfold trR rT
 refine W.rtA [(0, aF)] (rI 4) [decide ((k:Int) < (k:Int)) = false] (ao (dF (by omega)))
theorem W_mdIn {p : Prm} {nl : Bool} {k : Nat} {I : Lpz} {L H : Lpz} {R : Lpz} {hout : Lrz} {res : PV} (hk : k ≤ 24) (c1 : Pt 11 [] [p.pv] (trR p 1 L H [0] 1 [0]) (.tup [.at 1 [], .int .i64 ((0 : Nat) : Int)]))
  (c2 : Pt 13 [] [p.pv] [] p.rpv) (c3 : Pt 12 [] [p.rpv] [] (rT p 1 R)) (hw : Wt Tryz.f22 [] hout res (Af Tryz.f22 0) (dMd p 1 L H [0] 1 [0] R nl k I 0)) :
  Pt 22 [] [ET p nl k I] hout res := by
 refine pO Tryz.func22 (by kernel_rfl) ?_
 unfold ET rT trR at *
 refine W.sgA 0 [(6, c9 c1), (9, aV (I6 0)), (20, c0 c2), (21, c0 c3)] [(96, 6), (161, 1), (416, 5), (162, 2), (163, 3), (164, 4)] (dMd p 1 L H [0] 1 [0] R nl k I 0) [_, I6 ↑(0 : Nat) = I6 0, _, _] (ac (c1) (ac (cg (by omega)) (ac (c2) (ao (c3))))) ?_
 exact hw
def EK (p : Prm) : List Nd → List (Hd × Int) → List Nd
 | N, [] => N
 | N, x :: l => EK p (Gt p N x.1 x.2).1 l
def dMdN (p : Prm) (N : List Nd) (nl : Bool) (I : List (Hd × Int)) (i : Nat) : DS := dMd p N.length (N.map D5) (JC N) (JO N.length) (BV N).length (ints (BV N)) (N.map Fs) nl I.length (I.map K4) i
theorem X9 {p : Prm} (hp : p.Ok) (hm : p.May) {nl : Bool} {I : List (Hd × Int)} (hI : I.length ≤ 24) (ho : ∀ x ∈ I, x.1.Ok) : ∀ (r i : Nat) (N : List Nd), i + r = I.length → TW p N → N.length ≤ i + 1 →
  Wt Tryz.f22 [] (Ox p (EK p N (I.drop i))) (.tup [.at 1 [], QY p (EK p N (I.drop i)), .bool true]) (Af Tryz.f22 0) (dMdN p N nl I i)
 | 0, i, N, hk, hT, hN => by
  obtain rfl : i = I.length := by omega
  rw [List.drop_of_length_le (Nat.le_refl _)]
  exact W_mdEnd
 | r + 1, i, N, hk, hT, hN => by
  have hi : i < I.length := by omega
  have g := R5 hi
  have hh := it_ok ho hi
  obtain ⟨hA, hR⟩ := XZ hp hm hT (by omega) hh (now := (I.getD i default).2)
  have hT' := hT.add hh (I.getD i default).2
  have hl' := KF p N (I.getD i default).1 (I.getD i default).2
  have ih := X9 hp hm (nl := nl) hI ho r (i + 1) _ (by omega) hT' (by omega)
  have e : I.drop i = I.getD i default :: I.drop (i + 1) := by rw [List.drop_eq_getElem_cons hi]; simp [List.getD_eq_getElem?_getD, hi]
  rw [e, EK]
  rcases hA with ⟨e1, hA⟩ | ⟨e1, hA⟩ | ⟨e1, hA⟩
  ·rw [e1] at hR ih ⊢
   exact W_mdA hi hI g hA hR ih
  ·rw [e1] at hR
   exact W_mdB hi hI g hA hR ih
  ·rw [e1] at hR
   exact W_mdC hi hI g hA hR ih
def OA (p : Prm) (I : List (Hd × Int)) : List Nd := EK p [⟨p.gen, [0], p.sum⟩] I
theorem pc_made {p : Prm} (hp : p.Ok) (hm : p.May) {nl : Bool} {I : List (Hd × Int)} (hI : I.length ≤ 24) (ho : ∀ x ∈ I, x.1.Ok) : Pt 22 [] [ET p nl I.length (I.map K4)] (Ox p (OA p I)) (.tup [.at 1 [], QY p (OA p I), .bool true]) := by
 have hT : TW p [⟨p.gen, [0], p.sum⟩] := TW.new hp.gen hp.sum
 have hw := X9 hp hm (nl := nl) hI ho I.length 0 _ (by omega) hT (by simp)
 have c1 := Kv (NS hp hm) (Da hp.gen)
 have c3 := Rc (p := p) (x := Ak p.gen) (TC hp.gen)
 rw [List.drop_zero] at hw
 refine W_mdIn hI c1 (Ls hp.sum) c3 ?_
 have e : dMdN p [⟨p.gen, [0], p.sum⟩] nl I 0 = dMd p 1 [ndV p.gen (Ak p.gen) (-1) 0 (uw p.sum)] [.iarr .u8 32 (Ak p.gen)] [0] 1 [0] [rnV p.gen (Ak p.gen) (-1) (nd p.sum) (dg p.sum)] nl I.length (I.map K4) 0 := by
  unfold dMdN BV
  rw [X7]
  rfl
 rw [← e]
 exact hw
theorem Nv {p : Prm} : ∀ {I : List (Hd × Int)} {N : List Nd}, TW p N → (∀ x ∈ I, x.1.Ok) → TW p (EK p N I) ∧ (EK p N I).length ≤ N.length + I.length
 | [], N, h, _ => ⟨h, by rw [EK]; simp⟩
 | x :: l, N, h, ho => by
  have h1 := Nv (I := l) (h.add (ho x (by simp)) x.2) (fun y hy => ho y (List.mem_cons_of_mem _ hy))
  have h2 := KF p N x.1 x.2
  rw [EK, List.length_cons]
  exact ⟨h1.1, by omega⟩
theorem WC {p : Prm} (hp : p.Ok) {I : List (Hd × Int)} (ho : ∀ x ∈ I, x.1.Ok) : TW p (OA p I) ∧ (OA p I).length ≤ I.length + 1 := by
 have h := Nv (TW.new hp.gen hp.sum) ho
 rw [List.length_singleton] at h
 unfold OA
 exact ⟨h.1, by omega⟩
theorem Oq {p : Prm} {now : Int} : ∀ {I : List (Hd × Int)} {N : List Nd}, TW p N → TV p N now → (∀ x ∈ I, x.1.Ok) → (∀ x ∈ I, x.2 ≤ now) → TV p (EK p N I) now
 | [], N, _, h, _, _ => h
 | x :: l, N, hT, h, ho, hn => Oq (I := l) (N := (Gt p N x.1 x.2).1) (hT.add (ho x (by simp)) x.2) (h.add hT (hn x (by simp))) (fun y hy => ho y (List.mem_cons_of_mem _ hy)) (fun y hy => hn y (List.mem_cons_of_mem _ hy))
theorem XU {p : Prm} (hp : p.Ok) {I : List (Hd × Int)} {now : Int} (ho : ∀ x ∈ I, x.1.Ok) (hn : ∀ x ∈ I, x.2 ≤ now) : TV p (OA p I) now :=
 Oq (TW.new hp.gen hp.sum) (TV.new p now) ho hn
end Go.Proofs
namespace Go.Proofs
open Go Go.Pe Go.Pm
set_option maxRecDepth 100000
set_option linter.unusedVariables false
attribute [local irreducible] Ak lv EP
def scan (p : Prm) (l : List Hd) (now : Int) : Nat → Nat → Nat × Int
 | 0, i => (i, 0)
 | k + 1, i => if jud p (l.take i) (l.getD i default) now = 0 then scan p l now k (i + 1) else (i, jud p (l.take i) (l.getD i default) now)
theorem take_ok {l : List Hd} {i : Nat} (ho : ∀ h ∈ l, h.Ok) : ∀ h ∈ l.take i, h.Ok := fun h hh => ho h (List.mem_of_mem_take hh)
theorem Uz {p : Prm} (hp : p.Ok) (hm : p.May) {nl : Bool} {l : List Hd} {i : Nat} (h0 : 0 < i) (hi : i < l.length) (hn : l.length ≤ 30) (ho : ∀ h ∈ l, h.Ok) {now : Int} :
  Pt 42 [] [p.pv, .vec nl (.parr 68 i hsh ((l.map Hd.pv).take i)), (l.getD i default).pv, .int .i64 now] [] (.int .i64 (jud p (l.take i) (l.getD i default) now)) := by
 have hl : (l.take i).length = i := by rw [List.length_take]; omega
 have c := Q3 hp hm (nl := nl) (l := l.take i) (now := now) (by omega) (by omega) (take_ok ho) (Mr (i := i) ho hi)
 unfold lpv at c
 rw [hl, List.map_take] at c
 exact c
def dsLn (p : Prm) (now : Int) (nl : Bool) (H : List PV) (n i : Nat) : DS := ⟨[(1, .vec nl (.parr 68 n hsh H)), (2, .int .i64 now), (3, .at 3 []), (8, .int .i64 i)], [(3, ⟨p.pv, false⟩)]⟩
set_option maxHeartbeats 4000000 in
theorem WN {p : Prm} (hp : p.Ok) (hm : p.May) {now : Int} {nl : Bool} {l : List Hd} {n : Nat} (hn : l.length = n) (hn1 : n ≤ 30) (ho : ∀ h ∈ l, h.Ok) : ∀ (k i : Nat), i + k = n → 0 < i →
  Wt Tryz.f25 [] [] (.tup [.int .i64 (scan p l now k i).1, .int .i64 (scan p l now k i).2]) (Af Tryz.f25 0) (dsLn p now nl (l.map Hd.pv) n i)
 | 0, i, hk, h0 => by
  have hi : i = n := by omega
  subst hi
  unfold scan
  generalize l.map Hd.pv = H at *
  refine W.rtA [(3, aF)] [] [decide ((i:Int) < (i:Int)) = false] (ao (dF (by omega)))
 | k + 1, i, hk, h0 => by
  have hlen : (l.map Hd.pv).length = n := by rw [List.length_map, hn]
  have g := Eg (l := l) (i := i) (by omega)
  have c := Uz hp hm (nl := nl) (l := l) (now := now) (i := i) h0 (by omega) (by omega) ho
  have hw := WN hp hm (now := now) (nl := nl) hn hn1 ho k (i + 1) (by omega) (by omega)
  have hin : i < n := by omega
  rw [scan]
  generalize jud p (l.take i) (l.getD i default) now = r at *
  generalize scan p l now k (i + 1) = x at *
  generalize l.getD i default = a at *
  generalize l.map Hd.pv = H at *
  by_cases hr : r = 0
  ·rw [if_pos hr]
   refine W.sgA 0 [(3, aT), (11, aE g), (13, c9 c), (14, aV (I6 0)), (18, aV (I6 ↑(i + 1)))] [(3, 3)] (dsLn p now nl H n (i + 1)) [decide ((i:Int) < (n:Int)) = true, (0 : Int) ≤ 0, 0 ≤ (i:Int), (i:Int) ≤ (n:Int), 0 ≤ (i:Int), (i:Int) < (n:Int), _, i < n, _, I6 r = I6 0, I6 (IntKind.wrap .i64 ((i:Int) + 1)) = I6 ↑(i + 1)] (ac (dT (by omega)) (ob4 (by omega) (ac (by omega) (ac (ex g) (ac (by omega) (ac (c) (ac (cg (hr)) (ao (wj (by omega)))))))))) ?_
   exact hw
  ·rw [if_neg hr]
   refine W.rtA [(3, aT), (11, aE g), (13, c9 c), (16, aT)] [] [decide ((i:Int) < (n:Int)) = true, (0 : Int) ≤ 0, 0 ≤ (i:Int), (i:Int) ≤ (n:Int), 0 ≤ (i:Int), (i:Int) < (n:Int), _, i < n, _, (r != (0 : Int)) = true] (ac (dT (by omega)) (ob4 (by omega) (ac (by omega) (ac (ex g) (ac (by omega) (ac (c) (ao (bne_iff_ne.2 (by omega)))))))))
instance : DecidableEq Hd := fun a b => decidable_of_iff (a.ver = b.ver ∧ a.prev = b.prev ∧ a.root = b.root ∧ a.time = b.time ∧ a.bits = b.bits ∧ a.nonce = b.nonce) (by cases a; cases b; simp)
def Qp (p : Prm) (l : List Hd) (now : Int) : Nat × Int := if l.getD 0 default = p.gen then scan p l now (l.length - 1) 1 else (0, 3)
theorem Wp (a b : Hd) : (!((a.ver : Int) == (b.ver : Int) && (decide (a.prev = b.prev) && (decide (a.root = b.root) && ((a.time : Int) == (b.time : Int) && ((a.bits : Int) == (b.bits : Int) && ((a.nonce : Int) == (b.nonce : Int) && true))))))) = decide (¬ a = b) := by
 rw [Bool.eq_iff_iff]
 cases a; cases b
 simp [Int.natCast_inj]
set_option maxHeartbeats 4000000 in
theorem pc_line {p : Prm} (hp : p.Ok) (hm : p.May) {now : Int} {nl : Bool} {l : List Hd} (h0 : 0 < l.length) (hn : l.length ≤ 30) (ho : ∀ h ∈ l, h.Ok) :
  Pt 25 [] [p.pv, lpv nl l, .int .i64 now] [] (.tup [.int .i64 (Qp p l now).1, .int .i64 (Qp p l now).2]) := by
 refine pO Tryz.func25 (by kernel_rfl) ?_
 have g := Eg (l := l) (i := 0) (by omega)
 have ha := Mr (i := 0) ho h0
 have hg := hp.gen
 have hw := WN hp hm (now := now) (nl := nl) (l := l) rfl hn ho (l.length - 1) 1 (by omega) (by omega)
 unfold lpv Qp
 generalize l.getD 0 default = a at *
 generalize scan p l now (l.length - 1) 1 = x at *
 generalize l.length = n at *
 generalize l.map Hd.pv = H at *
 have q1 := ha.prev
 have q2 := ha.root
 have q3 := hg.prev
 have q4 := hg.root
 by_cases e : a = p.gen
 ·rw [if_pos e]
  have e2 := Wp a p.gen
  rw [decide_eq_false (not_not_intro e)] at e2
  refine W.sgA 0 [(5, aF), (8, aE g), (11, aF)] [(64, 3)] (dsLn p now nl H n 1) [((n:Int) == 0) = false, (0 : Int) ≤ 0, 0 < (n:Int), _, 0 < n, (!((↑(Hd.ver a) : Int) == (↑(Hd.ver (Prm.gen p)) : Int) && (decide (Hd.prev a = Hd.prev (Prm.gen p)) && (decide (Hd.root a = Hd.root (Prm.gen p)) && ((↑(Hd.time a) : Int) == (↑(Hd.time (Prm.gen p)) : Int) && ((↑(Hd.bits a) : Int) == (↑(Hd.bits (Prm.gen p)) : Int) && ((↑(Hd.nonce a) : Int) == (↑(Hd.nonce (Prm.gen p)) : Int) && true))))))) = false] (ac (dF (by omega)) (ob2 (by omega) (ac (ex g) (ac (by omega) (ao (by assumption)))))) ?_
  exact hw
 ·rw [if_neg e]
  have e2 := Wp a p.gen
  rw [decide_eq_true e] at e2
  refine W.rtA [(5, aF), (8, aE g), (11, aT)] [] [((n:Int) == 0) = false, (0 : Int) ≤ 0, 0 < (n:Int), _, 0 < n, (!((↑(Hd.ver a) : Int) == (↑(Hd.ver (Prm.gen p)) : Int) && (decide (Hd.prev a = Hd.prev (Prm.gen p)) && (decide (Hd.root a = Hd.root (Prm.gen p)) && ((↑(Hd.time a) : Int) == (↑(Hd.time (Prm.gen p)) : Int) && ((↑(Hd.bits a) : Int) == (↑(Hd.bits (Prm.gen p)) : Int) && ((↑(Hd.nonce a) : Int) == (↑(Hd.nonce (Prm.gen p)) : Int) && true))))))) = true] (ac (dF (by omega)) (ob2 (by omega) (ac (ex g) (ac (by omega) (ao (by assumption))))))
end Go.Proofs
namespace Go.Proofs
open Go Go.Pe Go.Pm
set_option maxRecDepth 100000
set_option linter.unusedVariables false
attribute [local irreducible] Ak lv EP
theorem Qz {p : Prm} {l : List Hd} {a : Int} : ∀ {k i : Nat}, (∀ j, i ≤ j → j < i + k → jud p (l.take j) (l.getD j default) a = 0) → scan p l a k i = (i + k, 0)
 | 0, i, h => rfl
 | k + 1, i, h => by
  rw [scan, if_pos (h i (by omega) (by omega)), Qz fun j h1 h2 => h j (by omega) (by omega)]
  congr 1
  omega
theorem Nw (N : List Nd) (l : List Nat) {i : Nat} (h : i < l.length) : (Be N l).getD i default = (N.getD (l.getD i 0) default).h := by
 simp [Be, List.getD_eq_getElem?_getD, h]
theorem hsN_atR (N : List Nd) {i : Nat} (h : i < N.length) : (hsN N).getD i [] = Ak (N.getD i default).h := by
 simp [hsN, List.getD_eq_getElem?_getD, h]
theorem Rn {p : Prm} {N : List Nd} {now : Int} (hT : TW p N) (hV : TV p N now) {i : Nat} (hi : i < N.length) : Qp p (Be N (N.getD i default).path) now = ((N.getD i default).path.length, 0) := by
 have hpl := hT.plen i hi
 have hll := JL N (N.getD i default).path
 have e0 : (Be N (N.getD i default).path).getD 0 default = p.gen := by
  rw [Nw N _ hpl.1, hV.root i hi, hT.first]
 unfold Qp
 rw [if_pos e0, Qz fun j h1 h2 => hV.jd i hi j h1 (by omega)]
 congr 1
 omega
def dR1 (p : Prm) (n : Nat) (L H : List PV) (V : List Int) (m : Nat) (B : List Int) (nl : Bool) (k : Nat) (I : List PV) (a : Int) (i : Nat) : DS := ⟨[(1, .at 5 []), (3, .at 1 []), (6, .int .i64 a), (33, .vec nl (.parr 69 k K3 I)), (34, .int .i64 k), (35, .int .i64 i)], trR p n L H V m B ++ [(5, ⟨.st 78 [p.pv, .vec nl (.parr 69 k K3 I)], false⟩)]⟩
def dR2 (p : Prm) (n : Nat) (L H : List PV) (V : List Int) (m : Nat) (B : List Int) (nl : Bool) (k : Nat) (I : List PV) (a : Int) (i : Nat) : DS := ⟨[(1, .at 5 []), (3, .at 1 []), (6, .int .i64 a), (45, .vec nl (.parr 69 k K3 I)), (46, .int .i64 k), (47, .int .i64 i)], trR p n L H V m B ++ [(5, ⟨.st 78 [p.pv, .vec nl (.parr 69 k K3 I)], false⟩)]⟩
theorem WB {p : Prm} {nl : Bool} {k : Nat} {I : Lpz} (cf : Pt 9 [] [ET p nl k I] [] (.bool false)) : Pt 7 [] [ET p nl k I] [] (.bool true) := by
 refine pO Tryz.func7 (by kernel_rfl) ?_
 have ca := Py
 unfold ET at *
 refine W.rtA [(3, c9 cf), (11, c9 ca)] [] [_, _] (ac (cf) (ao (ca)))
theorem VT {p : Prm} {nl : Bool} {k : Nat} {I : Lpz} (hk : 16 < k) (cf : Pt 9 [] [ET p nl k I] [] (.bool true)) : Pt 7 [] [ET p nl k I] [] (.bool true) := by
 refine pO Tryz.func7 (by kernel_rfl) ?_
 have ca := Py
 unfold ET at *
 refine W.rtA [(3, c9 cf), (9, aT), (11, c9 ca)] [] [_, decide ((k:Int) > 16) = true, _] (ac (cf) (ac (dT (by omega)) (ao (ca))))
theorem W_riIn {p : Prm} {nl : Bool} {k : Nat} {I : Lpz} {n : Nat} {L H : Lpz} {V : Liz} {m : Nat} {B : Liz} {R : Lpz} (hk : k ≤ 16) (cf : Pt 9 [] [ET p nl k I] [] (.bool true)) (c1 : Pt 22 [] [ET p nl k I] (trR p n L H V m B) (.tup [.at 1 [], rT p n R, .bool true]))
  (hw : Wt Tryz.f7 [] [] (.bool true) (Af Tryz.f7 0) (dR1 p n L H V m B nl k I 0 0)) :
  Pt 7 [] [ET p nl k I] [] (.bool true) := by
 refine pO Tryz.func7 (by kernel_rfl) ?_
 unfold ET rT trR at *
 refine W.sgA 0 [(3, c9 cf), (9, aF), (12, c0 c1)] [(64, 5), (257, 1), (258, 2), (259, 3), (260, 4)] (dR1 p n L H V m B nl k I 0 0) [_, decide ((k:Int) > 16) = false, _] (ac (cf) (ac (dF (by omega)) (ao (c1)))) ?_
 exact hw
theorem W_riMax {p : Prm} {n : Nat} {L H : Lpz} {V : Liz} {m : Nat} {B : Liz} {nl : Bool} {k : Nat} {I : Lpz} {i : Nat} {a x : Int} {q : PV} (hi : i < k) (hk : k ≤ 16) (g : I.getD i .undef = .st 69 [q, .int .i64 x])
  (hw : Wt Tryz.f7 [] [] (.bool true) (Af Tryz.f7 0) (dR1 p n L H V m B nl k I (mx a x) (i + 1))) :
  Wt Tryz.f7 [] [] (.bool true) (Af Tryz.f7 0) (dR1 p n L H V m B nl k I a i) := by
 refine W.sgA 0 [(0, aT), (2, aV (PV.st 69 [Bo hsh q, I6 x])), (10, aV (I6 ↑(i + 1)))] [(5, 5), (1, 1), (2, 2), (3, 3), (4, 4)] (dR1 p n L H V m B nl k I (mx a x) (i + 1)) [decide ((i:Int) < (k:Int)) = true, 0 ≤ (i:Int), (i:Int) < (k:Int), PV.st 69 [Bo hsh (List.headD (PV.fs (List.getD I i PV.undef)) PV.undef), I6 (PV.num (List.headD (List.tail (PV.fs (List.getD I i PV.undef))) PV.undef))] = PV.st 69 [Bo hsh q, I6 x], i < k, I6 (IntKind.wrap .i64 ((i:Int) + 1)) = I6 ↑(i + 1)] (ac (dT (by omega)) (ob2 (by omega) (ac (by (rw [g]; rfl)) (ac (by omega) (ao (wj (by omega))))))) ?_
 exact hw
theorem W_riTo {p : Prm} {n : Nat} {L H : Lpz} {V : Liz} {m : Nat} {B : Liz} {nl : Bool} {k : Nat} {I : Lpz} {a : Int} (hk : k ≤ 16)
  (hw : Wt Tryz.f7 [] [] (.bool true) (Af Tryz.f7 1) (dR2 p n L H V m B nl k I a 0)) :
  Wt Tryz.f7 [] [] (.bool true) (Af Tryz.f7 0) (dR1 p n L H V m B nl k I a k) := by
 refine W.sgA 1 [(0, aF)] [(5, 5), (1, 1), (2, 2), (3, 3), (4, 4)] (dR2 p n L H V m B nl k I a 0) [decide ((k:Int) < (k:Int)) = false] (ao (dF (by omega))) ?_
 exact hw
theorem W_riEnd {p : Prm} {n : Nat} {L H : Lpz} {V : Liz} {m : Nat} {B : Liz} {nl : Bool} {k : Nat} {I : Lpz} {a : Int} : Wt Tryz.f7 [] [] (.bool true) (Af Tryz.f7 1) (dR2 p n L H V m B nl k I a k) := by
 have ca := Py
 refine W.rtA [(0, aF), (1, c9 ca)] [] [decide ((k:Int) < (k:Int)) = false, _] (ac (dF (by omega)) (ao (ca)))
theorem W_riN {p : Prm} {n : Nat} {L H : Lpz} {V : Liz} {m : Nat} {B : Liz} {nl : Bool} {k : Nat} {I : Lpz} {i : Nat} {a : Int} {h : Hd} {y : Liz} {now : Int} (hi : i < k) (hk : k ≤ 16) (g : I.getD i .undef = .st 69 [.st 68 [.int .u32 h.ver, .iarr .u8 32 h.prev, .iarr .u8 32 h.root, .int .u32 h.time, .int .u32 h.bits, .int .u32 h.nonce], .int .i64 now])
  (c3 : Pt 21 [] [h.pv] [] (.iarr .u8 32 y)) (c4 : Pt 24 (trR p n L H V m B) [.at 1 [], .iarr .u8 32 y] (trR p n L H V m B) (.vec true (.parr 68 0 hsh [])))
  (hw : Wt Tryz.f7 [] [] (.bool true) (Af Tryz.f7 1) (dR2 p n L H V m B nl k I a (i + 1))) : Wt Tryz.f7 [] [] (.bool true) (Af Tryz.f7 1) (dR2 p n L H V m B nl k I a i) := by
 unfold trR at *
 refine W.sgA 1 [(0, aT), (2, aE g), (8, c9 c3), (9, cC true [(1, 1), (2, 2), (3, 3), (4, 4)] c4), (12, aV (I6 0)), (14, aV (I6 ↑(i + 1)))] [(5, 5), (1, 1), (2, 2), (3, 3), (4, 4)] (dR2 p n L H V m B nl k I a (i + 1)) [decide ((i:Int) < (k:Int)) = true, 0 ≤ (i:Int), (i:Int) < (k:Int), _, i < k, _, _, I6 ↑(0 : Nat) = I6 0, I6 (IntKind.wrap .i64 ((i:Int) + 1)) = I6 ↑(i + 1)] (ac (dT (by omega)) (ob2 (by omega) (ac (ex g) (ac (by omega) (ac (c3) (ac (c4) (ac (cg (by omega)) (ao (wj (by omega)))))))))) ?_
 exact hw
theorem W_riY {p : Prm} {n : Nat} {L H : Lpz} {V : Liz} {m : Nat} {B : Liz} {nl : Bool} {k : Nat} {I : Lpz} {i : Nat} {a : Int} {h h2 : Hd} {y : Liz} {now : Int} {q : Nat} {M : Lpz} (hML : M.length = q + 1) (hi : i < k) (hk : k ≤ 16) (hq : q ≤ 1000) (hy : y.length = 32) (g : I.getD i .undef = .st 69 [.st 68 [.int .u32 h.ver, .iarr .u8 32 h.prev, .iarr .u8 32 h.root, .int .u32 h.time, .int .u32 h.bits, .int .u32 h.nonce], .int .i64 now])
  (c3 : Pt 21 [] [h.pv] [] (.iarr .u8 32 y)) (c4 : Pt 24 (trR p n L H V m B) [.at 1 [], .iarr .u8 32 y] (trR p n L H V m B ++ [(5, ⟨.parr 68 (q + 1) hsh M, false⟩)]) (.ref 5 [] 68 0 (q + 1)))
  (c5 : Pt 25 [] [p.pv, .vec false (.parr 68 (q + 1) hsh M), .int .i64 a] [] (.tup [.int .i64 ((q + 1 : Nat) : Int), .int .i64 0])) (gM : M.getD q .undef = .st 68 [.int .u32 h2.ver, .iarr .u8 32 h2.prev, .iarr .u8 32 h2.root, .int .u32 h2.time, .int .u32 h2.bits, .int .u32 h2.nonce])
  (c6 : Pt 21 [] [h2.pv] [] (.iarr .u8 32 y))
  (hw : Wt Tryz.f7 [] [] (.bool true) (Af Tryz.f7 1) (dR2 p n L H V m B nl k I a (i + 1))) : Wt Tryz.f7 [] [] (.bool true) (Af Tryz.f7 1) (dR2 p n L H V m B nl k I a i) := by
 have hML2 : M.take (q + 1) = M := List.take_of_length_le (by omega)
 unfold trR at *
 unfold Hd.pv at c3 c6
 refine W.sgA 1 [(0, aT), (2, aE g), (8, c9 c3), (9, cC true [(1, 1), (2, 2), (3, 3), (4, 4)] c4), (18, cL true [] c5), (27, aF), (36, aV (I6 q)), (37, aV (PV.at 213 [Stp.idx q 68])), (38, aE gM), (39, c9 c6), (42, c9 c3), (43, aF), (45, aV (I6 ↑(i + 1)))] [(5, 5), (1, 1), (2, 2), (3, 3), (4, 4)] (dR2 p n L H V m B nl k I a (i + 1)) [decide ((i:Int) < (k:Int)) = true, 0 ≤ (i:Int), (i:Int) < (k:Int), _, i < k, _, _, 0 + (q + 1) ≤ q + 1, rr ([] : List (Nat × Row)), ([Prm.pv p, PV.vec false (PV.parr 68 (q + 1) hsh (List.take (q + 1) M)), I6 a] : List PV) = [Prm.pv p, PV.vec false (PV.parr 68 (q + 1) hsh M), I6 a], _, ((↑(q + 1) : Int) != (↑(q + 1) : Int)) = false, I6 (IntKind.wrap .i64 ((↑(q + 1) : Int) - 1)) = I6 q, PV.at 213 [Stp.idx (0 + q) 68] = PV.at 213 [Stp.idx q 68], 0 ≤ (q:Int), (q:Int) < (↑(q + 1) : Int), _, q < q + 1, _, _, (!decide (y = y)) = false, I6 (IntKind.wrap .i64 ((i:Int) + 1)) = I6 ↑(i + 1)] (ac (dT (by omega)) (ob2 (by omega) (ac (ex g) (ac (by omega) (ac (c3) (ac (c4) (ac (by omega) (ac rfl (ac (by rw [List.take_of_length_le (show List.length M ≤ q + 1 by omega)]) (ac (c5) (ac (bne_eq_false_iff_eq.2 (by omega)) (ac (cg (Ac (by omega) (by omega) (by omega))) (ac (by simp only [Nat.zero_add]) (ob2 (by omega) (ac (ex gM) (ac (by omega) (ac (c6) (ac (c3) (ac (by (simp [*]; done)) (ao (wj (by omega)))))))))))))))))))))) ?_
 exact hw
def mxc (a : Int) : List (Hd × Int) → Int
 | [] => a
 | x :: l => mxc (mx a x.2) l
theorem Xq : ∀ (l : List (Hd × Int)) (a : Int), a ≤ mxc a l ∧ ∀ x ∈ l, x.2 ≤ mxc a l
 | [], a => ⟨Int.le_refl a, fun x hx => by cases hx⟩
 | y :: l, a => by
  obtain ⟨h1, h2⟩ := Xq l (mx a y.2)
  have h3 : a ≤ mx a y.2 ∧ y.2 ≤ mx a y.2 := by unfold mx; split <;> omega
  rw [mxc]
  refine ⟨by omega, fun x hx => ?_⟩
  rcases List.mem_cons.1 hx with rfl | hx
  ·omega
  ·exact h2 x hx
theorem W_ri1 {p : Prm} {n : Nat} {L H : Lpz} {V : Liz} {m : Nat} {B : Liz} {nl : Bool} {I : List (Hd × Int)} (hI : I.length ≤ 16) : ∀ (r i : Nat) (a : Int), i + r = I.length →
  Wt Tryz.f7 [] [] (.bool true) (Af Tryz.f7 1) (dR2 p n L H V m B nl I.length (I.map K4) (mxc a (I.drop i)) 0) →
  Wt Tryz.f7 [] [] (.bool true) (Af Tryz.f7 0) (dR1 p n L H V m B nl I.length (I.map K4) a i)
 | 0, i, a, hk, hw => by
  obtain rfl : i = I.length := by omega
  rw [List.drop_of_length_le (Nat.le_refl _), mxc] at hw
  exact W_riTo hI hw
 | r + 1, i, a, hk, hw => by
  have hi : i < I.length := by omega
  have e : I.drop i = I.getD i default :: I.drop (i + 1) := by rw [List.drop_eq_getElem_cons hi]; simp [List.getD_eq_getElem?_getD, hi]
  rw [e, mxc] at hw
  exact W_riMax hi hI (R5 hi) (W_ri1 hI r (i + 1) _ (by omega) hw)
theorem TG {p : Prm} (hp : p.Ok) (hm : p.May) {nl : Bool} {I : List (Hd × Int)} (hI : I.length ≤ 16) (ho : ∀ x ∈ I, x.1.Ok) {N : List Nd} {a : Int} (hT : TW p N) (hV : TV p N a) (hN : N.length ≤ 29) : ∀ (r i : Nat), i + r = I.length →
  Wt Tryz.f7 [] [] (.bool true) (Af Tryz.f7 1) (dR2 p N.length (N.map D5) (JC N) (JO N.length) (BV N).length (ints (BV N)) nl I.length (I.map K4) a i)
 | 0, i, hk => by
  obtain rfl : i = I.length := by omega
  exact W_riEnd
 | r + 1, i, hk => by
  have hi : i < I.length := by omega
  have g := R5 hi
  have hh := it_ok ho hi
  have ih := TG hp hm (nl := nl) hI ho hT hV hN r (i + 1) (by omega)
  have c3 := Da hh
  have hs := O9 N (Ak (I.getD i default).1)
  by_cases hf : fnd (hsN N) (Ak (I.getD i default).1) < N.length
  ·rw [decide_eq_true hf] at hs
   have hv := TJ hf
   have hpl := hT.plen _ hf
   have hll := JL N (N.getD (fnd (hsN N) (Ak (I.getD i default).1)) default).path
   obtain ⟨q, hq⟩ : ∃ q, (N.getD (fnd (hsN N) (Ak (I.getD i default).1)) default).path.length = q + 1 := ⟨(N.getD (fnd (hsN N) (Ak (I.getD i default).1)) default).path.length - 1, by omega⟩
   have c5 := pc_line hp hm (nl := false) (now := a) (l := Be N (N.getD (fnd (hsN N) (Ak (I.getD i default).1)) default).path) (by omega) (by omega) (hT.Pw hf)
   rw [Rn hT hV hf] at c5
   unfold lpv at c5
   rw [hll, hq] at c5
   have gM := Eg (l := Be N (N.getD (fnd (hsN N) (Ak (I.getD i default).1)) default).path) (i := q) (by omega)
   have el : (Be N (N.getD (fnd (hsN N) (Ak (I.getD i default).1)) default).path).getD q default = (N.getD (fnd (hsN N) (Ak (I.getD i default).1)) default).h := by
    have h2 := hT.plast _ hf
    rw [hq, Nat.add_sub_cancel] at h2
    rw [Nw N _ (by omega), h2]
   rw [el] at gM
   have c6 := Da (hT.ok _ hf)
   have eh : Ak (N.getD (fnd (hsN N) (Ak (I.getD i default).1)) default).h = Ak (I.getD i default).1 := by
    have := Uc (hsN N) (Ak (I.getD i default).1) (by rw [FT]; exact hf)
    rw [hsN_atR N hf] at this
    exact this
   rw [eh] at c6
   exact W_riY (by rw [List.length_map, hll, hq]) hi hI (by omega) (Bq _) g c3 (UQ hs hv (PU hT rfl (by omega) hf hq)) c5 gM c6 ih
  ·rw [decide_eq_false hf] at hs
   exact W_riN hi hI g c3 (Uy hs) ih
theorem Ya {p : Prm} (hp : p.Ok) {nl : Bool} {I : List (Hd × Int)} (ho : ∀ x ∈ I, x.1.Ok) : Pt 7 [] [ET p nl I.length (I.map K4)] [] (.bool true) := by
 by_cases hI : I.length ≤ 24
 ·by_cases hm : p.May
  ·by_cases hI2 : I.length ≤ 16
   ·obtain ⟨hT, hl⟩ := WC hp ho
    have hV := XU hp ho (now := mxc 0 I) (Xq I 0).2
    refine W_riIn hI2 (Qx (Ls hp.sum) (Tp hp hm) hI) (pc_made hp hm hI ho) (W_ri1 hI2 I.length 0 0 (by omega) ?_)
    rw [List.drop_zero]
    exact TG hp hm hI2 ho hT hV (by omega) I.length 0 (by omega)
   ·exact VT (by omega) (Qx (Ls hp.sum) (Tp hp hm) hI)
  ·exact WB (Xh (Ls hp.sum) (pc_mayN hp hm) hI)
 ·exact WB (Wx hI)
end Go.Proofs
namespace Go.Proofs
open Go Go.Pe Go.Pm
set_option maxRecDepth 100000
theorem it_of {p : PV} (hc : conf K3 p = true) (hw : WF p) : ∃ x : Hd × Int, p = K4 x ∧ x.1.Ok ∧ IntKind.i64.wrap x.2 = x.2 := by
 obtain ⟨a, b, rfl, ha, hb⟩ : ∃ a b, p = .st 69 [a, b] ∧ conf hsh a = true ∧ conf (.int .i64) b = true := by
  have e := BB _ _ hc
  obtain ⟨a, b, rfl⟩ : ∃ a b, p = .st 69 [a, b] := ⟨_, _, e.symm⟩
  have h2 : (Nat.beq 69 69 && (conf hsh a && (conf (.int .i64) b && true))) = true := hc
  simp only [Bool.and_eq_true] at h2
  exact ⟨a, b, rfl, h2.2.1, h2.2.2.1⟩
 simp only [WF, WFL] at hw
 obtain ⟨h, rfl, hh⟩ := hd_of ha hw.2.1
 obtain ⟨x, rfl⟩ : ∃ x, b = .int .i64 x := ⟨_, (BB _ _ hb).symm⟩
 exact ⟨(h, x), rfl, hh, hw.2.2.1⟩
theorem Xw : ∀ {l : List PV}, WFL l → (∀ q ∈ l, size q = 69 ∧ conf K3 q = true ∧ noref q = true) → ∃ I : List (Hd × Int), l = I.map K4 ∧ ∀ x ∈ I, x.1.Ok ∧ IntKind.i64.wrap x.2 = x.2
 | [], _, _ => ⟨[], rfl, fun x hx => by cases hx⟩
 | p :: l, hw, hq => by
  simp only [WFL] at hw
  obtain ⟨x, rfl, hh⟩ := it_of (hq p (by simp)).2.1 hw.1
  obtain ⟨I, rfl, hI⟩ := Xw hw.2 fun q hh => hq q (by simp [hh])
  refine ⟨x :: I, rfl, fun y hy => ?_⟩
  rcases List.mem_cons.1 hy with rfl | hy
  ·exact hh
  ·exact hI y hy
def tcsh : Sh := .st 78 [psh, .vec 69 K3]
theorem tc_of {p : PV} (hc : conf tcsh p = true) (hw : WF p) : ∃ (q : Prm) (nl : Bool) (I : List (Hd × Int)), p = ET q nl I.length (I.map K4) ∧ q.Ok ∧ ∀ x ∈ I, x.1.Ok ∧ IntKind.i64.wrap x.2 = x.2 := by
 obtain ⟨a, b, rfl, ha, hb⟩ : ∃ a b, p = .st 78 [a, b] ∧ conf psh a = true ∧ conf (.vec 69 K3) b = true := by
  have e := BB _ _ hc
  obtain ⟨a, b, rfl⟩ : ∃ a b, p = .st 78 [a, b] := ⟨_, _, e.symm⟩
  have h2 : (Nat.beq 78 78 && (conf psh a && (conf (.vec 69 K3) b && true))) = true := hc
  simp only [Bool.and_eq_true] at h2
  exact ⟨a, b, rfl, h2.2.1, h2.2.2.1⟩
 simp only [WF, WFL] at hw
 obtain ⟨q, rfl, hq⟩ := prm_of ha hw.2.1
 obtain ⟨nl, n, m, rfl⟩ : ∃ nl n m, b = .vec nl (.parr 69 n K3 m) := ⟨_, _, _, (BB _ _ hb).symm⟩
 obtain ⟨_, _, ⟨⟨h1, h2, h3⟩, _, _⟩, _⟩ := hw
 obtain ⟨I, rfl, hI⟩ := Xw h2 h3
 rw [List.length_map] at h1
 subst h1
 exact ⟨q, nl, I, rfl, hq, hI⟩
theorem one_ofT {sh : Sh} {ps : List PV} (h : DV [sh] ps = true) : ∃ a, ps = [a] ∧ conf sh a = true := by
 cases ps with
 | nil => simp [DV] at h
 | cons a t => cases t with
  | nil => simp only [DV, Bool.and_true] at h; exact ⟨a, rfl, h⟩
  | cons b t => simp [DV] at h
end Go.Proofs
namespace Go.Pe
def P9 (P : Program) (tot : Nat) : Nat → List Field → Bool
 | o, [] => Nat.beq o tot
 | o, f :: l => Nat.beq f.offset o && P9 P tot (o + P.cellsOf f.type) l
def okT (P : Program) : Nat → TypeId → Bool
 | 0, _ => false
 | d + 1, t => match P.underlying t with
  | some .bool | some (.int _) | some .string => Nat.beq (P.cellsOf t) 1
  | some (.struct fs) => P9 P (P.cellsOf t) 0 fs.toList && fs.toList.all fun f => okT P d f.type
  | some (.array n e) => Nat.beq (P.cellsOf t) (n * P.cellsOf e) && Fp P e && okT P d e
  | some (.slice e) => Nat.beq (P.cellsOf t) 1 && Fp P e && okT P d e
  | _ => false
theorem Dg (k : IntKind) : IntKind.same k k = true := by cases k <;> rfl
theorem beq_refl (s : Sh) : Sh.beq s s = true :=
 Sh.rec (motive_1 := fun s => Sh.beq s s = true) (motive_2 := fun l => Sh.Pn l l = true) rfl Dg rfl rfl (fun _ _ ih => by simp only [Sh.beq, Bool.and_eq_true]; exact ⟨Nat.beq_refl _, ih⟩)
  (fun k _ => by simp only [Sh.beq, Bool.and_eq_true]; exact ⟨Dg k, Nat.beq_refl _⟩) (fun _ _ _ ih => by simp only [Sh.beq, Bool.and_eq_true]; exact ⟨⟨Nat.beq_refl _, Nat.beq_refl _⟩, ih⟩)
  (fun _ _ ih => by simp only [Sh.beq, Bool.and_eq_true]; exact ⟨Nat.beq_refl _, ih⟩) rfl (fun _ _ h1 h2 => by simp only [Sh.Pn, Bool.and_eq_true]; exact ⟨h1, h2⟩) s
structure Ku (P : Program) (w : World) (T : T2) (d : Nat) (t : TypeId) (cs : List Value) (p : PV) : Prop where
 conf : conf (CL P d t) p = true
 wf : WF p
 noref : noref p = true
 untup : untup p = true
 size : size p = P.cellsOf t
 len : cs.length = P.cellsOf t
 agg : Pe.isAgg p = Cj P t
 rel : ∀ (j : Nat) (q : PV) (u : Value), (flat p)[j]? = some q → cs[j]? = some u → RC w T u q
theorem LA {α β : Type} {g : α → Option β} : ∀ {l : List α} {xs : List β}, l.mapM g = some xs → ∀ i ∈ l, ∃ y, g i = some y
 | [], _, _, i, hi => by cases hi
 | a :: l, xs, h, i, hi => by
  rw [List.mapM_cons] at h
  simp only [Option.bind_eq_bind, Option.bind_eq_some_iff] at h
  obtain ⟨y, hy, ys, hys, _⟩ := h
  rcases List.mem_cons.1 hi with rfl | hi
  ·exact ⟨y, hy⟩
  ·exact LA hys i hi
theorem J5 {s : Nat} (hs : 0 < s) : ∀ {l : List PV}, WFL l → (∀ q ∈ l, Pe.size q = s) → ∀ {j : Nat} {q : PV}, (Al l)[j]? = some q → ∃ p, l[j / s]? = some p ∧ (flat p)[j % s]? = some q
 | [], _, _, j, q, h => by simp [Al] at h
 | p :: l, hw, hz, j, q, h => by
  simp only [WFL] at hw
  have hl : (flat p).length = s := by rw [Ai p hw.1, hz p (by simp)]
  simp only [Al] at h
  by_cases hj : j < s
  ·rw [List.getElem?_append_left (by omega)] at h
   refine ⟨p, by rw [Nat.div_eq_of_lt hj]; rfl, by rw [Nat.mod_eq_of_lt hj]; exact h⟩
  ·rw [List.getElem?_append_right (by omega), hl] at h
   obtain ⟨p', h1, h2⟩ := J5 hs hw.2 (fun q hq => hz q (by simp [hq])) h
   have e : j = (j - s) + s := by omega
   refine ⟨p', ?_, ?_⟩
   ·rw [e, Nat.add_div_right _ hs]
    simpa using h1
   ·rw [e, Nat.add_mod_right]; exact h2
def CP (P : Program) (d : Nat) (e : TypeId) (l : List PV) : PV := match P.underlying e with
 | some (.int k) => .iarr k l.length (l.map PV.num)
 | _ => .parr (P.cellsOf e) l.length (CL P d e) l
section
variable {P : Program} {w : World} {T : T2}
theorem QX {d : Nat} {e : TypeId} {k : IntKind} (h : P.underlying e = some (.int k)) : CL P (d + 1) e = .int k := by simp only [CL, h]
theorem RD {d : Nat} {t e : TypeId} (h : P.underlying t = some (.slice e)) : CL P (d + 1) t = .vec (P.cellsOf e) (CL P d e) := by simp only [CL, h]
theorem IX {d : Nat} {e : TypeId} {l : List PV} (hok : okT P d e = true) (hl : ∀ q ∈ l, Pe.conf (CL P d e) q = true ∧ WF q ∧ Pe.noref q = true ∧ Pe.untup q = true ∧ Pe.size q = P.cellsOf e) :
  WF (CP P d e l) ∧ Cg (CP P d e l) = true ∧ Ae (CP P d e l) = l.length ∧ Az (CP P d e l) = P.cellsOf e ∧ Pe.untup (CP P d e l) = true ∧ flat (CP P d e l) = Al l ∧ Pe.size (CP P d e l) = l.length * P.cellsOf e := by
 have hut : Cc l = true := by
  clear hok
  induction l with
  | nil => rfl
  | cons p l ih =>
   simp only [Cc, Bool.and_eq_true]
   exact ⟨(hl p (by simp)).2.2.2.1, ih fun q hq => hl q (by simp [hq])⟩
 unfold CP
 split
 ·rename_i k hu
  obtain ⟨d', rfl⟩ : ∃ d', d = d' + 1 := by cases d with
   | zero => simp [okT] at hok
   | succ d => exact ⟨d, rfl⟩
  have h1 : P.cellsOf e = 1 := by
   simp only [okT, hu] at hok
   exact Nat.eq_of_beq_eq_true hok
  have hq : ∀ q ∈ l, ∃ x, q = .int k x ∧ k.wrap x = x := by
   intro q hq
   have := hl q hq
   rw [QX hu] at this
   cases q <;> simp only [Pe.conf, reduceCtorEq, false_and] at this
   rename_i k' x
   have hk := IntKind.same_eq this.1
   subst hk
   exact ⟨x, rfl, by simpa only [WF] using this.2.1⟩
  have hf : (l.map PV.num).map (PV.int k) = l := by
   rw [List.map_map]
   conv => rhs; rw [← List.map_id l]
   refine List.map_congr_left fun q hql => ?_
   obtain ⟨x, rfl, _⟩ := hq q hql
   rfl
  have hfl : Al l = l := by
   clear hok hf
   induction l with
   | nil => rfl
   | cons p l ih =>
    obtain ⟨x, rfl, _⟩ := hq p (by simp)
    simp only [Al, flat]
    rw [ih (by simp only [Cc, Bool.and_eq_true] at hut; exact hut.2) (fun q hq' => hl q (by simp [hq'])) (fun q hq' => hq q (by simp [hq']))]
    rfl
  refine ⟨?_, rfl, rfl, by simp only [Az]; omega, rfl, by simp only [flat]; rw [hf, hfl], by simp only [Pe.size]; rw [h1, Nat.mul_one]⟩
  simp only [WF, List.length_map, List.mem_map, true_and]
  rintro x ⟨q, hql, rfl⟩
  obtain ⟨x, rfl, hx⟩ := hq q hql
  exact hx
 ·refine ⟨?_, rfl, rfl, rfl, by simpa only [Pe.untup] using hut, rfl, rfl⟩
  simp only [WF]
  exact ⟨trivial, Cu fun q hq => (hl q hq).2.1, fun q hq => ⟨(hl q hq).2.2.2.2, (hl q hq).1, (hl q hq).2.2.1⟩⟩
theorem Qn {d n : Nat} {t e : TypeId} {cs : List Value} (hu : P.underlying t = some (.array n e)) (hc : P.cellsOf t = n * P.cellsOf e) (hok : okT P d e = true) (hs : 0 < P.cellsOf e) (hl : cs.length = P.cellsOf t)
  (h : ∀ i, i < n → ∃ p, Ku P w T d e ((cs.drop (i * P.cellsOf e)).take (P.cellsOf e)) p) : ∃ p, Ku P w T (d + 1) t cs p := by
 have hex : ∀ i, ∃ p, i < n → Ku P w T d e ((cs.drop (i * P.cellsOf e)).take (P.cellsOf e)) p := fun i => by
  by_cases hi : i < n
  ·obtain ⟨p, hp⟩ := h i hi; exact ⟨p, fun _ => hp⟩
  ·exact ⟨.undef, fun h => absurd h hi⟩
 obtain ⟨f, hf⟩ := Classical.axiomOfChoice hex
 have hmem : ∀ q ∈ (List.range n).map f, Pe.conf (CL P d e) q = true ∧ WF q ∧ Pe.noref q = true ∧ Pe.untup q = true ∧ Pe.size q = P.cellsOf e := by
  intro q hq
  obtain ⟨i, hi, rfl⟩ := List.mem_map.1 hq
  have := hf i (by simpa using hi)
  exact ⟨this.conf, this.wf, this.noref, this.untup, this.size⟩
 obtain ⟨a1, a2, a3, a4, a5, a6, a7⟩ := IX hok hmem
 have hlen : ((List.range n).map f).length = n := by simp
 refine ⟨CP P d e ((List.range n).map f), ?_, a1, JW a2, a5, by rw [a7, hlen, hc], hl, ?_, fun j q u hq hu' => ?_⟩
 ·unfold CP
  simp only [CL, hu]
  cases hk : P.underlying e with
  | none =>
   simp only [Pe.conf, Bool.and_eq_true, hlen]
   exact ⟨⟨Nat.beq_refl _, Nat.beq_refl _⟩, beq_refl _⟩
  | some dsc => cases dsc with
  | int k =>
   simp only [Pe.conf, Bool.and_eq_true, hlen]
   exact ⟨Dg k, Nat.beq_refl _⟩
  | _ =>
   simp only [Pe.conf, Bool.and_eq_true, hlen]
   exact ⟨⟨Nat.beq_refl _, Nat.beq_refl _⟩, beq_refl _⟩
 ·have : Pe.isAgg (CP P d e ((List.range n).map f)) = true := by unfold CP; split <;> rfl
  rw [this]
  simp only [Cj, hu]
 ·rw [a6] at hq
  have hwl : WFL ((List.range n).map f) := Cu fun q hq => (hmem q hq).2.1
  obtain ⟨p, h1, h2⟩ := J5 hs hwl (fun q hq => (hmem q hq).2.2.2.2) hq
  have hjn : j / P.cellsOf e < n := by have := (List.getElem?_eq_some_iff.1 h1).1; simpa using this
  have hp : p = f (j / P.cellsOf e) := by simp [hjn] at h1; exact h1.symm
  subst hp
  refine (hf _ hjn).rel (j % P.cellsOf e) q u h2 ?_
  rw [List.getElem?_take, if_pos (Nat.mod_lt _ hs), List.getElem?_drop, ← hu']
  congr 1
  rw [Nat.mul_comm]
  exact Nat.div_add_mod j (P.cellsOf e)
theorem JB {d tot : Nat} {cs : List Value} (hl : cs.length = tot) : ∀ {fs : List Field} {o : Nat}, P9 P tot o fs = true → (∀ f ∈ fs, okT P d f.type = true ∧ ∃ p, Ku P w T d f.type ((cs.drop f.offset).take (P.cellsOf f.type)) p) →
  ∃ ps, DV (fs.map fun f => CL P d f.type) ps = true ∧ WFL ps ∧ CZ ps = true ∧ Cc ps = true ∧ o + AO ps = tot ∧ ∀ (j : Nat) (q : PV) (u : Value), (Al ps)[j]? = some q → cs[o + j]? = some u → RC w T u q
 | [], o, h, _ => by
  simp only [P9] at h
  exact ⟨[], rfl, by simp [WFL], rfl, rfl, by simp only [AO]; exact Nat.eq_of_beq_eq_true h, fun j q u hq => by simp [Al] at hq⟩
 | f :: fs, o, h, hf => by
  simp only [P9, Bool.and_eq_true] at h
  obtain ⟨h1, h2⟩ := h
  have ho := Nat.eq_of_beq_eq_true h1
  obtain ⟨_, p, hp⟩ := hf f (by simp)
  obtain ⟨ps, g1, g2, g3, g4, g5, g6⟩ := JB hl h2 fun x hx => hf x (by simp [hx])
  refine ⟨p :: ps, by simp only [List.map_cons, DV, Bool.and_eq_true]; exact ⟨hp.conf, g1⟩, by simp only [WFL]; exact ⟨hp.wf, g2⟩, by simp only [CZ, Bool.and_eq_true]; exact ⟨hp.noref, g3⟩, by simp only [Cc, Bool.and_eq_true]; exact ⟨hp.untup, g4⟩, by simp only [AO, hp.size]; omega, fun j q u hq hu => ?_⟩
  simp only [Al] at hq
  have hlp : (flat p).length = P.cellsOf f.type := by rw [Ai p hp.wf, hp.size]
  by_cases hj : j < P.cellsOf f.type
  ·rw [List.getElem?_append_left (by omega)] at hq
   refine hp.rel j q u hq ?_
   rw [List.getElem?_take, if_pos hj, List.getElem?_drop, ho]
   exact hu
  ·rw [List.getElem?_append_right (by omega), hlp] at hq
   refine g6 _ q u hq ?_
   rw [← hu]
   congr 1
   omega
end
section
variable {H : Type} {enc : TypeId × Value → H} {P : Program} {w : World} {base : Nat} {spare : Nat → Bool} {held : Bool}
theorem Ko {a : Addr} {n : Nat} {cs : List Value} (h : w.cells? base a n = some cs) : cs.length = n ∧ ∀ j u, cs[j]? = some u → w.cell? (a.add j) = some u := by
 unfold World.cells? at h
 split at h
 ·have : ∀ {l : List Nat} {xs : List Value}, l.mapM (fun i => w.cell? (a.add i)) = some xs → xs.length = l.length ∧ ∀ (j : Nat) (i : Nat) (u : Value), l[j]? = some i → xs[j]? = some u → w.cell? (a.add i) = some u := by
   intro l
   induction l with
   | nil => intro xs h; simp at h; subst h; exact ⟨rfl, fun j i u hi => by simp at hi⟩
   | cons b l ih =>
    intro xs h
    rw [List.mapM_cons] at h
    simp only [Option.bind_eq_bind, Option.bind_eq_some_iff, Option.pure_def, Option.some.injEq] at h
    obtain ⟨y, hy, ys, hys, rfl⟩ := h
    obtain ⟨e1, e2⟩ := ih hys
    refine ⟨by simp [e1], fun j i u hi hu => ?_⟩
    cases j with
    | zero => simp at hi hu; subst hi; subst hu; exact hy
    | succ j => simp at hi hu; exact e2 j i u hi hu
  obtain ⟨e1, e2⟩ := this h
  refine ⟨by simpa using e1, fun j u hu => ?_⟩
  have hj : j < n := by have := (List.getElem?_eq_some_iff.1 hu).1; simp at e1; omega
  exact e2 j j u (by simp [hj]) hu
 ·cases h
theorem FP : ∀ (d : Nat) (t : TypeId) (fuel : Nat) (cs : List Value) (x : DataW H × List MemPlace), okT P d t = true → DataW.trod enc P w base spare held fuel t cs = some x → ∃ p, Ku P w (fun b _ => b < w.heap.size) d t cs p
 | 0, _, _, _, _, h, _ => by simp [okT] at h
 | d + 1, t, 0, cs, x, _, h => by simp [DataW.trod] at h
 | d + 1, t, fuel + 1, cs, x, hok, h => by
  have hsz : ∀ e, Fp P e = true → 0 < P.cellsOf e := fun e he => Nat.pos_of_ne_zero (BU he)
  simp only [okT] at hok
  split at hok
  ·rename_i hu
   have hc := Nat.eq_of_beq_eq_true hok
   obtain ⟨b, rfl, _⟩ := DataW.trod_bool hu h
   refine ⟨.bool b, by simp only [CL, hu]; rfl, trivial, rfl, rfl, hc.symm, by rw [hc]; rfl, by simp only [Cj, hu]; rfl, fun j q u hq hu' => ?_⟩
   cases j with
   | zero => simp [flat] at hq hu'; subst hq; subst hu'; exact .bool b
   | succ j => simp [flat] at hq
  ·rename_i k hu
   have hc := Nat.eq_of_beq_eq_true hok
   obtain ⟨n, rfl, _, hwf⟩ := DataW.trod_int hu h
   have hw : k.wrap n = n := by
    rw [Aq]
    simpa [Lit.wf, IntKind.has] using hwf
   refine ⟨.int k n, by simp only [CL, hu, conf]; cases k <;> rfl, by simp only [WF]; exact hw, rfl, rfl, hc.symm, by rw [hc]; rfl, by simp only [Cj, hu]; rfl, fun j q u hq hu' => ?_⟩
   cases j with
   | zero => simp [flat] at hq hu'; subst hq; subst hu'; exact .int k n
   | succ j => simp [flat] at hq
  ·rename_i hu
   have hc := Nat.eq_of_beq_eq_true hok
   obtain ⟨s, rfl, _, hs⟩ := DataW.trod_string hu h
   refine ⟨.str s, by simp only [CL, hu]; rfl, trivial, rfl, rfl, hc.symm, by rw [hc]; rfl, by simp only [Cj, hu]; rfl, fun j q u hq hu' => ?_⟩
   cases j with
   | zero => simp [flat] at hq hu'; subst hq; subst hu'; exact .str s hs
   | succ j => simp [flat] at hq
  ·rename_i fs hu
   simp only [Bool.and_eq_true, List.all_eq_true] at hok
   simp only [DataW.trod, hu] at h
   split at h
   ·rename_i hl
    simp only [Option.map_eq_some_iff] at h
    obtain ⟨xs, hxs, _⟩ := h
    obtain ⟨ps, g1, g2, g3, g4, g5, g6⟩ := JB (P := P) (w := w) (T := fun b _ => b < w.heap.size) (d := d) hl hok.1 (fun f hf => ⟨hok.2 f hf, by
     obtain ⟨y, hy⟩ := LA hxs f hf
     exact FP d f.type fuel _ y (hok.2 f hf) hy⟩)
    refine ⟨.st (P.cellsOf t) ps, by simp only [CL, hu, conf, Bool.and_eq_true]; exact ⟨Nat.beq_refl _, g1⟩, by simp only [WF]; exact ⟨by omega, g2⟩, by simp only [noref]; exact g3, by simp only [untup]; exact g4, rfl, hl, by simp only [Cj, hu]; rfl, fun j q u hq hu' => ?_⟩
    simp only [flat] at hq
    exact g6 j q u hq (by rw [Nat.zero_add]; exact hu')
   ·cases h
  ·rename_i n e hu
   simp only [Bool.and_eq_true] at hok
   have hc := Nat.eq_of_beq_eq_true hok.1.1
   simp only [DataW.trod, hu] at h
   split at h
   ·rename_i hl
    simp only [Option.map_eq_some_iff] at h
    obtain ⟨xs, hxs, _⟩ := h
    exact Qn hu hc hok.2 (hsz e hok.1.2) hl fun i hi => by
     obtain ⟨y, hy⟩ := LA hxs i (by simpa using hi)
     exact FP d e fuel _ y hok.2 hy
   ·cases h
  ·rename_i e hu
   simp only [Bool.and_eq_true] at hok
   have hc := Nat.eq_of_beq_eq_true hok.1.1
   have hpos := hsz e hok.1.2
   have hone : ∀ (v : Value) (c : PV) (nl : Bool), cs = [v] → WF (.vec nl c) → Pe.conf (CL P (d + 1) t) (.vec nl c) = true → RC w (fun b _ => b < w.heap.size) v (.vec nl c) → ∃ p, Ku P w (fun b _ => b < w.heap.size) (d + 1) t cs p := by
    rintro v c nl rfl h1 h2 h3
    refine ⟨.vec nl c, h2, h1, rfl, rfl, hc.symm, by rw [hc]; rfl, by simp only [Cj, hu]; rfl, fun j q u hq hu' => ?_⟩
    cases j with
    | zero => simp [flat] at hq hu'; subst hq; subst hu'; exact h3
    | succ j => simp [flat] at hq
   have hshape : ∀ l : List PV, ∀ nl, Pe.conf (CL P (d + 1) t) (.vec nl (CP P d e l)) = true := by
    intro l nl
    obtain ⟨d', rfl⟩ : ∃ d', d = d' + 1 := by cases d with
     | zero => simp [okT] at hok
     | succ d => exact ⟨d, rfl⟩
    have hsh : CL P (d' + 1 + 1) t = .vec (P.cellsOf e) (CL P (d' + 1) e) := RD hu
    rw [hsh]
    by_cases hk : ∃ k, P.underlying e = some (.int k)
    ·obtain ⟨k, hk⟩ := hk
     have : CP P (d' + 1) e l = .iarr k l.length (l.map PV.num) := by simp only [CP, hk]
     rw [this, QX hk]
     simp only [Pe.conf]
     exact Dg k
    ·have : CP P (d' + 1) e l = .parr (P.cellsOf e) l.length (CL P (d' + 1) e) l := by
      unfold CP
      split
      ·rename_i k hk'; exact absurd ⟨k, hk'⟩ hk
      ·rfl
     rw [this]
     have hni : Sh.isInt (CL P (d' + 1) e) = false := by
      cases he : P.underlying e with
      | none => simp only [CL, he, Sh.isInt]
      | some dsc => cases dsc with
       | int k => exact absurd ⟨k, he⟩ hk
       | array n e' =>
        simp only [CL, he]
        split <;> rfl
       | _ => simp only [CL, he, Sh.isInt]
     cases hs2 : CL P (d' + 1) e with
     | int k => rw [hs2] at hni; simp [Sh.isInt] at hni
     | _ => simp only [Pe.conf, Bool.and_eq_true, Sh.isInt, Bool.not_false, true_and]; exact ⟨Nat.beq_refl _, beq_refl _⟩
   rcases DataW.trod_slice hu h with ⟨hx, _⟩ | ⟨a, len, cap, elems, rest, n, hf, hx, _, _, h1, h2, h3, h4, _⟩
   ·obtain ⟨a1, a2, a3, _⟩ := IX (P := P) (d := d) (e := e) (l := []) hok.2 (fun q hq => by cases hq)
    exact hone _ (CP P d e []) true hx (by simp only [WF]; exact ⟨a1, a2, fun _ => a3⟩) (hshape [] true) (.vec0 _ _ _ _ a3 rfl (fun _ => rfl))
   ·have hfu : n = fuel := by omega
    subst hfu
    have hex : ∀ i, ∃ p, i < len → ∃ cs', w.cells? base (a.add (i * P.cellsOf e)) (P.cellsOf e) = some cs' ∧ Ku P w (fun b _ => b < w.heap.size) d e cs' p := fun i => by
     by_cases hi : i < len
     ·have := h4 i hi
      rw [List.getElem?_eq_getElem (by omega), Option.bind_eq_some_iff] at this
      obtain ⟨cs', c1, c2⟩ := this
      obtain ⟨p, hp⟩ := FP d e n cs' _ hok.2 c2
      exact ⟨p, fun _ => ⟨cs', c1, hp⟩⟩
     ·exact ⟨.undef, fun h => absurd h hi⟩
    obtain ⟨f, hf⟩ := Classical.axiomOfChoice hex
    have hmem : ∀ q ∈ (List.range len).map f, Pe.conf (CL P d e) q = true ∧ WF q ∧ Pe.noref q = true ∧ Pe.untup q = true ∧ Pe.size q = P.cellsOf e := by
     intro q hq
     obtain ⟨i, hi, rfl⟩ := List.mem_map.1 hq
     obtain ⟨cs', _, hp⟩ := hf i (by simpa using hi)
     exact ⟨hp.conf, hp.wf, hp.noref, hp.untup, hp.size⟩
    obtain ⟨a1, a2, a3, a4, a5, a6, a7⟩ := IX hok.2 hmem
    have hlen : ((List.range len).map f).length = len := by simp
    rw [hlen] at a3
    rcases Nat.eq_zero_or_pos len with h0 | h0
    ·subst h0
     exact hone _ (CP P d e ((List.range 0).map f)) false hx (by simp only [WF]; exact ⟨a1, a2, fun e => by cases e⟩) (hshape _ false) (.vec0 _ _ _ _ a3 rfl (fun e => by cases e))
    ·have hsp : a.spot = none := by
      obtain ⟨cs', c1, hp⟩ := hf 0 h0
      obtain ⟨e1, e2⟩ := Ko c1
      have := e2 0 cs'[0] (List.getElem?_eq_getElem (by omega))
      unfold World.cell? at this
      split at this
      ·split at this
       ·cases this
       ·rename_i hs
        simpa [Addr.add] using hs
      ·cases this
     obtain ⟨bk, o, sp⟩ := a
     simp only at hsp
     subst hsp
     have hcell : ∀ j, ∃ u, ∀ q, (flat (CP P d e ((List.range len).map f)))[j]? = some q → w.cell? ⟨bk, o + j, none⟩ = some u ∧ RC w (fun b _ => b < w.heap.size) u q := by
      intro j
      cases hj : (flat (CP P d e ((List.range len).map f)))[j]? with
      | none => exact ⟨Go.undef, fun q hq => by cases hq⟩
      | some q =>
       rw [a6] at hj
       obtain ⟨p, p1, p2⟩ := J5 hpos (Cu fun q hq => (hmem q hq).2.1) (fun q hq => (hmem q hq).2.2.2.2) hj
       have hjn : j / P.cellsOf e < len := by have := (List.getElem?_eq_some_iff.1 p1).1; simpa using this
       have hp : p = f (j / P.cellsOf e) := by simp [hjn] at p1; exact p1.symm
       subst hp
       obtain ⟨cs', c1, hp⟩ := hf _ hjn
       obtain ⟨e1, e2⟩ := Ko c1
       have hm : j % P.cellsOf e < cs'.length := by rw [e1]; exact Nat.mod_lt _ hpos
       refine ⟨cs'[j % P.cellsOf e], fun q' hq' => ?_⟩
       cases hq'
       refine ⟨?_, hp.rel _ q _ p2 (List.getElem?_eq_getElem hm)⟩
       have := e2 _ _ (List.getElem?_eq_getElem hm)
       rw [BR, BR] at this
       rw [← this]
       congr 2
       rw [Nat.add_assoc, Nat.mul_comm, Nat.div_add_mod]
     obtain ⟨us, hus⟩ := Classical.axiomOfChoice hcell
     exact hone _ (CP P d e ((List.range len).map f)) false hx (by simp only [WF]; exact ⟨a1, a2, fun e => by cases e⟩) (hshape _ false)
      (.vec1 _ _ _ _ _ us a3 h1 h2 (fun j q hq => ⟨EG (hus j q hq).1, (hus j q hq).1⟩) (fun j q hq => (hus j q hq).2))
  ·cases hok
end
end Go.Pe
namespace Go.Pe
open Go.ChangeShapes Go.WideShapes Go.ChangeAt Go.RowKit
section
variable {H : Type} {enc : TypeId × Value → H} {P : Program}
theorem Rp {f : Func} {s : ChangeSpec} {apart fresh handsOn again : Bool} {W W' : World} {args : Array Value} {v : Value} {ds gs : List (DataW H)} {before pa pv : List MemPlace}
  (hW : DataW.Whole enc P f.params.toList s.vars apart W args.toList ds gs before)
  (hres : ∀ (b : Nat) (sp : Nat → Bool) (hd : Bool), DataW.TrodAll enc P W' b sp hd f.resultTypes.toList (v.resultList f.resultTypes.size) (s.fn H (ds ++ gs)).results [])
  (hargs : ∀ sp : Nat → Bool, (∀ p ∈ before, sp p.block = true) → DataW.TrodAll enc P W' 0 sp true f.params.toList args.toList (s.fn H (ds ++ gs)).args pa)
  (hvars : ∀ sp : Nat → Bool, (∀ p ∈ before, sp p.block = true) → DataW.TrodVars enc P W' sp s.vars (s.fn H (ds ++ gs)).vars pv)
  (hps : before = pa ++ pv) (hb : Below W.heap.size W W')
  (hok : ∀ (j : Nat) (t : TypeId) (r : Value), f.resultTypes[j]? = some t → (v.resultList f.resultTypes.size)[j]? = some r → Value.okWide P W' .any 0 t r) :
  s.post enc P f apart fresh handsOn again W args v W' := by
 have hlt : ∀ p ∈ before, p.block < W.heap.size := fun p hp => hW.lt p hp
 have hold : ∀ p ∈ before, (fun b => decide (b < W.heap.size)) p.block = true := fun p hp => by simpa using hlt p hp
 refine ⟨ds, gs, before, [], pa, pv, hW, hres _ _ _, hargs _ hold, hvars _ hold, World.keptBut_mono (fun p hp => ⟨hp, ?_⟩) (hb.frame (· ∈ before)), fun _ => ?_⟩
 ·rw [hps, List.mem_append] at hp
  exact Or.inr hp
 ·obtain ⟨_, _, _, _, _, hz, hn⟩ := hW
  refine ⟨hok, _, _, ([] ++ pa) ++ pv, ⟨[] ++ pa, pv, trodAll_append (hargs _ (fun _ _ => rfl)) (hres _ _ _), hvars _ (fun _ _ => rfl), rfl, ?_, ?_⟩, ?_⟩
  ·intro b off hp
   have hin : MemPlace.cell b off ∈ before := by rw [hps]; simpa using hp
   rw [hb.frozen (hlt _ hin)]
   exact hz b off hin
  ·intro ha
   have := hn ha
   rw [hps] at this
   simpa using this
  ·intro p hp _
   rw [hps]
   simpa using hp
theorem H9 (hl : laidOutB P = true) {W W' : World} (hb : Below W.heap.size W W') {sp : Nat → Bool} : ∀ {ts : List TypeId} {vs : List Value} {ds : List (DataW H)} {ps : List MemPlace}, (∀ t ∈ ts, P.readableRec t = true ∧ t < P.types.size) →
  DataW.TrodAll enc P W 0 (fun _ => true) true ts vs ds ps → (∀ p ∈ ps, sp p.block = true) → DataW.TrodAll enc P W' 0 sp true ts vs ds ps
 | [], [], [], _, _, h, _ => h
 | t :: ts, v :: vs, d :: ds, ps, ht, h, hs => by
  have hlt := h.lt
  obtain ⟨p, q, h1, h2, rfl⟩ := h
  exact ⟨p, q, WideElems.Trod_stays hl (ht t (by simp)).1 (ht t (by simp)).2 h1 (fun x hx => hb.same (hlt x (by simp [hx]))) (fun x hx => hs x (by simp [hx])),
   H9 hl hb (fun t ht' => ht t (by simp [ht'])) h2 (fun x hx => hs x (by simp [hx])), rfl⟩
 | [], _ :: _, _, _, _, h, _ => by simp [DataW.TrodAll] at h
 | [], [], _ :: _, _, _, h, _ => by simp [DataW.TrodAll] at h
 | _ :: _, [], _, _, _, h, _ => by simp [DataW.TrodAll] at h
 | _ :: _, _ :: _, [], _, _, h, _ => by simp [DataW.TrodAll] at h
structure Ins (P : Program) (ts : List TypeId) (ps : List PV) : Prop where
 conf : DV (ts.map (CL P 9)) ps = true
 wf : WFL ps
 untup : Cc ps = true
theorem Wz {W : World} {base : Nat} {t : TypeId} {v : Value} {p : PV} (hv : Value.okWide P W .any base t v) (h : Ku P W (fun b _ => b < W.heap.size) 9 t v.cells.toList p) : RV W (fun b _ => b < W.heap.size) (fun _ => none) v p := by
 have hnt : ∀ vs, p ≠ .tup vs := fun vs e => by have := h.untup; subst e; simp [Pe.untup] at this
 cases ha : Pe.isAgg p with
 | true =>
  have hat : Cj P t = true := by rw [← h.agg]; exact ha
  have : ∃ cs, v = .agg cs := by
   unfold Cj at hat
   unfold Value.okWide at hv
   split at hat
   ·rename_i fs hu
    rw [hu] at hv
    obtain ⟨cs, hc, _⟩ := hv
    exact ⟨cs, hc⟩
   ·rename_i n e hu
    rw [hu] at hv
    obtain ⟨cs, hc, _⟩ := hv
    exact ⟨cs, hc⟩
   ·cases hat
  obtain ⟨cs, rfl⟩ := this
  refine RV.JJ ha h.wf ⟨cs, rfl, ?_, fun j q u hq hu => RO.BX (h.rel j q u hq ?_)⟩
  ·have := h.len
   simp only [Value.cells, Array.length_toList] at this
   rw [this, h.size]
  ·simpa [Value.cells] using hu
 | false =>
  have hl : Pe.leaf p = true := by rw [Pe.leaf_agg, ha]; rfl
  have hone : v.cells = #[v] := by
   have hnagg : ∀ cs, v ≠ .agg cs := by
    rintro cs rfl
    have hat : Cj P t = false := by rw [← h.agg]; exact ha
    unfold Value.okWide at hv
    unfold Cj at hat
    split at hv
    ·rename_i fs hu; rw [hu] at hat; cases hat
    ·rename_i n e hu; rw [hu] at hat; cases hat
    ·unfold Cell.okWide at hv
     split at hv <;> simp_all [Cell.ok]
   cases v <;> first | rfl | exact absurd rfl (hnagg _)
  refine RV.AC hl hnt h.wf (RO.BX (h.rel 0 p v (by rw [Fz hl]; rfl) (by rw [hone]; rfl)))
theorem WJ {W : World} {base : Nat} : ∀ {ts : List TypeId} {vs : List Value} {ds : List (DataW H)} {ps : List MemPlace}, (∀ t ∈ ts, okT P 9 t = true) → (∀ (j : Nat) t v, ts[j]? = some t → vs[j]? = some v → Value.okWide P W .any base t v) →
  DataW.TrodAll enc P W 0 (fun _ => true) true ts vs ds ps → ∃ qs, Ins P ts qs ∧ qs.length = vs.length ∧ ∀ (j : Nat) (p : PV) (v : Value), qs[j]? = some p → vs[j]? = some v → RV W (fun b _ => b < W.heap.size) (fun _ => none) v p
 | [], [], [], _, _, _, _ => ⟨[], ⟨rfl, by simp [WFL], rfl⟩, rfl, fun j p v hp => by simp at hp⟩
 | t :: ts, v :: vs, d :: ds, ps, ht, hv, h => by
  obtain ⟨p, q, ⟨fuel, h1⟩, h2, rfl⟩ := h
  obtain ⟨x, hx⟩ := FP 9 t fuel _ _ (ht t (by simp)) h1
  obtain ⟨qs, g1, g2, g3⟩ := WJ (fun t' h' => ht t' (by simp [h'])) (fun j t' v' hj hj' => hv (j + 1) t' v' (by simpa using hj) (by simpa using hj')) h2
  refine ⟨x :: qs, ⟨by simp only [List.map_cons, DV, Bool.and_eq_true]; exact ⟨hx.conf, g1.conf⟩, by simp only [WFL]; exact ⟨hx.wf, g1.wf⟩, by simp only [Cc, Bool.and_eq_true]; exact ⟨hx.untup, g1.untup⟩⟩, by simp [g2], fun j p' v' hp hv' => ?_⟩
  cases j with
  | zero =>
   simp at hp hv'
   subst hp; subst hv'
   exact Wz (hv 0 t v rfl rfl) hx
  | succ j => simp at hp hv'; exact g3 j p' v' hp hv'
 | [], _ :: _, _, _, _, _, h => by simp [DataW.TrodAll] at h
 | [], [], _ :: _, _, _, _, h => by simp [DataW.TrodAll] at h
 | _ :: _, [], _, _, _, _, h => by simp [DataW.TrodAll] at h
 | _ :: _, _ :: _, [], _, _, _, h => by simp [DataW.TrodAll] at h
theorem Q7 {w w' : World} {M : T2} (hM : ∀ b o, ¬ M b o) (h : FR M w w') : Below w.heap.size w w' := by
 refine ⟨h.os, h.tape, h.output, h.size, fun k hk => ?_⟩
 rcases h.block k hk with e | ⟨_, _, _, _, _, _, m3⟩ | ⟨cs, cs', t, fz, e1, e2, e3, e4⟩
 ·exact e.symm
 ·exact absurd m3 (hM k 0)
 ·rw [e1, e2]
  have : cs' = cs := by
   apply Array.ext_getElem?
   intro i
   exact e4 i (hM k i)
  rw [this]
end
end Go.Pe
namespace Go.Pe
open Go.ChangeShapes Go.WideShapes Go.ChangeAt Go.RowKit
section
variable {H : Type} {enc : TypeId × Value → H} {P : Program}
theorem PZ {α β : Type} {g : α → Option β} : ∀ {l : List α} {xs : List β}, l.mapM g = some xs → ∀ (i : Nat) (a : α), l[i]? = some a → ∃ y, xs[i]? = some y ∧ g a = some y
 | [], _, _, i, a, hi => by simp at hi
 | b :: l, xs, h, i, a, hi => by
  rw [List.mapM_cons] at h
  simp only [Option.bind_eq_bind, Option.bind_eq_some_iff] at h
  obtain ⟨y, hy, ys, hys, hx⟩ := h
  obtain rfl := Option.some.inj hx
  cases i with
  | zero => simp at hi; subst hi; exact ⟨y, rfl, hy⟩
  | succ i => exact PZ hys i a (by simpa using hi)
theorem Ql {w : World} : ∀ {l : List (String × DataW Unit)} {ps : List MemPlace}, DataW.LaidVars P w l ps → ∀ x ∈ l, ∃ g t cs fuel p, P.globalNamed x.1 = some g ∧ (P.globals[g]?).map (·.type) = some t ∧ w.var? P x.1 = some cs ∧ DataW.trod (fun _ => ()) P w 0 (fun _ => true) false fuel t cs.toList = some (x.2, p)
 | [], _, _, x, hx => by cases hx
 | (n, d) :: l, ps, h, x, hx => by
  simp only [DataW.LaidVars] at h
  obtain ⟨g, t, cs, fuel, p, q, h1, h2, h3, h4, h5, _⟩ := h
  rcases List.mem_cons.1 hx with rfl | hx
  ·exact ⟨g, t, cs, fuel, p, h1, h2, h3, h4⟩
  ·exact Ql h5 x hx
theorem trod_int {w : World} {base fuel : Nat} {sp : Nat → Bool} {held : Bool} {t : TypeId} {k k' : IntKind} {n : Int} {cs : List Value} {p : List MemPlace} (hu : P.underlying t = some (.int k))
  (h : DataW.trod enc P w base sp held fuel t cs = some (.lit (.int k' n), p)) : cs = [.int k n] := by
 cases fuel with
 | zero => simp [DataW.trod] at h
 | succ fuel =>
  simp only [DataW.trod, hu] at h
  split at h <;> simp_all
theorem glob_ints {W : World} {laid : List (String × DataW Unit)} (h : laidMet P laid W) {name : String} {g t e m : Nat} {k : IntKind} {ls : List Int} (hin : (name, .agg (ls.map fun v => .lit (.int k v))) ∈ laid)
  (hg : P.globalNamed name = some g) (ht : (P.globals[g]?).map (·.type) = some t) (hu : P.underlying t = some (.array m e)) (he : P.underlying e = some (.int k)) (hce : P.cellsOf e = 1) (hct : P.cellsOf t = m) (hm : ls.length = m) :
  RC W (fun b _ => b < W.heap.size) (.pointer (some ⟨g, 0, none⟩)) (.cptr (.iarr k m ls) []) := by
 obtain ⟨ps, hL, _, _⟩ := h
 obtain ⟨g', t', cs, fuel, p, h1, h2, h3, h4⟩ := Ql hL _ hin
 obtain rfl := Option.some.inj (hg.symm.trans h1)
 obtain rfl := Option.some.inj (ht.symm.trans h2)
 have hcell : ∀ (i : Nat) (v : Int), ls[i]? = some v → cs[i]? = some (Value.int k v) := by
  intro i v hv
  cases fuel with
  | zero => simp [DataW.trod] at h4
  | succ fuel =>
   simp only [DataW.trod, hu] at h4
   split at h4
   ·rename_i hl
    simp only [Option.map_eq_some_iff] at h4
    obtain ⟨xs, hxs, hd⟩ := h4
    simp only [Prod.mk.injEq, DataW.agg.injEq] at hd
    have hi : i < ls.length := by
     rw [List.getElem?_eq_some_iff] at hv
     exact hv.1
    obtain ⟨y, hy1, hy2⟩ := PZ hxs i i (by rw [List.getElem?_range (by omega)])
    have hy : (xs.map (·.1))[i]? = some y.1 := by rw [List.getElem?_map, hy1]; rfl
    rw [hd.1, List.getElem?_map, hv] at hy
    obtain ⟨y1, y2⟩ := y
    simp only [Option.map_some, Option.some.injEq] at hy
    subst hy
    have := trod_int he hy2
    rw [hce, Nat.mul_one] at this
    have e : cs.toList[i]? = some (Value.int k v) := by
     have e0 := congrArg (fun l => l[0]?) this
     simpa using e0
    simpa using e
   ·cases h4
 have hcw : ∀ (i : Nat) (v : Int), ls[i]? = some v → W.cell? ⟨g, i, none⟩ = some (Value.int k v) := fun i v hv => by rw [World.var?_cell hg h3, hcell i v hv]
 refine RC.cptr g 0 _ [] (fun j => Value.int k (ls.getD j 0)) ?_ ?_
 ·intro j q hq
  simp only [flat, List.getElem?_map, Option.map_eq_some_iff] at hq
  obtain ⟨v, hv, rfl⟩ := hq
  have hc := hcw j v hv
  rw [Nat.zero_add]
  refine ⟨?_, by rw [hc, List.getD_eq_getElem?_getD, hv]; rfl⟩
  rcases Nat.lt_or_ge g W.heap.size with h | h
  ·exact h
  ·simp [World.cell?, Array.getElem?_eq_none h] at hc
 ·intro j q hq
  simp only [flat, List.getElem?_map, Option.map_eq_some_iff] at hq
  obtain ⟨v, hv, rfl⟩ := hq
  rw [List.getD_eq_getElem?_getD, hv]
  exact .int k v
theorem wants_of {ps : Array TypeId} (h : ps.toList.all (fun t => !P.wantsStandIn t) = true) (j : Nat) (t : TypeId) (ht : ps[j]? = some t) : P.wantsStandIn t = false := by
 have := List.all_eq_true.1 h t (by rw [← Array.getElem?_toList] at ht; exact List.mem_of_getElem? ht)
 simpa using this
noncomputable def laidW (P : Program) (os : Os) (g : Nat) (cs : Array Value) : World :=
 let w0 := World.holding P os ⟨#[], #[], []⟩
 { w0 with heap := w0.heap.modify g fun
   | .cells _ t frozen => .cells cs t frozen
   | o => o }
theorem law_callsG {G : Nat → Option PV} {f : FuncId} {fn : Func} {s : ChangeSpec} {apart fresh handsOn again : Bool} {tb : TypeId} (hl : laidOutB P = true) (hvars : s.vars = []) (hr : fn.resultTypes = #[tb]) (hb : P.underlying tb = some .bool)
  (hbody : PE P f) (hspec : ∀ ds : List (DataW H), ds.length = fn.params.toList.length → s.fn H ds = { results := [.lit (.bool true)], args := ds })
  (ht : fn.params.toList.all (fun t => okT P 9 t && P.readableRec t && Nat.blt t P.types.size) = true)
  (hpc : ∀ ps, Ins P fn.params.toList ps → PC P G f [] ps [] (.bool true))
  {W : World} (hG : ∀ g c, G g = some c → WF c ∧ noref c = true ∧ RC W (fun b _ => b < W.heap.size) (.pointer (some ⟨g, 0, none⟩)) (.cptr c []))
  {base : Nat} {args : Array Value} {ds gs : List (DataW H)} {before : List MemPlace}
  (hval : ∀ (j : Nat) t v, fn.params[j]? = some t → args[j]? = some v → Value.okWide P W .any base t v)
  (hW : DataW.Whole enc P fn.params.toList s.vars apart W args.toList ds gs before) :
  Calls P f args W fun e W' => ∃ v, e = .returned v ∧ s.post enc P fn apart fresh handsOn again W args v W' := by
 have ht' : ∀ t ∈ fn.params.toList, okT P 9 t = true ∧ P.readableRec t = true ∧ t < P.types.size := by
  intro t h
  have := List.all_eq_true.1 ht t h
  simp only [Bool.and_eq_true] at this
  exact ⟨this.1.1, this.1.2, Nat.blt_eq ▸ this.2⟩
 have hW' := hW
 obtain ⟨p, q, hA, hV, rfl, hz, hn⟩ := hW
 rw [hvars] at hV
 obtain ⟨rfl, rfl⟩ := trodVars_none hV
 obtain ⟨l1, l2⟩ := trodAll_length hA
 obtain ⟨qs, g1, g2, g3⟩ := WJ (base := base) (fun t h => (ht' t h).1) (fun j t v h1 h2 => hval j t v (by rw [← Array.getElem?_toList]; exact h1) (by rw [← Array.getElem?_toList]; exact h2)) hA
 have hM : ∀ b o, ¬ Mut (fun _ => none) (Ad ([] : List (Nat × Row))) b o := by
  rintro b o ⟨i, r, pl, h1, _⟩
  simp [Ad] at h1
 have hc := hpc qs g1
 refine Calls.mono (Enters.calls hbody (hc (fun b _ => b < W.heap.size) (fun _ => none) W args (fun b o _ => hM b o) ⟨fun i r hi => by simp [Ad] at hi, fun i i' r r' pl pl' _ h1 => by simp [Ad] at h1⟩ (fun _ _ => rfl) hG
  (by rw [g2]; simp) (fun j p v hp hv _ => g3 j p v hp (by rw [Array.getElem?_toList]; exact hv)))) fun e W' he => ?_
 obtain ⟨v, ρ', rfl, r1, _, _, r4, _⟩ := he
 have hvb : v = .bool true := by
  have := r1.Bd rfl (fun _ e => by cases e)
  simp only [RO] at this
  cases this
  rfl
 subst hvb
 have hbel := Q7 hM r4
 have hsp := hspec ds l2
 refine ⟨_, rfl, Rp (pa := p) (pv := []) hW' ?_ ?_ ?_ (by simp) hbel ?_⟩
 ·intro b sp hd
  rw [List.append_nil, hsp, hr]
  exact trodAll_mk1 (shut_bool hb true)
 ·intro sp hs
  rw [List.append_nil, hsp]
  exact H9 hl hbel (fun t h => (ht' t h).2) hA (fun x hx => hs x (by simp [hx]))
 ·intro sp hs
  rw [List.append_nil, hsp, hvars]
  rfl
 ·rw [hr]
  exact ok_one (f := { fn with resultTypes := #[tb] }) rfl rfl (okWide_bool_mk hb true)
end
end Go.Pe
