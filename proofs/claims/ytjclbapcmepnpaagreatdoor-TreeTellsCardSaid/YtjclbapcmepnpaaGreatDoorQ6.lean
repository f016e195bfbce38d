/- Merged texts: the pure machine and what the walks show. Conditions: as each statement says. -/
import Derived.Carry
import Derived.ChangeArms
import Derived.ChangeSame
import Derived.ChangeCalls
import Derived.JoinedOf
import Derived.Handed
import Derived.OpenShut
import Derived.RowKit
import Derived.ProofKit
import Derived.LaidLaws
import Derived.LaidHandle
import Derived.FnData
import GoSem.ClaimSeven
import Derived.Test.YtjclbapcmepnpaaGreatDoorQ5
namespace Go.Proofs
open Go Go.Pe Go.Pm
set_option linter.unusedVariables false
theorem RF {a b : Int} (h : a ≤ b) : held a ≤ held b := by
 unfold held mn mx
 split <;> split <;> (try split) <;> (try split) <;> omega
theorem SB {p : Prm} {l : List Hd} {h : Hd} {a b : Int} (hab : a ≤ b) (hj : jud p l h a = 0) : jud p l h b = 0 := by
 have hm := RF hab
 unfold jud at *
 split at hj
 ·cases hj
 ·rename_i g1
  rw [if_neg g1]
  split at hj
  ·cases hj
  ·rename_i g2
   rw [if_neg g2]
   split at hj
   ·cases hj
   ·rename_i g3
    rw [if_neg g3]
    split at hj
    ·cases hj
    ·rename_i g4
     rw [if_neg g4]
     split at hj
     ·cases hj
     ·rw [if_neg (by omega)]
theorem Q6 : ∀ {a b : List Hd} {s : Nat}, (tot s a).2 = 0 → tot s (a ++ b) = tot (tot s a).1 b
 | [], b, s, _ => rfl
 | x :: a, b, s, h => by
  have e1 : ∀ c, tot s (x :: c) = if tgt x.bits = 0 then (0, 5) else if Aa ≤ s + work (tgt x.bits) then (0, 14) else tot (s + work (tgt x.bits)) c := fun _ => rfl
  rw [List.cons_append, e1, e1]
  rw [e1] at h
  by_cases g : tgt x.bits = 0
  ·rw [if_pos g] at h; cases h
  ·rw [if_neg g] at h
   rw [if_neg g, if_neg g]
   by_cases g2 : Aa ≤ s + work (tgt x.bits)
   ·rw [if_pos g2] at h; cases h
   ·rw [if_neg g2] at h
    rw [if_neg g2, if_neg g2]
    exact Q6 h
structure TV (p : Prm) (N : List Nd) (now : Int) : Prop where
 sum : ∀ i, i < N.length → tot p.sum ((Bl N (N.getD i default).path).drop 1) = ((N.getD i default).w, 0)
 jd : ∀ i, i < N.length → ∀ j, 1 ≤ j → j < (N.getD i default).path.length → jud p ((Bl N (N.getD i default).path).take j) ((Bl N (N.getD i default).path).getD j default) now = 0
 own : ∀ i, i < N.length → fnd (hsN N) (Aq (N.getD i default).h) = i
 root : ∀ i, i < N.length → (N.getD i default).path.getD 0 0 = 0
theorem JN {N : List Nd} (x : Nd) {l : List Nat} (h : ∀ k ∈ l, k < N.length) : Bl (N ++ [x]) l = Bl N l := by
 unfold Bl
 refine List.map_congr_left fun k hk => ?_
 rw [AY _ _ _ _ (h k hk)]
theorem TW.Pj {p : Prm} {N : List Nd} (hT : TW p N) {i : Nat} (hi : i < N.length) : ∀ k ∈ (N.getD i default).path, k < N.length := by
 intro k hk
 obtain ⟨j, hj, rfl⟩ := List.getElem_of_mem hk
 have := (hT.pcl i hi j hj).1
 rwa [List.getD_eq_getElem?_getD, List.getElem?_eq_getElem hj] at this
theorem Oq (N : List Nd) (l : List Nat) : (Bl N l).length = l.length := by simp [Bl]
theorem TV.new (p : Prm) (now : Int) : TV p [⟨p.gen, [0], p.sum⟩] now := by
 refine ⟨fun i hi => ?_, fun i hi j h1 hj => ?_, fun i hi => ?_, fun i hi => ?_⟩ <;> (obtain rfl : i = 0 := by simpa using hi)
 ·rfl
 ·have : j < 1 := hj
  omega
 ·simp [hsN, fnd]
 ·rfl
theorem TV.snoc {p : Prm} {N : List Nd} {now a : Int} (hT : TW p N) (h : TV p N now) {o : Nat} {x : Hd} (ho : o < N.length) (hx : ¬ fnd (hsN N) (Aq x) < N.length) (hj : jud p (Bl N (N.getD o default).path) x a = 0) (ha : a ≤ now) (ht : tgt x.bits ≠ 0) (hw : ¬ Aa ≤ (N.getD o default).w + work (tgt x.bits)) :
  TV p (N ++ [⟨x, (N.getD o default).path ++ [N.length], (N.getD o default).w + work (tgt x.bits)⟩]) now := by
 have hcase : ∀ i, i < N.length + 1 → i < N.length ∨ i = N.length := fun i hi => by omega
 have hl : (N ++ [(⟨x, (N.getD o default).path ++ [N.length], (N.getD o default).w + work (tgt x.bits)⟩ : Nd)]).length = N.length + 1 := by simp
 have hpo := hT.plen o ho
 have e2 : Bl (N ++ [(⟨x, (N.getD o default).path ++ [N.length], (N.getD o default).w + work (tgt x.bits)⟩ : Nd)]) ((N.getD o default).path ++ [N.length]) = Bl N (N.getD o default).path ++ [x] := by
  have e := JN (⟨x, (N.getD o default).path ++ [N.length], (N.getD o default).w + work (tgt x.bits)⟩ : Nd) (hT.Pj ho)
  unfold Bl at e ⊢
  rw [List.map_append, e, List.map_singleton, BF]
 have hll := Oq N (N.getD o default).path
 refine ⟨fun i hi => ?_, fun i hi j h1 hjl => ?_, fun i hi => ?_, fun i hi => ?_⟩ <;> rw [hl] at hi <;> rcases hcase i hi with hlt | rfl
 ·rw [AY _ _ _ _ hlt, JN _ (hT.Pj hlt)]
  exact h.sum i hlt
 ·rw [BF]
  dsimp only
  rw [e2, List.drop_append_of_le_length (by omega), Q6 (by rw [h.sum o ho]), h.sum o ho]
  dsimp only
  rw [tot, if_neg ht, if_neg hw]
  rfl
 ·rw [AY _ _ _ _ hlt] at hjl ⊢
  rw [JN _ (hT.Pj hlt)]
  exact h.jd i hlt j h1 hjl
 ·rw [BF] at hjl ⊢
  dsimp only at hjl ⊢
  rw [e2]
  rw [List.length_append, List.length_singleton] at hjl
  rcases Nat.lt_or_ge j (N.getD o default).path.length with hk | hk
  ·rw [List.take_append_of_le_length (by omega), AY _ _ _ _ (by omega)]
   exact h.jd o ho j h1 hk
  ·obtain rfl : j = (Bl N (N.getD o default).path).length := by omega
   rw [BF, List.take_left]
   exact SB ha hj
 ·rw [AY _ _ _ _ hlt]
  have e := h.own i hlt
  have hsl : (hsN N).length = N.length := by simp [hsN]
  unfold hsN at e hsl ⊢
  rw [List.map_append, Um, e, hsl, if_pos hlt]
 ·rw [BF]
  have hsl : (hsN N).length = N.length := by simp [hsN]
  unfold hsN at hx hsl ⊢
  rw [List.map_append, Um, hsl, if_neg hx]
  simp [fnd]
 ·rw [AY _ _ _ _ hlt]
  exact h.root i hlt
 ·rw [BF]
  dsimp only
  rw [AY _ _ _ _ hpo.1]
  exact h.root o ho
theorem TV.add {p : Prm} {N : List Nd} {now a : Int} (hT : TW p N) (h : TV p N now) {x : Hd} (ha : a ≤ now) : TV p (H8 p N x a).1 now := by
 unfold H8
 split
 ·exact h
 rename_i g1
 split
 ·exact h
 split
 ·exact h
 rename_i g3
 split
 ·exact h
 rename_i g4
 split
 ·exact h
 rename_i g5
 exact h.snoc hT (by omega) g1 (Classical.not_not.1 g4) ha (NR (Classical.not_not.1 g4)) g5
end Go.Proofs
namespace Go.Proofs
open Go Go.Pe Go.Pm
set_option maxRecDepth 100000
set_option linter.unusedVariables false
attribute [local irreducible] Aq lv EW
def zRT : PV := .st 75 [.st 74 [.int .u32 0, .int .i64 0, .int .i64 0, .int .i64 0, .int .i64 0, .st 68 [.int .u32 0, .iarr .u8 32 z32, .iarr .u8 32 z32, .int .u32 0, .int .u32 0, .int .u32 0], .vec true (.iarr .i64 0 [])], .vec true (.parr 102 0 Nv [])]
def dMd (p : Prm) (n : Nat) (L H : List PV) (V : List Int) (m : Nat) (B : List Int) (R : List PV) (nl : Bool) (k : Nat) (I : List PV) (i : Nat) : DS := ⟨[(3, .at 6 []), (5, .at 1 []), (7, .at 5 []), (30, .vec nl (.parr 69 k Pv I)), (31, .int .i64 k), (32, .int .i64 i)], trR p n L H V m B ++ [(5, ⟨.st 75 [p.rpv, .vec false (.parr 102 n Nv R)], false⟩), (6, ⟨zRT, false⟩)]⟩
theorem W_mdA {p : Prm} {n : Nat} {L H : Lpz} {V : Liz} {m : Nat} {B : Liz} {R : Lpz} {nl : Bool} {k : Nat} {I : Lpz} {i : Nat} {n' : Nat} {L' H' : Lpz} {V' : Liz} {m' : Nat} {B' : Liz} {R' : Lpz} {h : Hd} {now e : Int} {hout : Lrz} {res : PV} (hi : i < k) (hk : k ≤ 24) (g : I.getD i .undef = .st 69 [.st 68 [.int .u32 h.ver, .iarr .u8 32 h.prev, .iarr .u8 32 h.root, .int .u32 h.time, .int .u32 h.bits, .int .u32 h.nonce], .int .i64 now])
  (cA : Pt 16 (trR p n L H V m B) [.at 1 [], h.pv, .int .i64 now] (trX 2 4 p n' L' H' V' m' B') (.int .i64 e)) (cR : Pt 14 [] [rT p n R, h.pv, .int .i64 now] [] (.tup [rT p n' R', .int .i64 e]))
  (hw : Wt Tryz.f22 [] hout res (Ae Tryz.f22 0) (dMd p n' L' H' V' m' B' R' nl k I (i + 1))) : Wt Tryz.f22 [] hout res (Ae Tryz.f22 0) (dMd p n L H V m B R nl k I i) := by
 have cL := Hr h
 unfold trR trX at cA
 unfold rT at cR
 refine W.sgA 0 [(0, aT), (2, aE g), (8, c9 cL), (11, c0 cR), (25, cC true [(1, 1), (2, 2), (3, 3), (4, 4)] cA), (27, aF), (28, aV (I6 ↑(i + 1)))] [(6, 6), (1, 1), (5, 5), (2, 2), (3, 3), (4, 4)] (dMd p n' L' H' V' m' B' R' nl k I (i + 1)) [decide ((i:Int) < (k:Int)) = true, 0 ≤ (i:Int), (i:Int) < (k:Int), _, i < k, _, _, _, (e != e) = false, I6 (IntKind.wrap .i64 ((i:Int) + 1)) = I6 ↑(i + 1)] (ac (dT (by omega)) (ob2 (by omega) (ac (ex g) (ac (by omega) (ac (cL) (ac (cR) (ac (cA) (ac (bne_eq_false_iff_eq.2 (by omega)) (ao (wj (by omega))))))))))) ?_
 exact hw
theorem W_mdB {p : Prm} {n : Nat} {L H : Lpz} {V : Liz} {m : Nat} {B : Liz} {R : Lpz} {nl : Bool} {k : Nat} {I : Lpz} {i : Nat} {n' : Nat} {L' H' : Lpz} {V' : Liz} {m' : Nat} {B' : Liz} {R' : Lpz} {h : Hd} {now e : Int} {hout : Lrz} {res : PV} (hi : i < k) (hk : k ≤ 24) (g : I.getD i .undef = .st 69 [.st 68 [.int .u32 h.ver, .iarr .u8 32 h.prev, .iarr .u8 32 h.root, .int .u32 h.time, .int .u32 h.bits, .int .u32 h.nonce], .int .i64 now])
  (cA : Pt 16 (trR p n L H V m B) [.at 1 [], h.pv, .int .i64 now] (trX 6 4 p n' L' H' V' m' B') (.int .i64 e)) (cR : Pt 14 [] [rT p n R, h.pv, .int .i64 now] [] (.tup [rT p n' R', .int .i64 e]))
  (hw : Wt Tryz.f22 [] hout res (Ae Tryz.f22 0) (dMd p n' L' H' V' m' B' R' nl k I (i + 1))) : Wt Tryz.f22 [] hout res (Ae Tryz.f22 0) (dMd p n L H V m B R nl k I i) := by
 have cL := Hr h
 unfold trR trX at cA
 unfold rT at cR
 refine W.sgA 0 [(0, aT), (2, aE g), (8, c9 cL), (11, c0 cR), (25, cC true [(1, 1), (2, 2), (3, 3), (4, 4)] cA), (27, aF), (28, aV (I6 ↑(i + 1)))] [(6, 6), (1, 1), (5, 5), (470, 2), (3, 3), (4, 4)] (dMd p n' L' H' V' m' B' R' nl k I (i + 1)) [decide ((i:Int) < (k:Int)) = true, 0 ≤ (i:Int), (i:Int) < (k:Int), _, i < k, _, _, _, (e != e) = false, I6 (IntKind.wrap .i64 ((i:Int) + 1)) = I6 ↑(i + 1)] (ac (dT (by omega)) (ob2 (by omega) (ac (ex g) (ac (by omega) (ac (cL) (ac (cR) (ac (cA) (ac (bne_eq_false_iff_eq.2 (by omega)) (ao (wj (by omega))))))))))) ?_
 exact hw
theorem W_mdC {p : Prm} {n : Nat} {L H : Lpz} {V : Liz} {m : Nat} {B : Liz} {R : Lpz} {nl : Bool} {k : Nat} {I : Lpz} {i : Nat} {n' : Nat} {L' H' : Lpz} {V' : Liz} {m' : Nat} {B' : Liz} {R' : Lpz} {h : Hd} {now e : Int} {hout : Lrz} {res : PV} (hi : i < k) (hk : k ≤ 24) (g : I.getD i .undef = .st 69 [.st 68 [.int .u32 h.ver, .iarr .u8 32 h.prev, .iarr .u8 32 h.root, .int .u32 h.time, .int .u32 h.bits, .int .u32 h.nonce], .int .i64 now])
  (cA : Pt 16 (trR p n L H V m B) [.at 1 [], h.pv, .int .i64 now] (trX 6 5 p n' L' H' V' m' B') (.int .i64 e)) (cR : Pt 14 [] [rT p n R, h.pv, .int .i64 now] [] (.tup [rT p n' R', .int .i64 e]))
  (hw : Wt Tryz.f22 [] hout res (Ae Tryz.f22 0) (dMd p n' L' H' V' m' B' R' nl k I (i + 1))) : Wt Tryz.f22 [] hout res (Ae Tryz.f22 0) (dMd p n L H V m B R nl k I i) := by
 have cL := Hr h
 unfold trR trX at cA
 unfold rT at cR
 refine W.sgA 0 [(0, aT), (2, aE g), (8, c9 cL), (11, c0 cR), (25, cC true [(1, 1), (2, 2), (3, 3), (4, 4)] cA), (27, aF), (28, aV (I6 ↑(i + 1)))] [(6, 6), (1, 1), (5, 5), (470, 2), (3, 3), (469, 4)] (dMd p n' L' H' V' m' B' R' nl k I (i + 1)) [decide ((i:Int) < (k:Int)) = true, 0 ≤ (i:Int), (i:Int) < (k:Int), _, i < k, _, _, _, (e != e) = false, I6 (IntKind.wrap .i64 ((i:Int) + 1)) = I6 ↑(i + 1)] (ac (dT (by omega)) (ob2 (by omega) (ac (ex g) (ac (by omega) (ac (cL) (ac (cR) (ac (cA) (ac (bne_eq_false_iff_eq.2 (by omega)) (ao (wj (by omega))))))))))) ?_
 exact hw
theorem W_mdEnd {p : Prm} {n : Nat} {L H : Lpz} {V : Liz} {m : Nat} {B : Liz} {R : Lpz} {nl : Bool} {k : Nat} {I : Lpz} : Wt Tryz.f22 [] (trR p n L H V m B) (.tup [.at 1 [], rT p n R, .bool true]) (Ae Tryz.f22 0) (dMd p n L H V m B R nl k I k) := by
 unfold trR rT
 refine W.rtA [(0, aF)] (rI 4) [decide ((k:Int) < (k:Int)) = false] (ao (dF (by omega)))
theorem W_mdIn {p : Prm} {nl : Bool} {k : Nat} {I : Lpz} {L H : Lpz} {R : Lpz} {hout : Lrz} {res : PV} (hk : k ≤ 24) (c1 : Pt 11 [] [p.pv] (trR p 1 L H [0] 1 [0]) (.tup [.at 1 [], .int .i64 ((0 : Nat) : Int)]))
  (c2 : Pt 13 [] [p.pv] [] p.rpv) (c3 : Pt 12 [] [p.rpv] [] (rT p 1 R)) (hw : Wt Tryz.f22 [] hout res (Ae Tryz.f22 0) (dMd p 1 L H [0] 1 [0] R nl k I 0)) :
  Pt 22 [] [Gi p nl k I] hout res := by
 refine pO Tryz.func22 (by kernel_rfl) ?_
 unfold Gi rT trR at *
 refine W.sgA 0 [(6, c9 c1), (9, aV (I6 0)), (20, c0 c2), (21, c0 c3)] [(96, 6), (161, 1), (416, 5), (162, 2), (163, 3), (164, 4)] (dMd p 1 L H [0] 1 [0] R nl k I 0) [_, I6 ↑(0 : Nat) = I6 0, _, _] (ac (c1) (ac (cg (by omega)) (ac (c2) (ao (c3))))) ?_
 exact hw
def FH (p : Prm) : List Nd → List (Hd × Int) → List Nd
 | N, [] => N
 | N, x :: l => FH p (H8 p N x.1 x.2).1 l
def dMdN (p : Prm) (N : List Nd) (nl : Bool) (I : List (Hd × Int)) (i : Nat) : DS := dMd p N.length (N.map Di) (Ia N) (IM N.length) (Bq N).length (ints (Bq N)) (N.map Da) nl I.length (I.map Nz) i
theorem XN {p : Prm} (hp : p.Ok) (hm : p.May) {nl : Bool} {I : List (Hd × Int)} (hI : I.length ≤ 24) (ho : ∀ x ∈ I, x.1.Ok) : ∀ (r i : Nat) (N : List Nd), i + r = I.length → TW p N → N.length ≤ i + 1 →
  Wt Tryz.f22 [] (Jh p (FH p N (I.drop i))) (.tup [.at 1 [], MH p (FH p N (I.drop i)), .bool true]) (Ae Tryz.f22 0) (dMdN p N nl I i)
 | 0, i, N, hk, hT, hN => by
  obtain rfl : i = I.length := by omega
  rw [List.drop_of_length_le (Nat.le_refl _)]
  exact W_mdEnd
 | r + 1, i, N, hk, hT, hN => by
  have hi : i < I.length := by omega
  have g := Wo hi
  have hh := it_ok ho hi
  obtain ⟨hA, hR⟩ := X4 hp hm hT (by omega) hh (now := (I.getD i default).2)
  have hT' := hT.add hh (I.getD i default).2
  have hl' := KL p N (I.getD i default).1 (I.getD i default).2
  have ih := XN hp hm (nl := nl) hI ho r (i + 1) _ (by omega) hT' (by omega)
  have e : I.drop i = I.getD i default :: I.drop (i + 1) := by rw [List.drop_eq_getElem_cons hi]; simp [List.getD_eq_getElem?_getD, hi]
  rw [e, FH]
  rcases hA with ⟨e1, hA⟩ | ⟨e1, hA⟩ | ⟨e1, hA⟩
  ·rw [e1] at hR ih ⊢
   exact W_mdA hi hI g hA hR ih
  ·rw [e1] at hR
   exact W_mdB hi hI g hA hR ih
  ·rw [e1] at hR
   exact W_mdC hi hI g hA hR ih
def NY (p : Prm) (I : List (Hd × Int)) : List Nd := FH p [⟨p.gen, [0], p.sum⟩] I
theorem pc_made {p : Prm} (hp : p.Ok) (hm : p.May) {nl : Bool} {I : List (Hd × Int)} (hI : I.length ≤ 24) (ho : ∀ x ∈ I, x.1.Ok) : Pt 22 [] [Gi p nl I.length (I.map Nz)] (Jh p (NY p I)) (.tup [.at 1 [], MH p (NY p I), .bool true]) := by
 have hT : TW p [⟨p.gen, [0], p.sum⟩] := TW.new hp.gen hp.sum
 have hw := XN hp hm (nl := nl) hI ho I.length 0 _ (by omega) hT (by simp)
 have c1 := KO (OH hp hm) (DI hp.gen)
 have c3 := Qc (p := p) (x := Aq p.gen) (TR hp.gen)
 rw [List.drop_zero] at hw
 refine W_mdIn hI c1 (Px hp.sum) c3 ?_
 have e : dMdN p [⟨p.gen, [0], p.sum⟩] nl I 0 = dMd p 1 [ndV p.gen (Aq p.gen) (-1) 0 (uw p.sum)] [.iarr .u8 32 (Aq p.gen)] [0] 1 [0] [rnV p.gen (Aq p.gen) (-1) (nd p.sum) (dg p.sum)] nl I.length (I.map Nz) 0 := by
  unfold dMdN Bq
  rw [VW]
  rfl
 rw [← e]
 exact hw
theorem NV {p : Prm} : ∀ {I : List (Hd × Int)} {N : List Nd}, TW p N → (∀ x ∈ I, x.1.Ok) → TW p (FH p N I) ∧ (FH p N I).length ≤ N.length + I.length
 | [], N, h, _ => ⟨h, by rw [FH]; simp⟩
 | x :: l, N, h, ho => by
  have h1 := NV (I := l) (h.add (ho x (by simp)) x.2) (fun y hy => ho y (List.mem_cons_of_mem _ hy))
  have h2 := KL p N x.1 x.2
  rw [FH, List.length_cons]
  exact ⟨h1.1, by omega⟩
theorem Xb {p : Prm} (hp : p.Ok) {I : List (Hd × Int)} (ho : ∀ x ∈ I, x.1.Ok) : TW p (NY p I) ∧ (NY p I).length ≤ I.length + 1 := by
 have h := NV (TW.new hp.gen hp.sum) ho
 rw [List.length_singleton] at h
 unfold NY
 exact ⟨h.1, by omega⟩
end Go.Proofs
namespace Go.Proofs
open Go Go.Pe Go.Pm
set_option maxRecDepth 100000
set_option linter.unusedVariables false
attribute [local irreducible] Aq lv EW
theorem W_ndNo {p : Prm} {n : Nat} {L H : Lpz} {V : Liz} {m : Nat} {B : Liz} {R : Lpz} {y : Liz} (hy : y.length = 32) (hm : Bi H (.iarr .u8 32 y) = false) (c1 : Pt 37 [] [rT p n R, .iarr .u8 32 y] [] (.int .i64 (-1))) :
  Pt 23 (trR p n L H V m B) [.at 1 [], rT p n R, .iarr .u8 32 y] (trR p n L H V m B) (.bool true) := by
 refine pO Tryz.func23 (by kernel_rfl) ?_
 have c2 := pc_getN (p := p) (n := n) (L := L) (V := V) (m := m) (B := B) hm
 unfold zNd at c2
 have d1 : Pt 31 (trR p n L H V m B) [.at 1 [], .iarr .u8 32 y] (trR p n L H V m B) (.tup [.int .i64 0, .int .i64 6]) := IA (h := ⟨0, z32, z32, 0, 0, 0⟩) (x := z32) (a := 0) (b := 0) (w := [0, 0, 0, 0]) (e := 6) c2
 have d2 : Pt 26 (trR p n L H V m B) [.at 1 [], .iarr .u8 32 y] (trR p n L H V m B) (.tup [.iarr .u64 4 [0, 0, 0, 0], .int .i64 6]) := Qd (h := ⟨0, z32, z32, 0, 0, 0⟩) (x := z32) (a := 0) (b := 0) (w := [0, 0, 0, 0]) (e := 6) c2
 have d3 : Pt 53 (trR p n L H V m B) [.at 1 [], .iarr .u8 32 y] (trR p n L H V m B) (.tup [.st 68 [.int .u32 0, .iarr .u8 32 z32, .iarr .u8 32 z32, .int .u32 0, .int .u32 0, .int .u32 0], .int .i64 6]) := Qv (h := ⟨0, z32, z32, 0, 0, 0⟩) (x := z32) (a := 0) (b := 0) (w := [0, 0, 0, 0]) (e := 6) c2
 have d4 := UJ (p := p) (n := n) (L := L) (V := V) (m := m) (B := B) hm
 have d5 := Tz (p := p) (n := n) (L := L) (H := H) (V := V) (m := m) (B := B) (y := y)
 have d6 := pc_onN (p := p) (n := n) (L := L) (V := V) (m := m) (B := B) hm
 rw [hm] at d5
 clear c2
 unfold z32 at d3
 unfold rT trR at *
 refine W.rtA [(5, c9 c1), (9, cC true [(1, 1), (2, 2), (3, 3), (4, 4)] d1), (17, cC true [(1, 1), (2, 2), (3, 3), (4, 4)] d2), (26, cC true [(1, 1), (2, 2), (3, 3), (4, 4)] d3), (35, cC true [(1, 1), (2, 2), (3, 3), (4, 4)] d4), (41, cC true [(1, 1), (2, 2), (3, 3), (4, 4)] d5), (46, cC true [(1, 1), (2, 2), (3, 3), (4, 4)] d6), (77, aV (I6 0))] (rI 4) [_, _, _, _, _, _, _, I6 ↑(0 : Nat) = I6 0] (ac (c1) (ac (d1) (ac (d2) (ac (d3) (ac (d4) (ac (d5) (ac (d6) (ao (cg (by omega))))))))))
def dNd (p : Prm) (n : Nat) (L H : List PV) (V : List Int) (m : Nat) (B : List Int) (R : List PV) (y : List Int) (c : Nat) (h : Hd) (w : List Int) (k : Nat) (M : List PV) (P : List Int) (b : Bool) (q : Nat) (T : List Int) (i : Nat) : DS :=
 ⟨[(0, .at 1 []), (4, .at 5 []), (5, .at 6 []), (7, .int .i64 c), (8, .int .i64 ((k : Int) - 1)), (9, .int .i64 0), (10, .at 7 []), (11, .int .i64 0), (12, .at 8 []), (13, .int .i64 0), (14, .ref 9 [] 68 0 k), (15, .ref 10 [] 1 0 k), (16, .bool b), (93, .ref 11 [] 1 0 q), (94, .int .i64 q), (95, .int .i64 i)],
  trR p n L H V m B ++ [(5, ⟨.st 75 [p.rpv, .vec false (.parr 102 n Nv R)], false⟩), (6, ⟨.iarr .u8 32 y, false⟩), (7, ⟨.iarr .u64 4 w, false⟩), (8, ⟨h.pv, false⟩), (9, ⟨.parr 68 k hsh M, false⟩), (10, ⟨.iarr .i64 k P, false⟩), (11, ⟨.iarr .i64 q T, false⟩)]⟩
theorem W_ndIn {p : Prm} {n : Nat} {L H : Lpz} {V : Liz} {m : Nat} {B : Liz} {R : Lpz} {y : Liz} {c : Nat} {h : Hd} {w : Liz} {k : Nat} {M : Lpz} {P : Liz} {q t : Nat} {T : Liz} (hy : y.length = 32) (hk : k ≤ 1000) (hk0 : 1 ≤ k) (hq : q ≤ 1000) (hn : n ≤ 1000) (hc : c < n) (c1 : Pt 37 [] [rT p n R, .iarr .u8 32 y] [] (.int .i64 c))
  (d1 : Pt 31 (trR p n L H V m B) [.at 1 [], .iarr .u8 32 y] (trR p n L H V m B) (.tup [.int .i64 ((k : Int) - 1), .int .i64 0]))
  (d2 : Pt 26 (trR p n L H V m B) [.at 1 [], .iarr .u8 32 y] (trR p n L H V m B) (.tup [.iarr .u64 4 w, .int .i64 0]))
  (d3 : Pt 53 (trR p n L H V m B) [.at 1 [], .iarr .u8 32 y] (trR p n L H V m B) (.tup [h.pv, .int .i64 0]))
  (d4 : Pt 24 (trR p n L H V m B) [.at 1 [], .iarr .u8 32 y] (trR p n L H V m B ++ [(5, ⟨.parr 68 k hsh M, false⟩)]) (.ref 5 [] 68 0 k))
  (c2 : Pt 50 [] [rT p n R, .int .i64 c] [(1, ⟨.iarr .i64 k P, false⟩)] (.ref 1 [] 1 0 k)) (c3 : Pt 49 [] [rT p n R] [] (.int .i64 t)) (c4 : Pt 50 [] [rT p n R, .int .i64 t] [(1, ⟨.iarr .i64 q T, false⟩)] (.ref 1 [] 1 0 q))
  (hw : Wt Tryz.f23 [1, 2, 3, 4] (trR p n L H V m B) (.bool true) (Ae Tryz.f23 0) (dNd p n L H V m B R y c h w k M P false q T 0)) :
  Pt 23 (trR p n L H V m B) [.at 1 [], rT p n R, .iarr .u8 32 y] (trR p n L H V m B) (.bool true) := by
 refine pO Tryz.func23 (by kernel_rfl) ?_
 unfold rT trR at *
 refine W.sgA 0 [(5, c9 c1), (9, cC true [(1, 1), (2, 2), (3, 3), (4, 4)] d1), (17, cC true [(1, 1), (2, 2), (3, 3), (4, 4)] d2), (26, cC true [(1, 1), (2, 2), (3, 3), (4, 4)] d3), (35, cC true [(1, 1), (2, 2), (3, 3), (4, 4)] d4), (41, c9 c2), (46, c9 c3), (47, c9 c4)] [(1, 1), (2, 2), (3, 3), (4, 4), (64, 5), (80, 6), (400, 7), (544, 8), (629, 9), (721, 10), (817, 11)] (dNd p n L H V m B R y c h w k M P false q T 0) [_, _, _, _, _, _, _, _] (ac (c1) (ac (d1) (ac (d2) (ac (d3) (ac (d4) (ac (c2) (ac (c3) (ao (c4))))))))) ?_
 exact hw
theorem W_ndY {p : Prm} {n : Nat} {L H : Lpz} {V : Liz} {m : Nat} {B : Liz} {R : Lpz} {y : Liz} {c : Nat} {h : Hd} {w : Liz} {k : Nat} {M : Lpz} {P : Liz} {b : Bool} {q : Nat} {T : Liz} {i : Nat} (hi : i < q) (hq : q ≤ 1000) (g : T.getD i 0 = (c : Int))
  (hw : Wt Tryz.f23 [1, 2, 3, 4] (trR p n L H V m B) (.bool true) (Ae Tryz.f23 0) (dNd p n L H V m B R y c h w k M P true q T (i + 1))) :
  Wt Tryz.f23 [1, 2, 3, 4] (trR p n L H V m B) (.bool true) (Ae Tryz.f23 0) (dNd p n L H V m B R y c h w k M P b q T i) := by
 cases b
 ·refine W.sg 0 [(0, aT), (1, aV (PV.at 11 [Stp.idx i 1])), (2, aV (I6 (c:Int))), (8, aT), (11, aV (I6 (↑(i + 1) : Int)))] (rI 11) (dNd p n L H V m B R y c h w k M P true q T (i + 1)) [decide ((i:Int) < (q:Int)) = true, PV.at 11 [Stp.idx (0 + i) 1] = PV.at 11 [Stp.idx i 1], 0 ≤ (i:Int), (i:Int) < (q:Int), I6 (List.getD T i (0 : Int)) = I6 (c:Int), i < q, ((c:Int) == (c:Int)) = true, I6 (IntKind.wrap .i64 ((i:Int) + 1)) = I6 (↑(i + 1) : Int)] (by kernel_rfl) (ac (dT (by omega)) (ac (by simp only [Nat.zero_add]) (ac (by omega) (ac (by omega) (ac (cg (g)) (ac (by omega) (ac (dT (by omega)) (ao (cg (Ab rfl (by omega) (by omega))))))))))) ?_
  exact hw
 ·refine W.sg 0 [(0, aT), (1, aV (PV.at 11 [Stp.idx i 1])), (2, aV (I6 (c:Int))), (11, aV (I6 (↑(i + 1) : Int)))] (rI 11) (dNd p n L H V m B R y c h w k M P true q T (i + 1)) [decide ((i:Int) < (q:Int)) = true, PV.at 11 [Stp.idx (0 + i) 1] = PV.at 11 [Stp.idx i 1], 0 ≤ (i:Int), (i:Int) < (q:Int), I6 (List.getD T i (0 : Int)) = I6 (c:Int), i < q, I6 (IntKind.wrap .i64 ((i:Int) + 1)) = I6 (↑(i + 1) : Int)] (by kernel_rfl) (ac (dT (by omega)) (ac (by simp only [Nat.zero_add]) (ac (by omega) (ac (by omega) (ac (cg (g)) (ac (by omega) (ao (cg (Ab rfl (by omega) (by omega)))))))))) ?_
  exact hw
theorem W_ndN {p : Prm} {n : Nat} {L H : Lpz} {V : Liz} {m : Nat} {B : Liz} {R : Lpz} {y : Liz} {c : Nat} {h : Hd} {w : Liz} {k : Nat} {M : Lpz} {P : Liz} {b : Bool} {q : Nat} {T : Liz} {i : Nat} {x : Int} (hi : i < q) (hq : q ≤ 1000) (g : T.getD i 0 = x) (hx : ¬ x = (c : Int))
  (hw : Wt Tryz.f23 [1, 2, 3, 4] (trR p n L H V m B) (.bool true) (Ae Tryz.f23 0) (dNd p n L H V m B R y c h w k M P b q T (i + 1))) :
  Wt Tryz.f23 [1, 2, 3, 4] (trR p n L H V m B) (.bool true) (Ae Tryz.f23 0) (dNd p n L H V m B R y c h w k M P b q T i) := by
 cases b
 ·refine W.sg 0 [(0, aT), (1, aV (PV.at 11 [Stp.idx i 1])), (2, aV (I6 x)), (8, aF), (11, aV (I6 (↑(i + 1) : Int)))] (rI 11) (dNd p n L H V m B R y c h w k M P false q T (i + 1)) [decide ((i:Int) < (q:Int)) = true, PV.at 11 [Stp.idx (0 + i) 1] = PV.at 11 [Stp.idx i 1], 0 ≤ (i:Int), (i:Int) < (q:Int), I6 (List.getD T i (0 : Int)) = I6 x, i < q, (x == (c:Int)) = false, I6 (IntKind.wrap .i64 ((i:Int) + 1)) = I6 (↑(i + 1) : Int)] (by kernel_rfl) (ac (dT (by omega)) (ac (by simp only [Nat.zero_add]) (ac (by omega) (ac (by omega) (ac (cg (g)) (ac (by omega) (ac (dF (by omega)) (ao (cg (Ab rfl (by omega) (by omega))))))))))) ?_
  exact hw
 ·refine W.sg 0 [(0, aT), (1, aV (PV.at 11 [Stp.idx i 1])), (2, aV (I6 x)), (11, aV (I6 (↑(i + 1) : Int)))] (rI 11) (dNd p n L H V m B R y c h w k M P true q T (i + 1)) [decide ((i:Int) < (q:Int)) = true, PV.at 11 [Stp.idx (0 + i) 1] = PV.at 11 [Stp.idx i 1], 0 ≤ (i:Int), (i:Int) < (q:Int), I6 (List.getD T i (0 : Int)) = I6 x, i < q, I6 (IntKind.wrap .i64 ((i:Int) + 1)) = I6 (↑(i + 1) : Int)] (by kernel_rfl) (ac (dT (by omega)) (ac (by simp only [Nat.zero_add]) (ac (by omega) (ac (by omega) (ac (cg (g)) (ac (by omega) (ao (cg (Ab rfl (by omega) (by omega)))))))))) ?_
  exact hw
def dNl (p : Prm) (n : Nat) (L H : List PV) (V : List Int) (m : Nat) (B : List Int) (R : List PV) (c : Nat) (h : Hd) (k : Nat) (M : List PV) (P : List Int) (i : Nat) : DS :=
 ⟨[(4, .at 5 []), (7, .int .i64 c), (12, .at 6 []), (14, .ref 7 [] 68 0 k), (15, .ref 8 [] 1 0 k), (155, .int .i64 k), (156, .int .i64 i)],
  trR p n L H V m B ++ [(5, ⟨.st 75 [p.rpv, .vec false (.parr 102 n Nv R)], false⟩), (6, ⟨h.pv, false⟩), (7, ⟨.parr 68 k hsh M, false⟩), (8, ⟨.iarr .i64 k P, false⟩)]⟩
theorem W_ndTo {p : Prm} {n : Nat} {L H : Lpz} {V : Liz} {m : Nat} {B : Liz} {R : Lpz} {y : Liz} {c : Nat} {h h2 : Hd} {k : Nat} {M : Lpz} {P : Liz} {b : Bool} {q : Nat} {T : Liz} {x2 w D : Liz} {on : Int} {d : Nat} (hy : y.length = 32) (hk : k ≤ 1000) (hk0 : 1 ≤ k) (hn : n ≤ 1000) (hc : c < n) (hw4 : w.length = 4)
  (g : R.getD c .undef = .st 102 [.st 100 [.st 68 [.int .u32 h2.ver, .iarr .u8 32 h2.prev, .iarr .u8 32 h2.root, .int .u32 h2.time, .int .u32 h2.bits, .int .u32 h2.nonce], .iarr .u8 32 x2], .int .i64 on, .vec false (.iarr .i64 d D)])
  (d5 : Pt 20 (trR p n L H V m B) [.at 1 [], .iarr .u8 32 y] (trR p n L H V m B) (.bool true)) (d6 : Pt 33 (trR p n L H V m B) [.at 1 [], .iarr .u8 32 y] (trR p n L H V m B) (.bool b))
  (d7 : Pt 54 [] [.vec false (.iarr .i64 d D)] [] (.iarr .u64 4 w))
  (hw : Wt Tryz.f23 [1, 2, 3, 4] (trR p n L H V m B) (.bool true) (Ae Tryz.f23 1) (dNl p n L H V m B R c h k M P 0)) :
  Wt Tryz.f23 [1, 2, 3, 4] (trR p n L H V m B) (.bool true) (Ae Tryz.f23 0) (dNd p n L H V m B R y c h w k M P b q T q) := by
 unfold trR at d5 d6
 cases b
 ·refine W.sg 1 [(0, aF), (3, cS [1, 2, 3, 4] true [(1, 1), (2, 2), (3, 3), (4, 4)] d5), (8, cS [1, 2, 3, 4] true [(1, 1), (2, 2), (3, 3), (4, 4)] d6), (28, aV (I6 ((k:Int) - 1))), (29, aF), (38, aV (PV.vec false (BI d D))), (39, c9 d7), (40, aF), (47, aF)] [(1, 1), (2, 2), (3, 3), (4, 4), (5, 5), (8, 6), (9, 7), (10, 8)] (dNl p n L H V m B R c h k M P 0) [decide ((q:Int) < (q:Int)) = false, rO d5 1, rO d5 2, rO d5 3, rO d5 4, _, rO d5 1, rO d5 2, rO d5 3, rO d5 4, _, I6 (IntKind.wrap .i64 ((k:Int) - 1)) = I6 ((k:Int) - 1), ((k:Int) - 1 != (k:Int) - 1) = false, 0 ≤ (c:Int), (c:Int) < (n:Int), PV.vec (PV.NA (List.headD (List.tail (List.tail (PV.fs (List.getD R c PV.undef)))) PV.undef)) (BI (PV.len (PV.els (List.headD (List.tail (List.tail (PV.fs (List.getD R c PV.undef)))) PV.undef))) (PV.nums (PV.els (List.headD (List.tail (List.tail (PV.fs (List.getD R c PV.undef)))) PV.undef)))) = PV.vec false (BI d D), c < n, _, (!decide (w = w)) = false, ((k:Int) != (k:Int)) = false] (by kernel_rfl) (ac (dF (by omega)) (ac rfl (ac rfl (ac rfl (ac rfl (ac (d5) (ac rfl (ac rfl (ac rfl (ac rfl (ac (d6) (ac (cg (Ab rfl (by omega) (by omega))) (ac (bne_eq_false_iff_eq.2 (by omega)) (ac (by omega) (ac (by omega) (ac (by (rw [g]; rfl)) (ac (by omega) (ac (d7) (ac (by (simp [*]; done)) (ao (bne_eq_false_iff_eq.2 (by omega)))))))))))))))))))))) ?_
  exact hw
 ·refine W.sg 1 [(0, aF), (3, cS [1, 2, 3, 4] true [(1, 1), (2, 2), (3, 3), (4, 4)] d5), (8, cS [1, 2, 3, 4] true [(1, 1), (2, 2), (3, 3), (4, 4)] d6), (28, aV (I6 ((k:Int) - 1))), (29, aF), (38, aV (PV.vec false (BI d D))), (39, c9 d7), (40, aF), (47, aF)] [(1, 1), (2, 2), (3, 3), (4, 4), (5, 5), (8, 6), (9, 7), (10, 8)] (dNl p n L H V m B R c h k M P 0) [decide ((q:Int) < (q:Int)) = false, rO d5 1, rO d5 2, rO d5 3, rO d5 4, _, rO d5 1, rO d5 2, rO d5 3, rO d5 4, _, I6 (IntKind.wrap .i64 ((k:Int) - 1)) = I6 ((k:Int) - 1), ((k:Int) - 1 != (k:Int) - 1) = false, 0 ≤ (c:Int), (c:Int) < (n:Int), PV.vec (PV.NA (List.headD (List.tail (List.tail (PV.fs (List.getD R c PV.undef)))) PV.undef)) (BI (PV.len (PV.els (List.headD (List.tail (List.tail (PV.fs (List.getD R c PV.undef)))) PV.undef))) (PV.nums (PV.els (List.headD (List.tail (List.tail (PV.fs (List.getD R c PV.undef)))) PV.undef)))) = PV.vec false (BI d D), c < n, _, (!decide (w = w)) = false, ((k:Int) != (k:Int)) = false] (by kernel_rfl) (ac (dF (by omega)) (ac rfl (ac rfl (ac rfl (ac rfl (ac (d5) (ac rfl (ac rfl (ac rfl (ac rfl (ac (d6) (ac (cg (Ab rfl (by omega) (by omega))) (ac (bne_eq_false_iff_eq.2 (by omega)) (ac (by omega) (ac (by omega) (ac (by (rw [g]; rfl)) (ac (by omega) (ac (d7) (ac (by (simp [*]; done)) (ao (bne_eq_false_iff_eq.2 (by omega)))))))))))))))))))))) ?_
  exact hw
theorem Ui (a : Hd) : ((a.ver : Int) == (a.ver : Int) && (decide (a.prev = a.prev) && (decide (a.root = a.root) && ((a.time : Int) == (a.time : Int) && ((a.bits : Int) == (a.bits : Int) && ((a.nonce : Int) == (a.nonce : Int) && true)))))) = true := by simp
theorem XM {p : Prm} {n : Nat} {L H : Lpz} {V : Liz} {m : Nat} {B : Liz} {R : Lpz} {c : Nat} {h h2 : Hd} {k : Nat} {M : Lpz} {P : Liz} {i j : Nat} {x2 D : Liz} {on : Int} {d : Nat} (hi : i < k) (hk : k ≤ 1000) (hn : n ≤ 1000) (hj : j < n) (hh : h2.Ok) (gM : M.getD i .undef = .st 68 [.int .u32 h2.ver, .iarr .u8 32 h2.prev, .iarr .u8 32 h2.root, .int .u32 h2.time, .int .u32 h2.bits, .int .u32 h2.nonce]) (gP : P.getD i 0 = (j : Int))
  (g : R.getD j .undef = .st 102 [.st 100 [.st 68 [.int .u32 h2.ver, .iarr .u8 32 h2.prev, .iarr .u8 32 h2.root, .int .u32 h2.time, .int .u32 h2.bits, .int .u32 h2.nonce], .iarr .u8 32 x2], .int .i64 on, .vec false (.iarr .i64 d D)])
  (hw : Wt Tryz.f23 [1, 2, 3, 4] (trR p n L H V m B) (.bool true) (Ae Tryz.f23 1) (dNl p n L H V m B R c h k M P (i + 1))) :
  Wt Tryz.f23 [1, 2, 3, 4] (trR p n L H V m B) (.bool true) (Ae Tryz.f23 1) (dNl p n L H V m B R c h k M P i) := by
 have cL := Hr h2
 have e2 := Ui h2
 have q1 := hh.prev
 have q2 := hh.root
 unfold Hd.pv at cL
 refine W.sgA 1 [(0, aT), (5, aV (PV.at 7 [Stp.idx i 68])), (6, aE gM), (7, c9 cL), (12, aV (PV.at 8 [Stp.idx i 1])), (13, aV (I6 j)), (17, aV (Hd.pv h2)), (18, aF), (19, aV (I6 ↑(i + 1)))] (rI 8) (dNl p n L H V m B R c h k M P (i + 1)) [decide ((i:Int) < (k:Int)) = true, PV.at 7 [Stp.idx (0 + i) 68] = PV.at 7 [Stp.idx i 68], 0 ≤ (i:Int), (i:Int) < (k:Int), _, i < k, _, PV.at 8 [Stp.idx (0 + i) 1] = PV.at 8 [Stp.idx i 1], 0 ≤ (i:Int), (i:Int) < (k:Int), I6 (List.getD P i (0 : Int)) = I6 j, i < k, 0 ≤ (j:Int), (j:Int) < (n:Int), BD hsh (List.headD (PV.fs (List.headD (PV.fs (List.getD R j PV.undef)) PV.undef)) PV.undef) = Hd.pv h2, j < n, (!((↑(Hd.ver h2) : Int) == (↑(Hd.ver h2) : Int) && (decide (Hd.prev h2 = Hd.prev h2) && (decide (Hd.root h2 = Hd.root h2) && ((↑(Hd.time h2) : Int) == (↑(Hd.time h2) : Int) && ((↑(Hd.bits h2) : Int) == (↑(Hd.bits h2) : Int) && ((↑(Hd.nonce h2) : Int) == (↑(Hd.nonce h2) : Int) && true))))))) = false, I6 (IntKind.wrap .i64 ((i:Int) + 1)) = I6 ↑(i + 1)] (ac (dT (by omega)) (ac (by simp only [Nat.zero_add]) (ob2 (by omega) (ac (ex gM) (ac (by omega) (ac (cL) (ac (by simp only [Nat.zero_add]) (ob2 (by omega) (ac (cg (gP)) (ob3 (by omega) (ac (by (rw [g]; rfl)) (ac (by omega) (ac (by (simp [*]; done)) (ao (wj (by omega)))))))))))))))) ?_
 exact hw
theorem W_nlEnd {p : Prm} {n : Nat} {L H : Lpz} {V : Liz} {m : Nat} {B : Liz} {R : Lpz} {c : Nat} {h : Hd} {k : Nat} {M : Lpz} {P : Liz} {x2 D : Liz} {on : Int} {d : Nat} (hn : n ≤ 1000) (hj : c < n) (hh : h.Ok)
  (g : R.getD c .undef = .st 102 [.st 100 [.st 68 [.int .u32 h.ver, .iarr .u8 32 h.prev, .iarr .u8 32 h.root, .int .u32 h.time, .int .u32 h.bits, .int .u32 h.nonce], .iarr .u8 32 x2], .int .i64 on, .vec false (.iarr .i64 d D)]) :
  Wt Tryz.f23 [1, 2, 3, 4] (trR p n L H V m B) (.bool true) (Ae Tryz.f23 1) (dNl p n L H V m B R c h k M P k) := by
 have cL := Hr h
 have e2 := Ui h
 have q1 := hh.prev
 have q2 := hh.root
 unfold trR
 refine W.rtA [(0, aF), (2, c9 cL), (9, aV (Hd.pv h)), (10, aT)] (rI 4) [decide ((k:Int) < (k:Int)) = false, _, 0 ≤ (c:Int), (c:Int) < (n:Int), BD hsh (List.headD (PV.fs (List.headD (PV.fs (List.getD R c PV.undef)) PV.undef)) PV.undef) = Hd.pv h, c < n, ((↑(Hd.ver h) : Int) == (↑(Hd.ver h) : Int) && (decide (Hd.prev h = Hd.prev h) && (decide (Hd.root h = Hd.root h) && ((↑(Hd.time h) : Int) == (↑(Hd.time h) : Int) && ((↑(Hd.bits h) : Int) == (↑(Hd.bits h) : Int) && ((↑(Hd.nonce h) : Int) == (↑(Hd.nonce h) : Int) && true)))))) = true] (ac (dF (by omega)) (ac (cL) (ob2 (by omega) (ac (by (rw [g]; rfl)) (ac (by omega) (ao (by assumption)))))))
end Go.Proofs
namespace Go.Proofs
open Go Go.Pe Go.Pm
set_option maxRecDepth 100000
set_option linter.unusedVariables false
attribute [local irreducible] Aq lv EW
theorem NW (v : Int) : ∀ (l : List Int) (i : Nat), i < l.length → (Dm l v < i + 1 ↔ Dm l v < i ∨ l.getD i 0 = v)
 | [], i, h => by simp at h
 | a :: l, i, h => by
  unfold Dm
  by_cases e : v = a
  ·rw [if_pos e]
   cases i with
   | zero => simp [e]
   | succ i => simp
  ·rw [if_neg e]
   cases i with
   | zero =>
    have : ¬ a = v := fun x => e x.symm
    simp [this]
   | succ i =>
    have := NW v l i (by simpa using h)
    simp only [List.getD_cons_succ]
    omega
theorem VG (N : List Nd) (l : List Nat) {i : Nat} (h : i < l.length) : (Bl N l).getD i default = (N.getD (l.getD i 0) default).h := by
 simp [Bl, List.getD_eq_getElem?_getD, h]
theorem W_nd1 {p : Prm} {n : Nat} {L H : Lpz} {V : Liz} {m : Nat} {B : Liz} {R : Lpz} {y : Liz} {c : Nat} {h : Hd} {w : Liz} {k : Nat} {M : Lpz} {P : Liz} {q : Nat} {T : Liz} (hq : q ≤ 1000) (hT : T.length = q)
  (hw : Wt Tryz.f23 [1, 2, 3, 4] (trR p n L H V m B) (.bool true) (Ae Tryz.f23 0) (dNd p n L H V m B R y c h w k M P (decide (Dm T (c : Int) < q)) q T q)) : ∀ r i, i + r = q →
  Wt Tryz.f23 [1, 2, 3, 4] (trR p n L H V m B) (.bool true) (Ae Tryz.f23 0) (dNd p n L H V m B R y c h w k M P (decide (Dm T (c : Int) < i)) q T i)
 | 0, i, hk => by
  obtain rfl : i = q := by omega
  exact hw
 | r + 1, i, hk => by
  have ih := W_nd1 hq hT hw r (i + 1) (by omega)
  have e := NW (c : Int) T i (by omega)
  by_cases hx : T.getD i 0 = (c : Int)
  ·rw [decide_eq_true (e.2 (.inr hx))] at ih
   exact W_ndY (by omega) hq hx ih
  ·have e2 : decide (Dm T (c : Int) < i + 1) = decide (Dm T (c : Int) < i) := by
    rw [decide_eq_decide, e]
    exact ⟨fun z => z.resolve_right hx, .inl⟩
   rw [e2] at ih
   exact W_ndN (by omega) hq rfl hx ih
theorem W_nl {p : Prm} {N : List Nd} (hT : TW p N) (hn : N.length ≤ 1000) {H : Lpz} {V : Liz} {m : Nat} {B : Liz} {c : Nat} (hc : c < N.length) {k : Nat} (hk : (N.getD c default).path.length = k) : ∀ r i, i + r = k →
  Wt Tryz.f23 [1, 2, 3, 4] (trR p N.length (N.map Di) H V m B) (.bool true) (Ae Tryz.f23 1) (dNl p N.length (N.map Di) H V m B (N.map Da) c (N.getD c default).h k ((Bl N (N.getD c default).path).map Hd.pv) (ints (N.getD c default).path) i)
 | 0, i, hi => by
  obtain rfl : i = k := by omega
  have g := EC hc
  unfold Da rnV Hd.pv at g
  exact W_nlEnd hn hc (hT.ok c hc) g
 | r + 1, i, hi => by
  have hik : i < (N.getD c default).path.length := by omega
  have ih := W_nl hT hn (H := H) (V := V) (m := m) (B := B) hc hk r (i + 1) (by omega)
  have hj := (hT.pcl c hc i hik).1
  have hpl := hT.plen c hc
  have g := EC hj
  have gM := FK (l := Bl N (N.getD c default).path) (i := i) (by rw [Oq]; exact hik)
  rw [VG N _ hik] at gM
  unfold Da rnV Hd.pv at g
  exact XM (by omega) (by omega) hn hj (hT.ok _ hj) gM (He hik) g ih
theorem OW {p : Prm} {N : List Nd} (hT : TW p N) (hN : N.length ≤ 100) {y : Liz} (hy : y.length = 32) : Pt 23 (Jh p N) [.at 1 [], MH p N, .iarr .u8 32 y] (Jh p N) (.bool true) := by
 have r2 := ME (p := p) (N := N) rfl (by omega) (y := y) hy
 have hs := PI N y
 unfold fndI at r2
 unfold Jh MH
 by_cases hf : fnd (hsN N) y < N.length
 ·rw [if_pos hf] at r2
  rw [decide_eq_true hf] at hs
  have hv := Ua hf
  have hpl := hT.plen _ hf
  have htp := Jr hT.pos
  have htl := hT.plen _ htp
  obtain ⟨k, hk⟩ : ∃ k, (N.getD (fnd (hsN N) y) default).path.length = k + 1 := ⟨(N.getD (fnd (hsN N) y) default).path.length - 1, by omega⟩
  obtain ⟨q, hb, hqn⟩ := hT.best
  have hlen := hb.len
  have g := JP hf
  have g2 := EC hf
  unfold Di ndV Hd.pv at g
  unfold Da rnV Hd.pv at g2
  have cg := Te (p := p) (n := N.length) (L := N.map Di) (H := Ia N) (V := IM N.length) (m := (Bq N).length) (B := ints (Bq N)) hs hv hf g
  have d1 := IA cg
  rw [show ((N.getD (fnd (hsN N) y) default).ht : Int) = ((k + 1 : Nat) : Int) - 1 by unfold Nd.ht; omega] at d1
  have d5 := Tz (p := p) (n := N.length) (L := N.map Di) (H := Ia N) (V := IM N.length) (m := (Bq N).length) (B := ints (Bq N)) (y := y)
  rw [hs] at d5
  have c2 := JH hT rfl (by omega) k _ hf hk
  have c4 := JH hT rfl (by omega) q _ htp hlen
  have hw := W_ndTo (c := fnd (hsN N) y) (h := (N.getD (fnd (hsN N) y) default).h) (k := k + 1) (M := (Bl N (N.getD (fnd (hsN N) y) default).path).map Hd.pv) (P := ints (N.getD (fnd (hsN N) y) default).path) (q := q + 1) (T := ints (Bq N)) hy (by omega) (by omega) (by omega) hf rfl g2 d5
   (Xh hs hv (by simp [ints]) (by omega)) (Kc (na := false) (Cv.2 (hT.w _ hf))) (W_nl hT (by omega) hf hk (k + 1) 0 (by omega))
  rw [hlen] at hw ⊢
  rw [hlen] at d1 d5 cg
  refine W_ndIn (t := Et N) hy (by omega) (by omega) (by omega) (by omega) hf r2 d1 (Qd cg) (Qv cg) (UE hs hv (PY hT rfl (by omega) hf hk)) c2 (pc_rTip hT rfl (by omega)) c4 ?_
  have := W_nd1 (by omega) (by rw [DX, hlen]) hw (q + 1) 0 (by omega)
  rwa [decide_eq_false (Nat.not_lt_zero _)] at this
 ·rw [if_neg hf] at r2
  rw [decide_eq_false hf] at hs
  exact W_ndNo hy hs r2
def dTs (p : Prm) (n : Nat) (L H : List PV) (V : List Int) (m : Nat) (B : List Int) (R : List PV) (nl : Bool) (k : Nat) (I : List PV) (i : Nat) : DS := ⟨[(5, .at 1 []), (6, .at 5 []), (42, .vec nl (.parr 69 k Pv I)), (43, .int .i64 k), (44, .int .i64 i)], trR p n L H V m B ++ [(5, ⟨.st 75 [p.rpv, .vec false (.parr 102 n Nv R)], false⟩)]⟩
theorem XB {p : Prm} {nl : Bool} {k : Nat} {I : Lpz} {y : Liz} (cf : Pt 9 [] [Gi p nl k I] [] (.bool false)) : Pt 6 [] [Gi p nl k I, .iarr .u8 32 y] [] (.bool true) := by
 refine pO Tryz.func6 (by kernel_rfl) ?_
 have ca := TJ
 unfold Gi at *
 refine W.rtA [(4, c9 cf), (6, c9 ca)] [] [_, _] (ac (cf) (ao (ca)))
theorem W_tsIn {p : Prm} {nl : Bool} {k : Nat} {I : Lpz} {n : Nat} {L H : Lpz} {V : Liz} {m : Nat} {B : Liz} {R : Lpz} {y : Liz} {h : Hd} {x D : Liz} {on : Int} {d : Nat} (hk : k ≤ 24) (hn : n ≤ 1000) (hn0 : 0 < n) (hy : y.length = 32) (hx : x.length = 32) (cf : Pt 9 [] [Gi p nl k I] [] (.bool true)) (c1 : Pt 22 [] [Gi p nl k I] (trR p n L H V m B) (.tup [.at 1 [], rT p n R, .bool true]))
  (g : R.getD 0 .undef = .st 102 [.st 100 [.st 68 [.int .u32 h.ver, .iarr .u8 32 h.prev, .iarr .u8 32 h.root, .int .u32 h.time, .int .u32 h.bits, .int .u32 h.nonce], .iarr .u8 32 x], .int .i64 on, .vec false (.iarr .i64 d D)])
  (c2 : Pt 23 (trR p n L H V m B) [.at 1 [], rT p n R, .iarr .u8 32 y] (trR p n L H V m B) (.bool true)) (c3 : Pt 23 (trR p n L H V m B) [.at 1 [], rT p n R, .iarr .u8 32 x] (trR p n L H V m B) (.bool true))
  (hw : Wt Tryz.f6 [] [] (.bool true) (Ae Tryz.f6 0) (dTs p n L H V m B R nl k I 0)) :
  Pt 6 [] [Gi p nl k I, .iarr .u8 32 y] [] (.bool true) := by
 refine pO Tryz.func6 (by kernel_rfl) ?_
 unfold Gi rT trR at *
 refine W.sgA 0 [(4, c9 cf), (7, c0 c1), (22, cS [177, 178, 179, 180] true [(177, 1), (178, 2), (179, 3), (180, 4)] c2), (33, aV (B8 32 x)), (34, cS [177, 178, 179, 180] true [(177, 1), (178, 2), (179, 3), (180, 4)] c3)] [(177, 1), (256, 5), (178, 2), (179, 3), (180, 4)] (dTs p n L H V m B R nl k I 0) [_, _, rX [(177, 1), (178, 2), (179, 3), (180, 4)] c2 1, rX [(177, 1), (178, 2), (179, 3), (180, 4)] c2 2, rX [(177, 1), (178, 2), (179, 3), (180, 4)] c2 3, rX [(177, 1), (178, 2), (179, 3), (180, 4)] c2 4, _, (0 : Int) ≤ 0, 0 < (n:Int), B8 32 (PV.nums (List.headD (List.tail (PV.fs (List.headD (PV.fs (List.getD R 0 PV.undef)) PV.undef))) PV.undef)) = B8 32 x, 0 < n, rX [(177, 1), (178, 2), (179, 3), (180, 4)] c2 1, rX [(177, 1), (178, 2), (179, 3), (180, 4)] c2 2, rX [(177, 1), (178, 2), (179, 3), (180, 4)] c2 3, rX [(177, 1), (178, 2), (179, 3), (180, 4)] c2 4, _] (ac (cf) (ac (c1) (ac rfl (ac rfl (ac rfl (ac rfl (ac (c2) (ob2 (by omega) (ac (by (rw [g]; rfl)) (ac (by omega) (ac rfl (ac rfl (ac rfl (ac rfl (ao (c3)))))))))))))))) ?_
 exact hw
theorem W_tsEnd {p : Prm} {n : Nat} {L H : Lpz} {V : Liz} {m : Nat} {B : Liz} {R : Lpz} {nl : Bool} {k : Nat} {I : Lpz} : Wt Tryz.f6 [] [] (.bool true) (Ae Tryz.f6 0) (dTs p n L H V m B R nl k I k) := by
 have ca := TJ
 refine W.rtA [(0, aF), (1, c9 ca)] [] [decide ((k:Int) < (k:Int)) = false, _] (ac (dF (by omega)) (ao (ca)))
theorem WN {p : Prm} {n : Nat} {L H : Lpz} {V : Liz} {m : Nat} {B : Liz} {R : Lpz} {nl : Bool} {k : Nat} {I : Lpz} {i : Nat} {h : Hd} {y : Liz} {now : Int} (hi : i < k) (hk : k ≤ 24) (g : I.getD i .undef = .st 69 [.st 68 [.int .u32 h.ver, .iarr .u8 32 h.prev, .iarr .u8 32 h.root, .int .u32 h.time, .int .u32 h.bits, .int .u32 h.nonce], .int .i64 now])
  (c3 : Pt 21 [] [h.pv] [] (.iarr .u8 32 y)) (c2 : Pt 23 (trR p n L H V m B) [.at 1 [], rT p n R, .iarr .u8 32 y] (trR p n L H V m B) (.bool true))
  (hw : Wt Tryz.f6 [] [] (.bool true) (Ae Tryz.f6 0) (dTs p n L H V m B R nl k I (i + 1))) : Wt Tryz.f6 [] [] (.bool true) (Ae Tryz.f6 0) (dTs p n L H V m B R nl k I i) := by
 unfold rT trR at c2
 refine W.sgA 0 [(0, aT), (2, aE g), (9, c9 c3), (10, cS [1, 2, 3, 4] true [(1, 1), (2, 2), (3, 3), (4, 4)] c2), (12, aV (I6 ↑(i + 1)))] [(1, 1), (5, 5), (2, 2), (3, 3), (4, 4)] (dTs p n L H V m B R nl k I (i + 1)) [decide ((i:Int) < (k:Int)) = true, 0 ≤ (i:Int), (i:Int) < (k:Int), _, i < k, _, rO c2 1, rO c2 2, rO c2 3, rO c2 4, _, I6 (IntKind.wrap .i64 ((i:Int) + 1)) = I6 ↑(i + 1)] (ac (dT (by omega)) (ob2 (by omega) (ac (ex g) (ac (by omega) (ac (c3) (ac rfl (ac rfl (ac rfl (ac rfl (ac (c2) (ao (wj (by omega))))))))))))) ?_
 exact hw
theorem Ub {p : Prm} {nl : Bool} {I : List (Hd × Int)} (hI : I.length ≤ 24) (ho : ∀ x ∈ I, x.1.Ok) {N : List Nd} (hT : TW p N) (hN : N.length ≤ 29) : ∀ (r i : Nat), i + r = I.length →
  Wt Tryz.f6 [] [] (.bool true) (Ae Tryz.f6 0) (dTs p N.length (N.map Di) (Ia N) (IM N.length) (Bq N).length (ints (Bq N)) (N.map Da) nl I.length (I.map Nz) i)
 | 0, i, hk => by
  obtain rfl : i = I.length := by omega
  exact W_tsEnd
 | r + 1, i, hk => by
  have hi : i < I.length := by omega
  exact WN hi hI (Wo hi) (DI (it_ok ho hi)) (OW hT (by omega) (Bb _)) (Ub hI ho hT hN r (i + 1) (by omega))
theorem Yb {p : Prm} (hp : p.Ok) {nl : Bool} {I : List (Hd × Int)} (ho : ∀ x ∈ I, x.1.Ok) {y : Liz} (hy : y.length = 32) : Pt 6 [] [Gi p nl I.length (I.map Nz), .iarr .u8 32 y] [] (.bool true) := by
 by_cases hI : I.length ≤ 24
 ·by_cases hm : p.May
  ·obtain ⟨hT, hl⟩ := Xb hp ho
   have g := EC (N := NY p I) (i := 0) hT.pos
   unfold Da rnV Hd.pv at g
   exact W_tsIn hI (by omega) hT.pos hy (Bb _) (V4 (Px hp.sum) (pc_mayY hp hm) hI) (pc_made hp hm hI ho) g (OW hT (by omega) hy) (OW hT (by omega) (Bb _)) (Ub hI ho hT (by omega) I.length 0 (by omega))
  ·exact XB (VK (Px hp.sum) (pc_mayN hp hm) hI)
 ·exact XB (Xg hI)
end Go.Proofs
namespace Go.Proofs
open Go Go.Pe Go.Pm
set_option maxRecDepth 100000
theorem it_of {p : PV} (hc : conf Pv p = true) (hw : WF p) : ∃ x : Hd × Int, p = Nz x ∧ x.1.Ok ∧ IntKind.i64.wrap x.2 = x.2 := by
 obtain ⟨a, b, rfl, ha, hb⟩ : ∃ a b, p = .st 69 [a, b] ∧ conf hsh a = true ∧ conf (.int .i64) b = true := by
  have e := BC _ _ hc
  obtain ⟨a, b, rfl⟩ : ∃ a b, p = .st 69 [a, b] := ⟨_, _, e.symm⟩
  have h2 : (Nat.beq 69 69 && (conf hsh a && (conf (.int .i64) b && true))) = true := hc
  simp only [Bool.and_eq_true] at h2
  exact ⟨a, b, rfl, h2.2.1, h2.2.2.1⟩
 simp only [WF, WFL] at hw
 obtain ⟨h, rfl, hh⟩ := hd_of ha hw.2.1
 obtain ⟨x, rfl⟩ : ∃ x, b = .int .i64 x := ⟨_, (BC _ _ hb).symm⟩
 exact ⟨(h, x), rfl, hh, hw.2.2.1⟩
theorem X5 : ∀ {l : List PV}, WFL l → (∀ q ∈ l, size q = 69 ∧ conf Pv q = true ∧ noref q = true) → ∃ I : List (Hd × Int), l = I.map Nz ∧ ∀ x ∈ I, x.1.Ok ∧ IntKind.i64.wrap x.2 = x.2
 | [], _, _ => ⟨[], rfl, fun x hx => by cases hx⟩
 | p :: l, hw, hq => by
  simp only [WFL] at hw
  obtain ⟨x, rfl, hh⟩ := it_of (hq p (by simp)).2.1 hw.1
  obtain ⟨I, rfl, hI⟩ := X5 hw.2 fun q hh => hq q (by simp [hh])
  refine ⟨x :: I, rfl, fun y hy => ?_⟩
  rcases List.mem_cons.1 hy with rfl | hy
  ·exact hh
  ·exact hI y hy
def tcsh : Sh := .st 78 [psh, .vec 69 Pv]
theorem tc_of {p : PV} (hc : conf tcsh p = true) (hw : WF p) : ∃ (q : Prm) (nl : Bool) (I : List (Hd × Int)), p = Gi q nl I.length (I.map Nz) ∧ q.Ok ∧ ∀ x ∈ I, x.1.Ok ∧ IntKind.i64.wrap x.2 = x.2 := by
 obtain ⟨a, b, rfl, ha, hb⟩ : ∃ a b, p = .st 78 [a, b] ∧ conf psh a = true ∧ conf (.vec 69 Pv) b = true := by
  have e := BC _ _ hc
  obtain ⟨a, b, rfl⟩ : ∃ a b, p = .st 78 [a, b] := ⟨_, _, e.symm⟩
  have h2 : (Nat.beq 78 78 && (conf psh a && (conf (.vec 69 Pv) b && true))) = true := hc
  simp only [Bool.and_eq_true] at h2
  exact ⟨a, b, rfl, h2.2.1, h2.2.2.1⟩
 simp only [WF, WFL] at hw
 obtain ⟨q, rfl, hq⟩ := prm_of ha hw.2.1
 obtain ⟨nl, n, m, rfl⟩ : ∃ nl n m, b = .vec nl (.parr 69 n Pv m) := ⟨_, _, _, (BC _ _ hb).symm⟩
 obtain ⟨_, _, ⟨⟨h1, h2, h3⟩, _, _⟩, _⟩ := hw
 obtain ⟨I, rfl, hI⟩ := X5 h2 h3
 rw [List.length_map] at h1
 subst h1
 exact ⟨q, nl, I, rfl, hq, hI⟩
theorem two_ofT {sh sh2 : Sh} {ps : List PV} (h : Dz [sh, sh2] ps = true) : ∃ a b, ps = [a, b] ∧ conf sh a = true ∧ conf sh2 b = true := by
 match ps, h with
 | [], h => simp [Dz] at h
 | [a], h => simp [Dz] at h
 | [a, b], h => simp only [Dz, Bool.and_true, Bool.and_eq_true] at h; exact ⟨a, b, rfl, h.1, h.2⟩
 | a :: b :: c :: t, h => simp [Dz] at h
end Go.Proofs
namespace Go.Pe
def Qh (P : Program) (tot : Nat) : Nat → List Field → Bool
 | o, [] => Nat.beq o tot
 | o, f :: l => Nat.beq f.offset o && Qh P tot (o + P.cellsOf f.type) l
def okT (P : Program) : Nat → TypeId → Bool
 | 0, _ => false
 | d + 1, t => match P.underlying t with
  | some .bool | some (.int _) | some .string => Nat.beq (P.cellsOf t) 1
  | some (.struct fs) => Qh P (P.cellsOf t) 0 fs.toList && fs.toList.all fun f => okT P d f.type
  | some (.array n e) => Nat.beq (P.cellsOf t) (n * P.cellsOf e) && E5 P e && okT P d e
  | some (.slice e) => Nat.beq (P.cellsOf t) 1 && E5 P e && okT P d e
  | _ => false
theorem De (k : IntKind) : IntKind.same k k = true := by cases k <;> rfl
theorem beq_refl (s : Sh) : Sh.beq s s = true :=
 Sh.rec (motive_1 := fun s => Sh.beq s s = true) (motive_2 := fun l => Sh.OZ l l = true) rfl De rfl rfl (fun _ _ ih => by simp only [Sh.beq, Bool.and_eq_true]; exact ⟨Nat.beq_refl _, ih⟩)
  (fun k _ => by simp only [Sh.beq, Bool.and_eq_true]; exact ⟨De k, Nat.beq_refl _⟩) (fun _ _ _ ih => by simp only [Sh.beq, Bool.and_eq_true]; exact ⟨⟨Nat.beq_refl _, Nat.beq_refl _⟩, ih⟩)
  (fun _ _ ih => by simp only [Sh.beq, Bool.and_eq_true]; exact ⟨Nat.beq_refl _, ih⟩) rfl (fun _ _ h1 h2 => by simp only [Sh.OZ, Bool.and_eq_true]; exact ⟨h1, h2⟩) s
structure KE (P : Program) (w : World) (T : T2) (d : Nat) (t : TypeId) (cs : List Value) (p : PV) : Prop where
 conf : conf (CL P d t) p = true
 wf : WF p
 noref : noref p = true
 untup : untup p = true
 size : size p = P.cellsOf t
 len : cs.length = P.cellsOf t
 agg : Pe.isAgg p = Cm P t
 rel : ∀ (j : Nat) (q : PV) (u : Value), (flat p)[j]? = some q → cs[j]? = some u → RC w T u q
theorem Mv {α β : Type} {g : α → Option β} : ∀ {l : List α} {xs : List β}, l.mapM g = some xs → ∀ i ∈ l, ∃ y, g i = some y
 | [], _, _, i, hi => by cases hi
 | a :: l, xs, h, i, hi => by
  rw [List.mapM_cons] at h
  simp only [Option.bind_eq_bind, Option.bind_eq_some_iff] at h
  obtain ⟨y, hy, ys, hys, _⟩ := h
  rcases List.mem_cons.1 hi with rfl | hi
  ·exact ⟨y, hy⟩
  ·exact Mv hys i hi
theorem Kt {s : Nat} (hs : 0 < s) : ∀ {l : List PV}, WFL l → (∀ q ∈ l, Pe.size q = s) → ∀ {j : Nat} {q : PV}, (Ak l)[j]? = some q → ∃ p, l[j / s]? = some p ∧ (flat p)[j % s]? = some q
 | [], _, _, j, q, h => by simp [Ak] at h
 | p :: l, hw, hz, j, q, h => by
  simp only [WFL] at hw
  have hl : (flat p).length = s := by rw [Ai p hw.1, hz p (by simp)]
  simp only [Ak] at h
  by_cases hj : j < s
  ·rw [List.getElem?_append_left (by omega)] at h
   refine ⟨p, by rw [Nat.div_eq_of_lt hj]; rfl, by rw [Nat.mod_eq_of_lt hj]; exact h⟩
  ·rw [List.getElem?_append_right (by omega), hl] at h
   obtain ⟨p', h1, h2⟩ := Kt hs hw.2 (fun q hq => hz q (by simp [hq])) h
   have e : j = (j - s) + s := by omega
   refine ⟨p', ?_, ?_⟩
   ·rw [e, Nat.add_div_right _ hs]
    simpa using h1
   ·rw [e, Nat.add_mod_right]; exact h2
def CP (P : Program) (d : Nat) (e : TypeId) (l : List PV) : PV := match P.underlying e with
 | some (.int k) => .iarr k l.length (l.map PV.num)
 | _ => .parr (P.cellsOf e) l.length (CL P d e) l
section
variable {P : Program} {w : World} {T : T2}
theorem Qr {d : Nat} {e : TypeId} {k : IntKind} (h : P.underlying e = some (.int k)) : CL P (d + 1) e = .int k := by simp only [CL, h]
theorem SC {d : Nat} {t e : TypeId} (h : P.underlying t = some (.slice e)) : CL P (d + 1) t = .vec (P.cellsOf e) (CL P d e) := by simp only [CL, h]
theorem Iz {d : Nat} {e : TypeId} {l : List PV} (hok : okT P d e = true) (hl : ∀ q ∈ l, Pe.conf (CL P d e) q = true ∧ WF q ∧ Pe.noref q = true ∧ Pe.untup q = true ∧ Pe.size q = P.cellsOf e) :
  WF (CP P d e l) ∧ BZ (CP P d e l) = true ∧ Af (CP P d e l) = l.length ∧ Az (CP P d e l) = P.cellsOf e ∧ Pe.untup (CP P d e l) = true ∧ flat (CP P d e l) = Ak l ∧ Pe.size (CP P d e l) = l.length * P.cellsOf e := by
 have hut : BX l = true := by
  clear hok
  induction l with
  | nil => rfl
  | cons p l ih =>
   simp only [BX, Bool.and_eq_true]
   exact ⟨(hl p (by simp)).2.2.2.1, ih fun q hq => hl q (by simp [hq])⟩
 unfold CP
 split
 ·rename_i k hu
  obtain ⟨d', rfl⟩ : ∃ d', d = d' + 1 := by cases d with
   | zero => simp [okT] at hok
   | succ d => exact ⟨d, rfl⟩
  have h1 : P.cellsOf e = 1 := by
   simp only [okT, hu] at hok
   exact Nat.eq_of_beq_eq_true hok
  have hq : ∀ q ∈ l, ∃ x, q = .int k x ∧ k.wrap x = x := by
   intro q hq
   have := hl q hq
   rw [Qr hu] at this
   cases q <;> simp only [Pe.conf, reduceCtorEq, false_and] at this
   rename_i k' x
   have hk := IntKind.same_eq this.1
   subst hk
   exact ⟨x, rfl, by simpa only [WF] using this.2.1⟩
  have hf : (l.map PV.num).map (PV.int k) = l := by
   rw [List.map_map]
   conv => rhs; rw [← List.map_id l]
   refine List.map_congr_left fun q hql => ?_
   obtain ⟨x, rfl, _⟩ := hq q hql
   rfl
  have hfl : Ak l = l := by
   clear hok hf
   induction l with
   | nil => rfl
   | cons p l ih =>
    obtain ⟨x, rfl, _⟩ := hq p (by simp)
    simp only [Ak, flat]
    rw [ih (by simp only [BX, Bool.and_eq_true] at hut; exact hut.2) (fun q hq' => hl q (by simp [hq'])) (fun q hq' => hq q (by simp [hq']))]
    rfl
  refine ⟨?_, rfl, rfl, by simp only [Az]; omega, rfl, by simp only [flat]; rw [hf, hfl], by simp only [Pe.size]; rw [h1, Nat.mul_one]⟩
  simp only [WF, List.length_map, List.mem_map, true_and]
  rintro x ⟨q, hql, rfl⟩
  obtain ⟨x, rfl, hx⟩ := hq q hql
  exact hx
 ·refine ⟨?_, rfl, rfl, rfl, by simpa only [Pe.untup] using hut, rfl, rfl⟩
  simp only [WF]
  exact ⟨trivial, Ct fun q hq => (hl q hq).2.1, fun q hq => ⟨(hl q hq).2.2.2.2, (hl q hq).1, (hl q hq).2.2.1⟩⟩
theorem Re {d n : Nat} {t e : TypeId} {cs : List Value} (hu : P.underlying t = some (.array n e)) (hc : P.cellsOf t = n * P.cellsOf e) (hok : okT P d e = true) (hs : 0 < P.cellsOf e) (hl : cs.length = P.cellsOf t)
  (h : ∀ i, i < n → ∃ p, KE P w T d e ((cs.drop (i * P.cellsOf e)).take (P.cellsOf e)) p) : ∃ p, KE P w T (d + 1) t cs p := by
 have hex : ∀ i, ∃ p, i < n → KE P w T d e ((cs.drop (i * P.cellsOf e)).take (P.cellsOf e)) p := fun i => by
  by_cases hi : i < n
  ·obtain ⟨p, hp⟩ := h i hi; exact ⟨p, fun _ => hp⟩
  ·exact ⟨.undef, fun h => absurd h hi⟩
 obtain ⟨f, hf⟩ := Classical.axiomOfChoice hex
 have hmem : ∀ q ∈ (List.range n).map f, Pe.conf (CL P d e) q = true ∧ WF q ∧ Pe.noref q = true ∧ Pe.untup q = true ∧ Pe.size q = P.cellsOf e := by
  intro q hq
  obtain ⟨i, hi, rfl⟩ := List.mem_map.1 hq
  have := hf i (by simpa using hi)
  exact ⟨this.conf, this.wf, this.noref, this.untup, this.size⟩
 obtain ⟨a1, a2, a3, a4, a5, a6, a7⟩ := Iz hok hmem
 have hlen : ((List.range n).map f).length = n := by simp
 refine ⟨CP P d e ((List.range n).map f), ?_, a1, J6 a2, a5, by rw [a7, hlen, hc], hl, ?_, fun j q u hq hu' => ?_⟩
 ·unfold CP
  simp only [CL, hu]
  cases hk : P.underlying e with
  | none =>
   simp only [Pe.conf, Bool.and_eq_true, hlen]
   exact ⟨⟨Nat.beq_refl _, Nat.beq_refl _⟩, beq_refl _⟩
  | some dsc => cases dsc with
  | int k =>
   simp only [Pe.conf, Bool.and_eq_true, hlen]
   exact ⟨De k, Nat.beq_refl _⟩
  | _ =>
   simp only [Pe.conf, Bool.and_eq_true, hlen]
   exact ⟨⟨Nat.beq_refl _, Nat.beq_refl _⟩, beq_refl _⟩
 ·have : Pe.isAgg (CP P d e ((List.range n).map f)) = true := by unfold CP; split <;> rfl
  rw [this]
  simp only [Cm, hu]
 ·rw [a6] at hq
  have hwl : WFL ((List.range n).map f) := Ct fun q hq => (hmem q hq).2.1
  obtain ⟨p, h1, h2⟩ := Kt hs hwl (fun q hq => (hmem q hq).2.2.2.2) hq
  have hjn : j / P.cellsOf e < n := by have := (List.getElem?_eq_some_iff.1 h1).1; simpa using this
  have hp : p = f (j / P.cellsOf e) := by simp [hjn] at h1; exact h1.symm
  subst hp
  refine (hf _ hjn).rel (j % P.cellsOf e) q u h2 ?_
  rw [List.getElem?_take, if_pos (Nat.mod_lt _ hs), List.getElem?_drop, ← hu']
  congr 1
  rw [Nat.mul_comm]
  exact Nat.div_add_mod j (P.cellsOf e)
theorem Je {d tot : Nat} {cs : List Value} (hl : cs.length = tot) : ∀ {fs : List Field} {o : Nat}, Qh P tot o fs = true → (∀ f ∈ fs, okT P d f.type = true ∧ ∃ p, KE P w T d f.type ((cs.drop f.offset).take (P.cellsOf f.type)) p) →
  ∃ ps, Dz (fs.map fun f => CL P d f.type) ps = true ∧ WFL ps ∧ C9 ps = true ∧ BX ps = true ∧ o + AO ps = tot ∧ ∀ (j : Nat) (q : PV) (u : Value), (Ak ps)[j]? = some q → cs[o + j]? = some u → RC w T u q
 | [], o, h, _ => by
  simp only [Qh] at h
  exact ⟨[], rfl, by simp [WFL], rfl, rfl, by simp only [AO]; exact Nat.eq_of_beq_eq_true h, fun j q u hq => by simp [Ak] at hq⟩
 | f :: fs, o, h, hf => by
  simp only [Qh, Bool.and_eq_true] at h
  obtain ⟨h1, h2⟩ := h
  have ho := Nat.eq_of_beq_eq_true h1
  obtain ⟨_, p, hp⟩ := hf f (by simp)
  obtain ⟨ps, g1, g2, g3, g4, g5, g6⟩ := Je hl h2 fun x hx => hf x (by simp [hx])
  refine ⟨p :: ps, by simp only [List.map_cons, Dz, Bool.and_eq_true]; exact ⟨hp.conf, g1⟩, by simp only [WFL]; exact ⟨hp.wf, g2⟩, by simp only [C9, Bool.and_eq_true]; exact ⟨hp.noref, g3⟩, by simp only [BX, Bool.and_eq_true]; exact ⟨hp.untup, g4⟩, by simp only [AO, hp.size]; omega, fun j q u hq hu => ?_⟩
  simp only [Ak] at hq
  have hlp : (flat p).length = P.cellsOf f.type := by rw [Ai p hp.wf, hp.size]
  by_cases hj : j < P.cellsOf f.type
  ·rw [List.getElem?_append_left (by omega)] at hq
   refine hp.rel j q u hq ?_
   rw [List.getElem?_take, if_pos hj, List.getElem?_drop, ho]
   exact hu
  ·rw [List.getElem?_append_right (by omega), hlp] at hq
   refine g6 _ q u hq ?_
   rw [← hu]
   congr 1
   omega
end
section
variable {H : Type} {enc : TypeId × Value → H} {P : Program} {w : World} {base : Nat} {spare : Nat → Bool} {held : Bool}
theorem KG {a : Addr} {n : Nat} {cs : List Value} (h : w.cells? base a n = some cs) : cs.length = n ∧ ∀ j u, cs[j]? = some u → w.cell? (a.add j) = some u := by
 unfold World.cells? at h
 split at h
 ·have : ∀ {l : List Nat} {xs : List Value}, l.mapM (fun i => w.cell? (a.add i)) = some xs → xs.length = l.length ∧ ∀ (j : Nat) (i : Nat) (u : Value), l[j]? = some i → xs[j]? = some u → w.cell? (a.add i) = some u := by
   intro l
   induction l with
   | nil => intro xs h; simp at h; subst h; exact ⟨rfl, fun j i u hi => by simp at hi⟩
   | cons b l ih =>
    intro xs h
    rw [List.mapM_cons] at h
    simp only [Option.bind_eq_bind, Option.bind_eq_some_iff, Option.pure_def, Option.some.injEq] at h
    obtain ⟨y, hy, ys, hys, rfl⟩ := h
    obtain ⟨e1, e2⟩ := ih hys
    refine ⟨by simp [e1], fun j i u hi hu => ?_⟩
    cases j with
    | zero => simp at hi hu; subst hi; subst hu; exact hy
    | succ j => simp at hi hu; exact e2 j i u hi hu
  obtain ⟨e1, e2⟩ := this h
  refine ⟨by simpa using e1, fun j u hu => ?_⟩
  have hj : j < n := by have := (List.getElem?_eq_some_iff.1 hu).1; simp at e1; omega
  exact e2 j j u (by simp [hj]) hu
 ·cases h
theorem F9 : ∀ (d : Nat) (t : TypeId) (fuel : Nat) (cs : List Value) (x : DataW H × List MemPlace), okT P d t = true → DataW.trod enc P w base spare held fuel t cs = some x → ∃ p, KE P w (fun b _ => b < w.heap.size) d t cs p
 | 0, _, _, _, _, h, _ => by simp [okT] at h
 | d + 1, t, 0, cs, x, _, h => by simp [DataW.trod] at h
 | d + 1, t, fuel + 1, cs, x, hok, h => by
  have hsz : ∀ e, E5 P e = true → 0 < P.cellsOf e := fun e he => Nat.pos_of_ne_zero (BV he)
  simp only [okT] at hok
  split at hok
  ·rename_i hu
   have hc := Nat.eq_of_beq_eq_true hok
   obtain ⟨b, rfl, _⟩ := DataW.trod_bool hu h
   refine ⟨.bool b, by simp only [CL, hu]; rfl, trivial, rfl, rfl, hc.symm, by rw [hc]; rfl, by simp only [Cm, hu]; rfl, fun j q u hq hu' => ?_⟩
   cases j with
   | zero => simp [flat] at hq hu'; subst hq; subst hu'; exact .bool b
   | succ j => simp [flat] at hq
  ·rename_i k hu
   have hc := Nat.eq_of_beq_eq_true hok
   obtain ⟨n, rfl, _, hwf⟩ := DataW.trod_int hu h
   have hw : k.wrap n = n := by
    rw [Ap]
    simpa [Lit.wf, IntKind.has] using hwf
   refine ⟨.int k n, by simp only [CL, hu, conf]; cases k <;> rfl, by simp only [WF]; exact hw, rfl, rfl, hc.symm, by rw [hc]; rfl, by simp only [Cm, hu]; rfl, fun j q u hq hu' => ?_⟩
   cases j with
   | zero => simp [flat] at hq hu'; subst hq; subst hu'; exact .int k n
   | succ j => simp [flat] at hq
  ·rename_i hu
   have hc := Nat.eq_of_beq_eq_true hok
   obtain ⟨s, rfl, _, hs⟩ := DataW.trod_string hu h
   refine ⟨.str s, by simp only [CL, hu]; rfl, trivial, rfl, rfl, hc.symm, by rw [hc]; rfl, by simp only [Cm, hu]; rfl, fun j q u hq hu' => ?_⟩
   cases j with
   | zero => simp [flat] at hq hu'; subst hq; subst hu'; exact .str s hs
   | succ j => simp [flat] at hq
  ·rename_i fs hu
   simp only [Bool.and_eq_true, List.all_eq_true] at hok
   simp only [DataW.trod, hu] at h
   split at h
   ·rename_i hl
    simp only [Option.map_eq_some_iff] at h
    obtain ⟨xs, hxs, _⟩ := h
    obtain ⟨ps, g1, g2, g3, g4, g5, g6⟩ := Je (P := P) (w := w) (T := fun b _ => b < w.heap.size) (d := d) hl hok.1 (fun f hf => ⟨hok.2 f hf, by
     obtain ⟨y, hy⟩ := Mv hxs f hf
     exact F9 d f.type fuel _ y (hok.2 f hf) hy⟩)
    refine ⟨.st (P.cellsOf t) ps, by simp only [CL, hu, conf, Bool.and_eq_true]; exact ⟨Nat.beq_refl _, g1⟩, by simp only [WF]; exact ⟨by omega, g2⟩, by simp only [noref]; exact g3, by simp only [untup]; exact g4, rfl, hl, by simp only [Cm, hu]; rfl, fun j q u hq hu' => ?_⟩
    simp only [flat] at hq
    exact g6 j q u hq (by rw [Nat.zero_add]; exact hu')
   ·cases h
  ·rename_i n e hu
   simp only [Bool.and_eq_true] at hok
   have hc := Nat.eq_of_beq_eq_true hok.1.1
   simp only [DataW.trod, hu] at h
   split at h
   ·rename_i hl
    simp only [Option.map_eq_some_iff] at h
    obtain ⟨xs, hxs, _⟩ := h
    exact Re hu hc hok.2 (hsz e hok.1.2) hl fun i hi => by
     obtain ⟨y, hy⟩ := Mv hxs i (by simpa using hi)
     exact F9 d e fuel _ y hok.2 hy
   ·cases h
  ·rename_i e hu
   simp only [Bool.and_eq_true] at hok
   have hc := Nat.eq_of_beq_eq_true hok.1.1
   have hpos := hsz e hok.1.2
   have hone : ∀ (v : Value) (c : PV) (nl : Bool), cs = [v] → WF (.vec nl c) → Pe.conf (CL P (d + 1) t) (.vec nl c) = true → RC w (fun b _ => b < w.heap.size) v (.vec nl c) → ∃ p, KE P w (fun b _ => b < w.heap.size) (d + 1) t cs p := by
    rintro v c nl rfl h1 h2 h3
    refine ⟨.vec nl c, h2, h1, rfl, rfl, hc.symm, by rw [hc]; rfl, by simp only [Cm, hu]; rfl, fun j q u hq hu' => ?_⟩
    cases j with
    | zero => simp [flat] at hq hu'; subst hq; subst hu'; exact h3
    | succ j => simp [flat] at hq
   have hshape : ∀ l : List PV, ∀ nl, Pe.conf (CL P (d + 1) t) (.vec nl (CP P d e l)) = true := by
    intro l nl
    obtain ⟨d', rfl⟩ : ∃ d', d = d' + 1 := by cases d with
     | zero => simp [okT] at hok
     | succ d => exact ⟨d, rfl⟩
    have hsh : CL P (d' + 1 + 1) t = .vec (P.cellsOf e) (CL P (d' + 1) e) := SC hu
    rw [hsh]
    by_cases hk : ∃ k, P.underlying e = some (.int k)
    ·obtain ⟨k, hk⟩ := hk
     have : CP P (d' + 1) e l = .iarr k l.length (l.map PV.num) := by simp only [CP, hk]
     rw [this, Qr hk]
     simp only [Pe.conf]
     exact De k
    ·have : CP P (d' + 1) e l = .parr (P.cellsOf e) l.length (CL P (d' + 1) e) l := by
      unfold CP
      split
      ·rename_i k hk'; exact absurd ⟨k, hk'⟩ hk
      ·rfl
     rw [this]
     have hni : Sh.isInt (CL P (d' + 1) e) = false := by
      cases he : P.underlying e with
      | none => simp only [CL, he, Sh.isInt]
      | some dsc => cases dsc with
       | int k => exact absurd ⟨k, he⟩ hk
       | array n e' =>
        simp only [CL, he]
        split <;> rfl
       | _ => simp only [CL, he, Sh.isInt]
     cases hs2 : CL P (d' + 1) e with
     | int k => rw [hs2] at hni; simp [Sh.isInt] at hni
     | _ => simp only [Pe.conf, Bool.and_eq_true, Sh.isInt, Bool.not_false, true_and]; exact ⟨Nat.beq_refl _, beq_refl _⟩
   rcases DataW.trod_slice hu h with ⟨hx, _⟩ | ⟨a, len, cap, elems, rest, n, hf, hx, _, _, h1, h2, h3, h4, _⟩
   ·obtain ⟨a1, a2, a3, _⟩ := Iz (P := P) (d := d) (e := e) (l := []) hok.2 (fun q hq => by cases hq)
    exact hone _ (CP P d e []) true hx (by simp only [WF]; exact ⟨a1, a2, fun _ => a3⟩) (hshape [] true) (.vec0 _ _ _ _ a3 rfl (fun _ => rfl))
   ·have hfu : n = fuel := by omega
    subst hfu
    have hex : ∀ i, ∃ p, i < len → ∃ cs', w.cells? base (a.add (i * P.cellsOf e)) (P.cellsOf e) = some cs' ∧ KE P w (fun b _ => b < w.heap.size) d e cs' p := fun i => by
     by_cases hi : i < len
     ·have := h4 i hi
      rw [List.getElem?_eq_getElem (by omega), Option.bind_eq_some_iff] at this
      obtain ⟨cs', c1, c2⟩ := this
      obtain ⟨p, hp⟩ := F9 d e n cs' _ hok.2 c2
      exact ⟨p, fun _ => ⟨cs', c1, hp⟩⟩
     ·exact ⟨.undef, fun h => absurd h hi⟩
    obtain ⟨f, hf⟩ := Classical.axiomOfChoice hex
    have hmem : ∀ q ∈ (List.range len).map f, Pe.conf (CL P d e) q = true ∧ WF q ∧ Pe.noref q = true ∧ Pe.untup q = true ∧ Pe.size q = P.cellsOf e := by
     intro q hq
     obtain ⟨i, hi, rfl⟩ := List.mem_map.1 hq
     obtain ⟨cs', _, hp⟩ := hf i (by simpa using hi)
     exact ⟨hp.conf, hp.wf, hp.noref, hp.untup, hp.size⟩
    obtain ⟨a1, a2, a3, a4, a5, a6, a7⟩ := Iz hok.2 hmem
    have hlen : ((List.range len).map f).length = len := by simp
    rw [hlen] at a3
    rcases Nat.eq_zero_or_pos len with h0 | h0
    ·subst h0
     exact hone _ (CP P d e ((List.range 0).map f)) false hx (by simp only [WF]; exact ⟨a1, a2, fun e => by cases e⟩) (hshape _ false) (.vec0 _ _ _ _ a3 rfl (fun e => by cases e))
    ·have hsp : a.spot = none := by
      obtain ⟨cs', c1, hp⟩ := hf 0 h0
      obtain ⟨e1, e2⟩ := KG c1
      have := e2 0 cs'[0] (List.getElem?_eq_getElem (by omega))
      unfold World.cell? at this
      split at this
      ·split at this
       ·cases this
       ·rename_i hs
        simpa [Addr.add] using hs
      ·cases this
     obtain ⟨bk, o, sp⟩ := a
     simp only at hsp
     subst hsp
     have hcell : ∀ j, ∃ u, ∀ q, (flat (CP P d e ((List.range len).map f)))[j]? = some q → w.cell? ⟨bk, o + j, none⟩ = some u ∧ RC w (fun b _ => b < w.heap.size) u q := by
      intro j
      cases hj : (flat (CP P d e ((List.range len).map f)))[j]? with
      | none => exact ⟨Go.undef, fun q hq => by cases hq⟩
      | some q =>
       rw [a6] at hj
       obtain ⟨p, p1, p2⟩ := Kt hpos (Ct fun q hq => (hmem q hq).2.1) (fun q hq => (hmem q hq).2.2.2.2) hj
       have hjn : j / P.cellsOf e < len := by have := (List.getElem?_eq_some_iff.1 p1).1; simpa using this
       have hp : p = f (j / P.cellsOf e) := by simp [hjn] at p1; exact p1.symm
       subst hp
       obtain ⟨cs', c1, hp⟩ := hf _ hjn
       obtain ⟨e1, e2⟩ := KG c1
       have hm : j % P.cellsOf e < cs'.length := by rw [e1]; exact Nat.mod_lt _ hpos
       refine ⟨cs'[j % P.cellsOf e], fun q' hq' => ?_⟩
       cases hq'
       refine ⟨?_, hp.rel _ q _ p2 (List.getElem?_eq_getElem hm)⟩
       have := e2 _ _ (List.getElem?_eq_getElem hm)
       rw [BS, BS] at this
       rw [← this]
       congr 2
       rw [Nat.add_assoc, Nat.mul_comm, Nat.div_add_mod]
     obtain ⟨us, hus⟩ := Classical.axiomOfChoice hcell
     exact hone _ (CP P d e ((List.range len).map f)) false hx (by simp only [WF]; exact ⟨a1, a2, fun e => by cases e⟩) (hshape _ false)
      (.vec1 _ _ _ _ _ us a3 h1 h2 (fun j q hq => ⟨EH (hus j q hq).1, (hus j q hq).1⟩) (fun j q hq => (hus j q hq).2))
  ·cases hok
end
end Go.Pe
namespace Go.Pe
open Go.ChangeShapes Go.WideShapes Go.ChangeAt Go.RowKit
section
variable {H : Type} {enc : TypeId × Value → H} {P : Program}
theorem R6 {f : Func} {s : ChangeSpec} {apart fresh handsOn again : Bool} {W W' : World} {args : Array Value} {v : Value} {ds gs : List (DataW H)} {before pa pv : List MemPlace}
  (hW : DataW.Whole enc P f.params.toList s.vars apart W args.toList ds gs before)
  (hres : ∀ (b : Nat) (sp : Nat → Bool) (hd : Bool), DataW.TrodAll enc P W' b sp hd f.resultTypes.toList (v.resultList f.resultTypes.size) (s.fn H (ds ++ gs)).results [])
  (hargs : ∀ sp : Nat → Bool, (∀ p ∈ before, sp p.block = true) → DataW.TrodAll enc P W' 0 sp true f.params.toList args.toList (s.fn H (ds ++ gs)).args pa)
  (hvars : ∀ sp : Nat → Bool, (∀ p ∈ before, sp p.block = true) → DataW.TrodVars enc P W' sp s.vars (s.fn H (ds ++ gs)).vars pv)
  (hps : before = pa ++ pv) (hb : Below W.heap.size W W')
  (hok : ∀ (j : Nat) (t : TypeId) (r : Value), f.resultTypes[j]? = some t → (v.resultList f.resultTypes.size)[j]? = some r → Value.okWide P W' .any 0 t r) :
  s.post enc P f apart fresh handsOn again W args v W' := by
 have hlt : ∀ p ∈ before, p.block < W.heap.size := fun p hp => hW.lt p hp
 have hold : ∀ p ∈ before, (fun b => decide (b < W.heap.size)) p.block = true := fun p hp => by simpa using hlt p hp
 refine ⟨ds, gs, before, [], pa, pv, hW, hres _ _ _, hargs _ hold, hvars _ hold, World.keptBut_mono (fun p hp => ⟨hp, ?_⟩) (hb.frame (· ∈ before)), fun _ => ?_⟩
 ·rw [hps, List.mem_append] at hp
  exact Or.inr hp
 ·obtain ⟨_, _, _, _, _, hz, hn⟩ := hW
  refine ⟨hok, _, _, ([] ++ pa) ++ pv, ⟨[] ++ pa, pv, trodAll_append (hargs _ (fun _ _ => rfl)) (hres _ _ _), hvars _ (fun _ _ => rfl), rfl, ?_, ?_⟩, ?_⟩
  ·intro b off hp
   have hin : MemPlace.cell b off ∈ before := by rw [hps]; simpa using hp
   rw [hb.frozen (hlt _ hin)]
   exact hz b off hin
  ·intro ha
   have := hn ha
   rw [hps] at this
   simpa using this
  ·intro p hp _
   rw [hps]
   simpa using hp
theorem Ig (hl : laidOutB P = true) {W W' : World} (hb : Below W.heap.size W W') {sp : Nat → Bool} : ∀ {ts : List TypeId} {vs : List Value} {ds : List (DataW H)} {ps : List MemPlace}, (∀ t ∈ ts, P.readableRec t = true ∧ t < P.types.size) →
  DataW.TrodAll enc P W 0 (fun _ => true) true ts vs ds ps → (∀ p ∈ ps, sp p.block = true) → DataW.TrodAll enc P W' 0 sp true ts vs ds ps
 | [], [], [], _, _, h, _ => h
 | t :: ts, v :: vs, d :: ds, ps, ht, h, hs => by
  have hlt := h.lt
  obtain ⟨p, q, h1, h2, rfl⟩ := h
  exact ⟨p, q, WideElems.Trod_stays hl (ht t (by simp)).1 (ht t (by simp)).2 h1 (fun x hx => hb.same (hlt x (by simp [hx]))) (fun x hx => hs x (by simp [hx])),
   Ig hl hb (fun t ht' => ht t (by simp [ht'])) h2 (fun x hx => hs x (by simp [hx])), rfl⟩
 | [], _ :: _, _, _, _, h, _ => by simp [DataW.TrodAll] at h
 | [], [], _ :: _, _, _, h, _ => by simp [DataW.TrodAll] at h
 | _ :: _, [], _, _, _, h, _ => by simp [DataW.TrodAll] at h
 | _ :: _, _ :: _, [], _, _, h, _ => by simp [DataW.TrodAll] at h
structure Ins (P : Program) (ts : List TypeId) (ps : List PV) : Prop where
 conf : Dz (ts.map (CL P 9)) ps = true
 wf : WFL ps
 untup : BX ps = true
theorem WP {W : World} {base : Nat} {t : TypeId} {v : Value} {p : PV} (hv : Value.okWide P W .any base t v) (h : KE P W (fun b _ => b < W.heap.size) 9 t v.cells.toList p) : RV W (fun b _ => b < W.heap.size) (fun _ => none) v p := by
 have hnt : ∀ vs, p ≠ .tup vs := fun vs e => by have := h.untup; subst e; simp [Pe.untup] at this
 cases ha : Pe.isAgg p with
 | true =>
  have hat : Cm P t = true := by rw [← h.agg]; exact ha
  have : ∃ cs, v = .agg cs := by
   unfold Cm at hat
   unfold Value.okWide at hv
   split at hat
   ·rename_i fs hu
    rw [hu] at hv
    obtain ⟨cs, hc, _⟩ := hv
    exact ⟨cs, hc⟩
   ·rename_i n e hu
    rw [hu] at hv
    obtain ⟨cs, hc, _⟩ := hv
    exact ⟨cs, hc⟩
   ·cases hat
  obtain ⟨cs, rfl⟩ := this
  refine RV.J4 ha h.wf ⟨cs, rfl, ?_, fun j q u hq hu => RO.Cb (h.rel j q u hq ?_)⟩
  ·have := h.len
   simp only [Value.cells, Array.length_toList] at this
   rw [this, h.size]
  ·simpa [Value.cells] using hu
 | false =>
  have hl : Pe.leaf p = true := by rw [Pe.leaf_agg, ha]; rfl
  have hone : v.cells = #[v] := by
   have hnagg : ∀ cs, v ≠ .agg cs := by
    rintro cs rfl
    have hat : Cm P t = false := by rw [← h.agg]; exact ha
    unfold Value.okWide at hv
    unfold Cm at hat
    split at hv
    ·rename_i fs hu; rw [hu] at hat; cases hat
    ·rename_i n e hu; rw [hu] at hat; cases hat
    ·unfold Cell.okWide at hv
     split at hv <;> simp_all [Cell.ok]
   cases v <;> first | rfl | exact absurd rfl (hnagg _)
  refine RV.AC hl hnt h.wf (RO.Cb (h.rel 0 p v (by rw [EZ hl]; rfl) (by rw [hone]; rfl)))
theorem WA {W : World} {base : Nat} : ∀ {ts : List TypeId} {vs : List Value} {ds : List (DataW H)} {ps : List MemPlace}, (∀ t ∈ ts, okT P 9 t = true) → (∀ (j : Nat) t v, ts[j]? = some t → vs[j]? = some v → Value.okWide P W .any base t v) →
  DataW.TrodAll enc P W 0 (fun _ => true) true ts vs ds ps → ∃ qs, Ins P ts qs ∧ qs.length = vs.length ∧ ∀ (j : Nat) (p : PV) (v : Value), qs[j]? = some p → vs[j]? = some v → RV W (fun b _ => b < W.heap.size) (fun _ => none) v p
 | [], [], [], _, _, _, _ => ⟨[], ⟨rfl, by simp [WFL], rfl⟩, rfl, fun j p v hp => by simp at hp⟩
 | t :: ts, v :: vs, d :: ds, ps, ht, hv, h => by
  obtain ⟨p, q, ⟨fuel, h1⟩, h2, rfl⟩ := h
  obtain ⟨x, hx⟩ := F9 9 t fuel _ _ (ht t (by simp)) h1
  obtain ⟨qs, g1, g2, g3⟩ := WA (fun t' h' => ht t' (by simp [h'])) (fun j t' v' hj hj' => hv (j + 1) t' v' (by simpa using hj) (by simpa using hj')) h2
  refine ⟨x :: qs, ⟨by simp only [List.map_cons, Dz, Bool.and_eq_true]; exact ⟨hx.conf, g1.conf⟩, by simp only [WFL]; exact ⟨hx.wf, g1.wf⟩, by simp only [BX, Bool.and_eq_true]; exact ⟨hx.untup, g1.untup⟩⟩, by simp [g2], fun j p' v' hp hv' => ?_⟩
  cases j with
  | zero =>
   simp at hp hv'
   subst hp; subst hv'
   exact WP (hv 0 t v rfl rfl) hx
  | succ j => simp at hp hv'; exact g3 j p' v' hp hv'
 | [], _ :: _, _, _, _, _, h => by simp [DataW.TrodAll] at h
 | [], [], _ :: _, _, _, _, h => by simp [DataW.TrodAll] at h
 | _ :: _, [], _, _, _, _, h => by simp [DataW.TrodAll] at h
 | _ :: _, _ :: _, [], _, _, _, h => by simp [DataW.TrodAll] at h
theorem Rc {w w' : World} {M : T2} (hM : ∀ b o, ¬ M b o) (h : FR M w w') : Below w.heap.size w w' := by
 refine ⟨h.os, h.tape, h.output, h.size, fun k hk => ?_⟩
 rcases h.block k hk with e | ⟨_, _, _, _, _, _, m3⟩ | ⟨cs, cs', t, fz, e1, e2, e3, e4⟩
 ·exact e.symm
 ·exact absurd m3 (hM k 0)
 ·rw [e1, e2]
  have : cs' = cs := by
   apply Array.ext_getElem?
   intro i
   exact e4 i (hM k i)
  rw [this]
end
end Go.Pe
namespace Go.Pe
open Go.ChangeShapes Go.WideShapes Go.ChangeAt Go.RowKit
section
variable {H : Type} {enc : TypeId × Value → H} {P : Program}
theorem QG {α β : Type} {g : α → Option β} : ∀ {l : List α} {xs : List β}, l.mapM g = some xs → ∀ (i : Nat) (a : α), l[i]? = some a → ∃ y, xs[i]? = some y ∧ g a = some y
 | [], _, _, i, a, hi => by simp at hi
 | b :: l, xs, h, i, a, hi => by
  rw [List.mapM_cons] at h
  simp only [Option.bind_eq_bind, Option.bind_eq_some_iff] at h
  obtain ⟨y, hy, ys, hys, hx⟩ := h
  obtain rfl := Option.some.inj hx
  cases i with
  | zero => simp at hi; subst hi; exact ⟨y, rfl, hy⟩
  | succ i => exact QG hys i a (by simpa using hi)
theorem QQ {w : World} : ∀ {l : List (String × DataW Unit)} {ps : List MemPlace}, DataW.LaidVars P w l ps → ∀ x ∈ l, ∃ g t cs fuel p, P.globalNamed x.1 = some g ∧ (P.globals[g]?).map (·.type) = some t ∧ w.var? P x.1 = some cs ∧ DataW.trod (fun _ => ()) P w 0 (fun _ => true) false fuel t cs.toList = some (x.2, p)
 | [], _, _, x, hx => by cases hx
 | (n, d) :: l, ps, h, x, hx => by
  simp only [DataW.LaidVars] at h
  obtain ⟨g, t, cs, fuel, p, q, h1, h2, h3, h4, h5, _⟩ := h
  rcases List.mem_cons.1 hx with rfl | hx
  ·exact ⟨g, t, cs, fuel, p, h1, h2, h3, h4⟩
  ·exact QQ h5 x hx
theorem trod_int {w : World} {base fuel : Nat} {sp : Nat → Bool} {held : Bool} {t : TypeId} {k k' : IntKind} {n : Int} {cs : List Value} {p : List MemPlace} (hu : P.underlying t = some (.int k))
  (h : DataW.trod enc P w base sp held fuel t cs = some (.lit (.int k' n), p)) : cs = [.int k n] := by
 cases fuel with
 | zero => simp [DataW.trod] at h
 | succ fuel =>
  simp only [DataW.trod, hu] at h
  split at h <;> simp_all
theorem glob_ints {W : World} {laid : List (String × DataW Unit)} (h : laidMet P laid W) {name : String} {g t e m : Nat} {k : IntKind} {ls : List Int} (hin : (name, .agg (ls.map fun v => .lit (.int k v))) ∈ laid)
  (hg : P.globalNamed name = some g) (ht : (P.globals[g]?).map (·.type) = some t) (hu : P.underlying t = some (.array m e)) (he : P.underlying e = some (.int k)) (hce : P.cellsOf e = 1) (hct : P.cellsOf t = m) (hm : ls.length = m) :
  RC W (fun b _ => b < W.heap.size) (.pointer (some ⟨g, 0, none⟩)) (.cptr (.iarr k m ls) []) := by
 obtain ⟨ps, hL, _, _⟩ := h
 obtain ⟨g', t', cs, fuel, p, h1, h2, h3, h4⟩ := QQ hL _ hin
 obtain rfl := Option.some.inj (hg.symm.trans h1)
 obtain rfl := Option.some.inj (ht.symm.trans h2)
 have hcell : ∀ (i : Nat) (v : Int), ls[i]? = some v → cs[i]? = some (Value.int k v) := by
  intro i v hv
  cases fuel with
  | zero => simp [DataW.trod] at h4
  | succ fuel =>
   simp only [DataW.trod, hu] at h4
   split at h4
   ·rename_i hl
    simp only [Option.map_eq_some_iff] at h4
    obtain ⟨xs, hxs, hd⟩ := h4
    simp only [Prod.mk.injEq, DataW.agg.injEq] at hd
    have hi : i < ls.length := by
     rw [List.getElem?_eq_some_iff] at hv
     exact hv.1
    obtain ⟨y, hy1, hy2⟩ := QG hxs i i (by rw [List.getElem?_range (by omega)])
    have hy : (xs.map (·.1))[i]? = some y.1 := by rw [List.getElem?_map, hy1]; rfl
    rw [hd.1, List.getElem?_map, hv] at hy
    obtain ⟨y1, y2⟩ := y
    simp only [Option.map_some, Option.some.injEq] at hy
    subst hy
    have := trod_int he hy2
    rw [hce, Nat.mul_one] at this
    have e : cs.toList[i]? = some (Value.int k v) := by
     have e0 := congrArg (fun l => l[0]?) this
     simpa using e0
    simpa using e
   ·cases h4
 have hcw : ∀ (i : Nat) (v : Int), ls[i]? = some v → W.cell? ⟨g, i, none⟩ = some (Value.int k v) := fun i v hv => by rw [World.var?_cell hg h3, hcell i v hv]
 refine RC.cptr g 0 _ [] (fun j => Value.int k (ls.getD j 0)) ?_ ?_
 ·intro j q hq
  simp only [flat, List.getElem?_map, Option.map_eq_some_iff] at hq
  obtain ⟨v, hv, rfl⟩ := hq
  have hc := hcw j v hv
  rw [Nat.zero_add]
  refine ⟨?_, by rw [hc, List.getD_eq_getElem?_getD, hv]; rfl⟩
  rcases Nat.lt_or_ge g W.heap.size with h | h
  ·exact h
  ·simp [World.cell?, Array.getElem?_eq_none h] at hc
 ·intro j q hq
  simp only [flat, List.getElem?_map, Option.map_eq_some_iff] at hq
  obtain ⟨v, hv, rfl⟩ := hq
  rw [List.getD_eq_getElem?_getD, hv]
  exact .int k v
theorem wants_of {ps : Array TypeId} (h : ps.toList.all (fun t => !P.wantsStandIn t) = true) (j : Nat) (t : TypeId) (ht : ps[j]? = some t) : P.wantsStandIn t = false := by
 have := List.all_eq_true.1 h t (by rw [← Array.getElem?_toList] at ht; exact List.mem_of_getElem? ht)
 simpa using this
noncomputable def laidW (P : Program) (os : Os) (g : Nat) (cs : Array Value) : World :=
 let w0 := World.holding P os ⟨#[], #[], []⟩
 { w0 with heap := w0.heap.modify g fun
   | .cells _ t frozen => .cells cs t frozen
   | o => o }
theorem law_callsG {G : Nat → Option PV} {f : FuncId} {fn : Func} {s : ChangeSpec} {apart fresh handsOn again : Bool} {tb : TypeId} (hl : laidOutB P = true) (hvars : s.vars = []) (hr : fn.resultTypes = #[tb]) (hb : P.underlying tb = some .bool)
  (hbody : O1 P f) (hspec : ∀ ds : List (DataW H), ds.length = fn.params.toList.length → s.fn H ds = { results := [.lit (.bool true)], args := ds })
  (ht : fn.params.toList.all (fun t => okT P 9 t && P.readableRec t && Nat.blt t P.types.size) = true)
  (hpc : ∀ ps, Ins P fn.params.toList ps → PC P G f [] ps [] (.bool true))
  {W : World} (hG : ∀ g c, G g = some c → WF c ∧ noref c = true ∧ RC W (fun b _ => b < W.heap.size) (.pointer (some ⟨g, 0, none⟩)) (.cptr c []))
  {base : Nat} {args : Array Value} {ds gs : List (DataW H)} {before : List MemPlace}
  (hval : ∀ (j : Nat) t v, fn.params[j]? = some t → args[j]? = some v → Value.okWide P W .any base t v)
  (hW : DataW.Whole enc P fn.params.toList s.vars apart W args.toList ds gs before) :
  Calls P f args W fun e W' => ∃ v, e = .returned v ∧ s.post enc P fn apart fresh handsOn again W args v W' := by
 have ht' : ∀ t ∈ fn.params.toList, okT P 9 t = true ∧ P.readableRec t = true ∧ t < P.types.size := by
  intro t h
  have := List.all_eq_true.1 ht t h
  simp only [Bool.and_eq_true] at this
  exact ⟨this.1.1, this.1.2, Nat.blt_eq ▸ this.2⟩
 have hW' := hW
 obtain ⟨p, q, hA, hV, rfl, hz, hn⟩ := hW
 rw [hvars] at hV
 obtain ⟨rfl, rfl⟩ := trodVars_none hV
 obtain ⟨l1, l2⟩ := trodAll_length hA
 obtain ⟨qs, g1, g2, g3⟩ := WA (base := base) (fun t h => (ht' t h).1) (fun j t v h1 h2 => hval j t v (by rw [← Array.getElem?_toList]; exact h1) (by rw [← Array.getElem?_toList]; exact h2)) hA
 have hM : ∀ b o, ¬ Mut (fun _ => none) (Ad ([] : List (Nat × Row))) b o := by
  rintro b o ⟨i, r, pl, h1, _⟩
  simp [Ad] at h1
 have hc := hpc qs g1
 refine Calls.mono (Enters.calls hbody (hc (fun b _ => b < W.heap.size) (fun _ => none) W args (fun b o _ => hM b o) ⟨fun i r hi => by simp [Ad] at hi, fun i i' r r' pl pl' _ h1 => by simp [Ad] at h1⟩ (fun _ _ => rfl) hG
  (by rw [g2]; simp) (fun j p v hp hv _ => g3 j p v hp (by rw [Array.getElem?_toList]; exact hv)))) fun e W' he => ?_
 obtain ⟨v, ρ', rfl, r1, _, _, r4, _⟩ := he
 have hvb : v = .bool true := by
  have := r1.Bd rfl (fun _ e => by cases e)
  simp only [RO] at this
  cases this
  rfl
 subst hvb
 have hbel := Rc hM r4
 have hsp := hspec ds l2
 refine ⟨_, rfl, R6 (pa := p) (pv := []) hW' ?_ ?_ ?_ (by simp) hbel ?_⟩
 ·intro b sp hd
  rw [List.append_nil, hsp, hr]
  exact trodAll_mk1 (shut_bool hb true)
 ·intro sp hs
  rw [List.append_nil, hsp]
  exact Ig hl hbel (fun t h => (ht' t h).2) hA (fun x hx => hs x (by simp [hx]))
 ·intro sp hs
  rw [List.append_nil, hsp, hvars]
  rfl
 ·rw [hr]
  exact ok_one (f := { fn with resultTypes := #[tb] }) rfl rfl (okWide_bool_mk hb true)
end
end Go.Pe
