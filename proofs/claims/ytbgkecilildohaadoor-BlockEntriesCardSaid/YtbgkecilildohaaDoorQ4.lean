/- Merged texts: the pure machine and what the walks show. Conditions: as each statement says. -/
import Derived.Test.YtbgkecilildohaaDoorQ3
namespace Go.Proofs
open Go Go.Pe Go.Pm
set_option maxRecDepth 100000
set_option linter.unusedVariables false
def hv (x : List Int) : PV := .iarr .u8 32 x
def hsE : Sh := .iarr .u8 32
def hL (n : Nat) (l : List (List Int)) : PV := .parr 32 n (.iarr .u8 32) (l.map hv)
/-- hashes -/
structure HsOk (l : List (List Int)) (n : Nat) : Prop where
  len : l.length = n
  el : ∀ x ∈ l, x.length = 32 ∧ Bytes x
theorem hv_get {l : List (List Int)} {i : Nat} (h : i < l.length) : (l.map hv).getD i .undef = hv (l.getD i []) := by
  simp [List.getD_eq_getElem?_getD, h]
theorem HsOk.get {l : List (List Int)} {n i : Nat} (h : HsOk l n) (hi : i < n) : (l.getD i []).length = 32 ∧ Bytes (l.getD i []) := by
  have hi' : i < l.length := by rw [h.len]; exact hi
  have : l.getD i [] = l[i] := by simp [List.getD_eq_getElem?_getD, hi']
  rw [this]
  exact h.el _ (List.getElem_mem hi')
theorem HsOk.above {l : List (List Int)} {n : Nat} (h : HsOk l n) : HsOk (above l) ((n + 1) / 2) := by
  refine ⟨by rw [above_length, h.len], fun x hx => ?_⟩
  unfold Pm.above at hx
  obtain ⟨i, _, rfl⟩ := List.mem_map.1 hx
  exact ⟨sha_length _, sha_bytes _⟩
theorem pc_pair {a b : List Int} (ha : a.length = 32 ∧ Bytes a) (hb : b.length = 32 ∧ Bytes b) : PC Tryd.prog G0 47 [] [.vec false (.parr 1 2 bsh [.vec false (.iarr .u8 32 a), .vec false (.iarr .u8 32 b)])] [] (.iarr .u8 32 (dsha (a ++ b))) := by
  have e : cat [(false, 32, a), (false, 32, b)] = a ++ b := by simp [cat]
  have c := pc_twice (nl := false) (l := [(false, 32, a), (false, 32, b)]) (c := 2) rfl (by intro x hx; simp at hx; rcases hx with rfl | rfl; exact ⟨ha.1, ha.2⟩; exact ⟨hb.1, hb.2⟩) (by rw [e, List.length_append]; omega) (by omega)
  rw [e] at c
  exact c
def dsAb (nl : Bool) (n : Nat) (L M : List PV) (j : Nat) : DS := ⟨[(0, .vec nl (.parr 32 n hsE L)), (3, .ref 1 [] 32 0 j), (4, .int .i64 ((2 * j : Nat) : Int))], [(1, ⟨.parr 32 j hsE M, false⟩)]⟩
theorem W_above {nl : Bool} {l : List (List Int)} {n : Nat} (ho : HsOk l n) (hn : n ≤ 100000) : ∀ (k j : Nat), k + j = (n + 1) / 2 →
    W Tryd.prog G0 Tryd.f66 [] [(1, ⟨hL ((n + 1) / 2) (above l), false⟩)] (.ref 1 [] 32 0 ((n + 1) / 2)) (loopAt Tryd.f66 0) (dsAb nl n (l.map hv) (((above l).take j).map hv) j)
  | 0, j, hk => by
    have e : (above l).take j = above l := List.take_of_length_le (by rw [above_length, ho.len]; omega)
    rw [e]
    have hj : j = (n + 1) / 2 := by omega
    rw [← hj]
    have hge : ¬ (((2 * j : Nat) : Int) < (n : Int)) := by omega
    generalize above l = M at *
    generalize l.map hv = L at *
    unfold hL
    refine W.ret [(3, aF)] [(1, 1)] [decide ((↑(2 * j) : Int) < (n:Int)) = false, rr (PV.parr 32 j (Sh.iarr IntKind.u8 32) (List.map hv M)), rr (PV.ref 1 [] 32 0 j)] (by kernel_rfl) (ac (decide_eq_false (by omega)) (ac rfl (ao rfl)))
  | k + 1, j, hk => by
    have h1 : 2 * j < n := by omega
    obtain ⟨m, hm⟩ : ∃ m, m = min (2 * j + 1) (n - 1) := ⟨_, rfl⟩
    have hmI : mn (((2 * j + 1 : Nat)) : Int) ((n : Int) - 1) = (m : Int) := by unfold mn; split <;> omega
    have g1 := hv_get (l := l) (i := 2 * j) (by rw [ho.len]; omega)
    have g2 := hv_get (l := l) (i := m) (by rw [ho.len]; omega)
    have o1 := ho.get (i := 2 * j) (by omega)
    have o2 := ho.get (i := m) (by omega)
    have c1 := pc_pair o1 o2
    have hab := above_get (l := l) (i := j) (by rw [ho.len]; omega)
    rw [ho.len, ← hm] at hab
    have hsucc : (above l).take (j + 1) = (above l).take j ++ [(above l).getD j []] := by
      rw [List.take_add_one]
      congr 1
      rw [List.getD_eq_getElem?_getD, List.getElem?_eq_getElem (by rw [above_length, ho.len]; omega)]
      rfl
    have hw := W_above (nl := nl) ho hn k (j + 1) (by omega)
    rw [hsucc, hab, List.map_append] at hw
    have hMl : (((above l).take j).map hv).length = j := by rw [List.length_map, List.length_take, above_length, ho.len]; omega
    generalize dsha (l.getD (2 * j) [] ++ l.getD m []) = res at *
    generalize l.getD (2 * j) [] = x at *
    generalize l.getD m [] = y at *
    generalize ((above l).take j).map hv = M at *
    generalize l.map hv = L at *
    generalize above l = A at *
    generalize hres : (n + 1) / 2 = N at *
    unfold hv at *
    refine W.seg [(3, aT), (6, aV (PV.cptr (PV.parr 32 n (Sh.iarr IntKind.u8 32) L) [Stp.idx (2 * j) 32])), (7, aV (B8 32 x)), (10, aV (I6 (↑(2 * j + 1) : Int))), (13, aV (I6 ((n:Int) - 1))), (14, aV (I6 (m:Int))), (16, aV (B8 32 y)), (24, Ans.frz [336, 352]), (25, Ans.calla true [] [] [PV.vec false (PV.parr 1 2 bsh [PV.vec false (B8 32 x), PV.vec false (B8 32 y)])] [] (B8 32 res)), (27, Ans.ups [(1, none), (496, some (Row.mk (PV.parr 32 (j + 1) (Sh.iarr IntKind.u8 32) (M ++ [B8 32 res])) false))]), (30, aV (I6 (↑(2 * j + 2) : Int)))] [(496, 1)] (dsAb nl n L (M ++ List.map (B8 32) [res]) (j + 1)) (todo' := loopAt Tryd.f66 0) [decide ((↑(2 * j) : Int) < (n:Int)) = true, PV.cptr (PV.parr 32 n (Sh.iarr IntKind.u8 32) L) [Stp.idx (Int.toNat (↑(2 * j) : Int)) 32] = PV.cptr (PV.parr 32 n (Sh.iarr IntKind.u8 32) L) [Stp.idx (2 * j) 32], 0 ≤ (↑(2 * j) : Int), (↑(2 * j) : Int) < (n:Int), B8 32 (PV.nums (List.getD L (2 * j) PV.undef)) = B8 32 x, 2 * j < n, I6 (IntKind.wrap .i64 ((↑(2 * j) : Int) + 1)) = I6 (↑(2 * j + 1) : Int), I6 (IntKind.wrap .i64 ((n:Int) - 1)) = I6 ((n:Int) - 1), I6 (mn (↑(2 * j + 1) : Int) ((n:Int) - 1)) = I6 (m:Int), 0 ≤ (m:Int), (m:Int) < (n:Int), B8 32 (PV.nums (List.getD L m PV.undef)) = B8 32 y, m < n, (0 : Int) ≤ (0 : Int), 0 ≤ (↑(32 : Nat) : Int), (↑(32 : Nat) : Int) ≤ (↑(32 : Nat) : Int), (0 : Int) ≤ (0 : Int), 0 ≤ (↑(32 : Nat) : Int), (↑(32 : Nat) : Int) ≤ (↑(32 : Nat) : Int), 32 ≤ 32, 32 ≤ 32, 2 ≤ 2, rr ([] : List (Nat × Row)), ([PV.vec false (PV.parr 1 2 (Sh.vec 1 (Sh.int IntKind.u8)) [PV.vec false (B8 32 (List.take 32 x)), PV.vec false (B8 32 (List.take 32 y))])] : List PV) = [PV.vec false (PV.parr 1 2 (Sh.vec 1 (Sh.int IntKind.u8)) [PV.vec false (B8 32 x), PV.vec false (B8 32 y)])], PC Tryd.prog G0 47 [] [PV.vec false (PV.parr 1 2 (Sh.vec 1 (Sh.int IntKind.u8)) [PV.vec false (B8 32 x), PV.vec false (B8 32 y)])] [] (B8 32 res), ([(1, none), (496, some (Row.mk (PV.parr 32 (j + 1) (Sh.iarr IntKind.u8 32) (List.take j M ++ [B8 32 res])) false))] : List (Nat × Option Row)) = [(1, none), (496, some (Row.mk (PV.parr 32 (j + 1) (Sh.iarr IntKind.u8 32) (M ++ [B8 32 res])) false))], 1 ≤ 1, 0 + j = j, (j + 1) * 32 ≤ 140737488355328, j + 1 ≤ 9223372036854775807, I6 (IntKind.wrap .i64 ((↑(2 * j) : Int) + 2)) = I6 (↑(2 * j + 2) : Int), rr (PV.vec nl (PV.parr 32 n (Sh.iarr IntKind.u8 32) L)), rr (PV.ref 1 [] 32 0 (j + 1)), I6 (↑(2 * j + 2) : Int) = I6 (↑(2 * (j + 1)) : Int), rr (PV.parr 32 (j + 1) (Sh.iarr IntKind.u8 32) (M ++ [B8 32 res]))] (by kernel_rfl) (ac (decide_eq_true (by omega)) (ac (by rw [show Int.toNat (↑(2 * j) : Int) = 2 * j by omega]) (ac (by omega) (ac (by omega) (ac (by (rw [g1]; rfl)) (ac (by omega) (ac (cg (w_i64 rfl (by omega) (by omega))) (ac (cg (w_i64 rfl (by omega) (by omega))) (ac (cg (hmI)) (ac (by omega) (ac (by omega) (ac (by (rw [g2]; rfl)) (ac (by omega) (ac (by omega) (ac (by omega) (ac (by omega) (ac (by omega) (ac (by omega) (ac (by omega) (ac (by omega) (ac (by omega) (ac (by omega) (ac rfl (ac (by rw [List.take_of_length_le (show List.length x ≤ 32 by omega), List.take_of_length_le (show List.length y ≤ 32 by omega)]) (ac (c1) (ac (by rw [List.take_of_length_le (show List.length M ≤ j by omega)]) (ac (by omega) (ac (by omega) (ac (by omega) (ac (by omega) (ac (cg (w_i64 rfl (by omega) (by omega))) (ac rfl (ac rfl (ac (cg (by omega)) (ao rfl))))))))))))))))))))))))))))))))))) ?_
    exact hw
end Go.Proofs
namespace Go.Proofs
open Go Go.Pe Go.Pm
set_option maxRecDepth 100000
set_option linter.unusedVariables false
theorem pc_above {nl : Bool} {l : List (List Int)} {n : Nat} (ho : HsOk l n) (hn : n ≤ 100000) : PC Tryd.prog G0 66 [] [.vec nl (hL n l)] [(1, ⟨hL ((n + 1) / 2) (above l), false⟩)] (.ref 1 [] 32 0 ((n + 1) / 2)) := by
  refine PC.of (fn := Tryd.f66) (c := bodyOf Tryd.f66) Tryd.func66 (by kernel_rfl) (by kernel_rfl) (by kernel_rfl) (by kernel_rfl) ?_
  have hw := W_above (nl := nl) ho hn ((n + 1) / 2) 0 (by omega)
  have e : ((above l).take 0).map hv = [] := rfl
  rw [e] at hw
  generalize above l = A at *
  unfold hL at *
  have hN : ((n : Int) + 1).tdiv 2 = (((n + 1) / 2 : Nat) : Int) := by rw [Int.tdiv_eq_ediv_of_nonneg (by omega)]; omega
  generalize (n + 1) / 2 = N at *
  generalize l.map hv = L at *
  refine W.seg [(3, aV (I6 (↑(n + 1) : Int))), (4, aV (I6 (↑((n + 1) / 2) : Int)))] [(144, 1)] (dsAb nl n L [] 0) (todo' := loopAt Tryd.f66 0) [I6 (IntKind.wrap .i64 ((n:Int) + 1)) = I6 (↑(n + 1) : Int), I6 (IntKind.wrap .i64 (Int.tdiv (↑(n + 1) : Int) (2 : Int))) = I6 (↑((n + 1) / 2) : Int), (2 : Int) ≠ (0 : Int), (0 : Int) ≤ (0 : Int), 0 ≤ (↑((n + 1) / 2) : Int), (↑((n + 1) / 2) : Int) ≤ (9223372036854775807 : Int), (↑(32 : Nat) : Int) * (↑((n + 1) / 2) : Int) ≤ (140737488355328 : Int), rr (PV.vec nl (PV.parr 32 n (Sh.iarr IntKind.u8 32) L)), rr (PV.ref 1 [] 32 0 0), I6 0 = I6 (↑(0 : Nat) : Int), rr (PV.parr 32 0 (Sh.iarr IntKind.u8 32) [])] (by kernel_rfl) (ac (cg (w_i64 rfl (by omega) (by omega))) (ac (cg (w_i64 rfl (by omega) (by omega))) (ac (by omega) (ac (by omega) (ac (by omega) (ac (by omega) (ac (by omega) (ac rfl (ac rfl (ac (cg (by omega)) (ao rfl))))))))))) ?_
  exact hw
theorem pc_levels {nl : Bool} {c : PV} (hc : good (.vec nl c) = true) : PC Tryd.prog G0 72 [] [.vec nl c] [(1, ⟨.vec nl c, false⟩)] (.fn 87 1) := by
  refine PC.of (fn := Tryd.f72) (c := bodyOf Tryd.f72) Tryd.func72 (by kernel_rfl) (by kernel_rfl) (by kernel_rfl) (by kernel_rfl) ?_
  refine W.ret [] [(64, 1)] [rr (PV.vec nl c), rr (PV.fn 87 1)] (by kernel_rfl) (ac rfl (ao rfl))
end Go.Proofs
namespace Go.Proofs
open Go Go.Pe Go.Pm
set_option maxRecDepth 100000
set_option linter.unusedVariables false
def z32 : List Int := List.replicate 32 0
def yv (l : Nat) : PV := .fv (.func (.yield l) #[] #[])
def rows3 (rt : List Int) (nl : Bool) (c : PV) : List (Nat × Row) := [(1, ⟨.iarr .u8 32 z32, false⟩), (2, ⟨.iarr .u8 32 rt, false⟩), (3, ⟨.vec nl c, false⟩)]
def dRootR (rt : List Int) (nl : Bool) (c : PV) : DS := ⟨[(2, .at 1 []), (3, .at 2 []), (6, .fn 87 3)], rows3 rt nl c⟩
def frRoot : List (Nat × PV) := [(2, .at 1 []), (3, .at 2 [])]
def dLev (y : Nat) (rt : List Int) (nl : Bool) (c : PV) : DS := ⟨[(0, yv y), (1, .at 3 [])], rows3 rt nl c⟩
def dLevY (y : Nat) (rt : List Int) (nl : Bool) (c : PV) : DS := ⟨[(0, yv y), (1, .at 3 []), (3, yv y), (4, .vec nl c)], rows3 rt nl c⟩
/-- what the loop over the levels leaves in the root's place -/
def rootW (l : List (List Int)) (rt : List Int) : List Int := if l.length = 1 then l.getD 0 [] else rt
theorem W_rootEnd {rt : List Int} : WM Tryd.prog G0 Tryd.f50 [] [] (.iarr .u8 32 rt) (rgK (stopIn Tryd.f50 0)) ⟨frRoot, [(1, ⟨.iarr .u8 32 z32, false⟩), (2, ⟨.iarr .u8 32 rt, false⟩)]⟩ := by
  unfold frRoot
  refine WM.ret [] [] [rr (B8 32 rt)] (by kernel_rfl) (ao rfl)
def dRnd (rt : List Int) (nl : Bool) (c : PV) : DS := ⟨[(2, .at 1 []), (3, .at 2 []), (4, .vec nl c)], rows3 rt nl c⟩
theorem W_rootRound {y : Nat} {rt res : List Int} {nl : Bool} {l : List (List Int)} {n : Nat} (ho : HsOk l n) (hn : n ≤ 100000)
    (hw : WH Tryd.prog G0 Tryd.f87 [1, 2] (HIter (rangeOf Tryd.f50 0 [] (.iarr .u8 32 res) [] frRoot 87) y .ready none) (.inRegion (rgOps (stopIn Tryd.f87 0)) (rgRest (stopIn Tryd.f87 0)) :: rgK (stopIn Tryd.f87 0))
      ⟨[(0, yv y), (1, .at 3 []), (5, .bool true)], rows3 (rootW l rt) nl (hL n l)⟩) :
    WH Tryd.prog G0 Tryd.f87 [1, 2] (HIter (rangeOf Tryd.f50 0 [] (.iarr .u8 32 res) [] frRoot 87) y .ready none) (stopIn Tryd.f87 0) (dLevY y rt nl (hL n l)) := by
  refine WH.yieldAt (args := [.vec nl (hL n l)]) (pinsR := [1, 2, 3]) (frI := [(0, yv y), (1, .at 3 [])]) (by kernel_rfl) (by kernel_rfl) (by kernel_rfl) (by kernel_rfl) (by kernel_rfl) (SlotsIn.ofL ⟨rfl, rfl, trivial⟩) ?_
  show WH _ _ Tryd.f50 [1, 2, 3] _ _ (⟨[(2, .at 1 []), (3, .at 2 []), (7, .vec nl (hL n l))], rows3 rt nl (hL n l)⟩)
  have hll := ho.len
  have g0 : 0 < n → (l.map hv).getD 0 .undef = hv (l.getD 0 []) := fun h => hv_get (by omega)
  have o0 : 0 < n → (l.getD 0 []).length = 32 := fun h => (ho.get h).1
  have hr : rootW l rt = if n = 1 then l.getD 0 [] else rt := by unfold rootW; rw [hll]
  rw [hr] at hw
  unfold hL at *
  generalize l.getD 0 [] = x at *
  generalize l.map hv = L at *
  unfold rows3 hv at *
  refine WH.seg [] [(1, 1), (2, 2), (3, 3)] (dRnd rt nl (PV.parr 32 n hsE L)) (todo' := [Item.beginRound, Item.code (rgBody (stopIn Tryd.f50 0))]) [rr (PV.at 1 []), rr (PV.at 2 []), rr (PV.vec nl (PV.parr 32 n (Sh.iarr IntKind.u8 32) L)), rr (B8 32 (List.replicate 32 0)), rr (B8 32 rt), rr (PV.vec nl (PV.parr 32 n (Sh.iarr IntKind.u8 32) L))] (by kernel_rfl) (ac rfl (ac rfl (ac rfl (ac rfl (ac rfl (ao rfl)))))) ?_
  refine WH.begin ?_
  by_cases h1 : n = 1
  · rw [if_pos h1] at hw
    have g := g0 (by omega)
    have o := o0 (by omega)
    refine WH.seg [(2, aT), (5, aV (B8 32 x))] [(1, 1), (2, 2), (3, 3)] (DS.mk [] [(1, Row.mk (B8 32 z32) false), (2, Row.mk (B8 32 x) false), (3, Row.mk (PV.vec nl (PV.parr 32 n hsE L)) false)]) (todo' := []) [((n:Int) == 1) = true, (0 : Int) ≤ (0 : Int), 0 < (n:Int), B8 32 (PV.nums (List.getD L 0 PV.undef)) = B8 32 x, 0 < n, rr (B8 32 (List.replicate 32 0)), rr (B8 32 x), rr (PV.vec nl (PV.parr 32 n (Sh.iarr IntKind.u8 32) L))] (by kernel_rfl) (ac (decide_eq_true (by omega)) (ac (by omega) (ac (by omega) (ac (by (rw [g]; rfl)) (ac (by omega) (ac rfl (ac rfl (ao rfl)))))))) ?_
    exact WH.roundNormal (by kernel_rfl) hw
  · rw [if_neg h1] at hw
    refine WH.seg [(2, aF)] [(1, 1), (2, 2), (3, 3)] (DS.mk [] [(1, Row.mk (B8 32 z32) false), (2, Row.mk (B8 32 rt) false), (3, Row.mk (PV.vec nl (PV.parr 32 n hsE L)) false)]) (todo' := []) [((n:Int) == 1) = false, rr (B8 32 (List.replicate 32 0)), rr (B8 32 rt), rr (PV.vec nl (PV.parr 32 n (Sh.iarr IntKind.u8 32) L))] (by kernel_rfl) (ac (decide_eq_false (by omega)) (ac rfl (ac rfl (ao rfl)))) ?_
    exact WH.roundNormal (by kernel_rfl) hw
theorem W_rootIter {y : Nat} {res : List Int} : ∀ (n : Nat) (l : List (List Int)) (rt : List Int) (nl : Bool), HsOk l n → n ≤ 100000 → (n = 0 → res = rt) → (0 < n → res = rootM l) →
    WH Tryd.prog G0 Tryd.f87 [1, 2] (HIter (rangeOf Tryd.f50 0 [] (.iarr .u8 32 res) [] frRoot 87) y .ready none) (loopAt Tryd.f87 0) (dLev y rt nl (hL n l)) := by
  intro n
  induction n using Nat.strongRecOn with
  | _ n ih =>
    intro l rt nl ho hn h0 h1
    unfold dLev rows3
    generalize hc : hL n l = c
    refine WH.seg [] [(1, 1), (2, 2), (3, 3)] (DS.mk [(0, yv y), (1, PV.at 3 []), (3, yv y), (4, PV.vec nl c)] [(1, Row.mk (B8 32 z32) false), (2, Row.mk (B8 32 rt) false), (3, Row.mk (PV.vec nl c) false)]) (todo' := stopIn Tryd.f87 0) [rr (PV.fv (Value.func (Fn.yield y) #[] #[])), rr (PV.at 3 []), rr (PV.fv (Value.func (Fn.yield y) #[] #[])), rr (PV.vec nl c), rr (B8 32 (List.replicate 32 0)), rr (B8 32 rt), rr (PV.vec nl c)] (by kernel_rfl) (ac rfl (ac rfl (ac rfl (ac rfl (ac rfl (ac rfl (ao rfl))))))) ?_
    rw [← hc]
    refine W_rootRound ho hn ?_
    by_cases hgt : 1 < n
    · have c1 := pc_above (nl := nl) ho hn
      have hw := ih ((n + 1) / 2) (by omega) (above l) (rootW l rt) false ho.above (by omega) (by omega) (fun _ => by rw [h1 (by omega), rootM_above (by rw [ho.len]; exact hgt)])
      clear hc
      have hln := ho.len
      unfold hL at *
      have hT : ((above l).map hv).take ((n + 1) / 2) = (above l).map hv := List.take_of_length_le (by rw [List.length_map, above_length, hln]; omega)
      generalize rootW l rt = rw at *
      generalize (above l).map hv = M at *
      generalize (n + 1) / 2 = m at *
      generalize l.map hv = L at *
      unfold dLev at *
      unfold rows3 at *
      refine WH.seg [(6, aT), (12, Ans.call true [] [(1, Row.mk (PV.parr 32 m (Sh.iarr IntKind.u8 32) M) false)] (PV.ref 1 [] 32 0 m)), (13, Ans.frz [257])] [(1, 1), (2, 2), (3, 3)] (DS.mk [(0, yv y), (1, PV.at 3 [])] [(1, Row.mk (B8 32 z32) false), (2, Row.mk (B8 32 rw) false), (3, Row.mk (PV.vec false (PV.parr 32 m hsE M)) false)]) (todo' := loopAt Tryd.f87 0) [decide ((n:Int) > 1) = true, PC Tryd.prog G0 66 [] [PV.vec nl (PV.parr 32 n (Sh.iarr IntKind.u8 32) L)] [(1, Row.mk (PV.parr 32 m (Sh.iarr IntKind.u8 32) M) false)] (PV.ref 1 [] 32 0 m), 0 + m ≤ m, rr (PV.fv (Value.func (Fn.yield y) #[] #[])), rr (PV.at 3 []), rr (B8 32 (List.replicate 32 0)), rr (B8 32 rw), PV.vec false (PV.parr 32 m (Sh.iarr IntKind.u8 32) (List.take m M)) = PV.vec false (PV.parr 32 m (Sh.iarr IntKind.u8 32) M)] (by kernel_rfl) (ac (decide_eq_true (by omega)) (ac (c1) (ac (by omega) (ac rfl (ac rfl (ac rfl (ac rfl (ao (by (simp; omega)))))))))) ?_
      exact hw
    · have hres : res = rootW l rt := by
        unfold rootW
        rw [ho.len]
        by_cases hn1 : n = 1
        · rw [if_pos hn1, h1 (by omega), rootM_one (by rw [ho.len, hn1])]
        · rw [if_neg hn1, h0 (by omega)]
      rw [← hres]
      have hle : ¬ ((n : Int) > 1) := by omega
      clear hc
      unfold hL rows3 at *
      generalize l.map hv = L at *
      refine WH.seg [(6, aF)] [(1, 1), (2, 2)] (DS.mk [] [(1, Row.mk (B8 32 z32) false), (2, Row.mk (B8 32 res) false)]) (todo' := []) [decide ((n:Int) > 1) = false, rr (B8 32 (List.replicate 32 0)), rr (B8 32 res)] (by kernel_rfl) (ac (decide_eq_false (by omega)) (ac rfl (ao rfl))) ?_
      exact WH.iterRet Tryd.func87 (by kernel_rfl) (by intro e; cases e) rfl W_rootEnd
theorem pc_root {nl : Bool} {l : List (List Int)} {n : Nat} (ho : HsOk l n) (hn : n ≤ 100000) : PC Tryd.prog G0 50 [] [.vec nl (hL n l)] [] (hv (rootM l)) := by
  refine PC.of (fn := Tryd.f50) (c := bodyOf Tryd.f50) Tryd.func50 (by kernel_rfl) (by kernel_rfl) (by kernel_rfl) (by kernel_rfl) ?_
  have hw := fun y => W_rootIter (y := y) (res := rootM l) n l z32 nl ho hn (fun h => by
    have : l = [] := List.eq_nil_of_length_eq_zero (by rw [ho.len, h])
    rw [this]; rfl) (fun _ => rfl)
  have c1 := pc_levels (nl := nl) (c := hL n l) rfl
  generalize rootM l = res at *
  unfold dLev at hw
  generalize hL n l = c at *
  refine W.seg [(3, Ans.call false [] [(1, Row.mk (PV.vec nl c) false)] (PV.fn 87 1))] [(64, 1), (80, 2), (113, 3)] (dRootR z32 nl c) (todo' := stopIn Tryd.f50 0) [PC Tryd.prog G0 72 [] [PV.vec nl c] [(1, Row.mk (PV.vec nl c) false)] (PV.fn 87 1), rr (PV.at 1 []), rr (PV.at 2 []), rr (PV.fn 87 3), rr (B8 32 (List.replicate 32 0)), rr (B8 32 (List.replicate 32 0)), rr (PV.vec nl c)] (by kernel_rfl) (ac (c1) (ac rfl (ac rfl (ac rfl (ac rfl (ac rfl (ao rfl))))))) ?_
  refine W.rangeFnAt (g := 6) (fi := 87) (fI := Tryd.f87) (id := 3) (pinsI := [1, 2]) (by kernel_rfl) frRoot rfl Tryd.func87 (by kernel_rfl) (by kernel_rfl) (by kernel_rfl) (by kernel_rfl) (by kernel_rfl) (SlotsIn.ofL ⟨rfl, rfl, trivial⟩) fun y => ?_
  have hw := hw y
  unfold dRootR rows3 at *
  dsimp only
  unfold yv at *
  refine WH.seg [] [(1, 1), (2, 2), (3, 3)] (DS.mk [(0, yv y), (1, PV.at 3 [])] [(1, Row.mk (B8 32 z32) false), (2, Row.mk (B8 32 z32) false), (3, Row.mk (PV.vec nl c) false)]) (todo' := loopAt Tryd.f87 0) [rr (PV.fv (Value.func (Fn.yield y) #[] #[])), rr (PV.at 3 []), rr (B8 32 (List.replicate 32 0)), rr (B8 32 (List.replicate 32 0)), rr (PV.vec nl c)] (by kernel_rfl) (ac rfl (ac rfl (ac rfl (ac rfl (ao rfl))))) ?_
  exact hw
end Go.Proofs
namespace Go.Proofs
open Go Go.Pe Go.Pm
set_option maxRecDepth 100000
set_option linter.unusedVariables false
def frDbl : List (Nat × PV) := [(2, .at 1 [])]
theorem W_dblEnd {b : Bool} {k : List Item} (hk : k = rgK (stopIn Tryd.f49 0)) (hb : b = false) : WM Tryd.prog G0 Tryd.f49 [] [] (.bool false) k ⟨frDbl, [(1, ⟨.bool b, false⟩)]⟩ := by
  subst hk; subst hb
  unfold frDbl
  refine WM.ret [] [] [rr (PV.bool false)] (by kernel_rfl) (ao rfl)
theorem W_dblRet {b : Bool} {k : List Item} : WM Tryd.prog G0 Tryd.f49 [] [] (.bool b) (.code .ret :: k) ⟨frDbl, [(1, ⟨.bool b, false⟩)]⟩ := by
  unfold frDbl
  refine WM.ret [] [] [rr (PV.bool b)] (by kernel_rfl) (ao rfl)
def dDbl (nl : Bool) (n : Nat) (L : List PV) (j : Nat) : DS := ⟨[(2, .at 1 []), (3, .vec nl (.parr 32 n hsE L)), (4, .int .i64 ((2 * j + 1 : Nat) : Int))], [(1, ⟨.bool false, false⟩), (2, ⟨.vec nl (.parr 32 n hsE L), false⟩)]⟩
theorem W_dblRound {y : Nat} {res nl : Bool} {l : List (List Int)} {n : Nat} (ho : HsOk l n) (hn : n ≤ 100000)
    (hw1 : (∀ i, 2 * i + 1 < n → l.getD (2 * i) [] ≠ l.getD (2 * i + 1) []) → WH Tryd.prog G0 Tryd.f87 [1] (HIter (rangeOf Tryd.f49 0 [] (.bool res) [] frDbl 87) y .ready none) (.inRegion (rgOps (stopIn Tryd.f87 0)) (rgRest (stopIn Tryd.f87 0)) :: rgK (stopIn Tryd.f87 0))
      ⟨[(0, yv y), (1, .at 2 []), (5, .bool true)], [(1, ⟨.bool false, false⟩), (2, ⟨.vec nl (.parr 32 n hsE (l.map hv)), false⟩)]⟩)
    (hw2 : (∃ i, 2 * i + 1 < n ∧ l.getD (2 * i) [] = l.getD (2 * i + 1) []) → WH Tryd.prog G0 Tryd.f87 [1] (HIter (rangeOf Tryd.f49 0 [] (.bool res) [] frDbl 87) y .done (some .ret)) (.inRegion (rgOps (stopIn Tryd.f87 0)) (rgRest (stopIn Tryd.f87 0)) :: rgK (stopIn Tryd.f87 0))
      ⟨[(0, yv y), (1, .at 2 []), (5, .bool false)], [(1, ⟨.bool true, false⟩), (2, ⟨.vec nl (.parr 32 n hsE (l.map hv)), false⟩)]⟩) : ∀ (k j : Nat), n ≤ 2 * (k + j) + 1 → 2 * j ≤ n + 1 → (∀ i, i < j → l.getD (2 * i) [] ≠ l.getD (2 * i + 1) []) →
    WH Tryd.prog G0 Tryd.f49 [1, 2] (HRound (rangeOf Tryd.f49 0 [] (.bool res) [] frDbl 87) (roundOf Tryd.f87 0 [1] [(0, yv y), (1, .at 2 [])]) y .busy none) (loopIn (rgBody (stopIn Tryd.f49 0)) 0) (dDbl nl n (l.map hv) j)
  | 0, j, hk, hj, hne => by
    have hw1 := hw1 fun i hi => hne i (by omega)
    have hge : ¬ (((2 * j + 1 : Nat) : Int) < (n : Int)) := by omega
    generalize l.map hv = L at *
    unfold dDbl
    refine WH.seg [(3, aF)] [(1, 1), (2, 2)] (DS.mk [] [(1, Row.mk (PV.bool false) false), (2, Row.mk (PV.vec nl (PV.parr 32 n hsE L)) false)]) (todo' := []) [decide ((↑(2 * j + 1) : Int) < (n:Int)) = false, rr (PV.bool false), rr (PV.vec nl (PV.parr 32 n (Sh.iarr IntKind.u8 32) L))] (by kernel_rfl) (ac (decide_eq_false (by omega)) (ac rfl (ao rfl))) ?_
    exact WH.roundNormal (by kernel_rfl) hw1
  | k + 1, j, hk, hj, hne => by
    by_cases hlt : 2 * j + 1 < n
    · have g1 := hv_get (l := l) (i := 2 * j) (by rw [ho.len]; omega)
      have g2 := hv_get (l := l) (i := 2 * j + 1) (by rw [ho.len]; omega)
      have o1 := (ho.get (i := 2 * j) (by omega)).1
      have o2 := (ho.get (i := 2 * j + 1) (by omega)).1
      have e1 : ((2 * j + 1 : Nat) : Int) - 1 = ((2 * j : Nat) : Int) := by omega
      by_cases heq : l.getD (2 * j) [] = l.getD (2 * j + 1) []
      · have hw2 := hw2 ⟨j, hlt, heq⟩
        generalize l.getD (2 * j) [] = x at *
        generalize l.getD (2 * j + 1) [] = z at *
        subst heq
        generalize l.map hv = L at *
        unfold hv at *
        unfold dDbl
        refine WH.seg [(3, aT), (6, aV (PV.cptr (PV.parr 32 n (Sh.iarr IntKind.u8 32) L) [Stp.idx (2 * j + 1) 32])), (7, aV (B8 32 x)), (10, aV (I6 (↑(2 * j) : Int))), (11, aV (PV.cptr (PV.parr 32 n (Sh.iarr IntKind.u8 32) L) [Stp.idx (2 * j) 32])), (12, aV (B8 32 x)), (13, aT)] [(1, 1), (2, 2)] (DS.mk [] [(1, Row.mk (PV.bool true) false), (2, Row.mk (PV.vec nl (PV.parr 32 n hsE L)) false)]) (todo' := retIn (rgBody (stopIn Tryd.f49 0)) 0) [decide ((↑(2 * j + 1) : Int) < (n:Int)) = true, PV.cptr (PV.parr 32 n (Sh.iarr IntKind.u8 32) L) [Stp.idx (Int.toNat (↑(2 * j + 1) : Int)) 32] = PV.cptr (PV.parr 32 n (Sh.iarr IntKind.u8 32) L) [Stp.idx (2 * j + 1) 32], 0 ≤ (↑(2 * j + 1) : Int), (↑(2 * j + 1) : Int) < (n:Int), B8 32 (PV.nums (List.getD L (2 * j + 1) PV.undef)) = B8 32 x, 2 * j + 1 < n, I6 (IntKind.wrap .i64 ((↑(2 * j + 1) : Int) - 1)) = I6 (↑(2 * j) : Int), PV.cptr (PV.parr 32 n (Sh.iarr IntKind.u8 32) L) [Stp.idx (Int.toNat (↑(2 * j) : Int)) 32] = PV.cptr (PV.parr 32 n (Sh.iarr IntKind.u8 32) L) [Stp.idx (2 * j) 32], 0 ≤ (↑(2 * j) : Int), (↑(2 * j) : Int) < (n:Int), B8 32 (PV.nums (List.getD L (2 * j) PV.undef)) = B8 32 x, 2 * j < n, decide (x = x) = true, rr (PV.bool true), rr (PV.vec nl (PV.parr 32 n (Sh.iarr IntKind.u8 32) L))] (by kernel_rfl) (ac (decide_eq_true (by omega)) (ac (by rw [show Int.toNat (↑(2 * j + 1) : Int) = 2 * j + 1 by omega]) (ac (by omega) (ac (by omega) (ac (by (rw [g2]; rfl)) (ac (by omega) (ac (cg (w_i64 e1 (by omega) (by omega))) (ac (by rw [show Int.toNat (↑(2 * j) : Int) = 2 * j by omega]) (ac (by omega) (ac (by omega) (ac (by (rw [g1]; rfl)) (ac (by omega) (ac (by (simp [*]; done)) (ac rfl (ao rfl))))))))))))))) ?_
        exact WH.roundRet (by kernel_rfl) (by kernel_rfl) hw2
      · have hw := W_dblRound ho hn hw1 hw2 k (j + 1) (by omega) (by omega) (fun i hi => by
          rcases Nat.lt_or_eq_of_le (Nat.le_of_lt_succ hi) with h | rfl
          · exact hne i h
          · exact heq)
        have hne' := fun h => heq (Eq.symm h)
        have e2 : ((2 * j + 1 : Nat) : Int) + 2 = ((2 * (j + 1) + 1 : Nat) : Int) := by omega
        have b2 : 2 * (j + 1) + 1 ≤ 100010 := by omega
        generalize l.getD (2 * j) [] = x at *
        generalize l.getD (2 * j + 1) [] = z at *
        generalize l.map hv = L at *
        clear hw1 hw2 hne
        unfold hv at *
        unfold dDbl at *
        generalize 2 * (j + 1) + 1 = i2 at *
        refine WH.seg [(3, aT), (6, aV (PV.cptr (PV.parr 32 n (Sh.iarr IntKind.u8 32) L) [Stp.idx (2 * j + 1) 32])), (7, aV (B8 32 z)), (10, aV (I6 (↑(2 * j) : Int))), (11, aV (PV.cptr (PV.parr 32 n (Sh.iarr IntKind.u8 32) L) [Stp.idx (2 * j) 32])), (12, aV (B8 32 x)), (13, aF), (15, aV (I6 (i2:Int)))] [(1, 1), (2, 2)] (DS.mk [(2, PV.at 1 []), (3, PV.vec nl (PV.parr 32 n hsE L)), (4, I6 (i2:Int))] [(1, Row.mk (PV.bool false) false), (2, Row.mk (PV.vec nl (PV.parr 32 n hsE L)) false)]) (todo' := loopIn (rgBody (stopIn Tryd.f49 0)) 0) [decide ((↑(2 * j + 1) : Int) < (n:Int)) = true, PV.cptr (PV.parr 32 n (Sh.iarr IntKind.u8 32) L) [Stp.idx (Int.toNat (↑(2 * j + 1) : Int)) 32] = PV.cptr (PV.parr 32 n (Sh.iarr IntKind.u8 32) L) [Stp.idx (2 * j + 1) 32], 0 ≤ (↑(2 * j + 1) : Int), (↑(2 * j + 1) : Int) < (n:Int), B8 32 (PV.nums (List.getD L (2 * j + 1) PV.undef)) = B8 32 z, 2 * j + 1 < n, I6 (IntKind.wrap .i64 ((↑(2 * j + 1) : Int) - 1)) = I6 (↑(2 * j) : Int), PV.cptr (PV.parr 32 n (Sh.iarr IntKind.u8 32) L) [Stp.idx (Int.toNat (↑(2 * j) : Int)) 32] = PV.cptr (PV.parr 32 n (Sh.iarr IntKind.u8 32) L) [Stp.idx (2 * j) 32], 0 ≤ (↑(2 * j) : Int), (↑(2 * j) : Int) < (n:Int), B8 32 (PV.nums (List.getD L (2 * j) PV.undef)) = B8 32 x, 2 * j < n, decide (z = x) = false, I6 (IntKind.wrap .i64 ((↑(2 * j + 1) : Int) + 2)) = I6 (i2:Int), rr (PV.at 1 []), rr (PV.vec nl (PV.parr 32 n (Sh.iarr IntKind.u8 32) L)), rr (I6 (i2:Int)), rr (PV.bool false), rr (PV.vec nl (PV.parr 32 n (Sh.iarr IntKind.u8 32) L))] (by kernel_rfl) (ac (decide_eq_true (by omega)) (ac (by rw [show Int.toNat (↑(2 * j + 1) : Int) = 2 * j + 1 by omega]) (ac (by omega) (ac (by omega) (ac (by (rw [g2]; rfl)) (ac (by omega) (ac (cg (w_i64 e1 (by omega) (by omega))) (ac (by rw [show Int.toNat (↑(2 * j) : Int) = 2 * j by omega]) (ac (by omega) (ac (by omega) (ac (by (rw [g1]; rfl)) (ac (by omega) (ac (decide_eq_false (by omega)) (ac (cg (w_i64 e2 (by omega) (by omega))) (ac rfl (ac rfl (ac rfl (ac rfl (ao rfl))))))))))))))))))) ?_
        exact hw
    · have hw1 := hw1 fun i hi => hne i (by omega)
      have hge : ¬ (((2 * j + 1 : Nat) : Int) < (n : Int)) := by omega
      generalize l.map hv = L at *
      unfold dDbl
      refine WH.seg [(3, aF)] [(1, 1), (2, 2)] (DS.mk [] [(1, Row.mk (PV.bool false) false), (2, Row.mk (PV.vec nl (PV.parr 32 n hsE L)) false)]) (todo' := []) [decide ((↑(2 * j + 1) : Int) < (n:Int)) = false, rr (PV.bool false), rr (PV.vec nl (PV.parr 32 n (Sh.iarr IntKind.u8 32) L))] (by kernel_rfl) (ac (decide_eq_false (by omega)) (ac rfl (ao rfl))) ?_
      exact WH.roundNormal (by kernel_rfl) hw1
theorem W_dblIter {y : Nat} {res : Bool} : ∀ (n : Nat) (l : List (List Int)) (nl : Bool), HsOk l n → n ≤ 100000 → (res = true ↔ dblM l) →
    WH Tryd.prog G0 Tryd.f87 [1] (HIter (rangeOf Tryd.f49 0 [] (.bool res) [] frDbl 87) y .ready none) (loopAt Tryd.f87 0) ⟨[(0, yv y), (1, .at 2 [])], [(1, ⟨.bool false, false⟩), (2, ⟨.vec nl (hL n l), false⟩)]⟩ := by
  intro n
  induction n using Nat.strongRecOn with
  | _ n ih =>
    intro l nl ho hn hres
    have hln := ho.len
    unfold hL
    generalize hLe : l.map hv = L
    refine WH.seg [] [(1, 1), (2, 2)] (DS.mk [(0, yv y), (1, PV.at 2 []), (3, yv y), (4, PV.vec nl (PV.parr 32 n hsE L))] [(1, Row.mk (PV.bool false) false), (2, Row.mk (PV.vec nl (PV.parr 32 n hsE L)) false)]) (todo' := stopIn Tryd.f87 0) [rr (PV.fv (Value.func (Fn.yield y) #[] #[])), rr (PV.at 2 []), rr (PV.fv (Value.func (Fn.yield y) #[] #[])), rr (PV.vec nl (PV.parr 32 n (Sh.iarr IntKind.u8 32) L)), rr (PV.bool false), rr (PV.vec nl (PV.parr 32 n (Sh.iarr IntKind.u8 32) L))] (by kernel_rfl) (ac rfl (ac rfl (ac rfl (ac rfl (ac rfl (ao rfl)))))) ?_
    refine WH.yieldAt (args := [.vec nl (.parr 32 n hsE L)]) (pinsR := [1, 2]) (frI := [(0, yv y), (1, .at 2 [])]) (by kernel_rfl) (by kernel_rfl) (by kernel_rfl) (by kernel_rfl) (by kernel_rfl) (SlotsIn.ofL ⟨rfl, rfl, trivial⟩) ?_
    show WH _ _ Tryd.f49 [1, 2] _ _ (⟨[(2, .at 1 []), (7, .vec nl (.parr 32 n hsE L))], [(1, ⟨.bool false, false⟩), (2, ⟨.vec nl (.parr 32 n hsE L), false⟩)]⟩)
    refine WH.seg [] [(1, 1), (2, 2)] (DS.mk [(2, PV.at 1 []), (3, PV.vec nl (PV.parr 32 n hsE L))] [(1, Row.mk (PV.bool false) false), (2, Row.mk (PV.vec nl (PV.parr 32 n hsE L)) false)]) (todo' := [Item.beginRound, Item.code (rgBody (stopIn Tryd.f49 0))]) [rr (PV.at 1 []), rr (PV.vec nl (PV.parr 32 n (Sh.iarr IntKind.u8 32) L)), rr (PV.bool false), rr (PV.vec nl (PV.parr 32 n (Sh.iarr IntKind.u8 32) L))] (by kernel_rfl) (ac rfl (ac rfl (ac rfl (ao rfl)))) ?_
    refine WH.begin ?_
    refine WH.seg [] [(1, 1), (2, 2)] (DS.mk [(2, PV.at 1 []), (3, PV.vec nl (PV.parr 32 n hsE L)), (4, I6 1)] [(1, Row.mk (PV.bool false) false), (2, Row.mk (PV.vec nl (PV.parr 32 n hsE L)) false)]) (todo' := loopIn (rgBody (stopIn Tryd.f49 0)) 0) [rr (PV.at 1 []), rr (PV.vec nl (PV.parr 32 n (Sh.iarr IntKind.u8 32) L)), rr (I6 1), rr (PV.bool false), rr (PV.vec nl (PV.parr 32 n (Sh.iarr IntKind.u8 32) L))] (by kernel_rfl) (ac rfl (ac rfl (ac rfl (ac rfl (ao rfl))))) ?_
    rw [← hLe]
    refine W_dblRound (l := l) ho hn (fun hno => ?_) (fun hyes => ?_) n 0 (by omega) (by omega) (fun i hi => by omega)
    · rw [hLe]
      have hd1 : ¬ dbl1 l := by rintro ⟨i, h1, h2⟩; rw [hln] at h1; exact hno i h1 h2
      by_cases hgt : 1 < n
      · have c1 := pc_above (nl := nl) ho hn
        have hw := ih ((n + 1) / 2) (by omega) (above l) false ho.above (by omega) (by rw [hres, dblM_step]; simp [hd1])
        have hT : ((above l).map hv).take ((n + 1) / 2) = (above l).map hv := List.take_of_length_le (by rw [List.length_map, above_length, hln]; omega)
        unfold hL at *
        rw [hLe] at c1
        generalize (above l).map hv = M at *
        generalize (n + 1) / 2 = m at *
        clear hno hd1 hres hLe hln
        refine WH.seg [(6, aT), (12, Ans.call true [] [(1, Row.mk (PV.parr 32 m (Sh.iarr IntKind.u8 32) M) false)] (PV.ref 1 [] 32 0 m)), (13, Ans.frz [257])] [(1, 1), (2, 2)] (DS.mk [(0, yv y), (1, PV.at 2 [])] [(1, Row.mk (PV.bool false) false), (2, Row.mk (PV.vec false (PV.parr 32 m hsE M)) false)]) (todo' := loopAt Tryd.f87 0) [decide ((n:Int) > 1) = true, PC Tryd.prog G0 66 [] [PV.vec nl (PV.parr 32 n (Sh.iarr IntKind.u8 32) L)] [(1, Row.mk (PV.parr 32 m (Sh.iarr IntKind.u8 32) M) false)] (PV.ref 1 [] 32 0 m), 0 + m ≤ m, rr (PV.fv (Value.func (Fn.yield y) #[] #[])), rr (PV.at 2 []), rr (PV.bool false), PV.vec false (PV.parr 32 m (Sh.iarr IntKind.u8 32) (List.take m M)) = PV.vec false (PV.parr 32 m (Sh.iarr IntKind.u8 32) M)] (by kernel_rfl) (ac (decide_eq_true (by omega)) (ac (c1) (ac (by omega) (ac rfl (ac rfl (ac rfl (ao (by (simp; omega))))))))) ?_
        exact hw
      · have hr : res = false := by
          have := dblM_short (l := l) (by omega)
          rw [← hres] at this
          simpa using this
        have hle : ¬ ((n : Int) > 1) := by omega
        subst hr
        clear hno hd1 hres
        refine WH.seg [(6, aF)] [(1, 1)] (DS.mk [] [(1, Row.mk (PV.bool false) false)]) (todo' := []) [decide ((n:Int) > 1) = false, rr (PV.bool false)] (by kernel_rfl) (ac (decide_eq_false (by omega)) (ao rfl)) ?_
        exact WH.iterRet Tryd.func87 (by kernel_rfl) (by intro e; cases e) rfl (W_dblEnd rfl rfl)
    · rw [hLe]
      have hr : res = true := by
        rw [hres, dblM_step]
        obtain ⟨i, h1, h2⟩ := hyes
        exact .inl ⟨i, by rw [hln]; exact h1, h2⟩
      subst hr
      clear hyes hres
      refine WH.seg [] [(1, 1)] (DS.mk [] [(1, Row.mk (PV.bool true) false)]) (todo' := []) [rr (PV.bool true)] (by kernel_rfl) (ao rfl) ?_
      exact WH.iterRet Tryd.func87 (by kernel_rfl) (by intro e; cases e) rfl W_dblRet
def dDblR (nl : Bool) (c : PV) : DS := ⟨[(2, .at 1 []), (6, .fn 87 2)], [(1, ⟨.bool false, false⟩), (2, ⟨.vec nl c, false⟩)]⟩
theorem pc_doubled {nl : Bool} {l : List (List Int)} {n : Nat} {res : Bool} (ho : HsOk l n) (hn : n ≤ 100000) (hres : res = true ↔ dblM l) : PC Tryd.prog G0 49 [] [.vec nl (hL n l)] [] (.bool res) := by
  refine PC.of (fn := Tryd.f49) (c := bodyOf Tryd.f49) Tryd.func49 (by kernel_rfl) (by kernel_rfl) (by kernel_rfl) (by kernel_rfl) ?_
  have hw := fun y => W_dblIter (y := y) (res := res) n l nl ho hn hres
  have c1 := pc_levels (nl := nl) (c := hL n l) rfl
  generalize hL n l = c at *
  refine W.seg [(2, Ans.call false [] [(1, Row.mk (PV.vec nl c) false)] (PV.fn 87 1))] [(64, 1), (97, 2)] (dDblR nl c) (todo' := stopIn Tryd.f49 0) [PC Tryd.prog G0 72 [] [PV.vec nl c] [(1, Row.mk (PV.vec nl c) false)] (PV.fn 87 1), rr (PV.at 1 []), rr (PV.fn 87 2), rr (PV.bool false), rr (PV.vec nl c)] (by kernel_rfl) (ac (c1) (ac rfl (ac rfl (ac rfl (ao rfl))))) ?_
  refine W.rangeFnAt (g := 6) (fi := 87) (fI := Tryd.f87) (id := 2) (pinsI := [1]) (by kernel_rfl) frDbl rfl Tryd.func87 (by kernel_rfl) (by kernel_rfl) (by kernel_rfl) (by kernel_rfl) (by kernel_rfl) (SlotsIn.ofL ⟨rfl, trivial⟩) fun y => ?_
  have hw := hw y
  unfold dDblR at *
  dsimp only
  unfold yv at *
  refine WH.seg [] [(1, 1), (2, 2)] (DS.mk [(0, yv y), (1, PV.at 2 [])] [(1, Row.mk (PV.bool false) false), (2, Row.mk (PV.vec nl c) false)]) (todo' := loopAt Tryd.f87 0) [rr (PV.fv (Value.func (Fn.yield y) #[] #[])), rr (PV.at 2 []), rr (PV.bool false), rr (PV.vec nl c)] (by kernel_rfl) (ac rfl (ac rfl (ac rfl (ao rfl)))) ?_
  exact hw
end Go.Proofs
namespace Go.Proofs
open Go Go.Pe Go.Pm
/-- a header -/
structure Hd where
  ver : Nat
  prev : List Int
  root : List Int
  time : Nat
  bits : Nat
  nonce : Nat
def Hd.pv (h : Hd) : PV := .st 68 [.int .u32 h.ver, .iarr .u8 32 h.prev, .iarr .u8 32 h.root, .int .u32 h.time, .int .u32 h.bits, .int .u32 h.nonce]
structure Hd.Ok (h : Hd) : Prop where
  ver : h.ver < 4294967296
  time : h.time < 4294967296
  bits : h.bits < 4294967296
  nonce : h.nonce < 4294967296
  prev : h.prev.length = 32
  root : h.root.length = 32
  prevB : ∀ x ∈ h.prev, 0 ≤ x ∧ x ≤ 255
  rootB : ∀ x ∈ h.root, 0 ≤ x ∧ x ≤ 255
def hsh : Sh := .st 68 [.int .u32, .iarr .u8 32, .iarr .u8 32, .int .u32, .int .u32, .int .u32]
theorem u32_nat {n : Int} (h : IntKind.u32.wrap n = n) : ∃ m : Nat, n = m ∧ m < 4294967296 := by
  rw [wrap_bounds] at h
  obtain ⟨h1, h2⟩ := h
  have e1 : IntKind.u32.min = 0 := rfl
  have e2 : IntKind.u32.max = 4294967295 := rfl
  exact ⟨n.toNat, by omega, by omega⟩
theorem u8_bytes {l : List Int} (h : ∀ x ∈ l, IntKind.u8.wrap x = x) : ∀ x ∈ l, 0 ≤ x ∧ x ≤ 255 := fun x hx => by
  have := h x hx
  rw [wrap_bounds] at this
  exact this
theorem hd_of {p : PV} (hc : conf hsh p = true) (hw : WF p) : ∃ h : Hd, p = h.pv ∧ h.Ok := by
  have e := expose_conf hsh p hc
  obtain ⟨a, b, c, d, x, y, rfl⟩ : ∃ a b c d x y, p = .st 68 [.int .u32 a, .iarr .u8 32 b, .iarr .u8 32 c, .int .u32 d, .int .u32 x, .int .u32 y] := ⟨_, _, _, _, _, _, e.symm⟩
  simp only [WF, WFL] at hw
  obtain ⟨_, ha, ⟨hb1, hb2⟩, ⟨hc1, hc2⟩, hd, hx, hy, _⟩ := hw
  obtain ⟨a, rfl, ka⟩ := u32_nat ha
  obtain ⟨d, rfl, kd⟩ := u32_nat hd
  obtain ⟨x, rfl, kx⟩ := u32_nat hx
  obtain ⟨y, rfl, ky⟩ := u32_nat hy
  exact ⟨⟨a, b, c, d, x, y⟩, rfl, ⟨ka, kd, kx, ky, hb1, hc1, u8_bytes hb2, u8_bytes hc2⟩⟩
end Go.Proofs
namespace Go.Proofs
open Go Go.Pe Go.Pm
set_option maxRecDepth 100000
set_option linter.unusedVariables false
abbrev TxM := Bool × Nat × List Int
/-- transactions' bytes -/
structure TxsOk (L : List TxM) (n : Nat) : Prop where
  len : L.length = n
  el : ∀ x ∈ L, BsOk x ∧ (x.1 = true → x.2.1 = 0) ∧ x.2.1 ≤ 1000000
def txsPV (nl : Bool) (n : Nat) (L : List TxM) : PV := .vec nl (.parr 1 n bsh (L.map bsPV))
def blkPV (h : Hd) (nl : Bool) (n : Nat) (L : List TxM) : PV := .st 69 [h.pv, txsPV nl n L]
def idsM (L : List TxM) : List (List Int) := L.map fun x => dsha x.2.2
theorem TxsOk.get {L : List TxM} {n i : Nat} (h : TxsOk L n) (hi : i < n) : BsOk (L.getD i default) ∧ ((L.getD i default).1 = true → (L.getD i default).2.1 = 0) ∧ (L.getD i default).2.1 ≤ 1000000 := by
  have hi' : i < L.length := by rw [h.len]; exact hi
  have : L.getD i default = L[i] := by simp [List.getD_eq_getElem?_getD, hi']
  rw [this]
  exact h.el _ (List.getElem_mem hi')
theorem idsM_ok {L : List TxM} {n : Nat} (h : TxsOk L n) : HsOk (idsM L) n := ⟨by unfold idsM; rw [List.length_map, h.len], fun x hx => by
  unfold idsM at hx
  obtain ⟨y, _, rfl⟩ := List.mem_map.1 hx
  exact ⟨sha_length _, sha_bytes _⟩⟩
theorem pc_txId {nl : Bool} {N : Nat} {b : List Int} (hb : BsOk (nl, N, b)) (hN : N ≤ 1000000) : PC Tryd.prog G0 23 [] [.vec nl (.iarr .u8 N b)] [] (.iarr .u8 32 (dsha b)) := by
  refine PC.of (fn := Tryd.f23) (c := bodyOf Tryd.f23) Tryd.func23 (by kernel_rfl) (by kernel_rfl) (by kernel_rfl) (by kernel_rfl) ?_
  have e : cat [(nl, N, b)] = b := by simp [cat]
  have hl : b.length = N := hb.len
  have c1 := pc_twice (nl := false) (l := [(nl, N, b)]) (c := 1) rfl (by intro x hx; simp at hx; subst hx; exact hb) (by rw [e]; omega) (by omega)
  rw [e] at c1
  unfold bsPV at c1
  dsimp only [List.map] at c1
  generalize dsha b = r at *
  refine W.ret [(3, aK (B8 32 r))] [] [1 ≤ 1, PC Tryd.prog G0 47 [] [PV.vec false (PV.parr 1 1 (Sh.vec 1 (Sh.int IntKind.u8)) [PV.vec nl (B8 N b)])] [] (B8 32 r), rr (B8 32 r)] (by kernel_rfl) (ac (by omega) (ac (c1) (ao rfl)))
def dsIds (nl : Bool) (n : Nat) (T I : List PV) (j : Nat) : DS := ⟨[(3, .ref 1 [] 32 0 j), (11, .vec nl (.parr 1 n bsh T)), (12, .int .i64 n), (13, .int .i64 j)], [(1, ⟨.parr 32 j hsE I, false⟩)]⟩
theorem W_ids {nl : Bool} {n : Nat} {L : List TxM} (ho : TxsOk L n) (hn : n ≤ 100000) : ∀ (k j : Nat), k + j = n →
    W Tryd.prog G0 Tryd.f10 [] [(1, ⟨hL n (idsM L), false⟩)] (.ref 1 [] 32 0 n) (loopAt Tryd.f10 0) (dsIds nl n (L.map bsPV) (((idsM L).take j).map hv) j)
  | 0, j, hk => by
    have hj : j = n := by omega
    subst hj
    have e : (idsM L).take j = idsM L := List.take_of_length_le (by rw [(idsM_ok ho).len]; omega)
    rw [e]
    unfold hL
    generalize (idsM L).map hv = I at *
    generalize L.map bsPV = T at *
    unfold dsIds
    refine W.ret [(0, aF)] [(1, 1)] [decide ((j:Int) < (j:Int)) = false, rr (PV.parr 32 j (Sh.iarr IntKind.u8 32) I), rr (PV.ref 1 [] 32 0 j)] (by kernel_rfl) (ac (decide_eq_false (by omega)) (ac rfl (ao rfl)))
  | k + 1, j, hk => by
    have hj : j < n := by omega
    have hlt : j < L.length := by rw [ho.len]; exact hj
    have g := bs_get (l := L) (i := j) hlt
    obtain ⟨hb, hnl, hN⟩ := ho.get hj
    have hs : (idsM L).take (j + 1) = (idsM L).take j ++ [dsha (L.getD j default).2.2] := by
      rw [List.take_add_one]
      congr 1
      unfold idsM
      simp [List.getD_eq_getElem?_getD, hlt]
    have hw := W_ids (nl := nl) ho hn k (j + 1) (by omega)
    rw [hs, List.map_append] at hw
    have hIl : (((idsM L).take j).map hv).length = j := by rw [List.length_map, List.length_take, (idsM_ok ho).len]; omega
    generalize L.getD j default = x at *
    obtain ⟨xnl, xN, xb⟩ := x
    dsimp only at *
    have c1 := pc_txId hb hN
    change _ = PV.vec xnl (.iarr .u8 xN xb) at g
    generalize dsha xb = r at *
    generalize ((idsM L).take j).map hv = I at *
    generalize L.map bsPV = T at *
    have hr : [r].map hv = [PV.iarr .u8 32 r] := rfl
    rw [hr] at hw
    unfold dsIds at *
    refine W.seg [(0, aT), (2, aV (PV.vec xnl (B8 xN xb))), (6, aK (B8 32 r)), (8, Ans.ups [(1, none), (192, some (Row.mk (PV.parr 32 (j + 1) (Sh.iarr IntKind.u8 32) (I ++ [B8 32 r])) false))]), (10, aV (I6 (↑(j + 1) : Int)))] [(192, 1)] (DS.mk [(3, PV.ref 1 [] 32 0 (j + 1)), (11, PV.vec nl (PV.parr 1 n bsh T)), (12, I6 (n:Int)), (13, I6 (↑(j + 1) : Int))] [(1, Row.mk (PV.parr 32 (j + 1) hsE (I ++ [B8 32 r])) false)]) (todo' := loopAt Tryd.f10 0) [decide ((j:Int) < (n:Int)) = true, 0 ≤ (j:Int), (j:Int) < (n:Int), PV.vec (PV.nil? (List.getD T j PV.undef)) (B8 (PV.len (PV.els (List.getD T j PV.undef))) (PV.nums (PV.els (List.getD T j PV.undef)))) = PV.vec xnl (B8 xN xb), j < n, PC Tryd.prog G0 23 [] [PV.vec xnl (B8 xN xb)] [] (B8 32 r), ([(1, none), (192, some (Row.mk (PV.parr 32 (j + 1) (Sh.iarr IntKind.u8 32) (List.take j I ++ [B8 32 r])) false))] : List (Nat × Option Row)) = [(1, none), (192, some (Row.mk (PV.parr 32 (j + 1) (Sh.iarr IntKind.u8 32) (I ++ [B8 32 r])) false))], 1 ≤ 1, 0 + j = j, (j + 1) * 32 ≤ 140737488355328, j + 1 ≤ 9223372036854775807, I6 (IntKind.wrap .i64 ((j:Int) + 1)) = I6 (↑(j + 1) : Int), rr (PV.ref 1 [] 32 0 (j + 1)), rr (PV.vec nl (PV.parr 1 n (Sh.vec 1 (Sh.int IntKind.u8)) T)), rr (I6 (n:Int)), rr (I6 (↑(j + 1) : Int)), rr (PV.parr 32 (j + 1) (Sh.iarr IntKind.u8 32) (I ++ [B8 32 r]))] (by kernel_rfl) (ac (decide_eq_true (by omega)) (ac (by omega) (ac (by omega) (ac (by (rw [g]; rfl)) (ac (by omega) (ac (c1) (ac (by rw [List.take_of_length_le (show List.length I ≤ j by omega)]) (ac (by omega) (ac (by omega) (ac (by omega) (ac (by omega) (ac (cg (w_i64 rfl (by omega) (by omega))) (ac rfl (ac rfl (ac rfl (ac rfl (ao rfl))))))))))))))))) ?_
    exact hw
theorem pc_ids {h : Hd} {nl : Bool} {n : Nat} {L : List TxM} (ho : TxsOk L n) (hn : n ≤ 100000) : PC Tryd.prog G0 10 [] [blkPV h nl n L] [(1, ⟨hL n (idsM L), false⟩)] (.ref 1 [] 32 0 n) := by
  refine PC.of (fn := Tryd.f10) (c := bodyOf Tryd.f10) Tryd.func10 (by kernel_rfl) (by kernel_rfl) (by kernel_rfl) (by kernel_rfl) ?_
  have hw := W_ids (nl := nl) ho hn n 0 (by omega)
  have e : ((idsM L).take 0).map hv = [] := rfl
  rw [e] at hw
  unfold hL at *
  generalize (idsM L).map hv = I at *
  unfold blkPV txsPV Hd.pv
  generalize L.map bsPV = T at *
  unfold dsIds at *
  refine W.seg [] [(144, 1)] (DS.mk [(3, PV.ref 1 [] 32 0 0), (11, PV.vec nl (PV.parr 1 n bsh T)), (12, I6 (n:Int)), (13, I6 (↑(0 : Nat) : Int))] [(1, Row.mk (PV.parr 32 0 hsE []) false)]) (todo' := loopAt Tryd.f10 0) [(0 : Int) ≤ (0 : Int), 0 ≤ (n:Int), (n:Int) ≤ 9223372036854775807, (↑(32 : Nat) : Int) * (n:Int) ≤ 140737488355328, rr (PV.ref 1 [] 32 0 0), rr (PV.vec nl (PV.parr 1 n (Sh.vec 1 (Sh.int IntKind.u8)) T)), rr (I6 (n:Int)), I6 0 = I6 (↑(0 : Nat) : Int), rr (PV.parr 32 0 (Sh.iarr IntKind.u8 32) [])] (by kernel_rfl) (ac (by omega) (ac (by omega) (ac (by omega) (ac (by omega) (ac rfl (ac rfl (ac rfl (ac (cg (by omega)) (ao rfl))))))))) ?_
  exact hw
end Go.Proofs
namespace Go.Proofs
open Go Go.Pe Go.Pm
set_option maxRecDepth 100000
set_option linter.unusedVariables false
theorem txP_form (b : List Int) : ∃ (s : Nat) (o : Bool) (m : Nat) (M : List PV), txP b = .tup [.st 2 [.int .u64 s, .vec o (.parr 2 m osh M)], .int .i64 (txE b)] := by
  unfold txP txRes outsPV
  by_cases h : txE b = 0
  · rw [if_pos h]
    by_cases g : txOuts b = []
    · rw [if_pos g]; exact ⟨_, _, _, _, rfl⟩
    · rw [if_neg g]; exact ⟨_, _, _, _, rfl⟩
  · rw [if_neg h]; exact ⟨0, true, 0, [], rfl⟩
theorem txE_le (b : List Int) : txE b ≤ 100 := by
  have h1 : (txR4 b).e ≤ 100 := outsR_e (by
    show ((txR2 b).var 8).e ≤ 100
    have he : (txR2 b).e ≤ 100 := Rd.tk_e (Rd.tk_e (Nat.zero_le _))
    have := Rd.ve_e (m := 8) he
    unfold Rd.var
    split
    · exact Nat.zero_le _
    · exact this)
  unfold txE
  repeat' split
  all_goals omega
/-- the first error of transactions -/
def parseE : List TxM → Nat
  | [] => 0
  | x :: l => if txE x.2.2 = 0 then parseE l else txE x.2.2
def soundE (L : List TxM) : Nat := if L.length < 1 ∨ 16 < L.length then 5 else if parseE L = 0 then (if dblB (idsM L) = true then 7 else 0) else parseE L
def soundPV (L : List TxM) : PV := .tup [hv (if soundE L = 0 then rootM (idsM L) else z32), .int .i64 (soundE L)]
theorem rootM_length {l : List (List Int)} {n : Nat} (h : HsOk l n) : (rootM l).length = 32 := by
  unfold rootM
  split
  · rfl
  · rename_i hne
    have hk : ∀ k (l : List (List Int)), (∀ x ∈ l, x.length = 32) → ∀ x ∈ lvl l k, x.length = 32 := by
      intro k
      induction k with
      | zero => intro l hl; exact hl
      | succ k ih =>
        intro l hl x hx
        rw [lvl] at hx
        unfold above at hx
        obtain ⟨i, _, rfl⟩ := List.mem_map.1 hx
        exact sha_length _
    have hpos : 0 < (lvl l (depM l.length)).length := by
      rw [lvl_length]
      have : ∀ k n, 0 < n → 0 < wid n k := by
        intro k
        induction k with
        | zero => intro n h; exact h
        | succ k ih => intro n h; have := ih n h; rw [wid]; omega
      exact this _ _ (List.length_pos_iff.2 hne)
    have : (lvl l (depM l.length)).getD 0 [] = (lvl l (depM l.length))[0] := by simp [List.getD_eq_getElem?_getD, hpos]
    rw [this]
    exact hk _ l (fun x hx => (h.el x hx).1) _ (List.getElem_mem hpos)
def dsSd (h : Hd) (nl : Bool) (n : Nat) (T : List PV) (i : Nat) : DS := ⟨[(1, .at 1 []), (2, .at 2 []), (21, .vec nl (.parr 1 n bsh T)), (22, .int .i64 n), (23, .int .i64 i)], [(1, ⟨.st 69 [h.pv, .vec nl (.parr 1 n bsh T)], false⟩), (2, ⟨.iarr .u8 32 z32, false⟩)]⟩
theorem W_sound {h : Hd} {nl : Bool} {n : Nat} {L : List TxM} (ho : TxsOk L n) (hn : n ≤ 16) (hn0 : 0 < n) : ∀ (k i : Nat), i + k = n → parseE L = parseE (L.drop i) →
    W Tryd.prog G0 Tryd.f26 [] [] (soundPV L) (loopAt Tryd.f26 0) (dsSd h nl n (L.map bsPV) i)
  | 0, i, hk, hp => by
    have hi : i = n := by omega
    subst hi
    have hp0 : parseE L = 0 := by rw [hp, List.drop_of_length_le (by rw [ho.len]; omega)]; rfl
    have hse : soundE L = if dblB (idsM L) = true then 7 else 0 := by unfold soundE; rw [ho.len, if_neg (by omega), if_pos hp0]
    have c1 := pc_ids (h := h) (nl := nl) ho (by omega)
    have c2 := pc_doubled (nl := false) (idsM_ok ho) (by omega) (dblB_iff (idsM L))
    have c3 := pc_root (nl := false) (idsM_ok ho) (by omega)
    have hrl := rootM_length (idsM_ok ho)
    have hT : ((idsM L).map hv).take i = (idsM L).map hv := List.take_of_length_le (by rw [List.length_map, (idsM_ok ho).len]; omega)
    unfold soundPV
    by_cases hd : dblB (idsM L) = true
    · rw [hse, if_pos hd, if_neg (by omega)]
      rw [hd] at c2
      clear hse hp0 hp
      unfold blkPV txsPV hL hv at *
      generalize (idsM L).map (PV.iarr .u8 32) = I at *
      generalize L.map bsPV = T at *
      have hT' := Eq.symm hT
      rw [hT'] at c2 c3
      unfold dsSd Hd.pv at *
      refine W.ret [(0, aF), (2, Ans.call true [] [(1, Row.mk (PV.parr 32 i (Sh.iarr IntKind.u8 32) I) false)] (PV.ref 1 [] 32 0 i)), (5, aK (PV.bool true))] [] [decide ((i:Int) < (i:Int)) = false, PC Tryd.prog G0 10 [] [PV.st 69 [Hd.pv h, PV.vec nl (PV.parr 1 i (Sh.vec 1 (Sh.int IntKind.u8)) T)]] [(1, Row.mk (PV.parr 32 i (Sh.iarr IntKind.u8 32) I) false)] (PV.ref 1 [] 32 0 i), 0 + i ≤ i, PC Tryd.prog G0 49 [] [PV.vec false (PV.parr 32 i (Sh.iarr IntKind.u8 32) (List.take i I))] [] (PV.bool true), PV.tup [B8 32 (List.replicate 32 0), I6 7] = PV.tup [B8 32 (List.replicate 32 0), I6 (↑(7 : Nat) : Int)]] (by kernel_rfl) (ac (decide_eq_false (by omega)) (ac (c1) (ac (by omega) (ac (c2) (ao rfl)))))
    · rw [hse, if_neg hd, if_pos rfl]
      have hd' : dblB (idsM L) = false := by simpa using hd
      rw [hd'] at c2
      clear hse hp0 hp hd hd'
      unfold blkPV txsPV hL hv at *
      generalize rootM (idsM L) = rt at *
      generalize (idsM L).map (PV.iarr .u8 32) = I at *
      generalize L.map bsPV = T at *
      have hT' := Eq.symm hT
      rw [hT'] at c2 c3
      unfold dsSd Hd.pv at *
      refine W.ret [(0, aF), (2, Ans.call true [] [(1, Row.mk (PV.parr 32 i (Sh.iarr IntKind.u8 32) I) false)] (PV.ref 1 [] 32 0 i)), (5, aK (PV.bool false)), (7, aK (B8 32 rt))] [] [decide ((i:Int) < (i:Int)) = false, PC Tryd.prog G0 10 [] [PV.st 69 [Hd.pv h, PV.vec nl (PV.parr 1 i (Sh.vec 1 (Sh.int IntKind.u8)) T)]] [(1, Row.mk (PV.parr 32 i (Sh.iarr IntKind.u8 32) I) false)] (PV.ref 1 [] 32 0 i), 0 + i ≤ i, PC Tryd.prog G0 49 [] [PV.vec false (PV.parr 32 i (Sh.iarr IntKind.u8 32) (List.take i I))] [] (PV.bool false), 0 + i ≤ i, PC Tryd.prog G0 50 [] [PV.vec false (PV.parr 32 i (Sh.iarr IntKind.u8 32) (List.take i I))] [] (B8 32 rt), PV.tup [B8 32 rt, I6 0] = PV.tup [B8 32 rt, I6 (↑(0 : Nat) : Int)]] (by kernel_rfl) (ac (decide_eq_false (by omega)) (ac (c1) (ac (by omega) (ac (c2) (ac (by omega) (ac (c3) (ao rfl)))))))
  | k + 1, i, hk, hp => by
    have hi : i < n := by omega
    have hlt : i < L.length := by rw [ho.len]; exact hi
    have g := bs_get (l := L) (i := i) hlt
    obtain ⟨hb, hnl, hN⟩ := ho.get hi
    have hdrop : L.drop i = L.getD i default :: L.drop (i + 1) := by rw [List.drop_eq_getElem_cons hlt]; simp [List.getD_eq_getElem?_getD, hlt]
    rw [hdrop] at hp
    have hw := W_sound (h := h) (nl := nl) ho hn hn0 k (i + 1) (by omega)
    generalize L.getD i default = x at *
    obtain ⟨xnl, xN, xb⟩ := x
    dsimp only [parseE] at *
    have c1 := pc_parse hb.len hb.bytes hN hnl
    change _ = PV.vec xnl (.iarr .u8 xN xb) at g
    dsimp only at c1
    obtain ⟨s, o, m, M, hf⟩ := txP_form xb
    rw [hf] at c1
    have hle := txE_le xb
    by_cases h0 : txE xb = 0
    · rw [if_pos h0] at hp
      have hw := hw hp
      rw [h0] at c1
      clear hdrop hf hp h0
      generalize soundPV L = res at *
      generalize L.map bsPV = T at *
      unfold dsSd Hd.pv at *
      refine W.seg [(0, aT), (2, aV (PV.vec xnl (B8 xN xb))), (5, Ans.call false [] [] (PV.tup [PV.st 2 [U6 (s:Int), PV.vec o (PV.parr 2 m (Sh.st 2 [Sh.int IntKind.u64, Sh.vec 1 (Sh.int IntKind.u8)]) M)], I6 (↑(0 : Nat) : Int)])), (8, aV (I6 0)), (14, aV (I6 (↑(i + 1) : Int)))] [(1, 1), (2, 2)] (DS.mk [(1, PV.at 1 []), (2, PV.at 2 []), (21, PV.vec nl (PV.parr 1 n bsh T)), (22, I6 (n:Int)), (23, I6 (↑(i + 1) : Int))] [(1, Row.mk (PV.st 69 [Hd.pv h, PV.vec nl (PV.parr 1 n bsh T)]) false), (2, Row.mk (B8 32 z32) false)]) (todo' := loopAt Tryd.f26 0) [decide ((i:Int) < (n:Int)) = true, 0 ≤ (i:Int), (i:Int) < (n:Int), PV.vec (PV.nil? (List.getD T i PV.undef)) (B8 (PV.len (PV.els (List.getD T i PV.undef))) (PV.nums (PV.els (List.getD T i PV.undef)))) = PV.vec xnl (B8 xN xb), i < n, PC Tryd.prog G0 32 [] [PV.vec xnl (B8 xN xb)] [] (PV.tup [PV.st 2 [U6 (s:Int), PV.vec o (PV.parr 2 m (Sh.st 2 [Sh.int IntKind.u64, Sh.vec 1 (Sh.int IntKind.u8)]) M)], I6 (↑(0 : Nat) : Int)]), I6 (↑(0 : Nat) : Int) = I6 0, I6 (IntKind.wrap .i64 ((i:Int) + 1)) = I6 (↑(i + 1) : Int), rr (PV.at 1 []), rr (PV.at 2 []), rr (PV.vec nl (PV.parr 1 n (Sh.vec 1 (Sh.int IntKind.u8)) T)), rr (I6 (n:Int)), rr (I6 (↑(i + 1) : Int)), rr (PV.st 69 [Hd.pv h, PV.vec nl (PV.parr 1 n (Sh.vec 1 (Sh.int IntKind.u8)) T)]), rr (B8 32 (List.replicate 32 0))] (by kernel_rfl) (ac (decide_eq_true (by omega)) (ac (by omega) (ac (by omega) (ac (by (rw [g]; rfl)) (ac (by omega) (ac (c1) (ac (cg (by omega)) (ac (cg (w_i64 rfl (by omega) (by omega))) (ac rfl (ac rfl (ac rfl (ac rfl (ac rfl (ac rfl (ao rfl))))))))))))))) ?_
      exact hw
    · rw [if_neg h0] at hp
      have hse : soundE L = txE xb := by unfold soundE; rw [ho.len, if_neg (by omega), hp, if_neg h0]
      have hne : ¬ ((txE xb : Int) = 0) := by omega
      unfold soundPV
      rw [hse, if_neg h0]
      clear hdrop hf hp hw hse
      generalize txE xb = e at *
      generalize L.map bsPV = T at *
      unfold dsSd Hd.pv hv at *
      refine W.ret [(0, aT), (2, aV (PV.vec xnl (B8 xN xb))), (5, Ans.call false [] [] (PV.tup [PV.st 2 [U6 (s:Int), PV.vec o (PV.parr 2 m (Sh.st 2 [Sh.int IntKind.u64, Sh.vec 1 (Sh.int IntKind.u8)]) M)], I6 (e:Int)])), (13, aT)] [] [decide ((i:Int) < (n:Int)) = true, 0 ≤ (i:Int), (i:Int) < (n:Int), PV.vec (PV.nil? (List.getD T i PV.undef)) (B8 (PV.len (PV.els (List.getD T i PV.undef))) (PV.nums (PV.els (List.getD T i PV.undef)))) = PV.vec xnl (B8 xN xb), i < n, PC Tryd.prog G0 32 [] [PV.vec xnl (B8 xN xb)] [] (PV.tup [PV.st 2 [U6 (s:Int), PV.vec o (PV.parr 2 m (Sh.st 2 [Sh.int IntKind.u64, Sh.vec 1 (Sh.int IntKind.u8)]) M)], I6 (e:Int)]), ((e:Int) != 0) = true, rr (PV.tup [B8 32 (List.replicate 32 0), I6 (e:Int)])] (by kernel_rfl) (ac (decide_eq_true (by omega)) (ac (by omega) (ac (by omega) (ac (by (rw [g]; rfl)) (ac (by omega) (ac (c1) (ac (bne_iff_ne.2 (by omega)) (ao rfl))))))))
theorem pc_sound {h : Hd} {nl : Bool} {n : Nat} {L : List TxM} (ho : TxsOk L n) (hn : n ≤ 100000) : PC Tryd.prog G0 26 [] [blkPV h nl n L] [] (soundPV L) := by
  refine PC.of (fn := Tryd.f26) (c := bodyOf Tryd.f26) Tryd.func26 (by kernel_rfl) (by kernel_rfl) (by kernel_rfl) (by kernel_rfl) ?_
  by_cases hr : n < 1 ∨ 16 < n
  · have hse : soundE L = 5 := by unfold soundE; rw [ho.len, if_pos hr]
    unfold soundPV
    rw [hse, if_neg (by omega)]
    unfold blkPV txsPV Hd.pv hv
    clear hse
    generalize L.map bsPV = T at *
    rcases hr with h1 | h1
    · refine W.ret [(6, aT)] [] [decide ((n:Int) < 1) = true, PV.tup [B8 32 (List.replicate 32 0), I6 5] = PV.tup [B8 32 (List.replicate 32 0), I6 (↑(5 : Nat) : Int)]] (by kernel_rfl) (ac (decide_eq_true (by omega)) (ao rfl))
    · have h2 : ¬ ((n : Int) < 1) := by omega
      refine W.ret [(6, aF), (11, aT)] [] [decide ((n:Int) < 1) = false, decide ((n:Int) > 16) = true, PV.tup [B8 32 (List.replicate 32 0), I6 5] = PV.tup [B8 32 (List.replicate 32 0), I6 (↑(5 : Nat) : Int)]] (by kernel_rfl) (ac (decide_eq_false (by omega)) (ac (decide_eq_true (by omega)) (ao rfl)))
  · have hw := W_sound (h := h) (nl := nl) ho (by omega) (by omega) n 0 (by omega) rfl
    generalize soundPV L = res at *
    unfold blkPV txsPV Hd.pv
    generalize L.map bsPV = T at *
    unfold dsSd Hd.pv at *
    refine W.seg [(6, aF), (11, aF)] [(64, 1), (80, 2)] (DS.mk [(1, PV.at 1 []), (2, PV.at 2 []), (21, PV.vec nl (PV.parr 1 n bsh T)), (22, I6 (n:Int)), (23, I6 (↑(0 : Nat) : Int))] [(1, Row.mk (PV.st 69 [Hd.pv h, PV.vec nl (PV.parr 1 n bsh T)]) false), (2, Row.mk (B8 32 z32) false)]) (todo' := loopAt Tryd.f26 0) [decide ((n:Int) < 1) = false, decide ((n:Int) > 16) = false, rr (PV.at 1 []), rr (PV.at 2 []), rr (PV.vec nl (PV.parr 1 n (Sh.vec 1 (Sh.int IntKind.u8)) T)), rr (I6 (n:Int)), I6 0 = I6 (↑(0 : Nat) : Int), rr (PV.st 69 [Hd.pv h, PV.vec nl (PV.parr 1 n (Sh.vec 1 (Sh.int IntKind.u8)) T)]), rr (B8 32 (List.replicate 32 0))] (by kernel_rfl) (ac (decide_eq_false (by omega)) (ac (decide_eq_false (by omega)) (ac rfl (ac rfl (ac rfl (ac rfl (ac (cg (by omega)) (ac rfl (ao rfl))))))))) ?_
    exact hw
end Go.Proofs
namespace Go.Proofs
open Go Go.Pe Go.Pm
set_option maxRecDepth 100000
set_option linter.unusedVariables false
def checkE (h : Hd) (L : List TxM) : Nat := if soundE L = 0 then (if rootM (idsM L) = h.root then 0 else 15) else soundE L
theorem soundE_le (L : List TxM) : soundE L ≤ 100 := by
  have h : parseE L ≤ 100 := by
    induction L with
    | nil => exact Nat.zero_le _
    | cons x l ih =>
      rw [parseE]
      have := txE_le x.2.2
      split <;> assumption
  unfold soundE
  repeat' split
  all_goals omega
theorem pc_bCheck {h : Hd} {nl : Bool} {n : Nat} {L : List TxM} (hh : h.Ok) (ho : TxsOk L n) (hn : n ≤ 100000) : PC Tryd.prog G0 12 [] [blkPV h nl n L] [] (.int .i64 (checkE h L)) := by
  refine PC.of (fn := Tryd.f12) (c := bodyOf Tryd.f12) Tryd.func12 (by kernel_rfl) (by kernel_rfl) (by kernel_rfl) (by kernel_rfl) ?_
  have c1 := pc_sound (h := h) (nl := nl) ho hn
  have hl := soundE_le L
  have hrl := rootM_length (idsM_ok ho)
  have hroot := hh.root
  unfold soundPV at c1
  unfold checkE
  by_cases h0 : soundE L = 0
  · rw [h0, if_pos rfl] at c1
    rw [if_pos h0]
    unfold blkPV txsPV Hd.pv hv at *
    by_cases hr : rootM (idsM L) = h.root
    · rw [if_pos hr]
      generalize rootM (idsM L) = rt at *
      subst hr
      generalize L.map bsPV = T at *
      refine W.ret [(3, aK (PV.tup [B8 32 (Hd.root h), I6 (↑(0 : Nat) : Int)])), (6, aV (I6 0)), (17, aF)] [] [PC Tryd.prog G0 26 [] [PV.st 69 [Hd.pv h, PV.vec nl (PV.parr 1 n (Sh.vec 1 (Sh.int IntKind.u8)) T)]] [] (PV.tup [B8 32 (Hd.root h), I6 (↑(0 : Nat) : Int)]), I6 (↑(0 : Nat) : Int) = I6 0, (!decide (Hd.root h = Hd.root h)) = false, I6 0 = I6 (↑(0 : Nat) : Int)] (by kernel_rfl) (ac (c1) (ac (cg (by omega)) (ac (by (simp [*]; done)) (ao (cg (by omega))))))
    · rw [if_neg hr]
      generalize rootM (idsM L) = rt at *
      generalize L.map bsPV = T at *
      generalize h.root = hr0 at *
      refine W.ret [(3, aK (PV.tup [B8 32 rt, I6 (↑(0 : Nat) : Int)])), (6, aV (I6 0)), (17, aT)] [] [PC Tryd.prog G0 26 [] [PV.st 69 [PV.st 68 [U3 (↑(Hd.ver h) : Int), B8 32 (Hd.prev h), B8 32 hr0, U3 (↑(Hd.time h) : Int), U3 (↑(Hd.bits h) : Int), U3 (↑(Hd.nonce h) : Int)], PV.vec nl (PV.parr 1 n (Sh.vec 1 (Sh.int IntKind.u8)) T)]] [] (PV.tup [B8 32 rt, I6 (↑(0 : Nat) : Int)]), I6 (↑(0 : Nat) : Int) = I6 0, (!decide (rt = hr0)) = true, I6 15 = I6 (↑(15 : Nat) : Int)] (by kernel_rfl) (ac (c1) (ac (cg (by omega)) (ac (by (simp [*]; done)) (ao (cg (by omega))))))
  · rw [if_neg h0] at c1 ⊢
    have hne : ¬ ((soundE L : Int) = 0) := by omega
    unfold blkPV txsPV Hd.pv hv at *
    generalize soundE L = e at *
    generalize L.map bsPV = T at *
    refine W.ret [(3, aK (PV.tup [B8 32 (List.replicate 32 0), I6 (e:Int)])), (11, aF)] [] [PC Tryd.prog G0 26 [] [PV.st 69 [Hd.pv h, PV.vec nl (PV.parr 1 n (Sh.vec 1 (Sh.int IntKind.u8)) T)]] [] (PV.tup [B8 32 (List.replicate 32 0), I6 (e:Int)]), ((e:Int) == 0) = false, rr (I6 (e:Int))] (by kernel_rfl) (ac (c1) (ac (decide_eq_false (by omega)) (ao rfl)))
/-- the law's guard -/
def smallB (L : List TxM) : Bool := decide (L.length ≤ 18) && L.all fun x => decide (x.2.1 ≤ 700)
def dsSm (h : Hd) (nl : Bool) (n : Nat) (T : List PV) (i : Nat) : DS := ⟨[(10, .vec nl (.parr 1 n bsh T)), (11, .int .i64 n), (12, .int .i64 i)], []⟩
end Go.Proofs
namespace Go.Proofs
open Go Go.Pe Go.Pm
set_option maxRecDepth 100000
set_option linter.unusedVariables false
theorem pc_lawHead {h : Hd} : PC Tryd.prog G0 24 [] [h.pv] [] h.pv := by
  refine PC.of (fn := Tryd.f24) (c := bodyOf Tryd.f24) Tryd.func24 (by kernel_rfl) (by kernel_rfl) (by kernel_rfl) (by kernel_rfl) ?_
  unfold Hd.pv
  refine W.ret [] [] [rr (Hd.pv h)] (by kernel_rfl) (ao rfl)
def stPV (x : TxM) : PV := .str (strOf x.2.2)
def txtsPV (n : Nat) (L : List TxM) : PV := .vec (decide (n = 0)) (.parr 1 n .str (L.map stPV))
def rblkPV (h : Hd) (n : Nat) (L : List TxM) : PV := .st 69 [h.pv, txtsPV n L]
def dsRf (h : Hd) (nl : Bool) (n : Nat) (T M : List PV) (i : Nat) : DS := ⟨[(2, .at 1 []), (3, .at 2 []), (11, .vec nl (.parr 1 n bsh T)), (12, .int .i64 n), (13, .int .i64 i)], [(1, ⟨.st 69 [.st 68 [.int .u32 0, .iarr .u8 32 z32, .iarr .u8 32 z32, .int .u32 0, .int .u32 0, .int .u32 0], .vec true (.parr 1 0 .str [])], false⟩), (2, ⟨.st 69 [h.pv, .ref 3 [] 1 0 i], false⟩), (3, ⟨.parr 1 i .str M, false⟩)]⟩
theorem st_get {L : List TxM} {i : Nat} (h : i < L.length) : (L.map stPV).take (i + 1) = (L.map stPV).take i ++ [stPV (L.getD i default)] := by
  rw [List.take_add_one]
  congr 1
  simp [List.getD_eq_getElem?_getD, h]
theorem W_lawRef {h : Hd} {nl : Bool} {n : Nat} {L : List TxM} (ho : TxsOk L n) (hn : n ≤ 100000) : ∀ (k i : Nat), i + k = n → 0 < i →
    W Tryd.prog G0 Tryd.f9 [] [] (rblkPV h n L) (loopAt Tryd.f9 0) (dsRf h nl n (L.map bsPV) ((L.map stPV).take i) i)
  | 0, i, hk, h0 => by
    have hi : i = n := by omega
    subst hi
    have e : (L.map stPV).take i = L.map stPV := List.take_of_length_le (by rw [List.length_map, ho.len]; omega)
    rw [e]
    have hl : (L.map stPV).length = i := by rw [List.length_map, ho.len]
    have hd : decide (i = 0) = false := decide_eq_false (by omega)
    unfold rblkPV txtsPV
    rw [hd]
    generalize L.map bsPV = T at *
    generalize L.map stPV = M at *
    unfold dsRf Hd.pv
    refine W.ret [(0, aF)] [] [decide ((i:Int) < (i:Int)) = false, 0 + i ≤ i, PV.st 69 [Hd.pv h, PV.vec false (PV.parr 1 i Sh.str (List.take i M))] = PV.st 69 [Hd.pv h, PV.vec false (PV.parr 1 i Sh.str M)]] (by kernel_rfl) (ac (decide_eq_false (by omega)) (ac (by omega) (ao (by (simp; omega)))))
  | k + 1, i, hk, h0 => by
    have hi : i < n := by omega
    have hlt : i < L.length := by rw [ho.len]; exact hi
    have g := bs_get (l := L) (i := i) hlt
    obtain ⟨hb, hnl, hN⟩ := ho.get hi
    have hw := W_lawRef (h := h) (nl := nl) ho hn k (i + 1) (by omega) (by omega)
    rw [st_get hlt] at hw
    have hl : ((L.map stPV).take i).length = i := by rw [List.length_take, List.length_map, ho.len]; omega
    unfold stPV at hw hl ⊢
    generalize L.getD i default = x at *
    obtain ⟨xnl, xN, xb⟩ := x
    dsimp only at *
    change _ = PV.vec xnl (.iarr .u8 xN xb) at g
    generalize rblkPV h n L = res at *
    generalize (L.map fun x : TxM => PV.str (strOf x.2.2)).take i = M at *
    generalize L.map bsPV = T at *
    unfold dsRf Hd.pv at *
    refine W.seg [(0, aT), (2, aV (PV.vec xnl (B8 xN xb))), (9, Ans.ups [(3, none), (208, some (Row.mk (PV.parr 1 (i + 1) Sh.str (M ++ [PV.str (strOf xb)])) false))]), (12, aV (I6 (↑(i + 1) : Int)))] [(1, 1), (2, 2), (208, 3)] (DS.mk [(2, PV.at 1 []), (3, PV.at 2 []), (11, PV.vec nl (PV.parr 1 n bsh T)), (12, I6 (n:Int)), (13, I6 (↑(i + 1) : Int))] [(1, Row.mk (PV.st 69 [PV.st 68 [U3 0, B8 32 z32, B8 32 z32, U3 0, U3 0, U3 0], PV.vec true (PV.parr 1 0 Sh.str [])]) false), (2, Row.mk (PV.st 69 [Hd.pv h, PV.ref 3 [] 1 0 (i + 1)]) false), (3, Row.mk (PV.parr 1 (i + 1) Sh.str (M ++ [PV.str (strOf xb)])) false)]) (todo' := loopAt Tryd.f9 0) [decide ((i:Int) < (n:Int)) = true, 0 ≤ (i:Int), (i:Int) < (n:Int), PV.vec (PV.nil? (List.getD T i PV.undef)) (B8 (PV.len (PV.els (List.getD T i PV.undef))) (PV.nums (PV.els (List.getD T i PV.undef)))) = PV.vec xnl (B8 xN xb), i < n, ([(3, none), (208, some (Row.mk (PV.parr 1 (i + 1) Sh.str (List.take i M ++ [PV.str (strOf xb)])) false))] : List (Nat × Option Row)) = [(3, none), (208, some (Row.mk (PV.parr 1 (i + 1) Sh.str (M ++ [PV.str (strOf xb)])) false))], 1 ≤ 1, 0 + i = i, (i + 1) * 16 ≤ 140737488355328, i + 1 ≤ 9223372036854775807, I6 (IntKind.wrap .i64 ((i:Int) + 1)) = I6 (↑(i + 1) : Int), rr (PV.at 1 []), rr (PV.at 2 []), rr (PV.vec nl (PV.parr 1 n (Sh.vec 1 (Sh.int IntKind.u8)) T)), rr (I6 (n:Int)), rr (I6 (↑(i + 1) : Int)), rr (PV.st 69 [PV.st 68 [U3 0, B8 32 (List.replicate 32 0), B8 32 (List.replicate 32 0), U3 0, U3 0, U3 0], PV.vec true (PV.parr 1 0 Sh.str [])]), rr (PV.st 69 [Hd.pv h, PV.ref 3 [] 1 0 (i + 1)]), rr (PV.parr 1 (i + 1) Sh.str (M ++ [PV.str (strOf xb)]))] (by kernel_rfl) (ac (decide_eq_true (by omega)) (ac (by omega) (ac (by omega) (ac (by (rw [g]; rfl)) (ac (by omega) (ac (by rw [List.take_of_length_le (show List.length M ≤ i by omega)]) (ac (by omega) (ac (by omega) (ac (by omega) (ac (by omega) (ac (cg (w_i64 rfl (by omega) (by omega))) (ac rfl (ac rfl (ac rfl (ac rfl (ac rfl (ac rfl (ac rfl (ao rfl))))))))))))))))))) ?_
    exact hw
theorem pc_lawRef {h : Hd} {nl : Bool} {n : Nat} {L : List TxM} (ho : TxsOk L n) (hn : n ≤ 100000) : PC Tryd.prog G0 9 [] [blkPV h nl n L] [] (rblkPV h n L) := by
  refine PC.of (fn := Tryd.f9) (c := bodyOf Tryd.f9) Tryd.func9 (by kernel_rfl) (by kernel_rfl) (by kernel_rfl) (by kernel_rfl) ?_
  have c1 := pc_lawHead (h := h)
  by_cases h0 : n = 0
  · subst h0
    have hL : L = [] := List.eq_nil_of_length_eq_zero ho.len
    subst hL
    unfold rblkPV txtsPV blkPV txsPV Hd.pv at *
    change W _ _ _ _ _ (PV.st 69 [_, PV.vec true (PV.parr 1 0 .str [])]) _ _
    refine W.seg [(4, aK (Hd.pv h)), (10, aV (I6 0))] [(80, 1), (160, 2)] (DS.mk [(2, PV.at 1 []), (3, PV.at 2 []), (11, PV.vec nl (PV.parr 1 0 bsh [])), (12, I6 (↑(0 : Nat) : Int)), (13, I6 0)] [(1, Row.mk (PV.st 69 [PV.st 68 [U3 0, B8 32 z32, B8 32 z32, U3 0, U3 0, U3 0], PV.vec true (PV.parr 1 0 Sh.str [])]) false), (2, Row.mk (PV.st 69 [Hd.pv h, PV.vec true (PV.parr 1 0 Sh.str [])]) false)]) (todo' := loopAt Tryd.f9 0) [PC Tryd.prog G0 24 [] [Hd.pv h] [] (Hd.pv h), I6 (↑(0 : Nat) : Int) = I6 0, rr (PV.at 1 []), rr (PV.at 2 []), rr (PV.vec nl (PV.parr 1 0 (Sh.vec 1 (Sh.int IntKind.u8)) [])), I6 0 = I6 (↑(0 : Nat) : Int), rr (I6 0), rr (PV.st 69 [PV.st 68 [U3 0, B8 32 (List.replicate 32 0), B8 32 (List.replicate 32 0), U3 0, U3 0, U3 0], PV.vec true (PV.parr 1 0 Sh.str [])]), rr (PV.st 69 [Hd.pv h, PV.vec true (PV.parr 1 0 Sh.str [])])] (by kernel_rfl) (ac (c1) (ac (cg (by omega)) (ac rfl (ac rfl (ac rfl (ac (cg (by omega)) (ac rfl (ac rfl (ao rfl))))))))) ?_
    refine W.ret [] [] [rr (PV.st 69 [Hd.pv h, PV.vec true (PV.parr 1 0 Sh.str [])])] (by kernel_rfl) (ao rfl)
  · have hlt : 0 < L.length := by rw [ho.len]; omega
    have g := bs_get (l := L) (i := 0) hlt
    obtain ⟨hb, hnl, hN⟩ := ho.get (i := 0) (by omega)
    have hw := W_lawRef (h := h) (nl := nl) ho hn (n - 1) 1 (by omega) (by omega)
    have hs := st_get hlt
    rw [List.take_zero, List.nil_append] at hs
    rw [hs] at hw
    unfold stPV at hw
    generalize L.getD 0 default = x at *
    obtain ⟨xnl, xN, xb⟩ := x
    dsimp only at *
    change _ = PV.vec xnl (.iarr .u8 xN xb) at g
    have hn0 : 0 < n := by omega
    clear hs h0
    generalize rblkPV h n L = res at *
    unfold blkPV txsPV at *
    generalize L.map bsPV = T at *
    unfold dsRf Hd.pv at *
    refine W.seg [(4, aK (Hd.pv h))] [(80, 1), (160, 2)] (DS.mk [(2, PV.at 1 []), (3, PV.at 2 []), (11, PV.vec nl (PV.parr 1 n bsh T)), (12, I6 (n:Int)), (13, I6 0)] [(1, Row.mk (PV.st 69 [PV.st 68 [U3 0, B8 32 z32, B8 32 z32, U3 0, U3 0, U3 0], PV.vec true (PV.parr 1 0 Sh.str [])]) false), (2, Row.mk (PV.st 69 [Hd.pv h, PV.vec true (PV.parr 1 0 Sh.str [])]) false)]) (todo' := loopAt Tryd.f9 0) [PC Tryd.prog G0 24 [] [Hd.pv h] [] (Hd.pv h), rr (PV.at 1 []), rr (PV.at 2 []), rr (PV.vec nl (PV.parr 1 n (Sh.vec 1 (Sh.int IntKind.u8)) T)), rr (I6 (n:Int)), rr (I6 0), rr (PV.st 69 [PV.st 68 [U3 0, B8 32 (List.replicate 32 0), B8 32 (List.replicate 32 0), U3 0, U3 0, U3 0], PV.vec true (PV.parr 1 0 Sh.str [])]), rr (PV.st 69 [Hd.pv h, PV.vec true (PV.parr 1 0 Sh.str [])])] (by kernel_rfl) (ac (c1) (ac rfl (ac rfl (ac rfl (ac rfl (ac rfl (ac rfl (ao rfl)))))))) ?_
    refine W.seg [(0, aT), (2, aV (PV.vec xnl (B8 xN xb))), (12, aV (I6 1))] [(1, 1), (2, 2), (208, 3)] (DS.mk [(2, PV.at 1 []), (3, PV.at 2 []), (11, PV.vec nl (PV.parr 1 n bsh T)), (12, I6 (n:Int)), (13, I6 (↑(1 : Nat) : Int))] [(1, Row.mk (PV.st 69 [PV.st 68 [U3 0, B8 32 z32, B8 32 z32, U3 0, U3 0, U3 0], PV.vec true (PV.parr 1 0 Sh.str [])]) false), (2, Row.mk (PV.st 69 [Hd.pv h, PV.ref 3 [] 1 0 1]) false), (3, Row.mk (PV.parr 1 1 Sh.str [PV.str (strOf xb)]) false)]) (todo' := loopAt Tryd.f9 0) [decide (0 < (n:Int)) = true, (0 : Int) ≤ (0 : Int), 0 < (n:Int), PV.vec (PV.nil? (List.getD T 0 PV.undef)) (B8 (PV.len (PV.els (List.getD T 0 PV.undef))) (PV.nums (PV.els (List.getD T 0 PV.undef)))) = PV.vec xnl (B8 xN xb), 0 < n, 1 ≤ 1, 0 < 1, 16 ≤ 140737488355328, 1 ≤ 9223372036854775807, I6 (IntKind.wrap .i64 ((0 : Int) + (1 : Int))) = I6 1, rr (PV.at 1 []), rr (PV.at 2 []), rr (PV.vec nl (PV.parr 1 n (Sh.vec 1 (Sh.int IntKind.u8)) T)), rr (I6 (n:Int)), I6 1 = I6 (↑(1 : Nat) : Int), rr (PV.st 69 [PV.st 68 [U3 0, B8 32 (List.replicate 32 0), B8 32 (List.replicate 32 0), U3 0, U3 0, U3 0], PV.vec true (PV.parr 1 0 Sh.str [])]), rr (PV.st 69 [Hd.pv h, PV.ref 3 [] 1 0 1]), rr (PV.parr 1 1 Sh.str [PV.str (strOf xb)])] (by kernel_rfl) (ac (decide_eq_true (by omega)) (ac (by omega) (ac (by omega) (ac (by (rw [g]; rfl)) (ac (by omega) (ac (by omega) (ac (by omega) (ac (by omega) (ac (by omega) (ac (cg (w_i64 rfl (by omega) (by omega))) (ac rfl (ac rfl (ac rfl (ac rfl (ac (cg (by omega)) (ac rfl (ac rfl (ao rfl)))))))))))))))))) ?_
    exact hw
/-- Make -/
def dsMk (h : Hd) (nl : Bool) (n : Nat) (T M : List PV) (i : Nat) : DS := ⟨[(4, .at 1 []), (6, .at 2 []), (13, .vec nl (.parr 1 n bsh T)), (14, .int .i64 n), (15, .int .i64 i)], [(1, ⟨.st 69 [.st 68 [.int .u32 0, .iarr .u8 32 z32, .iarr .u8 32 z32, .int .u32 0, .int .u32 0, .int .u32 0], .vec true (.parr 1 0 bsh [])], false⟩), (2, ⟨.st 69 [h.pv, .ref 3 [] 1 0 i], false⟩), (3, ⟨.parr 1 i bsh M, false⟩)]⟩
def zHd : Hd := ⟨0, z32, z32, 0, 0, 0⟩
/-- the block that is made, or the error -/
def makePV (h : Hd) (n : Nat) (L : List TxM) : PV := .tup [if soundE L = 0 then blkPV { h with root := rootM (idsM L) } (decide (n = 0)) n L else blkPV zHd true 0 [], .int .i64 (soundE L)]
theorem bsl_get {L : List TxM} {i : Nat} (h : i < L.length) : (L.map bsPV).take (i + 1) = (L.map bsPV).take i ++ [bsPV (L.getD i default)] := by
  rw [List.take_add_one]
  congr 1
  simp [List.getD_eq_getElem?_getD, h]
theorem W_make {h : Hd} {nl : Bool} {n : Nat} {L : List TxM} (ho : TxsOk L n) (hn : n ≤ 100000) : ∀ (k i : Nat), i + k = n → 0 < i →
    W Tryd.prog G0 Tryd.f14 [] [] (makePV h n L) (loopAt Tryd.f14 0) (dsMk h nl n (L.map bsPV) ((L.map bsPV).take i) i)
  | 0, i, hk, h0 => by
    have hi : i = n := by omega
    subst hi
    have e : (L.map bsPV).take i = L.map bsPV := List.take_of_length_le (by rw [List.length_map, ho.len]; omega)
    have hd : decide (i = 0) = false := decide_eq_false (by omega)
    have c1 := pc_sound (h := h) (nl := false) ho hn
    have hrl := rootM_length (idsM_ok ho)
    have hle := soundE_le L
    rw [e]
    unfold makePV soundPV blkPV txsPV at *
    by_cases hs : soundE L = 0
    · rw [hs, if_pos rfl] at c1
      rw [if_pos hs, hs, hd]
      generalize hT : L.map bsPV = T at *
      rw [← e] at c1
      generalize rootM (idsM L) = rt at *
      unfold dsMk Hd.pv hv at *
      refine W.ret [(0, aF), (2, aK (PV.tup [B8 32 rt, I6 (↑(0 : Nat) : Int)])), (5, aV (I6 0))] [] [decide ((i:Int) < (i:Int)) = false, 0 + i ≤ i, PC Tryd.prog G0 26 [] [PV.st 69 [Hd.pv h, PV.vec false (PV.parr 1 i (Sh.vec 1 (Sh.int IntKind.u8)) (List.take i T))]] [] (PV.tup [B8 32 rt, I6 (↑(0 : Nat) : Int)]), I6 (↑(0 : Nat) : Int) = I6 0, 0 + i ≤ i, PV.tup [PV.st 69 [PV.st 68 [U3 (↑(Hd.ver h) : Int), B8 32 (Hd.prev h), B8 32 rt, U3 (↑(Hd.time h) : Int), U3 (↑(Hd.bits h) : Int), U3 (↑(Hd.nonce h) : Int)], PV.vec false (PV.parr 1 i (Sh.vec 1 (Sh.int IntKind.u8)) (List.take i T))], I6 0] = PV.tup [PV.st 69 [PV.st 68 [U3 (↑(Hd.ver (Hd.mk (Hd.ver h) (Hd.prev h) rt (Hd.time h) (Hd.bits h) (Hd.nonce h))) : Int), B8 32 (Hd.prev (Hd.mk (Hd.ver h) (Hd.prev h) rt (Hd.time h) (Hd.bits h) (Hd.nonce h))), B8 32 rt, U3 (↑(Hd.time (Hd.mk (Hd.ver h) (Hd.prev h) rt (Hd.time h) (Hd.bits h) (Hd.nonce h))) : Int), U3 (↑(Hd.bits (Hd.mk (Hd.ver h) (Hd.prev h) rt (Hd.time h) (Hd.bits h) (Hd.nonce h))) : Int), U3 (↑(Hd.nonce (Hd.mk (Hd.ver h) (Hd.prev h) rt (Hd.time h) (Hd.bits h) (Hd.nonce h))) : Int)], PV.vec false (PV.parr 1 i (Sh.vec 1 (Sh.int IntKind.u8)) T)], I6 (↑(0 : Nat) : Int)]] (by kernel_rfl) (ac (decide_eq_false (by omega)) (ac (by omega) (ac (c1) (ac (cg (by omega)) (ac (by omega) (ao (by (simp; omega))))))))
    · rw [if_neg hs] at c1 ⊢
      have hne : ¬ ((soundE L : Int) = 0) := by omega
      generalize hT : L.map bsPV = T at *
      rw [← e] at c1
      generalize soundE L = ee at *
      unfold dsMk zHd Hd.pv hv at *
      refine W.ret [(0, aF), (2, aK (PV.tup [B8 32 (List.replicate 32 0), I6 (ee:Int)])), (10, aT)] [] [decide ((i:Int) < (i:Int)) = false, 0 + i ≤ i, PC Tryd.prog G0 26 [] [PV.st 69 [Hd.pv h, PV.vec false (PV.parr 1 i (Sh.vec 1 (Sh.int IntKind.u8)) (List.take i T))]] [] (PV.tup [B8 32 (List.replicate 32 0), I6 (ee:Int)]), ((ee:Int) != 0) = true, PV.tup [PV.st 69 [PV.st 68 [U3 0, B8 32 (List.replicate 32 0), B8 32 (List.replicate 32 0), U3 0, U3 0, U3 0], PV.vec true (PV.parr 1 0 (Sh.vec 1 (Sh.int IntKind.u8)) [])], I6 (ee:Int)] = PV.tup [PV.st 69 [PV.st 68 [U3 (↑(0 : Nat) : Int), B8 32 (List.replicate 32 0), B8 32 (List.replicate 32 0), U3 (↑(0 : Nat) : Int), U3 (↑(0 : Nat) : Int), U3 (↑(0 : Nat) : Int)], PV.vec true (PV.parr 1 0 (Sh.vec 1 (Sh.int IntKind.u8)) [])], I6 (ee:Int)]] (by kernel_rfl) (ac (decide_eq_false (by omega)) (ac (by omega) (ac (c1) (ac (bne_iff_ne.2 (by omega)) (ao rfl)))))
  | k + 1, i, hk, h0 => by
    have hi : i < n := by omega
    have hlt : i < L.length := by rw [ho.len]; exact hi
    have g := bs_get (l := L) (i := i) hlt
    obtain ⟨hb, hnl, hN⟩ := ho.get hi
    have hw := W_make (h := h) (nl := nl) ho hn k (i + 1) (by omega) (by omega)
    rw [bsl_get hlt] at hw
    have hl : ((L.map bsPV).take i).length = i := by rw [List.length_take, List.length_map, ho.len]; omega
    generalize L.getD i default = x at *
    obtain ⟨xnl, xN, xb⟩ := x
    have c1 := pc_cloneV (by omega) hb.len hnl
    dsimp only at *
    change _ = PV.vec xnl (.iarr .u8 xN xb) at g
    change W _ _ _ _ _ _ _ (dsMk h nl n (L.map bsPV) ((L.map bsPV).take i ++ [PV.vec xnl (.iarr .u8 xN xb)]) (i + 1)) at hw
    generalize makePV h n L = res at *
    generalize (L.map bsPV).take i = M at *
    generalize L.map bsPV = T at *
    unfold dsMk Hd.pv at *
    refine W.seg [(0, aT), (2, aV (PV.vec xnl (B8 xN xb))), (7, Ans.call false [] [] (PV.vec xnl (B8 xN xb))), (9, Ans.ups [(3, none), (208, some (Row.mk (PV.parr 1 (i + 1) (Sh.vec 1 (Sh.int IntKind.u8)) (M ++ [PV.vec xnl (B8 xN xb)])) false))]), (12, aV (I6 (↑(i + 1) : Int)))] [(1, 1), (2, 2), (208, 3)] (DS.mk [(4, PV.at 1 []), (6, PV.at 2 []), (13, PV.vec nl (PV.parr 1 n bsh T)), (14, I6 (n:Int)), (15, I6 (↑(i + 1) : Int))] [(1, Row.mk (PV.st 69 [PV.st 68 [U3 0, B8 32 z32, B8 32 z32, U3 0, U3 0, U3 0], PV.vec true (PV.parr 1 0 bsh [])]) false), (2, Row.mk (PV.st 69 [Hd.pv h, PV.ref 3 [] 1 0 (i + 1)]) false), (3, Row.mk (PV.parr 1 (i + 1) bsh (M ++ [PV.vec xnl (B8 xN xb)])) false)]) (todo' := loopAt Tryd.f14 0) [decide ((i:Int) < (n:Int)) = true, 0 ≤ (i:Int), (i:Int) < (n:Int), PV.vec (PV.nil? (List.getD T i PV.undef)) (B8 (PV.len (PV.els (List.getD T i PV.undef))) (PV.nums (PV.els (List.getD T i PV.undef)))) = PV.vec xnl (B8 xN xb), i < n, PC Tryd.prog G0 27 [] [PV.vec xnl (B8 xN xb)] [] (PV.vec xnl (B8 xN xb)), ([(3, none), (208, some (Row.mk (PV.parr 1 (i + 1) (Sh.vec 1 (Sh.int IntKind.u8)) (List.take i M ++ [PV.vec xnl (B8 xN xb)])) false))] : List (Nat × Option Row)) = [(3, none), (208, some (Row.mk (PV.parr 1 (i + 1) (Sh.vec 1 (Sh.int IntKind.u8)) (M ++ [PV.vec xnl (B8 xN xb)])) false))], 1 ≤ 1, 0 + i = i, (i + 1) * 24 ≤ 140737488355328, i + 1 ≤ 9223372036854775807, I6 (IntKind.wrap .i64 ((i:Int) + 1)) = I6 (↑(i + 1) : Int), rr (PV.at 1 []), rr (PV.at 2 []), rr (PV.vec nl (PV.parr 1 n (Sh.vec 1 (Sh.int IntKind.u8)) T)), rr (I6 (n:Int)), rr (I6 (↑(i + 1) : Int)), rr (PV.st 69 [PV.st 68 [U3 0, B8 32 (List.replicate 32 0), B8 32 (List.replicate 32 0), U3 0, U3 0, U3 0], PV.vec true (PV.parr 1 0 (Sh.vec 1 (Sh.int IntKind.u8)) [])]), rr (PV.st 69 [Hd.pv h, PV.ref 3 [] 1 0 (i + 1)]), rr (PV.parr 1 (i + 1) (Sh.vec 1 (Sh.int IntKind.u8)) (M ++ [PV.vec xnl (B8 xN xb)]))] (by kernel_rfl) (ac (decide_eq_true (by omega)) (ac (by omega) (ac (by omega) (ac (by (rw [g]; rfl)) (ac (by omega) (ac (c1) (ac (by rw [List.take_of_length_le (show List.length M ≤ i by omega)]) (ac (by omega) (ac (by omega) (ac (by omega) (ac (by omega) (ac (cg (w_i64 rfl (by omega) (by omega))) (ac rfl (ac rfl (ac rfl (ac rfl (ac rfl (ac rfl (ac rfl (ao rfl)))))))))))))))))))) ?_
    exact hw
theorem pc_make {h : Hd} {nl : Bool} {n : Nat} {L : List TxM} (ho : TxsOk L n) (hn : n ≤ 100000) : PC Tryd.prog G0 14 [] [h.pv, txsPV nl n L] [] (makePV h n L) := by
  refine PC.of (fn := Tryd.f14) (c := bodyOf Tryd.f14) Tryd.func14 (by kernel_rfl) (by kernel_rfl) (by kernel_rfl) (by kernel_rfl) ?_
  by_cases h0 : n = 0
  · subst h0
    have hL : L = [] := List.eq_nil_of_length_eq_zero ho.len
    subst hL
    have c1 := pc_sound (h := h) (nl := true) ho (by omega)
    have hs : soundE [] = 5 := rfl
    unfold makePV soundPV blkPV txsPV zHd at *
    rw [hs, if_neg (by omega)] at c1 ⊢
    unfold Hd.pv hv at *
    refine W.seg [(8, aV (I6 0))] [(80, 1), (144, 2)] (DS.mk [(4, PV.at 1 []), (6, PV.at 2 []), (13, PV.vec nl (PV.parr 1 0 bsh [])), (14, I6 (↑(0 : Nat) : Int)), (15, I6 0)] [(1, Row.mk (PV.st 69 [PV.st 68 [U3 0, B8 32 z32, B8 32 z32, U3 0, U3 0, U3 0], PV.vec true (PV.parr 1 0 bsh [])]) false), (2, Row.mk (PV.st 69 [Hd.pv h, PV.vec true (PV.parr 1 0 bsh [])]) false)]) (todo' := loopAt Tryd.f14 0) [I6 (↑(0 : Nat) : Int) = I6 0, rr (PV.at 1 []), rr (PV.at 2 []), rr (PV.vec nl (PV.parr 1 0 (Sh.vec 1 (Sh.int IntKind.u8)) [])), I6 0 = I6 (↑(0 : Nat) : Int), rr (I6 0), rr (PV.st 69 [PV.st 68 [U3 0, B8 32 (List.replicate 32 0), B8 32 (List.replicate 32 0), U3 0, U3 0, U3 0], PV.vec true (PV.parr 1 0 (Sh.vec 1 (Sh.int IntKind.u8)) [])]), rr (PV.st 69 [Hd.pv h, PV.vec true (PV.parr 1 0 (Sh.vec 1 (Sh.int IntKind.u8)) [])])] (by kernel_rfl) (ac (cg (by omega)) (ac rfl (ac rfl (ac rfl (ac (cg (by omega)) (ac rfl (ac rfl (ao rfl)))))))) ?_
    refine W.ret [(2, aK (PV.tup [B8 32 (List.replicate 32 0), I6 (↑(5 : Nat) : Int)])), (5, aV (I6 5))] [] [PC Tryd.prog G0 26 [] [PV.st 69 [Hd.pv h, PV.vec true (PV.parr 1 0 (Sh.vec 1 (Sh.int IntKind.u8)) [])]] [] (PV.tup [B8 32 (List.replicate 32 0), I6 (↑(5 : Nat) : Int)]), I6 (↑(5 : Nat) : Int) = I6 5, PV.tup [PV.st 69 [PV.st 68 [U3 0, B8 32 (List.replicate 32 0), B8 32 (List.replicate 32 0), U3 0, U3 0, U3 0], PV.vec true (PV.parr 1 0 (Sh.vec 1 (Sh.int IntKind.u8)) [])], I6 5] = PV.tup [PV.st 69 [PV.st 68 [U3 (↑(0 : Nat) : Int), B8 32 (List.replicate 32 0), B8 32 (List.replicate 32 0), U3 (↑(0 : Nat) : Int), U3 (↑(0 : Nat) : Int), U3 (↑(0 : Nat) : Int)], PV.vec true (PV.parr 1 0 (Sh.vec 1 (Sh.int IntKind.u8)) [])], I6 (↑(5 : Nat) : Int)]] (by kernel_rfl) (ac (c1) (ac (cg (by omega)) (ao rfl)))
  · have hlt : 0 < L.length := by rw [ho.len]; omega
    have g := bs_get (l := L) (i := 0) hlt
    obtain ⟨hb, hnl, hN⟩ := ho.get (i := 0) (by omega)
    have hw := W_make (h := h) (nl := nl) ho hn (n - 1) 1 (by omega) (by omega)
    have hs := bsl_get hlt
    rw [List.take_zero, List.nil_append] at hs
    rw [hs] at hw
    generalize L.getD 0 default = x at *
    obtain ⟨xnl, xN, xb⟩ := x
    have c1 := pc_cloneV (by omega) hb.len hnl
    dsimp only at *
    change _ = PV.vec xnl (.iarr .u8 xN xb) at g
    change W _ _ _ _ _ _ _ (dsMk h nl n (L.map bsPV) [PV.vec xnl (.iarr .u8 xN xb)] 1) at hw
    have hn0 : 0 < n := by omega
    clear hs h0
    generalize makePV h n L = res at *
    unfold txsPV at *
    generalize L.map bsPV = T at *
    unfold dsMk Hd.pv at *
    refine W.seg [] [(80, 1), (144, 2)] (DS.mk [(4, PV.at 1 []), (6, PV.at 2 []), (13, PV.vec nl (PV.parr 1 n bsh T)), (14, I6 (n:Int)), (15, I6 0)] [(1, Row.mk (PV.st 69 [PV.st 68 [U3 0, B8 32 z32, B8 32 z32, U3 0, U3 0, U3 0], PV.vec true (PV.parr 1 0 bsh [])]) false), (2, Row.mk (PV.st 69 [Hd.pv h, PV.vec true (PV.parr 1 0 bsh [])]) false)]) (todo' := loopAt Tryd.f14 0) [rr (PV.at 1 []), rr (PV.at 2 []), rr (PV.vec nl (PV.parr 1 n (Sh.vec 1 (Sh.int IntKind.u8)) T)), rr (I6 (n:Int)), rr (I6 0), rr (PV.st 69 [PV.st 68 [U3 0, B8 32 (List.replicate 32 0), B8 32 (List.replicate 32 0), U3 0, U3 0, U3 0], PV.vec true (PV.parr 1 0 (Sh.vec 1 (Sh.int IntKind.u8)) [])]), rr (PV.st 69 [Hd.pv h, PV.vec true (PV.parr 1 0 (Sh.vec 1 (Sh.int IntKind.u8)) [])])] (by kernel_rfl) (ac rfl (ac rfl (ac rfl (ac rfl (ac rfl (ac rfl (ao rfl))))))) ?_
    refine W.seg [(0, aT), (2, aV (PV.vec xnl (B8 xN xb))), (7, Ans.call false [] [] (PV.vec xnl (B8 xN xb))), (12, aV (I6 1))] [(1, 1), (2, 2), (208, 3)] (DS.mk [(4, PV.at 1 []), (6, PV.at 2 []), (13, PV.vec nl (PV.parr 1 n bsh T)), (14, I6 (n:Int)), (15, I6 (↑(1 : Nat) : Int))] [(1, Row.mk (PV.st 69 [PV.st 68 [U3 0, B8 32 z32, B8 32 z32, U3 0, U3 0, U3 0], PV.vec true (PV.parr 1 0 bsh [])]) false), (2, Row.mk (PV.st 69 [Hd.pv h, PV.ref 3 [] 1 0 1]) false), (3, Row.mk (PV.parr 1 1 bsh [PV.vec xnl (B8 xN xb)]) false)]) (todo' := loopAt Tryd.f14 0) [decide (0 < (n:Int)) = true, (0 : Int) ≤ (0 : Int), 0 < (n:Int), PV.vec (PV.nil? (List.getD T 0 PV.undef)) (B8 (PV.len (PV.els (List.getD T 0 PV.undef))) (PV.nums (PV.els (List.getD T 0 PV.undef)))) = PV.vec xnl (B8 xN xb), 0 < n, PC Tryd.prog G0 27 [] [PV.vec xnl (B8 xN xb)] [] (PV.vec xnl (B8 xN xb)), 1 ≤ 1, 0 < 1, 24 ≤ 140737488355328, 1 ≤ 9223372036854775807, I6 (IntKind.wrap .i64 ((0 : Int) + (1 : Int))) = I6 1, rr (PV.at 1 []), rr (PV.at 2 []), rr (PV.vec nl (PV.parr 1 n (Sh.vec 1 (Sh.int IntKind.u8)) T)), rr (I6 (n:Int)), I6 1 = I6 (↑(1 : Nat) : Int), rr (PV.st 69 [PV.st 68 [U3 0, B8 32 (List.replicate 32 0), B8 32 (List.replicate 32 0), U3 0, U3 0, U3 0], PV.vec true (PV.parr 1 0 (Sh.vec 1 (Sh.int IntKind.u8)) [])]), rr (PV.st 69 [Hd.pv h, PV.ref 3 [] 1 0 1]), rr (PV.parr 1 1 (Sh.vec 1 (Sh.int IntKind.u8)) [PV.vec xnl (B8 xN xb)])] (by kernel_rfl) (ac (decide_eq_true (by omega)) (ac (by omega) (ac (by omega) (ac (by (rw [g]; rfl)) (ac (by omega) (ac (c1) (ac (by omega) (ac (by omega) (ac (by omega) (ac (by omega) (ac (cg (w_i64 rfl (by omega) (by omega))) (ac rfl (ac rfl (ac rfl (ac rfl (ac (cg (by omega)) (ac rfl (ac rfl (ao rfl))))))))))))))))))) ?_
    exact hw
end Go.Proofs
namespace Go.Proofs
open Go Go.Pe Go.Pm
set_option maxRecDepth 100000
set_option linter.unusedVariables false
theorem pc_rPair {a b : List Int} (ha : a.length = 32 ∧ Bytes a) (hb : b.length = 32 ∧ Bytes b) : PC Tryd.prog G0 55 [] [.iarr .u8 32 a, .iarr .u8 32 b] [] (.iarr .u8 32 (dsha (a ++ b))) := by
  refine PC.of (fn := Tryd.f55) (c := bodyOf Tryd.f55) Tryd.func55 (by kernel_rfl) (by kernel_rfl) (by kernel_rfl) (by kernel_rfl) ?_
  have hs1 : (strOf a).size = 32 := by rw [strOf_size, ha.1]
  have hs2 : (strOf b).size = 32 := by rw [strOf_size, hb.1]
  have c1 := pc_rTwice (s := strOf a ++ strOf b) (by rw [strOf_append, strOf_size, List.length_append]; omega)
  have e : bytesOf (strOf a ++ strOf b) = a ++ b := by
    rw [strOf_append, bytesOf_strOf]
    intro x hx
    rcases List.mem_append.1 hx with h | h
    · exact ha.2 x h
    · exact hb.2 x h
  rw [e] at c1
  have l1 := ha.1
  have l2 := hb.1
  have t1 : a.take 32 = a := List.take_of_length_le (by omega)
  have t2 : b.take 32 = b := List.take_of_length_le (by omega)
  generalize dsha (a ++ b) = r at *
  refine W.ret [(4, aV (PV.str (strOf a))), (6, aV (PV.str (strOf b))), (8, aK (B8 32 r))] [] [(0 : Int) ≤ (0 : Int), 0 ≤ (↑(32 : Nat) : Int), (↑(32 : Nat) : Int) ≤ (↑(32 : Nat) : Int), PV.str (strOf (List.take 32 a)) = PV.str (strOf a), 32 ≤ 32, (0 : Int) ≤ (0 : Int), 0 ≤ (↑(32 : Nat) : Int), (↑(32 : Nat) : Int) ≤ (↑(32 : Nat) : Int), PV.str (strOf (List.take 32 b)) = PV.str (strOf b), 32 ≤ 32, ByteArray.size (strOf a) + ByteArray.size (strOf b) ≤ 9223372036854775807, PC Tryd.prog G0 25 [] [PV.str (strOf a ++ strOf b)] [] (B8 32 r), rr (B8 32 r)] (by kernel_rfl) (ac (by omega) (ac (by omega) (ac (by omega) (ac (by rw [List.take_of_length_le (show List.length a ≤ 32 by omega)]) (ac (by omega) (ac (by omega) (ac (by omega) (ac (by omega) (ac (by rw [List.take_of_length_le (show List.length b ≤ 32 by omega)]) (ac (by omega) (ac (by omega) (ac (c1) (ao rfl)))))))))))))
def dsWd (w k i : Nat) : DS := ⟨[(0, .int .i64 w), (1, .int .i64 k), (5, .int .i64 i)], []⟩
theorem W_rWide {n K : Nat} (hn : n ≤ 100000) (hK : K ≤ 20) : ∀ (k i : Nat), i + k = K →
    W Tryd.prog G0 Tryd.f54 [] [] (.int .i64 (wid n K)) (loopAt Tryd.f54 0) (dsWd (wid n i) K i)
  | 0, i, hk => by
    have hi : i = K := by omega
    subst hi
    generalize wid n i = w at *
    unfold dsWd
    refine W.ret [(2, aF)] [] [decide ((i:Int) < (i:Int)) = false, rr (I6 (w:Int))] (by kernel_rfl) (ac (decide_eq_false (by omega)) (ao rfl))
  | k + 1, i, hk => by
    have hw := W_rWide hn hK k (i + 1) (by omega)
    have hb : wid n i ≤ 100000 := by
      have : ∀ k, wid n k ≤ n + 1 := by
        intro k
        induction k with
        | zero => rw [wid]; omega
        | succ k ih => rw [wid]; omega
      rcases i with _ | i
      · rw [wid]; omega
      · have := this i
        rw [wid]; omega
    rw [wid] at hw
    have hq : ((wid n i : Int) + 1).tdiv 2 = (((wid n i + 1) / 2 : Nat) : Int) := by rw [Int.tdiv_eq_ediv_of_nonneg (by omega)]; omega
    have hq1 : (((wid n i + 1 : Nat)) : Int).tdiv 2 = (((wid n i + 1) / 2 : Nat) : Int) := by rw [Int.tdiv_eq_ediv_of_nonneg (by omega)]; omega
    have hb2 : (wid n i + 1) / 2 ≤ 100000 := by omega
    generalize (wid n i + 1) / 2 = w2 at *
    generalize wid n i = w at *
    generalize wid n K = res at *
    unfold dsWd at *
    refine W.seg [(2, aT), (4, aV (I6 (↑(w + 1) : Int))), (5, aV (I6 (w2:Int))), (8, aV (I6 (↑(i + 1) : Int)))] [] (DS.mk [(0, I6 (w2:Int)), (1, I6 (K:Int)), (5, I6 (↑(i + 1) : Int))] []) (todo' := loopAt Tryd.f54 0) [decide ((i:Int) < (K:Int)) = true, I6 (IntKind.wrap .i64 ((w:Int) + 1)) = I6 (↑(w + 1) : Int), I6 (IntKind.wrap .i64 (Int.tdiv (↑(w + 1) : Int) (2 : Int))) = I6 (w2:Int), (2 : Int) ≠ (0 : Int), I6 (IntKind.wrap .i64 ((i:Int) + 1)) = I6 (↑(i + 1) : Int), rr (I6 (w2:Int)), rr (I6 (K:Int)), rr (I6 (↑(i + 1) : Int))] (by kernel_rfl) (ac (decide_eq_true (by omega)) (ac (cg (w_i64 rfl (by omega) (by omega))) (ac (cg (w_i64 hq1 (by omega) (by omega))) (ac (by omega) (ac (cg (w_i64 rfl (by omega) (by omega))) (ac rfl (ac rfl (ao rfl)))))))) ?_
    exact hw
theorem pc_rWide {n k : Nat} (hn : n ≤ 100000) (hk : k ≤ 20) : PC Tryd.prog G0 54 [] [.int .i64 n, .int .i64 k] [] (.int .i64 (wid n k)) := by
  refine PC.of (fn := Tryd.f54) (c := bodyOf Tryd.f54) Tryd.func54 (by kernel_rfl) (by kernel_rfl) (by kernel_rfl) (by kernel_rfl) ?_
  have hw := W_rWide hn hk k 0 (by omega)
  rw [wid] at hw
  generalize wid n k = res at *
  unfold dsWd at *
  refine W.seg [] [] (DS.mk [(0, I6 (n:Int)), (1, I6 (k:Int)), (5, I6 (↑(0 : Nat) : Int))] []) (todo' := loopAt Tryd.f54 0) [rr (I6 (n:Int)), rr (I6 (k:Int)), I6 0 = I6 (↑(0 : Nat) : Int)] (by kernel_rfl) (ac rfl (ac rfl (ao (cg (by omega))))) ?_
  exact hw
def dsDe (n d k : Nat) : DS := ⟨[(0, .int .i64 n), (3, .int .i64 d), (4, .int .i64 k)], []⟩
theorem W_rDepth {n : Nat} (hn : n ≤ 100000) : ∀ (j d : Nat), d + j = depM n →
    W Tryd.prog G0 Tryd.f31 [] [] (.int .i64 (depM n)) (loopAt Tryd.f31 0) (dsDe n d (2 ^ d))
  | 0, d, hk => by
    have hd : d = depM n := by omega
    have hle := (depM_le n d).1 (by omega)
    rw [← hd]
    generalize 2 ^ d = k at *
    unfold dsDe
    refine W.ret [(2, aF)] [] [decide ((k:Int) < (n:Int)) = false, rr (I6 (d:Int))] (by kernel_rfl) (ac (decide_eq_false (by omega)) (ao rfl))
  | j + 1, d, hk => by
    have hlt : ¬ n ≤ 2 ^ d := fun h => by have := (depM_le n d).2 h; omega
    have hw := W_rDepth hn j (d + 1) (by omega)
    have hb : d + 1 ≤ 1000000 := by
      have : d < 2 ^ d := Nat.lt_two_pow_self
      omega
    have hp : 2 ^ (d + 1) = 2 ^ d * 2 := Nat.pow_succ 2 d
    generalize depM n = res at *
    generalize 2 ^ (d + 1) = k2 at *
    generalize 2 ^ d = k at *
    unfold dsDe at *
    refine W.seg [(2, aT), (4, aV (I6 (↑(d + 1) : Int))), (7, aV (I6 (↑(2 * k) : Int)))] [] (DS.mk [(0, I6 (n:Int)), (3, I6 (↑(d + 1) : Int)), (4, I6 (k2:Int))] []) (todo' := loopAt Tryd.f31 0) [decide ((k:Int) < (n:Int)) = true, I6 (IntKind.wrap .i64 ((d:Int) + 1)) = I6 (↑(d + 1) : Int), I6 (IntKind.wrap .i64 ((k:Int) * (2 : Int))) = I6 (↑(2 * k) : Int), rr (I6 (n:Int)), rr (I6 (↑(d + 1) : Int)), I6 (↑(2 * k) : Int) = I6 (k2:Int)] (by kernel_rfl) (ac (decide_eq_true (by omega)) (ac (cg (w_i64 rfl (by omega) (by omega))) (ac (cg (w_i64 (by omega) (by omega) (by omega))) (ac rfl (ac rfl (ao (cg (by omega)))))))) ?_
    exact hw
theorem pc_rDepth {n : Nat} (hn : n ≤ 100000) : PC Tryd.prog G0 31 [] [.int .i64 n] [] (.int .i64 (depM n)) := by
  refine PC.of (fn := Tryd.f31) (c := bodyOf Tryd.f31) Tryd.func31 (by kernel_rfl) (by kernel_rfl) (by kernel_rfl) (by kernel_rfl) ?_
  have hw := W_rDepth hn (depM n) 0 (by omega)
  generalize depM n = res at *
  unfold dsDe at *
  refine W.seg [] [] (DS.mk [(0, I6 (n:Int)), (3, I6 (↑(0 : Nat) : Int)), (4, I6 (↑(1 : Nat) : Int))] []) (todo' := loopAt Tryd.f31 0) [rr (I6 (n:Int)), I6 0 = I6 (↑(0 : Nat) : Int), I6 1 = I6 (↑(1 : Nat) : Int)] (by kernel_rfl) (ac rfl (ac (cg (by omega)) (ao (cg (by omega))))) ?_
  exact hw
theorem HsOk.lvl {l : List (List Int)} {n : Nat} (h : HsOk l n) : ∀ k, HsOk (lvl l k) (wid n k)
  | 0 => h
  | k + 1 => by rw [Pm.lvl, wid]; exact (HsOk.lvl h k).above
theorem pc_rNode {nl : Bool} {l : List (List Int)} {n : Nat} (ho : HsOk l n) (hn : n ≤ 100000) : ∀ (k at' : Nat), k ≤ 20 → at' < wid n k → PC Tryd.prog G0 30 [] [.vec nl (hL n l), .int .i64 k, .int .i64 at'] [] (.iarr .u8 32 ((lvl l k).getD at' []))
  | 0, i, hk, hi => by
    refine PC.of (fn := Tryd.f30) (c := bodyOf Tryd.f30) Tryd.func30 (by kernel_rfl) (by kernel_rfl) (by kernel_rfl) (by kernel_rfl) ?_
    rw [wid] at hi
    have g := hv_get (l := l) (i := i) (by rw [ho.len]; omega)
    have hx := (ho.get hi).1
    show W _ _ _ _ _ (.iarr .u8 32 (l.getD i [])) _ _
    generalize l.getD i [] = x at *
    unfold hL at *
    generalize l.map hv = L at *
    unfold hv at *
    refine W.ret [(1, aV (I6 0)), (6, aV (B8 32 x))] [] [I6 (↑(0 : Nat) : Int) = I6 0, 0 ≤ (i:Int), (i:Int) < (n:Int), B8 32 (PV.nums (List.getD L i PV.undef)) = B8 32 x, i < n, rr (B8 32 x)] (by kernel_rfl) (ac (cg (by omega)) (ac (by omega) (ac (by omega) (ac (by (rw [g]; rfl)) (ac (by omega) (ao rfl))))))
  | k + 1, i, hk, hi => by
    refine PC.of (fn := Tryd.f30) (c := bodyOf Tryd.f30) Tryd.func30 (by kernel_rfl) (by kernel_rfl) (by kernel_rfl) (by kernel_rfl) ?_
    have hok := ho.lvl k
    rw [wid] at hi
    have h2 : 2 * i < wid n k := by omega
    have hwb : wid n k ≤ 100001 := by
      have : ∀ k, wid n k ≤ n + 1 := by
        intro k
        induction k with
        | zero => rw [wid]; omega
        | succ k ih => rw [wid]; omega
      have := this k
      omega
    have c1 := pc_rNode (nl := nl) ho hn k (2 * i) (by omega) h2
    have c2 := pc_rWide (n := n) (k := k) hn (by omega)
    have o1 := hok.get h2
    have hab := above_get (l := lvl l k) (i := i) (by rw [hok.len]; omega)
    rw [hok.len] at hab
    have hkI : ((k + 1 : Nat) : Int) - 1 = (k : Int) := by omega
    show W _ _ _ _ _ (.iarr .u8 32 ((above (lvl l k)).getD i [])) _ _
    rw [hab]
    by_cases hge : wid n k ≤ 2 * i + 1
    · have hm : min (2 * i + 1) (wid n k - 1) = 2 * i := by omega
      rw [hm]
      have c3 := pc_rPair o1 o1
      generalize dsha ((lvl l k).getD (2 * i) [] ++ (lvl l k).getD (2 * i) []) = r at *
      generalize (lvl l k).getD (2 * i) [] = x at *
      generalize wid n k = w at *
      unfold hL at *
      generalize l.map hv = L at *
      have hxl := o1.1
      clear hm hab h2 hok o1
      refine W.ret [(5, aV (I6 (k:Int))), (7, aV (I6 (↑(2 * i) : Int))), (8, aK (B8 32 x)), (12, aV (I6 (↑(2 * i) : Int))), (13, aV (I6 (↑(2 * i + 1) : Int))), (17, aV (I6 (k:Int))), (18, aK (I6 (w:Int))), (19, aT), (22, aK (B8 32 r))] [] [I6 (IntKind.wrap .i64 ((↑(k + 1) : Int) - 1)) = I6 (k:Int), I6 (IntKind.wrap .i64 (2 * (i:Int))) = I6 (↑(2 * i) : Int), PC Tryd.prog G0 30 [] [PV.vec nl (PV.parr 32 n (Sh.iarr IntKind.u8 32) L), I6 (k:Int), I6 (↑(2 * i) : Int)] [] (B8 32 x), I6 (IntKind.wrap .i64 (2 * (i:Int))) = I6 (↑(2 * i) : Int), I6 (IntKind.wrap .i64 ((↑(2 * i) : Int) + 1)) = I6 (↑(2 * i + 1) : Int), I6 (IntKind.wrap .i64 ((↑(k + 1) : Int) - 1)) = I6 (k:Int), PC Tryd.prog G0 54 [] [I6 (n:Int), I6 (k:Int)] [] (I6 (w:Int)), decide ((↑(2 * i + 1) : Int) ≥ (w:Int)) = true, PC Tryd.prog G0 55 [] [B8 32 x, B8 32 x] [] (B8 32 r), rr (B8 32 r)] (by kernel_rfl) (ac (cg (w_i64 hkI (by omega) (by omega))) (ac (cg (w_i64 rfl (by omega) (by omega))) (ac (c1) (ac (cg (w_i64 rfl (by omega) (by omega))) (ac (cg (w_i64 rfl (by omega) (by omega))) (ac (cg (w_i64 hkI (by omega) (by omega))) (ac (c2) (ac (decide_eq_true (by omega)) (ac (c3) (ao rfl))))))))))
    · have hm : min (2 * i + 1) (wid n k - 1) = 2 * i + 1 := by omega
      rw [hm]
      have o2 := hok.get (i := 2 * i + 1) (by omega)
      have c3 := pc_rPair o1 o2
      have c4 := pc_rNode (nl := nl) ho hn k (2 * i + 1) (by omega) (by omega)
      generalize dsha ((lvl l k).getD (2 * i) [] ++ (lvl l k).getD (2 * i + 1) []) = r at *
      generalize (lvl l k).getD (2 * i) [] = x at *
      generalize (lvl l k).getD (2 * i + 1) [] = z at *
      generalize wid n k = w at *
      unfold hL at *
      generalize l.map hv = L at *
      have hxl := o1.1
      have hzl := o2.1
      clear hm hab h2 hok o1 o2
      refine W.ret [(5, aV (I6 (k:Int))), (7, aV (I6 (↑(2 * i) : Int))), (8, aK (B8 32 x)), (12, aV (I6 (↑(2 * i) : Int))), (13, aV (I6 (↑(2 * i + 1) : Int))), (17, aV (I6 (k:Int))), (18, aK (I6 (w:Int))), (19, aF), (23, aV (I6 (k:Int))), (25, aV (I6 (↑(2 * i) : Int))), (26, aV (I6 (↑(2 * i + 1) : Int))), (27, aK (B8 32 z)), (28, aK (B8 32 r))] [] [I6 (IntKind.wrap .i64 ((↑(k + 1) : Int) - 1)) = I6 (k:Int), I6 (IntKind.wrap .i64 (2 * (i:Int))) = I6 (↑(2 * i) : Int), PC Tryd.prog G0 30 [] [PV.vec nl (PV.parr 32 n (Sh.iarr IntKind.u8 32) L), I6 (k:Int), I6 (↑(2 * i) : Int)] [] (B8 32 x), I6 (IntKind.wrap .i64 (2 * (i:Int))) = I6 (↑(2 * i) : Int), I6 (IntKind.wrap .i64 ((↑(2 * i) : Int) + 1)) = I6 (↑(2 * i + 1) : Int), I6 (IntKind.wrap .i64 ((↑(k + 1) : Int) - 1)) = I6 (k:Int), PC Tryd.prog G0 54 [] [I6 (n:Int), I6 (k:Int)] [] (I6 (w:Int)), decide ((↑(2 * i + 1) : Int) ≥ (w:Int)) = false, I6 (IntKind.wrap .i64 ((↑(k + 1) : Int) - 1)) = I6 (k:Int), I6 (IntKind.wrap .i64 (2 * (i:Int))) = I6 (↑(2 * i) : Int), I6 (IntKind.wrap .i64 ((↑(2 * i) : Int) + 1)) = I6 (↑(2 * i + 1) : Int), PC Tryd.prog G0 30 [] [PV.vec nl (PV.parr 32 n (Sh.iarr IntKind.u8 32) L), I6 (k:Int), I6 (↑(2 * i + 1) : Int)] [] (B8 32 z), PC Tryd.prog G0 55 [] [B8 32 x, B8 32 z] [] (B8 32 r), rr (B8 32 r)] (by kernel_rfl) (ac (cg (w_i64 hkI (by omega) (by omega))) (ac (cg (w_i64 rfl (by omega) (by omega))) (ac (c1) (ac (cg (w_i64 rfl (by omega) (by omega))) (ac (cg (w_i64 rfl (by omega) (by omega))) (ac (cg (w_i64 hkI (by omega) (by omega))) (ac (c2) (ac (decide_eq_false (by omega)) (ac (cg (w_i64 hkI (by omega) (by omega))) (ac (cg (w_i64 rfl (by omega) (by omega))) (ac (cg (w_i64 rfl (by omega) (by omega))) (ac (c4) (ac (c3) (ao rfl))))))))))))))
end Go.Proofs
namespace Go.Proofs
open Go Go.Pe Go.Pm
set_option maxRecDepth 100000
set_option linter.unusedVariables false
theorem strOf_drop (l : List Int) (n : Nat) : (strOf l).extract n (strOf l).size = strOf (l.drop n) := by
  apply ByteArray.ext
  rw [strOf_size]
  unfold strOf
  simp [List.map_drop]
  rw [List.take_of_length_le (by simp)]
theorem strOf_take (l : List Int) (n : Nat) : (strOf l).extract 0 n = strOf (l.take n) := by
  apply ByteArray.ext
  unfold strOf
  simp
theorem lv_rev {b : List Int} {i n : Nat} (hi : i < n) : lv (b.drop i) (n - i) = at0 b i + 256 * lv (b.drop (i + 1)) (n - (i + 1)) := by
  have e : n - i = 1 + (n - (i + 1)) := by omega
  rw [e, lv_add, lv_one, List.drop_drop]
  have : at0 (b.drop i) 0 = at0 b i := by unfold at0; simp [List.getD_eq_getElem?_getD]
  rw [this]
def dsVal (n : Nat) (b : List Int) (nl : Bool) (x : Nat) (i : Int) : DS := ⟨[(0, .vec nl (.iarr .u8 n b)), (3, .int .u64 x), (4, .int .i64 i)], []⟩
theorem W_val {n : Nat} {b : List Int} {nl : Bool} (hl : b.length = n) (hb : Bytes b) (hn : n ≤ 8) : ∀ (i x : Nat), i ≤ n → x = lv (b.drop i) (n - i) →
    W Tryd.prog G0 Tryd.f75 [] [] (.int .u64 ((lv b n : Nat) : Int)) (loopAt Tryd.f75 0) (dsVal n b nl x ((i : Int) - 1))
  | 0, x, hi, hx => by
    have e : x = lv b n := hx
    rw [← e]
    have h1 : ((0 : Nat) : Int) - 1 = -1 := rfl
    rw [h1]
    unfold dsVal
    refine W.ret [] [] [rr (U6 (x:Int))] (by kernel_rfl) (ao rfl)
  | i + 1, x, hi, hx => by
    have hrev := lv_rev (b := b) (i := i) (n := n) (by omega)
    rw [← hx] at hrev
    obtain ⟨g, hlt⟩ := hb.get i
    have hlim := lv_lt (hb.drop i) (n - i)
    have hlim2 : 2 ^ (8 * (n - i)) ≤ 2 ^ 64 := Nat.pow_le_pow_right (by omega) (by omega)
    have hyl : at0 b i + 256 * x < 18446744073709551616 := by rw [← hrev]; exact Nat.lt_of_lt_of_le hlim hlim2
    have hw := W_val (nl := nl) hl hb hn i (at0 b i + 256 * x) (by omega) hrev.symm
    have h1 : ((i + 1 : Nat) : Int) - 1 = (i : Int) := by omega
    rw [h1]
    clear hrev hlim hlim2 hx
    have hxl : x < 18446744073709551616 := by omega
    have hx256 : x * 256 < 18446744073709551616 := by omega
    have hs : x * 256 + at0 b i = at0 b i + 256 * x := by omega
    rw [← hs] at hw hyl
    generalize lv b n = res at *
    generalize at0 b i = y at *
    unfold dsVal at *
    refine W.seg [(3, aT), (5, aV (U6 (↑(256 * x) : Int))), (9, aV (U8 (y:Int))), (10, aV (U6 (y:Int))), (11, aV (U6 (↑(256 * x + y) : Int))), (14, aV (I6 ((i:Int) - 1)))] [] (DS.mk [(0, PV.vec nl (B8 n b)), (3, U6 (↑(x * 256 + y) : Int)), (4, I6 ((i:Int) - 1))] []) (todo' := loopAt Tryd.f75 0) [decide ((i:Int) < 8) = true, U6 (IntKind.wrap .u64 ((x:Int) * (256 : Int))) = U6 (↑(256 * x) : Int), 0 ≤ (i:Int), (i:Int) < (n:Int), U8 (List.getD b i (0 : Int)) = U8 (y:Int), i < n, U6 (IntKind.wrap .u64 (y:Int)) = U6 (y:Int), U6 (IntKind.wrap .u64 ((↑(256 * x) : Int) + (y:Int))) = U6 (↑(256 * x + y) : Int), I6 (IntKind.wrap .i64 ((i:Int) - 1)) = I6 ((i:Int) - 1), rr (PV.vec nl (B8 n b)), U6 (↑(256 * x + y) : Int) = U6 (↑(x * 256 + y) : Int), rr (I6 ((i:Int) - 1))] (by kernel_rfl) (ac (decide_eq_true (by omega)) (ac (cg (w_u64 (by omega) (by omega) (by omega))) (ac (by omega) (ac (by omega) (ac (cg (g)) (ac (by omega) (ac (cg (w_u64 rfl (by omega) (by omega))) (ac (cg (w_u64 rfl (by omega) (by omega))) (ac (cg (w_i64 rfl (by omega) (by omega))) (ac rfl (ac (cg (by omega)) (ao rfl)))))))))))) ?_
    exact hw
theorem pc_value01 {s : ByteArray} {nl : Bool} (hs : s.size ≤ 8) : PC Tryd.prog G0 75 [] [.vec nl (.iarr .u8 s.size (bytesOf s))] [] (.int .u64 ((lv (bytesOf s) s.size : Nat) : Int)) := by
  refine PC.of (fn := Tryd.f75) (c := bodyOf Tryd.f75) Tryd.func75 (by kernel_rfl) (by kernel_rfl) (by kernel_rfl) (by kernel_rfl) ?_
  have hl := bytesOf_length s
  have hw := W_val (nl := nl) hl (bytesOf_bytes s) hs s.size 0 (Nat.le_refl _) (by rw [Nat.sub_self]; rfl)
  generalize lv (bytesOf s) s.size = res at *
  generalize bytesOf s = b at *
  generalize s.size = n at *
  unfold dsVal at *
  refine W.seg [(4, aV (I6 ((n:Int) - 1)))] [] (DS.mk [(0, PV.vec nl (B8 n b)), (3, U6 (↑(0 : Nat) : Int)), (4, I6 ((n:Int) - 1))] []) (todo' := loopAt Tryd.f75 0) [I6 (IntKind.wrap .i64 ((n:Int) - 1)) = I6 ((n:Int) - 1), rr (PV.vec nl (B8 n b)), U6 0 = U6 (↑(0 : Nat) : Int), rr (I6 ((n:Int) - 1))] (by kernel_rfl) (ac (cg (w_i64 rfl (by omega) (by omega))) (ac rfl (ac (cg (by omega)) (ao rfl)))) ?_
  exact hw
theorem Rd.In.size {r : Rd} {bs : List Int} {N : Nat} (h : r.In bs N) : (strOf r.s).size = r.s.length := strOf_size _
def inPV (r : Rd) : PV := .st 2 [.str (strOf r.s), .int .i64 r.e]
theorem pc_rTake {N w : Nat} {bs : List Int} {r : Rd} (hr : r.In bs N) (hN : N ≤ 1000000) (he : r.e ≤ 100) (hw : w ≤ 1000000) : PC Tryd.prog G0 73 [] [inPV r, .int .i64 w] [] (.tup [inPV (r.tk w), .str (strOf (r.tv w))]) := by
  refine PC.of (fn := Tryd.f73) (c := bodyOf Tryd.f73) Tryd.func73 (by kernel_rfl) (by kernel_rfl) (by kernel_rfl) (by kernel_rfl) ?_
  have hle := hr.le
  have hsz : (strOf r.s).size = r.s.length := strOf_size _
  have hsb : (strOf r.s).size ≤ 1000000 := by omega
  have hnil : strOf [] = ByteArray.empty := rfl
  unfold inPV
  by_cases h0 : r.e = 0
  · by_cases hl : w ≤ r.s.length
    · have e1 : r.tk w = ⟨r.s.drop w, 0⟩ := by unfold Rd.tk; rw [if_pos h0, if_pos hl]
      have e3 : r.tv w = r.s.take w := by unfold Rd.tv; rw [if_pos ⟨h0, hl⟩]
      have d1 := strOf_drop r.s w
      have d2 := strOf_take r.s w
      rw [e1, e3, h0]
      rw [← hsz] at hl
      dsimp only
      generalize strOf (r.s.drop w) = s1 at *
      generalize strOf (r.s.take w) = s2 at *
      generalize strOf r.s = s at *
      refine W.ret [(4, aV (I6 0)), (12, aF), (16, aV (PV.str (ByteArray.extract s w (ByteArray.size s))))] [] [I6 (↑(0 : Nat) : Int) = I6 0, decide ((w:Int) > (↑(ByteArray.size s) : Int)) = false, PV.str (ByteArray.extract s w (Int.toNat (↑(ByteArray.size s) : Int))) = PV.str (ByteArray.extract s w (ByteArray.size s)), 0 ≤ (w:Int), (w:Int) ≤ (↑(ByteArray.size s) : Int), (↑(ByteArray.size s) : Int) ≤ (↑(ByteArray.size s) : Int), (0 : Int) ≤ (0 : Int), 0 ≤ (w:Int), (w:Int) ≤ (↑(ByteArray.size s) : Int), PV.tup [PV.st 2 [PV.str (ByteArray.extract s w (ByteArray.size s)), I6 0], PV.str (ByteArray.extract s 0 w)] = PV.tup [PV.st 2 [PV.str s1, I6 (↑(0 : Nat) : Int)], PV.str s2]] (by kernel_rfl) (ac (cg (by omega)) (ac (decide_eq_false (by omega)) (ac (by rw [show Int.toNat (↑(ByteArray.size s) : Int) = ByteArray.size s by omega]) (ac (by omega) (ac (by omega) (ac (by omega) (ac (by omega) (ac (by omega) (ac (by omega) (ao ?_))))))))))
      rw [d1, d2]; rfl
    · have e1 : r.tk w = ⟨r.s, 2⟩ := by unfold Rd.tk; rw [if_pos h0, if_neg hl]
      have e3 : r.tv w = [] := by unfold Rd.tv; rw [if_neg (fun h => hl h.2)]
      rw [e1, e3, h0, hnil]
      rw [← hsz] at hl
      dsimp only
      generalize strOf r.s = s at *
      refine W.ret [(4, aV (I6 0)), (12, aT)] [] [I6 (↑(0 : Nat) : Int) = I6 0, decide ((w:Int) > (↑(ByteArray.size s) : Int)) = true, PV.tup [PV.st 2 [PV.str s, I6 2], PV.str (ByteArray.mk #[])] = PV.tup [PV.st 2 [PV.str s, I6 (↑(2 : Nat) : Int)], PV.str ByteArray.empty]] (by kernel_rfl) (ac (cg (by omega)) (ac (decide_eq_true (by omega)) (ao rfl)))
  · have e1 : r.tk w = r := by unfold Rd.tk; rw [if_neg h0]
    have e3 : r.tv w = [] := by unfold Rd.tv; rw [if_neg (fun h => h0 h.1)]
    have h1 : ¬ ((r.e : Int) = 0) := by omega
    rw [e1, e3, hnil]
    generalize strOf r.s = s at *
    generalize r.e = e at *
    refine W.ret [(5, aT)] [] [((e:Int) != 0) = true, PV.tup [PV.st 2 [PV.str s, I6 (e:Int)], PV.str (ByteArray.mk #[])] = PV.tup [PV.st 2 [PV.str s, I6 (e:Int)], PV.str ByteArray.empty]] (by kernel_rfl) (ac (bne_iff_ne.2 (by omega)) (ao rfl))
theorem pc_rNumber {N w : Nat} {bs : List Int} {r : Rd} (hr : r.In bs N) (hN : N ≤ 1000000) (he : r.e ≤ 100) (hw : w ≤ 8) : PC Tryd.prog G0 51 [] [inPV r, .int .i64 w] [] (.tup [inPV (r.tk w), .int .u64 ((r.nv w : Nat) : Int)]) := by
  refine PC.of (fn := Tryd.f51) (c := bodyOf Tryd.f51) Tryd.func51 (by kernel_rfl) (by kernel_rfl) (by kernel_rfl) (by kernel_rfl) ?_
  have c1 := pc_rTake (w := w) hr hN he (by omega)
  have c2 := pc_held01 hw
  have htl : (r.tv w).length ≤ 8 := by
    unfold Rd.tv
    split
    · rw [List.length_take]; omega
    · exact Nat.zero_le _
  have hb : Bytes (r.tv w) := by
    unfold Rd.tv
    split
    · exact hr.bytes.take w
    · intro x hx; cases hx
  have c3 := pc_value01 (s := strOf (r.tv w)) (nl := false) (by rw [strOf_size]; exact htl)
  have hv : lv (bytesOf (strOf (r.tv w))) (strOf (r.tv w)).size = r.nv w := by
    rw [bytesOf_strOf hb, strOf_size]
    unfold Rd.tv Rd.nv
    split
    · rename_i h
      rw [List.length_take, Nat.min_eq_left h.2, lv_take (Nat.le_refl w)]
    · rfl
  rw [hv] at c3
  have hl := bytesOf_length (strOf (r.tv w))
  have hsb : (strOf (r.tv w)).size ≤ 8 := by rw [strOf_size]; exact htl
  have hbb := bytesOf_bytes (strOf (r.tv w))
  unfold inPV at *
  clear hv htl hb
  generalize strOf (r.tk w).s = s1 at *
  generalize strOf (r.tv w) = s2 at *
  generalize strOf r.s = s at *
  generalize (r.tk w).e = ee1 at *
  generalize r.nv w = v at *
  generalize r.e = e at *
  refine W.ret [(5, aK (I6 (w:Int))), (6, aK (PV.tup [PV.st 2 [PV.str s1, I6 (ee1:Int)], PV.str s2])), (16, Ans.calla true [] [] [PV.vec false (B8 (ByteArray.size s2) (bytesOf s2))] [] (U6 (v:Int)))] [] [PC Tryd.prog G0 74 [] [I6 (w:Int)] [] (I6 (w:Int)), PC Tryd.prog G0 73 [] [PV.st 2 [PV.str s, I6 (e:Int)], I6 (w:Int)] [] (PV.tup [PV.st 2 [PV.str s1, I6 (ee1:Int)], PV.str s2]), 0 + ByteArray.size s2 ≤ ByteArray.size s2, rr ([] : List (Nat × Row)), ([PV.vec false (B8 (ByteArray.size s2) (List.take (ByteArray.size s2) (bytesOf s2)))] : List PV) = [PV.vec false (B8 (ByteArray.size s2) (bytesOf s2))], PC Tryd.prog G0 75 [] [PV.vec false (B8 (ByteArray.size s2) (bytesOf s2))] [] (U6 (v:Int)), rr (PV.tup [PV.st 2 [PV.str s1, I6 (ee1:Int)], U6 (v:Int)])] (by kernel_rfl) (ac (c2) (ac (c1) (ac (by omega) (ac rfl (ac (by rw [List.take_of_length_le (show List.length (bytesOf s2) ≤ ByteArray.size s2 by omega)]) (ac (c3) (ao rfl)))))))
end Go.Proofs
namespace Go.Pm
/-- a count's bytes -/
def vb (n : Nat) : List Int := if n < 253 then le n 1 else if n < 65536 then 253 :: le n 2 else if n < 4294967296 then 254 :: le n 4 else 255 :: le n 8
theorem le_ext {n w : Nat} {l : List Int} (hl : l.length = w) (hb : Bytes l) (h : ∀ k, k < w → n / 2 ^ (8 * k) % 256 = at0 l k) : le n w = l := by
  apply List.ext_getElem?
  intro k
  rcases Nat.lt_or_ge k w with hk | hk
  · have h1 : (le n w)[k]? = some ((n / 2 ^ (8 * k) % 256 : Nat) : Int) := by
      have hk' : k < (le n w).length := by rw [le_length]; exact hk
      have := tab_getD (f := fun i => ((n / 2 ^ (8 * i) % 256 : Nat) : Int)) hk
      rw [List.getElem?_eq_getElem hk']
      rw [List.getD_eq_getElem?_getD] at this
      change ((le n w)[k]?.getD 0) = _ at this
      rw [List.getElem?_eq_getElem hk'] at this
      simpa using this
    have hk2 : k < l.length := by omega
    have h2 : l[k]? = some (at0 l k : Int) := by
      rw [List.getElem?_eq_getElem hk2]
      have hb' := hb l[k] (List.getElem_mem hk2)
      unfold at0
      rw [List.getD_eq_getElem?_getD, List.getElem?_eq_getElem hk2]
      simp only [Option.getD_some, Option.some.injEq]
      omega
    rw [h1, h2, h k hk]
  · rw [List.getElem?_eq_none (by rw [le_length]; exact hk), List.getElem?_eq_none (by omega)]
theorem le_lv {l : List Int} {w : Nat} (hl : l.length = w) (hb : Bytes l) : le (lv l w) w = l := le_ext hl hb fun k hk => by
  have := lv_digit hb (n := w) hk
  rw [← this, show (256 : Nat) = 2 ^ 8 from rfl, ← Nat.pow_mul]
theorem vb_length (n : Nat) : (vb n).length = if n < 253 then 1 else if n < 65536 then 3 else if n < 4294967296 then 5 else 9 := by
  unfold vb
  split
  · exact le_length _ _
  · split
    · rw [List.length_cons, le_length]
    · split
      · rw [List.length_cons, le_length]
      · rw [List.length_cons, le_length]
theorem head_at0 {s : List Int} (h : 0 < s.length) (hb : Bytes s) : s = (at0 s 0 : Int) :: s.drop 1 := by
  cases s with
  | nil => simp at h
  | cons x l =>
    have := hb x (by simp)
    have e : at0 (x :: l) 0 = x.toNat := rfl
    rw [e, List.drop_one, List.tail_cons]
    congr 1
    omega
/-- The count that stands there is written just so, if it isn't less than its spelling allows. -/
theorem vb_vraw {s : List Int} (hb : Bytes s) (hl : 1 + wdt (at0 s 0) ≤ s.length) : vb (vraw s) = s.take (1 + wdt (at0 s 0)) ↔ ¬ vraw s < lst (at0 s 0) := by
  have hh := head_at0 (by omega) hb
  have hx := at0_lt hb 0
  have hlen : (s.take (1 + wdt (at0 s 0))).length = 1 + wdt (at0 s 0) := by rw [List.length_take]; omega
  have hvl := vb_length (vraw s)
  have htake : ∀ w, s.take (1 + w) = (at0 s 0 : Int) :: (s.drop 1).take w := by
    intro w
    conv => lhs; rw [hh]
    rw [Nat.add_comm, List.take_succ_cons]
  have hlv : ∀ w, wdt (at0 s 0) = w → w ≠ 0 → 1 + w ≤ s.length → le (vraw s) w = (s.drop 1).take w := by
    intro w hw h0 hle
    have e : vraw s = lv ((s.drop 1).take w) w := by unfold vraw; rw [hw, if_neg h0, lv_take (Nat.le_refl w)]
    rw [e]
    exact le_lv (by rw [List.length_take, List.length_drop]; omega) ((hb.drop 1).take w)
  have hvw : ∀ w, wdt (at0 s 0) = w → w ≠ 0 → vraw s < 2 ^ (8 * w) := by
    intro w hw h0
    unfold vraw
    rw [hw, if_neg h0]
    exact lv_lt (hb.drop 1) w
  by_cases h2 : at0 s 0 = 253
  · have w2 : wdt (at0 s 0) = 2 := by rw [h2]; rfl
    have l2 : lst (at0 s 0) = 253 := by rw [h2]; rfl
    have h65 := hvw 2 w2 (by omega)
    rw [w2] at hl hlen; rw [w2, l2]
    constructor
    · intro e hlt
      rw [e, hlen, if_pos hlt] at hvl
      omega
    · intro hge
      unfold vb
      rw [if_neg hge, if_pos (by omega), hlv 2 w2 (by omega) hl, htake, h2]
      rfl
  · by_cases h4 : at0 s 0 = 254
    · have w4 : wdt (at0 s 0) = 4 := by rw [h4]; rfl
      have l4 : lst (at0 s 0) = 65536 := by rw [h4]; rfl
      have h65 := hvw 4 w4 (by omega)
      rw [w4] at hl hlen; rw [w4, l4]
      constructor
      · intro e hlt
        rw [e, hlen] at hvl
        split at hvl
        · omega
        · omega
      · intro hge
        unfold vb
        rw [if_neg (by omega), if_neg hge, if_pos (by omega), hlv 4 w4 (by omega) hl, htake, h4]
        rfl
    · by_cases h8 : at0 s 0 = 255
      · have w8 : wdt (at0 s 0) = 8 := by rw [h8]; rfl
        have l8 : lst (at0 s 0) = 4294967296 := by rw [h8]; rfl
        rw [w8] at hl hlen; rw [w8, l8]
        constructor
        · intro e hlt
          rw [e, hlen] at hvl
          split at hvl
          · omega
          · split at hvl
            · omega
            · omega
        · intro hge
          unfold vb
          rw [if_neg (by omega), if_neg (by omega), if_neg hge, hlv 8 w8 (by omega) hl, htake, h8]
          rfl
      · have w0 : wdt (at0 s 0) = 0 := by unfold wdt; rw [if_neg h2, if_neg h4, if_neg h8]
        have l0 : lst (at0 s 0) = 0 := by unfold lst; rw [if_neg h2, if_neg h4, if_neg h8]
        have v0 : vraw s = at0 s 0 := by unfold vraw; rw [if_pos w0]
        rw [w0, l0, v0, htake, List.take_zero]
        constructor
        · intro _ h; omega
        · intro _
          unfold vb
          rw [if_pos (by omega)]
          have : le (at0 s 0) 1 = [(at0 s 0 : Int)] := le_ext rfl (by intro x hx; simp at hx; subst hx; omega) fun k hk => by
            have : k = 0 := by omega
            subst this
            have hq : at0 s 0 / 2 ^ (8 * 0) % 256 = at0 s 0 := by rw [Nat.mul_zero, Nat.pow_zero, Nat.div_one]; omega
            rw [hq]
            rfl
          exact this
end Go.Pm
namespace Go.Proofs
open Go Go.Pe Go.Pm
set_option maxRecDepth 100000
set_option linter.unusedVariables false
set_option maxHeartbeats 4000000 in
theorem pc_rVb {n : Nat} (hn : n < 18446744073709551616) : PC Tryd.prog G0 76 [] [.int .u64 n] [] (.str (strOf (vb n))) := by
  refine PC.of (fn := Tryd.f76) (c := bodyOf Tryd.f76) Tryd.func76 (by kernel_rfl) (by kernel_rfl) (by kernel_rfl) (by kernel_rfl) ?_
  unfold vb
  by_cases h1 : n < 253
  · rw [if_pos h1]
    have c1 := pc_num06 (x := n) (w := 1) hn (by omega) (by omega)
    have hsz : (strOf (le n 1)).size = 1 := by rw [strOf_size, le_length]
    generalize strOf (le n 1) = s at *
    refine W.ret [(2, aT), (4, aK (PV.str s))] [] [decide ((n:Int) < 253) = true, PC Tryd.prog G0 88 [] [U6 (n:Int), I6 1] [] (PV.str s), rr (PV.str s)] (by kernel_rfl) (ac (decide_eq_true (by omega)) (ac (c1) (ao rfl)))
  · rw [if_neg h1]
    by_cases h2 : n < 65536
    · rw [if_pos h2]
      have c1 := pc_num06 (x := n) (w := 2) hn (by omega) (by omega)
      have e : (ByteArray.mk #[253]) ++ strOf (le n 2) = strOf (253 :: le n 2) := strOf_append [253] _
      generalize strOf (253 :: le n 2) = s2 at *
      have hsz : (strOf (le n 2)).size = 2 := by rw [strOf_size, le_length]
      generalize strOf (le n 2) = s at *
      refine W.ret [(2, aF), (4, aT), (6, aK (PV.str s))] [] [decide ((n:Int) < 253) = false, decide ((n:Int) < 65536) = true, PC Tryd.prog G0 88 [] [U6 (n:Int), I6 2] [] (PV.str s), 1 + ByteArray.size s ≤ 9223372036854775807, PV.str (ByteArray.mk #[(253 : UInt8)] ++ s) = PV.str s2] (by kernel_rfl) (ac (decide_eq_false (by omega)) (ac (decide_eq_true (by omega)) (ac (c1) (ac (by omega) (ao (by (simp; omega)))))))
    · rw [if_neg h2]
      by_cases h3 : n < 4294967296
      · rw [if_pos h3]
        have c1 := pc_num06 (x := n) (w := 4) hn (by omega) (by omega)
        have e : (ByteArray.mk #[254]) ++ strOf (le n 4) = strOf (254 :: le n 4) := strOf_append [254] _
        generalize strOf (254 :: le n 4) = s2 at *
        have hsz : (strOf (le n 4)).size = 4 := by rw [strOf_size, le_length]
        generalize strOf (le n 4) = s at *
        refine W.ret [(2, aF), (4, aF), (6, aT), (8, aK (PV.str s))] [] [decide ((n:Int) < 253) = false, decide ((n:Int) < 65536) = false, decide ((n:Int) < 4294967296) = true, PC Tryd.prog G0 88 [] [U6 (n:Int), I6 4] [] (PV.str s), 1 + ByteArray.size s ≤ 9223372036854775807, PV.str (ByteArray.mk #[(254 : UInt8)] ++ s) = PV.str s2] (by kernel_rfl) (ac (decide_eq_false (by omega)) (ac (decide_eq_false (by omega)) (ac (decide_eq_true (by omega)) (ac (c1) (ac (by omega) (ao (by (simp; omega))))))))
      · rw [if_neg h3]
        have c1 := pc_num06 (x := n) (w := 8) hn (by omega) (by omega)
        have e : (ByteArray.mk #[255]) ++ strOf (le n 8) = strOf (255 :: le n 8) := strOf_append [255] _
        generalize strOf (255 :: le n 8) = s2 at *
        have hsz : (strOf (le n 8)).size = 8 := by rw [strOf_size, le_length]
        generalize strOf (le n 8) = s at *
        refine W.ret [(2, aF), (4, aF), (6, aF), (8, aK (PV.str s))] [] [decide ((n:Int) < 253) = false, decide ((n:Int) < 65536) = false, decide ((n:Int) < 4294967296) = false, PC Tryd.prog G0 88 [] [U6 (n:Int), I6 8] [] (PV.str s), 1 + ByteArray.size s ≤ 9223372036854775807, PV.str (ByteArray.mk #[(255 : UInt8)] ++ s) = PV.str s2] (by kernel_rfl) (ac (decide_eq_false (by omega)) (ac (decide_eq_false (by omega)) (ac (decide_eq_false (by omega)) (ac (c1) (ac (by omega) (ao (by (simp; omega))))))))
end Go.Proofs
namespace Go.Proofs
open Go Go.Pe Go.Pm
set_option maxRecDepth 100000
set_option linter.unusedVariables false
theorem strOf_inj {a b : List Int} (ha : Bytes a) (hb : Bytes b) (h : strOf a = strOf b) : a = b := by
  rw [← bytesOf_strOf ha, ← bytesOf_strOf hb, h]
theorem byte0 {s : List Int} (hb : Bytes s) (h : 0 < s.length) : byteAt (strOf s) 0 = (at0 s 0 : Int) := by
  cases s with
  | nil => simp at h
  | cons x l =>
    have := hb x (by simp)
    unfold byteAt strOf at0
    simp
    omega
theorem strOf_mid (l : List Int) (n : Nat) : (strOf l).extract 1 (1 + n) = strOf ((l.drop 1).take n) := by
  apply ByteArray.ext
  unfold strOf
  simp [List.map_take]
theorem vb_bytes (n : Nat) : Bytes (vb n) := by
  unfold vb
  have c : ∀ (k : Int) (l : List Int), 0 ≤ k → k ≤ 255 → Bytes l → Bytes (k :: l) := fun k l h1 h2 h x hx => by
    rcases List.mem_cons.1 hx with rfl | hx
    · exact ⟨h1, h2⟩
    · exact h x hx
  split
  · exact le_bytes _ _
  · split
    · exact c _ _ (by omega) (by omega) (le_bytes _ _)
    · split
      · exact c _ _ (by omega) (by omega) (le_bytes _ _)
      · exact c _ _ (by omega) (by omega) (le_bytes _ _)
theorem toList_loop (b : ByteArray) : ∀ (k i : Nat) (r : List UInt8), i + k = b.size → ByteArray.toList.loop b i r = r.reverse ++ b.data.toList.drop i := by
  intro k
  induction k with
  | zero =>
    intro i r h
    rw [ByteArray.toList.loop, if_neg (by omega), List.drop_of_length_le (by show b.data.toList.length ≤ i; have : b.data.toList.length = b.size := rfl; omega), List.append_nil]
  | succ k ih =>
    intro i r h
    rw [ByteArray.toList.loop, if_pos (by omega), ih (i + 1) _ (by omega)]
    have hlt : i < b.data.toList.length := by have : b.data.toList.length = b.size := rfl; omega
    rw [List.reverse_cons, List.append_assoc, List.drop_eq_getElem_cons hlt]
    congr 1
    simp only [List.singleton_append, List.cons.injEq, and_true]
    have hs : i < b.size := by omega
    simp [ByteArray.get!, hs]
theorem ba_toList (b : ByteArray) : b.toList = b.data.toList := by
  have := toList_loop b b.size 0 [] (by omega)
  simpa [ByteArray.toList] using this
theorem ba_eq {a b : ByteArray} : (a.toList == b.toList) = true ↔ a = b := by
  rw [beq_iff_eq, ba_toList, ba_toList]
  constructor
  · intro h
    exact ByteArray.ext (Array.toList_inj.1 h)
  · intro h; rw [h]
theorem ba_eqT {a b : ByteArray} (h : a = b) : (a.toList == b.toList) = true := ba_eq.2 h
theorem ba_eqF {a b : ByteArray} (h : ¬ a = b) : (a.toList == b.toList) = false := by
  cases hh : a.toList == b.toList with
  | false => rfl
  | true => exact absurd (ba_eq.1 hh) h
theorem ba_neT {a b : ByteArray} (h : ¬ a = b) : (!(a.toList == b.toList)) = true := by rw [ba_eqF h]; rfl
theorem ba_neF {a b : ByteArray} (h : a = b) : (!(a.toList == b.toList)) = false := by rw [ba_eqT h]; rfl
def cntPV (r : Rd) (m : Nat) : PV := .tup [inPV (r.var m), .int .u64 ((r.vn m : Nat) : Int)]
theorem pc_rCntE {N m : Nat} {bs : List Int} {r : Rd} (hr : r.In bs N) (hN : N ≤ 1000000) (he : r.e ≤ 100) (hm : m < 18446744073709551616) (h0 : r.e ≠ 0) : PC Tryd.prog G0 52 [] [inPV r, .int .u64 m] [] (cntPV r m) := by
  refine PC.of (fn := Tryd.f52) (c := bodyOf Tryd.f52) Tryd.func52 (by kernel_rfl) (by kernel_rfl) (by kernel_rfl) (by kernel_rfl) ?_
  have hve : r.ve m = r.e := by unfold Rd.ve; rw [if_neg h0]
  obtain ⟨q1, q2⟩ := Rd.var_of hve h0
  unfold cntPV
  rw [q1, q2]
  have hne : ¬ ((r.e : Int) = 0) := by omega
  unfold inPV
  dsimp only
  generalize strOf r.s = s at *
  generalize r.e = e at *
  refine W.ret [(5, aT)] [] [((e:Int) != 0) = true, PV.tup [PV.st 2 [PV.str s, I6 (e:Int)], U6 0] = PV.tup [PV.st 2 [PV.str s, I6 (e:Int)], U6 (↑(0 : Nat) : Int)]] (by kernel_rfl) (ac (bne_iff_ne.2 (by omega)) (ao rfl))
theorem pc_rCntS {N m : Nat} {bs : List Int} {r : Rd} (hr : r.In bs N) (hN : N ≤ 1000000) (hm : m < 18446744073709551616) (h0 : r.e = 0) (hs : r.s.length = 0) : PC Tryd.prog G0 52 [] [inPV r, .int .u64 m] [] (cntPV r m) := by
  refine PC.of (fn := Tryd.f52) (c := bodyOf Tryd.f52) Tryd.func52 (by kernel_rfl) (by kernel_rfl) (by kernel_rfl) (by kernel_rfl) ?_
  have a0 : at0 r.s 0 = 0 := by rw [List.eq_nil_of_length_eq_zero hs]; rfl
  have hve : r.ve m = 2 := by unfold Rd.ve; rw [if_pos h0, a0]; exact if_pos (by show r.s.length < 1 + 0; omega)
  obtain ⟨q1, q2⟩ := Rd.var_of hve (by omega)
  unfold cntPV
  rw [q1, q2]
  have hsz : (strOf r.s).size = 0 := by rw [strOf_size, hs]
  unfold inPV
  rw [h0]
  dsimp only
  generalize strOf r.s = s at *
  refine W.ret [(4, aV (I6 0)), (10, aF), (15, aV (I6 1)), (16, aT)] [] [I6 (↑(0 : Nat) : Int) = I6 0, decide ((↑(ByteArray.size s) : Int) > 0) = false, I6 (IntKind.wrap .i64 ((1 : Int) + (0 : Int))) = I6 1, decide ((↑(ByteArray.size s) : Int) < 1) = true, PV.tup [PV.st 2 [PV.str s, I6 2], U6 0] = PV.tup [PV.st 2 [PV.str s, I6 (↑(2 : Nat) : Int)], U6 (↑(0 : Nat) : Int)]] (by kernel_rfl) (ac (cg (by omega)) (ac (decide_eq_false (by omega)) (ac (cg (w_i64 rfl (by omega) (by omega))) (ac (decide_eq_true (by omega)) (ao rfl)))))
end Go.Proofs
namespace Go.Proofs
open Go Go.Pe Go.Pm
set_option maxRecDepth 100000
set_option linter.unusedVariables false
set_option maxHeartbeats 8000000 in
theorem pc_rCnt0 {N m : Nat} {bs : List Int} {r : Rd} (hr : r.In bs N) (hN : N ≤ 1000000) (hm : m < 18446744073709551616) (h0 : r.e = 0) (hs : 0 < r.s.length) (hw : at0 r.s 0 ≠ 253 ∧ at0 r.s 0 ≠ 254 ∧ at0 r.s 0 ≠ 255) : PC Tryd.prog G0 52 [] [inPV r, .int .u64 m] [] (cntPV r m) := by
  refine PC.of (fn := Tryd.f52) (c := bodyOf Tryd.f52) Tryd.func52 (by kernel_rfl) (by kernel_rfl) (by kernel_rfl) (by kernel_rfl) ?_
  have hle := hr.le
  have hx := at0_lt hr.bytes 0
  have hb0 := byte0 hr.bytes hs
  have w0 : wdt (at0 r.s 0) = 0 := by unfold wdt; rw [if_neg hw.1, if_neg hw.2.1, if_neg hw.2.2]
  have hsz : (strOf r.s).size = r.s.length := strOf_size _
  have hsb : (strOf r.s).size ≤ 1000000 := by omega
  obtain ⟨n1, n2, n3⟩ := hw
  have b1 : ¬ ((at0 r.s 0 : Int) = 253) := by omega
  have b2 : ¬ ((at0 r.s 0 : Int) = 254) := by omega
  have b3 : ¬ ((at0 r.s 0 : Int) = 255) := by omega
  unfold cntPV
  by_cases hsh : r.s.length < 1 + 0
  · have hve : r.ve m = 2 := by unfold Rd.ve; rw [if_pos h0, w0, if_pos hsh]
    obtain ⟨q1, q2⟩ := Rd.var_of hve (by omega)
    rw [q1, q2]
    unfold inPV
    rw [h0]
    rw [← hsz] at hsh
    dsimp only
    clear q1 q2 hve
    generalize at0 r.s 0 = x at *
    generalize strOf r.s = s at *
    refine W.ret [(4, aV (I6 0)), (10, aT), (13, aV (U8 (x:Int))), (14, aT), (21, aV (I6 3)), (22, aT)] [] [I6 (↑(0 : Nat) : Int) = I6 0, decide ((↑(ByteArray.size s) : Int) > 0) = true, U8 (byteAt s (0 : Int)) = U8 (x:Int), (0 : Int) ≤ (0 : Int), 0 < (↑(ByteArray.size s) : Int), ((x:Int) == 253) = true, I6 (IntKind.wrap .i64 ((1 : Int) + (2 : Int))) = I6 3, decide ((↑(ByteArray.size s) : Int) < 3) = true, PV.tup [PV.st 2 [PV.str s, I6 2], U6 0] = PV.tup [PV.st 2 [PV.str s, I6 (↑(2 : Nat) : Int)], U6 (↑(0 : Nat) : Int)]] (by kernel_rfl) (ac (cg (by omega)) (ac (decide_eq_true (by omega)) (ac (cg (hb0)) (ac (by omega) (ac (by omega) (ac (decide_eq_true (by omega)) (ac (cg (w_i64 rfl (by omega) (by omega))) (ac (decide_eq_true (by omega)) (ao (by omega))))))))))
  · have hl : 1 + wdt (at0 r.s 0) ≤ r.s.length := by rw [w0]; omega
    have hcan := vb_vraw hr.bytes hl
    have hvl := vraw_lt hr.bytes
    have cv := pc_rVb hvl
    have hve : r.ve m = if vraw r.s < lst (at0 r.s 0) then 3 else if m < vraw r.s then 4 else 0 := by unfold Rd.ve; rw [if_pos h0, w0, if_neg hsh]
    have hmid : (strOf r.s).extract 0 1 = strOf (r.s.take 1) := strOf_take r.s 1
    have htk : (strOf r.s).extract 0 1 = strOf (r.s.take (1 + 0)) := strOf_take r.s (1 + 0)
    have hdr : (strOf r.s).extract 1 (strOf r.s).size = strOf (r.s.drop (1 + 0)) := strOf_drop r.s (1 + 0)
    have hval : lv (bytesOf (strOf (r.s.take 1))) (strOf (r.s.take 1)).size = vraw r.s := by
      rw [bytesOf_strOf (hr.bytes.take 1), strOf_size, List.length_take, Nat.min_eq_left (by omega)]
      unfold vraw
      rw [if_pos w0, lv_take (Nat.le_refl _), lv_one]
    have cval := pc_value01 (s := strOf (r.s.take 1)) (nl := false) (by rw [strOf_size, List.length_take]; omega)
    rw [hval] at cval
    have hbl := bytesOf_length (strOf (r.s.take 1))
    have hms : (strOf (r.s.take 1)).size ≤ 8 := by rw [strOf_size, List.length_take]; omega
    rw [w0] at hcan
    rw [← hsz] at hsh
    rw [← hmid] at cval hbl hms
    have hbs := bytesOf_bytes ((strOf r.s).extract 0 1)
    by_cases hlt : vraw r.s < lst (at0 r.s 0)
    · rw [if_pos hlt] at hve
      obtain ⟨q1, q2⟩ := Rd.var_of hve (by omega)
      have hneS : ¬ strOf (vb (vraw r.s)) = strOf (r.s.take (1 + 0)) := fun h => (hcan.1 (strOf_inj (vb_bytes _) (hr.bytes.take _) h)) hlt
      rw [← htk] at hneS
      have hneS := ba_neT hneS
      rw [q1, q2]
      unfold inPV
      rw [h0]
      dsimp only
      clear q1 q2 hve hcan hlt hval htk hmid
      generalize strOf (vb (vraw r.s)) = sv at *
      generalize vraw r.s = v at *
      generalize at0 r.s 0 = x at *
      generalize strOf r.s = s at *
      refine W.ret [(4, aV (I6 0)), (10, aT), (13, aV (U8 (x:Int))), (14, aF), (16, aF), (18, aF), (24, aV (I6 1)), (25, aF), (29, aV (I6 1)), (40, Ans.calla true [] [] [PV.vec false (B8 (ByteArray.size (ByteArray.extract s 0 1)) (bytesOf (ByteArray.extract s 0 1)))] [] (U6 (v:Int))), (43, aK (PV.str sv)), (47, aV (I6 1)), (49, aT)] [] [I6 (↑(0 : Nat) : Int) = I6 0, decide ((↑(ByteArray.size s) : Int) > 0) = true, U8 (byteAt s (0 : Int)) = U8 (x:Int), (0 : Int) ≤ (0 : Int), 0 < (↑(ByteArray.size s) : Int), ((x:Int) == 253) = false, ((x:Int) == 254) = false, ((x:Int) == 255) = false, I6 (IntKind.wrap .i64 ((1 : Int) + (0 : Int))) = I6 1, decide ((↑(ByteArray.size s) : Int) < 1) = false, I6 (IntKind.wrap .i64 ((1 : Int) + (0 : Int))) = I6 1, (0 : Int) ≤ (1 : Int), (1 : Int) ≤ (1 : Int), 1 ≤ (↑(ByteArray.size s) : Int), (0 : Int) ≤ (0 : Int), (0 : Int) ≤ (1 : Int), 1 ≤ (↑(ByteArray.size s) : Int), 0 + ByteArray.size (ByteArray.extract s 0 1) ≤ ByteArray.size (ByteArray.extract s 0 1), rr ([] : List (Nat × Row)), ([PV.vec false (B8 (ByteArray.size (ByteArray.extract s 0 1)) (List.take (ByteArray.size (ByteArray.extract s 0 1)) (bytesOf (ByteArray.extract s 0 1))))] : List PV) = [PV.vec false (B8 (ByteArray.size (ByteArray.extract s 0 1)) (bytesOf (ByteArray.extract s 0 1)))], PC Tryd.prog G0 75 [] [PV.vec false (B8 (ByteArray.size (ByteArray.extract s 0 1)) (bytesOf (ByteArray.extract s 0 1)))] [] (U6 (v:Int)), PC Tryd.prog G0 76 [] [U6 (v:Int)] [] (PV.str sv), I6 (IntKind.wrap .i64 ((1 : Int) + (0 : Int))) = I6 1, (0 : Int) ≤ (0 : Int), (0 : Int) ≤ (1 : Int), 1 ≤ (↑(ByteArray.size s) : Int), (!ByteArray.toList sv == ByteArray.toList (ByteArray.extract s 0 1)) = true, PV.tup [PV.st 2 [PV.str s, I6 3], U6 0] = PV.tup [PV.st 2 [PV.str s, I6 (↑(3 : Nat) : Int)], U6 (↑(0 : Nat) : Int)]] (by kernel_rfl) (ac (cg (by omega)) (ac (decide_eq_true (by omega)) (ac (cg (hb0)) (ac (by omega) (ac (by omega) (ac (decide_eq_false (by omega)) (ac (decide_eq_false (by omega)) (ac (decide_eq_false (by omega)) (ac (cg (w_i64 rfl (by omega) (by omega))) (ac (decide_eq_false (by omega)) (ac (cg (w_i64 rfl (by omega) (by omega))) (ac (by omega) (ac (by omega) (ac (by omega) (ac (by omega) (ac (by omega) (ac (by omega) (ac (by omega) (ac rfl (ac (by rw [List.take_of_length_le (show List.length (bytesOf (ByteArray.extract s 0 1)) ≤ ByteArray.size (ByteArray.extract s 0 1) by omega)]) (ac (cval) (ac (cv) (ac (cg (w_i64 rfl (by omega) (by omega))) (ac (by omega) (ac (by omega) (ac (by omega) (ac (by assumption) (ao rfl))))))))))))))))))))))))))))
    · rw [if_neg hlt] at hve
      have heS : strOf (vb (vraw r.s)) = strOf (r.s.take (1 + 0)) := by rw [hcan.2 hlt]
      rw [← htk] at heS
      have heS := ba_neF heS
      by_cases hgt : m < vraw r.s
      · rw [if_pos hgt] at hve
        obtain ⟨q1, q2⟩ := Rd.var_of hve (by omega)
        rw [q1, q2]
        unfold inPV
        rw [h0]
        dsimp only
        clear q1 q2 hve hcan hlt hval htk hmid
        generalize strOf (vb (vraw r.s)) = sv at *
        generalize vraw r.s = v at *
        generalize at0 r.s 0 = x at *
        generalize strOf r.s = s at *
        refine W.ret [(4, aV (I6 0)), (10, aT), (13, aV (U8 (x:Int))), (14, aF), (16, aF), (18, aF), (24, aV (I6 1)), (25, aF), (29, aV (I6 1)), (40, Ans.calla true [] [] [PV.vec false (B8 (ByteArray.size (ByteArray.extract s 0 1)) (bytesOf (ByteArray.extract s 0 1)))] [] (U6 (v:Int))), (43, aK (PV.str sv)), (47, aV (I6 1)), (49, aF), (52, aT)] [] [I6 (↑(0 : Nat) : Int) = I6 0, decide ((↑(ByteArray.size s) : Int) > 0) = true, U8 (byteAt s (0 : Int)) = U8 (x:Int), (0 : Int) ≤ (0 : Int), 0 < (↑(ByteArray.size s) : Int), ((x:Int) == 253) = false, ((x:Int) == 254) = false, ((x:Int) == 255) = false, I6 (IntKind.wrap .i64 ((1 : Int) + (0 : Int))) = I6 1, decide ((↑(ByteArray.size s) : Int) < 1) = false, I6 (IntKind.wrap .i64 ((1 : Int) + (0 : Int))) = I6 1, (0 : Int) ≤ (1 : Int), (1 : Int) ≤ (1 : Int), 1 ≤ (↑(ByteArray.size s) : Int), (0 : Int) ≤ (0 : Int), (0 : Int) ≤ (1 : Int), 1 ≤ (↑(ByteArray.size s) : Int), 0 + ByteArray.size (ByteArray.extract s 0 1) ≤ ByteArray.size (ByteArray.extract s 0 1), rr ([] : List (Nat × Row)), ([PV.vec false (B8 (ByteArray.size (ByteArray.extract s 0 1)) (List.take (ByteArray.size (ByteArray.extract s 0 1)) (bytesOf (ByteArray.extract s 0 1))))] : List PV) = [PV.vec false (B8 (ByteArray.size (ByteArray.extract s 0 1)) (bytesOf (ByteArray.extract s 0 1)))], PC Tryd.prog G0 75 [] [PV.vec false (B8 (ByteArray.size (ByteArray.extract s 0 1)) (bytesOf (ByteArray.extract s 0 1)))] [] (U6 (v:Int)), PC Tryd.prog G0 76 [] [U6 (v:Int)] [] (PV.str sv), I6 (IntKind.wrap .i64 ((1 : Int) + (0 : Int))) = I6 1, (0 : Int) ≤ (0 : Int), (0 : Int) ≤ (1 : Int), 1 ≤ (↑(ByteArray.size s) : Int), (!ByteArray.toList sv == ByteArray.toList (ByteArray.extract s 0 1)) = false, decide ((v:Int) > (m:Int)) = true, PV.tup [PV.st 2 [PV.str s, I6 4], U6 0] = PV.tup [PV.st 2 [PV.str s, I6 (↑(4 : Nat) : Int)], U6 (↑(0 : Nat) : Int)]] (by kernel_rfl) (ac (cg (by omega)) (ac (decide_eq_true (by omega)) (ac (cg (hb0)) (ac (by omega) (ac (by omega) (ac (decide_eq_false (by omega)) (ac (decide_eq_false (by omega)) (ac (decide_eq_false (by omega)) (ac (cg (w_i64 rfl (by omega) (by omega))) (ac (decide_eq_false (by omega)) (ac (cg (w_i64 rfl (by omega) (by omega))) (ac (by omega) (ac (by omega) (ac (by omega) (ac (by omega) (ac (by omega) (ac (by omega) (ac (by omega) (ac rfl (ac (by rw [List.take_of_length_le (show List.length (bytesOf (ByteArray.extract s 0 1)) ≤ ByteArray.size (ByteArray.extract s 0 1) by omega)]) (ac (cval) (ac (cv) (ac (cg (w_i64 rfl (by omega) (by omega))) (ac (by omega) (ac (by omega) (ac (by omega) (ac (by assumption) (ac (decide_eq_true (by omega)) (ao rfl)))))))))))))))))))))))))))))
      · rw [if_neg hgt] at hve
        obtain ⟨q1, q2⟩ := Rd.var_ok hve
        rw [w0] at q1
        rw [q1, q2]
        unfold inPV
        rw [h0]
        dsimp only
        rw [← hdr]
        clear hdr
        clear q1 q2 hve hcan hlt hval htk hmid
        generalize strOf (vb (vraw r.s)) = sv at *
        generalize vraw r.s = v at *
        generalize at0 r.s 0 = x at *
        generalize strOf r.s = s at *
        refine W.ret [(4, aV (I6 0)), (10, aT), (13, aV (U8 (x:Int))), (14, aF), (16, aF), (18, aF), (24, aV (I6 1)), (25, aF), (29, aV (I6 1)), (40, Ans.calla true [] [] [PV.vec false (B8 (ByteArray.size (ByteArray.extract s 0 1)) (bytesOf (ByteArray.extract s 0 1)))] [] (U6 (v:Int))), (43, aK (PV.str sv)), (47, aV (I6 1)), (49, aF), (52, aF), (56, aV (I6 1)), (57, aV (PV.str (ByteArray.extract s 1 (ByteArray.size s))))] [] [I6 (↑(0 : Nat) : Int) = I6 0, decide ((↑(ByteArray.size s) : Int) > 0) = true, U8 (byteAt s (0 : Int)) = U8 (x:Int), (0 : Int) ≤ (0 : Int), 0 < (↑(ByteArray.size s) : Int), ((x:Int) == 253) = false, ((x:Int) == 254) = false, ((x:Int) == 255) = false, I6 (IntKind.wrap .i64 ((1 : Int) + (0 : Int))) = I6 1, decide ((↑(ByteArray.size s) : Int) < 1) = false, I6 (IntKind.wrap .i64 ((1 : Int) + (0 : Int))) = I6 1, (0 : Int) ≤ (1 : Int), (1 : Int) ≤ (1 : Int), 1 ≤ (↑(ByteArray.size s) : Int), (0 : Int) ≤ (0 : Int), (0 : Int) ≤ (1 : Int), 1 ≤ (↑(ByteArray.size s) : Int), 0 + ByteArray.size (ByteArray.extract s 0 1) ≤ ByteArray.size (ByteArray.extract s 0 1), rr ([] : List (Nat × Row)), ([PV.vec false (B8 (ByteArray.size (ByteArray.extract s 0 1)) (List.take (ByteArray.size (ByteArray.extract s 0 1)) (bytesOf (ByteArray.extract s 0 1))))] : List PV) = [PV.vec false (B8 (ByteArray.size (ByteArray.extract s 0 1)) (bytesOf (ByteArray.extract s 0 1)))], PC Tryd.prog G0 75 [] [PV.vec false (B8 (ByteArray.size (ByteArray.extract s 0 1)) (bytesOf (ByteArray.extract s 0 1)))] [] (U6 (v:Int)), PC Tryd.prog G0 76 [] [U6 (v:Int)] [] (PV.str sv), I6 (IntKind.wrap .i64 ((1 : Int) + (0 : Int))) = I6 1, (0 : Int) ≤ (0 : Int), (0 : Int) ≤ (1 : Int), 1 ≤ (↑(ByteArray.size s) : Int), (!ByteArray.toList sv == ByteArray.toList (ByteArray.extract s 0 1)) = false, decide ((v:Int) > (m:Int)) = false, I6 (IntKind.wrap .i64 ((1 : Int) + (0 : Int))) = I6 1, PV.str (ByteArray.extract s 1 (Int.toNat (↑(ByteArray.size s) : Int))) = PV.str (ByteArray.extract s 1 (ByteArray.size s)), (0 : Int) ≤ (1 : Int), 1 ≤ (↑(ByteArray.size s) : Int), (↑(ByteArray.size s) : Int) ≤ (↑(ByteArray.size s) : Int), PV.tup [PV.st 2 [PV.str (ByteArray.extract s 1 (ByteArray.size s)), I6 0], U6 (v:Int)] = PV.tup [PV.st 2 [PV.str (ByteArray.extract s 1 (ByteArray.size s)), I6 (↑(0 : Nat) : Int)], U6 (v:Int)]] (by kernel_rfl) (ac (cg (by omega)) (ac (decide_eq_true (by omega)) (ac (cg (hb0)) (ac (by omega) (ac (by omega) (ac (decide_eq_false (by omega)) (ac (decide_eq_false (by omega)) (ac (decide_eq_false (by omega)) (ac (cg (w_i64 rfl (by omega) (by omega))) (ac (decide_eq_false (by omega)) (ac (cg (w_i64 rfl (by omega) (by omega))) (ac (by omega) (ac (by omega) (ac (by omega) (ac (by omega) (ac (by omega) (ac (by omega) (ac (by omega) (ac rfl (ac (by rw [List.take_of_length_le (show List.length (bytesOf (ByteArray.extract s 0 1)) ≤ ByteArray.size (ByteArray.extract s 0 1) by omega)]) (ac (cval) (ac (cv) (ac (cg (w_i64 rfl (by omega) (by omega))) (ac (by omega) (ac (by omega) (ac (by omega) (ac (by assumption) (ac (decide_eq_false (by omega)) (ac (cg (w_i64 rfl (by omega) (by omega))) (ac (by rw [show Int.toNat (↑(ByteArray.size s) : Int) = ByteArray.size s by omega]) (ac (by omega) (ac (by omega) (ac (by omega) (ao rfl))))))))))))))))))))))))))))))))))
end Go.Proofs
namespace Go.Proofs
open Go Go.Pe Go.Pm
set_option maxRecDepth 100000
set_option linter.unusedVariables false
set_option maxHeartbeats 8000000 in
theorem pc_rCnt2 {N m : Nat} {bs : List Int} {r : Rd} (hr : r.In bs N) (hN : N ≤ 1000000) (hm : m < 18446744073709551616) (h0 : r.e = 0) (hs : 0 < r.s.length) (hw : at0 r.s 0 = 253) : PC Tryd.prog G0 52 [] [inPV r, .int .u64 m] [] (cntPV r m) := by
  refine PC.of (fn := Tryd.f52) (c := bodyOf Tryd.f52) Tryd.func52 (by kernel_rfl) (by kernel_rfl) (by kernel_rfl) (by kernel_rfl) ?_
  have hle := hr.le
  have hx := at0_lt hr.bytes 0
  have hb0 := byte0 hr.bytes hs
  have w0 : wdt (at0 r.s 0) = 2 := by rw [hw]; rfl
  have hsz : (strOf r.s).size = r.s.length := strOf_size _
  have hsb : (strOf r.s).size ≤ 1000000 := by omega
  unfold cntPV
  by_cases hsh : r.s.length < 1 + 2
  · have hve : r.ve m = 2 := by unfold Rd.ve; rw [if_pos h0, w0, if_pos hsh]
    obtain ⟨q1, q2⟩ := Rd.var_of hve (by omega)
    rw [q1, q2]
    unfold inPV
    rw [h0]
    rw [← hsz] at hsh
    dsimp only
    clear q1 q2 hve
    generalize at0 r.s 0 = x at *
    generalize strOf r.s = s at *
    subst hw
    refine W.ret [(4, aV (I6 0)), (10, aT), (13, aV (U8 (↑(253 : Nat) : Int))), (21, aV (I6 3)), (22, aT)] [] [I6 (↑(0 : Nat) : Int) = I6 0, decide ((↑(ByteArray.size s) : Int) > 0) = true, U8 (byteAt s (0 : Int)) = U8 (↑(253 : Nat) : Int), (0 : Int) ≤ (0 : Int), 0 < (↑(ByteArray.size s) : Int), I6 (IntKind.wrap .i64 ((1 : Int) + (2 : Int))) = I6 3, decide ((↑(ByteArray.size s) : Int) < 3) = true, PV.tup [PV.st 2 [PV.str s, I6 2], U6 0] = PV.tup [PV.st 2 [PV.str s, I6 (↑(2 : Nat) : Int)], U6 (↑(0 : Nat) : Int)]] (by kernel_rfl) (ac (cg (by omega)) (ac (decide_eq_true (by omega)) (ac (cg (hb0)) (ac (by omega) (ac (by omega) (ac (cg (w_i64 rfl (by omega) (by omega))) (ac (decide_eq_true (by omega)) (ao rfl))))))))
  · have hl : 1 + wdt (at0 r.s 0) ≤ r.s.length := by rw [w0]; omega
    have hcan := vb_vraw hr.bytes hl
    have hvl := vraw_lt hr.bytes
    have cv := pc_rVb hvl
    have hve : r.ve m = if vraw r.s < lst (at0 r.s 0) then 3 else if m < vraw r.s then 4 else 0 := by unfold Rd.ve; rw [if_pos h0, w0, if_neg hsh]
    have hmid : (strOf r.s).extract 1 3 = strOf ((r.s.drop 1).take 2) := strOf_mid r.s 2
    have htk : (strOf r.s).extract 0 3 = strOf (r.s.take (1 + 2)) := strOf_take r.s (1 + 2)
    have hdr : (strOf r.s).extract 3 (strOf r.s).size = strOf (r.s.drop (1 + 2)) := strOf_drop r.s (1 + 2)
    have hval : lv (bytesOf (strOf ((r.s.drop 1).take 2))) (strOf ((r.s.drop 1).take 2)).size = vraw r.s := by
      rw [bytesOf_strOf ((hr.bytes.drop 1).take 2), strOf_size, List.length_take, List.length_drop, Nat.min_eq_left (by omega)]
      unfold vraw
      rw [w0, if_neg (by omega), lv_take (Nat.le_refl _)]
    have cval := pc_value01 (s := strOf ((r.s.drop 1).take 2)) (nl := false) (by rw [strOf_size, List.length_take]; omega)
    rw [hval] at cval
    have hbl := bytesOf_length (strOf ((r.s.drop 1).take 2))
    have hms : (strOf ((r.s.drop 1).take 2)).size ≤ 8 := by rw [strOf_size, List.length_take]; omega
    rw [w0] at hcan
    rw [← hsz] at hsh
    rw [← hmid] at cval hbl hms
    have hbs := bytesOf_bytes ((strOf r.s).extract 1 3)
    by_cases hlt : vraw r.s < lst (at0 r.s 0)
    · rw [if_pos hlt] at hve
      obtain ⟨q1, q2⟩ := Rd.var_of hve (by omega)
      have hneS : ¬ strOf (vb (vraw r.s)) = strOf (r.s.take (1 + 2)) := fun h => (hcan.1 (strOf_inj (vb_bytes _) (hr.bytes.take _) h)) hlt
      rw [← htk] at hneS
      have hneS := ba_neT hneS
      rw [q1, q2]
      unfold inPV
      rw [h0]
      dsimp only
      clear q1 q2 hve hcan hlt hval htk hmid
      generalize strOf (vb (vraw r.s)) = sv at *
      generalize vraw r.s = v at *
      generalize at0 r.s 0 = x at *
      generalize strOf r.s = s at *
      subst hw
      refine W.ret [(4, aV (I6 0)), (10, aT), (13, aV (U8 (↑(253 : Nat) : Int))), (21, aV (I6 3)), (22, aF), (26, aV (I6 3)), (33, Ans.calla true [] [] [PV.vec false (B8 (ByteArray.size (ByteArray.extract s 1 3)) (bytesOf (ByteArray.extract s 1 3)))] [] (U6 (v:Int))), (36, aK (PV.str sv)), (40, aV (I6 3)), (42, aT)] [] [I6 (↑(0 : Nat) : Int) = I6 0, decide ((↑(ByteArray.size s) : Int) > 0) = true, U8 (byteAt s (0 : Int)) = U8 (↑(253 : Nat) : Int), (0 : Int) ≤ (0 : Int), 0 < (↑(ByteArray.size s) : Int), I6 (IntKind.wrap .i64 ((1 : Int) + (2 : Int))) = I6 3, decide ((↑(ByteArray.size s) : Int) < 3) = false, I6 (IntKind.wrap .i64 ((1 : Int) + (2 : Int))) = I6 3, (0 : Int) ≤ (1 : Int), (1 : Int) ≤ (3 : Int), 3 ≤ (↑(ByteArray.size s) : Int), 0 + ByteArray.size (ByteArray.extract s 1 3) ≤ ByteArray.size (ByteArray.extract s 1 3), rr ([] : List (Nat × Row)), ([PV.vec false (B8 (ByteArray.size (ByteArray.extract s 1 3)) (List.take (ByteArray.size (ByteArray.extract s 1 3)) (bytesOf (ByteArray.extract s 1 3))))] : List PV) = [PV.vec false (B8 (ByteArray.size (ByteArray.extract s 1 3)) (bytesOf (ByteArray.extract s 1 3)))], PC Tryd.prog G0 75 [] [PV.vec false (B8 (ByteArray.size (ByteArray.extract s 1 3)) (bytesOf (ByteArray.extract s 1 3)))] [] (U6 (v:Int)), PC Tryd.prog G0 76 [] [U6 (v:Int)] [] (PV.str sv), I6 (IntKind.wrap .i64 ((1 : Int) + (2 : Int))) = I6 3, (0 : Int) ≤ (0 : Int), (0 : Int) ≤ (3 : Int), 3 ≤ (↑(ByteArray.size s) : Int), (!ByteArray.toList sv == ByteArray.toList (ByteArray.extract s 0 3)) = true, PV.tup [PV.st 2 [PV.str s, I6 3], U6 0] = PV.tup [PV.st 2 [PV.str s, I6 (↑(3 : Nat) : Int)], U6 (↑(0 : Nat) : Int)]] (by kernel_rfl) (ac (cg (by omega)) (ac (decide_eq_true (by omega)) (ac (cg (hb0)) (ac (by omega) (ac (by omega) (ac (cg (w_i64 rfl (by omega) (by omega))) (ac (decide_eq_false (by omega)) (ac (cg (w_i64 rfl (by omega) (by omega))) (ac (by omega) (ac (by omega) (ac (by omega) (ac (by omega) (ac rfl (ac (by rw [List.take_of_length_le (show List.length (bytesOf (ByteArray.extract s 1 3)) ≤ ByteArray.size (ByteArray.extract s 1 3) by omega)]) (ac (cval) (ac (cv) (ac (cg (w_i64 rfl (by omega) (by omega))) (ac (by omega) (ac (by omega) (ac (by omega) (ac (by assumption) (ao rfl))))))))))))))))))))))
    · rw [if_neg hlt] at hve
      have heS : strOf (vb (vraw r.s)) = strOf (r.s.take (1 + 2)) := by rw [hcan.2 hlt]
      rw [← htk] at heS
      have heS := ba_neF heS
      by_cases hgt : m < vraw r.s
      · rw [if_pos hgt] at hve
        obtain ⟨q1, q2⟩ := Rd.var_of hve (by omega)
        rw [q1, q2]
        unfold inPV
        rw [h0]
        dsimp only
        clear q1 q2 hve hcan hlt hval htk hmid
        generalize strOf (vb (vraw r.s)) = sv at *
        generalize vraw r.s = v at *
        generalize at0 r.s 0 = x at *
        generalize strOf r.s = s at *
        subst hw
        refine W.ret [(4, aV (I6 0)), (10, aT), (13, aV (U8 (↑(253 : Nat) : Int))), (21, aV (I6 3)), (22, aF), (26, aV (I6 3)), (33, Ans.calla true [] [] [PV.vec false (B8 (ByteArray.size (ByteArray.extract s 1 3)) (bytesOf (ByteArray.extract s 1 3)))] [] (U6 (v:Int))), (36, aK (PV.str sv)), (40, aV (I6 3)), (42, aF), (45, aT)] [] [I6 (↑(0 : Nat) : Int) = I6 0, decide ((↑(ByteArray.size s) : Int) > 0) = true, U8 (byteAt s (0 : Int)) = U8 (↑(253 : Nat) : Int), (0 : Int) ≤ (0 : Int), 0 < (↑(ByteArray.size s) : Int), I6 (IntKind.wrap .i64 ((1 : Int) + (2 : Int))) = I6 3, decide ((↑(ByteArray.size s) : Int) < 3) = false, I6 (IntKind.wrap .i64 ((1 : Int) + (2 : Int))) = I6 3, (0 : Int) ≤ (1 : Int), (1 : Int) ≤ (3 : Int), 3 ≤ (↑(ByteArray.size s) : Int), 0 + ByteArray.size (ByteArray.extract s 1 3) ≤ ByteArray.size (ByteArray.extract s 1 3), rr ([] : List (Nat × Row)), ([PV.vec false (B8 (ByteArray.size (ByteArray.extract s 1 3)) (List.take (ByteArray.size (ByteArray.extract s 1 3)) (bytesOf (ByteArray.extract s 1 3))))] : List PV) = [PV.vec false (B8 (ByteArray.size (ByteArray.extract s 1 3)) (bytesOf (ByteArray.extract s 1 3)))], PC Tryd.prog G0 75 [] [PV.vec false (B8 (ByteArray.size (ByteArray.extract s 1 3)) (bytesOf (ByteArray.extract s 1 3)))] [] (U6 (v:Int)), PC Tryd.prog G0 76 [] [U6 (v:Int)] [] (PV.str sv), I6 (IntKind.wrap .i64 ((1 : Int) + (2 : Int))) = I6 3, (0 : Int) ≤ (0 : Int), (0 : Int) ≤ (3 : Int), 3 ≤ (↑(ByteArray.size s) : Int), (!ByteArray.toList sv == ByteArray.toList (ByteArray.extract s 0 3)) = false, decide ((v:Int) > (m:Int)) = true, PV.tup [PV.st 2 [PV.str s, I6 4], U6 0] = PV.tup [PV.st 2 [PV.str s, I6 (↑(4 : Nat) : Int)], U6 (↑(0 : Nat) : Int)]] (by kernel_rfl) (ac (cg (by omega)) (ac (decide_eq_true (by omega)) (ac (cg (hb0)) (ac (by omega) (ac (by omega) (ac (cg (w_i64 rfl (by omega) (by omega))) (ac (decide_eq_false (by omega)) (ac (cg (w_i64 rfl (by omega) (by omega))) (ac (by omega) (ac (by omega) (ac (by omega) (ac (by omega) (ac rfl (ac (by rw [List.take_of_length_le (show List.length (bytesOf (ByteArray.extract s 1 3)) ≤ ByteArray.size (ByteArray.extract s 1 3) by omega)]) (ac (cval) (ac (cv) (ac (cg (w_i64 rfl (by omega) (by omega))) (ac (by omega) (ac (by omega) (ac (by omega) (ac (by assumption) (ac (decide_eq_true (by omega)) (ao rfl)))))))))))))))))))))))
      · rw [if_neg hgt] at hve
        obtain ⟨q1, q2⟩ := Rd.var_ok hve
        rw [w0] at q1
        rw [q1, q2]
        unfold inPV
        rw [h0]
        dsimp only
        rw [← hdr]
        clear hdr
        clear q1 q2 hve hcan hlt hval htk hmid
        generalize strOf (vb (vraw r.s)) = sv at *
        generalize vraw r.s = v at *
        generalize at0 r.s 0 = x at *
        generalize strOf r.s = s at *
        subst hw
        refine W.ret [(4, aV (I6 0)), (10, aT), (13, aV (U8 (↑(253 : Nat) : Int))), (21, aV (I6 3)), (22, aF), (26, aV (I6 3)), (33, Ans.calla true [] [] [PV.vec false (B8 (ByteArray.size (ByteArray.extract s 1 3)) (bytesOf (ByteArray.extract s 1 3)))] [] (U6 (v:Int))), (36, aK (PV.str sv)), (40, aV (I6 3)), (42, aF), (45, aF), (49, aV (I6 3)), (50, aV (PV.str (ByteArray.extract s 3 (ByteArray.size s))))] [] [I6 (↑(0 : Nat) : Int) = I6 0, decide ((↑(ByteArray.size s) : Int) > 0) = true, U8 (byteAt s (0 : Int)) = U8 (↑(253 : Nat) : Int), (0 : Int) ≤ (0 : Int), 0 < (↑(ByteArray.size s) : Int), I6 (IntKind.wrap .i64 ((1 : Int) + (2 : Int))) = I6 3, decide ((↑(ByteArray.size s) : Int) < 3) = false, I6 (IntKind.wrap .i64 ((1 : Int) + (2 : Int))) = I6 3, (0 : Int) ≤ (1 : Int), (1 : Int) ≤ (3 : Int), 3 ≤ (↑(ByteArray.size s) : Int), 0 + ByteArray.size (ByteArray.extract s 1 3) ≤ ByteArray.size (ByteArray.extract s 1 3), rr ([] : List (Nat × Row)), ([PV.vec false (B8 (ByteArray.size (ByteArray.extract s 1 3)) (List.take (ByteArray.size (ByteArray.extract s 1 3)) (bytesOf (ByteArray.extract s 1 3))))] : List PV) = [PV.vec false (B8 (ByteArray.size (ByteArray.extract s 1 3)) (bytesOf (ByteArray.extract s 1 3)))], PC Tryd.prog G0 75 [] [PV.vec false (B8 (ByteArray.size (ByteArray.extract s 1 3)) (bytesOf (ByteArray.extract s 1 3)))] [] (U6 (v:Int)), PC Tryd.prog G0 76 [] [U6 (v:Int)] [] (PV.str sv), I6 (IntKind.wrap .i64 ((1 : Int) + (2 : Int))) = I6 3, (0 : Int) ≤ (0 : Int), (0 : Int) ≤ (3 : Int), 3 ≤ (↑(ByteArray.size s) : Int), (!ByteArray.toList sv == ByteArray.toList (ByteArray.extract s 0 3)) = false, decide ((v:Int) > (m:Int)) = false, I6 (IntKind.wrap .i64 ((1 : Int) + (2 : Int))) = I6 3, PV.str (ByteArray.extract s 3 (Int.toNat (↑(ByteArray.size s) : Int))) = PV.str (ByteArray.extract s 3 (ByteArray.size s)), (0 : Int) ≤ (3 : Int), 3 ≤ (↑(ByteArray.size s) : Int), (↑(ByteArray.size s) : Int) ≤ (↑(ByteArray.size s) : Int), PV.tup [PV.st 2 [PV.str (ByteArray.extract s 3 (ByteArray.size s)), I6 0], U6 (v:Int)] = PV.tup [PV.st 2 [PV.str (ByteArray.extract s 3 (ByteArray.size s)), I6 (↑(0 : Nat) : Int)], U6 (v:Int)]] (by kernel_rfl) (ac (cg (by omega)) (ac (decide_eq_true (by omega)) (ac (cg (hb0)) (ac (by omega) (ac (by omega) (ac (cg (w_i64 rfl (by omega) (by omega))) (ac (decide_eq_false (by omega)) (ac (cg (w_i64 rfl (by omega) (by omega))) (ac (by omega) (ac (by omega) (ac (by omega) (ac (by omega) (ac rfl (ac (by rw [List.take_of_length_le (show List.length (bytesOf (ByteArray.extract s 1 3)) ≤ ByteArray.size (ByteArray.extract s 1 3) by omega)]) (ac (cval) (ac (cv) (ac (cg (w_i64 rfl (by omega) (by omega))) (ac (by omega) (ac (by omega) (ac (by omega) (ac (by assumption) (ac (decide_eq_false (by omega)) (ac (cg (w_i64 rfl (by omega) (by omega))) (ac (by rw [show Int.toNat (↑(ByteArray.size s) : Int) = ByteArray.size s by omega]) (ac (by omega) (ac (by omega) (ac (by omega) (ao rfl))))))))))))))))))))))))))))
end Go.Proofs
namespace Go.Proofs
open Go Go.Pe Go.Pm
set_option maxRecDepth 100000
set_option linter.unusedVariables false
set_option maxHeartbeats 8000000 in
theorem pc_rCnt4 {N m : Nat} {bs : List Int} {r : Rd} (hr : r.In bs N) (hN : N ≤ 1000000) (hm : m < 18446744073709551616) (h0 : r.e = 0) (hs : 0 < r.s.length) (hw : at0 r.s 0 = 254) : PC Tryd.prog G0 52 [] [inPV r, .int .u64 m] [] (cntPV r m) := by
  refine PC.of (fn := Tryd.f52) (c := bodyOf Tryd.f52) Tryd.func52 (by kernel_rfl) (by kernel_rfl) (by kernel_rfl) (by kernel_rfl) ?_
  have hle := hr.le
  have hx := at0_lt hr.bytes 0
  have hb0 := byte0 hr.bytes hs
  have w0 : wdt (at0 r.s 0) = 4 := by rw [hw]; rfl
  have hsz : (strOf r.s).size = r.s.length := strOf_size _
  have hsb : (strOf r.s).size ≤ 1000000 := by omega
  unfold cntPV
  by_cases hsh : r.s.length < 1 + 4
  · have hve : r.ve m = 2 := by unfold Rd.ve; rw [if_pos h0, w0, if_pos hsh]
    obtain ⟨q1, q2⟩ := Rd.var_of hve (by omega)
    rw [q1, q2]
    unfold inPV
    rw [h0]
    rw [← hsz] at hsh
    dsimp only
    clear q1 q2 hve
    generalize at0 r.s 0 = x at *
    generalize strOf r.s = s at *
    subst hw
    refine W.ret [(4, aV (I6 0)), (10, aT), (13, aV (U8 (↑(254 : Nat) : Int))), (23, aV (I6 5)), (24, aT)] [] [I6 (↑(0 : Nat) : Int) = I6 0, decide ((↑(ByteArray.size s) : Int) > 0) = true, U8 (byteAt s (0 : Int)) = U8 (↑(254 : Nat) : Int), (0 : Int) ≤ (0 : Int), 0 < (↑(ByteArray.size s) : Int), I6 (IntKind.wrap .i64 ((1 : Int) + (4 : Int))) = I6 5, decide ((↑(ByteArray.size s) : Int) < 5) = true, PV.tup [PV.st 2 [PV.str s, I6 2], U6 0] = PV.tup [PV.st 2 [PV.str s, I6 (↑(2 : Nat) : Int)], U6 (↑(0 : Nat) : Int)]] (by kernel_rfl) (ac (cg (by omega)) (ac (decide_eq_true (by omega)) (ac (cg (hb0)) (ac (by omega) (ac (by omega) (ac (cg (w_i64 rfl (by omega) (by omega))) (ac (decide_eq_true (by omega)) (ao rfl))))))))
  · have hl : 1 + wdt (at0 r.s 0) ≤ r.s.length := by rw [w0]; omega
    have hcan := vb_vraw hr.bytes hl
    have hvl := vraw_lt hr.bytes
    have cv := pc_rVb hvl
    have hve : r.ve m = if vraw r.s < lst (at0 r.s 0) then 3 else if m < vraw r.s then 4 else 0 := by unfold Rd.ve; rw [if_pos h0, w0, if_neg hsh]
    have hmid : (strOf r.s).extract 1 5 = strOf ((r.s.drop 1).take 4) := strOf_mid r.s 4
    have htk : (strOf r.s).extract 0 5 = strOf (r.s.take (1 + 4)) := strOf_take r.s (1 + 4)
    have hdr : (strOf r.s).extract 5 (strOf r.s).size = strOf (r.s.drop (1 + 4)) := strOf_drop r.s (1 + 4)
    have hval : lv (bytesOf (strOf ((r.s.drop 1).take 4))) (strOf ((r.s.drop 1).take 4)).size = vraw r.s := by
      rw [bytesOf_strOf ((hr.bytes.drop 1).take 4), strOf_size, List.length_take, List.length_drop, Nat.min_eq_left (by omega)]
      unfold vraw
      rw [w0, if_neg (by omega), lv_take (Nat.le_refl _)]
    have cval := pc_value01 (s := strOf ((r.s.drop 1).take 4)) (nl := false) (by rw [strOf_size, List.length_take]; omega)
    rw [hval] at cval
    have hbl := bytesOf_length (strOf ((r.s.drop 1).take 4))
    have hms : (strOf ((r.s.drop 1).take 4)).size ≤ 8 := by rw [strOf_size, List.length_take]; omega
    rw [w0] at hcan
    rw [← hsz] at hsh
    rw [← hmid] at cval hbl hms
    have hbs := bytesOf_bytes ((strOf r.s).extract 1 5)
    by_cases hlt : vraw r.s < lst (at0 r.s 0)
    · rw [if_pos hlt] at hve
      obtain ⟨q1, q2⟩ := Rd.var_of hve (by omega)
      have hneS : ¬ strOf (vb (vraw r.s)) = strOf (r.s.take (1 + 4)) := fun h => (hcan.1 (strOf_inj (vb_bytes _) (hr.bytes.take _) h)) hlt
      rw [← htk] at hneS
      have hneS := ba_neT hneS
      rw [q1, q2]
      unfold inPV
      rw [h0]
      dsimp only
      clear q1 q2 hve hcan hlt hval htk hmid
      generalize strOf (vb (vraw r.s)) = sv at *
      generalize vraw r.s = v at *
      generalize at0 r.s 0 = x at *
      generalize strOf r.s = s at *
      subst hw
      refine W.ret [(4, aV (I6 0)), (10, aT), (13, aV (U8 (↑(254 : Nat) : Int))), (23, aV (I6 5)), (24, aF), (28, aV (I6 5)), (35, Ans.calla true [] [] [PV.vec false (B8 (ByteArray.size (ByteArray.extract s 1 5)) (bytesOf (ByteArray.extract s 1 5)))] [] (U6 (v:Int))), (38, aK (PV.str sv)), (42, aV (I6 5)), (44, aT)] [] [I6 (↑(0 : Nat) : Int) = I6 0, decide ((↑(ByteArray.size s) : Int) > 0) = true, U8 (byteAt s (0 : Int)) = U8 (↑(254 : Nat) : Int), (0 : Int) ≤ (0 : Int), 0 < (↑(ByteArray.size s) : Int), I6 (IntKind.wrap .i64 ((1 : Int) + (4 : Int))) = I6 5, decide ((↑(ByteArray.size s) : Int) < 5) = false, I6 (IntKind.wrap .i64 ((1 : Int) + (4 : Int))) = I6 5, (0 : Int) ≤ (1 : Int), (1 : Int) ≤ (5 : Int), 5 ≤ (↑(ByteArray.size s) : Int), 0 + ByteArray.size (ByteArray.extract s 1 5) ≤ ByteArray.size (ByteArray.extract s 1 5), rr ([] : List (Nat × Row)), ([PV.vec false (B8 (ByteArray.size (ByteArray.extract s 1 5)) (List.take (ByteArray.size (ByteArray.extract s 1 5)) (bytesOf (ByteArray.extract s 1 5))))] : List PV) = [PV.vec false (B8 (ByteArray.size (ByteArray.extract s 1 5)) (bytesOf (ByteArray.extract s 1 5)))], PC Tryd.prog G0 75 [] [PV.vec false (B8 (ByteArray.size (ByteArray.extract s 1 5)) (bytesOf (ByteArray.extract s 1 5)))] [] (U6 (v:Int)), PC Tryd.prog G0 76 [] [U6 (v:Int)] [] (PV.str sv), I6 (IntKind.wrap .i64 ((1 : Int) + (4 : Int))) = I6 5, (0 : Int) ≤ (0 : Int), (0 : Int) ≤ (5 : Int), 5 ≤ (↑(ByteArray.size s) : Int), (!ByteArray.toList sv == ByteArray.toList (ByteArray.extract s 0 5)) = true, PV.tup [PV.st 2 [PV.str s, I6 3], U6 0] = PV.tup [PV.st 2 [PV.str s, I6 (↑(3 : Nat) : Int)], U6 (↑(0 : Nat) : Int)]] (by kernel_rfl) (ac (cg (by omega)) (ac (decide_eq_true (by omega)) (ac (cg (hb0)) (ac (by omega) (ac (by omega) (ac (cg (w_i64 rfl (by omega) (by omega))) (ac (decide_eq_false (by omega)) (ac (cg (w_i64 rfl (by omega) (by omega))) (ac (by omega) (ac (by omega) (ac (by omega) (ac (by omega) (ac rfl (ac (by rw [List.take_of_length_le (show List.length (bytesOf (ByteArray.extract s 1 5)) ≤ ByteArray.size (ByteArray.extract s 1 5) by omega)]) (ac (cval) (ac (cv) (ac (cg (w_i64 rfl (by omega) (by omega))) (ac (by omega) (ac (by omega) (ac (by omega) (ac (by assumption) (ao rfl))))))))))))))))))))))
    · rw [if_neg hlt] at hve
      have heS : strOf (vb (vraw r.s)) = strOf (r.s.take (1 + 4)) := by rw [hcan.2 hlt]
      rw [← htk] at heS
      have heS := ba_neF heS
      by_cases hgt : m < vraw r.s
      · rw [if_pos hgt] at hve
        obtain ⟨q1, q2⟩ := Rd.var_of hve (by omega)
        rw [q1, q2]
        unfold inPV
        rw [h0]
        dsimp only
        clear q1 q2 hve hcan hlt hval htk hmid
        generalize strOf (vb (vraw r.s)) = sv at *
        generalize vraw r.s = v at *
        generalize at0 r.s 0 = x at *
        generalize strOf r.s = s at *
        subst hw
        refine W.ret [(4, aV (I6 0)), (10, aT), (13, aV (U8 (↑(254 : Nat) : Int))), (23, aV (I6 5)), (24, aF), (28, aV (I6 5)), (35, Ans.calla true [] [] [PV.vec false (B8 (ByteArray.size (ByteArray.extract s 1 5)) (bytesOf (ByteArray.extract s 1 5)))] [] (U6 (v:Int))), (38, aK (PV.str sv)), (42, aV (I6 5)), (44, aF), (47, aT)] [] [I6 (↑(0 : Nat) : Int) = I6 0, decide ((↑(ByteArray.size s) : Int) > 0) = true, U8 (byteAt s (0 : Int)) = U8 (↑(254 : Nat) : Int), (0 : Int) ≤ (0 : Int), 0 < (↑(ByteArray.size s) : Int), I6 (IntKind.wrap .i64 ((1 : Int) + (4 : Int))) = I6 5, decide ((↑(ByteArray.size s) : Int) < 5) = false, I6 (IntKind.wrap .i64 ((1 : Int) + (4 : Int))) = I6 5, (0 : Int) ≤ (1 : Int), (1 : Int) ≤ (5 : Int), 5 ≤ (↑(ByteArray.size s) : Int), 0 + ByteArray.size (ByteArray.extract s 1 5) ≤ ByteArray.size (ByteArray.extract s 1 5), rr ([] : List (Nat × Row)), ([PV.vec false (B8 (ByteArray.size (ByteArray.extract s 1 5)) (List.take (ByteArray.size (ByteArray.extract s 1 5)) (bytesOf (ByteArray.extract s 1 5))))] : List PV) = [PV.vec false (B8 (ByteArray.size (ByteArray.extract s 1 5)) (bytesOf (ByteArray.extract s 1 5)))], PC Tryd.prog G0 75 [] [PV.vec false (B8 (ByteArray.size (ByteArray.extract s 1 5)) (bytesOf (ByteArray.extract s 1 5)))] [] (U6 (v:Int)), PC Tryd.prog G0 76 [] [U6 (v:Int)] [] (PV.str sv), I6 (IntKind.wrap .i64 ((1 : Int) + (4 : Int))) = I6 5, (0 : Int) ≤ (0 : Int), (0 : Int) ≤ (5 : Int), 5 ≤ (↑(ByteArray.size s) : Int), (!ByteArray.toList sv == ByteArray.toList (ByteArray.extract s 0 5)) = false, decide ((v:Int) > (m:Int)) = true, PV.tup [PV.st 2 [PV.str s, I6 4], U6 0] = PV.tup [PV.st 2 [PV.str s, I6 (↑(4 : Nat) : Int)], U6 (↑(0 : Nat) : Int)]] (by kernel_rfl) (ac (cg (by omega)) (ac (decide_eq_true (by omega)) (ac (cg (hb0)) (ac (by omega) (ac (by omega) (ac (cg (w_i64 rfl (by omega) (by omega))) (ac (decide_eq_false (by omega)) (ac (cg (w_i64 rfl (by omega) (by omega))) (ac (by omega) (ac (by omega) (ac (by omega) (ac (by omega) (ac rfl (ac (by rw [List.take_of_length_le (show List.length (bytesOf (ByteArray.extract s 1 5)) ≤ ByteArray.size (ByteArray.extract s 1 5) by omega)]) (ac (cval) (ac (cv) (ac (cg (w_i64 rfl (by omega) (by omega))) (ac (by omega) (ac (by omega) (ac (by omega) (ac (by assumption) (ac (decide_eq_true (by omega)) (ao rfl)))))))))))))))))))))))
      · rw [if_neg hgt] at hve
        obtain ⟨q1, q2⟩ := Rd.var_ok hve
        rw [w0] at q1
        rw [q1, q2]
        unfold inPV
        rw [h0]
        dsimp only
        rw [← hdr]
        clear hdr
        clear q1 q2 hve hcan hlt hval htk hmid
        generalize strOf (vb (vraw r.s)) = sv at *
        generalize vraw r.s = v at *
        generalize at0 r.s 0 = x at *
        generalize strOf r.s = s at *
        subst hw
        refine W.ret [(4, aV (I6 0)), (10, aT), (13, aV (U8 (↑(254 : Nat) : Int))), (23, aV (I6 5)), (24, aF), (28, aV (I6 5)), (35, Ans.calla true [] [] [PV.vec false (B8 (ByteArray.size (ByteArray.extract s 1 5)) (bytesOf (ByteArray.extract s 1 5)))] [] (U6 (v:Int))), (38, aK (PV.str sv)), (42, aV (I6 5)), (44, aF), (47, aF), (51, aV (I6 5)), (52, aV (PV.str (ByteArray.extract s 5 (ByteArray.size s))))] [] [I6 (↑(0 : Nat) : Int) = I6 0, decide ((↑(ByteArray.size s) : Int) > 0) = true, U8 (byteAt s (0 : Int)) = U8 (↑(254 : Nat) : Int), (0 : Int) ≤ (0 : Int), 0 < (↑(ByteArray.size s) : Int), I6 (IntKind.wrap .i64 ((1 : Int) + (4 : Int))) = I6 5, decide ((↑(ByteArray.size s) : Int) < 5) = false, I6 (IntKind.wrap .i64 ((1 : Int) + (4 : Int))) = I6 5, (0 : Int) ≤ (1 : Int), (1 : Int) ≤ (5 : Int), 5 ≤ (↑(ByteArray.size s) : Int), 0 + ByteArray.size (ByteArray.extract s 1 5) ≤ ByteArray.size (ByteArray.extract s 1 5), rr ([] : List (Nat × Row)), ([PV.vec false (B8 (ByteArray.size (ByteArray.extract s 1 5)) (List.take (ByteArray.size (ByteArray.extract s 1 5)) (bytesOf (ByteArray.extract s 1 5))))] : List PV) = [PV.vec false (B8 (ByteArray.size (ByteArray.extract s 1 5)) (bytesOf (ByteArray.extract s 1 5)))], PC Tryd.prog G0 75 [] [PV.vec false (B8 (ByteArray.size (ByteArray.extract s 1 5)) (bytesOf (ByteArray.extract s 1 5)))] [] (U6 (v:Int)), PC Tryd.prog G0 76 [] [U6 (v:Int)] [] (PV.str sv), I6 (IntKind.wrap .i64 ((1 : Int) + (4 : Int))) = I6 5, (0 : Int) ≤ (0 : Int), (0 : Int) ≤ (5 : Int), 5 ≤ (↑(ByteArray.size s) : Int), (!ByteArray.toList sv == ByteArray.toList (ByteArray.extract s 0 5)) = false, decide ((v:Int) > (m:Int)) = false, I6 (IntKind.wrap .i64 ((1 : Int) + (4 : Int))) = I6 5, PV.str (ByteArray.extract s 5 (Int.toNat (↑(ByteArray.size s) : Int))) = PV.str (ByteArray.extract s 5 (ByteArray.size s)), (0 : Int) ≤ (5 : Int), 5 ≤ (↑(ByteArray.size s) : Int), (↑(ByteArray.size s) : Int) ≤ (↑(ByteArray.size s) : Int), PV.tup [PV.st 2 [PV.str (ByteArray.extract s 5 (ByteArray.size s)), I6 0], U6 (v:Int)] = PV.tup [PV.st 2 [PV.str (ByteArray.extract s 5 (ByteArray.size s)), I6 (↑(0 : Nat) : Int)], U6 (v:Int)]] (by kernel_rfl) (ac (cg (by omega)) (ac (decide_eq_true (by omega)) (ac (cg (hb0)) (ac (by omega) (ac (by omega) (ac (cg (w_i64 rfl (by omega) (by omega))) (ac (decide_eq_false (by omega)) (ac (cg (w_i64 rfl (by omega) (by omega))) (ac (by omega) (ac (by omega) (ac (by omega) (ac (by omega) (ac rfl (ac (by rw [List.take_of_length_le (show List.length (bytesOf (ByteArray.extract s 1 5)) ≤ ByteArray.size (ByteArray.extract s 1 5) by omega)]) (ac (cval) (ac (cv) (ac (cg (w_i64 rfl (by omega) (by omega))) (ac (by omega) (ac (by omega) (ac (by omega) (ac (by assumption) (ac (decide_eq_false (by omega)) (ac (cg (w_i64 rfl (by omega) (by omega))) (ac (by rw [show Int.toNat (↑(ByteArray.size s) : Int) = ByteArray.size s by omega]) (ac (by omega) (ac (by omega) (ac (by omega) (ao rfl))))))))))))))))))))))))))))
end Go.Proofs
namespace Go.Proofs
open Go Go.Pe Go.Pm
set_option maxRecDepth 100000
set_option linter.unusedVariables false
set_option maxHeartbeats 8000000 in
theorem pc_rCnt8 {N m : Nat} {bs : List Int} {r : Rd} (hr : r.In bs N) (hN : N ≤ 1000000) (hm : m < 18446744073709551616) (h0 : r.e = 0) (hs : 0 < r.s.length) (hw : at0 r.s 0 = 255) : PC Tryd.prog G0 52 [] [inPV r, .int .u64 m] [] (cntPV r m) := by
  refine PC.of (fn := Tryd.f52) (c := bodyOf Tryd.f52) Tryd.func52 (by kernel_rfl) (by kernel_rfl) (by kernel_rfl) (by kernel_rfl) ?_
  have hle := hr.le
  have hx := at0_lt hr.bytes 0
  have hb0 := byte0 hr.bytes hs
  have w0 : wdt (at0 r.s 0) = 8 := by rw [hw]; rfl
  have hsz : (strOf r.s).size = r.s.length := strOf_size _
  have hsb : (strOf r.s).size ≤ 1000000 := by omega
  unfold cntPV
  by_cases hsh : r.s.length < 1 + 8
  · have hve : r.ve m = 2 := by unfold Rd.ve; rw [if_pos h0, w0, if_pos hsh]
    obtain ⟨q1, q2⟩ := Rd.var_of hve (by omega)
    rw [q1, q2]
    unfold inPV
    rw [h0]
    rw [← hsz] at hsh
    dsimp only
    clear q1 q2 hve
    generalize at0 r.s 0 = x at *
    generalize strOf r.s = s at *
    subst hw
    refine W.ret [(4, aV (I6 0)), (10, aT), (13, aV (U8 (↑(255 : Nat) : Int))), (25, aV (I6 9)), (26, aT)] [] [I6 (↑(0 : Nat) : Int) = I6 0, decide ((↑(ByteArray.size s) : Int) > 0) = true, U8 (byteAt s (0 : Int)) = U8 (↑(255 : Nat) : Int), (0 : Int) ≤ (0 : Int), 0 < (↑(ByteArray.size s) : Int), I6 (IntKind.wrap .i64 ((1 : Int) + (8 : Int))) = I6 9, decide ((↑(ByteArray.size s) : Int) < 9) = true, PV.tup [PV.st 2 [PV.str s, I6 2], U6 0] = PV.tup [PV.st 2 [PV.str s, I6 (↑(2 : Nat) : Int)], U6 (↑(0 : Nat) : Int)]] (by kernel_rfl) (ac (cg (by omega)) (ac (decide_eq_true (by omega)) (ac (cg (hb0)) (ac (by omega) (ac (by omega) (ac (cg (w_i64 rfl (by omega) (by omega))) (ac (decide_eq_true (by omega)) (ao rfl))))))))
  · have hl : 1 + wdt (at0 r.s 0) ≤ r.s.length := by rw [w0]; omega
    have hcan := vb_vraw hr.bytes hl
    have hvl := vraw_lt hr.bytes
    have cv := pc_rVb hvl
    have hve : r.ve m = if vraw r.s < lst (at0 r.s 0) then 3 else if m < vraw r.s then 4 else 0 := by unfold Rd.ve; rw [if_pos h0, w0, if_neg hsh]
    have hmid : (strOf r.s).extract 1 9 = strOf ((r.s.drop 1).take 8) := strOf_mid r.s 8
    have htk : (strOf r.s).extract 0 9 = strOf (r.s.take (1 + 8)) := strOf_take r.s (1 + 8)
    have hdr : (strOf r.s).extract 9 (strOf r.s).size = strOf (r.s.drop (1 + 8)) := strOf_drop r.s (1 + 8)
    have hval : lv (bytesOf (strOf ((r.s.drop 1).take 8))) (strOf ((r.s.drop 1).take 8)).size = vraw r.s := by
      rw [bytesOf_strOf ((hr.bytes.drop 1).take 8), strOf_size, List.length_take, List.length_drop, Nat.min_eq_left (by omega)]
      unfold vraw
      rw [w0, if_neg (by omega), lv_take (Nat.le_refl _)]
    have cval := pc_value01 (s := strOf ((r.s.drop 1).take 8)) (nl := false) (by rw [strOf_size, List.length_take]; omega)
    rw [hval] at cval
    have hbl := bytesOf_length (strOf ((r.s.drop 1).take 8))
    have hms : (strOf ((r.s.drop 1).take 8)).size ≤ 8 := by rw [strOf_size, List.length_take]; omega
    rw [w0] at hcan
    rw [← hsz] at hsh
    rw [← hmid] at cval hbl hms
    have hbs := bytesOf_bytes ((strOf r.s).extract 1 9)
    by_cases hlt : vraw r.s < lst (at0 r.s 0)
    · rw [if_pos hlt] at hve
      obtain ⟨q1, q2⟩ := Rd.var_of hve (by omega)
      have hneS : ¬ strOf (vb (vraw r.s)) = strOf (r.s.take (1 + 8)) := fun h => (hcan.1 (strOf_inj (vb_bytes _) (hr.bytes.take _) h)) hlt
      rw [← htk] at hneS
      have hneS := ba_neT hneS
      rw [q1, q2]
      unfold inPV
      rw [h0]
      dsimp only
      clear q1 q2 hve hcan hlt hval htk hmid
      generalize strOf (vb (vraw r.s)) = sv at *
      generalize vraw r.s = v at *
      generalize at0 r.s 0 = x at *
      generalize strOf r.s = s at *
      subst hw
      refine W.ret [(4, aV (I6 0)), (10, aT), (13, aV (U8 (↑(255 : Nat) : Int))), (25, aV (I6 9)), (26, aF), (30, aV (I6 9)), (37, Ans.calla true [] [] [PV.vec false (B8 (ByteArray.size (ByteArray.extract s 1 9)) (bytesOf (ByteArray.extract s 1 9)))] [] (U6 (v:Int))), (40, aK (PV.str sv)), (44, aV (I6 9)), (46, aT)] [] [I6 (↑(0 : Nat) : Int) = I6 0, decide ((↑(ByteArray.size s) : Int) > 0) = true, U8 (byteAt s (0 : Int)) = U8 (↑(255 : Nat) : Int), (0 : Int) ≤ (0 : Int), 0 < (↑(ByteArray.size s) : Int), I6 (IntKind.wrap .i64 ((1 : Int) + (8 : Int))) = I6 9, decide ((↑(ByteArray.size s) : Int) < 9) = false, I6 (IntKind.wrap .i64 ((1 : Int) + (8 : Int))) = I6 9, (0 : Int) ≤ (1 : Int), (1 : Int) ≤ (9 : Int), 9 ≤ (↑(ByteArray.size s) : Int), 0 + ByteArray.size (ByteArray.extract s 1 9) ≤ ByteArray.size (ByteArray.extract s 1 9), rr ([] : List (Nat × Row)), ([PV.vec false (B8 (ByteArray.size (ByteArray.extract s 1 9)) (List.take (ByteArray.size (ByteArray.extract s 1 9)) (bytesOf (ByteArray.extract s 1 9))))] : List PV) = [PV.vec false (B8 (ByteArray.size (ByteArray.extract s 1 9)) (bytesOf (ByteArray.extract s 1 9)))], PC Tryd.prog G0 75 [] [PV.vec false (B8 (ByteArray.size (ByteArray.extract s 1 9)) (bytesOf (ByteArray.extract s 1 9)))] [] (U6 (v:Int)), PC Tryd.prog G0 76 [] [U6 (v:Int)] [] (PV.str sv), I6 (IntKind.wrap .i64 ((1 : Int) + (8 : Int))) = I6 9, (0 : Int) ≤ (0 : Int), (0 : Int) ≤ (9 : Int), 9 ≤ (↑(ByteArray.size s) : Int), (!ByteArray.toList sv == ByteArray.toList (ByteArray.extract s 0 9)) = true, PV.tup [PV.st 2 [PV.str s, I6 3], U6 0] = PV.tup [PV.st 2 [PV.str s, I6 (↑(3 : Nat) : Int)], U6 (↑(0 : Nat) : Int)]] (by kernel_rfl) (ac (cg (by omega)) (ac (decide_eq_true (by omega)) (ac (cg (hb0)) (ac (by omega) (ac (by omega) (ac (cg (w_i64 rfl (by omega) (by omega))) (ac (decide_eq_false (by omega)) (ac (cg (w_i64 rfl (by omega) (by omega))) (ac (by omega) (ac (by omega) (ac (by omega) (ac (by omega) (ac rfl (ac (by rw [List.take_of_length_le (show List.length (bytesOf (ByteArray.extract s 1 9)) ≤ ByteArray.size (ByteArray.extract s 1 9) by omega)]) (ac (cval) (ac (cv) (ac (cg (w_i64 rfl (by omega) (by omega))) (ac (by omega) (ac (by omega) (ac (by omega) (ac (by assumption) (ao rfl))))))))))))))))))))))
    · rw [if_neg hlt] at hve
      have heS : strOf (vb (vraw r.s)) = strOf (r.s.take (1 + 8)) := by rw [hcan.2 hlt]
      rw [← htk] at heS
      have heS := ba_neF heS
      by_cases hgt : m < vraw r.s
      · rw [if_pos hgt] at hve
        obtain ⟨q1, q2⟩ := Rd.var_of hve (by omega)
        rw [q1, q2]
        unfold inPV
        rw [h0]
        dsimp only
        clear q1 q2 hve hcan hlt hval htk hmid
        generalize strOf (vb (vraw r.s)) = sv at *
        generalize vraw r.s = v at *
        generalize at0 r.s 0 = x at *
        generalize strOf r.s = s at *
        subst hw
        refine W.ret [(4, aV (I6 0)), (10, aT), (13, aV (U8 (↑(255 : Nat) : Int))), (25, aV (I6 9)), (26, aF), (30, aV (I6 9)), (37, Ans.calla true [] [] [PV.vec false (B8 (ByteArray.size (ByteArray.extract s 1 9)) (bytesOf (ByteArray.extract s 1 9)))] [] (U6 (v:Int))), (40, aK (PV.str sv)), (44, aV (I6 9)), (46, aF), (49, aT)] [] [I6 (↑(0 : Nat) : Int) = I6 0, decide ((↑(ByteArray.size s) : Int) > 0) = true, U8 (byteAt s (0 : Int)) = U8 (↑(255 : Nat) : Int), (0 : Int) ≤ (0 : Int), 0 < (↑(ByteArray.size s) : Int), I6 (IntKind.wrap .i64 ((1 : Int) + (8 : Int))) = I6 9, decide ((↑(ByteArray.size s) : Int) < 9) = false, I6 (IntKind.wrap .i64 ((1 : Int) + (8 : Int))) = I6 9, (0 : Int) ≤ (1 : Int), (1 : Int) ≤ (9 : Int), 9 ≤ (↑(ByteArray.size s) : Int), 0 + ByteArray.size (ByteArray.extract s 1 9) ≤ ByteArray.size (ByteArray.extract s 1 9), rr ([] : List (Nat × Row)), ([PV.vec false (B8 (ByteArray.size (ByteArray.extract s 1 9)) (List.take (ByteArray.size (ByteArray.extract s 1 9)) (bytesOf (ByteArray.extract s 1 9))))] : List PV) = [PV.vec false (B8 (ByteArray.size (ByteArray.extract s 1 9)) (bytesOf (ByteArray.extract s 1 9)))], PC Tryd.prog G0 75 [] [PV.vec false (B8 (ByteArray.size (ByteArray.extract s 1 9)) (bytesOf (ByteArray.extract s 1 9)))] [] (U6 (v:Int)), PC Tryd.prog G0 76 [] [U6 (v:Int)] [] (PV.str sv), I6 (IntKind.wrap .i64 ((1 : Int) + (8 : Int))) = I6 9, (0 : Int) ≤ (0 : Int), (0 : Int) ≤ (9 : Int), 9 ≤ (↑(ByteArray.size s) : Int), (!ByteArray.toList sv == ByteArray.toList (ByteArray.extract s 0 9)) = false, decide ((v:Int) > (m:Int)) = true, PV.tup [PV.st 2 [PV.str s, I6 4], U6 0] = PV.tup [PV.st 2 [PV.str s, I6 (↑(4 : Nat) : Int)], U6 (↑(0 : Nat) : Int)]] (by kernel_rfl) (ac (cg (by omega)) (ac (decide_eq_true (by omega)) (ac (cg (hb0)) (ac (by omega) (ac (by omega) (ac (cg (w_i64 rfl (by omega) (by omega))) (ac (decide_eq_false (by omega)) (ac (cg (w_i64 rfl (by omega) (by omega))) (ac (by omega) (ac (by omega) (ac (by omega) (ac (by omega) (ac rfl (ac (by rw [List.take_of_length_le (show List.length (bytesOf (ByteArray.extract s 1 9)) ≤ ByteArray.size (ByteArray.extract s 1 9) by omega)]) (ac (cval) (ac (cv) (ac (cg (w_i64 rfl (by omega) (by omega))) (ac (by omega) (ac (by omega) (ac (by omega) (ac (by assumption) (ac (decide_eq_true (by omega)) (ao rfl)))))))))))))))))))))))
      · rw [if_neg hgt] at hve
        obtain ⟨q1, q2⟩ := Rd.var_ok hve
        rw [w0] at q1
        rw [q1, q2]
        unfold inPV
        rw [h0]
        dsimp only
        rw [← hdr]
        clear hdr
        clear q1 q2 hve hcan hlt hval htk hmid
        generalize strOf (vb (vraw r.s)) = sv at *
        generalize vraw r.s = v at *
        generalize at0 r.s 0 = x at *
        generalize strOf r.s = s at *
        subst hw
        refine W.ret [(4, aV (I6 0)), (10, aT), (13, aV (U8 (↑(255 : Nat) : Int))), (25, aV (I6 9)), (26, aF), (30, aV (I6 9)), (37, Ans.calla true [] [] [PV.vec false (B8 (ByteArray.size (ByteArray.extract s 1 9)) (bytesOf (ByteArray.extract s 1 9)))] [] (U6 (v:Int))), (40, aK (PV.str sv)), (44, aV (I6 9)), (46, aF), (49, aF), (53, aV (I6 9)), (54, aV (PV.str (ByteArray.extract s 9 (ByteArray.size s))))] [] [I6 (↑(0 : Nat) : Int) = I6 0, decide ((↑(ByteArray.size s) : Int) > 0) = true, U8 (byteAt s (0 : Int)) = U8 (↑(255 : Nat) : Int), (0 : Int) ≤ (0 : Int), 0 < (↑(ByteArray.size s) : Int), I6 (IntKind.wrap .i64 ((1 : Int) + (8 : Int))) = I6 9, decide ((↑(ByteArray.size s) : Int) < 9) = false, I6 (IntKind.wrap .i64 ((1 : Int) + (8 : Int))) = I6 9, (0 : Int) ≤ (1 : Int), (1 : Int) ≤ (9 : Int), 9 ≤ (↑(ByteArray.size s) : Int), 0 + ByteArray.size (ByteArray.extract s 1 9) ≤ ByteArray.size (ByteArray.extract s 1 9), rr ([] : List (Nat × Row)), ([PV.vec false (B8 (ByteArray.size (ByteArray.extract s 1 9)) (List.take (ByteArray.size (ByteArray.extract s 1 9)) (bytesOf (ByteArray.extract s 1 9))))] : List PV) = [PV.vec false (B8 (ByteArray.size (ByteArray.extract s 1 9)) (bytesOf (ByteArray.extract s 1 9)))], PC Tryd.prog G0 75 [] [PV.vec false (B8 (ByteArray.size (ByteArray.extract s 1 9)) (bytesOf (ByteArray.extract s 1 9)))] [] (U6 (v:Int)), PC Tryd.prog G0 76 [] [U6 (v:Int)] [] (PV.str sv), I6 (IntKind.wrap .i64 ((1 : Int) + (8 : Int))) = I6 9, (0 : Int) ≤ (0 : Int), (0 : Int) ≤ (9 : Int), 9 ≤ (↑(ByteArray.size s) : Int), (!ByteArray.toList sv == ByteArray.toList (ByteArray.extract s 0 9)) = false, decide ((v:Int) > (m:Int)) = false, I6 (IntKind.wrap .i64 ((1 : Int) + (8 : Int))) = I6 9, PV.str (ByteArray.extract s 9 (Int.toNat (↑(ByteArray.size s) : Int))) = PV.str (ByteArray.extract s 9 (ByteArray.size s)), (0 : Int) ≤ (9 : Int), 9 ≤ (↑(ByteArray.size s) : Int), (↑(ByteArray.size s) : Int) ≤ (↑(ByteArray.size s) : Int), PV.tup [PV.st 2 [PV.str (ByteArray.extract s 9 (ByteArray.size s)), I6 0], U6 (v:Int)] = PV.tup [PV.st 2 [PV.str (ByteArray.extract s 9 (ByteArray.size s)), I6 (↑(0 : Nat) : Int)], U6 (v:Int)]] (by kernel_rfl) (ac (cg (by omega)) (ac (decide_eq_true (by omega)) (ac (cg (hb0)) (ac (by omega) (ac (by omega) (ac (cg (w_i64 rfl (by omega) (by omega))) (ac (decide_eq_false (by omega)) (ac (cg (w_i64 rfl (by omega) (by omega))) (ac (by omega) (ac (by omega) (ac (by omega) (ac (by omega) (ac rfl (ac (by rw [List.take_of_length_le (show List.length (bytesOf (ByteArray.extract s 1 9)) ≤ ByteArray.size (ByteArray.extract s 1 9) by omega)]) (ac (cval) (ac (cv) (ac (cg (w_i64 rfl (by omega) (by omega))) (ac (by omega) (ac (by omega) (ac (by omega) (ac (by assumption) (ac (decide_eq_false (by omega)) (ac (cg (w_i64 rfl (by omega) (by omega))) (ac (by rw [show Int.toNat (↑(ByteArray.size s) : Int) = ByteArray.size s by omega]) (ac (by omega) (ac (by omega) (ac (by omega) (ao rfl))))))))))))))))))))))))))))
end Go.Proofs
namespace Go.Proofs
open Go Go.Pe Go.Pm
set_option maxRecDepth 100000
set_option linter.unusedVariables false
theorem pc_rCnt {N m : Nat} {bs : List Int} {r : Rd} (hr : r.In bs N) (hN : N ≤ 1000000) (he : r.e ≤ 100) (hm : m < 18446744073709551616) : PC Tryd.prog G0 52 [] [inPV r, .int .u64 m] [] (cntPV r m) := by
  by_cases h0 : r.e = 0
  · by_cases hs : r.s.length = 0
    · exact pc_rCntS hr hN hm h0 hs
    · by_cases h2 : at0 r.s 0 = 253
      · exact pc_rCnt2 hr hN hm h0 (by omega) h2
      · by_cases h4 : at0 r.s 0 = 254
        · exact pc_rCnt4 hr hN hm h0 (by omega) h4
        · by_cases h8 : at0 r.s 0 = 255
          · exact pc_rCnt8 hr hN hm h0 (by omega) h8
          · exact pc_rCnt0 hr hN hm h0 (by omega) ⟨h2, h4, h8⟩
  · exact pc_rCntE hr hN he hm h0
theorem pc_rWords {N m : Nat} {bs : List Int} {r : Rd} (hr : r.In bs N) (hN : N ≤ 1000000) (he : r.e ≤ 100) (hm : m ≤ 1000000) : PC Tryd.prog G0 53 [] [inPV r, .int .i64 m] [] (.tup [inPV (r.wd m), .str (strOf (r.wv m))]) := by
  refine PC.of (fn := Tryd.f53) (c := bodyOf Tryd.f53) Tryd.func53 (by kernel_rfl) (by kernel_rfl) (by kernel_rfl) (by kernel_rfl) ?_
  have c1 := pc_rCnt (m := m) hr hN he (by omega)
  have hv := hr.var m
  have hvn := Rd.vn_le r m
  have hve : (r.var m).e = r.ve m := by
    unfold Rd.var
    split
    · rename_i h; exact h.symm
    · rfl
  have hveb := Rd.ve_e (m := m) he
  have c2 := pc_rTake (w := r.vn m) hv hN (by omega) (by omega)
  have hwe : ((r.var m).tk (r.vn m)).e = r.we m := by
    unfold Rd.tk Rd.we
    rw [hve]
    split
    · split <;> rfl
    · rw [hve]
  have hnil : strOf [] = ByteArray.empty := rfl
  unfold cntPV inPV at *
  by_cases h0 : r.we m = 0
  · have hv0 : r.ve m = 0 := by
      unfold Rd.we at h0
      split at h0
      · assumption
      · exact h0
    have hle : r.vn m ≤ (r.var m).s.length := by
      unfold Rd.we at h0
      rw [if_pos hv0] at h0
      split at h0
      · assumption
      · cases h0
    have e1 : r.wd m = ⟨(r.var m).s.drop (r.vn m), 0⟩ := by unfold Rd.wd; rw [if_pos h0]
    have e2 : r.wv m = (r.var m).s.take (r.vn m) := by unfold Rd.wv; rw [if_pos h0]
    have e3 : (r.var m).tk (r.vn m) = ⟨(r.var m).s.drop (r.vn m), 0⟩ := by unfold Rd.tk; rw [hve, if_pos hv0, if_pos hle]
    have e4 : (r.var m).tv (r.vn m) = (r.var m).s.take (r.vn m) := by unfold Rd.tv; rw [if_pos ⟨by rw [hve, hv0], hle⟩]
    rw [e3, e4] at c2
    rw [e1, e2]
    dsimp only at *
    clear hwe e1 e2 e3 e4
    generalize strOf ((r.var m).s.drop (r.vn m)) = s3 at *
    generalize strOf ((r.var m).s.take (r.vn m)) = s4 at *
    generalize strOf (r.var m).s = s2 at *
    generalize (r.var m).e = e2 at *
    generalize r.vn m = v at *
    generalize strOf r.s = s at *
    generalize r.e = e at *
    refine W.ret [(7, aV (U6 (m:Int))), (8, aK (PV.tup [PV.st 2 [PV.str s2, I6 (e2:Int)], U6 (v:Int)])), (17, aV (I6 (v:Int))), (18, aK (PV.tup [PV.st 2 [PV.str s3, I6 (↑(0 : Nat) : Int)], PV.str s4])), (26, aV (I6 0))] [] [U6 (IntKind.wrap .u64 (m:Int)) = U6 (m:Int), PC Tryd.prog G0 52 [] [PV.st 2 [PV.str s, I6 (e:Int)], U6 (m:Int)] [] (PV.tup [PV.st 2 [PV.str s2, I6 (e2:Int)], U6 (v:Int)]), I6 (IntKind.wrap .i64 (v:Int)) = I6 (v:Int), PC Tryd.prog G0 73 [] [PV.st 2 [PV.str s2, I6 (e2:Int)], I6 (v:Int)] [] (PV.tup [PV.st 2 [PV.str s3, I6 (↑(0 : Nat) : Int)], PV.str s4]), I6 (↑(0 : Nat) : Int) = I6 0, rr (PV.tup [PV.st 2 [PV.str s3, I6 (↑(0 : Nat) : Int)], PV.str s4])] (by kernel_rfl) (ac (cg (w_u64 rfl (by omega) (by omega))) (ac (c1) (ac (cg (w_i64 rfl (by omega) (by omega))) (ac (c2) (ac (cg (by omega)) (ao rfl))))))
  · have e1 : r.wd m = ⟨r.s, r.we m⟩ := by unfold Rd.wd; rw [if_neg h0]
    have e2 : r.wv m = [] := by unfold Rd.wv; rw [if_neg h0]
    rw [e1, e2, hnil]
    rw [hwe] at c2
    have hne : ¬ ((r.we m : Int) = 0) := by omega
    dsimp only at *
    clear hwe e1 e2
    generalize strOf ((r.var m).tk (r.vn m)).s = s3 at *
    generalize strOf ((r.var m).tv (r.vn m)) = s4 at *
    generalize strOf (r.var m).s = s2 at *
    generalize r.we m = w at *
    generalize (r.var m).e = e2 at *
    generalize r.vn m = v at *
    generalize strOf r.s = s at *
    generalize r.e = e at *
    refine W.ret [(7, aV (U6 (m:Int))), (8, aK (PV.tup [PV.st 2 [PV.str s2, I6 (e2:Int)], U6 (v:Int)])), (17, aV (I6 (v:Int))), (18, aK (PV.tup [PV.st 2 [PV.str s3, I6 (w:Int)], PV.str s4])), (27, aT)] [] [U6 (IntKind.wrap .u64 (m:Int)) = U6 (m:Int), PC Tryd.prog G0 52 [] [PV.st 2 [PV.str s, I6 (e:Int)], U6 (m:Int)] [] (PV.tup [PV.st 2 [PV.str s2, I6 (e2:Int)], U6 (v:Int)]), I6 (IntKind.wrap .i64 (v:Int)) = I6 (v:Int), PC Tryd.prog G0 73 [] [PV.st 2 [PV.str s2, I6 (e2:Int)], I6 (v:Int)] [] (PV.tup [PV.st 2 [PV.str s3, I6 (w:Int)], PV.str s4]), ((w:Int) != 0) = true, PV.tup [PV.st 2 [PV.str s, I6 (w:Int)], PV.str (ByteArray.mk #[])] = PV.tup [PV.st 2 [PV.str s, I6 (w:Int)], PV.str ByteArray.empty]] (by kernel_rfl) (ac (cg (w_u64 rfl (by omega) (by omega))) (ac (c1) (ac (cg (w_i64 rfl (by omega) (by omega))) (ac (c2) (ac (bne_iff_ne.2 (by omega)) (ao rfl))))))
end Go.Proofs
namespace Go.Proofs
open Go Go.Pe Go.Pm
set_option maxRecDepth 100000
set_option linter.unusedVariables false
def routPV (o : OutM) : PV := .st 2 [.int .u64 ((o.v : Nat) : Int), .str (strOf o.b)]
def rosh : Sh := .st 2 [.int .u64, .str]
def rzOuts : PV := .vec true (.parr 2 0 rosh [])
def rzTx : PV := .st 2 [.int .u64 0, rzOuts]
def routsPV (L : List OutM) : PV := if L = [] then rzOuts else .vec false (.parr 2 L.length rosh (L.map routPV))
def rtxRes (salt : Nat) (L : List OutM) (e : Nat) : PV := .tup [if e = 0 then .st 2 [.int .u64 salt, routsPV L] else rzTx, .int .i64 e]
def dsTr (salt n i : Nat) (s : ByteArray) (e : Nat) (M : List PV) : DS := ⟨[(2, .at 1 []), (4, .at 2 []), (6, .at 3 []), (7, .int .u64 n), (8, .int .u64 i)],
  [(1, ⟨rzTx, false⟩), (2, ⟨.st 2 [.str s, .int .i64 e], false⟩), (3, ⟨.st 2 [.int .u64 salt, .ref 4 [] 2 0 i], false⟩), (4, ⟨.parr 2 i rosh M, false⟩)]⟩
def dsTr0 (salt n : Nat) (s : ByteArray) (e : Nat) : DS := ⟨[(2, .at 1 []), (4, .at 2 []), (6, .at 3 []), (7, .int .u64 n), (8, .int .u64 0)],
  [(1, ⟨rzTx, false⟩), (2, ⟨.st 2 [.str s, .int .i64 e], false⟩), (3, ⟨.st 2 [.int .u64 salt, rzOuts], false⟩)]⟩
theorem W_rtx {N : Nat} {b : List Int} {salt n : Nat} (hN : N ≤ 1000000) (hn : n ≤ 8) : ∀ (k i : Nat) (r : Rd) (L : List OutM), L.length = i → 0 < i → i + k = n → r.In b N → r.e ≤ 100 →
    W Tryd.prog G0 Tryd.f28 [] [] (rtxRes salt (L ++ outsM k r) (endE (outsR k r))) (loopAt Tryd.f28 0) (dsTr salt n i (strOf r.s) r.e (L.map routPV))
  | 0, i, r, L, hL, hi, hk, hr, he => by
    have hle := hr.le
    have hMl : (L.map routPV).length = i := by rw [List.length_map, hL]
    have hLne : L ≠ [] := by intro e; rw [e] at hL; simp at hL; omega
    have hin : i = n := by omega
    have hsz : (strOf r.s).size = r.s.length := strOf_size _
    show W _ _ _ _ _ (rtxRes salt (L ++ []) (endE r)) _ _
    rw [List.append_nil]
    unfold rtxRes routsPV
    rw [if_neg hLne, hL]
    have hT : (L.map routPV).take i = L.map routPV := List.take_of_length_le (by omega)
    subst hin
    unfold endE
    by_cases h0 : r.e = 0
    · rw [if_pos h0, h0]
      by_cases hs : r.s = []
      · rw [if_pos hs, if_pos rfl]
        have hz : (strOf r.s).size = 0 := by rw [hsz, hs]; rfl
        generalize L.map routPV = M at *
        generalize strOf r.s = s at *
        unfold dsTr rzTx rzOuts at *
        refine W.ret [(2, aF), (4, aV (I6 0)), (9, aF)] [] [decide ((i:Int) < (i:Int)) = false, I6 (↑(0 : Nat) : Int) = I6 0, decide ((↑(ByteArray.size s) : Int) > 0) = false, 0 + i ≤ i, PV.tup [PV.st 2 [U6 (salt:Int), PV.vec false (PV.parr 2 i (Sh.st 2 [Sh.int IntKind.u64, Sh.str]) (List.take i M))], I6 0] = PV.tup [PV.st 2 [U6 (salt:Int), PV.vec false (PV.parr 2 i (Sh.st 2 [Sh.int IntKind.u64, Sh.str]) M)], I6 (↑(0 : Nat) : Int)]] (by kernel_rfl) (ac (decide_eq_false (by omega)) (ac (cg (by omega)) (ac (decide_eq_false (by omega)) (ac (by omega) (ao (by (simp; omega)))))))
      · rw [if_neg hs, if_neg (by omega)]
        have hz : 0 < (strOf r.s).size := by rw [hsz]; exact List.length_pos_iff.2 hs
        have hzb : (strOf r.s).size ≤ 1000000 := by omega
        generalize L.map routPV = M at *
        generalize strOf r.s = s at *
        unfold dsTr rzTx rzOuts at *
        refine W.ret [(2, aF), (4, aV (I6 0)), (9, aT)] [] [decide ((i:Int) < (i:Int)) = false, I6 (↑(0 : Nat) : Int) = I6 0, decide ((↑(ByteArray.size s) : Int) > 0) = true, PV.tup [PV.st 2 [U6 0, PV.vec true (PV.parr 2 0 (Sh.st 2 [Sh.int IntKind.u64, Sh.str]) [])], I6 3] = PV.tup [PV.st 2 [U6 0, PV.vec true (PV.parr 2 0 (Sh.st 2 [Sh.int IntKind.u64, Sh.str]) [])], I6 (↑(3 : Nat) : Int)]] (by kernel_rfl) (ac (decide_eq_false (by omega)) (ac (cg (by omega)) (ac (decide_eq_true (by omega)) (ao rfl))))
    · rw [if_neg h0, if_neg h0]
      have hne : ¬ ((r.e : Int) = 0) := by omega
      generalize L.map routPV = M at *
      generalize strOf r.s = s at *
      generalize r.e = e at *
      unfold dsTr rzTx rzOuts at *
      refine W.ret [(2, aF), (5, aT)] [] [decide ((i:Int) < (i:Int)) = false, ((e:Int) != 0) = true, rr (PV.tup [PV.st 2 [U6 0, PV.vec true (PV.parr 2 0 (Sh.st 2 [Sh.int IntKind.u64, Sh.str]) [])], I6 (e:Int)])] (by kernel_rfl) (ac (decide_eq_false (by omega)) (ac (bne_iff_ne.2 (by omega)) (ao rfl)))
  | k + 1, i, r, L, hL, hi, hk, hr, he => by
    have he1 := Rd.tk_e (n := 8) he
    have hr1 := hr.tk 8
    have hr2 : (outR r).In b N := hr1.wd 64
    have c1 := pc_rNumber (w := 8) hr hN he (by omega)
    have c2 := pc_rWords (m := 64) hr1 hN he1 (by omega)
    have hw := W_rtx (salt := salt) hN hn k (i + 1) (outR r) (L ++ [outM r]) (by rw [List.length_append, hL]; rfl) (by omega) (by omega) hr2 (Rd.wd_e he1)
    rw [List.append_assoc, List.map_append] at hw
    have hq1 : [outM r].map routPV = [.st 2 [.int .u64 ((r.nv 8 : Nat) : Int), .str (strOf ((r.tk 8).wv 64))]] := rfl
    rw [hq1] at hw
    clear hq1
    show W _ _ _ _ _ (rtxRes salt (L ++ ([outM r] ++ outsM k (outR r))) (endE (outsR k (outR r)))) _ _
    have hMl : (L.map routPV).length = i := by rw [List.length_map, hL]
    unfold outR at *
    unfold inPV at *
    generalize rtxRes salt (L ++ ([outM r] ++ outsM k ((r.tk 8).wd 64))) (endE (outsR k ((r.tk 8).wd 64))) = res at *
    generalize L.map routPV = M at *
    generalize ((r.tk 8).wd 64).e = ee2 at *
    generalize (r.tk 8).e = ee1 at *
    generalize strOf ((r.tk 8).wd 64).s = s2 at *
    generalize strOf ((r.tk 8).wv 64) = tx at *
    generalize strOf (r.tk 8).s = s1 at *
    generalize r.nv 8 = v at *
    generalize strOf r.s = s at *
    generalize r.e = e at *
    unfold dsTr rzTx rzOuts at *
    refine W.seg [(2, aT), (7, aK (PV.tup [PV.st 2 [PV.str s1, I6 (ee1:Int)], U6 (v:Int)])), (15, aK (PV.tup [PV.st 2 [PV.str s2, I6 (ee2:Int)], PV.str tx])), (26, Ans.ups [(4, none), (480, some (Row.mk (PV.parr 2 (i + 1) (Sh.st 2 [Sh.int IntKind.u64, Sh.str]) (M ++ [PV.st 2 [U6 (v:Int), PV.str tx]])) false))]), (30, aV (U6 (↑(i + 1) : Int)))] [(1, 1), (2, 2), (3, 3), (480, 4)] (DS.mk [(2, PV.at 1 []), (4, PV.at 2 []), (6, PV.at 3 []), (7, U6 (n:Int)), (8, U6 (↑(i + 1) : Int))] [(1, Row.mk (PV.st 2 [U6 0, PV.vec true (PV.parr 2 0 rosh [])]) false), (2, Row.mk (PV.st 2 [PV.str s2, I6 (ee2:Int)]) false), (3, Row.mk (PV.st 2 [U6 (salt:Int), PV.ref 4 [] 2 0 (i + 1)]) false), (4, Row.mk (PV.parr 2 (i + 1) rosh (M ++ [PV.st 2 [U6 (v:Int), PV.str tx]])) false)]) (todo' := loopAt Tryd.f28 0) [decide ((i:Int) < (n:Int)) = true, PC Tryd.prog G0 51 [] [PV.st 2 [PV.str s, I6 (e:Int)], I6 8] [] (PV.tup [PV.st 2 [PV.str s1, I6 (ee1:Int)], U6 (v:Int)]), PC Tryd.prog G0 53 [] [PV.st 2 [PV.str s1, I6 (ee1:Int)], I6 64] [] (PV.tup [PV.st 2 [PV.str s2, I6 (ee2:Int)], PV.str tx]), ([(4, none), (480, some (Row.mk (PV.parr 2 (i + 1) (Sh.st 2 [Sh.int IntKind.u64, Sh.str]) (List.take i M ++ [PV.st 2 [U6 (v:Int), PV.str tx]])) false))] : List (Nat × Option Row)) = [(4, none), (480, some (Row.mk (PV.parr 2 (i + 1) (Sh.st 2 [Sh.int IntKind.u64, Sh.str]) (M ++ [PV.st 2 [U6 (v:Int), PV.str tx]])) false))], 1 ≤ 1, 0 + i = i, (i + 1) * 24 ≤ 140737488355328, i + 1 ≤ 9223372036854775807, U6 (IntKind.wrap .u64 ((i:Int) + 1)) = U6 (↑(i + 1) : Int), rr (PV.at 1 []), rr (PV.at 2 []), rr (PV.at 3 []), rr (U6 (n:Int)), rr (U6 (↑(i + 1) : Int)), rr (PV.st 2 [U6 0, PV.vec true (PV.parr 2 0 (Sh.st 2 [Sh.int IntKind.u64, Sh.str]) [])]), rr (PV.st 2 [PV.str s2, I6 (ee2:Int)]), rr (PV.st 2 [U6 (salt:Int), PV.ref 4 [] 2 0 (i + 1)]), rr (PV.parr 2 (i + 1) (Sh.st 2 [Sh.int IntKind.u64, Sh.str]) (M ++ [PV.st 2 [U6 (v:Int), PV.str tx]]))] (by kernel_rfl) (ac (decide_eq_true (by omega)) (ac (c1) (ac (c2) (ac (by rw [List.take_of_length_le (show List.length M ≤ i by omega)]) (ac (by omega) (ac (by omega) (ac (by omega) (ac (by omega) (ac (cg (w_u64 rfl (by omega) (by omega))) (ac rfl (ac rfl (ac rfl (ac rfl (ac rfl (ac rfl (ac rfl (ac rfl (ao rfl)))))))))))))))))) ?_
    exact hw
theorem W_rtx0 {N : Nat} {b : List Int} {salt n : Nat} (hN : N ≤ 1000000) (hn : n ≤ 8) (r : Rd) (hr : r.In b N) (he : r.e ≤ 100) :
    W Tryd.prog G0 Tryd.f28 [] [] (rtxRes salt (outsM n r) (endE (outsR n r))) (loopAt Tryd.f28 0) (dsTr0 salt n (strOf r.s) r.e) := by
  have hle := hr.le
  have hsz : (strOf r.s).size = r.s.length := strOf_size _
  cases n with
  | zero =>
    show W _ _ _ _ _ (rtxRes salt [] (endE r)) _ _
    unfold rtxRes routsPV
    rw [if_pos rfl]
    unfold endE
    by_cases h0 : r.e = 0
    · rw [if_pos h0, h0]
      by_cases hs : r.s = []
      · rw [if_pos hs, if_pos rfl]
        have hz : (strOf r.s).size = 0 := by rw [hsz, hs]; rfl
        generalize strOf r.s = s at *
        unfold dsTr0 rzTx rzOuts at *
        refine W.ret [(1, aV (U6 0)), (4, aV (I6 0)), (9, aF)] [] [U6 (↑(0 : Nat) : Int) = U6 0, I6 (↑(0 : Nat) : Int) = I6 0, decide ((↑(ByteArray.size s) : Int) > 0) = false, PV.tup [PV.st 2 [U6 (salt:Int), PV.vec true (PV.parr 2 0 (Sh.st 2 [Sh.int IntKind.u64, Sh.str]) [])], I6 0] = PV.tup [PV.st 2 [U6 (salt:Int), PV.vec true (PV.parr 2 0 (Sh.st 2 [Sh.int IntKind.u64, Sh.str]) [])], I6 (↑(0 : Nat) : Int)]] (by kernel_rfl) (ac (cg (by omega)) (ac (cg (by omega)) (ac (decide_eq_false (by omega)) (ao rfl))))
      · rw [if_neg hs, if_neg (by omega)]
        have hz : 0 < (strOf r.s).size := by rw [hsz]; exact List.length_pos_iff.2 hs
        have hzb : (strOf r.s).size ≤ 1000000 := by omega
        generalize strOf r.s = s at *
        unfold dsTr0 rzTx rzOuts at *
        refine W.ret [(1, aV (U6 0)), (4, aV (I6 0)), (9, aT)] [] [U6 (↑(0 : Nat) : Int) = U6 0, I6 (↑(0 : Nat) : Int) = I6 0, decide ((↑(ByteArray.size s) : Int) > 0) = true, PV.tup [PV.st 2 [U6 0, PV.vec true (PV.parr 2 0 (Sh.st 2 [Sh.int IntKind.u64, Sh.str]) [])], I6 3] = PV.tup [PV.st 2 [U6 0, PV.vec true (PV.parr 2 0 (Sh.st 2 [Sh.int IntKind.u64, Sh.str]) [])], I6 (↑(3 : Nat) : Int)]] (by kernel_rfl) (ac (cg (by omega)) (ac (cg (by omega)) (ac (decide_eq_true (by omega)) (ao rfl))))
    · rw [if_neg h0, if_neg h0]
      have hne : ¬ ((r.e : Int) = 0) := by omega
      generalize strOf r.s = s at *
      generalize r.e = e at *
      unfold dsTr0 rzTx rzOuts at *
      refine W.ret [(1, aV (U6 0)), (5, aT)] [] [U6 (↑(0 : Nat) : Int) = U6 0, ((e:Int) != 0) = true, rr (PV.tup [PV.st 2 [U6 0, PV.vec true (PV.parr 2 0 (Sh.st 2 [Sh.int IntKind.u64, Sh.str]) [])], I6 (e:Int)])] (by kernel_rfl) (ac (cg (by omega)) (ac (bne_iff_ne.2 (by omega)) (ao rfl)))
  | succ k =>
    have he1 := Rd.tk_e (n := 8) he
    have hr1 := hr.tk 8
    have hr2 : (outR r).In b N := hr1.wd 64
    have c1 := pc_rNumber (w := 8) hr hN he (by omega)
    have c2 := pc_rWords (m := 64) hr1 hN he1 (by omega)
    have hw := W_rtx (salt := salt) hN hn k 1 (outR r) [outM r] rfl (by omega) (by omega) hr2 (Rd.wd_e he1)
    have hq1 : [outM r].map routPV = [.st 2 [.int .u64 ((r.nv 8 : Nat) : Int), .str (strOf ((r.tk 8).wv 64))]] := rfl
    rw [hq1] at hw
    clear hq1
    show W _ _ _ _ _ (rtxRes salt ([outM r] ++ outsM k (outR r)) (endE (outsR k (outR r)))) _ _
    unfold outR at *
    unfold inPV at *
    generalize rtxRes salt ([outM r] ++ outsM k ((r.tk 8).wd 64)) (endE (outsR k ((r.tk 8).wd 64))) = res at *
    generalize ((r.tk 8).wd 64).e = ee2 at *
    generalize (r.tk 8).e = ee1 at *
    generalize strOf ((r.tk 8).wd 64).s = s2 at *
    generalize strOf ((r.tk 8).wv 64) = tx at *
    generalize strOf (r.tk 8).s = s1 at *
    generalize r.nv 8 = v at *
    generalize strOf r.s = s at *
    generalize r.e = e at *
    have hk1 : k + 1 ≤ 8 := hn
    have hn0 : 0 < k + 1 := Nat.succ_pos k
    generalize k + 1 = n at *
    unfold dsTr dsTr0 rzTx rzOuts at *
    refine W.seg [(2, aT), (7, aK (PV.tup [PV.st 2 [PV.str s1, I6 (ee1:Int)], U6 (v:Int)])), (15, aK (PV.tup [PV.st 2 [PV.str s2, I6 (ee2:Int)], PV.str tx])), (30, aV (U6 1))] [(1, 1), (2, 2), (3, 3), (480, 4)] (DS.mk [(2, PV.at 1 []), (4, PV.at 2 []), (6, PV.at 3 []), (7, U6 (n:Int)), (8, U6 (↑(1 : Nat) : Int))] [(1, Row.mk (PV.st 2 [U6 0, PV.vec true (PV.parr 2 0 rosh [])]) false), (2, Row.mk (PV.st 2 [PV.str s2, I6 (ee2:Int)]) false), (3, Row.mk (PV.st 2 [U6 (salt:Int), PV.ref 4 [] 2 0 1]) false), (4, Row.mk (PV.parr 2 1 rosh [PV.st 2 [U6 (v:Int), PV.str tx]]) false)]) (todo' := loopAt Tryd.f28 0) [decide (0 < (n:Int)) = true, PC Tryd.prog G0 51 [] [PV.st 2 [PV.str s, I6 (e:Int)], I6 8] [] (PV.tup [PV.st 2 [PV.str s1, I6 (ee1:Int)], U6 (v:Int)]), PC Tryd.prog G0 53 [] [PV.st 2 [PV.str s1, I6 (ee1:Int)], I6 64] [] (PV.tup [PV.st 2 [PV.str s2, I6 (ee2:Int)], PV.str tx]), 1 ≤ 1, 0 < 1, 24 ≤ 140737488355328, 1 ≤ 9223372036854775807, U6 (IntKind.wrap .u64 ((0 : Int) + (1 : Int))) = U6 1, rr (PV.at 1 []), rr (PV.at 2 []), rr (PV.at 3 []), rr (U6 (n:Int)), U6 1 = U6 (↑(1 : Nat) : Int), rr (PV.st 2 [U6 0, PV.vec true (PV.parr 2 0 (Sh.st 2 [Sh.int IntKind.u64, Sh.str]) [])]), rr (PV.st 2 [PV.str s2, I6 (ee2:Int)]), rr (PV.st 2 [U6 (salt:Int), PV.ref 4 [] 2 0 1]), rr (PV.parr 2 1 (Sh.st 2 [Sh.int IntKind.u64, Sh.str]) [PV.st 2 [U6 (v:Int), PV.str tx]])] (by kernel_rfl) (ac (decide_eq_true (by omega)) (ac (c1) (ac (c2) (ac (by omega) (ac (by omega) (ac (by omega) (ac (by omega) (ac (cg (w_u64 rfl (by omega) (by omega))) (ac rfl (ac rfl (ac rfl (ac rfl (ac (cg (by omega)) (ac rfl (ac rfl (ac rfl (ao rfl))))))))))))))))) ?_
    exact hw
def rtxP (b : List Int) : PV := rtxRes (txSalt b) (txOuts b) (txE b)
theorem pc_rParse {N : Nat} {b : List Int} (hl : b.length = N) (hb : Bytes b) (hN : N ≤ 1000000) : PC Tryd.prog G0 28 [] [.str (strOf b)] [] (rtxP b) := by
  refine PC.of (fn := Tryd.f28) (c := bodyOf Tryd.f28) Tryd.func28 (by kernel_rfl) (by kernel_rfl) (by kernel_rfl) (by kernel_rfl) ?_
  have hr : (Rd.mk b 0).In b N := ⟨hl, by show b.length ≤ N; omega, by show b = b.drop (N - b.length); rw [hl, Nat.sub_self]; rfl, hb⟩
  have hsz : (strOf b).size = N := by rw [strOf_size, hl]
  have c1 := pc_rNumber (w := 1) hr hN (by show 0 ≤ 100; omega) (by omega)
  have hr1 : (txR1 b).In b N := hr.tk 1
  have he1 : (txR1 b).e ≤ 100 := Rd.tk_e (by show 0 ≤ 100; omega)
  change PC _ _ _ _ [.st 2 [.str (strOf b), .int .i64 ((0 : Nat) : Int)], _] _ (.tup [.st 2 [.str (strOf (txR1 b).s), .int .i64 (txR1 b).e], _]) at c1
  have hfl : (Rd.mk b 0).nv 1 < 18446744073709551616 := by
    unfold Rd.nv
    split
    · rw [lv_one]; have := at0_lt hb 0; show at0 b 0 < _; omega
    · omega
  unfold rtxP
  by_cases hf : txFirst b
  · have e3 : txE b = 3 := by unfold txE; rw [if_pos hf]
    rw [e3]
    unfold rtxRes
    rw [if_neg (by omega)]
    clear hr hr1 e3
    by_cases h64 : N = 64
    · generalize strOf (txR1 b).s = s1 at *
      generalize strOf b = s at *
      generalize (Rd.mk b 0).nv 1 = v at *
      generalize (txR1 b).e = e1 at *
      unfold rzTx rzOuts at *
      refine W.ret [(4, aT)] [] [((↑(ByteArray.size s) : Int) == 64) = true, PV.tup [PV.st 2 [U6 0, PV.vec true (PV.parr 2 0 (Sh.st 2 [Sh.int IntKind.u64, Sh.str]) [])], I6 3] = PV.tup [PV.st 2 [U6 0, PV.vec true (PV.parr 2 0 (Sh.st 2 [Sh.int IntKind.u64, Sh.str]) [])], I6 (↑(3 : Nat) : Int)]] (by kernel_rfl) (ac (decide_eq_true (by omega)) (ao rfl))
    · obtain ⟨h0, h1⟩ := hf.resolve_left (by omega)
      have h1' : ¬ (((Rd.mk b 0).nv 1 : Int) = 1) := by omega
      have h64' : ¬ ((N : Int) = 64) := by omega
      rw [h0] at c1
      clear hf
      generalize strOf (txR1 b).s = s1 at *
      generalize strOf b = s at *
      generalize (Rd.mk b 0).nv 1 = v at *
      generalize (txR1 b).e = e1 at *
      unfold rzTx rzOuts at *
      refine W.ret [(4, aF), (7, aK (PV.tup [PV.st 2 [PV.str s1, I6 (↑(0 : Nat) : Int)], U6 (v:Int)])), (15, aV (I6 0)), (19, aT)] [] [((↑(ByteArray.size s) : Int) == 64) = false, PC Tryd.prog G0 51 [] [PV.st 2 [PV.str s, I6 0], I6 1] [] (PV.tup [PV.st 2 [PV.str s1, I6 (↑(0 : Nat) : Int)], U6 (v:Int)]), I6 (↑(0 : Nat) : Int) = I6 0, ((v:Int) != 1) = true, PV.tup [PV.st 2 [U6 0, PV.vec true (PV.parr 2 0 (Sh.st 2 [Sh.int IntKind.u64, Sh.str]) [])], I6 3] = PV.tup [PV.st 2 [U6 0, PV.vec true (PV.parr 2 0 (Sh.st 2 [Sh.int IntKind.u64, Sh.str]) [])], I6 (↑(3 : Nat) : Int)]] (by kernel_rfl) (ac (decide_eq_false (by omega)) (ac (c1) (ac (cg (by omega)) (ac (bne_iff_ne.2 (by omega)) (ao rfl)))))
  · have eE : txE b = endE (outsR (txN b) (txR3 b)) := by unfold txE; rw [if_neg hf]; rfl
    rw [eE]
    have c2 := pc_rNumber (w := 8) hr1 hN he1 (by omega)
    have hr2 : (txR2 b).In b N := hr1.tk 8
    have he2 : (txR2 b).e ≤ 100 := Rd.tk_e he1
    have c3 := pc_rCnt (m := 8) hr2 hN he2 (by omega)
    have hr3 : (txR3 b).In b N := hr2.var 8
    have he3 : (txR3 b).e ≤ 100 := by
      show ((txR2 b).var 8).e ≤ 100
      have := Rd.ve_e (m := 8) he2
      unfold Rd.var
      split
      · exact Nat.zero_le _
      · exact this
    have hw := W_rtx0 (salt := txSalt b) hN (n := txN b) (Rd.vn_le _ _) (txR3 b) hr3 he3
    change W _ _ _ _ _ (rtxRes (txSalt b) (txOuts b) _) _ _ at hw
    change PC _ _ _ _ [.st 2 [.str (strOf (txR1 b).s), .int .i64 (txR1 b).e], _] _ (.tup [.st 2 [.str (strOf (txR2 b).s), .int .i64 (txR2 b).e], .int .u64 ((txSalt b : Nat) : Int)]) at c2
    change PC _ _ _ _ [.st 2 [.str (strOf (txR2 b).s), .int .i64 (txR2 b).e], _] _ (.tup [.st 2 [.str (strOf (txR3 b).s), .int .i64 (txR3 b).e], .int .u64 ((txN b : Nat) : Int)]) at c3
    have hn8 : txN b ≤ 8 := Rd.vn_le _ _
    have hN64 : ¬ ((N : Int) = 64) := by intro e; exact hf (.inl (by omega))
    have hfirst : (txR1 b).e = 0 → ((Rd.mk b 0).nv 1 : Int) = 1 := fun h => by
      by_cases h1 : (Rd.mk b 0).nv 1 = 1
      · rw [h1]; rfl
      · exact absurd (.inr ⟨h, h1⟩) hf
    generalize rtxRes (txSalt b) (txOuts b) (endE (outsR (txN b) (txR3 b))) = res at *
    clear eE hr hr1 hr2 hr3 hf
    generalize strOf (txR3 b).s = s3 at *
    generalize strOf (txR2 b).s = s2 at *
    generalize strOf (txR1 b).s = s1 at *
    generalize strOf b = s at *
    generalize (txR3 b).e = ee3 at *
    generalize (txR2 b).e = ee2 at *
    generalize txN b = n at *
    generalize txSalt b = salt at *
    generalize (Rd.mk b 0).nv 1 = v at *
    by_cases he0 : (txR1 b).e = 0
    · have hv := hfirst he0
      rw [he0] at c1 c2
      clear hfirst
      generalize (txR1 b).e = ee1 at *
      unfold dsTr0 rzTx rzOuts at *
      refine W.seg [(4, aF), (7, aK (PV.tup [PV.st 2 [PV.str s1, I6 (↑(0 : Nat) : Int)], U6 (v:Int)])), (10, aV (U6 1)), (15, aV (I6 0)), (25, aK (PV.tup [PV.st 2 [PV.str s2, I6 (ee2:Int)], U6 (salt:Int)])), (33, aK (PV.tup [PV.st 2 [PV.str s3, I6 (ee3:Int)], U6 (n:Int)]))] [(64, 1), (240, 2), (416, 3)] (DS.mk [(2, PV.at 1 []), (4, PV.at 2 []), (6, PV.at 3 []), (7, U6 (n:Int)), (8, U6 0)] [(1, Row.mk (PV.st 2 [U6 0, PV.vec true (PV.parr 2 0 rosh [])]) false), (2, Row.mk (PV.st 2 [PV.str s3, I6 (ee3:Int)]) false), (3, Row.mk (PV.st 2 [U6 (salt:Int), PV.vec true (PV.parr 2 0 rosh [])]) false)]) (todo' := loopAt Tryd.f28 0) [((↑(ByteArray.size s) : Int) == 64) = false, PC Tryd.prog G0 51 [] [PV.st 2 [PV.str s, I6 0], I6 1] [] (PV.tup [PV.st 2 [PV.str s1, I6 (↑(0 : Nat) : Int)], U6 (v:Int)]), U6 (v:Int) = U6 1, I6 (↑(0 : Nat) : Int) = I6 0, PC Tryd.prog G0 51 [] [PV.st 2 [PV.str s1, I6 (↑(0 : Nat) : Int)], I6 8] [] (PV.tup [PV.st 2 [PV.str s2, I6 (ee2:Int)], U6 (salt:Int)]), PC Tryd.prog G0 52 [] [PV.st 2 [PV.str s2, I6 (ee2:Int)], U6 8] [] (PV.tup [PV.st 2 [PV.str s3, I6 (ee3:Int)], U6 (n:Int)]), rr (PV.at 1 []), rr (PV.at 2 []), rr (PV.at 3 []), rr (U6 (n:Int)), rr (U6 0), rr (PV.st 2 [U6 0, PV.vec true (PV.parr 2 0 (Sh.st 2 [Sh.int IntKind.u64, Sh.str]) [])]), rr (PV.st 2 [PV.str s3, I6 (ee3:Int)]), rr (PV.st 2 [U6 (salt:Int), PV.vec true (PV.parr 2 0 (Sh.st 2 [Sh.int IntKind.u64, Sh.str]) [])])] (by kernel_rfl) (ac (decide_eq_false (by omega)) (ac (c1) (ac (cg (hv)) (ac (cg (by omega)) (ac (c2) (ac (c3) (ac rfl (ac rfl (ac rfl (ac rfl (ac rfl (ac rfl (ac rfl (ao rfl)))))))))))))) ?_
      exact hw
    · have hne : ¬ (((txR1 b).e : Int) = 0) := by omega
      clear hfirst
      generalize (txR1 b).e = ee1 at *
      unfold dsTr0 rzTx rzOuts at *
      refine W.seg [(4, aF), (7, aK (PV.tup [PV.st 2 [PV.str s1, I6 (ee1:Int)], U6 (v:Int)])), (16, aF), (25, aK (PV.tup [PV.st 2 [PV.str s2, I6 (ee2:Int)], U6 (salt:Int)])), (33, aK (PV.tup [PV.st 2 [PV.str s3, I6 (ee3:Int)], U6 (n:Int)]))] [(64, 1), (240, 2), (416, 3)] (DS.mk [(2, PV.at 1 []), (4, PV.at 2 []), (6, PV.at 3 []), (7, U6 (n:Int)), (8, U6 0)] [(1, Row.mk (PV.st 2 [U6 0, PV.vec true (PV.parr 2 0 rosh [])]) false), (2, Row.mk (PV.st 2 [PV.str s3, I6 (ee3:Int)]) false), (3, Row.mk (PV.st 2 [U6 (salt:Int), PV.vec true (PV.parr 2 0 rosh [])]) false)]) (todo' := loopAt Tryd.f28 0) [((↑(ByteArray.size s) : Int) == 64) = false, PC Tryd.prog G0 51 [] [PV.st 2 [PV.str s, I6 0], I6 1] [] (PV.tup [PV.st 2 [PV.str s1, I6 (ee1:Int)], U6 (v:Int)]), ((ee1:Int) == 0) = false, PC Tryd.prog G0 51 [] [PV.st 2 [PV.str s1, I6 (ee1:Int)], I6 8] [] (PV.tup [PV.st 2 [PV.str s2, I6 (ee2:Int)], U6 (salt:Int)]), PC Tryd.prog G0 52 [] [PV.st 2 [PV.str s2, I6 (ee2:Int)], U6 8] [] (PV.tup [PV.st 2 [PV.str s3, I6 (ee3:Int)], U6 (n:Int)]), rr (PV.at 1 []), rr (PV.at 2 []), rr (PV.at 3 []), rr (U6 (n:Int)), rr (U6 0), rr (PV.st 2 [U6 0, PV.vec true (PV.parr 2 0 (Sh.st 2 [Sh.int IntKind.u64, Sh.str]) [])]), rr (PV.st 2 [PV.str s3, I6 (ee3:Int)]), rr (PV.st 2 [U6 (salt:Int), PV.vec true (PV.parr 2 0 (Sh.st 2 [Sh.int IntKind.u64, Sh.str]) [])])] (by kernel_rfl) (ac (decide_eq_false (by omega)) (ac (c1) (ac (decide_eq_false (by omega)) (ac (c2) (ac (c3) (ac rfl (ac rfl (ac rfl (ac rfl (ac rfl (ac rfl (ac rfl (ao rfl))))))))))))) ?_
      exact hw
end Go.Proofs
namespace Go.Proofs
open Go Go.Pe Go.Pm
set_option maxRecDepth 100000
set_option linter.unusedVariables false
theorem pc_rId {b : List Int} (hb : Bytes b) (hl : b.length ≤ 1000000) : PC Tryd.prog G0 25 [] [.str (strOf b)] [] (.iarr .u8 32 (dsha b)) := by
  have c := pc_rTwice (s := strOf b) (by rw [strOf_size]; omega)
  rw [bytesOf_strOf hb] at c
  exact c
def idsPV (n : Nat) (L : List TxM) : PV := .vec (decide (n = 0)) (hL n (idsM L))
theorem stx_get {L : List TxM} {i : Nat} (h : i < L.length) : (L.map stPV).getD i .undef = stPV (L.getD i default) := by
  simp [List.getD_eq_getElem?_getD, h]
theorem idsM_take {L : List TxM} {j : Nat} (h : j < L.length) : (idsM L).take (j + 1) = (idsM L).take j ++ [dsha (L.getD j default).2.2] := by
  rw [List.take_add_one]
  congr 1
  unfold idsM
  simp [List.getD_eq_getElem?_getD, h]
def dsRi (nl : Bool) (n : Nat) (T I : List PV) (j : Nat) : DS := ⟨[(3, .ref 1 [] 32 0 j), (6, .vec nl (.parr 1 n .str T)), (7, .int .i64 n), (8, .int .i64 j)], [(1, ⟨.parr 32 j hsE I, false⟩)]⟩
theorem W_rids {nl : Bool} {n : Nat} {L : List TxM} (ho : TxsOk L n) (hn : n ≤ 100000) : ∀ (k j : Nat), k + j = n → 0 < j →
    W Tryd.prog G0 Tryd.f11 [] [] (idsPV n L) (loopAt Tryd.f11 0) (dsRi nl n (L.map stPV) (((idsM L).take j).map hv) j)
  | 0, j, hk, h0 => by
    have hj : j = n := by omega
    subst hj
    have e : (idsM L).take j = idsM L := List.take_of_length_le (by rw [(idsM_ok ho).len]; omega)
    rw [e]
    have hl : ((idsM L).map hv).length = j := by rw [List.length_map, (idsM_ok ho).len]
    have hd : decide (j = 0) = false := decide_eq_false (by omega)
    unfold idsPV hL
    rw [hd]
    have hT : ((idsM L).map hv).take j = (idsM L).map hv := List.take_of_length_le (by omega)
    generalize (idsM L).map hv = I at *
    generalize L.map stPV = T at *
    unfold dsRi
    refine W.ret [(0, aF)] [] [decide ((j:Int) < (j:Int)) = false, 0 + j ≤ j, PV.vec false (PV.parr 32 j (Sh.iarr IntKind.u8 32) (List.take j I)) = PV.vec false (PV.parr 32 j (Sh.iarr IntKind.u8 32) I)] (by kernel_rfl) (ac (decide_eq_false (by omega)) (ac (by omega) (ao (by (simp; omega)))))
  | k + 1, j, hk, h0 => by
    have hlt : j < L.length := by rw [ho.len]; omega
    have g := stx_get (L := L) (i := j) hlt
    obtain ⟨hb, hnl, hN⟩ := ho.get (i := j) (by omega)
    have hw := W_rids (nl := nl) ho hn k (j + 1) (by omega) (by omega)
    rw [idsM_take hlt, List.map_append] at hw
    have hIl : (((idsM L).take j).map hv).length = j := by rw [List.length_map, List.length_take, (idsM_ok ho).len]; omega
    have c1 := pc_rId hb.bytes (by rw [hb.len]; exact hN)
    unfold stPV at g
    generalize dsha (L.getD j default).2.2 = r at *
    generalize strOf (L.getD j default).2.2 = s at *
    have hr : [r].map hv = [PV.iarr .u8 32 r] := rfl
    rw [hr] at hw
    change (L.map stPV).getD j .undef = _ at g
    generalize ((idsM L).take j).map hv = I at *
    generalize L.map stPV = T at *
    generalize idsPV n L = res at *
    unfold dsRi at *
    refine W.seg [(0, aT), (2, aV (PV.str s)), (6, aK (B8 32 r)), (8, Ans.ups [(1, none), (192, some (Row.mk (PV.parr 32 (j + 1) (Sh.iarr IntKind.u8 32) (I ++ [B8 32 r])) false))]), (10, aV (I6 (↑(j + 1) : Int)))] [(192, 1)] (DS.mk [(3, PV.ref 1 [] 32 0 (j + 1)), (6, PV.vec nl (PV.parr 1 n Sh.str T)), (7, I6 (n:Int)), (8, I6 (↑(j + 1) : Int))] [(1, Row.mk (PV.parr 32 (j + 1) hsE (I ++ [B8 32 r])) false)]) (todo' := loopAt Tryd.f11 0) [decide ((j:Int) < (n:Int)) = true, 0 ≤ (j:Int), (j:Int) < (n:Int), PV.str (PV.text (List.getD T j PV.undef)) = PV.str s, j < n, PC Tryd.prog G0 25 [] [PV.str s] [] (B8 32 r), ([(1, none), (192, some (Row.mk (PV.parr 32 (j + 1) (Sh.iarr IntKind.u8 32) (List.take j I ++ [B8 32 r])) false))] : List (Nat × Option Row)) = [(1, none), (192, some (Row.mk (PV.parr 32 (j + 1) (Sh.iarr IntKind.u8 32) (I ++ [B8 32 r])) false))], 1 ≤ 1, 0 + j = j, (j + 1) * 32 ≤ 140737488355328, j + 1 ≤ 9223372036854775807, I6 (IntKind.wrap .i64 ((j:Int) + 1)) = I6 (↑(j + 1) : Int), rr (PV.ref 1 [] 32 0 (j + 1)), rr (PV.vec nl (PV.parr 1 n Sh.str T)), rr (I6 (n:Int)), rr (I6 (↑(j + 1) : Int)), rr (PV.parr 32 (j + 1) (Sh.iarr IntKind.u8 32) (I ++ [B8 32 r]))] (by kernel_rfl) (ac (decide_eq_true (by omega)) (ac (by omega) (ac (by omega) (ac (by (rw [g]; rfl)) (ac (by omega) (ac (c1) (ac (by rw [List.take_of_length_le (show List.length I ≤ j by omega)]) (ac (by omega) (ac (by omega) (ac (by omega) (ac (by omega) (ac (cg (w_i64 rfl (by omega) (by omega))) (ac rfl (ac rfl (ac rfl (ac rfl (ao rfl))))))))))))))))) ?_
    exact hw
theorem pc_rIds {nl : Bool} {n : Nat} {L : List TxM} (ho : TxsOk L n) (hn : n ≤ 100000) : PC Tryd.prog G0 11 [] [.vec nl (.parr 1 n .str (L.map stPV))] [] (idsPV n L) := by
  refine PC.of (fn := Tryd.f11) (c := bodyOf Tryd.f11) Tryd.func11 (by kernel_rfl) (by kernel_rfl) (by kernel_rfl) (by kernel_rfl) ?_
  by_cases h0 : n = 0
  · subst h0
    have hL : L = [] := List.eq_nil_of_length_eq_zero ho.len
    subst hL
    change W _ _ _ _ _ (PV.vec true (.parr 32 0 hsE [])) _ _
    refine W.seg [(3, aV (I6 0))] [] (DS.mk [(3, PV.vec true (PV.parr 32 0 hsE [])), (6, PV.vec nl (PV.parr 1 0 Sh.str [])), (7, I6 (↑(0 : Nat) : Int)), (8, I6 0)] []) (todo' := loopAt Tryd.f11 0) [I6 (↑(0 : Nat) : Int) = I6 0, rr (PV.vec true (PV.parr 32 0 (Sh.iarr IntKind.u8 32) [])), rr (PV.vec nl (PV.parr 1 0 Sh.str [])), I6 0 = I6 (↑(0 : Nat) : Int), rr (I6 0)] (by kernel_rfl) (ac (cg (by omega)) (ac rfl (ac rfl (ac (cg (by omega)) (ao rfl))))) ?_
    refine W.ret [] [] [rr (PV.vec true (PV.parr 32 0 (Sh.iarr IntKind.u8 32) []))] (by kernel_rfl) (ao rfl)
  · have hlt : 0 < L.length := by rw [ho.len]; omega
    have g := stx_get (L := L) (i := 0) hlt
    obtain ⟨hb, hnl, hN⟩ := ho.get (i := 0) (by omega)
    have hw := W_rids (nl := nl) ho hn (n - 1) 1 (by omega) (by omega)
    rw [idsM_take hlt, List.take_zero, List.nil_append] at hw
    have c1 := pc_rId hb.bytes (by rw [hb.len]; exact hN)
    unfold stPV at g
    generalize dsha (L.getD 0 default).2.2 = r at *
    generalize strOf (L.getD 0 default).2.2 = s at *
    have hr : [r].map hv = [PV.iarr .u8 32 r] := rfl
    rw [hr] at hw
    change (L.map stPV).getD 0 .undef = _ at g
    have hn0 : 0 < n := by omega
    clear h0
    generalize L.map stPV = T at *
    generalize idsPV n L = res at *
    unfold dsRi at *
    refine W.seg [] [] (DS.mk [(3, PV.vec true (PV.parr 32 0 hsE [])), (6, PV.vec nl (PV.parr 1 n Sh.str T)), (7, I6 (n:Int)), (8, I6 0)] []) (todo' := loopAt Tryd.f11 0) [rr (PV.vec true (PV.parr 32 0 (Sh.iarr IntKind.u8 32) [])), rr (PV.vec nl (PV.parr 1 n Sh.str T)), rr (I6 (n:Int)), rr (I6 0)] (by kernel_rfl) (ac rfl (ac rfl (ac rfl (ao rfl)))) ?_
    refine W.seg [(0, aT), (2, aV (PV.str s)), (6, aK (B8 32 r)), (10, aV (I6 1))] [(192, 1)] (DS.mk [(3, PV.ref 1 [] 32 0 1), (6, PV.vec nl (PV.parr 1 n Sh.str T)), (7, I6 (n:Int)), (8, I6 (↑(1 : Nat) : Int))] [(1, Row.mk (PV.parr 32 1 hsE [B8 32 r]) false)]) (todo' := loopAt Tryd.f11 0) [decide (0 < (n:Int)) = true, (0 : Int) ≤ (0 : Int), 0 < (n:Int), PV.str (PV.text (List.getD T 0 PV.undef)) = PV.str s, 0 < n, PC Tryd.prog G0 25 [] [PV.str s] [] (B8 32 r), 1 ≤ 1, 0 < 1, 32 ≤ 140737488355328, 1 ≤ 9223372036854775807, I6 (IntKind.wrap .i64 ((0 : Int) + (1 : Int))) = I6 1, rr (PV.ref 1 [] 32 0 1), rr (PV.vec nl (PV.parr 1 n Sh.str T)), rr (I6 (n:Int)), I6 1 = I6 (↑(1 : Nat) : Int), rr (PV.parr 32 1 (Sh.iarr IntKind.u8 32) [B8 32 r])] (by kernel_rfl) (ac (decide_eq_true (by omega)) (ac (by omega) (ac (by omega) (ac (by (rw [g]; rfl)) (ac (by omega) (ac (c1) (ac (by omega) (ac (by omega) (ac (by omega) (ac (by omega) (ac (cg (w_i64 rfl (by omega) (by omega))) (ac rfl (ac rfl (ac rfl (ac (cg (by omega)) (ao rfl)))))))))))))))) ?_
    exact hw
theorem rtxP_form (b : List Int) : ∃ (s : Nat) (o : Bool) (m : Nat) (M : List PV), rtxP b = .tup [.st 2 [.int .u64 s, .vec o (.parr 2 m rosh M)], .int .i64 (txE b)] := by
  unfold rtxP rtxRes routsPV
  by_cases h : txE b = 0
  · rw [if_pos h]
    by_cases g : txOuts b = []
    · rw [if_pos g]; exact ⟨_, _, _, _, rfl⟩
    · rw [if_neg g]; exact ⟨_, _, _, _, rfl⟩
  · rw [if_neg h]; exact ⟨0, true, 0, [], rfl⟩
end Go.Proofs
namespace Go.Proofs
open Go Go.Pe Go.Pm
set_option maxRecDepth 100000
set_option linter.unusedVariables false
theorem pc_wrVar1 {x n : Nat} {l : List Int} (hx : x < 253) (hl : l.length = n) (hn : n ≤ 1000000000) : PC Tryd.prog G0 43 [(0, wrR 1 n), (1, rowB n l)] [.at 0 [], .int .u64 x] [(0, wrR 2 (n + 1)), (2, rowB (n + 1) (l ++ le x 1))] (.tup []) := by
  refine PC.of (fn := Tryd.f43) (c := bodyOf Tryd.f43) Tryd.func43 (by kernel_rfl) (by kernel_rfl) (by kernel_rfl) (by kernel_rfl) ?_
  have c1 := pc_wrNum (x := x) (w := 1) (by omega) (by omega) hl hn
  have hl2 := le_length x 1
  generalize le x 1 = m at *
  refine W.ret [(1, aT), (5, Ans.call true [(0, 0), (1, 1)] [(0, Row.mk (PV.st 1 [PV.ref 2 [] 1 0 (n + 1)]) false), (2, Row.mk (B8 (n + 1) (l ++ m)) false)] (PV.tup []))] [(0, 0), (1, 1), (146, 2)] [decide ((x:Int) < 253) = true, PC Tryd.prog G0 42 [(0, Row.mk (PV.st 1 [PV.ref 1 [] 1 0 n]) false), (1, Row.mk (B8 n l) false)] [PV.at 0 [], U6 (x:Int), I6 1] [(0, Row.mk (PV.st 1 [PV.ref 2 [] 1 0 (n + 1)]) false), (2, Row.mk (B8 (n + 1) (l ++ m)) false)] (PV.tup []), rr (PV.st 1 [PV.ref 2 [] 1 0 (n + 1)]), rr (B8 (n + 1) (l ++ m)), rr (PV.tup [])] (by kernel_rfl) (ac (decide_eq_true (by omega)) (ac (c1) (ac rfl (ac rfl (ao rfl)))))
theorem pc_wrLen {n : Nat} {l : List Int} (hl : l.length = n) (hn : n ≤ 1000000000) : PC Tryd.prog G0 45 [(0, wrR 1 n), (1, rowB n l)] [.at 0 []] [(0, wrR 1 n), (1, rowB n l)] (.int .i64 n) := by
  refine PC.of (fn := Tryd.f45) (c := bodyOf Tryd.f45) Tryd.func45 (by kernel_rfl) (by kernel_rfl) (by kernel_rfl) (by kernel_rfl) ?_
  refine W.ret [] [(0, 0), (1, 1)] [rr (PV.st 1 [PV.ref 1 [] 1 0 n]), rr (B8 n l), rr (I6 (n:Int))] (by kernel_rfl) (ac rfl (ac rfl (ao rfl)))
def tb5 : List Int := [1, 5, 0, 0, 0, 0, 0, 0, 0, 0]
theorem tb5_eq : (le 1 1 ++ le 5 8) ++ le 0 1 = tb5 := by decide
theorem pc_txBytes5 : PC Tryd.prog G0 22 [] [.st 2 [.int .u64 5, zOuts]] [] (.tup [.vec false (.iarr .u8 10 tb5), .int .i64 0]) := by
  refine PC.of (fn := Tryd.f22) (c := bodyOf Tryd.f22) Tryd.func22 (by kernel_rfl) (by kernel_rfl) (by kernel_rfl) (by kernel_rfl) ?_
  have c0 := pc_wrNew
  have c1 := pc_wrNumN (x := 1) (w := 1) (by omega) (by omega) (by omega)
  have c2 := pc_wrNum (x := 5) (w := 8) (n := 1) (l := le 1 1) (by omega) (by omega) (le_length _ _) (by omega)
  have c3 := pc_wrVar1 (x := 0) (n := 9) (l := le 1 1 ++ le 5 8) (by omega) (by rw [List.length_append, le_length, le_length]) (by omega)
  rw [tb5_eq] at c3
  have hl : tb5.length = 10 := rfl
  have c4 := pc_wrLen (n := 10) (l := tb5) rfl (by omega)
  have c5 := pc_wrBytes (n := 10) (l := tb5) (by omega) (by omega) rfl
  have l1 := le_length 1 1
  have l2 : (le 1 1 ++ le 5 8).length = 9 := by rw [List.length_append, le_length, le_length]
  have hT : tb5.take 10 = tb5 := rfl
  generalize le 1 1 ++ le 5 8 = m2 at *
  generalize le 1 1 = m1 at *
  generalize tb5 = t at *
  unfold zOuts wrN wrR at *
  refine W.seg [(5, aV (I6 0)), (7, Ans.call true [] [(1, Row.mk (PV.st 1 [PV.vec true (B8 0 [])]) false)] (PV.at 1 [])), (10, Ans.call true [(177, 0)] [(0, Row.mk (PV.st 1 [PV.ref 2 [] 1 0 1]) false), (2, Row.mk (B8 1 m1) false)] (PV.tup [])), (14, Ans.call true [(177, 0), (226, 1)] [(0, Row.mk (PV.st 1 [PV.ref 2 [] 1 0 9]) false), (2, Row.mk (B8 9 m2) false)] (PV.tup [])), (18, aV (I6 0)), (19, aV (U6 0)), (20, Ans.call true [(177, 0), (290, 1)] [(0, Row.mk (PV.st 1 [PV.ref 2 [] 1 0 10]) false), (2, Row.mk (B8 10 t) false)] (PV.tup [])), (23, aV (I6 0))] [(177, 1), (386, 2)] (DS.mk [(4, PV.at 1 []), (26, I6 0), (27, I6 0)] [(1, Row.mk (PV.st 1 [PV.ref 2 [] 1 0 10]) false), (2, rowB 10 t)]) (todo' := loopAt Tryd.f22 0) [I6 (↑(0 : Nat) : Int) = I6 0, PC Tryd.prog G0 41 [] [] [(1, Row.mk (PV.st 1 [PV.vec true (B8 0 [])]) false)] (PV.at 1 []), PC Tryd.prog G0 42 [(0, Row.mk (PV.st 1 [PV.vec true (B8 0 [])]) false)] [PV.at 0 [], U6 1, I6 1] [(0, Row.mk (PV.st 1 [PV.ref 2 [] 1 0 1]) false), (2, Row.mk (B8 1 m1) false)] (PV.tup []), PC Tryd.prog G0 42 [(0, Row.mk (PV.st 1 [PV.ref 1 [] 1 0 1]) false), (1, Row.mk (B8 1 m1) false)] [PV.at 0 [], U6 5, I6 8] [(0, Row.mk (PV.st 1 [PV.ref 2 [] 1 0 9]) false), (2, Row.mk (B8 9 m2) false)] (PV.tup []), I6 (↑(0 : Nat) : Int) = I6 0, U6 (IntKind.wrap .u64 (0 : Int)) = U6 0, PC Tryd.prog G0 43 [(0, Row.mk (PV.st 1 [PV.ref 1 [] 1 0 9]) false), (1, Row.mk (B8 9 m2) false)] [PV.at 0 [], U6 0] [(0, Row.mk (PV.st 1 [PV.ref 2 [] 1 0 10]) false), (2, Row.mk (B8 10 t) false)] (PV.tup []), I6 (↑(0 : Nat) : Int) = I6 0, rr (PV.at 1 []), rr (I6 0), rr (I6 0), rr (PV.st 1 [PV.ref 2 [] 1 0 10]), rr (B8 10 t)] (by kernel_rfl) (ac (cg (by omega)) (ac (c0) (ac (c1) (ac (c2) (ac (cg (by omega)) (ac (cg (w_u64 rfl (by omega) (by omega))) (ac (c3) (ac (cg (by omega)) (ac rfl (ac rfl (ac rfl (ac rfl (ao rfl))))))))))))) ?_
  refine W.ret [(2, Ans.call true [(1, 0), (2, 1)] [(0, Row.mk (PV.st 1 [PV.ref 1 [] 1 0 10]) false), (1, Row.mk (B8 10 t) false)] (I6 (↑(10 : Nat) : Int))), (5, Ans.call true [(1, 0), (2, 1)] [(0, Row.mk (PV.st 1 [PV.ref 1 [] 1 0 10]) false), (1, Row.mk (B8 10 t) false), (2, Row.mk (B8 10 t) false)] (PV.ref 2 [] 1 0 10))] [] [PC Tryd.prog G0 45 [(0, Row.mk (PV.st 1 [PV.ref 1 [] 1 0 10]) false), (1, Row.mk (B8 10 t) false)] [PV.at 0 []] [(0, Row.mk (PV.st 1 [PV.ref 1 [] 1 0 10]) false), (1, Row.mk (B8 10 t) false)] (I6 (↑(10 : Nat) : Int)), PC Tryd.prog G0 46 [(0, Row.mk (PV.st 1 [PV.ref 1 [] 1 0 10]) false), (1, Row.mk (B8 10 t) false)] [PV.at 0 []] [(0, Row.mk (PV.st 1 [PV.ref 1 [] 1 0 10]) false), (1, Row.mk (B8 10 t) false), (2, Row.mk (B8 10 t) false)] (PV.ref 2 [] 1 0 10), 10 ≤ 10, PV.tup [PV.vec false (B8 10 (List.take 10 t)), I6 0] = PV.tup [PV.vec false (B8 10 t), I6 0]] (by kernel_rfl) (ac (c4) (ac (c5) (ac (by omega) (ao (by (simp; omega))))))
def L5 : List TxM := [(false, 10, tb5)]
theorem L5_ok : TxsOk L5 1 := ⟨rfl, fun x hx => by
  unfold L5 at hx
  simp only [List.mem_singleton] at hx
  subst hx
  refine ⟨⟨rfl, ?_⟩, (fun h => by cases h), by decide⟩
  show Bytes tb5
  intro x hx
  have : ∀ x ∈ tb5, 0 ≤ x ∧ x ≤ 255 := by decide
  exact this x hx⟩
theorem L5_sound : soundE L5 = 0 := by
  have h1 : parseE L5 = 0 := by decide
  have h2 : dblB (idsM L5) = false := by
    unfold dblB
    have : depM (idsM L5).length = 0 := rfl
    rw [this]
    rfl
  unfold soundE
  rw [h1, h2]
  decide
theorem L5_root : rootM (idsM L5) = dsha tb5 := by
  rw [rootM_one rfl]
  rfl
theorem pc_awake : PC Tryd.prog G0 8 [] [] [] (.bool true) := by
  refine PC.of (fn := Tryd.f8) (c := bodyOf Tryd.f8) Tryd.func8 (by kernel_rfl) (by kernel_rfl) (by kernel_rfl) (by kernel_rfl) ?_
  have c1 := pc_txBytes5
  have c2 := pc_make (h := zHd) (nl := false) L5_ok (by omega)
  have hok : (Hd.Ok { zHd with root := rootM (idsM L5) }) := by
    refine ⟨by decide, by decide, by decide, by decide, rfl, rootM_length (idsM_ok L5_ok), by decide, ?_⟩
    rw [L5_root]
    exact sha_bytes _
  have c3 := pc_bCheck (h := { zHd with root := rootM (idsM L5) }) (nl := false) hok L5_ok (by omega)
  have hce : checkE { zHd with root := rootM (idsM L5) } L5 = 0 := by unfold checkE; rw [L5_sound, if_pos rfl, if_pos rfl]
  have c4 := pc_txId (nl := false) (N := 10) (b := tb5) ⟨rfl, by
    intro x hx
    have : ∀ x ∈ tb5, 0 ≤ x ∧ x ≤ 255 := by decide
    exact this x hx⟩ (by omega)
  rw [hce] at c3
  unfold makePV at c2
  rw [L5_sound, if_pos rfl] at c2
  rw [L5_root] at c2 c3
  have hl : (dsha tb5).length = 32 := sha_length _
  have hm : L5.map bsPV = [.vec false (.iarr .u8 10 tb5)] := rfl
  unfold blkPV txsPV zHd zOuts Hd.pv at *
  rw [hm] at c2 c3
  have hd : decide (1 = 0) = false := rfl
  rw [hd] at c2
  have hT : tb5.take 10 = tb5 := rfl
  have htl : tb5.length = 10 := rfl
  generalize dsha tb5 = r at *
  generalize tb5 = t at *
  dsimp only at *
  clear hok hce
  refine W.ret [(2, Ans.call false [] [] (PV.tup [PV.vec false (B8 10 t), I6 0])), (11, Ans.call false [] [] (PV.tup [PV.st 69 [PV.st 68 [U3 (↑(0 : Nat) : Int), B8 32 (List.replicate 32 0), B8 32 r, U3 (↑(0 : Nat) : Int), U3 (↑(0 : Nat) : Int), U3 (↑(0 : Nat) : Int)], PV.vec false (PV.parr 1 1 (Sh.vec 1 (Sh.int IntKind.u8)) [PV.vec false (B8 10 t)])], I6 (↑(0 : Nat) : Int)])), (14, aV (I6 0)), (23, aV (I6 1)), (31, aK (B8 32 r)), (32, aT), (36, aK (I6 (↑(0 : Nat) : Int)))] [] [PC Tryd.prog G0 22 [] [PV.st 2 [U6 5, PV.vec true (PV.parr 2 0 (Sh.st 2 [Sh.int IntKind.u64, Sh.vec 1 (Sh.int IntKind.u8)]) [])]] [] (PV.tup [PV.vec false (B8 10 t), I6 0]), 1 ≤ 1, PC Tryd.prog G0 14 [] [PV.st 68 [U3 0, B8 32 (List.replicate 32 0), B8 32 (List.replicate 32 0), U3 0, U3 0, U3 0], PV.vec false (PV.parr 1 1 (Sh.vec 1 (Sh.int IntKind.u8)) [PV.vec false (B8 10 t)])] [] (PV.tup [PV.st 69 [PV.st 68 [U3 (↑(0 : Nat) : Int), B8 32 (List.replicate 32 0), B8 32 r, U3 (↑(0 : Nat) : Int), U3 (↑(0 : Nat) : Int), U3 (↑(0 : Nat) : Int)], PV.vec false (PV.parr 1 1 (Sh.vec 1 (Sh.int IntKind.u8)) [PV.vec false (B8 10 t)])], I6 (↑(0 : Nat) : Int)]), I6 (↑(0 : Nat) : Int) = I6 0, I6 (↑(1 : Nat) : Int) = I6 1, PC Tryd.prog G0 23 [] [PV.vec false (B8 10 t)] [] (B8 32 r), decide (r = r) = true, PC Tryd.prog G0 12 [] [PV.st 69 [PV.st 68 [U3 (↑(0 : Nat) : Int), B8 32 (List.replicate 32 0), B8 32 r, U3 (↑(0 : Nat) : Int), U3 (↑(0 : Nat) : Int), U3 (↑(0 : Nat) : Int)], PV.vec false (PV.parr 1 1 (Sh.vec 1 (Sh.int IntKind.u8)) [PV.vec false (B8 10 t)])]] [] (I6 (↑(0 : Nat) : Int)), rr (PV.bool true)] (by kernel_rfl) (ac (c1) (ac (by omega) (ac (c2) (ac (cg (by omega)) (ac (cg (by omega)) (ac (c4) (ac (by (simp [*]; done)) (ac (c3) (ao rfl)))))))))
end Go.Proofs
namespace Go.Proofs
open Go Go.Pe Go.Pm
set_option maxRecDepth 100000
set_option linter.unusedVariables false
/-- transactions' bytes, of any size -/
structure TxsW (L : List TxM) (n : Nat) : Prop where
  len : L.length = n
  el : ∀ x ∈ L, BsOk x ∧ (x.1 = true → x.2.1 = 0)
theorem TxsW.get {L : List TxM} {n i : Nat} (h : TxsW L n) (hi : i < n) : BsOk (L.getD i default) := by
  have hi' : i < L.length := by rw [h.len]; exact hi
  have : L.getD i default = L[i] := by simp [List.getD_eq_getElem?_getD, hi']
  rw [this]
  exact (h.el _ (List.getElem_mem hi')).1
theorem TxsW.ok {L : List TxM} {n : Nat} (h : TxsW L n) (hs : smallB L = true) : TxsOk L n ∧ n ≤ 18 := by
  unfold smallB at hs
  simp only [Bool.and_eq_true, decide_eq_true_eq, List.all_eq_true] at hs
  exact ⟨⟨h.len, fun x hx => ⟨(h.el x hx).1, (h.el x hx).2, by have := hs.2 x hx; omega⟩⟩, by rw [← h.len]; exact hs.1⟩
theorem W_smallW {h : Hd} {nl : Bool} {n : Nat} {L : List TxM} (ho : TxsW L n) (hn : n ≤ 18) : ∀ (k i : Nat), i + k = n → smallB L = ((L.drop i).all fun x => decide (x.2.1 ≤ 700)) →
    W Tryd.prog G0 Tryd.f7 [] [] (.bool (smallB L)) (loopAt Tryd.f7 0) (dsSm h nl n (L.map bsPV) i)
  | 0, i, hk, hp => by
    have hi : i = n := by omega
    subst hi
    rw [hp, List.drop_of_length_le (by rw [ho.len]; omega)]
    generalize L.map bsPV = T at *
    unfold dsSm
    show W _ _ _ _ _ (.bool true) _ _
    refine W.ret [(0, aF)] [] [decide ((i:Int) < (i:Int)) = false, rr (PV.bool true)] (by kernel_rfl) (ac (decide_eq_false (by omega)) (ao rfl))
  | k + 1, i, hk, hp => by
    have hi : i < n := by omega
    have hlt : i < L.length := by rw [ho.len]; exact hi
    have g := bs_get (l := L) (i := i) hlt
    have hb := ho.get hi
    have hdrop : L.drop i = L.getD i default :: L.drop (i + 1) := by rw [List.drop_eq_getElem_cons hlt]; simp [List.getD_eq_getElem?_getD, hlt]
    rw [hdrop, List.all_cons] at hp
    have hw := W_smallW (h := h) (nl := nl) ho hn k (i + 1) (by omega)
    generalize L.getD i default = x at *
    obtain ⟨xnl, xN, xb⟩ := x
    have hbl := hb.len
    dsimp only at *
    change _ = PV.vec xnl (.iarr .u8 xN xb) at g
    by_cases h7 : xN ≤ 700
    · rw [decide_eq_true h7, Bool.true_and] at hp
      have hw := hw hp
      clear hdrop hp
      generalize smallB L = res at *
      generalize L.map bsPV = T at *
      unfold dsSm at *
      refine W.seg [(0, aT), (2, aV (PV.vec xnl (B8 xN xb))), (6, aF), (7, aV (I6 (↑(i + 1) : Int)))] [] (DS.mk [(10, PV.vec nl (PV.parr 1 n bsh T)), (11, I6 (n:Int)), (12, I6 (↑(i + 1) : Int))] []) (todo' := loopAt Tryd.f7 0) [decide ((i:Int) < (n:Int)) = true, 0 ≤ (i:Int), (i:Int) < (n:Int), PV.vec (PV.nil? (List.getD T i PV.undef)) (B8 (PV.len (PV.els (List.getD T i PV.undef))) (PV.nums (PV.els (List.getD T i PV.undef)))) = PV.vec xnl (B8 xN xb), i < n, decide ((xN:Int) > 700) = false, I6 (IntKind.wrap .i64 ((i:Int) + 1)) = I6 (↑(i + 1) : Int), rr (PV.vec nl (PV.parr 1 n (Sh.vec 1 (Sh.int IntKind.u8)) T)), rr (I6 (n:Int)), rr (I6 (↑(i + 1) : Int))] (by kernel_rfl) (ac (decide_eq_true (by omega)) (ac (by omega) (ac (by omega) (ac (by (rw [g]; rfl)) (ac (by omega) (ac (decide_eq_false (by omega)) (ac (cg (w_i64 rfl (by omega) (by omega))) (ac rfl (ac rfl (ao rfl)))))))))) ?_
      exact hw
    · rw [decide_eq_false h7, Bool.false_and] at hp
      rw [hp]
      clear hdrop hp hw
      generalize L.map bsPV = T at *
      unfold dsSm at *
      refine W.ret [(0, aT), (2, aV (PV.vec xnl (B8 xN xb))), (6, aT)] [] [decide ((i:Int) < (n:Int)) = true, 0 ≤ (i:Int), (i:Int) < (n:Int), PV.vec (PV.nil? (List.getD T i PV.undef)) (B8 (PV.len (PV.els (List.getD T i PV.undef))) (PV.nums (PV.els (List.getD T i PV.undef)))) = PV.vec xnl (B8 xN xb), i < n, decide ((xN:Int) > 700) = true, rr (PV.bool false)] (by kernel_rfl) (ac (decide_eq_true (by omega)) (ac (by omega) (ac (by omega) (ac (by (rw [g]; rfl)) (ac (by omega) (ac (decide_eq_true (by omega)) (ao rfl)))))))
theorem pc_smallW {h : Hd} {nl : Bool} {n : Nat} {L : List TxM} (ho : TxsW L n) : PC Tryd.prog G0 7 [] [blkPV h nl n L] [] (.bool (smallB L)) := by
  refine PC.of (fn := Tryd.f7) (c := bodyOf Tryd.f7) Tryd.func7 (by kernel_rfl) (by kernel_rfl) (by kernel_rfl) (by kernel_rfl) ?_
  by_cases h18 : n ≤ 18
  · have hs : smallB L = ((L.drop 0).all fun x => decide (x.2.1 ≤ 700)) := by unfold smallB; rw [ho.len, decide_eq_true h18, Bool.true_and]; rfl
    have hw := W_smallW (h := h) (nl := nl) ho h18 n 0 (by omega) hs
    generalize smallB L = res at *
    unfold blkPV txsPV Hd.pv dsSm at *
    generalize L.map bsPV = T at *
    refine W.seg [(5, aF)] [] (DS.mk [(10, PV.vec nl (PV.parr 1 n bsh T)), (11, I6 (n:Int)), (12, I6 (↑(0 : Nat) : Int))] []) (todo' := loopAt Tryd.f7 0) [decide ((n:Int) > 18) = false, rr (PV.vec nl (PV.parr 1 n (Sh.vec 1 (Sh.int IntKind.u8)) T)), rr (I6 (n:Int)), I6 0 = I6 (↑(0 : Nat) : Int)] (by kernel_rfl) (ac (decide_eq_false (by omega)) (ac rfl (ac rfl (ao (cg (by omega)))))) ?_
    exact hw
  · have hs : smallB L = false := by unfold smallB; rw [ho.len, decide_eq_false h18, Bool.false_and]
    rw [hs]
    unfold blkPV txsPV Hd.pv at *
    generalize L.map bsPV = T at *
    refine W.ret [(5, aT)] [] [decide ((n:Int) > 18) = true, rr (PV.bool false)] (by kernel_rfl) (ac (decide_eq_true (by omega)) (ao rfl))
end Go.Proofs
namespace Go.Proofs
open Go Go.Pe Go.Pm
set_option maxRecDepth 100000
def bksh : Sh := .st 69 [hsh, .vec 1 (.vec 1 (.int .u8))]
theorem tx_of {q : PV} (hc : conf (.vec 1 (.int .u8)) q = true) (hw : WF q) : ∃ x : TxM, q = bsPV x ∧ BsOk x ∧ (x.1 = true → x.2.1 = 0) := by
  obtain ⟨nl, n, l, rfl⟩ : ∃ nl n l, q = .vec nl (.iarr .u8 n l) := ⟨_, _, _, (expose_conf _ _ hc).symm⟩
  simp only [WF] at hw
  obtain ⟨⟨h1, h2⟩, _, h3⟩ := hw
  exact ⟨(nl, n, l), rfl, ⟨h1, u8_bytes h2⟩, h3⟩
theorem txs_of : ∀ {l : List PV}, WFL l → (∀ q ∈ l, size q = 1 ∧ conf (.vec 1 (.int .u8)) q = true ∧ noref q = true) → ∃ L : List TxM, l = L.map bsPV ∧ ∀ x ∈ L, BsOk x ∧ (x.1 = true → x.2.1 = 0)
  | [], _, _ => ⟨[], rfl, fun x hx => by cases hx⟩
  | p :: l, hw, hq => by
    simp only [WFL] at hw
    obtain ⟨x, rfl, ho⟩ := tx_of (hq p (by simp)).2.1 hw.1
    obtain ⟨L, rfl, hL⟩ := txs_of hw.2 fun q hh => hq q (by simp [hh])
    refine ⟨x :: L, rfl, fun y hy => ?_⟩
    rcases List.mem_cons.1 hy with rfl | hy
    · exact ho
    · exact hL y hy
theorem txsv_of {p : PV} (hc : conf (.vec 1 (.vec 1 (.int .u8))) p = true) (hw : WF p) : ∃ (nl : Bool) (n : Nat) (L : List TxM), p = txsPV nl n L ∧ TxsW L n := by
  obtain ⟨nl, n, m, rfl⟩ : ∃ nl n m, p = .vec nl (.parr 1 n (.vec 1 (.int .u8)) m) := ⟨_, _, _, (expose_conf _ _ hc).symm⟩
  simp only [WF] at hw
  obtain ⟨⟨h1, h2, h3⟩, _, _⟩ := hw
  obtain ⟨L, rfl, hL⟩ := txs_of h2 h3
  exact ⟨nl, n, L, rfl, ⟨by rw [← h1, List.length_map], hL⟩⟩
theorem blk_of {p : PV} (hc : conf bksh p = true) (hw : WF p) : ∃ (h : Hd) (nl : Bool) (n : Nat) (L : List TxM), p = blkPV h nl n L ∧ h.Ok ∧ TxsW L n := by
  obtain ⟨x, y, rfl, hx, hy⟩ : ∃ x y, p = .st 69 [x, y] ∧ conf hsh x = true ∧ conf (.vec 1 (.vec 1 (.int .u8))) y = true := by
    have e := expose_conf _ _ hc
    obtain ⟨x, y, rfl⟩ : ∃ x y, p = .st 69 [x, y] := ⟨_, _, e.symm⟩
    have h2 : (Nat.beq 69 69 && (conf hsh x && (conf (.vec 1 (.vec 1 (.int .u8))) y && true))) = true := hc
    simp only [Bool.and_eq_true] at h2
    exact ⟨x, y, rfl, h2.2.1, h2.2.2.1⟩
  simp only [WF, WFL] at hw
  obtain ⟨h, rfl, hh⟩ := hd_of hx hw.2.1
  obtain ⟨nl, n, L, rfl, hL⟩ := txsv_of hy hw.2.2.1
  exact ⟨h, nl, n, L, rfl, hh, hL⟩
end Go.Proofs
namespace Go.Proofs
open Go Go.Pe Go.Pm
set_option maxRecDepth 100000
def tab8 : ByteArray := ⟨#[0, 1, 2, 2, 3, 3, 3, 3, 4, 4, 4, 4, 4, 4, 4, 4, 5, 5, 5, 5, 5, 5, 5, 5, 5, 5, 5, 5, 5, 5, 5, 5, 6, 6, 6, 6, 6, 6, 6, 6, 6, 6, 6, 6, 6, 6, 6, 6, 6, 6, 6, 6, 6, 6, 6, 6, 6, 6, 6, 6, 6, 6, 6, 6, 7, 7, 7, 7, 7, 7, 7, 7, 7, 7, 7, 7, 7, 7, 7, 7, 7, 7, 7, 7, 7, 7, 7, 7, 7, 7, 7, 7, 7, 7, 7, 7, 7, 7, 7, 7, 7, 7, 7, 7, 7, 7, 7, 7, 7, 7, 7, 7, 7, 7, 7, 7, 7, 7, 7, 7, 7, 7, 7, 7, 7, 7, 7, 7, 8, 8, 8, 8, 8, 8, 8, 8, 8, 8, 8, 8, 8, 8, 8, 8, 8, 8, 8, 8, 8, 8, 8, 8, 8, 8, 8, 8, 8, 8, 8, 8, 8, 8, 8, 8, 8, 8, 8, 8, 8, 8, 8, 8, 8, 8, 8, 8, 8, 8, 8, 8, 8, 8, 8, 8, 8, 8, 8, 8, 8, 8, 8, 8, 8, 8, 8, 8, 8, 8, 8, 8, 8, 8, 8, 8, 8, 8, 8, 8, 8, 8, 8, 8, 8, 8, 8, 8, 8, 8, 8, 8, 8, 8, 8, 8, 8, 8, 8, 8, 8, 8, 8, 8, 8, 8, 8, 8, 8, 8, 8, 8, 8, 8, 8, 8, 8, 8, 8, 8, 8, 8, 8, 8, 8, 8, 8, 8]⟩
theorem tab8_spec : ∀ y : Nat, y < 256 → byteAt tab8 y = (blen y : Nat) := by decide +kernel
theorem blen_256 {y : Nat} (h : y < 256) : blen y ≤ 8 := blen_le.2 h
theorem pc_len64 {x : Nat} (hx : x < 18446744073709551616) : PC Tryd.prog G0 94 [] [.int .u64 x] [] (.int .i64 (blen x)) := by
  refine PC.of (fn := Tryd.f94) (c := bodyOf Tryd.f94) Tryd.func94 (by kernel_rfl) (by kernel_rfl) (by kernel_rfl) (by kernel_rfl) ?_
  have key : ∀ y n : Nat, y < 256 → blen y + n = blen x → byteAt tab8 y = (blen y : Nat) ∧ blen y ≤ 8 ∧ blen x = blen y + n := fun y n h e => ⟨tab8_spec y h, blen_256 h, e.symm⟩
  by_cases c1 : 4294967296 ≤ x
  · have e1 := blen_div (v := x) (k := 32) c1
    by_cases c2 : 65536 ≤ x / 4294967296
    · have e2 := blen_div (v := x / 4294967296) (k := 16) c2
      by_cases c3 : 256 ≤ x / 4294967296 / 65536
      · have e3 := blen_div (v := x / 4294967296 / 65536) (k := 8) c3
        obtain ⟨hb, hl, he⟩ := key (x / 4294967296 / 65536 / 256) 56 (by omega) (by simp only [Nat.reducePow] at e1 e2 e3; omega)
        rw [he]
        refine W.ret [(2, aT), (4, aV (U6 (↑(x / 4294967296) : Int))), (8, aT), (10, aV (U6 (↑(x / 4294967296 / 65536) : Int))), (13, aV (I6 48)), (16, aT), (18, aV (U6 (↑(x / 4294967296 / 65536 / 256) : Int))), (21, aV (I6 56)), (25, aV (U8 (↑(x / 4294967296 / 65536 / 256) : Int))), (26, aV (U8 (↑(blen (x / 4294967296 / 65536 / 256)) : Int))), (27, aV (I6 (↑(blen (x / 4294967296 / 65536 / 256)) : Int))), (28, aV (I6 (↑(blen (x / 4294967296 / 65536 / 256) + 56) : Int)))] [] [decide ((x:Int) ≥ 4294967296) = true, U6 (Int.fdiv (x:Int) ((2 : Int) ^ 32)) = U6 (↑(x / 4294967296) : Int), (0 : Int) ≤ (32 : Int), decide ((↑(x / 4294967296) : Int) ≥ 65536) = true, U6 (Int.fdiv (↑(x / 4294967296) : Int) ((2 : Int) ^ 16)) = U6 (↑(x / 4294967296 / 65536) : Int), (0 : Int) ≤ (16 : Int), I6 (IntKind.wrap .i64 ((32 : Int) + (16 : Int))) = I6 48, decide ((↑(x / 4294967296 / 65536) : Int) ≥ 256) = true, U6 (Int.fdiv (↑(x / 4294967296 / 65536) : Int) ((2 : Int) ^ 8)) = U6 (↑(x / 4294967296 / 65536 / 256) : Int), (0 : Int) ≤ (8 : Int), I6 (IntKind.wrap .i64 ((48 : Int) + (8 : Int))) = I6 56, U8 (IntKind.wrap .u8 (↑(x / 4294967296 / 65536 / 256) : Int)) = U8 (↑(x / 4294967296 / 65536 / 256) : Int), U8 (byteAt tab8 (↑(x / 4294967296 / 65536 / 256) : Int)) = U8 (↑(blen (x / 4294967296 / 65536 / 256)) : Int), 0 ≤ (↑(x / 4294967296 / 65536 / 256) : Int), (↑(x / 4294967296 / 65536 / 256) : Int) < (↑(256 : Nat) : Int), I6 (IntKind.wrap .i64 (↑(blen (x / 4294967296 / 65536 / 256)) : Int)) = I6 (↑(blen (x / 4294967296 / 65536 / 256)) : Int), I6 (IntKind.wrap .i64 (56 + (↑(blen (x / 4294967296 / 65536 / 256)) : Int))) = I6 (↑(blen (x / 4294967296 / 65536 / 256) + 56) : Int), rr (I6 (↑(blen (x / 4294967296 / 65536 / 256) + 56) : Int))] (by kernel_rfl) (ac (decide_eq_true (by omega)) (ac (cg (shrm_u64 (y := 32) (s := 32) rfl rfl (by decide) (by omega))) (ac (by omega) (ac (decide_eq_true (by omega)) (ac (cg (shrm_u64 (y := 16) (s := 16) rfl rfl (by decide) (by omega))) (ac (by omega) (ac (cg (w_i64 rfl (by omega) (by omega))) (ac (decide_eq_true (by omega)) (ac (cg (shrm_u64 (y := 8) (s := 8) rfl rfl (by decide) (by omega))) (ac (by omega) (ac (cg (w_i64 rfl (by omega) (by omega))) (ac (cg (w_u8 rfl (by omega) (by omega))) (ac (cg (hb)) (ac (by omega) (ac (by omega) (ac (cg (w_i64 rfl (by omega) (by omega))) (ac (cg (w_i64 (by omega) (by omega) (by omega))) (ao rfl))))))))))))))))))
      · obtain ⟨hb, hl, he⟩ := key (x / 4294967296 / 65536) 48 (by omega) (by simp only [Nat.reducePow] at e1 e2; omega)
        rw [he]
        refine W.ret [(2, aT), (4, aV (U6 (↑(x / 4294967296) : Int))), (8, aT), (10, aV (U6 (↑(x / 4294967296 / 65536) : Int))), (13, aV (I6 48)), (16, aF), (19, aV (U8 (↑(x / 4294967296 / 65536) : Int))), (20, aV (U8 (↑(blen (x / 4294967296 / 65536)) : Int))), (21, aV (I6 (↑(blen (x / 4294967296 / 65536)) : Int))), (22, aV (I6 (↑(blen (x / 4294967296 / 65536) + 48) : Int)))] [] [decide ((x:Int) ≥ 4294967296) = true, U6 (Int.fdiv (x:Int) ((2 : Int) ^ 32)) = U6 (↑(x / 4294967296) : Int), (0 : Int) ≤ (32 : Int), decide ((↑(x / 4294967296) : Int) ≥ 65536) = true, U6 (Int.fdiv (↑(x / 4294967296) : Int) ((2 : Int) ^ 16)) = U6 (↑(x / 4294967296 / 65536) : Int), (0 : Int) ≤ (16 : Int), I6 (IntKind.wrap .i64 ((32 : Int) + (16 : Int))) = I6 48, decide ((↑(x / 4294967296 / 65536) : Int) ≥ 256) = false, U8 (IntKind.wrap .u8 (↑(x / 4294967296 / 65536) : Int)) = U8 (↑(x / 4294967296 / 65536) : Int), U8 (byteAt tab8 (↑(x / 4294967296 / 65536) : Int)) = U8 (↑(blen (x / 4294967296 / 65536)) : Int), 0 ≤ (↑(x / 4294967296 / 65536) : Int), (↑(x / 4294967296 / 65536) : Int) < (↑(256 : Nat) : Int), I6 (IntKind.wrap .i64 (↑(blen (x / 4294967296 / 65536)) : Int)) = I6 (↑(blen (x / 4294967296 / 65536)) : Int), I6 (IntKind.wrap .i64 (48 + (↑(blen (x / 4294967296 / 65536)) : Int))) = I6 (↑(blen (x / 4294967296 / 65536) + 48) : Int), rr (I6 (↑(blen (x / 4294967296 / 65536) + 48) : Int))] (by kernel_rfl) (ac (decide_eq_true (by omega)) (ac (cg (shrm_u64 (y := 32) (s := 32) rfl rfl (by decide) (by omega))) (ac (by omega) (ac (decide_eq_true (by omega)) (ac (cg (shrm_u64 (y := 16) (s := 16) rfl rfl (by decide) (by omega))) (ac (by omega) (ac (cg (w_i64 rfl (by omega) (by omega))) (ac (decide_eq_false (by omega)) (ac (cg (w_u8 rfl (by omega) (by omega))) (ac (cg (hb)) (ac (by omega) (ac (by omega) (ac (cg (w_i64 rfl (by omega) (by omega))) (ac (cg (w_i64 (by omega) (by omega) (by omega))) (ao rfl)))))))))))))))
    · by_cases c3 : 256 ≤ x / 4294967296
      · have e3 := blen_div (v := x / 4294967296) (k := 8) c3
        obtain ⟨hb, hl, he⟩ := key (x / 4294967296 / 256) 40 (by omega) (by simp only [Nat.reducePow] at e1 e3; omega)
        rw [he]
        refine W.ret [(2, aT), (4, aV (U6 (↑(x / 4294967296) : Int))), (8, aF), (10, aT), (12, aV (U6 (↑(x / 4294967296 / 256) : Int))), (15, aV (I6 40)), (19, aV (U8 (↑(x / 4294967296 / 256) : Int))), (20, aV (U8 (↑(blen (x / 4294967296 / 256)) : Int))), (21, aV (I6 (↑(blen (x / 4294967296 / 256)) : Int))), (22, aV (I6 (↑(blen (x / 4294967296 / 256) + 40) : Int)))] [] [decide ((x:Int) ≥ 4294967296) = true, U6 (Int.fdiv (x:Int) ((2 : Int) ^ 32)) = U6 (↑(x / 4294967296) : Int), (0 : Int) ≤ (32 : Int), decide ((↑(x / 4294967296) : Int) ≥ 65536) = false, decide ((↑(x / 4294967296) : Int) ≥ 256) = true, U6 (Int.fdiv (↑(x / 4294967296) : Int) ((2 : Int) ^ 8)) = U6 (↑(x / 4294967296 / 256) : Int), (0 : Int) ≤ (8 : Int), I6 (IntKind.wrap .i64 ((32 : Int) + (8 : Int))) = I6 40, U8 (IntKind.wrap .u8 (↑(x / 4294967296 / 256) : Int)) = U8 (↑(x / 4294967296 / 256) : Int), U8 (byteAt tab8 (↑(x / 4294967296 / 256) : Int)) = U8 (↑(blen (x / 4294967296 / 256)) : Int), 0 ≤ (↑(x / 4294967296 / 256) : Int), (↑(x / 4294967296 / 256) : Int) < (↑(256 : Nat) : Int), I6 (IntKind.wrap .i64 (↑(blen (x / 4294967296 / 256)) : Int)) = I6 (↑(blen (x / 4294967296 / 256)) : Int), I6 (IntKind.wrap .i64 (40 + (↑(blen (x / 4294967296 / 256)) : Int))) = I6 (↑(blen (x / 4294967296 / 256) + 40) : Int), rr (I6 (↑(blen (x / 4294967296 / 256) + 40) : Int))] (by kernel_rfl) (ac (decide_eq_true (by omega)) (ac (cg (shrm_u64 (y := 32) (s := 32) rfl rfl (by decide) (by omega))) (ac (by omega) (ac (decide_eq_false (by omega)) (ac (decide_eq_true (by omega)) (ac (cg (shrm_u64 (y := 8) (s := 8) rfl rfl (by decide) (by omega))) (ac (by omega) (ac (cg (w_i64 rfl (by omega) (by omega))) (ac (cg (w_u8 rfl (by omega) (by omega))) (ac (cg (hb)) (ac (by omega) (ac (by omega) (ac (cg (w_i64 rfl (by omega) (by omega))) (ac (cg (w_i64 (by omega) (by omega) (by omega))) (ao rfl)))))))))))))))
      · obtain ⟨hb, hl, he⟩ := key (x / 4294967296) 32 (by omega) (by simp only [Nat.reducePow] at e1; omega)
        rw [he]
        refine W.ret [(2, aT), (4, aV (U6 (↑(x / 4294967296) : Int))), (8, aF), (10, aF), (13, aV (U8 (↑(x / 4294967296) : Int))), (14, aV (U8 (↑(blen (x / 4294967296)) : Int))), (15, aV (I6 (↑(blen (x / 4294967296)) : Int))), (16, aV (I6 (↑(blen (x / 4294967296) + 32) : Int)))] [] [decide ((x:Int) ≥ 4294967296) = true, U6 (Int.fdiv (x:Int) ((2 : Int) ^ 32)) = U6 (↑(x / 4294967296) : Int), (0 : Int) ≤ (32 : Int), decide ((↑(x / 4294967296) : Int) ≥ 65536) = false, decide ((↑(x / 4294967296) : Int) ≥ 256) = false, U8 (IntKind.wrap .u8 (↑(x / 4294967296) : Int)) = U8 (↑(x / 4294967296) : Int), U8 (byteAt tab8 (↑(x / 4294967296) : Int)) = U8 (↑(blen (x / 4294967296)) : Int), 0 ≤ (↑(x / 4294967296) : Int), (↑(x / 4294967296) : Int) < (↑(256 : Nat) : Int), I6 (IntKind.wrap .i64 (↑(blen (x / 4294967296)) : Int)) = I6 (↑(blen (x / 4294967296)) : Int), I6 (IntKind.wrap .i64 (32 + (↑(blen (x / 4294967296)) : Int))) = I6 (↑(blen (x / 4294967296) + 32) : Int), rr (I6 (↑(blen (x / 4294967296) + 32) : Int))] (by kernel_rfl) (ac (decide_eq_true (by omega)) (ac (cg (shrm_u64 (y := 32) (s := 32) rfl rfl (by decide) (by omega))) (ac (by omega) (ac (decide_eq_false (by omega)) (ac (decide_eq_false (by omega)) (ac (cg (w_u8 rfl (by omega) (by omega))) (ac (cg (hb)) (ac (by omega) (ac (by omega) (ac (cg (w_i64 rfl (by omega) (by omega))) (ac (cg (w_i64 (by omega) (by omega) (by omega))) (ao rfl))))))))))))
  · by_cases c2 : 65536 ≤ x
    · have e2 := blen_div (v := x) (k := 16) c2
      by_cases c3 : 256 ≤ x / 65536
      · have e3 := blen_div (v := x / 65536) (k := 8) c3
        obtain ⟨hb, hl, he⟩ := key (x / 65536 / 256) 24 (by omega) (by simp only [Nat.reducePow] at e2 e3; omega)
        rw [he]
        refine W.ret [(2, aF), (4, aT), (6, aV (U6 (↑(x / 65536) : Int))), (9, aV (I6 16)), (12, aT), (14, aV (U6 (↑(x / 65536 / 256) : Int))), (17, aV (I6 24)), (21, aV (U8 (↑(x / 65536 / 256) : Int))), (22, aV (U8 (↑(blen (x / 65536 / 256)) : Int))), (23, aV (I6 (↑(blen (x / 65536 / 256)) : Int))), (24, aV (I6 (↑(blen (x / 65536 / 256) + 24) : Int)))] [] [decide ((x:Int) ≥ 4294967296) = false, decide ((x:Int) ≥ 65536) = true, U6 (Int.fdiv (x:Int) ((2 : Int) ^ 16)) = U6 (↑(x / 65536) : Int), (0 : Int) ≤ (16 : Int), I6 (IntKind.wrap .i64 ((0 : Int) + (16 : Int))) = I6 16, decide ((↑(x / 65536) : Int) ≥ 256) = true, U6 (Int.fdiv (↑(x / 65536) : Int) ((2 : Int) ^ 8)) = U6 (↑(x / 65536 / 256) : Int), (0 : Int) ≤ (8 : Int), I6 (IntKind.wrap .i64 ((16 : Int) + (8 : Int))) = I6 24, U8 (IntKind.wrap .u8 (↑(x / 65536 / 256) : Int)) = U8 (↑(x / 65536 / 256) : Int), U8 (byteAt tab8 (↑(x / 65536 / 256) : Int)) = U8 (↑(blen (x / 65536 / 256)) : Int), 0 ≤ (↑(x / 65536 / 256) : Int), (↑(x / 65536 / 256) : Int) < (↑(256 : Nat) : Int), I6 (IntKind.wrap .i64 (↑(blen (x / 65536 / 256)) : Int)) = I6 (↑(blen (x / 65536 / 256)) : Int), I6 (IntKind.wrap .i64 (24 + (↑(blen (x / 65536 / 256)) : Int))) = I6 (↑(blen (x / 65536 / 256) + 24) : Int), rr (I6 (↑(blen (x / 65536 / 256) + 24) : Int))] (by kernel_rfl) (ac (decide_eq_false (by omega)) (ac (decide_eq_true (by omega)) (ac (cg (shrm_u64 (y := 16) (s := 16) rfl rfl (by decide) (by omega))) (ac (by omega) (ac (cg (w_i64 rfl (by omega) (by omega))) (ac (decide_eq_true (by omega)) (ac (cg (shrm_u64 (y := 8) (s := 8) rfl rfl (by decide) (by omega))) (ac (by omega) (ac (cg (w_i64 rfl (by omega) (by omega))) (ac (cg (w_u8 rfl (by omega) (by omega))) (ac (cg (hb)) (ac (by omega) (ac (by omega) (ac (cg (w_i64 rfl (by omega) (by omega))) (ac (cg (w_i64 (by omega) (by omega) (by omega))) (ao rfl))))))))))))))))
      · obtain ⟨hb, hl, he⟩ := key (x / 65536) 16 (by omega) (by simp only [Nat.reducePow] at e2; omega)
        rw [he]
        refine W.ret [(2, aF), (4, aT), (6, aV (U6 (↑(x / 65536) : Int))), (9, aV (I6 16)), (12, aF), (15, aV (U8 (↑(x / 65536) : Int))), (16, aV (U8 (↑(blen (x / 65536)) : Int))), (17, aV (I6 (↑(blen (x / 65536)) : Int))), (18, aV (I6 (↑(blen (x / 65536) + 16) : Int)))] [] [decide ((x:Int) ≥ 4294967296) = false, decide ((x:Int) ≥ 65536) = true, U6 (Int.fdiv (x:Int) ((2 : Int) ^ 16)) = U6 (↑(x / 65536) : Int), (0 : Int) ≤ (16 : Int), I6 (IntKind.wrap .i64 ((0 : Int) + (16 : Int))) = I6 16, decide ((↑(x / 65536) : Int) ≥ 256) = false, U8 (IntKind.wrap .u8 (↑(x / 65536) : Int)) = U8 (↑(x / 65536) : Int), U8 (byteAt tab8 (↑(x / 65536) : Int)) = U8 (↑(blen (x / 65536)) : Int), 0 ≤ (↑(x / 65536) : Int), (↑(x / 65536) : Int) < (↑(256 : Nat) : Int), I6 (IntKind.wrap .i64 (↑(blen (x / 65536)) : Int)) = I6 (↑(blen (x / 65536)) : Int), I6 (IntKind.wrap .i64 (16 + (↑(blen (x / 65536)) : Int))) = I6 (↑(blen (x / 65536) + 16) : Int), rr (I6 (↑(blen (x / 65536) + 16) : Int))] (by kernel_rfl) (ac (decide_eq_false (by omega)) (ac (decide_eq_true (by omega)) (ac (cg (shrm_u64 (y := 16) (s := 16) rfl rfl (by decide) (by omega))) (ac (by omega) (ac (cg (w_i64 rfl (by omega) (by omega))) (ac (decide_eq_false (by omega)) (ac (cg (w_u8 rfl (by omega) (by omega))) (ac (cg (hb)) (ac (by omega) (ac (by omega) (ac (cg (w_i64 rfl (by omega) (by omega))) (ac (cg (w_i64 (by omega) (by omega) (by omega))) (ao rfl)))))))))))))
    · by_cases c3 : 256 ≤ x
      · have e3 := blen_div (v := x) (k := 8) c3
        obtain ⟨hb, hl, he⟩ := key (x / 256) 8 (by omega) (by simp only [Nat.reducePow] at e3; omega)
        rw [he]
        refine W.ret [(2, aF), (4, aF), (6, aT), (8, aV (U6 (↑(x / 256) : Int))), (11, aV (I6 8)), (15, aV (U8 (↑(x / 256) : Int))), (16, aV (U8 (↑(blen (x / 256)) : Int))), (17, aV (I6 (↑(blen (x / 256)) : Int))), (18, aV (I6 (↑(blen (x / 256) + 8) : Int)))] [] [decide ((x:Int) ≥ 4294967296) = false, decide ((x:Int) ≥ 65536) = false, decide ((x:Int) ≥ 256) = true, U6 (Int.fdiv (x:Int) ((2 : Int) ^ 8)) = U6 (↑(x / 256) : Int), (0 : Int) ≤ (8 : Int), I6 (IntKind.wrap .i64 ((0 : Int) + (8 : Int))) = I6 8, U8 (IntKind.wrap .u8 (↑(x / 256) : Int)) = U8 (↑(x / 256) : Int), U8 (byteAt tab8 (↑(x / 256) : Int)) = U8 (↑(blen (x / 256)) : Int), 0 ≤ (↑(x / 256) : Int), (↑(x / 256) : Int) < (↑(256 : Nat) : Int), I6 (IntKind.wrap .i64 (↑(blen (x / 256)) : Int)) = I6 (↑(blen (x / 256)) : Int), I6 (IntKind.wrap .i64 (8 + (↑(blen (x / 256)) : Int))) = I6 (↑(blen (x / 256) + 8) : Int), rr (I6 (↑(blen (x / 256) + 8) : Int))] (by kernel_rfl) (ac (decide_eq_false (by omega)) (ac (decide_eq_false (by omega)) (ac (decide_eq_true (by omega)) (ac (cg (shrm_u64 (y := 8) (s := 8) rfl rfl (by decide) (by omega))) (ac (by omega) (ac (cg (w_i64 rfl (by omega) (by omega))) (ac (cg (w_u8 rfl (by omega) (by omega))) (ac (cg (hb)) (ac (by omega) (ac (by omega) (ac (cg (w_i64 rfl (by omega) (by omega))) (ac (cg (w_i64 (by omega) (by omega) (by omega))) (ao rfl)))))))))))))
      · obtain ⟨hb, hl, he⟩ := key x 0 (by omega) rfl
        refine W.ret [(2, aF), (4, aF), (6, aF), (9, aV (U8 (x:Int))), (10, aV (U8 (↑(blen x) : Int))), (11, aV (I6 (↑(blen x) : Int))), (12, aV (I6 (↑(blen x) : Int)))] [] [decide ((x:Int) ≥ 4294967296) = false, decide ((x:Int) ≥ 65536) = false, decide ((x:Int) ≥ 256) = false, U8 (IntKind.wrap .u8 (x:Int)) = U8 (x:Int), U8 (byteAt tab8 (x:Int)) = U8 (↑(blen x) : Int), 0 ≤ (x:Int), (x:Int) < (↑(256 : Nat) : Int), I6 (IntKind.wrap .i64 (↑(blen x) : Int)) = I6 (↑(blen x) : Int), I6 (IntKind.wrap .i64 (0 + (↑(blen x) : Int))) = I6 (↑(blen x) : Int), rr (I6 (↑(blen x) : Int))] (by kernel_rfl) (ac (decide_eq_false (by omega)) (ac (decide_eq_false (by omega)) (ac (decide_eq_false (by omega)) (ac (cg (w_u8 rfl (by omega) (by omega))) (ac (cg (hb)) (ac (by omega) (ac (by omega) (ac (cg (w_i64 rfl (by omega) (by omega))) (ac (cg (w_i64 (by omega) (by omega) (by omega))) (ao rfl))))))))))
end Go.Proofs
namespace Go.Proofs
open Go Go.Pe Go.Pm
set_option maxRecDepth 100000
set_option linter.unusedVariables false
theorem dep_blen (n : Nat) (h : 1 < n) : depM n = blen (n - 1) := by
  unfold depM blen
  rw [if_neg (by omega), if_neg (by omega)]
theorem pc_depth {n : Nat} (hn : n ≤ 100000) : PC Tryd.prog G0 89 [] [.int .i64 n] [] (.int .i64 (depM n)) := by
  refine PC.of (fn := Tryd.f89) (c := bodyOf Tryd.f89) Tryd.func89 (by kernel_rfl) (by kernel_rfl) (by kernel_rfl) (by kernel_rfl) ?_
  by_cases h : n ≤ 1
  · have e : depM n = 0 := by unfold depM; rw [if_pos h]
    rw [e]
    refine W.ret [(2, aT)] [] [decide ((n:Int) ≤ 1) = true, I6 0 = I6 (↑(0 : Nat) : Int)] (by kernel_rfl) (ac (decide_eq_true (by omega)) (ao (cg (by omega))))
  · have c1 := pc_len64 (x := n - 1) (by omega)
    rw [← dep_blen n (by omega)] at c1
    have e1 : (n : Int) - 1 = ((n - 1 : Nat) : Int) := by omega
    have hb : n - 1 ≤ 100000 := by omega
    generalize depM n = d at *
    generalize n - 1 = m at *
    refine W.ret [(2, aF), (4, aV (I6 (m:Int))), (5, aV (U6 (m:Int))), (6, aK (I6 (d:Int)))] [] [decide ((n:Int) ≤ 1) = false, I6 (IntKind.wrap .i64 ((n:Int) - 1)) = I6 (m:Int), U6 (IntKind.wrap .u64 (m:Int)) = U6 (m:Int), PC Tryd.prog G0 94 [] [U6 (m:Int)] [] (I6 (d:Int)), rr (I6 (d:Int))] (by kernel_rfl) (ac (decide_eq_false (by omega)) (ac (cg (w_i64 e1 (by omega) (by omega))) (ac (cg (w_u64 rfl (by omega) (by omega))) (ac (c1) (ao rfl)))))
theorem pc_bEqT {a b : Bool} {n m : Nat} {x : List Int} (hx : x.length = n) (hm : x.length = m) : PC Tryd.prog G0 62 [] [.vec a (.iarr .u8 n x), .vec b (.iarr .u8 m x)] [] (.bool true) := by
  refine PC.of (fn := Tryd.f62) (c := bodyOf Tryd.f62) Tryd.func62 (by kernel_rfl) (by kernel_rfl) (by kernel_rfl) (by kernel_rfl) ?_
  have h := ba_eqT (a := strOf x) (b := strOf x) rfl
  generalize strOf x = s at *
  refine W.ret [(5, aT)] [] [(ByteArray.toList (strOf x) == ByteArray.toList (strOf x)) = true, rr (PV.bool true)] (by kernel_rfl) (ac (by (simp [*]; done)) (ao rfl))
theorem pc_bEqF {a b : Bool} {n m : Nat} {x y : List Int} (hx : x.length = n) (hy : y.length = m) (bx : Bytes x) (bY : Bytes y) (hne : ¬ x = y) : PC Tryd.prog G0 62 [] [.vec a (.iarr .u8 n x), .vec b (.iarr .u8 m y)] [] (.bool false) := by
  refine PC.of (fn := Tryd.f62) (c := bodyOf Tryd.f62) Tryd.func62 (by kernel_rfl) (by kernel_rfl) (by kernel_rfl) (by kernel_rfl) ?_
  have h := ba_eqF (a := strOf x) (b := strOf y) (fun e => hne (strOf_inj bx bY e))
  refine W.ret [(5, aF)] [] [(ByteArray.toList (strOf x) == ByteArray.toList (strOf y)) = false, rr (PV.bool false)] (by kernel_rfl) (ac (by assumption) (ao rfl))
def paysB (L : List OutM) (it : List Int) : Bool := L.any fun o => decide (o.b = it)
structure OutsOk (L : List OutM) : Prop where
  bytes : ∀ o ∈ L, Bytes o.b
theorem outsM_ok {b : List Int} {N : Nat} : ∀ (n : Nat) (r : Rd), r.In b N → OutsOk (outsM n r)
  | 0, r, _ => ⟨fun o ho => by cases ho⟩
  | n + 1, r, h => by
    have h2 : (outR r).In b N := (h.tk 8).wd 64
    have ih := outsM_ok n (outR r) h2
    refine ⟨fun o ho => ?_⟩
    rcases List.mem_cons.1 ho with rfl | ho
    · show Bytes ((r.tk 8).wv 64)
      unfold Rd.wv
      split
      · exact ((h.tk 8).var 64).bytes.take _
      · intro x hx; cases hx
    · exact ih.bytes o ho
theorem out_get {L : List OutM} {i : Nat} (h : i < L.length) : (L.map outPV).getD i .undef = outPV L[i] := by simp [List.getD_eq_getElem?_getD, h]
theorem rout_get {L : List OutM} {i : Nat} (h : i < L.length) : (L.map routPV).getD i .undef = routPV L[i] := by simp [List.getD_eq_getElem?_getD, h]
def dsPy (nl il : Bool) (n m : Nat) (M : List PV) (it : List Int) (i : Nat) : DS := ⟨[(1, .vec il (.iarr .u8 m it)), (8, .vec nl (.parr 2 n osh M)), (9, .int .i64 n), (10, .int .i64 i)], []⟩
theorem W_pays {nl il : Bool} {n m : Nat} {L : List OutM} {it : List Int} (hL : L.length = n) (hn : n ≤ 1000000) (ho : OutsOk L) (hit : it.length = m) (bit : Bytes it) : ∀ (k i : Nat), i + k = n → paysB L it = paysB (L.drop i) it →
    W Tryd.prog G0 Tryd.f33 [] [] (.bool (paysB L it)) (loopAt Tryd.f33 0) (dsPy nl il n m (L.map outPV) it i)
  | 0, i, hk, hp => by
    rw [hp, List.drop_of_length_le (by omega)]
    have hi : i = n := by omega
    subst hi
    generalize L.map outPV = M at *
    unfold dsPy
    show W _ _ _ _ _ (.bool false) _ _
    refine W.ret [(0, aF)] [] [decide ((i:Int) < (i:Int)) = false, rr (PV.bool false)] (by kernel_rfl) (ac (decide_eq_false (by omega)) (ao rfl))
  | k + 1, i, hk, hp => by
    have hlt : i < L.length := by omega
    have g := out_get hlt
    have bo := ho.bytes L[i] (List.getElem_mem hlt)
    have hdrop : L.drop i = L[i] :: L.drop (i + 1) := List.drop_eq_getElem_cons hlt
    rw [hdrop] at hp
    have hw := W_pays (nl := nl) (il := il) hL hn ho hit bit k (i + 1) (by omega)
    generalize L[i] = o at *
    obtain ⟨ov, onl, ob⟩ := o
    dsimp only at bo
    change _ = PV.st 2 [.int .u64 (ov : Int), .vec onl (.iarr .u8 ob.length ob)] at g
    have hin : i < n := by omega
    by_cases heq : ob = it
    · have hp1 : paysB L it = true := by rw [hp]; unfold paysB; rw [List.any_cons, decide_eq_true heq]; rfl
      rw [hp1]
      subst heq
      have c1 := pc_bEqT (a := onl) (b := il) (n := ob.length) (m := m) (x := ob) rfl hit
      clear hw hp hp1 hdrop
      generalize L.map outPV = M at *
      unfold dsPy
      refine W.ret [(0, aT), (2, aV (PV.st 2 [U6 (ov:Int), PV.vec onl (B8 (List.length ob) ob)])), (8, aK (PV.bool true))] [] [decide ((i:Int) < (n:Int)) = true, 0 ≤ (i:Int), (i:Int) < (n:Int), PV.st 2 [U6 (PV.num (List.headD (PV.fs (List.getD M i PV.undef)) PV.undef)), PV.vec (PV.nil? (List.headD (List.tail (PV.fs (List.getD M i PV.undef))) PV.undef)) (B8 (PV.len (PV.els (List.headD (List.tail (PV.fs (List.getD M i PV.undef))) PV.undef))) (PV.nums (PV.els (List.headD (List.tail (PV.fs (List.getD M i PV.undef))) PV.undef))))] = PV.st 2 [U6 (ov:Int), PV.vec onl (B8 (List.length ob) ob)], i < n, PC Tryd.prog G0 62 [] [PV.vec onl (B8 (List.length ob) ob), PV.vec il (B8 m ob)] [] (PV.bool true), rr (PV.bool true)] (by kernel_rfl) (ac (decide_eq_true (by omega)) (ac (by omega) (ac (by omega) (ac (by (rw [g]; rfl)) (ac (by omega) (ac (c1) (ao rfl)))))))
    · have hp1 : paysB L it = paysB (L.drop (i + 1)) it := by rw [hp]; unfold paysB; rw [List.any_cons, decide_eq_false heq]; rfl
      have hw := hw hp1
      have c1 := pc_bEqF (a := onl) (b := il) (n := ob.length) (m := m) (x := ob) (y := it) rfl hit bo bit heq
      clear hp hp1 hdrop
      generalize paysB L it = res at *
      generalize L.map outPV = M at *
      unfold dsPy at *
      refine W.seg [(0, aT), (2, aV (PV.st 2 [U6 (ov:Int), PV.vec onl (B8 (List.length ob) ob)])), (8, aK (PV.bool false)), (9, aV (I6 (↑(i + 1) : Int)))] [] (DS.mk [(1, PV.vec il (B8 m it)), (8, PV.vec nl (PV.parr 2 n osh M)), (9, I6 (n:Int)), (10, I6 (↑(i + 1) : Int))] []) (todo' := loopAt Tryd.f33 0) [decide ((i:Int) < (n:Int)) = true, 0 ≤ (i:Int), (i:Int) < (n:Int), PV.st 2 [U6 (PV.num (List.headD (PV.fs (List.getD M i PV.undef)) PV.undef)), PV.vec (PV.nil? (List.headD (List.tail (PV.fs (List.getD M i PV.undef))) PV.undef)) (B8 (PV.len (PV.els (List.headD (List.tail (PV.fs (List.getD M i PV.undef))) PV.undef))) (PV.nums (PV.els (List.headD (List.tail (PV.fs (List.getD M i PV.undef))) PV.undef))))] = PV.st 2 [U6 (ov:Int), PV.vec onl (B8 (List.length ob) ob)], i < n, PC Tryd.prog G0 62 [] [PV.vec onl (B8 (List.length ob) ob), PV.vec il (B8 m it)] [] (PV.bool false), I6 (IntKind.wrap .i64 ((i:Int) + 1)) = I6 (↑(i + 1) : Int), rr (PV.vec il (B8 m it)), rr (PV.vec nl (PV.parr 2 n (Sh.st 2 [Sh.int IntKind.u64, Sh.vec 1 (Sh.int IntKind.u8)]) M)), rr (I6 (n:Int)), rr (I6 (↑(i + 1) : Int))] (by kernel_rfl) (ac (decide_eq_true (by omega)) (ac (by omega) (ac (by omega) (ac (by (rw [g]; rfl)) (ac (by omega) (ac (c1) (ac (cg (w_i64 rfl (by omega) (by omega))) (ac rfl (ac rfl (ac rfl (ao rfl))))))))))) ?_
      exact hw
theorem pc_pays {nl il : Bool} {n m s : Nat} {L : List OutM} {it : List Int} (hL : L.length = n) (hn : n ≤ 1000000) (ho : OutsOk L) (hit : it.length = m) (bit : Bytes it) : PC Tryd.prog G0 33 [] [.st 2 [.int .u64 s, .vec nl (.parr 2 n osh (L.map outPV))], .vec il (.iarr .u8 m it)] [] (.bool (paysB L it)) := by
  refine PC.of (fn := Tryd.f33) (c := bodyOf Tryd.f33) Tryd.func33 (by kernel_rfl) (by kernel_rfl) (by kernel_rfl) (by kernel_rfl) ?_
  have hw := W_pays (nl := nl) (il := il) hL hn ho hit bit n 0 (by omega) rfl
  generalize paysB L it = res at *
  generalize L.map outPV = M at *
  unfold dsPy at *
  refine W.seg [] [] (DS.mk [(1, PV.vec il (B8 m it)), (8, PV.vec nl (PV.parr 2 n osh M)), (9, I6 (n:Int)), (10, I6 (↑(0 : Nat) : Int))] []) (todo' := loopAt Tryd.f33 0) [rr (PV.vec il (B8 m it)), rr (PV.vec nl (PV.parr 2 n (Sh.st 2 [Sh.int IntKind.u64, Sh.vec 1 (Sh.int IntKind.u8)]) M)), rr (I6 (n:Int)), I6 0 = I6 (↑(0 : Nat) : Int)] (by kernel_rfl) (ac rfl (ac rfl (ac rfl (ao (cg (by omega)))))) ?_
  exact hw
/-- .. of a text: no, if it isn't a transaction's -/
def paysT (b it : List Int) : Bool := if txE b = 0 then paysB (txOuts b) it else false
def dsRp (nl : Bool) (n : Nat) (M : List PV) (s : ByteArray) (i : Nat) : DS := ⟨[(1, .str s), (17, .vec nl (.parr 2 n rosh M)), (18, .int .i64 n), (19, .int .i64 i)], []⟩
theorem W_rpays {nl : Bool} {n : Nat} {L : List OutM} {it : List Int} (hL : L.length = n) (hn : n ≤ 1000000) (ho : OutsOk L) (bit : Bytes it) : ∀ (k i : Nat), i + k = n → paysB L it = paysB (L.drop i) it →
    W Tryd.prog G0 Tryd.f35 [] [] (.bool (paysB L it)) (loopAt Tryd.f35 0) (dsRp nl n (L.map routPV) (strOf it) i)
  | 0, i, hk, hp => by
    rw [hp, List.drop_of_length_le (by omega)]
    have hi : i = n := by omega
    subst hi
    generalize L.map routPV = M at *
    generalize strOf it = s at *
    unfold dsRp
    show W _ _ _ _ _ (.bool false) _ _
    refine W.ret [(0, aF)] [] [decide ((i:Int) < (i:Int)) = false, rr (PV.bool false)] (by kernel_rfl) (ac (decide_eq_false (by omega)) (ao rfl))
  | k + 1, i, hk, hp => by
    have hlt : i < L.length := by omega
    have g := rout_get hlt
    have bo := ho.bytes L[i] (List.getElem_mem hlt)
    have hdrop : L.drop i = L[i] :: L.drop (i + 1) := List.drop_eq_getElem_cons hlt
    rw [hdrop] at hp
    have hw := W_rpays (nl := nl) hL hn ho bit k (i + 1) (by omega)
    generalize L[i] = o at *
    obtain ⟨ov, onl, ob⟩ := o
    dsimp only at bo
    change _ = PV.st 2 [.int .u64 (ov : Int), .str (strOf ob)] at g
    have hin : i < n := by omega
    by_cases heq : ob = it
    · have hp1 : paysB L it = true := by rw [hp]; unfold paysB; rw [List.any_cons, decide_eq_true heq]; rfl
      rw [hp1]
      subst heq
      have c1 := ba_eqT (a := strOf ob) (b := strOf ob) rfl
      clear hw hp hp1 hdrop
      generalize L.map routPV = M at *
      generalize strOf ob = s at *
      unfold dsRp
      refine W.ret [(0, aT), (2, aV (PV.st 2 [U6 (ov:Int), PV.str s])), (8, aT)] [] [decide ((i:Int) < (n:Int)) = true, 0 ≤ (i:Int), (i:Int) < (n:Int), PV.st 2 [U6 (PV.num (List.headD (PV.fs (List.getD M i PV.undef)) PV.undef)), PV.str (PV.text (List.headD (List.tail (PV.fs (List.getD M i PV.undef))) PV.undef))] = PV.st 2 [U6 (ov:Int), PV.str s], i < n, (ByteArray.toList s == ByteArray.toList s) = true, rr (PV.bool true)] (by kernel_rfl) (ac (decide_eq_true (by omega)) (ac (by omega) (ac (by omega) (ac (by (rw [g]; rfl)) (ac (by omega) (ac (by assumption) (ao rfl)))))))
    · have hp1 : paysB L it = paysB (L.drop (i + 1)) it := by rw [hp]; unfold paysB; rw [List.any_cons, decide_eq_false heq]; rfl
      have hw := hw hp1
      have c1 := ba_eqF (a := strOf ob) (b := strOf it) (fun e => heq (strOf_inj bo bit e))
      clear hp hp1 hdrop
      generalize paysB L it = res at *
      generalize L.map routPV = M at *
      generalize strOf ob = so at *
      generalize strOf it = s at *
      unfold dsRp at *
      refine W.seg [(0, aT), (2, aV (PV.st 2 [U6 (ov:Int), PV.str so])), (8, aF), (9, aV (I6 (↑(i + 1) : Int)))] [] (DS.mk [(1, PV.str s), (17, PV.vec nl (PV.parr 2 n rosh M)), (18, I6 (n:Int)), (19, I6 (↑(i + 1) : Int))] []) (todo' := loopAt Tryd.f35 0) [decide ((i:Int) < (n:Int)) = true, 0 ≤ (i:Int), (i:Int) < (n:Int), PV.st 2 [U6 (PV.num (List.headD (PV.fs (List.getD M i PV.undef)) PV.undef)), PV.str (PV.text (List.headD (List.tail (PV.fs (List.getD M i PV.undef))) PV.undef))] = PV.st 2 [U6 (ov:Int), PV.str so], i < n, (ByteArray.toList so == ByteArray.toList s) = false, I6 (IntKind.wrap .i64 ((i:Int) + 1)) = I6 (↑(i + 1) : Int), rr (PV.str s), rr (PV.vec nl (PV.parr 2 n (Sh.st 2 [Sh.int IntKind.u64, Sh.str]) M)), rr (I6 (n:Int)), rr (I6 (↑(i + 1) : Int))] (by kernel_rfl) (ac (decide_eq_true (by omega)) (ac (by omega) (ac (by omega) (ac (by (rw [g]; rfl)) (ac (by omega) (ac (by assumption) (ac (cg (w_i64 rfl (by omega) (by omega))) (ac rfl (ac rfl (ac rfl (ao rfl))))))))))) ?_
      exact hw
theorem routsPV_eq (L : List OutM) : routsPV L = .vec L.isEmpty (.parr 2 L.length rosh (L.map routPV)) := by
  cases L with
  | nil => rfl
  | cons x l => unfold routsPV; rw [if_neg (by intro e; cases e)]; rfl
theorem outsPV_eq (L : List OutM) : outsPV L = .vec L.isEmpty (.parr 2 L.length osh (L.map outPV)) := by
  cases L with
  | nil => rfl
  | cons x l => unfold outsPV; rw [if_neg (by intro e; cases e)]; rfl
theorem outsM_length : ∀ (n : Nat) (r : Rd), (outsM n r).length = n
  | 0, _ => rfl
  | n + 1, r => by rw [outsM, List.length_cons, outsM_length n]
theorem pc_rPays {N : Nat} {b it : List Int} (hl : b.length = N) (hb : Bytes b) (hN : N ≤ 1000000) (bit : Bytes it) (hit : it.length ≤ 1000000) : PC Tryd.prog G0 35 [] [.str (strOf b), .str (strOf it)] [] (.bool (paysT b it)) := by
  refine PC.of (fn := Tryd.f35) (c := bodyOf Tryd.f35) Tryd.func35 (by kernel_rfl) (by kernel_rfl) (by kernel_rfl) (by kernel_rfl) ?_
  have c1 := pc_rParse hl hb hN
  have hle := txE_le b
  unfold paysT
  by_cases h0 : txE b = 0
  · rw [if_pos h0]
    have hr : (txR3 b).In b N := (((⟨hl, by show b.length ≤ N; omega, by show b = b.drop (N - b.length); rw [hl, Nat.sub_self]; rfl, hb⟩ : (Rd.mk b 0).In b N).tk 1).tk 8).var 8
    have hw := W_rpays (nl := (txOuts b).isEmpty) (L := txOuts b) (n := (txOuts b).length) rfl (by unfold txOuts; rw [outsM_length]; have := Rd.vn_le (txR2 b) 8; unfold txN; omega) (outsM_ok _ _ hr) bit (txOuts b).length 0 (by omega) rfl
    unfold rtxP rtxRes at c1
    rw [if_pos h0, h0, routsPV_eq] at c1
    generalize paysB (txOuts b) it = res at *
    generalize (txOuts b).map routPV = M at *
    generalize (txOuts b).isEmpty = nl at *
    generalize (txOuts b).length = n at *
    generalize txSalt b = salt at *
    generalize strOf it = s at *
    generalize strOf b = t at *
    unfold dsRp at *
    refine W.seg [(2, Ans.call false [] [] (PV.tup [PV.st 2 [U6 (salt:Int), PV.vec nl (PV.parr 2 n (Sh.st 2 [Sh.int IntKind.u64, Sh.str]) M)], I6 (↑(0 : Nat) : Int)])), (5, aV (I6 0))] [] (DS.mk [(1, PV.str s), (17, PV.vec nl (PV.parr 2 n rosh M)), (18, I6 (n:Int)), (19, I6 (↑(0 : Nat) : Int))] []) (todo' := loopAt Tryd.f35 0) [PC Tryd.prog G0 28 [] [PV.str t] [] (PV.tup [PV.st 2 [U6 (salt:Int), PV.vec nl (PV.parr 2 n (Sh.st 2 [Sh.int IntKind.u64, Sh.str]) M)], I6 (↑(0 : Nat) : Int)]), I6 (↑(0 : Nat) : Int) = I6 0, rr (PV.str s), rr (PV.vec nl (PV.parr 2 n (Sh.st 2 [Sh.int IntKind.u64, Sh.str]) M)), rr (I6 (n:Int)), I6 0 = I6 (↑(0 : Nat) : Int)] (by kernel_rfl) (ac (c1) (ac (cg (by omega)) (ac rfl (ac rfl (ac rfl (ao (cg (by omega)))))))) ?_
    exact hw
  · rw [if_neg h0]
    obtain ⟨s, o, m, M, hf⟩ := rtxP_form b
    rw [hf] at c1
    have hne : ¬ ((txE b : Int) = 0) := by omega
    generalize txE b = e at *
    generalize strOf it = si at *
    generalize strOf b = t at *
    refine W.ret [(2, Ans.call false [] [] (PV.tup [PV.st 2 [U6 (s:Int), PV.vec o (PV.parr 2 m (Sh.st 2 [Sh.int IntKind.u64, Sh.str]) M)], I6 (e:Int)])), (10, aT)] [] [PC Tryd.prog G0 28 [] [PV.str t] [] (PV.tup [PV.st 2 [U6 (s:Int), PV.vec o (PV.parr 2 m (Sh.st 2 [Sh.int IntKind.u64, Sh.str]) M)], I6 (e:Int)]), ((e:Int) != 0) = true, rr (PV.bool false)] (by kernel_rfl) (ac (c1) (ac (bne_iff_ne.2 (by omega)) (ao rfl)))
end Go.Proofs
