/- Merged texts: the pure machine and what the walks show. Conditions: as each statement says. -/
import Derived.Carry
import Derived.ChangeArms
import Derived.ChangeSame
import Derived.ChangeCalls
import Derived.JoinedOf
import Derived.Handed
import Derived.OpenShut
import Derived.RowKit
import Derived.ProofKit
import Derived.LaidLaws
import Derived.LaidHandle
import Derived.FnData
import GoSem.ClaimSeven
import Derived.Test.YtdlipfcaomomfaaDoorQ3
namespace Go.Proofs
open Go Go.Pe Go.Pm
set_option maxRecDepth 100000
set_option linter.unusedVariables false
def dsOw (h : Hd) (nl : Bool) (n : Nat) (T M : List PV) (i : Nat) : DS := ⟨[(2, .at 1 []), (3, .at 2 []), (10, .vec nl (.parr 1 n bsh T)), (11, .int .i64 n), (12, .int .i64 i)], [(1, ⟨.st 69 [.st 68 [.int .u32 0, .iarr .u8 32 z32, .iarr .u8 32 z32, .int .u32 0, .int .u32 0, .int .u32 0], .vec true (.parr 1 0 bsh [])], false⟩), (2, ⟨.st 69 [.st 68 [.int .u32 h.ver, .iarr .u8 32 h.prev, .iarr .u8 32 h.root, .int .u32 h.time, .int .u32 h.bits, .int .u32 h.nonce], .ref 3 [] 1 0 i], false⟩), (3, ⟨.parr 1 i bsh M, false⟩)]⟩
theorem W_own {h : Hd} {nl : Bool} {n : Nat} {L : List TxM} (ho : TxsOk L n) (hn : n ≤ 100000) : ∀ (k i : Nat), i + k = n → 0 < i →
    W Tryd.prog G0 Tryd.f14 [] [] (blkPV h (decide (n = 0)) n L) (loopAt Tryd.f14 0) (dsOw h nl n (L.map bsPV) ((L.map bsPV).take i) i)
  | 0, i, hk, h0 => by
    have hi : i = n := by omega
    subst hi
    have e : (L.map bsPV).take i = L.map bsPV := List.take_of_length_le (by rw [List.length_map, ho.len]; omega)
    rw [e]
    have hl : (L.map bsPV).length = i := by rw [List.length_map, ho.len]
    have hd : decide (i = 0) = false := decide_eq_false (by omega)
    unfold blkPV txsPV
    rw [hd]
    generalize L.map bsPV = T at *
    unfold dsOw Hd.pv
    refine W.ret [(0, aF)] [] [decide ((i:Int) < (i:Int)) = false, 0 + i ≤ i, PV.st 69 [Hd.pv h, PV.vec false (PV.parr 1 i (Sh.vec 1 (Sh.int IntKind.u8)) (List.take i T))] = PV.st 69 [Hd.pv h, PV.vec false (PV.parr 1 i (Sh.vec 1 (Sh.int IntKind.u8)) T)]] (by kernel_rfl) (ac (dF (by omega)) (ac (by omega) (ao (by (simp; omega)))))
  | k + 1, i, hk, h0 => by
    have hi : i < n := by omega
    have hlt : i < L.length := by rw [ho.len]; exact hi
    have g := bs_get (l := L) (i := i) hlt
    obtain ⟨hb, hnl, hN⟩ := ho.get hi
    have hw := W_own (h := h) (nl := nl) ho hn k (i + 1) (by omega) (by omega)
    rw [bsl_get hlt] at hw
    have hl : ((L.map bsPV).take i).length = i := by rw [List.length_take, List.length_map, ho.len]; omega
    generalize L.getD i default = x at *
    obtain ⟨xnl, xN, xb⟩ := x
    have c1 := pc_cloneV (by omega) hb.len hnl
    dsimp only at *
    change _ = PV.vec xnl (.iarr .u8 xN xb) at g
    change W _ _ _ _ _ _ _ (dsOw h nl n (L.map bsPV) ((L.map bsPV).take i ++ [PV.vec xnl (.iarr .u8 xN xb)]) (i + 1)) at hw
    generalize blkPV h (decide (n = 0)) n L = res at *
    generalize (L.map bsPV).take i = M at *
    generalize L.map bsPV = T at *
    unfold dsOw at *
    refine W.sg 0 [(0, aT), (2, aE g), (7, c0 c1), (9, Ans.ups [(3, none), (208, some (Row.mk (PV.parr 1 (i + 1) (Sh.vec 1 (Sh.int IntKind.u8)) (M ++ [PV.vec xnl (B8 xN xb)])) false))]), (12, aV (I6 (↑(i + 1) : Int)))] [(1, 1), (2, 2), (208, 3)] (⟨[(2, .at 1 []), (3, .at 2 []), (10, .vec nl (.parr 1 n bsh T)), (11, .int .i64 n), (12, .int .i64 ((i + 1 : Nat) : Int))], [(1, ⟨.st 69 [.st 68 [.int .u32 0, .iarr .u8 32 z32, .iarr .u8 32 z32, .int .u32 0, .int .u32 0, .int .u32 0], .vec true (.parr 1 0 bsh [])], false⟩), (2, ⟨.st 69 [.st 68 [.int .u32 h.ver, .iarr .u8 32 h.prev, .iarr .u8 32 h.root, .int .u32 h.time, .int .u32 h.bits, .int .u32 h.nonce], .ref 3 [] 1 0 (i + 1)], false⟩), (3, ⟨.parr 1 (i + 1) bsh (M ++ [.vec xnl (.iarr .u8 xN xb)]), false⟩)]⟩ : DS) [decide ((i:Int) < (n:Int)) = true, 0 ≤ (i:Int), (i:Int) < (n:Int), _, i < n, _, ([(3, none), (208, some (Row.mk (PV.parr 1 (i + 1) (Sh.vec 1 (Sh.int IntKind.u8)) (List.take i M ++ [PV.vec xnl (B8 xN xb)])) false))] : List (Nat × Option Row)) = [(3, none), (208, some (Row.mk (PV.parr 1 (i + 1) (Sh.vec 1 (Sh.int IntKind.u8)) (M ++ [PV.vec xnl (B8 xN xb)])) false))], 1 ≤ 1, 0 + i = i, (i + 1) * 24 ≤ 140737488355328, i + 1 ≤ 9223372036854775807, I6 (IntKind.wrap .i64 ((i:Int) + 1)) = I6 (↑(i + 1) : Int)] (by kernel_rfl) (ac (dT (by omega)) (ac (by omega) (ac (by omega) (ac (ex g) (ac (by omega) (ac (c1) (ac (by rw [List.take_of_length_le (show List.length M ≤ i by omega)]) (ac (by omega) (ac (by omega) (ac (by omega) (ac (by omega) (ao (cg (w_i64 rfl (by omega) (by omega))))))))))))))) ?_
    exact hw
theorem pc_own {h : Hd} {nl : Bool} {n : Nat} {L : List TxM} (ho : TxsOk L n) (hn : n ≤ 100000) : PC Tryd.prog G0 14 [] [blkPV h nl n L] [] (blkPV h (decide (n = 0)) n L) := by
  refine PC.of (fn := Tryd.f14) (c := bodyOf Tryd.f14) Tryd.func14 (by kernel_rfl) (by kernel_rfl) (by kernel_rfl) (by kernel_rfl) ?_
  by_cases h0 : n = 0
  · subst h0
    have hL : L = [] := List.eq_nil_of_length_eq_zero ho.len
    subst hL
    unfold blkPV txsPV Hd.pv at *
    change W _ _ _ _ _ (PV.st 69 [_, PV.vec true (PV.parr 1 0 bsh [])]) _ _
    rw [List.map_nil]
    refine W.sg 0 [(9, aV (I6 0))] [(80, 1), (144, 2)] (⟨[(2, .at 1 []), (3, .at 2 []), (10, .vec nl (.parr 1 0 bsh [])), (11, .int .i64 (0 : Int)), (12, .int .i64 0)], [(1, ⟨.st 69 [.st 68 [.int .u32 0, .iarr .u8 32 z32, .iarr .u8 32 z32, .int .u32 0, .int .u32 0, .int .u32 0], .vec true (.parr 1 0 bsh [])], false⟩), (2, ⟨.st 69 [.st 68 [.int .u32 h.ver, .iarr .u8 32 h.prev, .iarr .u8 32 h.root, .int .u32 h.time, .int .u32 h.bits, .int .u32 h.nonce], .vec true (.parr 1 0 bsh [])], false⟩)]⟩ : DS) [I6 (↑(0 : Nat) : Int) = I6 0] (by kernel_rfl) (ao (cg (by omega))) ?_
    refine W.rt [] [] [] (by kernel_rfl) trivial
  · have hlt : 0 < L.length := by rw [ho.len]; omega
    have g := bs_get (l := L) (i := 0) hlt
    obtain ⟨hb, hnl, hN⟩ := ho.get (i := 0) (by omega)
    have hw := W_own (h := h) (nl := nl) ho hn (n - 1) 1 (by omega) (by omega)
    have hs := bsl_get hlt
    rw [List.take_zero, List.nil_append] at hs
    rw [hs] at hw
    generalize L.getD 0 default = x at *
    obtain ⟨xnl, xN, xb⟩ := x
    have c1 := pc_cloneV (by omega) hb.len hnl
    dsimp only at *
    change _ = PV.vec xnl (.iarr .u8 xN xb) at g
    change W _ _ _ _ _ _ _ (dsOw h nl n (L.map bsPV) [PV.vec xnl (.iarr .u8 xN xb)] 1) at hw
    have hn0 : 0 < n := by omega
    clear hs h0
    generalize blkPV h (decide (n = 0)) n L = res at *
    unfold blkPV txsPV at *
    generalize L.map bsPV = T at *
    unfold dsOw Hd.pv at *
    refine W.sg 0 [] [(80, 1), (144, 2)] (⟨[(2, .at 1 []), (3, .at 2 []), (10, .vec nl (.parr 1 n bsh T)), (11, .int .i64 n), (12, .int .i64 0)], [(1, ⟨.st 69 [.st 68 [.int .u32 0, .iarr .u8 32 z32, .iarr .u8 32 z32, .int .u32 0, .int .u32 0, .int .u32 0], .vec true (.parr 1 0 bsh [])], false⟩), (2, ⟨.st 69 [.st 68 [.int .u32 h.ver, .iarr .u8 32 h.prev, .iarr .u8 32 h.root, .int .u32 h.time, .int .u32 h.bits, .int .u32 h.nonce], .vec true (.parr 1 0 bsh [])], false⟩)]⟩ : DS) [] (by kernel_rfl) trivial ?_
    refine W.sg 0 [(0, aT), (2, aE g), (7, c0 c1), (12, aV (I6 1))] [(1, 1), (2, 2), (208, 3)] (⟨[(2, .at 1 []), (3, .at 2 []), (10, .vec nl (.parr 1 n bsh T)), (11, .int .i64 n), (12, .int .i64 (1 : Int))], [(1, ⟨.st 69 [.st 68 [.int .u32 0, .iarr .u8 32 z32, .iarr .u8 32 z32, .int .u32 0, .int .u32 0, .int .u32 0], .vec true (.parr 1 0 bsh [])], false⟩), (2, ⟨.st 69 [.st 68 [.int .u32 h.ver, .iarr .u8 32 h.prev, .iarr .u8 32 h.root, .int .u32 h.time, .int .u32 h.bits, .int .u32 h.nonce], .ref 3 [] 1 0 1], false⟩), (3, ⟨.parr 1 1 bsh [.vec xnl (.iarr .u8 xN xb)], false⟩)]⟩ : DS) [decide (0 < (n:Int)) = true, (0 : Int) ≤ (0 : Int), 0 < (n:Int), _, 0 < n, _, 1 ≤ 1, 0 < 1, 24 ≤ 140737488355328, 1 ≤ 9223372036854775807, I6 (IntKind.wrap .i64 ((0 : Int) + (1 : Int))) = I6 1] (by kernel_rfl) (ac (dT (by omega)) (ac (by omega) (ac (by omega) (ac (ex g) (ac (by omega) (ac (c1) (ac (by omega) (ac (by omega) (ac (by omega) (ac (by omega) (ao (cg (w_i64 rfl (by omega) (by omega)))))))))))))) ?_
    exact hw
/-- a block -/
structure Blk where
  h : Hd
  nl : Bool
  n : Nat
  L : List TxM
instance : Inhabited Blk := ⟨⟨⟨0, z32, z32, 0, 0, 0⟩, true, 0, []⟩⟩
def Blk.pv (b : Blk) : PV := blkPV b.h b.nl b.n b.L
structure BlkOk (b : Blk) : Prop where
  h : b.h.Ok
  t : TxsOk b.L b.n
  n : b.n ≤ 100000
def goodB (b : Blk) : Bool := decide (b.n ≤ 17) && b.L.all fun x => decide (x.2.1 ≤ 300)
def fineB (Bs : List Blk) : Bool := decide (Bs.length ≤ 10) && Bs.all goodB
def blksPV (bn : Bool) (n : Nat) (Bs : List Blk) : PV := .vec bn (.parr 69 n bksh (Bs.map Blk.pv))
def casePV (f : List Int) (bn : Bool) (n : Nat) (Bs : List Blk) : PV := .st 33 [.iarr .u8 32 f, blksPV bn n Bs]
theorem blk_get {Bs : List Blk} {i : Nat} (h : i < Bs.length) : (Bs.map Blk.pv).getD i .undef = (Bs.getD i default).pv := by simp [List.getD_eq_getElem?_getD, h]
def dFo (bn : Bool) (n : Nat) (B : List PV) (i : Nat) : DS := ⟨[(12, .vec bn (.parr 69 n bksh B)), (13, .int .i64 n), (14, .int .i64 i)], []⟩
def dFi (bn : Bool) (n : Nat) (B : List PV) (i : Nat) (tn : Bool) (m : Nat) (T : List PV) (j : Nat) : DS := ⟨[(12, .vec bn (.parr 69 n bksh B)), (13, .int .i64 n), (14, .int .i64 i), (23, .vec tn (.parr 1 m bsh T)), (24, .int .i64 m), (25, .int .i64 j)], []⟩
theorem W_fineIn {bn : Bool} {n : Nat} {B : List PV} {i : Nat} {tn : Bool} {m : Nat} {L : List TxM} {rest : Bool} (hi : i < n) (hn : n ≤ 10) (hL : L.length = m) (hm : m ≤ 17)
    (hw : W Tryd.prog G0 Tryd.f5 [] [] (.bool rest) (loopAt Tryd.f5 0) (dFo bn n B (i + 1))) : ∀ (k j : Nat) (res : Bool), j + k = m → res = (((L.drop j).all fun x => decide (x.2.1 ≤ 300)) && rest) →
    W Tryd.prog G0 Tryd.f5 [] [] (.bool res) (loopAt Tryd.f5 1) (dFi bn n B i tn m (L.map bsPV) j)
  | 0, j, res, hk, hr => by
    have hj : j = m := by omega
    subst hj
    rw [List.drop_of_length_le (by omega), List.all_nil, Bool.true_and] at hr
    subst hr
    generalize L.map bsPV = T at *
    unfold dFo at hw
    unfold dFi
    refine W.sg 0 [(0, aF), (1, aV (I6 (↑(i + 1) : Int)))] [] (⟨[(12, .vec bn (.parr 69 n bksh B)), (13, .int .i64 n), (14, .int .i64 ((i + 1 : Nat) : Int))], []⟩ : DS) [decide ((j:Int) < (j:Int)) = false, I6 (IntKind.wrap .i64 ((i:Int) + 1)) = I6 (↑(i + 1) : Int)] (by kernel_rfl) (ac (dF (by omega)) (ao (cg (w_i64 rfl (by omega) (by omega))))) ?_
    exact hw
  | k + 1, j, res, hk, hr => by
    have hj : j < m := by omega
    have hlt : j < L.length := by omega
    have g := bs_get (l := L) (i := j) hlt
    have hdrop : L.drop j = L.getD j default :: L.drop (j + 1) := by rw [List.drop_eq_getElem_cons hlt]; simp [List.getD_eq_getElem?_getD, hlt]
    rw [hdrop, List.all_cons, Bool.and_assoc] at hr
    have ih := W_fineIn (tn := tn) hi hn hL hm hw k (j + 1)
    generalize L.getD j default = x at *
    obtain ⟨xnl, xN, xb⟩ := x
    dsimp only at *
    change _ = PV.vec xnl (.iarr .u8 xN xb) at g
    by_cases h3 : xN ≤ 300
    · rw [decide_eq_true h3, Bool.true_and] at hr
      have ih := ih res (by omega) hr
      clear hr hdrop hw
      generalize L.map bsPV = T at *
      unfold dFi at *
      refine W.sg 1 [(0, aT), (2, aE g), (6, aF), (7, aV (I6 (↑(j + 1) : Int)))] [] (⟨[(12, .vec bn (.parr 69 n bksh B)), (13, .int .i64 n), (14, .int .i64 i), (23, .vec tn (.parr 1 m bsh T)), (24, .int .i64 m), (25, .int .i64 ((j + 1 : Nat) : Int))], []⟩ : DS) [decide ((j:Int) < (m:Int)) = true, 0 ≤ (j:Int), (j:Int) < (m:Int), _, j < m, decide ((xN:Int) > 300) = false, I6 (IntKind.wrap .i64 ((j:Int) + 1)) = I6 (↑(j + 1) : Int)] (by kernel_rfl) (ac (dT (by omega)) (ac (by omega) (ac (by omega) (ac (ex g) (ac (by omega) (ac (dF (by omega)) (ao (cg (w_i64 rfl (by omega) (by omega)))))))))) ?_
      exact ih
    · rw [decide_eq_false h3, Bool.false_and] at hr
      subst hr
      clear hdrop hw ih
      generalize L.map bsPV = T at *
      unfold dFi
      refine W.rt [(0, aT), (2, aE g), (6, aT)] [] [decide ((j:Int) < (m:Int)) = true, 0 ≤ (j:Int), (j:Int) < (m:Int), _, j < m, decide ((xN:Int) > 300) = true] (by kernel_rfl) (ac (dT (by omega)) (ac (by omega) (ac (by omega) (ac (ex g) (ac (by omega) (ao (dT (by omega))))))))
theorem W_fine {bn : Bool} {n : Nat} {Bs : List Blk} (hB : Bs.length = n) (hn : n ≤ 10) (hL : ∀ b ∈ Bs, b.L.length = b.n) : ∀ (k i : Nat) (res : Bool), i + k = n → res = ((Bs.drop i).all goodB) →
    W Tryd.prog G0 Tryd.f5 [] [] (.bool res) (loopAt Tryd.f5 0) (dFo bn n (Bs.map Blk.pv) i)
  | 0, i, res, hk, hr => by
    have hi : i = n := by omega
    subst hi
    rw [List.drop_of_length_le (by omega), List.all_nil] at hr
    subst hr
    generalize Bs.map Blk.pv = B at *
    unfold dFo
    refine W.rt [(0, aF)] [] [decide ((i:Int) < (i:Int)) = false] (by kernel_rfl) (ao (dF (by omega)))
  | k + 1, i, res, hk, hr => by
    have hi : i < n := by omega
    have hlt : i < Bs.length := by omega
    have g := blk_get hlt
    have hdrop : Bs.drop i = Bs.getD i default :: Bs.drop (i + 1) := by rw [List.drop_eq_getElem_cons hlt]; simp [List.getD_eq_getElem?_getD, hlt]
    have hmem : Bs.getD i default ∈ Bs := by
      have : Bs.getD i default = Bs[i] := by simp [List.getD_eq_getElem?_getD, hlt]
      rw [this]; exact List.getElem_mem hlt
    have hlb := hL _ hmem
    rw [hdrop, List.all_cons] at hr
    have ih := W_fine (bn := bn) hB hn hL k (i + 1) _ (by omega) rfl
    generalize (Bs.drop (i + 1)).all goodB = rest at *
    generalize Bs.getD i default = b at *
    obtain ⟨h, tn, m, L⟩ := b
    unfold Blk.pv goodB at *
    dsimp only at *
    clear hdrop hmem
    generalize Bs.map (fun b : Blk => blkPV b.h b.nl b.n b.L) = B at *
    by_cases h17 : m ≤ 17
    · rw [decide_eq_true h17, Bool.true_and] at hr
      have hin := W_fineIn (tn := tn) hi hn hlb h17 ih m 0 res (by omega) hr
      clear hr ih
      unfold blkPV txsPV Hd.pv at g
      generalize L.map bsPV = T at *
      unfold dFi at hin
      unfold dFo
      refine W.sg 1 [(0, aT), (2, aE g), (8, aF)] [] (⟨[(12, .vec bn (.parr 69 n bksh B)), (13, .int .i64 n), (14, .int .i64 i), (23, .vec tn (.parr 1 m bsh T)), (24, .int .i64 m), (25, .int .i64 (0 : Int))], []⟩ : DS) [decide ((i:Int) < (n:Int)) = true, 0 ≤ (i:Int), (i:Int) < (n:Int), _, i < n, decide ((m:Int) > 17) = false] (by kernel_rfl) (ac (dT (by omega)) (ac (by omega) (ac (by omega) (ac (ex g) (ac (by omega) (ao (dF (by omega)))))))) ?_
      exact hin
    · rw [decide_eq_false h17, Bool.false_and, Bool.false_and] at hr
      subst hr
      clear ih
      unfold blkPV txsPV Hd.pv at g
      generalize L.map bsPV = T at *
      unfold dFo
      refine W.rt [(0, aT), (2, aE g), (8, aT)] [] [decide ((i:Int) < (n:Int)) = true, 0 ≤ (i:Int), (i:Int) < (n:Int), _, i < n, decide ((m:Int) > 17) = true] (by kernel_rfl) (ac (dT (by omega)) (ac (by omega) (ac (by omega) (ac (ex g) (ac (by omega) (ao (dT (by omega))))))))
theorem pc_fine {f : List Int} {bn : Bool} {n : Nat} {Bs : List Blk} (hB : Bs.length = n) (hL : ∀ b ∈ Bs, b.L.length = b.n) : PC Tryd.prog G0 5 [] [casePV f bn n Bs] [] (.bool (fineB Bs)) := by
  refine PC.of (fn := Tryd.f5) (c := bodyOf Tryd.f5) Tryd.func5 (by kernel_rfl) (by kernel_rfl) (by kernel_rfl) (by kernel_rfl) ?_
  unfold fineB casePV blksPV
  by_cases h10 : n ≤ 10
  · rw [hB, decide_eq_true h10, Bool.true_and]
    have hw := W_fine (bn := bn) hB h10 hL n 0 _ (by omega) rfl
    rw [List.drop_zero] at hw
    generalize Bs.all goodB = res at *
    generalize Bs.map Blk.pv = B at *
    unfold dFo at hw
    refine W.sg 0 [(5, aF)] [] (⟨[(12, .vec bn (.parr 69 n bksh B)), (13, .int .i64 n), (14, .int .i64 (0 : Int))], []⟩ : DS) [decide ((n:Int) > 10) = false] (by kernel_rfl) (ao (dF (by omega))) ?_
    exact hw
  · rw [hB, decide_eq_false h10, Bool.false_and]
    generalize Bs.map Blk.pv = B at *
    refine W.rt [(5, aT)] [] [decide ((n:Int) > 10) = true] (by kernel_rfl) (ao (dT (by omega)))
end Go.Proofs
namespace Go.Proofs
open Go Go.Pe Go.Pm
set_option maxRecDepth 100000
set_option linter.unusedVariables false
/-- a header's bytes -/
def hb (h : Hd) : List Int := (((le h.ver 4 ++ (h.prev ++ h.root)) ++ le h.time 4) ++ le h.bits 4) ++ le h.nonce 4
/-- a header's hash -/
def hhash (h : Hd) : List Int := dsha (hb h)
theorem hb_length {h : Hd} (ho : h.Ok) : (hb h).length = 80 := by
  unfold hb
  simp only [List.length_append, le_length, ho.prev, ho.root]
theorem hb_bytes {h : Hd} (ho : h.Ok) : Bytes (hb h) := by
  unfold hb
  exact (((((le_bytes _ _).append (Bytes.append ho.prevB ho.rootB)).append (le_bytes _ _)).append (le_bytes _ _)).append (le_bytes _ _))
theorem hhash_length (h : Hd) : (hhash h).length = 32 := sha_length _
def dsHb (ns : List Int) (n : Nat) (b : List Int) (i : Nat) : DS := ⟨[(3, .at 2 []), (25, .iarr .u32 3 ns), (26, .int .i64 i)], [(2, wrR 3 n), (3, rowB n b)]⟩
set_option maxHeartbeats 4000000 in
theorem pc_hdBytes {h : Hd} (ho : h.Ok) : PC Tryd.prog G0 20 [] [h.pv] [(1, rowB 80 (hb h))] (.ref 1 [] 1 0 80) := by
  refine PC.of (fn := Tryd.f20) (c := bodyOf Tryd.f20) Tryd.func20 (by kernel_rfl) (by kernel_rfl) (by kernel_rfl) (by kernel_rfl) ?_
  have hlen := hb_length ho
  have p1 := ho.ver
  have p2 := ho.time
  have p3 := ho.bits
  have p4 := ho.nonce
  have p5 := ho.prev
  have p6 := ho.root
  have c1 := pc_wrNew
  have c2 := pc_wrNumN (x := h.ver) (w := 4) (by omega) (by omega) (by omega)
  have l1 := le_length h.ver 4
  have c3 := pc_wrPut (nl := false) (l := [(false, 32, h.prev), (false, 32, h.root)]) (c := 2) (n := 4) (m := 68) (b := le h.ver 4) (q := le h.ver 4 ++ (h.prev ++ h.root)) rfl (by omega) (by
    intro x hx
    simp only [List.mem_cons, List.not_mem_nil, or_false] at hx
    rcases hx with rfl | rfl
    · exact ⟨ho.prev, ho.prevB⟩
    · exact ⟨ho.root, ho.rootB⟩) (by omega) (by omega) l1 (by simp [cat]) (by simp only [List.length_append, l1, p5, p6])
  have l2 : (le h.ver 4 ++ (h.prev ++ h.root)).length = 68 := by simp only [List.length_append, l1, p5, p6]
  have c4 := pc_wrNum (x := h.time) (w := 4) (by omega) (by omega) l2 (by omega)
  have l3 : ((le h.ver 4 ++ (h.prev ++ h.root)) ++ le h.time 4).length = 72 := by rw [List.length_append, l2, le_length]
  have c5 := pc_wrNum (x := h.bits) (w := 4) (by omega) (by omega) l3 (by omega)
  have l4 : (((le h.ver 4 ++ (h.prev ++ h.root)) ++ le h.time 4) ++ le h.bits 4).length = 76 := by rw [List.length_append, l3, le_length]
  have c6 := pc_wrNum (x := h.nonce) (w := 4) (by omega) (by omega) l4 (by omega)
  have c7 := pc_wrBytes (n := 80) (l := hb h) (by omega) (by omega) hlen
  unfold hb at c7 hlen ⊢
  unfold bsPV at c3
  dsimp only [List.map] at c3
  generalize le h.ver 4 ++ (h.prev ++ h.root) = b1 at *
  generalize b1 ++ le h.time 4 = b2 at *
  generalize b2 ++ le h.bits 4 = b3 at *
  generalize b3 ++ le h.nonce 4 = b4 at *
  generalize le h.ver 4 = b0 at *
  obtain ⟨ver, prev, root, time, bits, nonce⟩ := h
  unfold Hd.pv
  dsimp only at *
  refine W.sg 0 [(2, c9 c1), (7, aV (U6 (ver:Int))), (8, cC true [(97, 0)] c2), (14, Ans.frz [64]), (15, cL true [(97, 0), (194, 1)] c3)] [(97, 2), (306, 3)] (dsHb [(time : Int), (bits : Int), (nonce : Int)] 68 b1 0) [_, U6 (IntKind.wrap .u64 (ver:Int)) = U6 (ver:Int), _, (0 : Int) ≤ (0 : Int), 0 ≤ (↑(32 : Nat) : Int), (↑(32 : Nat) : Int) ≤ (↑(32 : Nat) : Int), (0 : Int) ≤ (0 : Int), 0 ≤ (↑(32 : Nat) : Int), (↑(32 : Nat) : Int) ≤ (↑(32 : Nat) : Int), 32 ≤ 32, 32 ≤ 32, 2 ≤ 2, rr ([(0, Row.mk (PV.st 1 [PV.ref 1 [] 1 0 4]) false), (1, Row.mk (B8 4 b0) false)] : List (Nat × Row)), ([PV.at 0 [], PV.vec false (PV.parr 1 2 (Sh.vec 1 (Sh.int IntKind.u8)) [PV.vec false (B8 32 (List.take 32 prev)), PV.vec false (B8 32 (List.take 32 root))])] : List PV) = [PV.at 0 [], PV.vec false (PV.parr 1 2 (Sh.vec 1 (Sh.int IntKind.u8)) [PV.vec false (B8 32 prev), PV.vec false (B8 32 root)])], _] (by kernel_rfl) (ac (c1) (ac (cg (w_u64 rfl (by omega) (by omega))) (ac (c2) (ac (by omega) (ac (by omega) (ac (by omega) (ac (by omega) (ac (by omega) (ac (by omega) (ac (by omega) (ac (by omega) (ac (by omega) (ac rfl (ac (by rw [List.take_of_length_le (show List.length prev ≤ 32 by omega), List.take_of_length_le (show List.length root ≤ 32 by omega)]) (ao (c3)))))))))))))))) ?_
  refine W.sg 0 [(5, aV (U6 (time:Int))), (6, cC true [(2, 0), (3, 1)] c4), (7, aV (I6 1))] [(2, 2), (162, 3)] (dsHb [(time : Int), (bits : Int), (nonce : Int)] 72 b2 1) [0 ≤ (↑(0 : Nat) : Int), (↑(0 : Nat) : Int) < (↑(3 : Nat) : Int), U6 (IntKind.wrap .u64 (time:Int)) = U6 (time:Int), _, I6 (IntKind.wrap .i64 ((↑(0 : Nat) : Int) + 1)) = I6 1] (by kernel_rfl) (ac (by omega) (ac (by omega) (ac (cg (w_u64 rfl (by omega) (by omega))) (ac (c4) (ao (cg (w_i64 rfl (by omega) (by omega)))))))) ?_
  refine W.sg 0 [(5, aV (U6 (bits:Int))), (6, cC true [(2, 0), (3, 1)] c5), (7, aV (I6 2))] [(2, 2), (162, 3)] (dsHb [(time : Int), (bits : Int), (nonce : Int)] 76 b3 2) [0 ≤ (↑(1 : Nat) : Int), (↑(1 : Nat) : Int) < (↑(3 : Nat) : Int), U6 (IntKind.wrap .u64 (bits:Int)) = U6 (bits:Int), _, I6 (IntKind.wrap .i64 ((↑(1 : Nat) : Int) + 1)) = I6 2] (by kernel_rfl) (ac (by omega) (ac (by omega) (ac (cg (w_u64 rfl (by omega) (by omega))) (ac (c5) (ao (cg (w_i64 rfl (by omega) (by omega)))))))) ?_
  refine W.sg 0 [(5, aV (U6 (nonce:Int))), (6, cC true [(2, 0), (3, 1)] c6), (7, aV (I6 3))] [(2, 2), (162, 3)] (dsHb [(time : Int), (bits : Int), (nonce : Int)] 80 b4 3) [0 ≤ (↑(2 : Nat) : Int), (↑(2 : Nat) : Int) < (↑(3 : Nat) : Int), U6 (IntKind.wrap .u64 (nonce:Int)) = U6 (nonce:Int), _, I6 (IntKind.wrap .i64 ((↑(2 : Nat) : Int) + 1)) = I6 3] (by kernel_rfl) (ac (by omega) (ac (by omega) (ac (cg (w_u64 rfl (by omega) (by omega))) (ac (c6) (ao (cg (w_i64 rfl (by omega) (by omega)))))))) ?_
  refine W.rt [(2, cC true [(2, 0), (3, 1)] c7)] [(98, 1)] [_] (by kernel_rfl) (ao (c7))
theorem pc_hdHash {h : Hd} (ho : h.Ok) : PC Tryd.prog G0 13 [] [h.pv] [] (.iarr .u8 32 (hhash h)) := by
  refine PC.of (fn := Tryd.f13) (c := bodyOf Tryd.f13) Tryd.func13 (by kernel_rfl) (by kernel_rfl) (by kernel_rfl) (by kernel_rfl) ?_
  have c1 := pc_hdBytes ho
  have hl := hb_length ho
  have e : cat [(false, 80, hb h)] = hb h := by simp [cat]
  have c2 := pc_twice (nl := false) (l := [(false, 80, hb h)]) (c := 1) rfl (by intro x hx; simp at hx; subst hx; exact ⟨hl, hb_bytes ho⟩) (by rw [e]; omega) (by omega)
  rw [e] at c2
  unfold bsPV at c2
  dsimp only [List.map] at c2
  unfold hhash
  generalize dsha (hb h) = res at *
  generalize hb h = b at *
  refine W.rt [(3, c9 c1), (4, Ans.frz [113]), (5, cL true [] c2)] [] [_, 80 ≤ 80, 1 ≤ 1, rr ([] : List (Nat × Row)), ([PV.vec false (PV.parr 1 1 (Sh.vec 1 (Sh.int IntKind.u8)) [PV.vec false (B8 80 (List.take 80 b))])] : List PV) = [PV.vec false (PV.parr 1 1 (Sh.vec 1 (Sh.int IntKind.u8)) [PV.vec false (B8 80 b)])], _] (by kernel_rfl) (ac (c1) (ac (by omega) (ac (by omega) (ac rfl (ac (by rw [List.take_of_length_le (show List.length b ≤ 80 by omega)]) (ao (c2)))))))
end Go.Proofs
namespace Go.Proofs
open Go Go.Pe Go.Pm
set_option maxRecDepth 100000
set_option linter.unusedVariables false
def dN0 (bn : Bool) (n : Nat) (B HM : List PV) (q : Nat) (K : List PV) (V : List Int) : DS := ⟨[(6, .at 1 []), (23, .vec bn (.parr 69 n bksh B)), (24, .int .i64 n), (25, .int .i64 0)], [(1, ⟨.st 3 [.vec true (.parr 69 0 bksh []), .ref 3 [] 32 0 1, .fn 1000000 4], false⟩), (3, ⟨.parr 32 1 hsE (HM), false⟩), (4, ⟨.tup [.tup [.parr 32 (q) hsE (K), .iarr .i64 (q) (V)]], false⟩)]⟩
def dN1 (bn : Bool) (n : Nat) (B HM : List PV) (q : Nat) (K : List PV) (V : List Int) (BM : List PV) (i : Nat) : DS := ⟨[(6, .at 1 []), (23, .vec bn (.parr 69 n bksh B)), (24, .int .i64 n), (25, .int .i64 i)], [(1, ⟨.st 3 [.ref 2 [] 69 0 (i), .ref 3 [] 32 0 (i + 1), .fn 1000000 4], false⟩), (2, ⟨.parr 69 (i) bksh (BM), false⟩), (3, ⟨.parr 32 (i + 1) hsE (HM), false⟩), (4, ⟨.tup [.tup [.parr 32 (q) hsE (K), .iarr .i64 (q) (V)]], false⟩)]⟩
def dN (bn : Bool) (n : Nat) (B HM : List PV) (q : Nat) (K : List PV) (V : List Int) (BM : List PV) (i : Nat) : DS := match i with
  | 0 => dN0 bn n B HM q K V
  | i + 1 => dN1 bn n B HM q K V BM (i + 1)
theorem W_dn0Has {hout : List (Nat × Row)} {res : PV} {bn : Bool} {n : Nat} {B HM : List PV} {q : Nat} {K : List PV} {V : List Int} {h : Hd} {tn to : Bool} {m : Nat} {T : List PV} {x y : List Int} (hi : 0 < n) (g : B.getD 0 .undef = .st 69 [.st 68 [.int .u32 h.ver, .iarr .u8 32 h.prev, .iarr .u8 32 h.root, .int .u32 h.time, .int .u32 h.bits, .int .u32 h.nonce], .vec tn (.parr 1 m bsh T)]) (gH : HM.getD 0 .undef = .iarr .u8 32 x) (hl : HM.length = 1) (hn : n ≤ 100) (c1 : PC Tryd.prog G0 12 [] [.st 69 [.st 68 [.int .u32 h.ver, .iarr .u8 32 h.prev, .iarr .u8 32 h.root, .int .u32 h.time, .int .u32 h.bits, .int .u32 h.nonce], .vec tn (.parr 1 m bsh T)]] [] (.int .i64 ((0 : Nat) : Int))) (c2 : PC Tryd.prog G0 13 [] [.st 68 [.int .u32 h.ver, .iarr .u8 32 h.prev, .iarr .u8 32 h.root, .int .u32 h.time, .int .u32 h.bits, .int .u32 h.nonce]] [] (.iarr .u8 32 y)) (c3 : PC Tryd.prog G0 14 [] [.st 69 [.st 68 [.int .u32 h.ver, .iarr .u8 32 h.prev, .iarr .u8 32 h.root, .int .u32 h.time, .int .u32 h.bits, .int .u32 h.nonce], .vec tn (.parr 1 m bsh T)]] [] (.st 69 [.st 68 [.int .u32 h.ver, .iarr .u8 32 h.prev, .iarr .u8 32 h.root, .int .u32 h.time, .int .u32 h.bits, .int .u32 h.nonce], .vec to (.parr 1 m bsh T)])) (hx : x.length = 32) (hy : y.length = 32) (hp : h.prev = x) (hm : mhas K (.iarr .u8 32 y) = true) (hq : q ≤ 1000) (hw : W Tryd.prog G0 Tryd.f7 [] hout res (loopAt Tryd.f7 0) (dN1 bn n B (HM ++ [.iarr .u8 32 y]) (q) (K) (V) ([.st 69 [.st 68 [.int .u32 h.ver, .iarr .u8 32 h.prev, .iarr .u8 32 h.root, .int .u32 h.time, .int .u32 h.bits, .int .u32 h.nonce], .vec to (.parr 1 m bsh T)]]) (1))) : W Tryd.prog G0 Tryd.f7 [] hout res (loopAt Tryd.f7 0) (dN0 bn n B HM q K V) := by
  unfold dN1 at hw
  unfold dN0
  refine W.sg 0 [(0, aT), (3, aE g), (8, c9 c1), (9, aV (I6 0)), (21, aE gH), (22, aF), (25, c9 c2), (34, c0 c3), (47, Ans.ups [(3, none), (816, some (Row.mk (PV.parr 32 2 (Sh.iarr IntKind.u8 32) (HM ++ [B8 32 y])) false))]), (59, aT), (64, aV (I6 1))] [(1, 1), (640, 2), (816, 3), (4, 4)] (⟨[(6, .at 1 []), (23, .vec bn (.parr 69 n bksh B)), (24, .int .i64 n), (25, .int .i64 (1 : Int))], [(1, ⟨.st 3 [.ref 2 [] 69 0 (1), .ref 3 [] 32 0 (1 + 1), .fn 1000000 4], false⟩), (2, ⟨.parr 69 (1) bksh ([.st 69 [.st 68 [.int .u32 h.ver, .iarr .u8 32 h.prev, .iarr .u8 32 h.root, .int .u32 h.time, .int .u32 h.bits, .int .u32 h.nonce], .vec to (.parr 1 m bsh T)]]), false⟩), (3, ⟨.parr 32 (1 + 1) hsE (HM ++ [.iarr .u8 32 y]), false⟩), (4, ⟨.tup [.tup [.parr 32 (q) hsE (K), .iarr .i64 (q) (V)]], false⟩)]⟩ : DS) [decide (0 < (n:Int)) = true, (0 : Int) ≤ (0 : Int), 0 < (n:Int), _, 0 < n, _, I6 (↑(0 : Nat) : Int) = I6 0, (0 : Int) ≤ (0 : Int), 0 < (↑(1 : Nat) : Int), _, 0 < 1, (!decide (Hd.prev h = x)) = false, _, _, 1 ≤ 1, 0 < 1, 1 * 104 ≤ 140737488355328, 1 ≤ 9223372036854775807, ([(3, none), (816, some (Row.mk (PV.parr 32 2 (Sh.iarr IntKind.u8 32) (List.take 1 HM ++ [B8 32 y])) false))] : List (Nat × Option Row)) = [(3, none), (816, some (Row.mk (PV.parr 32 2 (Sh.iarr IntKind.u8 32) (HM ++ [B8 32 y])) false))], 1 ≤ 1, rr (1), (1 + 1) * 32 ≤ 140737488355328, 1 + 1 ≤ 9223372036854775807, mhas K (B8 32 y) = true, I6 (IntKind.wrap .i64 ((0 : Int) + (1 : Int))) = I6 1] (by kernel_rfl) (ac (dT (by omega)) (ac (by omega) (ac (by omega) (ac (ex g) (ac (by omega) (ac (c1) (ac (cg (by omega)) (ac (by omega) (ac (by omega) (ac (ex gH) (ac (by omega) (ac (by (simp [*]; done)) (ac (c2) (ac (c3) (ac (by omega) (ac (by omega) (ac (by omega) (ac (by omega) (ac (by rw [List.take_of_length_le (show List.length HM ≤ 1 by omega)]) (ac (by omega) (ac rfl (ac (by omega) (ac (by omega) (ac (by assumption) (ao (cg (w_i64 rfl (by omega) (by omega)))))))))))))))))))))))))))) ?_
  exact hw
theorem W_dn0New {hout : List (Nat × Row)} {res : PV} {bn : Bool} {n : Nat} {B HM : List PV} {q : Nat} {K : List PV} {V : List Int} {h : Hd} {tn to : Bool} {m : Nat} {T : List PV} {x y : List Int} (hi : 0 < n) (g : B.getD 0 .undef = .st 69 [.st 68 [.int .u32 h.ver, .iarr .u8 32 h.prev, .iarr .u8 32 h.root, .int .u32 h.time, .int .u32 h.bits, .int .u32 h.nonce], .vec tn (.parr 1 m bsh T)]) (gH : HM.getD 0 .undef = .iarr .u8 32 x) (hl : HM.length = 1) (hn : n ≤ 100) (c1 : PC Tryd.prog G0 12 [] [.st 69 [.st 68 [.int .u32 h.ver, .iarr .u8 32 h.prev, .iarr .u8 32 h.root, .int .u32 h.time, .int .u32 h.bits, .int .u32 h.nonce], .vec tn (.parr 1 m bsh T)]] [] (.int .i64 ((0 : Nat) : Int))) (c2 : PC Tryd.prog G0 13 [] [.st 68 [.int .u32 h.ver, .iarr .u8 32 h.prev, .iarr .u8 32 h.root, .int .u32 h.time, .int .u32 h.bits, .int .u32 h.nonce]] [] (.iarr .u8 32 y)) (c3 : PC Tryd.prog G0 14 [] [.st 69 [.st 68 [.int .u32 h.ver, .iarr .u8 32 h.prev, .iarr .u8 32 h.root, .int .u32 h.time, .int .u32 h.bits, .int .u32 h.nonce], .vec tn (.parr 1 m bsh T)]] [] (.st 69 [.st 68 [.int .u32 h.ver, .iarr .u8 32 h.prev, .iarr .u8 32 h.root, .int .u32 h.time, .int .u32 h.bits, .int .u32 h.nonce], .vec to (.parr 1 m bsh T)])) (hx : x.length = 32) (hy : y.length = 32) (hp : h.prev = x) (hm : mhas K (.iarr .u8 32 y) = false) (hq : q ≤ 1000) (hw : W Tryd.prog G0 Tryd.f7 [] hout res (loopAt Tryd.f7 0) (dN1 bn n B (HM ++ [.iarr .u8 32 y]) (q + 1) (K ++ [.iarr .u8 32 y]) (V ++ [((0 + 1 : Nat) : Int)]) ([.st 69 [.st 68 [.int .u32 h.ver, .iarr .u8 32 h.prev, .iarr .u8 32 h.root, .int .u32 h.time, .int .u32 h.bits, .int .u32 h.nonce], .vec to (.parr 1 m bsh T)]]) (1))) : W Tryd.prog G0 Tryd.f7 [] hout res (loopAt Tryd.f7 0) (dN0 bn n B HM q K V) := by
  unfold dN1 at hw
  unfold dN0
  refine W.sg 0 [(0, aT), (3, aE g), (8, c9 c1), (9, aV (I6 0)), (21, aE gH), (22, aF), (25, c9 c2), (34, c0 c3), (47, Ans.ups [(3, none), (816, some (Row.mk (PV.parr 32 2 (Sh.iarr IntKind.u8 32) (HM ++ [B8 32 y])) false))]), (59, aF), (70, aV (I6 1)), (72, aV (I6 1))] [(1, 1), (640, 2), (816, 3), (4, 4)] (⟨[(6, .at 1 []), (23, .vec bn (.parr 69 n bksh B)), (24, .int .i64 n), (25, .int .i64 (1 : Int))], [(1, ⟨.st 3 [.ref 2 [] 69 0 (1), .ref 3 [] 32 0 (1 + 1), .fn 1000000 4], false⟩), (2, ⟨.parr 69 (1) bksh ([.st 69 [.st 68 [.int .u32 h.ver, .iarr .u8 32 h.prev, .iarr .u8 32 h.root, .int .u32 h.time, .int .u32 h.bits, .int .u32 h.nonce], .vec to (.parr 1 m bsh T)]]), false⟩), (3, ⟨.parr 32 (1 + 1) hsE (HM ++ [.iarr .u8 32 y]), false⟩), (4, ⟨.tup [.tup [.parr 32 (q + 1) hsE (K ++ [.iarr .u8 32 y]), .iarr .i64 (q + 1) (V ++ [((0 + 1 : Nat) : Int)])]], false⟩)]⟩ : DS) [decide (0 < (n:Int)) = true, (0 : Int) ≤ (0 : Int), 0 < (n:Int), _, 0 < n, _, I6 (↑(0 : Nat) : Int) = I6 0, (0 : Int) ≤ (0 : Int), 0 < (↑(1 : Nat) : Int), _, 0 < 1, (!decide (Hd.prev h = x)) = false, _, _, 1 ≤ 1, 0 < 1, 1 * 104 ≤ 140737488355328, 1 ≤ 9223372036854775807, ([(3, none), (816, some (Row.mk (PV.parr 32 2 (Sh.iarr IntKind.u8 32) (List.take 1 HM ++ [B8 32 y])) false))] : List (Nat × Option Row)) = [(3, none), (816, some (Row.mk (PV.parr 32 2 (Sh.iarr IntKind.u8 32) (HM ++ [B8 32 y])) false))], 1 ≤ 1, rr (1), (1 + 1) * 32 ≤ 140737488355328, 1 + 1 ≤ 9223372036854775807, mhas K (B8 32 y) = false, I6 (IntKind.wrap .i64 ((0 : Int) + (1 : Int))) = I6 1, mhas K (B8 32 y) = false, I6 (IntKind.wrap .i64 ((0 : Int) + (1 : Int))) = I6 1] (by kernel_rfl) (ac (dT (by omega)) (ac (by omega) (ac (by omega) (ac (ex g) (ac (by omega) (ac (c1) (ac (cg (by omega)) (ac (by omega) (ac (by omega) (ac (ex gH) (ac (by omega) (ac (by (simp [*]; done)) (ac (c2) (ac (c3) (ac (by omega) (ac (by omega) (ac (by omega) (ac (by omega) (ac (by rw [List.take_of_length_le (show List.length HM ≤ 1 by omega)]) (ac (by omega) (ac rfl (ac (by omega) (ac (by omega) (ac (by assumption) (ac (cg (w_i64 rfl (by omega) (by omega))) (ac (by assumption) (ao (cg (w_i64 rfl (by omega) (by omega)))))))))))))))))))))))))))))) ?_
  exact hw
theorem W_dn1Has {hout : List (Nat × Row)} {res : PV} {bn : Bool} {n : Nat} {B HM : List PV} {q : Nat} {K : List PV} {V : List Int} {h : Hd} {tn to : Bool} {m : Nat} {T : List PV} {x y : List Int} {BM : List PV} {i : Nat} (hi : i < n) (g : B.getD i .undef = .st 69 [.st 68 [.int .u32 h.ver, .iarr .u8 32 h.prev, .iarr .u8 32 h.root, .int .u32 h.time, .int .u32 h.bits, .int .u32 h.nonce], .vec tn (.parr 1 m bsh T)]) (gH : HM.getD i .undef = .iarr .u8 32 x) (hl : HM.length = i + 1) (hb : BM.length = i) (hn : n ≤ 100) (c1 : PC Tryd.prog G0 12 [] [.st 69 [.st 68 [.int .u32 h.ver, .iarr .u8 32 h.prev, .iarr .u8 32 h.root, .int .u32 h.time, .int .u32 h.bits, .int .u32 h.nonce], .vec tn (.parr 1 m bsh T)]] [] (.int .i64 ((0 : Nat) : Int))) (c2 : PC Tryd.prog G0 13 [] [.st 68 [.int .u32 h.ver, .iarr .u8 32 h.prev, .iarr .u8 32 h.root, .int .u32 h.time, .int .u32 h.bits, .int .u32 h.nonce]] [] (.iarr .u8 32 y)) (c3 : PC Tryd.prog G0 14 [] [.st 69 [.st 68 [.int .u32 h.ver, .iarr .u8 32 h.prev, .iarr .u8 32 h.root, .int .u32 h.time, .int .u32 h.bits, .int .u32 h.nonce], .vec tn (.parr 1 m bsh T)]] [] (.st 69 [.st 68 [.int .u32 h.ver, .iarr .u8 32 h.prev, .iarr .u8 32 h.root, .int .u32 h.time, .int .u32 h.bits, .int .u32 h.nonce], .vec to (.parr 1 m bsh T)])) (hx : x.length = 32) (hy : y.length = 32) (hp : h.prev = x) (hm : mhas K (.iarr .u8 32 y) = true) (hq : q ≤ 1000) (hw : W Tryd.prog G0 Tryd.f7 [] hout res (loopAt Tryd.f7 0) (dN1 bn n B (HM ++ [.iarr .u8 32 y]) (q) (K) (V) (BM ++ [.st 69 [.st 68 [.int .u32 h.ver, .iarr .u8 32 h.prev, .iarr .u8 32 h.root, .int .u32 h.time, .int .u32 h.bits, .int .u32 h.nonce], .vec to (.parr 1 m bsh T)]]) (i + 1))) : W Tryd.prog G0 Tryd.f7 [] hout res (loopAt Tryd.f7 0) (dN1 bn n B HM q K V BM i) := by
  unfold dN1 at hw
  unfold dN1
  refine W.sg 0 [(0, aT), (3, aE g), (8, c9 c1), (9, aV (I6 0)), (20, aV (PV.at 3 [Stp.idx i 32])), (21, aE gH), (22, aF), (25, c9 c2), (34, c0 c3), (36, Ans.ups [(2, none), (640, some (Row.mk (PV.parr 69 (i + 1) (Sh.st 69 [hsh, Sh.vec 1 (Sh.vec 1 (Sh.int IntKind.u8))]) (BM ++ [PV.st 69 [Hd.pv h, PV.vec to (PV.parr 1 m (Sh.vec 1 (Sh.int IntKind.u8)) T)]])) false))]), (47, Ans.ups [(3, none), (816, some (Row.mk (PV.parr 32 (i + 1 + 1) (Sh.iarr IntKind.u8 32) (HM ++ [B8 32 y])) false))]), (59, aT), (64, aV (I6 (↑(i + 1) : Int)))] [(1, 1), (640, 2), (816, 3), (4, 4)] (⟨[(6, .at 1 []), (23, .vec bn (.parr 69 n bksh B)), (24, .int .i64 n), (25, .int .i64 ((i + 1 : Nat) : Int))], [(1, ⟨.st 3 [.ref 2 [] 69 0 (i + 1), .ref 3 [] 32 0 (i + 1 + 1), .fn 1000000 4], false⟩), (2, ⟨.parr 69 (i + 1) bksh (BM ++ [.st 69 [.st 68 [.int .u32 h.ver, .iarr .u8 32 h.prev, .iarr .u8 32 h.root, .int .u32 h.time, .int .u32 h.bits, .int .u32 h.nonce], .vec to (.parr 1 m bsh T)]]), false⟩), (3, ⟨.parr 32 (i + 1 + 1) hsE (HM ++ [.iarr .u8 32 y]), false⟩), (4, ⟨.tup [.tup [.parr 32 (q) hsE (K), .iarr .i64 (q) (V)]], false⟩)]⟩ : DS) [decide ((i:Int) < (n:Int)) = true, 0 ≤ (i:Int), (i:Int) < (n:Int), _, i < n, _, I6 (↑(0 : Nat) : Int) = I6 0, PV.at 3 [Stp.idx (0 + i) 32] = PV.at 3 [Stp.idx i 32], 0 ≤ (i:Int), (i:Int) < (↑(i + 1) : Int), _, i < i + 1, (!decide (Hd.prev h = x)) = false, _, _, ([(2, none), (640, some (Row.mk (PV.parr 69 (i + 1) (Sh.st 69 [hsh, Sh.vec 1 (Sh.vec 1 (Sh.int IntKind.u8))]) (List.take i BM ++ [PV.st 69 [Hd.pv h, PV.vec to (PV.parr 1 m (Sh.vec 1 (Sh.int IntKind.u8)) T)]])) false))] : List (Nat × Option Row)) = [(2, none), (640, some (Row.mk (PV.parr 69 (i + 1) (Sh.st 69 [hsh, Sh.vec 1 (Sh.vec 1 (Sh.int IntKind.u8))]) (BM ++ [PV.st 69 [Hd.pv h, PV.vec to (PV.parr 1 m (Sh.vec 1 (Sh.int IntKind.u8)) T)]])) false))], 1 ≤ 1, 0 + i = i, (i + 1) * 104 ≤ 140737488355328, i + 1 ≤ 9223372036854775807, ([(3, none), (816, some (Row.mk (PV.parr 32 (i + 1 + 1) (Sh.iarr IntKind.u8 32) (List.take (i + 1) HM ++ [B8 32 y])) false))] : List (Nat × Option Row)) = [(3, none), (816, some (Row.mk (PV.parr 32 (i + 1 + 1) (Sh.iarr IntKind.u8 32) (HM ++ [B8 32 y])) false))], 1 ≤ 1, 0 + (i + 1) = i + 1, (i + 1 + 1) * 32 ≤ 140737488355328, i + 1 + 1 ≤ 9223372036854775807, mhas K (B8 32 y) = true, I6 (IntKind.wrap .i64 ((i:Int) + 1)) = I6 (↑(i + 1) : Int)] (by kernel_rfl) (ac (dT (by omega)) (ac (by omega) (ac (by omega) (ac (ex g) (ac (by omega) (ac (c1) (ac (cg (by omega)) (ac (by simp only [Nat.zero_add]) (ac (by omega) (ac (by omega) (ac (ex gH) (ac (by omega) (ac (by (simp [*]; done)) (ac (c2) (ac (c3) (ac (by rw [List.take_of_length_le (show List.length BM ≤ i by omega)]) (ac (by omega) (ac (by omega) (ac (by omega) (ac (by omega) (ac (by rw [List.take_of_length_le (show List.length HM ≤ i + 1 by omega)]) (ac (by omega) (ac (by omega) (ac (by omega) (ac (by omega) (ac (by assumption) (ao (cg (w_i64 rfl (by omega) (by omega)))))))))))))))))))))))))))))) ?_
  exact hw
theorem W_dn1New {hout : List (Nat × Row)} {res : PV} {bn : Bool} {n : Nat} {B HM : List PV} {q : Nat} {K : List PV} {V : List Int} {h : Hd} {tn to : Bool} {m : Nat} {T : List PV} {x y : List Int} {BM : List PV} {i : Nat} (hi : i < n) (g : B.getD i .undef = .st 69 [.st 68 [.int .u32 h.ver, .iarr .u8 32 h.prev, .iarr .u8 32 h.root, .int .u32 h.time, .int .u32 h.bits, .int .u32 h.nonce], .vec tn (.parr 1 m bsh T)]) (gH : HM.getD i .undef = .iarr .u8 32 x) (hl : HM.length = i + 1) (hb : BM.length = i) (hn : n ≤ 100) (c1 : PC Tryd.prog G0 12 [] [.st 69 [.st 68 [.int .u32 h.ver, .iarr .u8 32 h.prev, .iarr .u8 32 h.root, .int .u32 h.time, .int .u32 h.bits, .int .u32 h.nonce], .vec tn (.parr 1 m bsh T)]] [] (.int .i64 ((0 : Nat) : Int))) (c2 : PC Tryd.prog G0 13 [] [.st 68 [.int .u32 h.ver, .iarr .u8 32 h.prev, .iarr .u8 32 h.root, .int .u32 h.time, .int .u32 h.bits, .int .u32 h.nonce]] [] (.iarr .u8 32 y)) (c3 : PC Tryd.prog G0 14 [] [.st 69 [.st 68 [.int .u32 h.ver, .iarr .u8 32 h.prev, .iarr .u8 32 h.root, .int .u32 h.time, .int .u32 h.bits, .int .u32 h.nonce], .vec tn (.parr 1 m bsh T)]] [] (.st 69 [.st 68 [.int .u32 h.ver, .iarr .u8 32 h.prev, .iarr .u8 32 h.root, .int .u32 h.time, .int .u32 h.bits, .int .u32 h.nonce], .vec to (.parr 1 m bsh T)])) (hx : x.length = 32) (hy : y.length = 32) (hp : h.prev = x) (hm : mhas K (.iarr .u8 32 y) = false) (hq : q ≤ 1000) (hw : W Tryd.prog G0 Tryd.f7 [] hout res (loopAt Tryd.f7 0) (dN1 bn n B (HM ++ [.iarr .u8 32 y]) (q + 1) (K ++ [.iarr .u8 32 y]) (V ++ [((i + 1 : Nat) : Int)]) (BM ++ [.st 69 [.st 68 [.int .u32 h.ver, .iarr .u8 32 h.prev, .iarr .u8 32 h.root, .int .u32 h.time, .int .u32 h.bits, .int .u32 h.nonce], .vec to (.parr 1 m bsh T)]]) (i + 1))) : W Tryd.prog G0 Tryd.f7 [] hout res (loopAt Tryd.f7 0) (dN1 bn n B HM q K V BM i) := by
  unfold dN1 at hw
  unfold dN1
  refine W.sg 0 [(0, aT), (3, aE g), (8, c9 c1), (9, aV (I6 0)), (20, aV (PV.at 3 [Stp.idx i 32])), (21, aE gH), (22, aF), (25, c9 c2), (34, c0 c3), (36, Ans.ups [(2, none), (640, some (Row.mk (PV.parr 69 (i + 1) (Sh.st 69 [hsh, Sh.vec 1 (Sh.vec 1 (Sh.int IntKind.u8))]) (BM ++ [PV.st 69 [Hd.pv h, PV.vec to (PV.parr 1 m (Sh.vec 1 (Sh.int IntKind.u8)) T)]])) false))]), (47, Ans.ups [(3, none), (816, some (Row.mk (PV.parr 32 (i + 1 + 1) (Sh.iarr IntKind.u8 32) (HM ++ [B8 32 y])) false))]), (59, aF), (70, aV (I6 (↑(i + 1) : Int))), (72, aV (I6 (↑(i + 1) : Int)))] [(1, 1), (640, 2), (816, 3), (4, 4)] (⟨[(6, .at 1 []), (23, .vec bn (.parr 69 n bksh B)), (24, .int .i64 n), (25, .int .i64 ((i + 1 : Nat) : Int))], [(1, ⟨.st 3 [.ref 2 [] 69 0 (i + 1), .ref 3 [] 32 0 (i + 1 + 1), .fn 1000000 4], false⟩), (2, ⟨.parr 69 (i + 1) bksh (BM ++ [.st 69 [.st 68 [.int .u32 h.ver, .iarr .u8 32 h.prev, .iarr .u8 32 h.root, .int .u32 h.time, .int .u32 h.bits, .int .u32 h.nonce], .vec to (.parr 1 m bsh T)]]), false⟩), (3, ⟨.parr 32 (i + 1 + 1) hsE (HM ++ [.iarr .u8 32 y]), false⟩), (4, ⟨.tup [.tup [.parr 32 (q + 1) hsE (K ++ [.iarr .u8 32 y]), .iarr .i64 (q + 1) (V ++ [((i + 1 : Nat) : Int)])]], false⟩)]⟩ : DS) [decide ((i:Int) < (n:Int)) = true, 0 ≤ (i:Int), (i:Int) < (n:Int), _, i < n, _, I6 (↑(0 : Nat) : Int) = I6 0, PV.at 3 [Stp.idx (0 + i) 32] = PV.at 3 [Stp.idx i 32], 0 ≤ (i:Int), (i:Int) < (↑(i + 1) : Int), _, i < i + 1, (!decide (Hd.prev h = x)) = false, _, _, ([(2, none), (640, some (Row.mk (PV.parr 69 (i + 1) (Sh.st 69 [hsh, Sh.vec 1 (Sh.vec 1 (Sh.int IntKind.u8))]) (List.take i BM ++ [PV.st 69 [Hd.pv h, PV.vec to (PV.parr 1 m (Sh.vec 1 (Sh.int IntKind.u8)) T)]])) false))] : List (Nat × Option Row)) = [(2, none), (640, some (Row.mk (PV.parr 69 (i + 1) (Sh.st 69 [hsh, Sh.vec 1 (Sh.vec 1 (Sh.int IntKind.u8))]) (BM ++ [PV.st 69 [Hd.pv h, PV.vec to (PV.parr 1 m (Sh.vec 1 (Sh.int IntKind.u8)) T)]])) false))], 1 ≤ 1, 0 + i = i, (i + 1) * 104 ≤ 140737488355328, i + 1 ≤ 9223372036854775807, ([(3, none), (816, some (Row.mk (PV.parr 32 (i + 1 + 1) (Sh.iarr IntKind.u8 32) (List.take (i + 1) HM ++ [B8 32 y])) false))] : List (Nat × Option Row)) = [(3, none), (816, some (Row.mk (PV.parr 32 (i + 1 + 1) (Sh.iarr IntKind.u8 32) (HM ++ [B8 32 y])) false))], 1 ≤ 1, 0 + (i + 1) = i + 1, (i + 1 + 1) * 32 ≤ 140737488355328, i + 1 + 1 ≤ 9223372036854775807, mhas K (B8 32 y) = false, I6 (IntKind.wrap .i64 ((i:Int) + 1)) = I6 (↑(i + 1) : Int), mhas K (B8 32 y) = false, I6 (IntKind.wrap .i64 ((i:Int) + 1)) = I6 (↑(i + 1) : Int)] (by kernel_rfl) (ac (dT (by omega)) (ac (by omega) (ac (by omega) (ac (ex g) (ac (by omega) (ac (c1) (ac (cg (by omega)) (ac (by simp only [Nat.zero_add]) (ac (by omega) (ac (by omega) (ac (ex gH) (ac (by omega) (ac (by (simp [*]; done)) (ac (c2) (ac (c3) (ac (by rw [List.take_of_length_le (show List.length BM ≤ i by omega)]) (ac (by omega) (ac (by omega) (ac (by omega) (ac (by omega) (ac (by rw [List.take_of_length_le (show List.length HM ≤ i + 1 by omega)]) (ac (by omega) (ac (by omega) (ac (by omega) (ac (by omega) (ac (by assumption) (ac (cg (w_i64 rfl (by omega) (by omega))) (ac (by assumption) (ao (cg (w_i64 rfl (by omega) (by omega)))))))))))))))))))))))))))))))) ?_
  exact hw
theorem W_dn0Bad {bn : Bool} {n : Nat} {B HM : List PV} {q : Nat} {K : List PV} {V : List Int} {h : Hd} {tn to : Bool} {m : Nat} {T : List PV} {x y : List Int} (hi : 0 < n) (g : B.getD 0 .undef = .st 69 [.st 68 [.int .u32 h.ver, .iarr .u8 32 h.prev, .iarr .u8 32 h.root, .int .u32 h.time, .int .u32 h.bits, .int .u32 h.nonce], .vec tn (.parr 1 m bsh T)]) (gH : HM.getD 0 .undef = .iarr .u8 32 x) (hn : n ≤ 100) {e : Nat} (he : e ≠ 0) (c1 : PC Tryd.prog G0 12 [] [.st 69 [.st 68 [.int .u32 h.ver, .iarr .u8 32 h.prev, .iarr .u8 32 h.root, .int .u32 h.time, .int .u32 h.bits, .int .u32 h.nonce], .vec tn (.parr 1 m bsh T)]] [] (.int .i64 e)) : W Tryd.prog G0 Tryd.f7 [] [] (.tup [.nilp, .int .i64 e]) (loopAt Tryd.f7 0) (dN0 bn n B HM q K V) := by
  have hne : ¬ ((e : Int) = 0) := by omega
  unfold dN0
  refine W.rt [(0, aT), (3, aE g), (8, c9 c1), (11, aT)] [] [decide (0 < (n:Int)) = true, (0 : Int) ≤ (0 : Int), 0 < (n:Int), _, 0 < n, _, ((e:Int) != 0) = true] (by kernel_rfl) (ac (dT (by omega)) (ac (by omega) (ac (by omega) (ac (ex g) (ac (by omega) (ac (c1) (ao (bne_iff_ne.2 (by omega)))))))))
theorem W_dn0Off {bn : Bool} {n : Nat} {B HM : List PV} {q : Nat} {K : List PV} {V : List Int} {h : Hd} {tn to : Bool} {m : Nat} {T : List PV} {x y : List Int} (hi : 0 < n) (g : B.getD 0 .undef = .st 69 [.st 68 [.int .u32 h.ver, .iarr .u8 32 h.prev, .iarr .u8 32 h.root, .int .u32 h.time, .int .u32 h.bits, .int .u32 h.nonce], .vec tn (.parr 1 m bsh T)]) (gH : HM.getD 0 .undef = .iarr .u8 32 x) (hn : n ≤ 100) (c1 : PC Tryd.prog G0 12 [] [.st 69 [.st 68 [.int .u32 h.ver, .iarr .u8 32 h.prev, .iarr .u8 32 h.root, .int .u32 h.time, .int .u32 h.bits, .int .u32 h.nonce], .vec tn (.parr 1 m bsh T)]] [] (.int .i64 ((0 : Nat) : Int))) (hx : x.length = 32) (hp : ¬ h.prev = x) : W Tryd.prog G0 Tryd.f7 [] [] (.tup [.nilp, .int .i64 ((9 : Nat) : Int)]) (loopAt Tryd.f7 0) (dN0 bn n B HM q K V) := by
  unfold dN0
  refine W.rt [(0, aT), (3, aE g), (8, c9 c1), (9, aV (I6 0)), (21, aE gH), (22, aT)] [] [decide (0 < (n:Int)) = true, (0 : Int) ≤ (0 : Int), 0 < (n:Int), _, 0 < n, _, I6 (↑(0 : Nat) : Int) = I6 0, (0 : Int) ≤ (0 : Int), 0 < (↑(1 : Nat) : Int), _, 0 < 1, (!decide (Hd.prev h = x)) = true] (by kernel_rfl) (ac (dT (by omega)) (ac (by omega) (ac (by omega) (ac (ex g) (ac (by omega) (ac (c1) (ac (cg (by omega)) (ac (by omega) (ac (by omega) (ac (ex gH) (ac (by omega) (ao (by (simp [*]; done))))))))))))))
theorem W_dn1Bad {bn : Bool} {n : Nat} {B HM : List PV} {q : Nat} {K : List PV} {V : List Int} {h : Hd} {tn to : Bool} {m : Nat} {T : List PV} {x y : List Int} {BM : List PV} {i : Nat} (hi : i < n) (g : B.getD i .undef = .st 69 [.st 68 [.int .u32 h.ver, .iarr .u8 32 h.prev, .iarr .u8 32 h.root, .int .u32 h.time, .int .u32 h.bits, .int .u32 h.nonce], .vec tn (.parr 1 m bsh T)]) (gH : HM.getD i .undef = .iarr .u8 32 x) (hn : n ≤ 100) {e : Nat} (he : e ≠ 0) (c1 : PC Tryd.prog G0 12 [] [.st 69 [.st 68 [.int .u32 h.ver, .iarr .u8 32 h.prev, .iarr .u8 32 h.root, .int .u32 h.time, .int .u32 h.bits, .int .u32 h.nonce], .vec tn (.parr 1 m bsh T)]] [] (.int .i64 e)) : W Tryd.prog G0 Tryd.f7 [] [] (.tup [.nilp, .int .i64 e]) (loopAt Tryd.f7 0) (dN1 bn n B HM q K V BM i) := by
  have hne : ¬ ((e : Int) = 0) := by omega
  unfold dN1
  refine W.rt [(0, aT), (3, aE g), (8, c9 c1), (11, aT)] [] [decide ((i:Int) < (n:Int)) = true, 0 ≤ (i:Int), (i:Int) < (n:Int), _, i < n, _, ((e:Int) != 0) = true] (by kernel_rfl) (ac (dT (by omega)) (ac (by omega) (ac (by omega) (ac (ex g) (ac (by omega) (ac (c1) (ao (bne_iff_ne.2 (by omega)))))))))
theorem W_dn1Off {bn : Bool} {n : Nat} {B HM : List PV} {q : Nat} {K : List PV} {V : List Int} {h : Hd} {tn to : Bool} {m : Nat} {T : List PV} {x y : List Int} {BM : List PV} {i : Nat} (hi : i < n) (g : B.getD i .undef = .st 69 [.st 68 [.int .u32 h.ver, .iarr .u8 32 h.prev, .iarr .u8 32 h.root, .int .u32 h.time, .int .u32 h.bits, .int .u32 h.nonce], .vec tn (.parr 1 m bsh T)]) (gH : HM.getD i .undef = .iarr .u8 32 x) (hn : n ≤ 100) (c1 : PC Tryd.prog G0 12 [] [.st 69 [.st 68 [.int .u32 h.ver, .iarr .u8 32 h.prev, .iarr .u8 32 h.root, .int .u32 h.time, .int .u32 h.bits, .int .u32 h.nonce], .vec tn (.parr 1 m bsh T)]] [] (.int .i64 ((0 : Nat) : Int))) (hx : x.length = 32) (hp : ¬ h.prev = x) : W Tryd.prog G0 Tryd.f7 [] [] (.tup [.nilp, .int .i64 ((9 : Nat) : Int)]) (loopAt Tryd.f7 0) (dN1 bn n B HM q K V BM i) := by
  unfold dN1
  refine W.rt [(0, aT), (3, aE g), (8, c9 c1), (9, aV (I6 0)), (20, aV (PV.at 3 [Stp.idx i 32])), (21, aE gH), (22, aT)] [] [decide ((i:Int) < (n:Int)) = true, 0 ≤ (i:Int), (i:Int) < (n:Int), _, i < n, _, I6 (↑(0 : Nat) : Int) = I6 0, PV.at 3 [Stp.idx (0 + i) 32] = PV.at 3 [Stp.idx i 32], 0 ≤ (i:Int), (i:Int) < (↑(i + 1) : Int), _, i < i + 1, (!decide (Hd.prev h = x)) = true] (by kernel_rfl) (ac (dT (by omega)) (ac (by omega) (ac (by omega) (ac (ex g) (ac (by omega) (ac (c1) (ac (cg (by omega)) (ac (by simp only [Nat.zero_add]) (ac (by omega) (ac (by omega) (ac (ex gH) (ac (by omega) (ao (by (simp [*]; done)))))))))))))))
end Go.Proofs
namespace Go.Proofs
open Go Go.Pe Go.Pm
set_option maxRecDepth 100000
set_option linter.unusedVariables false
def rD0 (HM : List PV) (q : Nat) (K : List PV) (V : List Int) : List (Nat × Row) := [(1, ⟨.st 3 [.vec true (.parr 69 0 bksh []), .ref 3 [] 32 0 1, .fn 1000000 4], false⟩), (3, ⟨.parr 32 1 hsE HM, false⟩), (4, ⟨.tup [.tup [.parr 32 (q) hsE (K), .iarr .i64 (q) (V)]], false⟩)]
def rD1 (n : Nat) (BM HM : List PV) (q : Nat) (K : List PV) (V : List Int) : List (Nat × Row) := [(1, ⟨.st 3 [.ref 2 [] 69 0 n, .ref 3 [] 32 0 (n + 1), .fn 1000000 4], false⟩), (2, ⟨.parr 69 n bksh BM, false⟩), (3, ⟨.parr 32 (n + 1) hsE HM, false⟩), (4, ⟨.tup [.tup [.parr 32 (q) hsE (K), .iarr .i64 (q) (V)]], false⟩)]
def rD (n : Nat) (BM HM : List PV) (q : Nat) (K : List PV) (V : List Int) : List (Nat × Row) := match n with
  | 0 => rD0 HM q K V
  | n + 1 => rD1 (n + 1) BM HM q K V
theorem W_dnEnd0 {bn : Bool} {B HM : List PV} {q : Nat} {K : List PV} {V : List Int} : W Tryd.prog G0 Tryd.f7 [] (rD0 HM q K V) (.tup [.at 1 [], .int .i64 ((0 : Nat) : Int)]) (loopAt Tryd.f7 0) (dN0 bn 0 B HM q K V) := by
  unfold dN0 rD0
  refine W.rt [] [(1, 1), (3, 3), (4, 4)] [] (by kernel_rfl) trivial
theorem W_dnEnd1 {bn : Bool} {n : Nat} {B HM : List PV} {q : Nat} {K : List PV} {V : List Int} {BM : List PV} : W Tryd.prog G0 Tryd.f7 [] (rD1 n BM HM q K V) (.tup [.at 1 [], .int .i64 ((0 : Nat) : Int)]) (loopAt Tryd.f7 0) (dN1 bn n B HM q K V BM n) := by
  unfold dN1 rD1
  refine W.rt [(0, aF)] (rI 4) [decide ((n:Int) < (n:Int)) = false] (by kernel_rfl) (ao (dF (by omega)))
def ownB (b : Blk) : PV := blkPV b.h (decide (b.n = 0)) b.n b.L
def depHs (f : List Int) (Bs : List Blk) : List (List Int) := f :: Bs.map fun b => hhash b.h
def depE : List Int → List Blk → Nat
  | _, [] => 0
  | x, b :: l => if checkE b.h b.L = 0 then (if b.h.prev = x then depE (hhash b.h) l else 9) else checkE b.h b.L
def mapS (KV : List (List Int) × List Int) (i : Nat) (y : List Int) : List (List Int) × List Int := if mhas (KV.1.map hv) (hv y) = true then KV else (KV.1 ++ [y], KV.2 ++ [((i + 1 : Nat) : Int)])
def mapF : Nat → List (List Int) × List Int → List Blk → List (List Int) × List Int
  | _, KV, [] => KV
  | i, KV, b :: l => mapF (i + 1) (mapS KV i (hhash b.h)) l
theorem depHs_length (f : List Int) (Bs : List Blk) : (depHs f Bs).length = Bs.length + 1 := by simp [depHs]
theorem depHs_next {f : List Int} {Bs : List Blk} {i : Nat} (h : i < Bs.length) : (depHs f Bs).getD (i + 1) [] = hhash (Bs.getD i default).h := by
  simp [depHs, List.getD_eq_getElem?_getD, h]
theorem depHs_take {f : List Int} {Bs : List Blk} {i : Nat} (h : i < Bs.length) : ((depHs f Bs).map hv).take (i + 1 + 1) = ((depHs f Bs).map hv).take (i + 1) ++ [hv (hhash (Bs.getD i default).h)] := by
  rw [List.take_add_one]
  congr 1
  simp [depHs, List.getD_eq_getElem?_getD, h]
theorem depHs_get {f : List Int} {Bs : List Blk} {i : Nat} (h : i < (depHs f Bs).length) : (((depHs f Bs).map hv).take (i + 1)).getD i .undef = hv ((depHs f Bs).getD i []) := by
  simp [List.getD_eq_getElem?_getD, h, List.getElem?_take]
theorem depHs_len {f : List Int} {Bs : List Blk} {i : Nat} (hf : f.length = 32) : ((depHs f Bs).getD i []).length = 32 ∨ (depHs f Bs).length ≤ i := by
  by_cases h : i < (depHs f Bs).length
  · left
    cases i with
    | zero => simpa [depHs] using hf
    | succ i =>
      rw [depHs_next (by rw [depHs_length] at h; omega)]
      exact hhash_length _
  · right; omega
theorem own_take {Bs : List Blk} {i : Nat} (h : i < Bs.length) : (Bs.map ownB).take (i + 1) = (Bs.map ownB).take i ++ [ownB (Bs.getD i default)] := by
  rw [List.take_add_one]
  congr 1
  simp [List.getD_eq_getElem?_getD, h]
theorem W_dep {bn : Bool} {n : Nat} {Bs : List Blk} {f : List Int} (hB : Bs.length = n) (hn : n ≤ 100) (hok : ∀ b ∈ Bs, BlkOk b) (hf : f.length = 32) {hout : List (Nat × Row)} {res : PV} : ∀ (k i : Nat) (KV : List (List Int) × List Int), i + k = n → KV.1.length = KV.2.length → KV.1.length ≤ i + 1 →
    (depE ((depHs f Bs).getD i []) (Bs.drop i) = 0 → hout = rD n (Bs.map ownB) ((depHs f Bs).map hv) (mapF i KV (Bs.drop i)).1.length ((mapF i KV (Bs.drop i)).1.map hv) (mapF i KV (Bs.drop i)).2 ∧ res = .tup [.at 1 [], .int .i64 ((0 : Nat) : Int)]) →
    (∀ e, depE ((depHs f Bs).getD i []) (Bs.drop i) = e → e ≠ 0 → hout = [] ∧ res = .tup [.nilp, .int .i64 e]) →
    W Tryd.prog G0 Tryd.f7 [] hout res (loopAt Tryd.f7 0) (dN bn n (Bs.map Blk.pv) (((depHs f Bs).map hv).take (i + 1)) KV.1.length (KV.1.map hv) KV.2 ((Bs.map ownB).take i) i)
  | 0, i, KV, hk, hl, hq, h1, h2 => by
    have hi : i = n := by omega
    subst hi
    rw [List.drop_of_length_le (by omega)] at h1
    obtain ⟨rfl, rfl⟩ := h1 rfl
    rw [List.take_of_length_le (l := (depHs f Bs).map hv) (by rw [List.length_map, depHs_length]; omega), List.take_of_length_le (l := Bs.map ownB) (by rw [List.length_map]; omega)]
    rcases i with _ | i
    · exact W_dnEnd0
    · exact W_dnEnd1
  | k + 1, i, KV, hk, hl, hq, h1, h2 => by
    have hi : i < n := by omega
    have hlt : i < Bs.length := by omega
    have g := blk_get hlt
    have gH := depHs_get (f := f) (Bs := Bs) (i := i) (by rw [depHs_length]; omega)
    have hx : ((depHs f Bs).getD i []).length = 32 := by
      rcases depHs_len (f := f) (Bs := Bs) (i := i) hf with h | h
      · exact h
      · rw [depHs_length] at h; omega
    have hmem : Bs.getD i default ∈ Bs := by
      have : Bs.getD i default = Bs[i] := by simp [List.getD_eq_getElem?_getD, hlt]
      rw [this]; exact List.getElem_mem hlt
    have ob := hok _ hmem
    have hdrop : Bs.drop i = Bs.getD i default :: Bs.drop (i + 1) := by rw [List.drop_eq_getElem_cons hlt]; simp [List.getD_eq_getElem?_getD, hlt]
    have ih := fun KV => W_dep (bn := bn) hB hn hok hf (hout := hout) (res := res) k (i + 1) KV (by omega)
    rw [depHs_take hlt, own_take hlt, depHs_next hlt] at ih
    rw [hdrop] at h1 h2
    have c1 := pc_bCheck (nl := (Bs.getD i default).nl) ob.h ob.t ob.n
    have c2 := pc_hdHash ob.h
    have c3 := pc_own (h := (Bs.getD i default).h) (nl := (Bs.getD i default).nl) ob.t ob.n
    have hy := hhash_length (Bs.getD i default).h
    have hLH : (((depHs f Bs).map hv).take (i + 1)).length = i + 1 := by rw [List.length_take, List.length_map, depHs_length]; omega
    have hLB : ((Bs.map ownB).take i).length = i := by rw [List.length_take, List.length_map]; omega
    clear hdrop hmem
    generalize Bs.getD i default = b at *
    generalize (depHs f Bs).getD i [] = x at *
    obtain ⟨h, tn, m, L⟩ := b
    dsimp only at *
    unfold depE at h1 h2
    dsimp only at h1 h2
    by_cases hc : checkE h L = 0
    · rw [if_pos hc] at h1 h2
      rw [hc] at c1
      by_cases hp : h.prev = x
      · rw [if_pos hp] at h1 h2
        unfold mapF at h1
        dsimp only at h1
        have hS : mapS KV i (hhash h) = if mhas (KV.1.map hv) (hv (hhash h)) = true then KV else (KV.1 ++ [hhash h], KV.2 ++ [((i + 1 : Nat) : Int)]) := rfl
        have ih := ih (mapS KV i (hhash h))
        by_cases hm : mhas (KV.1.map hv) (hv (hhash h)) = true
        · rw [if_pos hm] at hS
          rw [hS] at h1 ih
          have ih := ih hl (by omega) h1 h2
          rcases i with _ | i
          · have hw := ih
            rw [List.take_zero, List.nil_append] at hw
            exact W_dn0Has hi g gH hLH hn c1 c2 c3 hx hy hp hm (by omega) hw
          · exact W_dn1Has hi g gH hLH hLB hn c1 c2 c3 hx hy hp hm (by omega) ih
        · have hm' : mhas (KV.1.map hv) (hv (hhash h)) = false := by simpa using hm
          rw [if_neg hm] at hS
          rw [hS] at h1 ih
          have ih := ih (by simp [hl]) (by simp; omega) h1 h2
          dsimp only at ih
          rw [List.length_append, List.map_append] at ih
          rcases i with _ | i
          · have hw := ih
            rw [List.take_zero, List.nil_append] at hw
            exact W_dn0New hi g gH hLH hn c1 c2 c3 hx hy hp hm' (by omega) hw
          · exact W_dn1New hi g gH hLH hLB hn c1 c2 c3 hx hy hp hm' (by omega) ih
      · rw [if_neg hp] at h1 h2
        obtain ⟨rfl, rfl⟩ := h2 9 rfl (by omega)
        rcases i with _ | i
        · exact W_dn0Off (to := true) (y := x) hi g gH hn c1 hx hp
        · exact W_dn1Off (to := true) (y := x) hi g gH hn c1 hx hp
    · rw [if_neg hc] at h1 h2
      obtain ⟨rfl, rfl⟩ := h2 _ rfl hc
      rcases i with _ | i
      · exact W_dn0Bad (to := true) (y := x) hi g gH hn hc c1
      · exact W_dn1Bad (to := true) (y := x) hi g gH hn hc c1
def depKV (f : List Int) (Bs : List Blk) : List (List Int) × List Int := mapF 0 ([f], [0]) Bs
def depRows (n : Nat) (f : List Int) (Bs : List Blk) : List (Nat × Row) := rD n (Bs.map ownB) ((depHs f Bs).map hv) (depKV f Bs).1.length ((depKV f Bs).1.map hv) (depKV f Bs).2
theorem pc_depNew {bn : Bool} {n : Nat} {Bs : List Blk} {f : List Int} (hB : Bs.length = n) (hn : n ≤ 100) (hok : ∀ b ∈ Bs, BlkOk b) (hf : f.length = 32) {hout : List (Nat × Row)} {res : PV} (h1 : depE f Bs = 0 → hout = depRows n f Bs ∧ res = .tup [.at 1 [], .int .i64 ((0 : Nat) : Int)]) (h2 : ∀ e, depE f Bs = e → e ≠ 0 → hout = [] ∧ res = .tup [.nilp, .int .i64 e]) :
    PC Tryd.prog G0 7 [] [.iarr .u8 32 f, blksPV bn n Bs] hout res := by
  refine PC.of (fn := Tryd.f7) (c := bodyOf Tryd.f7) Tryd.func7 (by kernel_rfl) (by kernel_rfl) (by kernel_rfl) (by kernel_rfl) ?_
  have hw := W_dep (bn := bn) hB hn hok hf (hout := hout) (res := res) n 0 ([f], [0]) (by omega) rfl (by simp) (by rw [List.drop_zero]; exact h1) (by rw [List.drop_zero]; exact h2)
  clear h1 h2
  change W _ _ _ _ _ _ _ (dN0 bn n (Bs.map Blk.pv) [.iarr .u8 32 f] 1 [.iarr .u8 32 f] [0]) at hw
  unfold blksPV
  generalize Bs.map Blk.pv = B at *
  unfold dN0 at hw
  refine W.sg 0 [(5, aF)] [(272, 1), (176, 3), (192, 4)] (⟨[(6, .at 1 []), (23, .vec bn (.parr 69 n bksh B)), (24, .int .i64 n), (25, .int .i64 0)], [(1, ⟨.st 3 [.vec true (.parr 69 0 bksh []), .ref 3 [] 32 0 1, .fn 1000000 4], false⟩), (3, ⟨.parr 32 1 hsE [.iarr .u8 32 f], false⟩), (4, ⟨.tup [.tup [.parr 32 1 hsE [.iarr .u8 32 f], .iarr .i64 1 [0]]], false⟩)]⟩ : DS) [decide ((n:Int) > 512) = false, rr (false)] (by kernel_rfl) (ac (dF (by omega)) (ao rfl)) ?_
  exact hw
theorem pc_len0 {HM : List PV} {q : Nat} {K : List PV} {V : List Int} : PC Tryd.prog G0 9 (rD0 HM q K V) [.at 1 []] (rD0 HM q K V) (.int .i64 ((0 : Nat) : Int)) := by
  unfold rD0
  refine PC.of (fn := Tryd.f9) (c := bodyOf Tryd.f9) Tryd.func9 (by kernel_rfl) (by kernel_rfl) (by kernel_rfl) (by kernel_rfl) ?_
  refine W.rt [(5, aV (I6 0))] [(1, 1), (3, 3), (4, 4)] [I6 (↑(0 : Nat) : Int) = I6 0] (by kernel_rfl) (ao (cg (by omega)))
theorem pc_cloneH {n : Nat} {HM : List PV} (hn : n ≤ 1000) (h0 : 0 < n) (hl : HM.length = n) : PC Tryd.prog G0 17 [] [.vec false (.parr 32 n hsE HM)] [(1, ⟨.parr 32 n hsE HM, false⟩)] (.ref 1 [] 32 0 n) := by
  refine PC.of (fn := Tryd.f17) (c := bodyOf Tryd.f17) Tryd.func17 (by kernel_rfl) (by kernel_rfl) (by kernel_rfl) (by kernel_rfl) ?_
  refine W.rt [(5, Ans.vu (PV.ref 144 [] 32 0 n) [(112, none), (144, some (Row.mk (PV.parr 32 n (Sh.iarr IntKind.u8 32) HM) false))])] [(144, 1)] [([(112, none), (144, some (Row.mk (PV.parr 32 (0 + n) (Sh.iarr IntKind.u8 32) HM) false))] : List (Nat × Option Row)) = [(112, none), (144, some (Row.mk (PV.parr 32 n (Sh.iarr IntKind.u8 32) HM) false))], PV.ref 144 [] 32 0 (0 + n) = PV.ref 144 [] 32 0 n, rr (0), (0 + n) * 32 ≤ 140737488355328, 0 + n ≤ 9223372036854775807] (by kernel_rfl) (ac (by simp only [Nat.zero_add]) (ac (by simp only [Nat.zero_add]) (ac rfl (ac (by omega) (ao (by omega))))))
theorem pc_hashes0 {HM : List PV} {q : Nat} {K : List PV} {V : List Int} (hl : HM.length = 1) : PC Tryd.prog G0 10 (rD0 HM q K V) [.at 1 []] (rD0 HM q K V ++ [(5, ⟨.parr 32 1 hsE HM, false⟩)]) (.ref 5 [] 32 0 1) := by
  unfold rD0
  refine PC.of (fn := Tryd.f10) (c := bodyOf Tryd.f10) Tryd.func10 (by kernel_rfl) (by kernel_rfl) (by kernel_rfl) (by kernel_rfl) ?_
  have c1 := pc_cloneH (n := 1) (HM := HM) (by omega) (by omega) hl
  have ht : HM.take 1 = HM := List.take_of_length_le (by omega)
  refine W.rt [(5, cL true [] c1)] [(1, 1), (3, 3), (4, 4), (145, 5)] [1 ≤ 1, rr ([] : List (Nat × Row)), ([PV.vec false (PV.parr 32 1 (Sh.iarr IntKind.u8 32) (List.take 1 HM))] : List PV) = [PV.vec false (PV.parr 32 1 (Sh.iarr IntKind.u8 32) HM)], _] (by kernel_rfl) (ac (by omega) (ac rfl (ac (by rw [List.take_of_length_le (show List.length HM ≤ 1 by omega)]) (ao (c1)))))
def f7 : List Int := 7 :: List.replicate 31 0
theorem pc_depAwake : PC Tryd.prog G0 6 [] [] [] (.bool true) := by
  refine PC.of (fn := Tryd.f6) (c := bodyOf Tryd.f6) Tryd.func6 (by kernel_rfl) (by kernel_rfl) (by kernel_rfl) (by kernel_rfl) ?_
  have c1 := pc_depNew (bn := true) (n := 0) (Bs := []) (f := f7) rfl (by omega) (fun b hb => by cases hb) rfl (hout := depRows 0 f7 []) (res := .tup [.at 1 [], .int .i64 ((0 : Nat) : Int)]) (fun _ => ⟨rfl, rfl⟩) (fun e he hne => absurd he.symm hne)
  have c2 := pc_len0 (HM := [hv f7]) (q := 1) (K := [hv f7]) (V := [0])
  have c3 := pc_hashes0 (HM := [hv f7]) (q := 1) (K := [hv f7]) (V := [0]) rfl
  change PC _ _ _ _ [.iarr .u8 32 f7, .vec true (.parr 69 0 bksh [])] (rD0 [hv f7] 1 [hv f7] [0]) _ at c1
  unfold rD0 hv f7 at *
  refine W.rt [(2, c9 c1), (5, aV (I6 0)), (16, cC true [(97, 1), (99, 3), (100, 4)] c2), (21, cC true [(97, 1), (99, 3), (100, 4)] c3), (22, aV (I6 1)), (27, cC true [(97, 1), (99, 3), (100, 4)] c3)] [] [_, I6 (↑(0 : Nat) : Int) = I6 0, _, _, I6 (↑(1 : Nat) : Int) = I6 1, _, (0 : Int) ≤ (0 : Int), 0 < (↑(1 : Nat) : Int), 0 < 1] (by kernel_rfl) (ac (c1) (ac (cg (by omega)) (ac (c2) (ac (c3) (ac (cg (by omega)) (ac (c3) (ac (by omega) (ac (by omega) (ao (by omega))))))))))
end Go.Proofs
namespace Go.Proofs
open Go Go.Pe Go.Pm
set_option maxRecDepth 100000
set_option linter.unusedVariables false
theorem HsOk.lvl {l : List (List Int)} {n : Nat} (h : HsOk l n) : ∀ k, HsOk (lvl l k) (wid n k)
  | 0 => h
  | k + 1 => by rw [Pm.lvl, wid]; exact (HsOk.lvl h k).above
end Go.Proofs
namespace Go.Proofs
open Go Go.Pe Go.Pm
set_option maxRecDepth 100000
set_option linter.unusedVariables false
theorem Rd.In.size {r : Rd} {bs : List Int} {N : Nat} (h : r.In bs N) : (strOf r.s).size = r.s.length := strOf_size _
end Go.Proofs
namespace Go.Pm
/-- a count's bytes -/
def vb (n : Nat) : List Int := if n < 253 then le n 1 else if n < 65536 then 253 :: le n 2 else if n < 4294967296 then 254 :: le n 4 else 255 :: le n 8
end Go.Pm
namespace Go.Proofs
open Go Go.Pe Go.Pm
set_option maxRecDepth 100000
set_option linter.unusedVariables false
def hdL (Bs : List Blk) : List PV := Bs.map fun b => b.h.pv
def dHd (t : Int) (c i : Nat) (n : Nat) (BM HM : List PV) (q : Nat) (K : List PV) (V : List Int) (M : List PV) : DS := ⟨[(0, .at 1 []), (2, .int .i64 t), (7, .ref 5 [] 68 0 c), (8, .int .i64 ((i + 1 : Nat) : Int))], rD1 n BM HM q K V ++ [(5, ⟨.parr 68 c hsh M, false⟩)]⟩
def dHd0 (t : Int) (i : Nat) (n : Nat) (BM HM : List PV) (q : Nat) (K : List PV) (V : List Int) : DS := ⟨[(0, .at 1 []), (2, .int .i64 t), (7, .vec true (.parr 68 0 hsh [])), (8, .int .i64 ((i + 1 : Nat) : Int))], rD1 n BM HM q K V⟩
theorem W_hds {t : Int} {n : Nat} {Bs : List Blk} {HM : List PV} {q : Nat} {K : List PV} {V : List Int} (hB : Bs.length = n) (hn : n ≤ 100) {s e : Nat} (he : e ≤ n) (ht : (e : Int) + 1 ≤ t) (hen : e = n ∨ (e : Int) + 1 = t) :
    ∀ (k i : Nat), i + k = e → s < i → W Tryd.prog G0 Tryd.f11 [1, 2, 3, 4] (rD1 n (Bs.map ownB) HM q K V ++ [(5, ⟨.parr 68 (e - s) hsh (((hdL Bs).drop s).take (e - s)), false⟩)]) (.ref 5 [] 68 0 (e - s)) (loopAt Tryd.f11 0) (dHd t (i - s) i n (Bs.map ownB) HM q K V (((hdL Bs).drop s).take (i - s)))
  | 0, i, hk, hs => by
    have hi : i = e := by omega
    subst hi
    generalize ((hdL Bs).drop s).take (i - s) = M at *
    generalize Bs.map ownB = BM at *
    generalize i - s = c at *
    by_cases h1 : ((i + 1 : Nat) : Int) < t
    · have h2 : i = n := by omega
      unfold rD1
      refine W.rt [(2, aT), (10, aF)] (rI 5) [decide ((↑(i + 1) : Int) < t) = true, decide ((↑(i + 1) : Int) ≤ (n:Int)) = false] (by kernel_rfl) (ac (dT (by omega)) (ao (dF (by omega))))
    · unfold rD1
      refine W.rt [(2, aF)] (rI 5) [decide ((↑(i + 1) : Int) < t) = false] (by kernel_rfl) (ao (dF (by omega)))
  | k + 1, i, hk, hs => by
    have hi : i < e := by omega
    have hlt : i < Bs.length := by omega
    have g : (Bs.map ownB).getD i .undef = .st 69 [(Bs.getD i default).h.pv, txsPV (decide ((Bs.getD i default).n = 0)) (Bs.getD i default).n (Bs.getD i default).L] := by simp [List.getD_eq_getElem?_getD, hlt, ownB, blkPV]
    have hM : ((hdL Bs).drop s).take (i + 1 - s) = ((hdL Bs).drop s).take (i - s) ++ [(Bs.getD i default).h.pv] := by
      rw [show i + 1 - s = (i - s) + 1 by omega, List.take_add_one]
      congr 1
      simp [hdL, List.getD_eq_getElem?_getD, show s + (i - s) = i by omega, hlt]
    have hlM : (((hdL Bs).drop s).take (i - s)).length = i - s := by simp [hdL]; omega
    have ih := W_hds (HM := HM) (q := q) (K := K) (V := V) hB hn (s := s) he ht hen k (i + 1) (by omega) (by omega)
    rw [hM] at ih
    have hc : i + 1 - s = (i - s) + 1 := by omega
    have hcb : i - s ≤ 100 := by omega
    rw [hc] at ih
    unfold txsPV at g
    generalize decide ((Bs.getD i default).n = 0) = tn at *
    generalize (Bs.getD i default).L.map bsPV = T at *
    generalize (Bs.getD i default).n = m at *
    generalize (Bs.getD i default).h = h at *
    generalize ((hdL Bs).drop s).take (e - s) = ME at *
    generalize ((hdL Bs).drop s).take (i - s) = M at *
    generalize Bs.map ownB = BM at *
    generalize i - s = c at *
    generalize e - s = ce at *
    clear hM hc
    have h1 : ((i + 1 : Nat) : Int) < t := by omega
    have h2 : ((i + 1 : Nat) : Int) ≤ (n : Int) := by omega
    refine W.sg 0 [(2, aT), (10, aT), (18, aV (I6 (i:Int))), (19, aV (PV.at 2 [Stp.idx i 69])), (21, aV (Hd.pv h)), (23, Ans.ups [(5, none), (432, some (Row.mk (PV.parr 68 (c + 1) hsh (M ++ [Hd.pv h])) false))]), (26, aV (I6 (↑(i + 2) : Int)))] [(1, 1), (2, 2), (3, 3), (4, 4), (432, 5)] (dHd t (c + 1) (i + 1) n BM HM q K V (M ++ [h.pv])) [decide ((↑(i + 1) : Int) < t) = true, decide ((↑(i + 1) : Int) ≤ (n:Int)) = true, I6 (IntKind.wrap .i64 ((↑(i + 1) : Int) - 1)) = I6 (i:Int), PV.at 2 [Stp.idx (0 + i) 69] = PV.at 2 [Stp.idx i 69], 0 ≤ (i:Int), (i:Int) < (n:Int), expose hsh (List.headD (PV.fs (List.getD BM i PV.undef)) PV.undef) = Hd.pv h, i < n, ([(5, none), (432, some (Row.mk (PV.parr 68 (c + 1) hsh (List.take c M ++ [Hd.pv h])) false))] : List (Nat × Option Row)) = [(5, none), (432, some (Row.mk (PV.parr 68 (c + 1) hsh (M ++ [Hd.pv h])) false))], 1 ≤ 1, 0 + c = c, (c + 1) * 80 ≤ 140737488355328, c + 1 ≤ 9223372036854775807, I6 (IntKind.wrap .i64 ((↑(i + 1) : Int) + 1)) = I6 (↑(i + 2) : Int)] (by kernel_rfl) (ac (dT (by omega)) (ac (dT (by omega)) (ac (cg (w_i64 (by omega) (by omega) (by omega))) (ac (by simp only [Nat.zero_add]) (ac (by omega) (ac (by omega) (ac (by (rw [g]; rfl)) (ac (by omega) (ac (by rw [List.take_of_length_le (show List.length M ≤ c by omega)]) (ac (by omega) (ac (by omega) (ac (by omega) (ac (by omega) (ao (cg (w_i64 rfl (by omega) (by omega))))))))))))))))) ?_
    exact ih
theorem pc_heads {fr t : Int} {n : Nat} {Bs : List Blk} {HM : List PV} {q : Nat} {K : List PV} {V : List Int} (hB : Bs.length = n) (hn : n ≤ 100) {s e : Nat} (hs : s < e) (he : e ≤ n) (hf : mx fr 1 = ((s + 1 : Nat) : Int)) (ht : (e : Int) + 1 ≤ t) (hen : e = n ∨ (e : Int) + 1 = t) :
    PC Tryd.prog G0 11 (rD1 n (Bs.map ownB) HM q K V) [.at 1 [], .int .i64 fr, .int .i64 t] (rD1 n (Bs.map ownB) HM q K V ++ [(5, ⟨.parr 68 (e - s) hsh (((hdL Bs).drop s).take (e - s)), false⟩)]) (.ref 5 [] 68 0 (e - s)) := by
  refine PC.of (fn := Tryd.f11) (c := bodyOf Tryd.f11) Tryd.func11 (by kernel_rfl) (by kernel_rfl) (by kernel_rfl) (by kernel_rfl) ?_
  have hlt : s < Bs.length := by omega
  have g : (Bs.map ownB).getD s .undef = .st 69 [(Bs.getD s default).h.pv, txsPV (decide ((Bs.getD s default).n = 0)) (Bs.getD s default).n (Bs.getD s default).L] := by simp [List.getD_eq_getElem?_getD, hlt, ownB, blkPV]
  have hM : ((hdL Bs).drop s).take (s + 1 - s) = [(Bs.getD s default).h.pv] := by
    rw [show s + 1 - s = 0 + 1 by omega, List.take_add_one]
    simp [hdL, List.getD_eq_getElem?_getD, hlt]
  have ih := W_hds (HM := HM) (q := q) (K := K) (V := V) hB hn (s := s) he ht hen (e - (s + 1)) (s + 1) (by omega) (by omega)
  rw [hM, show s + 1 - s = 1 by omega] at ih
  unfold txsPV at g
  generalize decide ((Bs.getD s default).n = 0) = tn at *
  generalize (Bs.getD s default).L.map bsPV = T at *
  generalize (Bs.getD s default).n = m at *
  generalize (Bs.getD s default).h = h at *
  generalize ((hdL Bs).drop s).take (e - s) = ME at *
  generalize Bs.map ownB = BM at *
  generalize e - s = ce at *
  clear hM
  have h1 : ((s + 1 : Nat) : Int) < t := by omega
  have h2 : ((s + 1 : Nat) : Int) ≤ (n : Int) := by omega
  refine W.sg 0 [(3, aV (I6 (↑(s + 1) : Int)))] (rI 4) (dHd0 t s n BM HM q K V) [I6 (mx fr (1 : Int)) = I6 (↑(s + 1) : Int)] (by kernel_rfl) (ao (cg (hf))) ?_
  refine W.sg 0 [(2, aT), (10, aT), (18, aV (I6 (s:Int))), (19, aV (PV.at 2 [Stp.idx s 69])), (21, aV (Hd.pv h)), (26, aV (I6 (↑(s + 2) : Int)))] [(1, 1), (2, 2), (3, 3), (4, 4), (432, 5)] (dHd t 1 (s + 1) n BM HM q K V [h.pv]) [decide ((↑(s + 1) : Int) < t) = true, decide ((↑(s + 1) : Int) ≤ (n:Int)) = true, I6 (IntKind.wrap .i64 ((↑(s + 1) : Int) - 1)) = I6 (s:Int), PV.at 2 [Stp.idx (0 + s) 69] = PV.at 2 [Stp.idx s 69], 0 ≤ (s:Int), (s:Int) < (n:Int), expose hsh (List.headD (PV.fs (List.getD BM s PV.undef)) PV.undef) = Hd.pv h, s < n, 1 ≤ 1, 0 < 1, 1 * 80 ≤ 140737488355328, 1 ≤ 9223372036854775807, I6 (IntKind.wrap .i64 ((↑(s + 1) : Int) + 1)) = I6 (↑(s + 2) : Int)] (by kernel_rfl) (ac (dT (by omega)) (ac (dT (by omega)) (ac (cg (w_i64 (by omega) (by omega) (by omega))) (ac (by simp only [Nat.zero_add]) (ac (by omega) (ac (by omega) (ac (by (rw [g]; rfl)) (ac (by omega) (ac (by omega) (ac (by omega) (ac (by omega) (ac (by omega) (ao (cg (w_i64 rfl (by omega) (by omega)))))))))))))))) ?_
  exact ih
theorem pc_headsN {fr t : Int} {n : Nat} {BM : List PV} {HM : List PV} {q : Nat} {K : List PV} {V : List Int} (hz : ¬ (mx fr 1 < t ∧ mx fr 1 ≤ n)) :
    PC Tryd.prog G0 11 (rD1 n BM HM q K V) [.at 1 [], .int .i64 fr, .int .i64 t] (rD1 n BM HM q K V) (.vec true (.parr 68 0 hsh [])) := by
  refine PC.of (fn := Tryd.f11) (c := bodyOf Tryd.f11) Tryd.func11 (by kernel_rfl) (by kernel_rfl) (by kernel_rfl) (by kernel_rfl) ?_
  refine W.sg 0 [] (rI 4) (⟨[(0, .at 1 []), (2, .int .i64 t), (7, .vec true (.parr 68 0 hsh [])), (8, .int .i64 (mx fr 1))], rD1 n BM HM q K V⟩ : DS) [] (by kernel_rfl) trivial ?_
  generalize mx fr 1 = a at *
  by_cases h1 : a < t
  · have h2 : ¬ a ≤ n := by omega
    unfold rD1
    refine W.rt [(2, aT), (10, aF)] (rI 4) [decide (a < t) = true, decide (a ≤ (n:Int)) = false] (by kernel_rfl) (ac (dT (by omega)) (ao (dF (by omega))))
  · unfold rD1
    refine W.rt [(2, aF)] (rI 4) [decide (a < t) = false] (by kernel_rfl) (ao (dF (by omega)))
theorem pc_headsZ {fr t : Int} {HM : List PV} {q : Nat} {K : List PV} {V : List Int} :
    PC Tryd.prog G0 11 (rD0 HM q K V) [.at 1 [], .int .i64 fr, .int .i64 t] (rD0 HM q K V) (.vec true (.parr 68 0 hsh [])) := by
  refine PC.of (fn := Tryd.f11) (c := bodyOf Tryd.f11) Tryd.func11 (by kernel_rfl) (by kernel_rfl) (by kernel_rfl) (by kernel_rfl) ?_
  have h0 : 1 ≤ mx fr 1 := by unfold mx; split <;> omega
  refine W.sg 0 [] [(1, 1), (3, 3), (4, 4)] (⟨[(0, .at 1 []), (2, .int .i64 t), (7, .vec true (.parr 68 0 hsh [])), (8, .int .i64 (mx fr 1))], rD0 HM q K V⟩ : DS) [] (by kernel_rfl) trivial ?_
  generalize mx fr 1 = a at *
  have h2 : ¬ a ≤ 0 := by omega
  by_cases h1 : a < t
  · unfold rD0
    refine W.rt [(2, aT), (9, aV (I6 0)), (10, aF)] [(1, 1), (3, 3), (4, 4)] [decide (a < t) = true, I6 (↑(0 : Nat) : Int) = I6 0, decide (a ≤ (0 : Int)) = false] (by kernel_rfl) (ac (dT (by omega)) (ac (cg (by omega)) (ao (dF (by omega)))))
  · unfold rD0
    refine W.rt [(2, aF)] [(1, 1), (3, 3), (4, 4)] [decide (a < t) = false] (by kernel_rfl) (ao (dF (by omega)))
end Go.Proofs
namespace Go.Proofs
open Go Go.Pe Go.Pm
set_option maxRecDepth 100000
/-- transactions' bytes, of any size -/
structure TxsW (L : List TxM) (n : Nat) : Prop where
  len : L.length = n
  el : ∀ x ∈ L, BsOk x ∧ (x.1 = true → x.2.1 = 0)
theorem TxsW.get {L : List TxM} {n i : Nat} (h : TxsW L n) (hi : i < n) : BsOk (L.getD i default) := by
  have hi' : i < L.length := by rw [h.len]; exact hi
  have : L.getD i default = L[i] := by simp [List.getD_eq_getElem?_getD, hi']
  rw [this]
  exact (h.el _ (List.getElem_mem hi')).1
theorem tx_of {q : PV} (hc : conf (.vec 1 (.int .u8)) q = true) (hw : WF q) : ∃ x : TxM, q = bsPV x ∧ BsOk x ∧ (x.1 = true → x.2.1 = 0) := by
  obtain ⟨nl, n, l, rfl⟩ : ∃ nl n l, q = .vec nl (.iarr .u8 n l) := ⟨_, _, _, (expose_conf _ _ hc).symm⟩
  simp only [WF] at hw
  obtain ⟨⟨h1, h2⟩, _, h3⟩ := hw
  exact ⟨(nl, n, l), rfl, ⟨h1, u8_bytes h2⟩, h3⟩
theorem txs_of : ∀ {l : List PV}, WFL l → (∀ q ∈ l, size q = 1 ∧ conf (.vec 1 (.int .u8)) q = true ∧ noref q = true) → ∃ L : List TxM, l = L.map bsPV ∧ ∀ x ∈ L, BsOk x ∧ (x.1 = true → x.2.1 = 0)
  | [], _, _ => ⟨[], rfl, fun x hx => by cases hx⟩
  | p :: l, hw, hq => by
    simp only [WFL] at hw
    obtain ⟨x, rfl, ho⟩ := tx_of (hq p (by simp)).2.1 hw.1
    obtain ⟨L, rfl, hL⟩ := txs_of hw.2 fun q hh => hq q (by simp [hh])
    refine ⟨x :: L, rfl, fun y hy => ?_⟩
    rcases List.mem_cons.1 hy with rfl | hy
    · exact ho
    · exact hL y hy
theorem txsv_of {p : PV} (hc : conf (.vec 1 (.vec 1 (.int .u8))) p = true) (hw : WF p) : ∃ (nl : Bool) (n : Nat) (L : List TxM), p = txsPV nl n L ∧ TxsW L n := by
  obtain ⟨nl, n, m, rfl⟩ : ∃ nl n m, p = .vec nl (.parr 1 n (.vec 1 (.int .u8)) m) := ⟨_, _, _, (expose_conf _ _ hc).symm⟩
  simp only [WF] at hw
  obtain ⟨⟨h1, h2, h3⟩, _, _⟩ := hw
  obtain ⟨L, rfl, hL⟩ := txs_of h2 h3
  exact ⟨nl, n, L, rfl, ⟨by rw [← h1, List.length_map], hL⟩⟩
theorem blk_of {p : PV} (hc : conf bksh p = true) (hw : WF p) : ∃ (h : Hd) (nl : Bool) (n : Nat) (L : List TxM), p = blkPV h nl n L ∧ h.Ok ∧ TxsW L n := by
  obtain ⟨x, y, rfl, hx, hy⟩ : ∃ x y, p = .st 69 [x, y] ∧ conf hsh x = true ∧ conf (.vec 1 (.vec 1 (.int .u8))) y = true := by
    have e := expose_conf _ _ hc
    obtain ⟨x, y, rfl⟩ : ∃ x y, p = .st 69 [x, y] := ⟨_, _, e.symm⟩
    have h2 : (Nat.beq 69 69 && (conf hsh x && (conf (.vec 1 (.vec 1 (.int .u8))) y && true))) = true := hc
    simp only [Bool.and_eq_true] at h2
    exact ⟨x, y, rfl, h2.2.1, h2.2.2.1⟩
  simp only [WF, WFL] at hw
  obtain ⟨h, rfl, hh⟩ := hd_of hx hw.2.1
  obtain ⟨nl, n, L, rfl, hL⟩ := txsv_of hy hw.2.2.1
  exact ⟨h, nl, n, L, rfl, hh, hL⟩
end Go.Proofs
namespace Go.Proofs
open Go Go.Pe Go.Pm
set_option maxRecDepth 100000
set_option linter.unusedVariables false
structure BlkW (b : Blk) : Prop where
  h : b.h.Ok
  t : TxsW b.L b.n
theorem BlkW.ok {b : Blk} (h : BlkW b) (hg : goodB b = true) : BlkOk b := by
  unfold goodB at hg
  simp only [Bool.and_eq_true, decide_eq_true_eq, List.all_eq_true] at hg
  exact ⟨h.h, ⟨h.t.len, fun x hx => ⟨(h.t.el x hx).1, (h.t.el x hx).2, by have := hg.2 x hx; omega⟩⟩, by omega⟩
theorem fineB_ok {Bs : List Blk} (h : ∀ b ∈ Bs, BlkW b) (hf : fineB Bs = true) : Bs.length ≤ 10 ∧ ∀ b ∈ Bs, BlkOk b := by
  unfold fineB at hf
  simp only [Bool.and_eq_true, decide_eq_true_eq, List.all_eq_true] at hf
  exact ⟨hf.1, fun b hb => (h b hb).ok (hf.2 b hb)⟩
def dDH0 (fr t : Int) (bn : Bool) (n : Nat) (B : List PV) (i : Nat) : DS := ⟨[(1, .int .i64 fr), (2, .int .i64 t), (9, .vec true (.parr 68 0 hsh [])), (10, .int .i64 0), (35, .vec bn (.parr 69 n bksh B)), (36, .int .i64 n), (37, .int .i64 i)], []⟩
def dDH (fr t : Int) (bn : Bool) (n : Nat) (B : List PV) (m : Nat) (M : List PV) (c i : Nat) : DS := ⟨[(1, .int .i64 fr), (2, .int .i64 t), (9, .ref 1 [] 68 0 m), (10, .int .i64 c), (35, .vec bn (.parr 69 n bksh B)), (36, .int .i64 n), (37, .int .i64 i)], [(1, ⟨.parr 68 m hsh M, false⟩)]⟩
theorem W_dh0 {fr t : Int} {bn : Bool} {n : Nat} {Bs : List Blk} (hB : Bs.length = n) (hn : n ≤ 100) (hz : ∀ j : Nat, j < n → ((j : Int) + 1 < fr ∨ t ≤ (j : Int) + 1)) (ca : PC Tryd.prog G0 6 [] [] [] (.bool true)) : ∀ (k i : Nat), i + k = n →
    W Tryd.prog G0 Tryd.f4 [] [] (.bool true) (loopAt Tryd.f4 0) (dDH0 fr t bn n (Bs.map Blk.pv) i)
  | 0, i, hk => by
    obtain rfl : i = n := by omega
    generalize Bs.map Blk.pv = B at *
    refine W.rt [(0, aF), (3, aV (I6 0)), (6, c9 ca)] [] [decide ((i:Int) < (i:Int)) = false, I6 (↑(0 : Nat) : Int) = I6 0, _] (by kernel_rfl) (ac (dF (by omega)) (ac (cg (by omega)) (ao (ca))))
  | k + 1, i, hk => by
    have hi : i < n := by omega
    have hlt : i < Bs.length := by omega
    have g : (Bs.map Blk.pv).getD i .undef = .st 69 [(Bs.getD i default).h.pv, txsPV (Bs.getD i default).nl (Bs.getD i default).n (Bs.getD i default).L] := blk_get hlt
    have h0 := hz i hi
    have ih := W_dh0 (bn := bn) hB hn hz ca k (i + 1) (by omega)
    unfold txsPV at g
    generalize (Bs.getD i default).nl = tn at *
    generalize (Bs.getD i default).L.map bsPV = T at *
    generalize (Bs.getD i default).n = m at *
    generalize (Bs.getD i default).h = h at *
    generalize Bs.map Blk.pv = B at *
    clear hz hlt
    by_cases h1 : (i : Int) + 1 < fr
    · refine W.sg 0 [(0, aT), (3, aE g), (8, aV (I6 (↑(i + 1) : Int))), (10, aT), (17, aV (I6 (↑(i + 1) : Int)))] [] (dDH0 fr t bn n B (i + 1)) [decide ((i:Int) < (n:Int)) = true, 0 ≤ (i:Int), (i:Int) < (n:Int), _, i < n, I6 (IntKind.wrap .i64 ((i:Int) + 1)) = I6 (↑(i + 1) : Int), decide ((↑(i + 1) : Int) < fr) = true, I6 (IntKind.wrap .i64 ((i:Int) + 1)) = I6 (↑(i + 1) : Int)] (by kernel_rfl) (ac (dT (by omega)) (ac (by omega) (ac (by omega) (ac (ex g) (ac (by omega) (ac (cg (w_i64 rfl (by omega) (by omega))) (ac (dT (by omega)) (ao (cg (w_i64 rfl (by omega) (by omega))))))))))) ?_
      exact ih
    · have h2 : t ≤ (i : Int) + 1 := by omega
      refine W.sg 0 [(0, aT), (3, aE g), (8, aV (I6 (↑(i + 1) : Int))), (10, aF), (13, aV (I6 (↑(i + 1) : Int))), (15, aT), (17, aV (I6 (↑(i + 1) : Int)))] [] (dDH0 fr t bn n B (i + 1)) [decide ((i:Int) < (n:Int)) = true, 0 ≤ (i:Int), (i:Int) < (n:Int), _, i < n, I6 (IntKind.wrap .i64 ((i:Int) + 1)) = I6 (↑(i + 1) : Int), decide ((↑(i + 1) : Int) < fr) = false, I6 (IntKind.wrap .i64 ((i:Int) + 1)) = I6 (↑(i + 1) : Int), decide ((↑(i + 1) : Int) ≥ t) = true, I6 (IntKind.wrap .i64 ((i:Int) + 1)) = I6 (↑(i + 1) : Int)] (by kernel_rfl) (ac (dT (by omega)) (ac (by omega) (ac (by omega) (ac (ex g) (ac (by omega) (ac (cg (w_i64 rfl (by omega) (by omega))) (ac (dF (by omega)) (ac (cg (w_i64 rfl (by omega) (by omega))) (ac (dT (by omega)) (ao (cg (w_i64 rfl (by omega) (by omega))))))))))))) ?_
      exact ih
theorem W_dh {fr t : Int} {bn : Bool} {n : Nat} {Bs : List Blk} {s e : Nat} (hB : Bs.length = n) (hn : n ≤ 100) (hs : s < e) (he : e ≤ n) (hf : mx fr 1 = ((s + 1 : Nat) : Int)) (ht : (e : Int) + 1 ≤ t) (hen : e = n ∨ (e : Int) + 1 = t) (ca : PC Tryd.prog G0 6 [] [] [] (.bool true)) : ∀ (k i c : Nat), i + k = n → c = min (i - s) (e - s) →
    W Tryd.prog G0 Tryd.f4 [] [] (.bool true) (loopAt Tryd.f4 0) (dDH fr t bn n (Bs.map Blk.pv) (e - s) (((hdL Bs).drop s).take (e - s)) c i)
  | 0, i, c, hk, hc => by
    obtain rfl : i = n := by omega
    obtain rfl : c = e - s := by omega
    generalize Bs.map Blk.pv = B at *
    generalize ((hdL Bs).drop s).take (e - s) = M at *
    generalize e - s = m at *
    refine W.rt [(0, aF), (4, aT), (6, c9 ca)] [] [decide ((i:Int) < (i:Int)) = false, ((m:Int) == (m:Int)) = true, _] (by kernel_rfl) (ac (dF (by omega)) (ac (dT (by omega)) (ao (ca))))
  | k + 1, i, c, hk, hc => by
    have hi : i < n := by omega
    have hlt : i < Bs.length := by omega
    have g : (Bs.map Blk.pv).getD i .undef = .st 69 [(Bs.getD i default).h.pv, txsPV (Bs.getD i default).nl (Bs.getD i default).n (Bs.getD i default).L] := blk_get hlt
    have ih := fun c' => W_dh (bn := bn) hB hn hs he hf ht hen ca k (i + 1) c' (by omega)
    have hfr : ((i : Int) + 1 < fr) ↔ i < s := by
      unfold mx at hf
      split at hf <;> omega
    have gM : s ≤ i → i < e → (((hdL Bs).drop s).take (e - s)).getD c .undef = (Bs.getD i default).h.pv := by
      intro h1 h2
      obtain rfl : c = i - s := by omega
      simp [hdL, List.getD_eq_getElem?_getD, List.getElem?_take, show i - s < e - s by omega, show s + (i - s) = i by omega, hlt]
    unfold txsPV at g
    generalize (Bs.getD i default).nl = tn at *
    generalize (Bs.getD i default).L.map bsPV = T at *
    generalize (Bs.getD i default).n = m at *
    generalize (Bs.getD i default).h = h at *
    generalize Bs.map Blk.pv = B at *
    have hcm : i < e → c < e - s := by omega
    generalize ((hdL Bs).drop s).take (e - s) = M at *
    clear hlt
    by_cases h1 : i < s
    · have h2 : (i : Int) + 1 < fr := hfr.2 h1
      have ih := ih c (by omega)
      clear hfr gM hcm
      generalize e - s = mm at *
      refine W.sg 0 [(0, aT), (3, aE g), (8, aV (I6 (↑(i + 1) : Int))), (10, aT), (17, aV (I6 (↑(i + 1) : Int)))] (rI 1) (dDH fr t bn n B mm M c (i + 1)) [decide ((i:Int) < (n:Int)) = true, 0 ≤ (i:Int), (i:Int) < (n:Int), _, i < n, I6 (IntKind.wrap .i64 ((i:Int) + 1)) = I6 (↑(i + 1) : Int), decide ((↑(i + 1) : Int) < fr) = true, I6 (IntKind.wrap .i64 ((i:Int) + 1)) = I6 (↑(i + 1) : Int)] (by kernel_rfl) (ac (dT (by omega)) (ac (by omega) (ac (by omega) (ac (ex g) (ac (by omega) (ac (cg (w_i64 rfl (by omega) (by omega))) (ac (dT (by omega)) (ao (cg (w_i64 rfl (by omega) (by omega))))))))))) ?_
      exact ih
    · have h2 : ¬ (i : Int) + 1 < fr := fun h => h1 (hfr.1 h)
      by_cases h3 : i < e
      · have gk := gM (by omega) h3
        have hcl := hcm h3
        have ih := ih (c + 1) (by omega)
        have h4 : ¬ ((i : Int) + 1 ≥ t) := by omega
        have hcb : c ≤ 100 := by omega
        clear hfr gM hcm hc
        generalize e - s = mm at *
        refine W.sg 0 [(0, aT), (3, aE g), (8, aV (I6 (↑(i + 1) : Int))), (10, aF), (13, aV (I6 (↑(i + 1) : Int))), (15, aF), (20, aF), (24, aV (PV.at 1 [Stp.idx c 68])), (25, aE gk), (28, aF), (31, aV (I6 (↑(c + 1) : Int))), (33, aV (I6 (↑(i + 1) : Int)))] (rI 1) (dDH fr t bn n B mm M (c + 1) (i + 1)) [decide ((i:Int) < (n:Int)) = true, 0 ≤ (i:Int), (i:Int) < (n:Int), _, i < n, I6 (IntKind.wrap .i64 ((i:Int) + 1)) = I6 (↑(i + 1) : Int), decide ((↑(i + 1) : Int) < fr) = false, I6 (IntKind.wrap .i64 ((i:Int) + 1)) = I6 (↑(i + 1) : Int), decide ((↑(i + 1) : Int) ≥ t) = false, decide ((c:Int) ≥ (mm:Int)) = false, PV.at 1 [Stp.idx (0 + c) 68] = PV.at 1 [Stp.idx c 68], 0 ≤ (c:Int), (c:Int) < (mm:Int), _, c < mm, (!((↑(Hd.ver h) : Int) == (↑(Hd.ver h) : Int) && (decide (Hd.prev h = Hd.prev h) && (decide (Hd.root h = Hd.root h) && ((↑(Hd.time h) : Int) == (↑(Hd.time h) : Int) && ((↑(Hd.bits h) : Int) == (↑(Hd.bits h) : Int) && ((↑(Hd.nonce h) : Int) == (↑(Hd.nonce h) : Int) && true))))))) = false, I6 (IntKind.wrap .i64 ((c:Int) + 1)) = I6 (↑(c + 1) : Int), I6 (IntKind.wrap .i64 ((i:Int) + 1)) = I6 (↑(i + 1) : Int)] (by kernel_rfl) (ac (dT (by omega)) (ac (by omega) (ac (by omega) (ac (ex g) (ac (by omega) (ac (cg (w_i64 rfl (by omega) (by omega))) (ac (dF (by omega)) (ac (cg (w_i64 rfl (by omega) (by omega))) (ac (dF (by omega)) (ac (dF (by omega)) (ac (by simp only [Nat.zero_add]) (ac (by omega) (ac (by omega) (ac (ex gk) (ac (by omega) (ac (by (simp [*]; done)) (ac (cg (w_i64 rfl (by omega) (by omega))) (ao (cg (w_i64 rfl (by omega) (by omega))))))))))))))))))))) ?_
        exact ih
      · have ih := ih c (by omega)
        have h4 : (i : Int) + 1 ≥ t := by omega
        clear hfr gM hcm hc
        generalize e - s = mm at *
        refine W.sg 0 [(0, aT), (3, aE g), (8, aV (I6 (↑(i + 1) : Int))), (10, aF), (13, aV (I6 (↑(i + 1) : Int))), (15, aT), (17, aV (I6 (↑(i + 1) : Int)))] (rI 1) (dDH fr t bn n B mm M c (i + 1)) [decide ((i:Int) < (n:Int)) = true, 0 ≤ (i:Int), (i:Int) < (n:Int), _, i < n, I6 (IntKind.wrap .i64 ((i:Int) + 1)) = I6 (↑(i + 1) : Int), decide ((↑(i + 1) : Int) < fr) = false, I6 (IntKind.wrap .i64 ((i:Int) + 1)) = I6 (↑(i + 1) : Int), decide ((↑(i + 1) : Int) ≥ t) = true, I6 (IntKind.wrap .i64 ((i:Int) + 1)) = I6 (↑(i + 1) : Int)] (by kernel_rfl) (ac (dT (by omega)) (ac (by omega) (ac (by omega) (ac (ex g) (ac (by omega) (ac (cg (w_i64 rfl (by omega) (by omega))) (ac (dF (by omega)) (ac (cg (w_i64 rfl (by omega) (by omega))) (ac (dT (by omega)) (ao (cg (w_i64 rfl (by omega) (by omega))))))))))))) ?_
        exact ih
theorem pc_depotHeads {f : List Int} {bn : Bool} {n : Nat} {Bs : List Blk} {fr t : Int} (hB : Bs.length = n) (hw : ∀ b ∈ Bs, BlkW b) (hf : f.length = 32) : PC Tryd.prog G0 4 [] [casePV f bn n Bs, .int .i64 fr, .int .i64 t] [] (.bool true) := by
  refine PC.of (fn := Tryd.f4) (c := bodyOf Tryd.f4) Tryd.func4 (by kernel_rfl) (by kernel_rfl) (by kernel_rfl) (by kernel_rfl) ?_
  have c0 := pc_fine (f := f) (bn := bn) hB (fun b hb => (hw b hb).t.len)
  have ca := pc_depAwake
  by_cases hfi : fineB Bs = true
  · obtain ⟨h10, hok⟩ := fineB_ok hw hfi
    rw [hfi] at c0
    rw [hB] at h10
    by_cases he : depE f Bs = 0
    · have c1 := pc_depNew (bn := bn) hB (by omega) hok hf (hout := depRows n f Bs) (res := .tup [.at 1 [], .int .i64 ((0 : Nat) : Int)]) (fun _ => ⟨rfl, rfl⟩) (fun e h1 h2 => absurd (h1.symm.trans he) h2)
      have hm1 : 1 ≤ mx fr 1 := by unfold mx; split <;> omega
      by_cases hz : mx fr 1 < t ∧ mx fr 1 ≤ n
      · obtain ⟨s, hs⟩ : ∃ s : Nat, mx fr 1 = ((s + 1 : Nat) : Int) := ⟨(mx fr 1 - 1).toNat, by omega⟩
        obtain ⟨e, hse, hen, hte, hor⟩ : ∃ e : Nat, s < e ∧ e ≤ n ∧ (e : Int) + 1 ≤ t ∧ (e = n ∨ (e : Int) + 1 = t) := by
          by_cases ht : (n : Int) + 1 ≤ t
          · exact ⟨n, by omega, by omega, ht, .inl rfl⟩
          · exact ⟨(t - 1).toNat, by omega, by omega, by omega, .inr (by omega)⟩
        have c2 := fun HM q K V => pc_heads (HM := HM) (q := q) (K := K) (V := V) hB (by omega) hse hen hs hte hor
        have hww := W_dh (bn := bn) hB (by omega) hse hen hs hte hor ca n 0 0 (by omega) (by omega)
        unfold depRows at c1
        unfold casePV blksPV at *
        have hlM : (((hdL Bs).drop s).take (e - s)).length = e - s := by simp [hdL]; omega
        generalize ((hdL Bs).drop s).take (e - s) = M at *
        generalize (depHs f Bs).map hv = H at *
        generalize Bs.map Blk.pv = B at *
        generalize Bs.map ownB = BM at *
        generalize (depKV f Bs).1.map hv = K at *
        generalize (depKV f Bs).1.length = q at *
        generalize (depKV f Bs).2 = V at *
        have c2 := c2 H q K V
        clear hf hw hB hfi he hok hz hm1
        generalize e - s = mm at *
        rcases n with _ | n
        · omega
        · change PC _ _ _ _ _ (rD1 (n + 1) BM H q K V) _ at c1
          unfold rD1 at c1 c2
          refine W.sg 0 [(3, Ans.call true [] [] (PV.bool true)), (9, Ans.call false [] [((1 : Nat), Row.mk (PV.st (3 : Nat) [PV.ref (2 : Nat) [] (69 : Nat) (0 : Nat) (n + (1 : Nat)), PV.ref (3 : Nat) [] (32 : Nat) (0 : Nat) (n + (1 : Nat) + (1 : Nat)), PV.fn (1000000 : Nat) (4 : Nat)]) false), ((2 : Nat), Row.mk (PV.parr (69 : Nat) (n + (1 : Nat)) (Sh.st (69 : Nat) [Sh.st (68 : Nat) [Sh.int IntKind.u32, Sh.iarr IntKind.u8 (32 : Nat), Sh.iarr IntKind.u8 (32 : Nat), Sh.int IntKind.u32, Sh.int IntKind.u32, Sh.int IntKind.u32], Sh.vec (1 : Nat) (Sh.vec (1 : Nat) (Sh.int IntKind.u8))]) BM) false), ((3 : Nat), Row.mk (PV.parr (32 : Nat) (n + (1 : Nat) + (1 : Nat)) (Sh.iarr IntKind.u8 (32 : Nat)) H) false), ((4 : Nat), Row.mk (PV.tup [PV.tup [PV.parr (32 : Nat) q (Sh.iarr IntKind.u8 (32 : Nat)) K, PV.iarr IntKind.i64 q V]]) false)] (PV.tup [PV.at (1 : Nat) [], PV.int IntKind.i64 (↑(0 : Nat) : Int)])), (12, Ans.val (PV.int IntKind.i64 (0 : Int))), (22, Ans.call false [((209 : Nat), (1 : Nat)), ((210 : Nat), (2 : Nat)), ((211 : Nat), (3 : Nat)), ((212 : Nat), (4 : Nat))] [((1 : Nat), Row.mk (PV.st (3 : Nat) [PV.ref (2 : Nat) [] (69 : Nat) (0 : Nat) (n + (1 : Nat)), PV.ref (3 : Nat) [] (32 : Nat) (0 : Nat) (n + (1 : Nat) + (1 : Nat)), PV.fn (1000000 : Nat) (4 : Nat)]) false), ((2 : Nat), Row.mk (PV.parr (69 : Nat) (n + (1 : Nat)) (Sh.st (69 : Nat) [Sh.st (68 : Nat) [Sh.int IntKind.u32, Sh.iarr IntKind.u8 (32 : Nat), Sh.iarr IntKind.u8 (32 : Nat), Sh.int IntKind.u32, Sh.int IntKind.u32, Sh.int IntKind.u32], Sh.vec (1 : Nat) (Sh.vec (1 : Nat) (Sh.int IntKind.u8))]) BM) false), ((3 : Nat), Row.mk (PV.parr (32 : Nat) (n + (1 : Nat) + (1 : Nat)) (Sh.iarr IntKind.u8 (32 : Nat)) H) false), ((4 : Nat), Row.mk (PV.tup [PV.tup [PV.parr (32 : Nat) q (Sh.iarr IntKind.u8 (32 : Nat)) K, PV.iarr IntKind.i64 q V]]) false), ((5 : Nat), Row.mk (PV.parr (68 : Nat) mm (Sh.st (68 : Nat) [Sh.int IntKind.u32, Sh.iarr IntKind.u8 (32 : Nat), Sh.iarr IntKind.u8 (32 : Nat), Sh.int IntKind.u32, Sh.int IntKind.u32, Sh.int IntKind.u32]) M) false)] (PV.ref (5 : Nat) [] (68 : Nat) (0 : Nat) mm))] [((421 : Nat), (1 : Nat))] (dDH fr t bn (n + (1 : Nat)) B mm M (0 : Nat) (0 : Nat)) [PC Tryd.prog G0 (5 : Nat) [] [PV.st (33 : Nat) [PV.iarr IntKind.u8 (32 : Nat) f, PV.vec bn (PV.parr (69 : Nat) (n + (1 : Nat)) (Sh.st (69 : Nat) [Sh.st (68 : Nat) [Sh.int IntKind.u32, Sh.iarr IntKind.u8 (32 : Nat), Sh.iarr IntKind.u8 (32 : Nat), Sh.int IntKind.u32, Sh.int IntKind.u32, Sh.int IntKind.u32], Sh.vec (1 : Nat) (Sh.vec (1 : Nat) (Sh.int IntKind.u8))]) B)]] [] (PV.bool true), PC Tryd.prog G0 (7 : Nat) [] [PV.iarr IntKind.u8 (32 : Nat) f, PV.vec bn (PV.parr (69 : Nat) (n + (1 : Nat)) (Sh.st (69 : Nat) [Sh.st (68 : Nat) [Sh.int IntKind.u32, Sh.iarr IntKind.u8 (32 : Nat), Sh.iarr IntKind.u8 (32 : Nat), Sh.int IntKind.u32, Sh.int IntKind.u32, Sh.int IntKind.u32], Sh.vec (1 : Nat) (Sh.vec (1 : Nat) (Sh.int IntKind.u8))]) B)] [((1 : Nat), Row.mk (PV.st (3 : Nat) [PV.ref (2 : Nat) [] (69 : Nat) (0 : Nat) (n + (1 : Nat)), PV.ref (3 : Nat) [] (32 : Nat) (0 : Nat) (n + (1 : Nat) + (1 : Nat)), PV.fn (1000000 : Nat) (4 : Nat)]) false), ((2 : Nat), Row.mk (PV.parr (69 : Nat) (n + (1 : Nat)) (Sh.st (69 : Nat) [Sh.st (68 : Nat) [Sh.int IntKind.u32, Sh.iarr IntKind.u8 (32 : Nat), Sh.iarr IntKind.u8 (32 : Nat), Sh.int IntKind.u32, Sh.int IntKind.u32, Sh.int IntKind.u32], Sh.vec (1 : Nat) (Sh.vec (1 : Nat) (Sh.int IntKind.u8))]) BM) false), ((3 : Nat), Row.mk (PV.parr (32 : Nat) (n + (1 : Nat) + (1 : Nat)) (Sh.iarr IntKind.u8 (32 : Nat)) H) false), ((4 : Nat), Row.mk (PV.tup [PV.tup [PV.parr (32 : Nat) q (Sh.iarr IntKind.u8 (32 : Nat)) K, PV.iarr IntKind.i64 q V]]) false)] (PV.tup [PV.at (1 : Nat) [], PV.int IntKind.i64 (↑(0 : Nat) : Int)]), PV.int IntKind.i64 (↑(0 : Nat) : Int) = PV.int IntKind.i64 (0 : Int), PC Tryd.prog G0 (11 : Nat) [((1 : Nat), Row.mk (PV.st (3 : Nat) [PV.ref (2 : Nat) [] (69 : Nat) (0 : Nat) (n + (1 : Nat)), PV.ref (3 : Nat) [] (32 : Nat) (0 : Nat) (n + (1 : Nat) + (1 : Nat)), PV.fn (1000000 : Nat) (4 : Nat)]) false), ((2 : Nat), Row.mk (PV.parr (69 : Nat) (n + (1 : Nat)) (Sh.st (69 : Nat) [Sh.st (68 : Nat) [Sh.int IntKind.u32, Sh.iarr IntKind.u8 (32 : Nat), Sh.iarr IntKind.u8 (32 : Nat), Sh.int IntKind.u32, Sh.int IntKind.u32, Sh.int IntKind.u32], Sh.vec (1 : Nat) (Sh.vec (1 : Nat) (Sh.int IntKind.u8))]) BM) false), ((3 : Nat), Row.mk (PV.parr (32 : Nat) (n + (1 : Nat) + (1 : Nat)) (Sh.iarr IntKind.u8 (32 : Nat)) H) false), ((4 : Nat), Row.mk (PV.tup [PV.tup [PV.parr (32 : Nat) q (Sh.iarr IntKind.u8 (32 : Nat)) K, PV.iarr IntKind.i64 q V]]) false)] [PV.at (1 : Nat) [], PV.int IntKind.i64 fr, PV.int IntKind.i64 t] [((1 : Nat), Row.mk (PV.st (3 : Nat) [PV.ref (2 : Nat) [] (69 : Nat) (0 : Nat) (n + (1 : Nat)), PV.ref (3 : Nat) [] (32 : Nat) (0 : Nat) (n + (1 : Nat) + (1 : Nat)), PV.fn (1000000 : Nat) (4 : Nat)]) false), ((2 : Nat), Row.mk (PV.parr (69 : Nat) (n + (1 : Nat)) (Sh.st (69 : Nat) [Sh.st (68 : Nat) [Sh.int IntKind.u32, Sh.iarr IntKind.u8 (32 : Nat), Sh.iarr IntKind.u8 (32 : Nat), Sh.int IntKind.u32, Sh.int IntKind.u32, Sh.int IntKind.u32], Sh.vec (1 : Nat) (Sh.vec (1 : Nat) (Sh.int IntKind.u8))]) BM) false), ((3 : Nat), Row.mk (PV.parr (32 : Nat) (n + (1 : Nat) + (1 : Nat)) (Sh.iarr IntKind.u8 (32 : Nat)) H) false), ((4 : Nat), Row.mk (PV.tup [PV.tup [PV.parr (32 : Nat) q (Sh.iarr IntKind.u8 (32 : Nat)) K, PV.iarr IntKind.i64 q V]]) false), ((5 : Nat), Row.mk (PV.parr (68 : Nat) mm (Sh.st (68 : Nat) [Sh.int IntKind.u32, Sh.iarr IntKind.u8 (32 : Nat), Sh.iarr IntKind.u8 (32 : Nat), Sh.int IntKind.u32, Sh.int IntKind.u32, Sh.int IntKind.u32]) M) false)] (PV.ref (5 : Nat) [] (68 : Nat) (0 : Nat) mm)] (by kernel_rfl) (ac (by exact c0) (ac (by exact c1) (ac (by exact congrArg (PV.int _) (by omega)) (ao (by assumption))))) ?_
          exact hww
      · have hww := W_dh0 (fr := fr) (t := t) (bn := bn) hB (by omega) (fun j hj => by
          unfold mx at hz
          split at hz <;> omega) ca n 0 (by omega)
        unfold depRows at c1
        unfold casePV blksPV at *
        generalize (depHs f Bs).map hv = H at *
        generalize Bs.map Blk.pv = B at *
        generalize Bs.map ownB = BM at *
        generalize (depKV f Bs).1.map hv = K at *
        generalize (depKV f Bs).1.length = q at *
        generalize (depKV f Bs).2 = V at *
        clear hf hw hB hfi he hok
        rcases n with _ | n
        · have c2 := pc_headsZ (fr := fr) (t := t) (HM := H) (q := q) (K := K) (V := V)
          change PC _ _ _ _ _ (rD0 H q K V) _ at c1
          unfold rD0 at c1 c2
          refine W.sg 0 [(3, c9 c0), (9, c9 c1), (12, aV (I6 0)), (22, cC true [(209, 1), (211, 3), (212, 4)] c2), (27, aV (I6 0))] [] (dDH0 fr t bn 0 B 0) [_, _, I6 (↑(0 : Nat) : Int) = I6 0, _, I6 (↑(0 : Nat) : Int) = I6 0] (by kernel_rfl) (ac (c0) (ac (c1) (ac (cg (by omega)) (ac (c2) (ao (cg (by omega))))))) ?_
          exact hww
        · have c2 := pc_headsN (fr := fr) (t := t) (n := n + 1) (BM := BM) (HM := H) (q := q) (K := K) (V := V) hz
          change PC _ _ _ _ _ (rD1 (n + 1) BM H q K V) _ at c1
          unfold rD1 at c1 c2
          refine W.sg 0 [(3, Ans.call true [] [] (PV.bool true)), (9, Ans.call false [] [((1 : Nat), Row.mk (PV.st (3 : Nat) [PV.ref (2 : Nat) [] (69 : Nat) (0 : Nat) (n + (1 : Nat)), PV.ref (3 : Nat) [] (32 : Nat) (0 : Nat) (n + (1 : Nat) + (1 : Nat)), PV.fn (1000000 : Nat) (4 : Nat)]) false), ((2 : Nat), Row.mk (PV.parr (69 : Nat) (n + (1 : Nat)) (Sh.st (69 : Nat) [Sh.st (68 : Nat) [Sh.int IntKind.u32, Sh.iarr IntKind.u8 (32 : Nat), Sh.iarr IntKind.u8 (32 : Nat), Sh.int IntKind.u32, Sh.int IntKind.u32, Sh.int IntKind.u32], Sh.vec (1 : Nat) (Sh.vec (1 : Nat) (Sh.int IntKind.u8))]) BM) false), ((3 : Nat), Row.mk (PV.parr (32 : Nat) (n + (1 : Nat) + (1 : Nat)) (Sh.iarr IntKind.u8 (32 : Nat)) H) false), ((4 : Nat), Row.mk (PV.tup [PV.tup [PV.parr (32 : Nat) q (Sh.iarr IntKind.u8 (32 : Nat)) K, PV.iarr IntKind.i64 q V]]) false)] (PV.tup [PV.at (1 : Nat) [], PV.int IntKind.i64 (↑(0 : Nat) : Int)])), (12, Ans.val (PV.int IntKind.i64 (0 : Int))), (22, Ans.call false [((209 : Nat), (1 : Nat)), ((210 : Nat), (2 : Nat)), ((211 : Nat), (3 : Nat)), ((212 : Nat), (4 : Nat))] [((1 : Nat), Row.mk (PV.st (3 : Nat) [PV.ref (2 : Nat) [] (69 : Nat) (0 : Nat) (n + (1 : Nat)), PV.ref (3 : Nat) [] (32 : Nat) (0 : Nat) (n + (1 : Nat) + (1 : Nat)), PV.fn (1000000 : Nat) (4 : Nat)]) false), ((2 : Nat), Row.mk (PV.parr (69 : Nat) (n + (1 : Nat)) (Sh.st (69 : Nat) [Sh.st (68 : Nat) [Sh.int IntKind.u32, Sh.iarr IntKind.u8 (32 : Nat), Sh.iarr IntKind.u8 (32 : Nat), Sh.int IntKind.u32, Sh.int IntKind.u32, Sh.int IntKind.u32], Sh.vec (1 : Nat) (Sh.vec (1 : Nat) (Sh.int IntKind.u8))]) BM) false), ((3 : Nat), Row.mk (PV.parr (32 : Nat) (n + (1 : Nat) + (1 : Nat)) (Sh.iarr IntKind.u8 (32 : Nat)) H) false), ((4 : Nat), Row.mk (PV.tup [PV.tup [PV.parr (32 : Nat) q (Sh.iarr IntKind.u8 (32 : Nat)) K, PV.iarr IntKind.i64 q V]]) false)] (PV.vec true (PV.parr (68 : Nat) (0 : Nat) (Sh.st (68 : Nat) [Sh.int IntKind.u32, Sh.iarr IntKind.u8 (32 : Nat), Sh.iarr IntKind.u8 (32 : Nat), Sh.int IntKind.u32, Sh.int IntKind.u32, Sh.int IntKind.u32]) [])))] [] (dDH0 fr t bn (n + (1 : Nat)) B (0 : Nat)) [PC Tryd.prog G0 (5 : Nat) [] [PV.st (33 : Nat) [PV.iarr IntKind.u8 (32 : Nat) f, PV.vec bn (PV.parr (69 : Nat) (n + (1 : Nat)) (Sh.st (69 : Nat) [Sh.st (68 : Nat) [Sh.int IntKind.u32, Sh.iarr IntKind.u8 (32 : Nat), Sh.iarr IntKind.u8 (32 : Nat), Sh.int IntKind.u32, Sh.int IntKind.u32, Sh.int IntKind.u32], Sh.vec (1 : Nat) (Sh.vec (1 : Nat) (Sh.int IntKind.u8))]) B)]] [] (PV.bool true), PC Tryd.prog G0 (7 : Nat) [] [PV.iarr IntKind.u8 (32 : Nat) f, PV.vec bn (PV.parr (69 : Nat) (n + (1 : Nat)) (Sh.st (69 : Nat) [Sh.st (68 : Nat) [Sh.int IntKind.u32, Sh.iarr IntKind.u8 (32 : Nat), Sh.iarr IntKind.u8 (32 : Nat), Sh.int IntKind.u32, Sh.int IntKind.u32, Sh.int IntKind.u32], Sh.vec (1 : Nat) (Sh.vec (1 : Nat) (Sh.int IntKind.u8))]) B)] [((1 : Nat), Row.mk (PV.st (3 : Nat) [PV.ref (2 : Nat) [] (69 : Nat) (0 : Nat) (n + (1 : Nat)), PV.ref (3 : Nat) [] (32 : Nat) (0 : Nat) (n + (1 : Nat) + (1 : Nat)), PV.fn (1000000 : Nat) (4 : Nat)]) false), ((2 : Nat), Row.mk (PV.parr (69 : Nat) (n + (1 : Nat)) (Sh.st (69 : Nat) [Sh.st (68 : Nat) [Sh.int IntKind.u32, Sh.iarr IntKind.u8 (32 : Nat), Sh.iarr IntKind.u8 (32 : Nat), Sh.int IntKind.u32, Sh.int IntKind.u32, Sh.int IntKind.u32], Sh.vec (1 : Nat) (Sh.vec (1 : Nat) (Sh.int IntKind.u8))]) BM) false), ((3 : Nat), Row.mk (PV.parr (32 : Nat) (n + (1 : Nat) + (1 : Nat)) (Sh.iarr IntKind.u8 (32 : Nat)) H) false), ((4 : Nat), Row.mk (PV.tup [PV.tup [PV.parr (32 : Nat) q (Sh.iarr IntKind.u8 (32 : Nat)) K, PV.iarr IntKind.i64 q V]]) false)] (PV.tup [PV.at (1 : Nat) [], PV.int IntKind.i64 (↑(0 : Nat) : Int)]), PV.int IntKind.i64 (↑(0 : Nat) : Int) = PV.int IntKind.i64 (0 : Int), PC Tryd.prog G0 (11 : Nat) [((1 : Nat), Row.mk (PV.st (3 : Nat) [PV.ref (2 : Nat) [] (69 : Nat) (0 : Nat) (n + (1 : Nat)), PV.ref (3 : Nat) [] (32 : Nat) (0 : Nat) (n + (1 : Nat) + (1 : Nat)), PV.fn (1000000 : Nat) (4 : Nat)]) false), ((2 : Nat), Row.mk (PV.parr (69 : Nat) (n + (1 : Nat)) (Sh.st (69 : Nat) [Sh.st (68 : Nat) [Sh.int IntKind.u32, Sh.iarr IntKind.u8 (32 : Nat), Sh.iarr IntKind.u8 (32 : Nat), Sh.int IntKind.u32, Sh.int IntKind.u32, Sh.int IntKind.u32], Sh.vec (1 : Nat) (Sh.vec (1 : Nat) (Sh.int IntKind.u8))]) BM) false), ((3 : Nat), Row.mk (PV.parr (32 : Nat) (n + (1 : Nat) + (1 : Nat)) (Sh.iarr IntKind.u8 (32 : Nat)) H) false), ((4 : Nat), Row.mk (PV.tup [PV.tup [PV.parr (32 : Nat) q (Sh.iarr IntKind.u8 (32 : Nat)) K, PV.iarr IntKind.i64 q V]]) false)] [PV.at (1 : Nat) [], PV.int IntKind.i64 fr, PV.int IntKind.i64 t] [((1 : Nat), Row.mk (PV.st (3 : Nat) [PV.ref (2 : Nat) [] (69 : Nat) (0 : Nat) (n + (1 : Nat)), PV.ref (3 : Nat) [] (32 : Nat) (0 : Nat) (n + (1 : Nat) + (1 : Nat)), PV.fn (1000000 : Nat) (4 : Nat)]) false), ((2 : Nat), Row.mk (PV.parr (69 : Nat) (n + (1 : Nat)) (Sh.st (69 : Nat) [Sh.st (68 : Nat) [Sh.int IntKind.u32, Sh.iarr IntKind.u8 (32 : Nat), Sh.iarr IntKind.u8 (32 : Nat), Sh.int IntKind.u32, Sh.int IntKind.u32, Sh.int IntKind.u32], Sh.vec (1 : Nat) (Sh.vec (1 : Nat) (Sh.int IntKind.u8))]) BM) false), ((3 : Nat), Row.mk (PV.parr (32 : Nat) (n + (1 : Nat) + (1 : Nat)) (Sh.iarr IntKind.u8 (32 : Nat)) H) false), ((4 : Nat), Row.mk (PV.tup [PV.tup [PV.parr (32 : Nat) q (Sh.iarr IntKind.u8 (32 : Nat)) K, PV.iarr IntKind.i64 q V]]) false)] (PV.vec true (PV.parr (68 : Nat) (0 : Nat) (Sh.st (68 : Nat) [Sh.int IntKind.u32, Sh.iarr IntKind.u8 (32 : Nat), Sh.iarr IntKind.u8 (32 : Nat), Sh.int IntKind.u32, Sh.int IntKind.u32, Sh.int IntKind.u32]) []))] (by kernel_rfl) (ac (by exact c0) (ac (by exact c1) (ac (by exact congrArg (PV.int _) (by omega)) (ao (by exact c2))))) ?_
          exact hww
    · have c1 := pc_depNew (bn := bn) hB (by omega) hok hf (hout := []) (res := .tup [.nilp, .int .i64 (depE f Bs)]) (fun h => absurd h he) (fun e h1 h2 => ⟨rfl, by rw [h1]⟩)
      have hne : ¬ ((depE f Bs : Int) = 0) := by omega
      unfold casePV blksPV at *
      generalize Bs.map Blk.pv = B at *
      generalize depE f Bs = e at *
      refine W.rt [(3, c9 c0), (9, c9 c1), (16, aT), (17, c9 ca)] [] [_, _, ((e:Int) != 0) = true, _] (by kernel_rfl) (ac (c0) (ac (c1) (ac (bne_iff_ne.2 (by omega)) (ao (ca)))))
  · have hfi' : fineB Bs = false := by simpa using hfi
    rw [hfi'] at c0
    unfold casePV blksPV at *
    generalize Bs.map Blk.pv = B at *
    refine W.rt [(3, c9 c0), (5, c9 ca)] [] [_, _] (by kernel_rfl) (ac (c0) (ao (ca)))
end Go.Proofs
namespace Go.Proofs
open Go Go.Pe Go.Pm
set_option maxRecDepth 100000
theorem blks_of : ∀ {l : List PV}, WFL l → (∀ q ∈ l, size q = 69 ∧ conf bksh q = true ∧ noref q = true) → ∃ Bs : List Blk, l = Bs.map Blk.pv ∧ ∀ b ∈ Bs, BlkW b
  | [], _, _ => ⟨[], rfl, fun x hx => by cases hx⟩
  | p :: l, hw, hq => by
    simp only [WFL] at hw
    obtain ⟨h, nl, n, L, rfl, hh, hL⟩ := blk_of (hq p (by simp)).2.1 hw.1
    obtain ⟨Bs, rfl, hB⟩ := blks_of hw.2 fun q hh => hq q (by simp [hh])
    refine ⟨⟨h, nl, n, L⟩ :: Bs, rfl, fun b hb => ?_⟩
    rcases List.mem_cons.1 hb with rfl | hb
    · exact ⟨hh, hL⟩
    · exact hB b hb
def cassh : Sh := .st 33 [.iarr .u8 32, .vec 69 bksh]
theorem case_of {p : PV} (hc : conf cassh p = true) (hw : WF p) : ∃ (f : List Int) (bn : Bool) (n : Nat) (Bs : List Blk), p = casePV f bn n Bs ∧ f.length = 32 ∧ Bs.length = n ∧ ∀ b ∈ Bs, BlkW b := by
  obtain ⟨f, bn, n, m, rfl⟩ : ∃ f bn n m, p = .st 33 [.iarr .u8 32 f, .vec bn (.parr 69 n bksh m)] := ⟨_, _, _, _, (expose_conf _ _ hc).symm⟩
  simp only [WF, WFL] at hw
  obtain ⟨_, ⟨h1, _⟩, ⟨⟨h2, h3, h4⟩, _, _⟩, _⟩ := hw
  obtain ⟨Bs, rfl, hB⟩ := blks_of h3 h4
  exact ⟨f, bn, n, Bs, rfl, h1, by rw [← h2, List.length_map], hB⟩
theorem int_of' {p : PV} (hc : conf (.int .i64) p = true) (hw : WF p) : ∃ x : Int, p = .int .i64 x ∧ IntKind.i64.wrap x = x := by
  obtain ⟨x, rfl⟩ : ∃ x, p = .int .i64 x := ⟨_, (expose_conf _ _ hc).symm⟩
  exact ⟨x, rfl, hw⟩
theorem three_of' {sh sh2 sh3 : Sh} {ps : List PV} (h : confL [sh, sh2, sh3] ps = true) : ∃ a b c, ps = [a, b, c] ∧ conf sh a = true ∧ conf sh2 b = true ∧ conf sh3 c = true := by
  match ps, h with
  | [], h => simp [confL] at h
  | [a], h => simp [confL] at h
  | [a, b], h => simp [confL] at h
  | [a, b, c], h => simp only [confL, Bool.and_eq_true, Bool.and_true] at h; exact ⟨a, b, c, rfl, h.1, h.2.1, h.2.2⟩
  | a :: b :: c :: d :: l, h => simp [confL] at h
end Go.Proofs
namespace Go.Pe
def laysB (P : Program) (tot : Nat) : Nat → List Field → Bool
  | o, [] => Nat.beq o tot
  | o, f :: l => Nat.beq f.offset o && laysB P tot (o + P.cellsOf f.type) l
def okT (P : Program) : Nat → TypeId → Bool
  | 0, _ => false
  | d + 1, t => match P.underlying t with
    | some .bool | some (.int _) | some .string => Nat.beq (P.cellsOf t) 1
    | some (.struct fs) => laysB P (P.cellsOf t) 0 fs.toList && fs.toList.all fun f => okT P d f.type
    | some (.array n e) => Nat.beq (P.cellsOf t) (n * P.cellsOf e) && szOk P e && okT P d e
    | some (.slice e) => Nat.beq (P.cellsOf t) 1 && szOk P e && okT P d e
    | _ => false
theorem same_refl (k : IntKind) : IntKind.same k k = true := by cases k <;> rfl
theorem beq_refl (s : Sh) : Sh.beq s s = true :=
  Sh.rec (motive_1 := fun s => Sh.beq s s = true) (motive_2 := fun l => Sh.beqL l l = true) rfl same_refl rfl rfl (fun _ _ ih => by simp only [Sh.beq, Bool.and_eq_true]; exact ⟨Nat.beq_refl _, ih⟩)
    (fun k _ => by simp only [Sh.beq, Bool.and_eq_true]; exact ⟨same_refl k, Nat.beq_refl _⟩) (fun _ _ _ ih => by simp only [Sh.beq, Bool.and_eq_true]; exact ⟨⟨Nat.beq_refl _, Nat.beq_refl _⟩, ih⟩)
    (fun _ _ ih => by simp only [Sh.beq, Bool.and_eq_true]; exact ⟨Nat.beq_refl _, ih⟩) rfl (fun _ _ h1 h2 => by simp only [Sh.beqL, Bool.and_eq_true]; exact ⟨h1, h2⟩) s
structure Opens (P : Program) (w : World) (T : T2) (d : Nat) (t : TypeId) (cs : List Value) (p : PV) : Prop where
  conf : conf (shOf P d t) p = true
  wf : WF p
  noref : noref p = true
  untup : untup p = true
  size : size p = P.cellsOf t
  len : cs.length = P.cellsOf t
  agg : Pe.isAgg p = isAggT P t
  rel : ∀ (j : Nat) (q : PV) (u : Value), (flat p)[j]? = some q → cs[j]? = some u → RC w T u q
theorem mapM_get {α β : Type} {g : α → Option β} : ∀ {l : List α} {xs : List β}, l.mapM g = some xs → ∀ i ∈ l, ∃ y, g i = some y
  | [], _, _, i, hi => by cases hi
  | a :: l, xs, h, i, hi => by
    rw [List.mapM_cons] at h
    simp only [Option.bind_eq_bind, Option.bind_eq_some_iff] at h
    obtain ⟨y, hy, ys, hys, _⟩ := h
    rcases List.mem_cons.1 hi with rfl | hi
    · exact ⟨y, hy⟩
    · exact mapM_get hys i hi
theorem flatL_nth {s : Nat} (hs : 0 < s) : ∀ {l : List PV}, WFL l → (∀ q ∈ l, Pe.size q = s) → ∀ {j : Nat} {q : PV}, (flatL l)[j]? = some q → ∃ p, l[j / s]? = some p ∧ (flat p)[j % s]? = some q
  | [], _, _, j, q, h => by simp [flatL] at h
  | p :: l, hw, hz, j, q, h => by
    simp only [WFL] at hw
    have hl : (flat p).length = s := by rw [flat_length p hw.1, hz p (by simp)]
    simp only [flatL] at h
    by_cases hj : j < s
    · rw [List.getElem?_append_left (by omega)] at h
      refine ⟨p, by rw [Nat.div_eq_of_lt hj]; rfl, by rw [Nat.mod_eq_of_lt hj]; exact h⟩
    · rw [List.getElem?_append_right (by omega), hl] at h
      obtain ⟨p', h1, h2⟩ := flatL_nth hs hw.2 (fun q hq => hz q (by simp [hq])) h
      have e : j = (j - s) + s := by omega
      refine ⟨p', ?_, ?_⟩
      · rw [e, Nat.add_div_right _ hs]
        simpa using h1
      · rw [e, Nat.add_mod_right]; exact h2
/-- The row of n elements. -/
def arrOf (P : Program) (d : Nat) (e : TypeId) (l : List PV) : PV := match P.underlying e with
  | some (.int k) => .iarr k l.length (l.map PV.num)
  | _ => .parr (P.cellsOf e) l.length (shOf P d e) l
section
variable {P : Program} {w : World} {T : T2}
theorem shOf_int {d : Nat} {e : TypeId} {k : IntKind} (h : P.underlying e = some (.int k)) : shOf P (d + 1) e = .int k := by simp only [shOf, h]
theorem shOf_slice {d : Nat} {t e : TypeId} (h : P.underlying t = some (.slice e)) : shOf P (d + 1) t = .vec (P.cellsOf e) (shOf P d e) := by simp only [shOf, h]
theorem arrOf_spec {d : Nat} {e : TypeId} {l : List PV} (hok : okT P d e = true) (hl : ∀ q ∈ l, Pe.conf (shOf P d e) q = true ∧ WF q ∧ Pe.noref q = true ∧ Pe.untup q = true ∧ Pe.size q = P.cellsOf e) :
    WF (arrOf P d e l) ∧ isArr (arrOf P d e l) = true ∧ arrLen (arrOf P d e l) = l.length ∧ elSize (arrOf P d e l) = P.cellsOf e ∧ Pe.untup (arrOf P d e l) = true ∧ flat (arrOf P d e l) = flatL l ∧ Pe.size (arrOf P d e l) = l.length * P.cellsOf e := by
  have hut : untupL l = true := by
    clear hok
    induction l with
    | nil => rfl
    | cons p l ih =>
      simp only [untupL, Bool.and_eq_true]
      exact ⟨(hl p (by simp)).2.2.2.1, ih fun q hq => hl q (by simp [hq])⟩
  unfold arrOf
  split
  · rename_i k hu
    obtain ⟨d', rfl⟩ : ∃ d', d = d' + 1 := by cases d with
      | zero => simp [okT] at hok
      | succ d => exact ⟨d, rfl⟩
    have h1 : P.cellsOf e = 1 := by
      simp only [okT, hu] at hok
      exact Nat.eq_of_beq_eq_true hok
    have hq : ∀ q ∈ l, ∃ x, q = .int k x ∧ k.wrap x = x := by
      intro q hq
      have := hl q hq
      rw [shOf_int hu] at this
      cases q <;> simp only [Pe.conf, reduceCtorEq, false_and] at this
      rename_i k' x
      have hk := IntKind.same_eq this.1
      subst hk
      exact ⟨x, rfl, by simpa only [WF] using this.2.1⟩
    have hf : (l.map PV.num).map (PV.int k) = l := by
      rw [List.map_map]
      conv => rhs; rw [← List.map_id l]
      refine List.map_congr_left fun q hql => ?_
      obtain ⟨x, rfl, _⟩ := hq q hql
      rfl
    have hfl : flatL l = l := by
      clear hok hf
      induction l with
      | nil => rfl
      | cons p l ih =>
        obtain ⟨x, rfl, _⟩ := hq p (by simp)
        simp only [flatL, flat]
        rw [ih (by simp only [untupL, Bool.and_eq_true] at hut; exact hut.2) (fun q hq' => hl q (by simp [hq'])) (fun q hq' => hq q (by simp [hq']))]
        rfl
    refine ⟨?_, rfl, rfl, by simp only [elSize]; omega, rfl, by simp only [flat]; rw [hf, hfl], by simp only [Pe.size]; rw [h1, Nat.mul_one]⟩
    simp only [WF, List.length_map, List.mem_map, true_and]
    rintro x ⟨q, hql, rfl⟩
    obtain ⟨x, rfl, hx⟩ := hq q hql
    exact hx
  · refine ⟨?_, rfl, rfl, rfl, by simpa only [Pe.untup] using hut, rfl, rfl⟩
    simp only [WF]
    exact ⟨trivial, WFL_of fun q hq => (hl q hq).2.1, fun q hq => ⟨(hl q hq).2.2.2.2, (hl q hq).1, (hl q hq).2.2.1⟩⟩
theorem opens_array {d n : Nat} {t e : TypeId} {cs : List Value} (hu : P.underlying t = some (.array n e)) (hc : P.cellsOf t = n * P.cellsOf e) (hok : okT P d e = true) (hs : 0 < P.cellsOf e) (hl : cs.length = P.cellsOf t)
    (h : ∀ i, i < n → ∃ p, Opens P w T d e ((cs.drop (i * P.cellsOf e)).take (P.cellsOf e)) p) : ∃ p, Opens P w T (d + 1) t cs p := by
  have hex : ∀ i, ∃ p, i < n → Opens P w T d e ((cs.drop (i * P.cellsOf e)).take (P.cellsOf e)) p := fun i => by
    by_cases hi : i < n
    · obtain ⟨p, hp⟩ := h i hi; exact ⟨p, fun _ => hp⟩
    · exact ⟨.undef, fun h => absurd h hi⟩
  obtain ⟨f, hf⟩ := Classical.axiomOfChoice hex
  have hmem : ∀ q ∈ (List.range n).map f, Pe.conf (shOf P d e) q = true ∧ WF q ∧ Pe.noref q = true ∧ Pe.untup q = true ∧ Pe.size q = P.cellsOf e := by
    intro q hq
    obtain ⟨i, hi, rfl⟩ := List.mem_map.1 hq
    have := hf i (by simpa using hi)
    exact ⟨this.conf, this.wf, this.noref, this.untup, this.size⟩
  obtain ⟨a1, a2, a3, a4, a5, a6, a7⟩ := arrOf_spec hok hmem
  have hlen : ((List.range n).map f).length = n := by simp
  refine ⟨arrOf P d e ((List.range n).map f), ?_, a1, arr_noref a2, a5, by rw [a7, hlen, hc], hl, ?_, fun j q u hq hu' => ?_⟩
  · unfold arrOf
    simp only [shOf, hu]
    cases hk : P.underlying e with
    | none =>
      simp only [Pe.conf, Bool.and_eq_true, hlen]
      exact ⟨⟨Nat.beq_refl _, Nat.beq_refl _⟩, beq_refl _⟩
    | some dsc => cases dsc with
    | int k =>
      simp only [Pe.conf, Bool.and_eq_true, hlen]
      exact ⟨same_refl k, Nat.beq_refl _⟩
    | _ =>
      simp only [Pe.conf, Bool.and_eq_true, hlen]
      exact ⟨⟨Nat.beq_refl _, Nat.beq_refl _⟩, beq_refl _⟩
  · have : Pe.isAgg (arrOf P d e ((List.range n).map f)) = true := by unfold arrOf; split <;> rfl
    rw [this]
    simp only [isAggT, hu]
  · rw [a6] at hq
    have hwl : WFL ((List.range n).map f) := WFL_of fun q hq => (hmem q hq).2.1
    obtain ⟨p, h1, h2⟩ := flatL_nth hs hwl (fun q hq => (hmem q hq).2.2.2.2) hq
    have hjn : j / P.cellsOf e < n := by have := (List.getElem?_eq_some_iff.1 h1).1; simpa using this
    have hp : p = f (j / P.cellsOf e) := by simp [hjn] at h1; exact h1.symm
    subst hp
    refine (hf _ hjn).rel (j % P.cellsOf e) q u h2 ?_
    rw [List.getElem?_take, if_pos (Nat.mod_lt _ hs), List.getElem?_drop, ← hu']
    congr 1
    rw [Nat.mul_comm]
    exact Nat.div_add_mod j (P.cellsOf e)
theorem opens_fields {d tot : Nat} {cs : List Value} (hl : cs.length = tot) : ∀ {fs : List Field} {o : Nat}, laysB P tot o fs = true → (∀ f ∈ fs, okT P d f.type = true ∧ ∃ p, Opens P w T d f.type ((cs.drop f.offset).take (P.cellsOf f.type)) p) →
    ∃ ps, confL (fs.map fun f => shOf P d f.type) ps = true ∧ WFL ps ∧ norefL ps = true ∧ untupL ps = true ∧ o + sizeL ps = tot ∧ ∀ (j : Nat) (q : PV) (u : Value), (flatL ps)[j]? = some q → cs[o + j]? = some u → RC w T u q
  | [], o, h, _ => by
    simp only [laysB] at h
    exact ⟨[], rfl, by simp [WFL], rfl, rfl, by simp only [sizeL]; exact Nat.eq_of_beq_eq_true h, fun j q u hq => by simp [flatL] at hq⟩
  | f :: fs, o, h, hf => by
    simp only [laysB, Bool.and_eq_true] at h
    obtain ⟨h1, h2⟩ := h
    have ho := Nat.eq_of_beq_eq_true h1
    obtain ⟨_, p, hp⟩ := hf f (by simp)
    obtain ⟨ps, g1, g2, g3, g4, g5, g6⟩ := opens_fields hl h2 fun x hx => hf x (by simp [hx])
    refine ⟨p :: ps, by simp only [List.map_cons, confL, Bool.and_eq_true]; exact ⟨hp.conf, g1⟩, by simp only [WFL]; exact ⟨hp.wf, g2⟩, by simp only [norefL, Bool.and_eq_true]; exact ⟨hp.noref, g3⟩, by simp only [untupL, Bool.and_eq_true]; exact ⟨hp.untup, g4⟩, by simp only [sizeL, hp.size]; omega, fun j q u hq hu => ?_⟩
    simp only [flatL] at hq
    have hlp : (flat p).length = P.cellsOf f.type := by rw [flat_length p hp.wf, hp.size]
    by_cases hj : j < P.cellsOf f.type
    · rw [List.getElem?_append_left (by omega)] at hq
      refine hp.rel j q u hq ?_
      rw [List.getElem?_take, if_pos hj, List.getElem?_drop, ho]
      exact hu
    · rw [List.getElem?_append_right (by omega), hlp] at hq
      refine g6 _ q u hq ?_
      rw [← hu]
      congr 1
      omega
end
section
variable {H : Type} {enc : TypeId × Value → H} {P : Program} {w : World} {base : Nat} {spare : Nat → Bool} {held : Bool}
theorem cells?_spec {a : Addr} {n : Nat} {cs : List Value} (h : w.cells? base a n = some cs) : cs.length = n ∧ ∀ j u, cs[j]? = some u → w.cell? (a.add j) = some u := by
  unfold World.cells? at h
  split at h
  · have : ∀ {l : List Nat} {xs : List Value}, l.mapM (fun i => w.cell? (a.add i)) = some xs → xs.length = l.length ∧ ∀ (j : Nat) (i : Nat) (u : Value), l[j]? = some i → xs[j]? = some u → w.cell? (a.add i) = some u := by
      intro l
      induction l with
      | nil => intro xs h; simp at h; subst h; exact ⟨rfl, fun j i u hi => by simp at hi⟩
      | cons b l ih =>
        intro xs h
        rw [List.mapM_cons] at h
        simp only [Option.bind_eq_bind, Option.bind_eq_some_iff, Option.pure_def, Option.some.injEq] at h
        obtain ⟨y, hy, ys, hys, rfl⟩ := h
        obtain ⟨e1, e2⟩ := ih hys
        refine ⟨by simp [e1], fun j i u hi hu => ?_⟩
        cases j with
        | zero => simp at hi hu; subst hi; subst hu; exact hy
        | succ j => simp at hi hu; exact e2 j i u hi hu
    obtain ⟨e1, e2⟩ := this h
    refine ⟨by simpa using e1, fun j u hu => ?_⟩
    have hj : j < n := by have := (List.getElem?_eq_some_iff.1 hu).1; simp at e1; omega
    exact e2 j j u (by simp [hj]) hu
  · cases h
theorem trod_opens : ∀ (d : Nat) (t : TypeId) (fuel : Nat) (cs : List Value) (x : DataW H × List MemPlace), okT P d t = true → DataW.trod enc P w base spare held fuel t cs = some x → ∃ p, Opens P w (fun b _ => b < w.heap.size) d t cs p
  | 0, _, _, _, _, h, _ => by simp [okT] at h
  | d + 1, t, 0, cs, x, _, h => by simp [DataW.trod] at h
  | d + 1, t, fuel + 1, cs, x, hok, h => by
    have hsz : ∀ e, szOk P e = true → 0 < P.cellsOf e := fun e he => Nat.pos_of_ne_zero (szOk_ne he)
    simp only [okT] at hok
    split at hok
    · rename_i hu
      have hc := Nat.eq_of_beq_eq_true hok
      obtain ⟨b, rfl, _⟩ := DataW.trod_bool hu h
      refine ⟨.bool b, by simp only [shOf, hu]; rfl, trivial, rfl, rfl, hc.symm, by rw [hc]; rfl, by simp only [isAggT, hu]; rfl, fun j q u hq hu' => ?_⟩
      cases j with
      | zero => simp [flat] at hq hu'; subst hq; subst hu'; exact .bool b
      | succ j => simp [flat] at hq
    · rename_i k hu
      have hc := Nat.eq_of_beq_eq_true hok
      obtain ⟨n, rfl, _, hwf⟩ := DataW.trod_int hu h
      have hw : k.wrap n = n := by
        rw [wrap_bounds]
        simpa [Lit.wf, IntKind.has] using hwf
      refine ⟨.int k n, by simp only [shOf, hu, conf]; cases k <;> rfl, by simp only [WF]; exact hw, rfl, rfl, hc.symm, by rw [hc]; rfl, by simp only [isAggT, hu]; rfl, fun j q u hq hu' => ?_⟩
      cases j with
      | zero => simp [flat] at hq hu'; subst hq; subst hu'; exact .int k n
      | succ j => simp [flat] at hq
    · rename_i hu
      have hc := Nat.eq_of_beq_eq_true hok
      obtain ⟨s, rfl, _, hs⟩ := DataW.trod_string hu h
      refine ⟨.str s, by simp only [shOf, hu]; rfl, trivial, rfl, rfl, hc.symm, by rw [hc]; rfl, by simp only [isAggT, hu]; rfl, fun j q u hq hu' => ?_⟩
      cases j with
      | zero => simp [flat] at hq hu'; subst hq; subst hu'; exact .str s hs
      | succ j => simp [flat] at hq
    · rename_i fs hu
      simp only [Bool.and_eq_true, List.all_eq_true] at hok
      simp only [DataW.trod, hu] at h
      split at h
      · rename_i hl
        simp only [Option.map_eq_some_iff] at h
        obtain ⟨xs, hxs, _⟩ := h
        obtain ⟨ps, g1, g2, g3, g4, g5, g6⟩ := opens_fields (P := P) (w := w) (T := fun b _ => b < w.heap.size) (d := d) hl hok.1 (fun f hf => ⟨hok.2 f hf, by
          obtain ⟨y, hy⟩ := mapM_get hxs f hf
          exact trod_opens d f.type fuel _ y (hok.2 f hf) hy⟩)
        refine ⟨.st (P.cellsOf t) ps, by simp only [shOf, hu, conf, Bool.and_eq_true]; exact ⟨Nat.beq_refl _, g1⟩, by simp only [WF]; exact ⟨by omega, g2⟩, by simp only [noref]; exact g3, by simp only [untup]; exact g4, rfl, hl, by simp only [isAggT, hu]; rfl, fun j q u hq hu' => ?_⟩
        simp only [flat] at hq
        exact g6 j q u hq (by rw [Nat.zero_add]; exact hu')
      · cases h
    · rename_i n e hu
      simp only [Bool.and_eq_true] at hok
      have hc := Nat.eq_of_beq_eq_true hok.1.1
      simp only [DataW.trod, hu] at h
      split at h
      · rename_i hl
        simp only [Option.map_eq_some_iff] at h
        obtain ⟨xs, hxs, _⟩ := h
        exact opens_array hu hc hok.2 (hsz e hok.1.2) hl fun i hi => by
          obtain ⟨y, hy⟩ := mapM_get hxs i (by simpa using hi)
          exact trod_opens d e fuel _ y hok.2 hy
      · cases h
    · rename_i e hu
      simp only [Bool.and_eq_true] at hok
      have hc := Nat.eq_of_beq_eq_true hok.1.1
      have hpos := hsz e hok.1.2
      have hone : ∀ (v : Value) (c : PV) (nl : Bool), cs = [v] → WF (.vec nl c) → Pe.conf (shOf P (d + 1) t) (.vec nl c) = true → RC w (fun b _ => b < w.heap.size) v (.vec nl c) → ∃ p, Opens P w (fun b _ => b < w.heap.size) (d + 1) t cs p := by
        rintro v c nl rfl h1 h2 h3
        refine ⟨.vec nl c, h2, h1, rfl, rfl, hc.symm, by rw [hc]; rfl, by simp only [isAggT, hu]; rfl, fun j q u hq hu' => ?_⟩
        cases j with
        | zero => simp [flat] at hq hu'; subst hq; subst hu'; exact h3
        | succ j => simp [flat] at hq
      have hshape : ∀ l : List PV, ∀ nl, Pe.conf (shOf P (d + 1) t) (.vec nl (arrOf P d e l)) = true := by
        intro l nl
        obtain ⟨d', rfl⟩ : ∃ d', d = d' + 1 := by cases d with
          | zero => simp [okT] at hok
          | succ d => exact ⟨d, rfl⟩
        have hsh : shOf P (d' + 1 + 1) t = .vec (P.cellsOf e) (shOf P (d' + 1) e) := shOf_slice hu
        rw [hsh]
        by_cases hk : ∃ k, P.underlying e = some (.int k)
        · obtain ⟨k, hk⟩ := hk
          have : arrOf P (d' + 1) e l = .iarr k l.length (l.map PV.num) := by simp only [arrOf, hk]
          rw [this, shOf_int hk]
          simp only [Pe.conf]
          exact same_refl k
        · have : arrOf P (d' + 1) e l = .parr (P.cellsOf e) l.length (shOf P (d' + 1) e) l := by
            unfold arrOf
            split
            · rename_i k hk'; exact absurd ⟨k, hk'⟩ hk
            · rfl
          rw [this]
          have hni : Sh.isInt (shOf P (d' + 1) e) = false := by
            cases he : P.underlying e with
            | none => simp only [shOf, he, Sh.isInt]
            | some dsc => cases dsc with
              | int k => exact absurd ⟨k, he⟩ hk
              | array n e' =>
                simp only [shOf, he]
                split <;> rfl
              | _ => simp only [shOf, he, Sh.isInt]
          cases hs2 : shOf P (d' + 1) e with
          | int k => rw [hs2] at hni; simp [Sh.isInt] at hni
          | _ => simp only [Pe.conf, Bool.and_eq_true, Sh.isInt, Bool.not_false, true_and]; exact ⟨Nat.beq_refl _, beq_refl _⟩
      rcases DataW.trod_slice hu h with ⟨hx, _⟩ | ⟨a, len, cap, elems, rest, n, hf, hx, _, _, h1, h2, h3, h4, _⟩
      · obtain ⟨a1, a2, a3, _⟩ := arrOf_spec (P := P) (d := d) (e := e) (l := []) hok.2 (fun q hq => by cases hq)
        exact hone _ (arrOf P d e []) true hx (by simp only [WF]; exact ⟨a1, a2, fun _ => a3⟩) (hshape [] true) (.vec0 _ _ _ _ a3 rfl (fun _ => rfl))
      · have hfu : n = fuel := by omega
        subst hfu
        have hex : ∀ i, ∃ p, i < len → ∃ cs', w.cells? base (a.add (i * P.cellsOf e)) (P.cellsOf e) = some cs' ∧ Opens P w (fun b _ => b < w.heap.size) d e cs' p := fun i => by
          by_cases hi : i < len
          · have := h4 i hi
            rw [List.getElem?_eq_getElem (by omega), Option.bind_eq_some_iff] at this
            obtain ⟨cs', c1, c2⟩ := this
            obtain ⟨p, hp⟩ := trod_opens d e n cs' _ hok.2 c2
            exact ⟨p, fun _ => ⟨cs', c1, hp⟩⟩
          · exact ⟨.undef, fun h => absurd h hi⟩
        obtain ⟨f, hf⟩ := Classical.axiomOfChoice hex
        have hmem : ∀ q ∈ (List.range len).map f, Pe.conf (shOf P d e) q = true ∧ WF q ∧ Pe.noref q = true ∧ Pe.untup q = true ∧ Pe.size q = P.cellsOf e := by
          intro q hq
          obtain ⟨i, hi, rfl⟩ := List.mem_map.1 hq
          obtain ⟨cs', _, hp⟩ := hf i (by simpa using hi)
          exact ⟨hp.conf, hp.wf, hp.noref, hp.untup, hp.size⟩
        obtain ⟨a1, a2, a3, a4, a5, a6, a7⟩ := arrOf_spec hok.2 hmem
        have hlen : ((List.range len).map f).length = len := by simp
        rw [hlen] at a3
        rcases Nat.eq_zero_or_pos len with h0 | h0
        · subst h0
          exact hone _ (arrOf P d e ((List.range 0).map f)) false hx (by simp only [WF]; exact ⟨a1, a2, fun e => by cases e⟩) (hshape _ false) (.vec0 _ _ _ _ a3 rfl (fun e => by cases e))
        · have hsp : a.spot = none := by
            obtain ⟨cs', c1, hp⟩ := hf 0 h0
            obtain ⟨e1, e2⟩ := cells?_spec c1
            have := e2 0 cs'[0] (List.getElem?_eq_getElem (by omega))
            unfold World.cell? at this
            split at this
            · split at this
              · cases this
              · rename_i hs
                simpa [Addr.add] using hs
            · cases this
          obtain ⟨bk, o, sp⟩ := a
          simp only at hsp
          subst hsp
          have hcell : ∀ j, ∃ u, ∀ q, (flat (arrOf P d e ((List.range len).map f)))[j]? = some q → w.cell? ⟨bk, o + j, none⟩ = some u ∧ RC w (fun b _ => b < w.heap.size) u q := by
            intro j
            cases hj : (flat (arrOf P d e ((List.range len).map f)))[j]? with
            | none => exact ⟨Go.undef, fun q hq => by cases hq⟩
            | some q =>
              rw [a6] at hj
              obtain ⟨p, p1, p2⟩ := flatL_nth hpos (WFL_of fun q hq => (hmem q hq).2.1) (fun q hq => (hmem q hq).2.2.2.2) hj
              have hjn : j / P.cellsOf e < len := by have := (List.getElem?_eq_some_iff.1 p1).1; simpa using this
              have hp : p = f (j / P.cellsOf e) := by simp [hjn] at p1; exact p1.symm
              subst hp
              obtain ⟨cs', c1, hp⟩ := hf _ hjn
              obtain ⟨e1, e2⟩ := cells?_spec c1
              have hm : j % P.cellsOf e < cs'.length := by rw [e1]; exact Nat.mod_lt _ hpos
              refine ⟨cs'[j % P.cellsOf e], fun q' hq' => ?_⟩
              cases hq'
              refine ⟨?_, hp.rel _ q _ p2 (List.getElem?_eq_getElem hm)⟩
              have := e2 _ _ (List.getElem?_eq_getElem hm)
              rw [add_none, add_none] at this
              rw [← this]
              congr 2
              rw [Nat.add_assoc, Nat.mul_comm, Nat.div_add_mod]
          obtain ⟨us, hus⟩ := Classical.axiomOfChoice hcell
          exact hone _ (arrOf P d e ((List.range len).map f)) false hx (by simp only [WF]; exact ⟨a1, a2, fun e => by cases e⟩) (hshape _ false)
            (.vec1 _ _ _ _ _ us a3 h1 h2 (fun j q hq => ⟨lt_of_cell? (hus j q hq).1, (hus j q hq).1⟩) (fun j q hq => (hus j q hq).2))
    · cases hok
end
end Go.Pe
namespace Go.Pe
open Go.ChangeShapes Go.WideShapes Go.ChangeAt Go.RowKit
section
variable {H : Type} {enc : TypeId × Value → H} {P : Program}
theorem post_below {f : Func} {s : ChangeSpec} {apart fresh handsOn again : Bool} {W W' : World} {args : Array Value} {v : Value} {ds gs : List (DataW H)} {before pa pv : List MemPlace}
    (hW : DataW.Whole enc P f.params.toList s.vars apart W args.toList ds gs before)
    (hres : ∀ (b : Nat) (sp : Nat → Bool) (hd : Bool), DataW.TrodAll enc P W' b sp hd f.resultTypes.toList (v.resultList f.resultTypes.size) (s.fn H (ds ++ gs)).results [])
    (hargs : ∀ sp : Nat → Bool, (∀ p ∈ before, sp p.block = true) → DataW.TrodAll enc P W' 0 sp true f.params.toList args.toList (s.fn H (ds ++ gs)).args pa)
    (hvars : ∀ sp : Nat → Bool, (∀ p ∈ before, sp p.block = true) → DataW.TrodVars enc P W' sp s.vars (s.fn H (ds ++ gs)).vars pv)
    (hps : before = pa ++ pv) (hb : Below W.heap.size W W')
    (hok : ∀ (j : Nat) (t : TypeId) (r : Value), f.resultTypes[j]? = some t → (v.resultList f.resultTypes.size)[j]? = some r → Value.okWide P W' .any 0 t r) :
    s.post enc P f apart fresh handsOn again W args v W' := by
  have hlt : ∀ p ∈ before, p.block < W.heap.size := fun p hp => hW.lt p hp
  have hold : ∀ p ∈ before, (fun b => decide (b < W.heap.size)) p.block = true := fun p hp => by simpa using hlt p hp
  refine ⟨ds, gs, before, [], pa, pv, hW, hres _ _ _, hargs _ hold, hvars _ hold, World.keptBut_mono (fun p hp => ⟨hp, ?_⟩) (hb.frame (· ∈ before)), fun _ => ?_⟩
  · rw [hps, List.mem_append] at hp
    exact Or.inr hp
  · obtain ⟨_, _, _, _, _, hz, hn⟩ := hW
    refine ⟨hok, _, _, ([] ++ pa) ++ pv, ⟨[] ++ pa, pv, trodAll_append (hargs _ (fun _ _ => rfl)) (hres _ _ _), hvars _ (fun _ _ => rfl), rfl, ?_, ?_⟩, ?_⟩
    · intro b off hp
      have hin : MemPlace.cell b off ∈ before := by rw [hps]; simpa using hp
      rw [hb.frozen (hlt _ hin)]
      exact hz b off hin
    · intro ha
      have := hn ha
      rw [hps] at this
      simpa using this
    · intro p hp _
      rw [hps]
      simpa using hp
theorem trodAll_stays (hl : laidOutB P = true) {W W' : World} (hb : Below W.heap.size W W') {sp : Nat → Bool} : ∀ {ts : List TypeId} {vs : List Value} {ds : List (DataW H)} {ps : List MemPlace}, (∀ t ∈ ts, P.readableRec t = true ∧ t < P.types.size) →
    DataW.TrodAll enc P W 0 (fun _ => true) true ts vs ds ps → (∀ p ∈ ps, sp p.block = true) → DataW.TrodAll enc P W' 0 sp true ts vs ds ps
  | [], [], [], _, _, h, _ => h
  | t :: ts, v :: vs, d :: ds, ps, ht, h, hs => by
    have hlt := h.lt
    obtain ⟨p, q, h1, h2, rfl⟩ := h
    exact ⟨p, q, WideElems.Trod_stays hl (ht t (by simp)).1 (ht t (by simp)).2 h1 (fun x hx => hb.same (hlt x (by simp [hx]))) (fun x hx => hs x (by simp [hx])),
      trodAll_stays hl hb (fun t ht' => ht t (by simp [ht'])) h2 (fun x hx => hs x (by simp [hx])), rfl⟩
  | [], _ :: _, _, _, _, h, _ => by simp [DataW.TrodAll] at h
  | [], [], _ :: _, _, _, h, _ => by simp [DataW.TrodAll] at h
  | _ :: _, [], _, _, _, h, _ => by simp [DataW.TrodAll] at h
  | _ :: _, _ :: _, [], _, _, h, _ => by simp [DataW.TrodAll] at h
/-- What an input's values stand for. -/
structure Ins (P : Program) (ts : List TypeId) (ps : List PV) : Prop where
  conf : confL (ts.map (shOf P 9)) ps = true
  wf : WFL ps
  untup : untupL ps = true
theorem RV_opens {W : World} {base : Nat} {t : TypeId} {v : Value} {p : PV} (hv : Value.okWide P W .any base t v) (h : Opens P W (fun b _ => b < W.heap.size) 9 t v.cells.toList p) : RV W (fun b _ => b < W.heap.size) (fun _ => none) v p := by
  have hnt : ∀ vs, p ≠ .tup vs := fun vs e => by have := h.untup; subst e; simp [Pe.untup] at this
  cases ha : Pe.isAgg p with
  | true =>
    have hat : isAggT P t = true := by rw [← h.agg]; exact ha
    have : ∃ cs, v = .agg cs := by
      unfold isAggT at hat
      unfold Value.okWide at hv
      split at hat
      · rename_i fs hu
        rw [hu] at hv
        obtain ⟨cs, hc, _⟩ := hv
        exact ⟨cs, hc⟩
      · rename_i n e hu
        rw [hu] at hv
        obtain ⟨cs, hc, _⟩ := hv
        exact ⟨cs, hc⟩
      · cases hat
    obtain ⟨cs, rfl⟩ := this
    refine RV.of_agg ha h.wf ⟨cs, rfl, ?_, fun j q u hq hu => RO.of_closed (h.rel j q u hq ?_)⟩
    · have := h.len
      simp only [Value.cells, Array.length_toList] at this
      rw [this, h.size]
    · simpa [Value.cells] using hu
  | false =>
    have hl : Pe.leaf p = true := by rw [Pe.leaf_agg, ha]; rfl
    have hone : v.cells = #[v] := by
      have hnagg : ∀ cs, v ≠ .agg cs := by
        rintro cs rfl
        have hat : isAggT P t = false := by rw [← h.agg]; exact ha
        unfold Value.okWide at hv
        unfold isAggT at hat
        split at hv
        · rename_i fs hu; rw [hu] at hat; cases hat
        · rename_i n e hu; rw [hu] at hat; cases hat
        · unfold Cell.okWide at hv
          split at hv <;> simp_all [Cell.ok]
      cases v <;> first | rfl | exact absurd rfl (hnagg _)
    refine RV.of_leaf hl hnt h.wf (RO.of_closed (h.rel 0 p v (by rw [flat_leaf hl]; rfl) (by rw [hone]; rfl)))
theorem ins_of {W : World} {base : Nat} : ∀ {ts : List TypeId} {vs : List Value} {ds : List (DataW H)} {ps : List MemPlace}, (∀ t ∈ ts, okT P 9 t = true) → (∀ (j : Nat) t v, ts[j]? = some t → vs[j]? = some v → Value.okWide P W .any base t v) →
    DataW.TrodAll enc P W 0 (fun _ => true) true ts vs ds ps → ∃ qs, Ins P ts qs ∧ qs.length = vs.length ∧ ∀ (j : Nat) (p : PV) (v : Value), qs[j]? = some p → vs[j]? = some v → RV W (fun b _ => b < W.heap.size) (fun _ => none) v p
  | [], [], [], _, _, _, _ => ⟨[], ⟨rfl, by simp [WFL], rfl⟩, rfl, fun j p v hp => by simp at hp⟩
  | t :: ts, v :: vs, d :: ds, ps, ht, hv, h => by
    obtain ⟨p, q, ⟨fuel, h1⟩, h2, rfl⟩ := h
    obtain ⟨x, hx⟩ := trod_opens 9 t fuel _ _ (ht t (by simp)) h1
    obtain ⟨qs, g1, g2, g3⟩ := ins_of (fun t' h' => ht t' (by simp [h'])) (fun j t' v' hj hj' => hv (j + 1) t' v' (by simpa using hj) (by simpa using hj')) h2
    refine ⟨x :: qs, ⟨by simp only [List.map_cons, confL, Bool.and_eq_true]; exact ⟨hx.conf, g1.conf⟩, by simp only [WFL]; exact ⟨hx.wf, g1.wf⟩, by simp only [untupL, Bool.and_eq_true]; exact ⟨hx.untup, g1.untup⟩⟩, by simp [g2], fun j p' v' hp hv' => ?_⟩
    cases j with
    | zero =>
      simp at hp hv'
      subst hp; subst hv'
      exact RV_opens (hv 0 t v rfl rfl) hx
    | succ j => simp at hp hv'; exact g3 j p' v' hp hv'
  | [], _ :: _, _, _, _, _, h => by simp [DataW.TrodAll] at h
  | [], [], _ :: _, _, _, _, h => by simp [DataW.TrodAll] at h
  | _ :: _, [], _, _, _, _, h => by simp [DataW.TrodAll] at h
  | _ :: _, _ :: _, [], _, _, _, h => by simp [DataW.TrodAll] at h
theorem below_of_FR {w w' : World} {M : T2} (hM : ∀ b o, ¬ M b o) (h : FR M w w') : Below w.heap.size w w' := by
  refine ⟨h.os, h.tape, h.output, h.size, fun k hk => ?_⟩
  rcases h.block k hk with e | ⟨_, _, _, _, _, _, m3⟩ | ⟨cs, cs', t, fz, e1, e2, e3, e4⟩
  · exact e.symm
  · exact absurd m3 (hM k 0)
  · rw [e1, e2]
    have : cs' = cs := by
      apply Array.ext_getElem?
      intro i
      exact e4 i (hM k i)
    rw [this]
end
end Go.Pe
namespace Go.Pe
open Go.ChangeShapes Go.WideShapes Go.ChangeAt Go.RowKit
section
variable {H : Type} {enc : TypeId × Value → H} {P : Program}
theorem mapM_idx {α β : Type} {g : α → Option β} : ∀ {l : List α} {xs : List β}, l.mapM g = some xs → ∀ (i : Nat) (a : α), l[i]? = some a → ∃ y, xs[i]? = some y ∧ g a = some y
  | [], _, _, i, a, hi => by simp at hi
  | b :: l, xs, h, i, a, hi => by
    rw [List.mapM_cons] at h
    simp only [Option.bind_eq_bind, Option.bind_eq_some_iff] at h
    obtain ⟨y, hy, ys, hys, hx⟩ := h
    obtain rfl := Option.some.inj hx
    cases i with
    | zero => simp at hi; subst hi; exact ⟨y, rfl, hy⟩
    | succ i => exact mapM_idx hys i a (by simpa using hi)
theorem laid_mem {w : World} : ∀ {l : List (String × DataW Unit)} {ps : List MemPlace}, DataW.LaidVars P w l ps → ∀ x ∈ l, ∃ g t cs fuel p, P.globalNamed x.1 = some g ∧ (P.globals[g]?).map (·.type) = some t ∧ w.var? P x.1 = some cs ∧ DataW.trod (fun _ => ()) P w 0 (fun _ => true) false fuel t cs.toList = some (x.2, p)
  | [], _, _, x, hx => by cases hx
  | (n, d) :: l, ps, h, x, hx => by
    simp only [DataW.LaidVars] at h
    obtain ⟨g, t, cs, fuel, p, q, h1, h2, h3, h4, h5, _⟩ := h
    rcases List.mem_cons.1 hx with rfl | hx
    · exact ⟨g, t, cs, fuel, p, h1, h2, h3, h4⟩
    · exact laid_mem h5 x hx
theorem trod_int {w : World} {base fuel : Nat} {sp : Nat → Bool} {held : Bool} {t : TypeId} {k k' : IntKind} {n : Int} {cs : List Value} {p : List MemPlace} (hu : P.underlying t = some (.int k))
    (h : DataW.trod enc P w base sp held fuel t cs = some (.lit (.int k' n), p)) : cs = [.int k n] := by
  cases fuel with
  | zero => simp [DataW.trod] at h
  | succ fuel =>
    simp only [DataW.trod, hu] at h
    split at h <;> simp_all
/-- a variable that holds an array of integers -/
theorem glob_ints {W : World} {laid : List (String × DataW Unit)} (h : laidMet P laid W) {name : String} {g t e m : Nat} {k : IntKind} {ls : List Int} (hin : (name, .agg (ls.map fun v => .lit (.int k v))) ∈ laid)
    (hg : P.globalNamed name = some g) (ht : (P.globals[g]?).map (·.type) = some t) (hu : P.underlying t = some (.array m e)) (he : P.underlying e = some (.int k)) (hce : P.cellsOf e = 1) (hct : P.cellsOf t = m) (hm : ls.length = m) :
    RC W (fun b _ => b < W.heap.size) (.pointer (some ⟨g, 0, none⟩)) (.cptr (.iarr k m ls) []) := by
  obtain ⟨ps, hL, _, _⟩ := h
  obtain ⟨g', t', cs, fuel, p, h1, h2, h3, h4⟩ := laid_mem hL _ hin
  obtain rfl := Option.some.inj (hg.symm.trans h1)
  obtain rfl := Option.some.inj (ht.symm.trans h2)
  have hcell : ∀ (i : Nat) (v : Int), ls[i]? = some v → cs[i]? = some (Value.int k v) := by
    intro i v hv
    cases fuel with
    | zero => simp [DataW.trod] at h4
    | succ fuel =>
      simp only [DataW.trod, hu] at h4
      split at h4
      · rename_i hl
        simp only [Option.map_eq_some_iff] at h4
        obtain ⟨xs, hxs, hd⟩ := h4
        simp only [Prod.mk.injEq, DataW.agg.injEq] at hd
        have hi : i < ls.length := by
          rw [List.getElem?_eq_some_iff] at hv
          exact hv.1
        obtain ⟨y, hy1, hy2⟩ := mapM_idx hxs i i (by rw [List.getElem?_range (by omega)])
        have hy : (xs.map (·.1))[i]? = some y.1 := by rw [List.getElem?_map, hy1]; rfl
        rw [hd.1, List.getElem?_map, hv] at hy
        obtain ⟨y1, y2⟩ := y
        simp only [Option.map_some, Option.some.injEq] at hy
        subst hy
        have := trod_int he hy2
        rw [hce, Nat.mul_one] at this
        have e : cs.toList[i]? = some (Value.int k v) := by
          have e0 := congrArg (fun l => l[0]?) this
          simpa using e0
        simpa using e
      · cases h4
  have hcw : ∀ (i : Nat) (v : Int), ls[i]? = some v → W.cell? ⟨g, i, none⟩ = some (Value.int k v) := fun i v hv => by rw [World.var?_cell hg h3, hcell i v hv]
  refine RC.cptr g 0 _ [] (fun j => Value.int k (ls.getD j 0)) ?_ ?_
  · intro j q hq
    simp only [flat, List.getElem?_map, Option.map_eq_some_iff] at hq
    obtain ⟨v, hv, rfl⟩ := hq
    have hc := hcw j v hv
    rw [Nat.zero_add]
    refine ⟨?_, by rw [hc, List.getD_eq_getElem?_getD, hv]; rfl⟩
    rcases Nat.lt_or_ge g W.heap.size with h | h
    · exact h
    · simp [World.cell?, Array.getElem?_eq_none h] at hc
  · intro j q hq
    simp only [flat, List.getElem?_map, Option.map_eq_some_iff] at hq
    obtain ⟨v, hv, rfl⟩ := hq
    rw [List.getD_eq_getElem?_getD, hv]
    exact .int k v
theorem wants_of {ps : Array TypeId} (h : ps.toList.all (fun t => !P.wantsStandIn t) = true) (j : Nat) (t : TypeId) (ht : ps[j]? = some t) : P.wantsStandIn t = false := by
  have := List.all_eq_true.1 h t (by rw [← Array.getElem?_toList] at ht; exact List.mem_of_getElem? ht)
  simpa using this
/-- a world with a variable laid -/
noncomputable def laidW (P : Program) (os : Os) (g : Nat) (cs : Array Value) : World :=
  let w0 := World.holding P os ⟨#[], #[], []⟩
  { w0 with heap := w0.heap.modify g fun
      | .cells _ t frozen => .cells cs t frozen
      | o => o }
/-- THE LAW's STEP over laid variables. -/
theorem law_callsG {G : Nat → Option PV} {f : FuncId} {fn : Func} {s : ChangeSpec} {apart fresh handsOn again : Bool} {tb : TypeId} (hl : laidOutB P = true) (hvars : s.vars = []) (hr : fn.resultTypes = #[tb]) (hb : P.underlying tb = some .bool)
    (hbody : hasBody P f) (hspec : ∀ ds : List (DataW H), ds.length = fn.params.toList.length → s.fn H ds = { results := [.lit (.bool true)], args := ds })
    (ht : fn.params.toList.all (fun t => okT P 9 t && P.readableRec t && Nat.blt t P.types.size) = true)
    (hpc : ∀ ps, Ins P fn.params.toList ps → PC P G f [] ps [] (.bool true))
    {W : World} (hG : ∀ g c, G g = some c → WF c ∧ noref c = true ∧ RC W (fun b _ => b < W.heap.size) (.pointer (some ⟨g, 0, none⟩)) (.cptr c []))
    {base : Nat} {args : Array Value} {ds gs : List (DataW H)} {before : List MemPlace}
    (hval : ∀ (j : Nat) t v, fn.params[j]? = some t → args[j]? = some v → Value.okWide P W .any base t v)
    (hW : DataW.Whole enc P fn.params.toList s.vars apart W args.toList ds gs before) :
    Calls P f args W fun e W' => ∃ v, e = .returned v ∧ s.post enc P fn apart fresh handsOn again W args v W' := by
  have ht' : ∀ t ∈ fn.params.toList, okT P 9 t = true ∧ P.readableRec t = true ∧ t < P.types.size := by
    intro t h
    have := List.all_eq_true.1 ht t h
    simp only [Bool.and_eq_true] at this
    exact ⟨this.1.1, this.1.2, Nat.blt_eq ▸ this.2⟩
  have hW' := hW
  obtain ⟨p, q, hA, hV, rfl, hz, hn⟩ := hW
  rw [hvars] at hV
  obtain ⟨rfl, rfl⟩ := trodVars_none hV
  obtain ⟨l1, l2⟩ := trodAll_length hA
  obtain ⟨qs, g1, g2, g3⟩ := ins_of (base := base) (fun t h => (ht' t h).1) (fun j t v h1 h2 => hval j t v (by rw [← Array.getElem?_toList]; exact h1) (by rw [← Array.getElem?_toList]; exact h2)) hA
  have hM : ∀ b o, ¬ Mut (fun _ => none) (lookR ([] : List (Nat × Row))) b o := by
    rintro b o ⟨i, r, pl, h1, _⟩
    simp [lookR] at h1
  have hc := hpc qs g1
  refine Calls.mono (Enters.calls hbody (hc (fun b _ => b < W.heap.size) (fun _ => none) W args (fun b o _ => hM b o) ⟨fun i r hi => by simp [lookR] at hi, fun i i' r r' pl pl' _ h1 => by simp [lookR] at h1⟩ (fun _ _ => rfl) hG
    (by rw [g2]; simp) (fun j p v hp hv _ => g3 j p v hp (by rw [Array.getElem?_toList]; exact hv)))) fun e W' he => ?_
  obtain ⟨v, ρ', rfl, r1, _, _, r4, _⟩ := he
  have hvb : v = .bool true := by
    have := r1.to_leaf rfl (fun _ e => by cases e)
    simp only [RO] at this
    cases this
    rfl
  subst hvb
  have hbel := below_of_FR hM r4
  have hsp := hspec ds l2
  refine ⟨_, rfl, post_below (pa := p) (pv := []) hW' ?_ ?_ ?_ (by simp) hbel ?_⟩
  · intro b sp hd
    rw [List.append_nil, hsp, hr]
    exact trodAll_mk1 (shut_bool hb true)
  · intro sp hs
    rw [List.append_nil, hsp]
    exact trodAll_stays hl hbel (fun t h => (ht' t h).2) hA (fun x hx => hs x (by simp [hx]))
  · intro sp hs
    rw [List.append_nil, hsp, hvars]
    rfl
  · rw [hr]
    exact ok_one (f := { fn with resultTypes := #[tb] }) rfl rfl (okWide_bool_mk hb true)
end
end Go.Pe
