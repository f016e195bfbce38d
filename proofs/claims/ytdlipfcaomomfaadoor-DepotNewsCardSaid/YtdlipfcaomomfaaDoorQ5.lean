/- Merged texts: the pure machine and what the walks show. Conditions: as each statement says. -/
import Derived.Carry
import Derived.ChangeArms
import Derived.ChangeSame
import Derived.ChangeCalls
import Derived.JoinedOf
import Derived.Handed
import Derived.OpenShut
import Derived.RowKit
import Derived.ProofKit
import Derived.LaidLaws
import Derived.LaidHandle
import Derived.FnData
import GoSem.ClaimSeven
import Derived.Test.YtdlipfcaomomfaaDoorQ4
namespace Go.Proofs
open Go Go.Pe Go.Pm
set_option maxRecDepth 100000
set_option linter.unusedVariables false
theorem pc_rId {b : List Int} (hb : Bytes b) (hl : b.length ≤ 1000000) : PC Tryd.prog G0 37 [] [.str (strOf b)] [] (.iarr .u8 32 (dsha b)) := by
  have c := pc_rTwice (s := strOf b) (by rw [strOf_size]; omega)
  rw [bytesOf_strOf hb] at c
  exact c
def idsPV (n : Nat) (L : List TxM) : PV := .vec (decide (n = 0)) (hL n (idsM L))
theorem stx_get {L : List TxM} {i : Nat} (h : i < L.length) : (L.map stPV).getD i .undef = stPV (L.getD i default) := by
  simp [List.getD_eq_getElem?_getD, h]
theorem idsM_take {L : List TxM} {j : Nat} (h : j < L.length) : (idsM L).take (j + 1) = (idsM L).take j ++ [dsha (L.getD j default).2.2] := by
  rw [List.take_add_one]
  congr 1
  unfold idsM
  simp [List.getD_eq_getElem?_getD, h]
def dsRi (nl : Bool) (n : Nat) (T I : List PV) (j : Nat) : DS := ⟨[(3, .ref 1 [] 32 0 j), (6, .vec nl (.parr 1 n .str T)), (7, .int .i64 n), (8, .int .i64 j)], [(1, ⟨.parr 32 j hsE I, false⟩)]⟩
theorem W_rids {nl : Bool} {n : Nat} {L : List TxM} (ho : TxsOk L n) (hn : n ≤ 100000) : ∀ (k j : Nat), k + j = n → 0 < j →
    W Tryd.prog G0 Tryd.f36 [] [] (idsPV n L) (loopAt Tryd.f36 0) (dsRi nl n (L.map stPV) (((idsM L).take j).map hv) j)
  | 0, j, hk, h0 => by
    have hj : j = n := by omega
    subst hj
    have e : (idsM L).take j = idsM L := List.take_of_length_le (by rw [(idsM_ok ho).len]; omega)
    rw [e]
    have hl : ((idsM L).map hv).length = j := by rw [List.length_map, (idsM_ok ho).len]
    have hd : decide (j = 0) = false := decide_eq_false (by omega)
    unfold idsPV hL
    rw [hd]
    have hT : ((idsM L).map hv).take j = (idsM L).map hv := List.take_of_length_le (by omega)
    generalize (idsM L).map hv = I at *
    generalize L.map stPV = T at *
    unfold dsRi
    refine W.ret [(0, aF)] [] [decide ((j:Int) < (j:Int)) = false, 0 + j ≤ j, PV.vec false (PV.parr 32 j (Sh.iarr IntKind.u8 32) (List.take j I)) = PV.vec false (PV.parr 32 j (Sh.iarr IntKind.u8 32) I)] (by kernel_rfl) (ac (dF (by omega)) (ac (by omega) (ao (by (simp; omega)))))
  | k + 1, j, hk, h0 => by
    have hlt : j < L.length := by rw [ho.len]; omega
    have g := stx_get (L := L) (i := j) hlt
    obtain ⟨hb, hnl, hN⟩ := ho.get (i := j) (by omega)
    have hw := W_rids (nl := nl) ho hn k (j + 1) (by omega) (by omega)
    rw [idsM_take hlt, List.map_append] at hw
    have hIl : (((idsM L).take j).map hv).length = j := by rw [List.length_map, List.length_take, (idsM_ok ho).len]; omega
    have c1 := pc_rId hb.bytes (by rw [hb.len]; exact hN)
    unfold stPV at g
    generalize dsha (L.getD j default).2.2 = r at *
    generalize strOf (L.getD j default).2.2 = s at *
    have hr : [r].map hv = [PV.iarr .u8 32 r] := rfl
    rw [hr] at hw
    change (L.map stPV).getD j .undef = _ at g
    generalize ((idsM L).take j).map hv = I at *
    generalize L.map stPV = T at *
    generalize idsPV n L = res at *
    unfold dsRi at *
    refine W.sg 0 [(0, aT), (2, aE g), (6, c9 c1), (8, Ans.ups [(1, none), (192, some (Row.mk (PV.parr 32 (j + 1) (Sh.iarr IntKind.u8 32) (I ++ [B8 32 r])) false))]), (10, aV (I6 (↑(j + 1) : Int)))] [(192, 1)] (⟨[(3, .ref 1 [] 32 0 (j + 1)), (6, .vec nl (.parr 1 n .str T)), (7, .int .i64 n), (8, .int .i64 ((j + 1 : Nat) : Int))], [(1, ⟨.parr 32 (j + 1) hsE (I ++ [.iarr .u8 32 r]), false⟩)]⟩ : DS) [decide ((j:Int) < (n:Int)) = true, 0 ≤ (j:Int), (j:Int) < (n:Int), _, j < n, _, ([(1, none), (192, some (Row.mk (PV.parr 32 (j + 1) (Sh.iarr IntKind.u8 32) (List.take j I ++ [B8 32 r])) false))] : List (Nat × Option Row)) = [(1, none), (192, some (Row.mk (PV.parr 32 (j + 1) (Sh.iarr IntKind.u8 32) (I ++ [B8 32 r])) false))], 1 ≤ 1, 0 + j = j, (j + 1) * 32 ≤ 140737488355328, j + 1 ≤ 9223372036854775807, I6 (IntKind.wrap .i64 ((j:Int) + 1)) = I6 (↑(j + 1) : Int)] (by kernel_rfl) (ac (dT (by omega)) (ac (by omega) (ac (by omega) (ac (ex g) (ac (by omega) (ac (c1) (ac (by rw [List.take_of_length_le (show List.length I ≤ j by omega)]) (ac (by omega) (ac (by omega) (ac (by omega) (ac (by omega) (ao (cg (w_i64 rfl (by omega) (by omega))))))))))))))) ?_
    exact hw
theorem pc_rIds {nl : Bool} {n : Nat} {L : List TxM} (ho : TxsOk L n) (hn : n ≤ 100000) : PC Tryd.prog G0 36 [] [.vec nl (.parr 1 n .str (L.map stPV))] [] (idsPV n L) := by
  refine PC.of (fn := Tryd.f36) (c := bodyOf Tryd.f36) Tryd.func36 (by kernel_rfl) (by kernel_rfl) (by kernel_rfl) (by kernel_rfl) ?_
  by_cases h0 : n = 0
  · subst h0
    have hL : L = [] := List.eq_nil_of_length_eq_zero ho.len
    subst hL
    change W _ _ _ _ _ (PV.vec true (.parr 32 0 hsE [])) _ _
    refine W.sg 0 [(3, aV (I6 0))] [] (⟨[(3, .vec true (.parr 32 0 hsE [])), (6, .vec nl (.parr 1 0 .str [])), (7, .int .i64 (0 : Int)), (8, .int .i64 0)], []⟩ : DS) [I6 (↑(0 : Nat) : Int) = I6 0] (by kernel_rfl) (ao (cg (by omega))) ?_
    refine W.rt [] [] [] (by kernel_rfl) trivial
  · have hlt : 0 < L.length := by rw [ho.len]; omega
    have g := stx_get (L := L) (i := 0) hlt
    obtain ⟨hb, hnl, hN⟩ := ho.get (i := 0) (by omega)
    have hw := W_rids (nl := nl) ho hn (n - 1) 1 (by omega) (by omega)
    rw [idsM_take hlt, List.take_zero, List.nil_append] at hw
    have c1 := pc_rId hb.bytes (by rw [hb.len]; exact hN)
    unfold stPV at g
    generalize dsha (L.getD 0 default).2.2 = r at *
    generalize strOf (L.getD 0 default).2.2 = s at *
    have hr : [r].map hv = [PV.iarr .u8 32 r] := rfl
    rw [hr] at hw
    change (L.map stPV).getD 0 .undef = _ at g
    have hn0 : 0 < n := by omega
    clear h0
    generalize L.map stPV = T at *
    generalize idsPV n L = res at *
    unfold dsRi at *
    refine W.sg 0 [] [] (⟨[(3, .vec true (.parr 32 0 hsE [])), (6, .vec nl (.parr 1 n .str T)), (7, .int .i64 n), (8, .int .i64 0)], []⟩ : DS) [] (by kernel_rfl) trivial ?_
    refine W.sg 0 [(0, aT), (2, aE g), (6, c9 c1), (10, aV (I6 1))] [(192, 1)] (⟨[(3, .ref 1 [] 32 0 1), (6, .vec nl (.parr 1 n .str T)), (7, .int .i64 n), (8, .int .i64 (1 : Int))], [(1, ⟨.parr 32 1 hsE [.iarr .u8 32 r], false⟩)]⟩ : DS) [decide (0 < (n:Int)) = true, (0 : Int) ≤ (0 : Int), 0 < (n:Int), _, 0 < n, _, 1 ≤ 1, 0 < 1, 32 ≤ 140737488355328, 1 ≤ 9223372036854775807, I6 (IntKind.wrap .i64 ((0 : Int) + (1 : Int))) = I6 1] (by kernel_rfl) (ac (dT (by omega)) (ac (by omega) (ac (by omega) (ac (ex g) (ac (by omega) (ac (c1) (ac (by omega) (ac (by omega) (ac (by omega) (ac (by omega) (ao (cg (w_i64 rfl (by omega) (by omega)))))))))))))) ?_
    exact hw
theorem rtxP_form (b : List Int) : ∃ (s : Nat) (o : Bool) (m : Nat) (M : List PV), rtxP b = .tup [.st 2 [.int .u64 s, .vec o (.parr 2 m rosh M)], .int .i64 (txE b)] := by
  unfold rtxP rtxRes routsPV
  by_cases h : txE b = 0
  · rw [if_pos h]
    by_cases g : txOuts b = []
    · rw [if_pos g]; exact ⟨_, _, _, _, rfl⟩
    · rw [if_neg g]; exact ⟨_, _, _, _, rfl⟩
  · rw [if_neg h]; exact ⟨0, true, 0, [], rfl⟩
def dsRs (nl : Bool) (n : Nat) (T : List PV) (i : Nat) : DS := ⟨[(0, .vec nl (.parr 1 n .str T)), (15, .vec nl (.parr 1 n .str T)), (16, .int .i64 n), (17, .int .i64 i)], []⟩
theorem W_rsound {nl : Bool} {n : Nat} {L : List TxM} (ho : TxsOk L n) (hn : n ≤ 16) (hn0 : 0 < n) : ∀ (k i : Nat), i + k = n → parseE L = parseE (L.drop i) →
    W Tryd.prog G0 Tryd.f34 [] [] (.int .i64 (soundE L)) (loopAt Tryd.f34 0) (dsRs nl n (L.map stPV) i)
  | 0, i, hk, hp => by
    have hi : i = n := by omega
    subst hi
    have hp0 : parseE L = 0 := by rw [hp, List.drop_of_length_le (by rw [ho.len]; omega)]; rfl
    have hse : soundE L = if dblB (idsM L) = true then 7 else 0 := by unfold soundE; rw [ho.len, if_neg (by omega), if_pos hp0]
    have c1 := pc_rIds (nl := nl) ho (by omega)
    have c2 := pc_rDoubled (nl := decide (i = 0)) (idsM_ok ho) (by omega) (dblB_iff (idsM L))
    by_cases hd : dblB (idsM L) = true
    · rw [hse, if_pos hd]
      rw [hd] at c2
      unfold idsPV at c1
      unfold hL at *
      generalize (idsM L).map hv = I at *
      generalize L.map stPV = T at *
      unfold dsRs at *
      refine W.rt [(0, aF), (2, c0 c1), (3, c9 c2)] [] [decide ((i:Int) < (i:Int)) = false, _, _] (by kernel_rfl) (ac (dF (by omega)) (ac (c1) (ao (c2))))
    · rw [hse, if_neg hd]
      have hd' : dblB (idsM L) = false := by simpa using hd
      rw [hd'] at c2
      unfold idsPV at c1
      unfold hL at *
      clear hse hp0 hp hd hd'
      generalize (idsM L).map hv = I at *
      generalize L.map stPV = T at *
      unfold dsRs at *
      refine W.rt [(0, aF), (2, c0 c1), (3, c9 c2)] [] [decide ((i:Int) < (i:Int)) = false, _, _] (by kernel_rfl) (ac (dF (by omega)) (ac (c1) (ao (c2))))
  | k + 1, i, hk, hp => by
    have hi : i < n := by omega
    have hlt : i < L.length := by rw [ho.len]; exact hi
    have g := stx_get (L := L) (i := i) hlt
    obtain ⟨hb, hnl, hN⟩ := ho.get hi
    have hdrop : L.drop i = L.getD i default :: L.drop (i + 1) := by rw [List.drop_eq_getElem_cons hlt]; simp [List.getD_eq_getElem?_getD, hlt]
    rw [hdrop] at hp
    have hw := W_rsound (nl := nl) ho hn hn0 k (i + 1) (by omega)
    change (L.map stPV).getD i .undef = .str (strOf (L.getD i default).2.2) at g
    generalize L.getD i default = x at *
    obtain ⟨xnl, xN, xb⟩ := x
    dsimp only [parseE] at *
    have c1 := pc_rParse hb.len hb.bytes hN
    dsimp only at c1
    obtain ⟨s, o, m, M, hf⟩ := rtxP_form xb
    rw [hf] at c1
    have hle := txE_le xb
    by_cases h0 : txE xb = 0
    · rw [if_pos h0] at hp
      have hw := hw hp
      rw [h0] at c1
      clear hdrop hf hp h0
      generalize soundE L = res at *
      generalize L.map stPV = T at *
      generalize strOf xb = t at *
      unfold dsRs at *
      refine W.sg 0 [(0, aT), (2, aE g), (5, c0 c1), (8, aV (I6 0)), (14, aV (I6 (↑(i + 1) : Int)))] [] (⟨[(0, .vec nl (.parr 1 n .str T)), (15, .vec nl (.parr 1 n .str T)), (16, .int .i64 n), (17, .int .i64 ((i + 1 : Nat) : Int))], []⟩ : DS) [decide ((i:Int) < (n:Int)) = true, 0 ≤ (i:Int), (i:Int) < (n:Int), _, i < n, _, I6 (↑(0 : Nat) : Int) = I6 0, I6 (IntKind.wrap .i64 ((i:Int) + 1)) = I6 (↑(i + 1) : Int)] (by kernel_rfl) (ac (dT (by omega)) (ac (by omega) (ac (by omega) (ac (ex g) (ac (by omega) (ac (c1) (ac (cg (by omega)) (ao (cg (w_i64 rfl (by omega) (by omega))))))))))) ?_
      exact hw
    · rw [if_neg h0] at hp
      have hse : soundE L = txE xb := by unfold soundE; rw [ho.len, if_neg (by omega), hp, if_neg h0]
      have hne : ¬ ((txE xb : Int) = 0) := by omega
      rw [hse]
      clear hdrop hf hp hw hse
      generalize txE xb = e at *
      generalize L.map stPV = T at *
      generalize strOf xb = t at *
      unfold dsRs at *
      refine W.rt [(0, aT), (2, aE g), (5, c0 c1), (13, aT)] [] [decide ((i:Int) < (n:Int)) = true, 0 ≤ (i:Int), (i:Int) < (n:Int), _, i < n, _, ((e:Int) != 0) = true] (by kernel_rfl) (ac (dT (by omega)) (ac (by omega) (ac (by omega) (ac (ex g) (ac (by omega) (ac (c1) (ao (bne_iff_ne.2 (by omega)))))))))
theorem pc_rSound {nl : Bool} {n : Nat} {L : List TxM} (ho : TxsOk L n) (hn : n ≤ 100000) : PC Tryd.prog G0 34 [] [.vec nl (.parr 1 n .str (L.map stPV))] [] (.int .i64 (soundE L)) := by
  refine PC.of (fn := Tryd.f34) (c := bodyOf Tryd.f34) Tryd.func34 (by kernel_rfl) (by kernel_rfl) (by kernel_rfl) (by kernel_rfl) ?_
  by_cases hr : n < 1 ∨ 16 < n
  · have hse : soundE L = 5 := by unfold soundE; rw [ho.len, if_pos hr]
    rw [hse]
    generalize L.map stPV = T at *
    rcases hr with h1 | h1
    · refine W.rt [(3, aT)] [] [((n:Int) == 0) = true] (by kernel_rfl) (ao (dT (by omega)))
    · have h2 : ¬ ((n : Int) = 0) := by omega
      refine W.rt [(3, aF), (7, aT)] [] [((n:Int) == 0) = false, decide ((n:Int) > 16) = true] (by kernel_rfl) (ac (dF (by omega)) (ao (dT (by omega))))
  · have hw := W_rsound (nl := nl) ho (by omega) (by omega) n 0 (by omega) rfl
    generalize soundE L = res at *
    generalize L.map stPV = T at *
    unfold dsRs at *
    refine W.sg 0 [(3, aF), (7, aF)] [] (⟨[(0, .vec nl (.parr 1 n .str T)), (15, .vec nl (.parr 1 n .str T)), (16, .int .i64 n), (17, .int .i64 (0 : Int))], []⟩ : DS) [((n:Int) == 0) = false, decide ((n:Int) > 16) = false] (by kernel_rfl) (ac (dF (by omega)) (ao (dF (by omega)))) ?_
    exact hw
theorem pc_rCheck {h : Hd} {n : Nat} {L : List TxM} (hh : h.Ok) (ho : TxsOk L n) (hn : n ≤ 100000) : PC Tryd.prog G0 23 [] [rblkPV h n L] [] (.int .i64 (checkE h L)) := by
  refine PC.of (fn := Tryd.f23) (c := bodyOf Tryd.f23) Tryd.func23 (by kernel_rfl) (by kernel_rfl) (by kernel_rfl) (by kernel_rfl) ?_
  have c1 := pc_rSound (nl := decide (n = 0)) ho hn
  have c2 := pc_rIds (nl := decide (n = 0)) ho hn
  have c3 := pc_rRoot (nl := decide (n = 0)) (idsM_ok ho) hn
  have hl := soundE_le L
  have hrl := rootM_length (idsM_ok ho)
  have hroot := hh.root
  unfold checkE
  unfold idsPV at c2
  by_cases h0 : soundE L = 0
  · rw [h0] at c1
    rw [if_pos h0]
    unfold rblkPV txtsPV Hd.pv hv hL at *
    by_cases hr : rootM (idsM L) = h.root
    · rw [if_pos hr]
      generalize rootM (idsM L) = rt at *
      subst hr
      generalize (idsM L).map (PV.iarr .u8 32) = I at *
      generalize L.map stPV = T at *
      generalize decide (n = 0) = nl at *
      refine W.rt [(4, c9 c1), (5, aV (I6 0)), (10, c0 c2), (11, c9 c3), (15, aF)] [] [_, I6 (↑(0 : Nat) : Int) = I6 0, _, _, (!decide (Hd.root h = Hd.root h)) = false] (by kernel_rfl) (ac (c1) (ac (cg (by omega)) (ac (c2) (ac (c3) (ao (by (simp [*]; done)))))))
    · rw [if_neg hr]
      generalize rootM (idsM L) = rt at *
      generalize (idsM L).map (PV.iarr .u8 32) = I at *
      generalize L.map stPV = T at *
      generalize decide (n = 0) = nl at *
      generalize h.root = hr0 at *
      refine W.rt [(4, c9 c1), (5, aV (I6 0)), (10, c0 c2), (11, c9 c3), (15, aT)] [] [_, I6 (↑(0 : Nat) : Int) = I6 0, _, _, (!decide (rt = hr0)) = true] (by kernel_rfl) (ac (c1) (ac (cg (by omega)) (ac (c2) (ac (c3) (ao (by (simp [*]; done)))))))
  · rw [if_neg h0]
    have hne : ¬ ((soundE L : Int) = 0) := by omega
    unfold rblkPV txtsPV Hd.pv hv at *
    generalize soundE L = e at *
    generalize L.map stPV = T at *
    generalize decide (n = 0) = nl at *
    refine W.rt [(4, c9 c1), (7, aT)] [] [_, ((e:Int) != 0) = true] (by kernel_rfl) (ac (c1) (ao (bne_iff_ne.2 (by omega))))
end Go.Proofs
namespace Go.Proofs
open Go Go.Pe Go.Pm
set_option maxRecDepth 100000
set_option linter.unusedVariables false
def _root_.Go.Pe.PV.tupAt (i : Nat) : PV → PV
  | .tup l => l.getD i .undef
  | _ => .undef
def rBlk (b : Blk) : PV := rblkPV b.h b.n b.L
def rbksh : Sh := .st 69 [hsh, .vec 1 .str]
def rblksPV (nl : Bool) (n : Nat) (M : List PV) : PV := .vec nl (.parr 69 n rbksh M)
def rdepPV (L H : PV) : PV := .st 2 [L, H]
def zdep : PV := .st 2 [.vec true (.parr 69 0 rbksh []), .vec true (.parr 32 0 hsE [])]
theorem rblk_get {Bs : List Blk} {i : Nat} (h : i < Bs.length) : (Bs.map rBlk).getD i .undef = rBlk (Bs.getD i default) := by simp [List.getD_eq_getElem?_getD, h]
theorem rblk_take {Bs : List Blk} {i : Nat} (h : i < Bs.length) : (Bs.map rBlk).take (i + 1) = (Bs.map rBlk).take i ++ [rBlk (Bs.getD i default)] := by
  rw [List.take_add_one]
  congr 1
  simp [List.getD_eq_getElem?_getD, h]
theorem blk_mem {Bs : List Blk} {i : Nat} (h : i < Bs.length) : Bs.getD i default ∈ Bs := by
  have : Bs.getD i default = Bs[i] := by simp [List.getD_eq_getElem?_getD, h]
  rw [this]; exact List.getElem_mem h
theorem blk_drop {Bs : List Blk} {i : Nat} (h : i < Bs.length) : Bs.drop i = Bs.getD i default :: Bs.drop (i + 1) := by rw [List.drop_eq_getElem_cons h]; simp [List.getD_eq_getElem?_getD, h]
def dRN (nl : Bool) (n : Nat) (R HM : List PV) (i : Nat) : DS := ⟨[(4, .at 1 []), (6, .at 2 []), (18, rblksPV nl n R), (19, .int .i64 n), (20, .int .i64 i)], [(1, ⟨zdep, false⟩), (2, ⟨.st 2 [rblksPV nl n R, .ref 3 [] 32 0 (i + 1)], false⟩), (3, ⟨.parr 32 (i + 1) hsE HM, false⟩)]⟩
theorem W_rn {nl : Bool} {n : Nat} {R HM : List PV} {i : Nat} {res : PV} {h : Hd} {m : Nat} {S x y : List Int} {T : PV} {e : Nat} (hi : i < n) (hn : n ≤ 100) (g : R.getD i .undef = .st 69 [h.pv, T]) (hT : ∃ b k l, T = .vec b (.parr 1 k .str l)) (gH : HM.getD i .undef = .iarr .u8 32 x) (hl : HM.length = i + 1) (hx : x.length = 32) (hh : h.prev.length = 32)
    (c1 : PC Tryd.prog G0 23 [] [.st 69 [h.pv, T]] [] (.int .i64 e)) (c2 : PC Tryd.prog G0 24 [] [h.pv] [] (.iarr .u8 32 y))
    (h1 : e ≠ 0 → res = .tup [zdep, .int .i64 e]) (h2 : e = 0 → ¬ h.prev = x → res = .tup [zdep, .int .i64 ((9 : Nat) : Int)])
    (hw : e = 0 → h.prev = x → W Tryd.prog G0 Tryd.f16 [] [] res (loopAt Tryd.f16 0) (dRN nl n R (HM ++ [.iarr .u8 32 y]) (i + 1))) :
    W Tryd.prog G0 Tryd.f16 [] [] res (loopAt Tryd.f16 0) (dRN nl n R HM i) := by
  obtain ⟨b, k, l, rfl⟩ := hT
  by_cases he : e = 0
  · subst he
    by_cases hp : h.prev = x
    · have hw := hw rfl hp
      clear h1 h2
      refine W.sg 0 [(0, aT), (3, aE g), (8, c9 c1), (9, aV (I6 0)), (18, aV (PV.at 3 [Stp.idx i 32])), (19, aE gH), (20, aF), (25, c9 c2), (27, Ans.ups [(3, none), (496, some (Row.mk (PV.parr 32 (i + 1 + 1) (Sh.iarr IntKind.u8 32) (HM ++ [B8 32 y])) false))]), (30, aV (I6 (↑(i + 1) : Int)))] [(1, 1), (2, 2), (496, 3)] (dRN nl n R (HM ++ [.iarr .u8 32 y]) (i + 1)) [decide ((i:Int) < (n:Int)) = true, 0 ≤ (i:Int), (i:Int) < (n:Int), _, i < n, _, I6 (↑(0 : Nat) : Int) = I6 0, PV.at 3 [Stp.idx (0 + i) 32] = PV.at 3 [Stp.idx i 32], 0 ≤ (i:Int), (i:Int) < (↑(i + 1) : Int), _, i < i + 1, (!decide (Hd.prev h = x)) = false, _, ([(3, none), (496, some (Row.mk (PV.parr 32 (i + 1 + 1) (Sh.iarr IntKind.u8 32) (List.take (i + 1) HM ++ [B8 32 y])) false))] : List (Nat × Option Row)) = [(3, none), (496, some (Row.mk (PV.parr 32 (i + 1 + 1) (Sh.iarr IntKind.u8 32) (HM ++ [B8 32 y])) false))], 1 ≤ 1, 0 + (i + 1) = i + 1, (i + 1 + 1) * 32 ≤ 140737488355328, i + 1 + 1 ≤ 9223372036854775807, I6 (IntKind.wrap .i64 ((i:Int) + 1)) = I6 (↑(i + 1) : Int)] (by kernel_rfl) (ac (dT (by omega)) (ac (by omega) (ac (by omega) (ac (ex g) (ac (by omega) (ac (c1) (ac (cg (by omega)) (ac (by simp only [Nat.zero_add]) (ac (by omega) (ac (by omega) (ac (ex gH) (ac (by omega) (ac (by (simp [*]; done)) (ac (c2) (ac (by rw [List.take_of_length_le (show List.length HM ≤ i + 1 by omega)]) (ac (by omega) (ac (by omega) (ac (by omega) (ac (by omega) (ao (cg (w_i64 rfl (by omega) (by omega))))))))))))))))))))))) ?_
      exact hw
    · obtain rfl := h2 rfl hp
      clear h1 hw h2
      unfold zdep
      refine W.rt [(0, aT), (3, aE g), (8, c9 c1), (9, aV (I6 0)), (18, aV (PV.at 3 [Stp.idx i 32])), (19, aE gH), (20, aT)] [] [decide ((i:Int) < (n:Int)) = true, 0 ≤ (i:Int), (i:Int) < (n:Int), _, i < n, _, I6 (↑(0 : Nat) : Int) = I6 0, PV.at 3 [Stp.idx (0 + i) 32] = PV.at 3 [Stp.idx i 32], 0 ≤ (i:Int), (i:Int) < (↑(i + 1) : Int), _, i < i + 1, (!decide (Hd.prev h = x)) = true] (by kernel_rfl) (ac (dT (by omega)) (ac (by omega) (ac (by omega) (ac (ex g) (ac (by omega) (ac (c1) (ac (cg (by omega)) (ac (by simp only [Nat.zero_add]) (ac (by omega) (ac (by omega) (ac (ex gH) (ac (by omega) (ao (by (simp [*]; done)))))))))))))))
  · obtain rfl := h1 he
    clear h2 hw h1
    unfold zdep
    refine W.rt [(0, aT), (3, aE g), (8, c9 c1), (11, aT)] [] [decide ((i:Int) < (n:Int)) = true, 0 ≤ (i:Int), (i:Int) < (n:Int), _, i < n, _, ((e:Int) != 0) = true] (by kernel_rfl) (ac (dT (by omega)) (ac (by omega) (ac (by omega) (ac (ex g) (ac (by omega) (ac (c1) (ao (bne_iff_ne.2 (by omega)))))))))
theorem W_rdep {nl : Bool} {n : Nat} {Bs : List Blk} {f : List Int} (hB : Bs.length = n) (hn : n ≤ 100) (hok : ∀ b ∈ Bs, BlkOk b) (hf : f.length = 32) {res : PV} : ∀ (k i : Nat), i + k = n →
    (depE ((depHs f Bs).getD i []) (Bs.drop i) = 0 → res = .tup [rdepPV (rblksPV nl n (Bs.map rBlk)) (.vec false (.parr 32 (n + 1) hsE ((depHs f Bs).map hv))), .int .i64 ((0 : Nat) : Int)]) →
    (∀ e, depE ((depHs f Bs).getD i []) (Bs.drop i) = e → e ≠ 0 → res = .tup [zdep, .int .i64 e]) →
    W Tryd.prog G0 Tryd.f16 [] [] res (loopAt Tryd.f16 0) (dRN nl n (Bs.map rBlk) (((depHs f Bs).map hv).take (i + 1)) i)
  | 0, i, hk, h1, h2 => by
    have hi : i = n := by omega
    subst hi
    rw [List.drop_of_length_le (by omega)] at h1
    obtain rfl := h1 rfl
    have hl := depHs_length f Bs
    rw [List.take_of_length_le (l := (depHs f Bs).map hv) (by rw [List.length_map, depHs_length]; omega)]
    have hlm : ((depHs f Bs).map hv).length = i + 1 := by rw [List.length_map, hl, hB]
    clear h1 h2
    unfold rdepPV
    generalize (depHs f Bs).map hv = HM at *
    generalize Bs.map rBlk = R at *
    have ht : HM.take (i + 1) = HM := List.take_of_length_le (by omega)
    refine W.ret [(0, aF)] [] [decide ((i:Int) < (i:Int)) = false, 0 + (i + 1) ≤ i + 1, PV.tup [PV.st 2 [PV.vec nl (PV.parr 69 i (Sh.st 69 [hsh, Sh.vec 1 Sh.str]) R), PV.vec false (PV.parr 32 (i + 1) (Sh.iarr IntKind.u8 32) (List.take (i + 1) HM))], I6 0] = PV.tup [PV.st 2 [PV.vec nl (PV.parr 69 i (Sh.st 69 [hsh, Sh.vec 1 Sh.str]) R), PV.vec false (PV.parr 32 (i + 1) (Sh.iarr IntKind.u8 32) HM)], I6 (↑(0 : Nat) : Int)]] (by kernel_rfl) (ac (dF (by omega)) (ac (by omega) (ao (by (simp; omega)))))
  | k + 1, i, hk, h1, h2 => by
    have hi : i < n := by omega
    have hlt : i < Bs.length := by omega
    have g := rblk_get hlt
    have gH := depHs_get (f := f) (Bs := Bs) (i := i) (by rw [depHs_length]; omega)
    have hx : ((depHs f Bs).getD i []).length = 32 := by
      rcases depHs_len (f := f) (Bs := Bs) (i := i) hf with h | h
      · exact h
      · rw [depHs_length] at h; omega
    have ob := hok _ (blk_mem hlt)
    have ih := W_rdep (nl := nl) hB hn hok hf (res := res) k (i + 1) (by omega)
    rw [depHs_take hlt, depHs_next hlt] at ih
    rw [blk_drop hlt] at h1 h2
    have c1 := pc_rCheck ob.h ob.t ob.n
    have c2 := pc_hash07 ob.h
    have hLH : (((depHs f Bs).map hv).take (i + 1)).length = i + 1 := by rw [List.length_take, List.length_map, depHs_length]; omega
    generalize Bs.getD i default = b at *
    generalize (depHs f Bs).getD i [] = x at *
    unfold depE at h1 h2
    refine W_rn hi hn g ⟨_, _, _, rfl⟩ gH hLH hx ob.h.prev (m := 0) (S := []) c1 c2 (fun he => ?_) (fun he hp => ?_) (fun he hp => ?_)
    · rw [if_neg he] at h2
      exact h2 _ rfl he
    · rw [if_pos he, if_neg hp] at h2
      exact h2 9 rfl (by omega)
    · rw [if_pos he, if_pos hp] at h1 h2
      exact ih h1 h2
theorem pc_rDepNew {nl : Bool} {n : Nat} {Bs : List Blk} {f : List Int} (hB : Bs.length = n) (hn : n ≤ 100) (hok : ∀ b ∈ Bs, BlkOk b) (hf : f.length = 32) {res : PV}
    (h1 : depE f Bs = 0 → res = .tup [rdepPV (rblksPV nl n (Bs.map rBlk)) (.vec false (.parr 32 (n + 1) hsE ((depHs f Bs).map hv))), .int .i64 ((0 : Nat) : Int)]) (h2 : ∀ e, depE f Bs = e → e ≠ 0 → res = .tup [zdep, .int .i64 e]) :
    PC Tryd.prog G0 16 [] [.iarr .u8 32 f, rblksPV nl n (Bs.map rBlk)] [] res := by
  refine PC.of (fn := Tryd.f16) (c := bodyOf Tryd.f16) Tryd.func16 (by kernel_rfl) (by kernel_rfl) (by kernel_rfl) (by kernel_rfl) ?_
  have hw := W_rdep (nl := nl) hB hn hok hf (res := res) n 0 (by omega) (by rw [List.drop_zero]; exact h1) (by rw [List.drop_zero]; exact h2)
  clear h1 h2
  change W _ _ _ _ _ _ _ (dRN nl n (Bs.map rBlk) [.iarr .u8 32 f] 0) at hw
  generalize Bs.map rBlk = R at *
  refine W.sg 0 [(5, aF)] [(80, 1), (224, 2), (192, 3)] (dRN nl n R [.iarr .u8 32 f] 0) [decide ((n:Int) > 512) = false] (by kernel_rfl) (ao (dF (by omega))) ?_
  exact hw
def dLR (f : List Int) (bn : Bool) (n : Nat) (B R : List PV) (i : Nat) : DS := ⟨[(1, .at 1 []), (2, .at 2 []), (3, .int .i64 0), (4, .ref 3 [] 69 0 i), (8, .vec bn (.parr 69 n bksh B)), (9, .int .i64 n), (10, .int .i64 i)], [(1, ⟨.st 33 [.iarr .u8 32 f, .vec bn (.parr 69 n bksh B)], false⟩), (2, ⟨zdep, false⟩), (3, ⟨.parr 69 i rbksh R, false⟩)]⟩
def dLR0 (f : List Int) (bn : Bool) (n : Nat) (B : List PV) : DS := ⟨[(1, .at 1 []), (2, .at 2 []), (3, .int .i64 0), (4, .vec true (.parr 69 0 rbksh [])), (8, .vec bn (.parr 69 n bksh B)), (9, .int .i64 n), (10, .int .i64 0)], [(1, ⟨.st 33 [.iarr .u8 32 f, .vec bn (.parr 69 n bksh B)], false⟩), (2, ⟨zdep, false⟩)]⟩
theorem W_lr {f : List Int} {bn : Bool} {n : Nat} {B R : List PV} {i : Nat} {res a T : PV} {h : Hd} (hi : i < n) (hn : n ≤ 100) (hl : R.length = i) (hT : ∃ b k l, T = .vec b (.parr 1 k bsh l)) (g : B.getD i .undef = .st 69 [h.pv, T]) (ha : ∃ h' b k l, a = .st 69 [Hd.pv h', .vec b (.parr 1 k .str l)]) (c1 : PC Tryd.prog G0 15 [] [.st 69 [h.pv, T]] [] a)
    (hw : W Tryd.prog G0 Tryd.f8 [] [] res (loopAt Tryd.f8 0) (dLR f bn n B (R ++ [a]) (i + 1))) : W Tryd.prog G0 Tryd.f8 [] [] res (loopAt Tryd.f8 0) (if i = 0 then dLR0 f bn n B else dLR f bn n B R i) := by
  obtain ⟨b, k, l, rfl⟩ := hT
  obtain ⟨h', b', k', l', rfl⟩ := ha
  by_cases h0 : i = 0
  · subst h0
    rw [if_pos rfl]
    obtain rfl := List.eq_nil_of_length_eq_zero hl
    refine W.sg 0 [(0, aT), (2, aE g), (7, c0 c1), (11, aV (I6 1))] [(1, 1), (2, 2), (208, 3)] (dLR f bn n B [.st 69 [Hd.pv h', .vec b' (.parr 1 k' .str l')]] 1) [decide (0 < (n:Int)) = true, (0 : Int) ≤ (0 : Int), 0 < (n:Int), _, 0 < n, _, 1 ≤ 1, 0 < 1, 104 ≤ 140737488355328, 1 ≤ 9223372036854775807, I6 (IntKind.wrap .i64 ((0 : Int) + (1 : Int))) = I6 1] (by kernel_rfl) (ac (dT (by omega)) (ac (by omega) (ac (by omega) (ac (ex g) (ac (by omega) (ac (c1) (ac (by omega) (ac (by omega) (ac (by omega) (ac (by omega) (ao (cg (w_i64 rfl (by omega) (by omega)))))))))))))) ?_
    exact hw
  · rw [if_neg h0]
    refine W.sg 0 [(0, aT), (2, aE g), (7, c0 c1), (9, Ans.ups [(3, none), (208, some (Row.mk (PV.parr 69 (i + 1) (Sh.st 69 [hsh, Sh.vec 1 Sh.str]) (R ++ [PV.st 69 [Hd.pv h', PV.vec b' (PV.parr 1 k' Sh.str l')]])) false))]), (11, aV (I6 (↑(i + 1) : Int)))] [(1, 1), (2, 2), (208, 3)] (dLR f bn n B (R ++ [.st 69 [Hd.pv h', .vec b' (.parr 1 k' .str l')]]) (i + 1)) [decide ((i:Int) < (n:Int)) = true, 0 ≤ (i:Int), (i:Int) < (n:Int), _, i < n, _, ([(3, none), (208, some (Row.mk (PV.parr 69 (i + 1) (Sh.st 69 [hsh, Sh.vec 1 Sh.str]) (List.take i R ++ [PV.st 69 [Hd.pv h', PV.vec b' (PV.parr 1 k' Sh.str l')]])) false))] : List (Nat × Option Row)) = [(3, none), (208, some (Row.mk (PV.parr 69 (i + 1) (Sh.st 69 [hsh, Sh.vec 1 Sh.str]) (R ++ [PV.st 69 [Hd.pv h', PV.vec b' (PV.parr 1 k' Sh.str l')]])) false))], 1 ≤ 1, 0 + i = i, (i + 1) * 104 ≤ 140737488355328, i + 1 ≤ 9223372036854775807, I6 (IntKind.wrap .i64 ((i:Int) + 1)) = I6 (↑(i + 1) : Int)] (by kernel_rfl) (ac (dT (by omega)) (ac (by omega) (ac (by omega) (ac (ex g) (ac (by omega) (ac (c1) (ac (by rw [List.take_of_length_le (show List.length R ≤ i by omega)]) (ac (by omega) (ac (by omega) (ac (by omega) (ac (by omega) (ao (cg (w_i64 rfl (by omega) (by omega))))))))))))))) ?_
    exact hw
theorem W_lref {f : List Int} {bn : Bool} {n : Nat} {Bs : List Blk} (hB : Bs.length = n) (hn : n ≤ 100) (hok : ∀ b ∈ Bs, BlkOk b) {res : PV} (c2 : PC Tryd.prog G0 16 [] [.iarr .u8 32 f, rblksPV (decide (n = 0)) n (Bs.map rBlk)] [] res) (hr : ∃ a b c d e k, res = .tup [.st 2 [.vec a (.parr 69 b rbksh c), .vec d (.parr 32 e hsE k)], .int .i64 (PV.num (PV.tupAt 1 res))]) : ∀ (k i : Nat), i + k = n →
    W Tryd.prog G0 Tryd.f8 [] [] res (loopAt Tryd.f8 0) (if i = 0 then dLR0 f bn n (Bs.map Blk.pv) else dLR f bn n (Bs.map Blk.pv) ((Bs.map rBlk).take i) i)
  | 0, i, hk => by
    have hi : i = n := by omega
    subst hi
    rw [List.take_of_length_le (l := Bs.map rBlk) (by rw [List.length_map]; omega)]
    obtain ⟨a, b, c, d, e, k, hr⟩ := hr
    generalize PV.num (PV.tupAt 1 res) = z at *
    subst hr
    have hlm : (Bs.map rBlk).length = i := by rw [List.length_map, hB]
    generalize Bs.map rBlk = R at *
    generalize Bs.map Blk.pv = B at *
    by_cases h0 : i = 0
    · subst h0
      rw [if_pos rfl]
      obtain rfl := List.eq_nil_of_length_eq_zero hlm
      rw [decide_eq_true rfl] at c2
      unfold rblksPV at c2
      refine W.rt [(4, c0 c2)] [] [_] (by kernel_rfl) (ao (c2))
    · rw [if_neg h0]
      rw [decide_eq_false h0] at c2
      unfold rblksPV at c2
      refine W.rt [(0, aF), (4, cL false [] c2)] [] [decide ((i:Int) < (i:Int)) = false, 0 + i ≤ i, rr ([] : List (Nat × Row)), ([B8 32 f, PV.vec false (PV.parr 69 i (Sh.st 69 [hsh, Sh.vec 1 Sh.str]) (List.take i R))] : List PV) = [B8 32 f, PV.vec false (PV.parr 69 i (Sh.st 69 [hsh, Sh.vec 1 Sh.str]) R)], _] (by kernel_rfl) (ac (dF (by omega)) (ac (by omega) (ac rfl (ac (by rw [List.take_of_length_le (show List.length R ≤ i by omega)]) (ao (c2))))))
  | k + 1, i, hk => by
    have hi : i < n := by omega
    have hlt : i < Bs.length := by omega
    have g := blk_get hlt
    have ob := hok _ (blk_mem hlt)
    have ih := W_lref (f := f) (bn := bn) hB hn hok c2 hr k (i + 1) (by omega)
    rw [if_neg (by omega), rblk_take hlt] at ih
    have c1 := pc_lawRef (h := (Bs.getD i default).h) (nl := (Bs.getD i default).nl) ob.t ob.n
    exact W_lr hi hn (by rw [List.length_take, List.length_map]; omega) ⟨_, _, _, rfl⟩ g ⟨_, _, _, _, rfl⟩ c1 ih
theorem pc_depRef {f : List Int} {bn : Bool} {n : Nat} {Bs : List Blk} (hB : Bs.length = n) (hn : n ≤ 100) (hok : ∀ b ∈ Bs, BlkOk b) {res : PV} (c2 : PC Tryd.prog G0 16 [] [.iarr .u8 32 f, rblksPV (decide (n = 0)) n (Bs.map rBlk)] [] res) (hr : ∃ a b c d e k, res = .tup [.st 2 [.vec a (.parr 69 b rbksh c), .vec d (.parr 32 e hsE k)], .int .i64 (PV.num (PV.tupAt 1 res))]) :
    PC Tryd.prog G0 8 [] [casePV f bn n Bs] [] res := by
  refine PC.of (fn := Tryd.f8) (c := bodyOf Tryd.f8) Tryd.func8 (by kernel_rfl) (by kernel_rfl) (by kernel_rfl) (by kernel_rfl) ?_
  have hw := W_lref (f := f) (bn := bn) hB hn hok c2 hr n 0 (by omega)
  rw [if_pos rfl] at hw
  unfold casePV blksPV
  clear c2 hr
  generalize Bs.map Blk.pv = B at *
  refine W.sg 0 [] [(64, 1), (80, 2)] (dLR0 f bn n B) [] (by kernel_rfl) trivial ?_
  exact hw
end Go.Proofs
namespace Go.Proofs
open Go Go.Pe Go.Pm
set_option maxRecDepth 100000
/-- transactions' bytes, of any size -/
structure TxsW (L : List TxM) (n : Nat) : Prop where
  len : L.length = n
  el : ∀ x ∈ L, BsOk x ∧ (x.1 = true → x.2.1 = 0)
theorem TxsW.get {L : List TxM} {n i : Nat} (h : TxsW L n) (hi : i < n) : BsOk (L.getD i default) := by
  have hi' : i < L.length := by rw [h.len]; exact hi
  have : L.getD i default = L[i] := by simp [List.getD_eq_getElem?_getD, hi']
  rw [this]
  exact (h.el _ (List.getElem_mem hi')).1
theorem tx_of {q : PV} (hc : conf (.vec 1 (.int .u8)) q = true) (hw : WF q) : ∃ x : TxM, q = bsPV x ∧ BsOk x ∧ (x.1 = true → x.2.1 = 0) := by
  obtain ⟨nl, n, l, rfl⟩ : ∃ nl n l, q = .vec nl (.iarr .u8 n l) := ⟨_, _, _, (expose_conf _ _ hc).symm⟩
  simp only [WF] at hw
  obtain ⟨⟨h1, h2⟩, _, h3⟩ := hw
  exact ⟨(nl, n, l), rfl, ⟨h1, u8_bytes h2⟩, h3⟩
theorem txs_of : ∀ {l : List PV}, WFL l → (∀ q ∈ l, size q = 1 ∧ conf (.vec 1 (.int .u8)) q = true ∧ noref q = true) → ∃ L : List TxM, l = L.map bsPV ∧ ∀ x ∈ L, BsOk x ∧ (x.1 = true → x.2.1 = 0)
  | [], _, _ => ⟨[], rfl, fun x hx => by cases hx⟩
  | p :: l, hw, hq => by
    simp only [WFL] at hw
    obtain ⟨x, rfl, ho⟩ := tx_of (hq p (by simp)).2.1 hw.1
    obtain ⟨L, rfl, hL⟩ := txs_of hw.2 fun q hh => hq q (by simp [hh])
    refine ⟨x :: L, rfl, fun y hy => ?_⟩
    rcases List.mem_cons.1 hy with rfl | hy
    · exact ho
    · exact hL y hy
theorem txsv_of {p : PV} (hc : conf (.vec 1 (.vec 1 (.int .u8))) p = true) (hw : WF p) : ∃ (nl : Bool) (n : Nat) (L : List TxM), p = txsPV nl n L ∧ TxsW L n := by
  obtain ⟨nl, n, m, rfl⟩ : ∃ nl n m, p = .vec nl (.parr 1 n (.vec 1 (.int .u8)) m) := ⟨_, _, _, (expose_conf _ _ hc).symm⟩
  simp only [WF] at hw
  obtain ⟨⟨h1, h2, h3⟩, _, _⟩ := hw
  obtain ⟨L, rfl, hL⟩ := txs_of h2 h3
  exact ⟨nl, n, L, rfl, ⟨by rw [← h1, List.length_map], hL⟩⟩
theorem blk_of {p : PV} (hc : conf bksh p = true) (hw : WF p) : ∃ (h : Hd) (nl : Bool) (n : Nat) (L : List TxM), p = blkPV h nl n L ∧ h.Ok ∧ TxsW L n := by
  obtain ⟨x, y, rfl, hx, hy⟩ : ∃ x y, p = .st 69 [x, y] ∧ conf hsh x = true ∧ conf (.vec 1 (.vec 1 (.int .u8))) y = true := by
    have e := expose_conf _ _ hc
    obtain ⟨x, y, rfl⟩ : ∃ x y, p = .st 69 [x, y] := ⟨_, _, e.symm⟩
    have h2 : (Nat.beq 69 69 && (conf hsh x && (conf (.vec 1 (.vec 1 (.int .u8))) y && true))) = true := hc
    simp only [Bool.and_eq_true] at h2
    exact ⟨x, y, rfl, h2.2.1, h2.2.2.1⟩
  simp only [WF, WFL] at hw
  obtain ⟨h, rfl, hh⟩ := hd_of hx hw.2.1
  obtain ⟨nl, n, L, rfl, hL⟩ := txsv_of hy hw.2.2.1
  exact ⟨h, nl, n, L, rfl, hh, hL⟩
theorem one_of' {sh : Sh} {ps : List PV} (h : confL [sh] ps = true) : ∃ a, ps = [a] ∧ conf sh a = true := by
  cases ps with
  | nil => simp [confL] at h
  | cons a t => cases t with
    | nil => simp only [confL, Bool.and_true] at h; exact ⟨a, rfl, h⟩
    | cons b t => simp [confL] at h
end Go.Proofs
namespace Go.Proofs
open Go Go.Pe Go.Pm
set_option maxRecDepth 100000
set_option linter.unusedVariables false
structure BlkW (b : Blk) : Prop where
  h : b.h.Ok
  t : TxsW b.L b.n
theorem BlkW.ok {b : Blk} (h : BlkW b) (hg : goodB b = true) : BlkOk b := by
  unfold goodB at hg
  simp only [Bool.and_eq_true, decide_eq_true_eq, List.all_eq_true] at hg
  exact ⟨h.h, ⟨h.t.len, fun x hx => ⟨(h.t.el x hx).1, (h.t.el x hx).2, by have := hg.2 x hx; omega⟩⟩, by omega⟩
theorem fineB_ok {Bs : List Blk} (h : ∀ b ∈ Bs, BlkW b) (hf : fineB Bs = true) : Bs.length ≤ 10 ∧ ∀ b ∈ Bs, BlkOk b := by
  unfold fineB at hf
  simp only [Bool.and_eq_true, decide_eq_true_eq, List.all_eq_true] at hf
  exact ⟨hf.1, fun b hb => (h b hb).ok (hf.2 b hb)⟩
def dDN (n : Nat) (H : List PV) (L : PV) (i : Nat) : DS := ⟨[(5, .at 1 []), (7, .ref 2 [] 32 0 (n + 1)), (61, .int .i64 ((n + 1 : Nat) : Int)), (62, .int .i64 i)], [(1, ⟨.st 2 [L, .vec false (.parr 32 (n + 1) hsE H)], false⟩), (2, ⟨.parr 32 (n + 1) hsE H, false⟩)]⟩
theorem W_dnews {n : Nat} {Hs : List (List Int)} {a : Bool} {m : Nat} {M : List PV} (hH : Hs.length = n + 1) (h32 : ∀ x ∈ Hs, x.length = 32) (hn : n ≤ 100) (ca : PC Tryd.prog G0 6 [] [] [] (.bool true)) : ∀ (k i : Nat), i + k = n + 1 →
    W Tryd.prog G0 Tryd.f3 [] [] (.bool true) (loopAt Tryd.f3 0) (dDN n (Hs.map hv) (.vec a (.parr 69 m rbksh M)) i)
  | 0, i, hk => by
    obtain rfl : i = n + 1 := by omega
    generalize Hs.map hv = H at *
    refine W.rt [(0, aF), (1, c9 ca)] [] [decide ((↑(n + 1) : Int) < (↑(n + 1) : Int)) = false, _] (by kernel_rfl) (ac (dF (by omega)) (ao (ca)))
  | k + 1, i, hk => by
    have hi : i < Hs.length := by omega
    have g : (Hs.map hv).getD i .undef = .iarr .u8 32 (Hs.getD i []) := by simp [List.getD_eq_getElem?_getD, hi, hv]
    have hx : (Hs.getD i []).length = 32 := by
      have : Hs.getD i [] = Hs[i] := by simp [List.getD_eq_getElem?_getD, hi]
      rw [this]; exact h32 _ (List.getElem_mem hi)
    have ih := W_dnews (a := a) (m := m) (M := M) hH h32 hn ca k (i + 1) (by omega)
    generalize Hs.getD i [] = x at *
    generalize Hs.map hv = H at *
    refine W.sg 0 [(0, aT), (5, aV (PV.at 2 [Stp.idx i 32])), (6, aE g), (11, aE g), (12, aF), (13, aV (I6 (↑(i + 1) : Int)))] (rI 2) (dDN n H (.vec a (.parr 69 m rbksh M)) (i + 1)) [decide ((i:Int) < (↑(n + 1) : Int)) = true, PV.at 2 [Stp.idx (0 + i) 32] = PV.at 2 [Stp.idx i 32], 0 ≤ (i:Int), (i:Int) < (↑(n + 1) : Int), _, i < n + 1, 0 ≤ (i:Int), (i:Int) < (↑(n + 1) : Int), _, i < n + 1, (!decide (x = x)) = false, I6 (IntKind.wrap .i64 ((i:Int) + 1)) = I6 (↑(i + 1) : Int)] (by kernel_rfl) (ac (dT (by omega)) (ac (by simp only [Nat.zero_add]) (ac (by omega) (ac (by omega) (ac (ex g) (ac (by omega) (ac (by omega) (ac (by omega) (ac (ex g) (ac (by omega) (ac (by (simp [*]; done)) (ao (cg (w_i64 rfl (by omega) (by omega))))))))))))))) ?_
    exact ih
theorem pc_depotNews {f : List Int} {bn : Bool} {n : Nat} {Bs : List Blk} (hB : Bs.length = n) (hw : ∀ b ∈ Bs, BlkW b) (hf : f.length = 32) : PC Tryd.prog G0 3 [] [casePV f bn n Bs] [] (.bool true) := by
  refine PC.of (fn := Tryd.f3) (c := bodyOf Tryd.f3) Tryd.func3 (by kernel_rfl) (by kernel_rfl) (by kernel_rfl) (by kernel_rfl) ?_
  have c0 := pc_fine (f := f) (bn := bn) hB (fun b hb => (hw b hb).t.len)
  have ca := pc_depAwake
  by_cases hfi : fineB Bs = true
  · obtain ⟨h10, hok⟩ := fineB_ok hw hfi
    rw [hfi] at c0
    rw [hB] at h10
    by_cases he : depE f Bs = 0
    · have c1 := pc_depNew (bn := bn) hB (by omega) hok hf (hout := depRows n f Bs) (res := .tup [.at 1 [], .int .i64 ((0 : Nat) : Int)]) (fun _ => ⟨rfl, rfl⟩) (fun e h1 h2 => absurd (h1.symm.trans he) h2)
      have c2 := pc_rDepNew (nl := decide (n = 0)) hB (by omega) hok hf (res := .tup [rdepPV (rblksPV (decide (n = 0)) n (Bs.map rBlk)) (.vec false (.parr 32 (n + 1) hsE ((depHs f Bs).map hv))), .int .i64 ((0 : Nat) : Int)]) (fun _ => rfl) (fun e h1 h2 => absurd (h1.symm.trans he) h2)
      have c3 := pc_depRef (bn := bn) hB (by omega) hok c2 ⟨_, _, _, _, _, _, rfl⟩
      have hl := depHs_length f Bs
      have hlm : ((depHs f Bs).map hv).length = n + 1 := by rw [List.length_map, hl, hB]
      have hww := W_dnews (n := n) (Hs := depHs f Bs) (a := decide (n = 0)) (m := n) (M := Bs.map rBlk) (by rw [hl, hB]) (fun x hx => by
        unfold depHs at hx
        rcases List.mem_cons.1 hx with rfl | hx
        · exact hf
        · obtain ⟨b, _, rfl⟩ := List.mem_map.1 hx
          exact hhash_length _) (by omega) ca (n + 1) 0 (by omega)
      clear c2
      unfold depRows at c1
      unfold casePV blksPV at *
      unfold rdepPV rblksPV at c3
      generalize (depHs f Bs).map hv = H at *
      generalize Bs.map rBlk = R at *
      generalize Bs.map Blk.pv = B at *
      generalize Bs.map ownB = BM at *
      generalize (depKV f Bs).1.map hv = K at *
      generalize (depKV f Bs).1.length = q at *
      generalize (depKV f Bs).2 = V at *
      generalize decide (n = 0) = z at *
      clear hf hw hB hfi he hok hl
      rcases n with _ | n
      · change PC _ _ _ _ _ (rD0 H q K V) _ at c1
        have c4 := pc_len0 (HM := H) (q := q) (K := K) (V := V)
        have c5 := pc_hashes0 (HM := H) (q := q) (K := K) (V := V) hlm
        unfold rD0 at c1 c4 c5
        refine W.sg 0 [(3, Ans.call true [] [] (PV.bool true)), (9, Ans.call true [] [((1 : Nat), Row.mk (PV.st (3 : Nat) [PV.vec true (PV.parr (69 : Nat) (0 : Nat) (Sh.st (69 : Nat) [Sh.st (68 : Nat) [Sh.int IntKind.u32, Sh.iarr IntKind.u8 (32 : Nat), Sh.iarr IntKind.u8 (32 : Nat), Sh.int IntKind.u32, Sh.int IntKind.u32, Sh.int IntKind.u32], Sh.vec (1 : Nat) (Sh.vec (1 : Nat) (Sh.int IntKind.u8))]) []), PV.ref (3 : Nat) [] (32 : Nat) (0 : Nat) (1 : Nat), PV.fn (1000000 : Nat) (4 : Nat)]) false), ((3 : Nat), Row.mk (PV.parr (32 : Nat) (1 : Nat) (Sh.iarr IntKind.u8 (32 : Nat)) H) false), ((4 : Nat), Row.mk (PV.tup [PV.tup [PV.parr (32 : Nat) q (Sh.iarr IntKind.u8 (32 : Nat)) K, PV.iarr IntKind.i64 q V]]) false)] (PV.tup [PV.at (1 : Nat) [], PV.int IntKind.i64 (↑(0 : Nat) : Int)])), (12, Ans.val (PV.int IntKind.i64 (0 : Int))), (16, Ans.call false [] [] (PV.tup [PV.st (2 : Nat) [PV.vec z (PV.parr (69 : Nat) (0 : Nat) (Sh.st (69 : Nat) [Sh.st (68 : Nat) [Sh.int IntKind.u32, Sh.iarr IntKind.u8 (32 : Nat), Sh.iarr IntKind.u8 (32 : Nat), Sh.int IntKind.u32, Sh.int IntKind.u32, Sh.int IntKind.u32], Sh.vec (1 : Nat) Sh.str]) R), PV.vec false (PV.parr (32 : Nat) (1 : Nat) (Sh.iarr IntKind.u8 (32 : Nat)) H)], PV.int IntKind.i64 (↑(0 : Nat) : Int)])), (19, Ans.val (PV.int IntKind.i64 (0 : Int))), (33, Ans.call true [((209 : Nat), (1 : Nat)), ((211 : Nat), (3 : Nat)), ((212 : Nat), (4 : Nat))] [((1 : Nat), Row.mk (PV.st (3 : Nat) [PV.vec true (PV.parr (69 : Nat) (0 : Nat) (Sh.st (69 : Nat) [Sh.st (68 : Nat) [Sh.int IntKind.u32, Sh.iarr IntKind.u8 (32 : Nat), Sh.iarr IntKind.u8 (32 : Nat), Sh.int IntKind.u32, Sh.int IntKind.u32, Sh.int IntKind.u32], Sh.vec (1 : Nat) (Sh.vec (1 : Nat) (Sh.int IntKind.u8))]) []), PV.ref (3 : Nat) [] (32 : Nat) (0 : Nat) (1 : Nat), PV.fn (1000000 : Nat) (4 : Nat)]) false), ((3 : Nat), Row.mk (PV.parr (32 : Nat) (1 : Nat) (Sh.iarr IntKind.u8 (32 : Nat)) H) false), ((4 : Nat), Row.mk (PV.tup [PV.tup [PV.parr (32 : Nat) q (Sh.iarr IntKind.u8 (32 : Nat)) K, PV.iarr IntKind.i64 q V]]) false)] (PV.int IntKind.i64 (↑(0 : Nat) : Int))), (36, Ans.val (PV.int IntKind.i64 (0 : Int))), (40, Ans.call true [((209 : Nat), (1 : Nat)), ((211 : Nat), (3 : Nat)), ((212 : Nat), (4 : Nat))] [((1 : Nat), Row.mk (PV.st (3 : Nat) [PV.vec true (PV.parr (69 : Nat) (0 : Nat) (Sh.st (69 : Nat) [Sh.st (68 : Nat) [Sh.int IntKind.u32, Sh.iarr IntKind.u8 (32 : Nat), Sh.iarr IntKind.u8 (32 : Nat), Sh.int IntKind.u32, Sh.int IntKind.u32, Sh.int IntKind.u32], Sh.vec (1 : Nat) (Sh.vec (1 : Nat) (Sh.int IntKind.u8))]) []), PV.ref (3 : Nat) [] (32 : Nat) (0 : Nat) (1 : Nat), PV.fn (1000000 : Nat) (4 : Nat)]) false), ((3 : Nat), Row.mk (PV.parr (32 : Nat) (1 : Nat) (Sh.iarr IntKind.u8 (32 : Nat)) H) false), ((4 : Nat), Row.mk (PV.tup [PV.tup [PV.parr (32 : Nat) q (Sh.iarr IntKind.u8 (32 : Nat)) K, PV.iarr IntKind.i64 q V]]) false), ((5 : Nat), Row.mk (PV.parr (32 : Nat) (1 : Nat) (Sh.iarr IntKind.u8 (32 : Nat)) H) false)] (PV.ref (5 : Nat) [] (32 : Nat) (0 : Nat) (1 : Nat))), (43, Ans.val (PV.int IntKind.i64 (1 : Int))), (46, Ans.val (PV.int IntKind.i64 (1 : Int))), (49, Ans.val (PV.int IntKind.i64 (1 : Int)))] [((384 : Nat), (1 : Nat)), ((709 : Nat), (2 : Nat))] (dDN (0 : Nat) H (PV.vec z (PV.parr (69 : Nat) (0 : Nat) rbksh R)) (0 : Nat)) [PC Tryd.prog G0 (5 : Nat) [] [PV.st (33 : Nat) [PV.iarr IntKind.u8 (32 : Nat) f, PV.vec bn (PV.parr (69 : Nat) (0 : Nat) (Sh.st (69 : Nat) [Sh.st (68 : Nat) [Sh.int IntKind.u32, Sh.iarr IntKind.u8 (32 : Nat), Sh.iarr IntKind.u8 (32 : Nat), Sh.int IntKind.u32, Sh.int IntKind.u32, Sh.int IntKind.u32], Sh.vec (1 : Nat) (Sh.vec (1 : Nat) (Sh.int IntKind.u8))]) B)]] [] (PV.bool true), PC Tryd.prog G0 (7 : Nat) [] [PV.iarr IntKind.u8 (32 : Nat) f, PV.vec bn (PV.parr (69 : Nat) (0 : Nat) (Sh.st (69 : Nat) [Sh.st (68 : Nat) [Sh.int IntKind.u32, Sh.iarr IntKind.u8 (32 : Nat), Sh.iarr IntKind.u8 (32 : Nat), Sh.int IntKind.u32, Sh.int IntKind.u32, Sh.int IntKind.u32], Sh.vec (1 : Nat) (Sh.vec (1 : Nat) (Sh.int IntKind.u8))]) B)] [((1 : Nat), Row.mk (PV.st (3 : Nat) [PV.vec true (PV.parr (69 : Nat) (0 : Nat) (Sh.st (69 : Nat) [Sh.st (68 : Nat) [Sh.int IntKind.u32, Sh.iarr IntKind.u8 (32 : Nat), Sh.iarr IntKind.u8 (32 : Nat), Sh.int IntKind.u32, Sh.int IntKind.u32, Sh.int IntKind.u32], Sh.vec (1 : Nat) (Sh.vec (1 : Nat) (Sh.int IntKind.u8))]) []), PV.ref (3 : Nat) [] (32 : Nat) (0 : Nat) (1 : Nat), PV.fn (1000000 : Nat) (4 : Nat)]) false), ((3 : Nat), Row.mk (PV.parr (32 : Nat) (1 : Nat) (Sh.iarr IntKind.u8 (32 : Nat)) H) false), ((4 : Nat), Row.mk (PV.tup [PV.tup [PV.parr (32 : Nat) q (Sh.iarr IntKind.u8 (32 : Nat)) K, PV.iarr IntKind.i64 q V]]) false)] (PV.tup [PV.at (1 : Nat) [], PV.int IntKind.i64 (↑(0 : Nat) : Int)]), PV.int IntKind.i64 (↑(0 : Nat) : Int) = PV.int IntKind.i64 (0 : Int), PC Tryd.prog G0 (8 : Nat) [] [PV.st (33 : Nat) [PV.iarr IntKind.u8 (32 : Nat) f, PV.vec bn (PV.parr (69 : Nat) (0 : Nat) (Sh.st (69 : Nat) [Sh.st (68 : Nat) [Sh.int IntKind.u32, Sh.iarr IntKind.u8 (32 : Nat), Sh.iarr IntKind.u8 (32 : Nat), Sh.int IntKind.u32, Sh.int IntKind.u32, Sh.int IntKind.u32], Sh.vec (1 : Nat) (Sh.vec (1 : Nat) (Sh.int IntKind.u8))]) B)]] [] (PV.tup [PV.st (2 : Nat) [PV.vec z (PV.parr (69 : Nat) (0 : Nat) (Sh.st (69 : Nat) [Sh.st (68 : Nat) [Sh.int IntKind.u32, Sh.iarr IntKind.u8 (32 : Nat), Sh.iarr IntKind.u8 (32 : Nat), Sh.int IntKind.u32, Sh.int IntKind.u32, Sh.int IntKind.u32], Sh.vec (1 : Nat) Sh.str]) R), PV.vec false (PV.parr (32 : Nat) (1 : Nat) (Sh.iarr IntKind.u8 (32 : Nat)) H)], PV.int IntKind.i64 (↑(0 : Nat) : Int)]), PV.int IntKind.i64 (↑(0 : Nat) : Int) = PV.int IntKind.i64 (0 : Int), PC Tryd.prog G0 (9 : Nat) [((1 : Nat), Row.mk (PV.st (3 : Nat) [PV.vec true (PV.parr (69 : Nat) (0 : Nat) (Sh.st (69 : Nat) [Sh.st (68 : Nat) [Sh.int IntKind.u32, Sh.iarr IntKind.u8 (32 : Nat), Sh.iarr IntKind.u8 (32 : Nat), Sh.int IntKind.u32, Sh.int IntKind.u32, Sh.int IntKind.u32], Sh.vec (1 : Nat) (Sh.vec (1 : Nat) (Sh.int IntKind.u8))]) []), PV.ref (3 : Nat) [] (32 : Nat) (0 : Nat) (1 : Nat), PV.fn (1000000 : Nat) (4 : Nat)]) false), ((3 : Nat), Row.mk (PV.parr (32 : Nat) (1 : Nat) (Sh.iarr IntKind.u8 (32 : Nat)) H) false), ((4 : Nat), Row.mk (PV.tup [PV.tup [PV.parr (32 : Nat) q (Sh.iarr IntKind.u8 (32 : Nat)) K, PV.iarr IntKind.i64 q V]]) false)] [PV.at (1 : Nat) []] [((1 : Nat), Row.mk (PV.st (3 : Nat) [PV.vec true (PV.parr (69 : Nat) (0 : Nat) (Sh.st (69 : Nat) [Sh.st (68 : Nat) [Sh.int IntKind.u32, Sh.iarr IntKind.u8 (32 : Nat), Sh.iarr IntKind.u8 (32 : Nat), Sh.int IntKind.u32, Sh.int IntKind.u32, Sh.int IntKind.u32], Sh.vec (1 : Nat) (Sh.vec (1 : Nat) (Sh.int IntKind.u8))]) []), PV.ref (3 : Nat) [] (32 : Nat) (0 : Nat) (1 : Nat), PV.fn (1000000 : Nat) (4 : Nat)]) false), ((3 : Nat), Row.mk (PV.parr (32 : Nat) (1 : Nat) (Sh.iarr IntKind.u8 (32 : Nat)) H) false), ((4 : Nat), Row.mk (PV.tup [PV.tup [PV.parr (32 : Nat) q (Sh.iarr IntKind.u8 (32 : Nat)) K, PV.iarr IntKind.i64 q V]]) false)] (PV.int IntKind.i64 (↑(0 : Nat) : Int)), PV.int IntKind.i64 (↑(0 : Nat) : Int) = PV.int IntKind.i64 (0 : Int), PC Tryd.prog G0 (10 : Nat) [((1 : Nat), Row.mk (PV.st (3 : Nat) [PV.vec true (PV.parr (69 : Nat) (0 : Nat) (Sh.st (69 : Nat) [Sh.st (68 : Nat) [Sh.int IntKind.u32, Sh.iarr IntKind.u8 (32 : Nat), Sh.iarr IntKind.u8 (32 : Nat), Sh.int IntKind.u32, Sh.int IntKind.u32, Sh.int IntKind.u32], Sh.vec (1 : Nat) (Sh.vec (1 : Nat) (Sh.int IntKind.u8))]) []), PV.ref (3 : Nat) [] (32 : Nat) (0 : Nat) (1 : Nat), PV.fn (1000000 : Nat) (4 : Nat)]) false), ((3 : Nat), Row.mk (PV.parr (32 : Nat) (1 : Nat) (Sh.iarr IntKind.u8 (32 : Nat)) H) false), ((4 : Nat), Row.mk (PV.tup [PV.tup [PV.parr (32 : Nat) q (Sh.iarr IntKind.u8 (32 : Nat)) K, PV.iarr IntKind.i64 q V]]) false)] [PV.at (1 : Nat) []] [((1 : Nat), Row.mk (PV.st (3 : Nat) [PV.vec true (PV.parr (69 : Nat) (0 : Nat) (Sh.st (69 : Nat) [Sh.st (68 : Nat) [Sh.int IntKind.u32, Sh.iarr IntKind.u8 (32 : Nat), Sh.iarr IntKind.u8 (32 : Nat), Sh.int IntKind.u32, Sh.int IntKind.u32, Sh.int IntKind.u32], Sh.vec (1 : Nat) (Sh.vec (1 : Nat) (Sh.int IntKind.u8))]) []), PV.ref (3 : Nat) [] (32 : Nat) (0 : Nat) (1 : Nat), PV.fn (1000000 : Nat) (4 : Nat)]) false), ((3 : Nat), Row.mk (PV.parr (32 : Nat) (1 : Nat) (Sh.iarr IntKind.u8 (32 : Nat)) H) false), ((4 : Nat), Row.mk (PV.tup [PV.tup [PV.parr (32 : Nat) q (Sh.iarr IntKind.u8 (32 : Nat)) K, PV.iarr IntKind.i64 q V]]) false), ((5 : Nat), Row.mk (PV.parr (32 : Nat) (1 : Nat) (Sh.iarr IntKind.u8 (32 : Nat)) H) false)] (PV.ref (5 : Nat) [] (32 : Nat) (0 : Nat) (1 : Nat)), PV.int IntKind.i64 (↑(1 : Nat) : Int) = PV.int IntKind.i64 (1 : Int), PV.int IntKind.i64 (↑(1 : Nat) : Int) = PV.int IntKind.i64 (1 : Int), PV.int IntKind.i64 (↑(1 : Nat) : Int) = PV.int IntKind.i64 (1 : Int)] (by kernel_rfl) (ac (by exact c0) (ac (by exact c1) (ac (by exact congrArg (PV.int _) (by omega)) (ac (by exact c3) (ac (by exact congrArg (PV.int _) (by omega)) (ac (by exact c4) (ac (by exact congrArg (PV.int _) (by omega)) (ac (by exact c5) (ac (by exact congrArg (PV.int _) (by omega)) (ac (by exact congrArg (PV.int _) (by omega)) (ao (by exact congrArg (PV.int _) (by omega))))))))))))) ?_
        exact hww
      · change PC _ _ _ _ _ (rD1 (n + 1) BM H q K V) _ at c1
        have c4 := pc_len1 (n := n + 1) (BM := BM) (HM := H) (q := q) (K := K) (V := V)
        have c5 := pc_hashes1 (n := n + 1) (BM := BM) (HM := H) (q := q) (K := K) (V := V) hlm (by omega)
        unfold rD1 at c1 c4 c5
        refine W.sg 0 [(3, Ans.call true [] [] (PV.bool true)), (9, Ans.call false [] [((1 : Nat), Row.mk (PV.st (3 : Nat) [PV.ref (2 : Nat) [] (69 : Nat) (0 : Nat) (n + (1 : Nat)), PV.ref (3 : Nat) [] (32 : Nat) (0 : Nat) (n + (1 : Nat) + (1 : Nat)), PV.fn (1000000 : Nat) (4 : Nat)]) false), ((2 : Nat), Row.mk (PV.parr (69 : Nat) (n + (1 : Nat)) (Sh.st (69 : Nat) [Sh.st (68 : Nat) [Sh.int IntKind.u32, Sh.iarr IntKind.u8 (32 : Nat), Sh.iarr IntKind.u8 (32 : Nat), Sh.int IntKind.u32, Sh.int IntKind.u32, Sh.int IntKind.u32], Sh.vec (1 : Nat) (Sh.vec (1 : Nat) (Sh.int IntKind.u8))]) BM) false), ((3 : Nat), Row.mk (PV.parr (32 : Nat) (n + (1 : Nat) + (1 : Nat)) (Sh.iarr IntKind.u8 (32 : Nat)) H) false), ((4 : Nat), Row.mk (PV.tup [PV.tup [PV.parr (32 : Nat) q (Sh.iarr IntKind.u8 (32 : Nat)) K, PV.iarr IntKind.i64 q V]]) false)] (PV.tup [PV.at (1 : Nat) [], PV.int IntKind.i64 (↑(0 : Nat) : Int)])), (12, Ans.val (PV.int IntKind.i64 (0 : Int))), (16, Ans.call false [] [] (PV.tup [PV.st (2 : Nat) [PV.vec z (PV.parr (69 : Nat) (n + (1 : Nat)) (Sh.st (69 : Nat) [Sh.st (68 : Nat) [Sh.int IntKind.u32, Sh.iarr IntKind.u8 (32 : Nat), Sh.iarr IntKind.u8 (32 : Nat), Sh.int IntKind.u32, Sh.int IntKind.u32, Sh.int IntKind.u32], Sh.vec (1 : Nat) Sh.str]) R), PV.vec false (PV.parr (32 : Nat) (n + (1 : Nat) + (1 : Nat)) (Sh.iarr IntKind.u8 (32 : Nat)) H)], PV.int IntKind.i64 (↑(0 : Nat) : Int)])), (19, Ans.val (PV.int IntKind.i64 (0 : Int))), (33, Ans.call false [((209 : Nat), (1 : Nat)), ((210 : Nat), (2 : Nat)), ((211 : Nat), (3 : Nat)), ((212 : Nat), (4 : Nat))] [((1 : Nat), Row.mk (PV.st (3 : Nat) [PV.ref (2 : Nat) [] (69 : Nat) (0 : Nat) (n + (1 : Nat)), PV.ref (3 : Nat) [] (32 : Nat) (0 : Nat) (n + (1 : Nat) + (1 : Nat)), PV.fn (1000000 : Nat) (4 : Nat)]) false), ((2 : Nat), Row.mk (PV.parr (69 : Nat) (n + (1 : Nat)) (Sh.st (69 : Nat) [Sh.st (68 : Nat) [Sh.int IntKind.u32, Sh.iarr IntKind.u8 (32 : Nat), Sh.iarr IntKind.u8 (32 : Nat), Sh.int IntKind.u32, Sh.int IntKind.u32, Sh.int IntKind.u32], Sh.vec (1 : Nat) (Sh.vec (1 : Nat) (Sh.int IntKind.u8))]) BM) false), ((3 : Nat), Row.mk (PV.parr (32 : Nat) (n + (1 : Nat) + (1 : Nat)) (Sh.iarr IntKind.u8 (32 : Nat)) H) false), ((4 : Nat), Row.mk (PV.tup [PV.tup [PV.parr (32 : Nat) q (Sh.iarr IntKind.u8 (32 : Nat)) K, PV.iarr IntKind.i64 q V]]) false)] (PV.int IntKind.i64 (↑(n + (1 : Nat)) : Int))), (37, Ans.dec false), (40, Ans.call false [((209 : Nat), (1 : Nat)), ((210 : Nat), (2 : Nat)), ((211 : Nat), (3 : Nat)), ((212 : Nat), (4 : Nat))] [((1 : Nat), Row.mk (PV.st (3 : Nat) [PV.ref (2 : Nat) [] (69 : Nat) (0 : Nat) (n + (1 : Nat)), PV.ref (3 : Nat) [] (32 : Nat) (0 : Nat) (n + (1 : Nat) + (1 : Nat)), PV.fn (1000000 : Nat) (4 : Nat)]) false), ((2 : Nat), Row.mk (PV.parr (69 : Nat) (n + (1 : Nat)) (Sh.st (69 : Nat) [Sh.st (68 : Nat) [Sh.int IntKind.u32, Sh.iarr IntKind.u8 (32 : Nat), Sh.iarr IntKind.u8 (32 : Nat), Sh.int IntKind.u32, Sh.int IntKind.u32, Sh.int IntKind.u32], Sh.vec (1 : Nat) (Sh.vec (1 : Nat) (Sh.int IntKind.u8))]) BM) false), ((3 : Nat), Row.mk (PV.parr (32 : Nat) (n + (1 : Nat) + (1 : Nat)) (Sh.iarr IntKind.u8 (32 : Nat)) H) false), ((4 : Nat), Row.mk (PV.tup [PV.tup [PV.parr (32 : Nat) q (Sh.iarr IntKind.u8 (32 : Nat)) K, PV.iarr IntKind.i64 q V]]) false), ((5 : Nat), Row.mk (PV.parr (32 : Nat) (n + (1 : Nat) + (1 : Nat)) (Sh.iarr IntKind.u8 (32 : Nat)) H) false)] (PV.ref (5 : Nat) [] (32 : Nat) (0 : Nat) (n + (1 : Nat) + (1 : Nat)))), (43, Ans.val (PV.int IntKind.i64 (↑(n + (2 : Nat)) : Int))), (46, Ans.val (PV.int IntKind.i64 (↑(n + (2 : Nat)) : Int))), (47, Ans.dec false), (49, Ans.val (PV.int IntKind.i64 (↑(n + (2 : Nat)) : Int)))] [((384 : Nat), (1 : Nat)), ((709 : Nat), (2 : Nat))] (dDN (n + (1 : Nat)) H (PV.vec z (PV.parr (69 : Nat) (n + (1 : Nat)) rbksh R)) (0 : Nat)) [PC Tryd.prog G0 (5 : Nat) [] [PV.st (33 : Nat) [PV.iarr IntKind.u8 (32 : Nat) f, PV.vec bn (PV.parr (69 : Nat) (n + (1 : Nat)) (Sh.st (69 : Nat) [Sh.st (68 : Nat) [Sh.int IntKind.u32, Sh.iarr IntKind.u8 (32 : Nat), Sh.iarr IntKind.u8 (32 : Nat), Sh.int IntKind.u32, Sh.int IntKind.u32, Sh.int IntKind.u32], Sh.vec (1 : Nat) (Sh.vec (1 : Nat) (Sh.int IntKind.u8))]) B)]] [] (PV.bool true), PC Tryd.prog G0 (7 : Nat) [] [PV.iarr IntKind.u8 (32 : Nat) f, PV.vec bn (PV.parr (69 : Nat) (n + (1 : Nat)) (Sh.st (69 : Nat) [Sh.st (68 : Nat) [Sh.int IntKind.u32, Sh.iarr IntKind.u8 (32 : Nat), Sh.iarr IntKind.u8 (32 : Nat), Sh.int IntKind.u32, Sh.int IntKind.u32, Sh.int IntKind.u32], Sh.vec (1 : Nat) (Sh.vec (1 : Nat) (Sh.int IntKind.u8))]) B)] [((1 : Nat), Row.mk (PV.st (3 : Nat) [PV.ref (2 : Nat) [] (69 : Nat) (0 : Nat) (n + (1 : Nat)), PV.ref (3 : Nat) [] (32 : Nat) (0 : Nat) (n + (1 : Nat) + (1 : Nat)), PV.fn (1000000 : Nat) (4 : Nat)]) false), ((2 : Nat), Row.mk (PV.parr (69 : Nat) (n + (1 : Nat)) (Sh.st (69 : Nat) [Sh.st (68 : Nat) [Sh.int IntKind.u32, Sh.iarr IntKind.u8 (32 : Nat), Sh.iarr IntKind.u8 (32 : Nat), Sh.int IntKind.u32, Sh.int IntKind.u32, Sh.int IntKind.u32], Sh.vec (1 : Nat) (Sh.vec (1 : Nat) (Sh.int IntKind.u8))]) BM) false), ((3 : Nat), Row.mk (PV.parr (32 : Nat) (n + (1 : Nat) + (1 : Nat)) (Sh.iarr IntKind.u8 (32 : Nat)) H) false), ((4 : Nat), Row.mk (PV.tup [PV.tup [PV.parr (32 : Nat) q (Sh.iarr IntKind.u8 (32 : Nat)) K, PV.iarr IntKind.i64 q V]]) false)] (PV.tup [PV.at (1 : Nat) [], PV.int IntKind.i64 (↑(0 : Nat) : Int)]), PV.int IntKind.i64 (↑(0 : Nat) : Int) = PV.int IntKind.i64 (0 : Int), PC Tryd.prog G0 (8 : Nat) [] [PV.st (33 : Nat) [PV.iarr IntKind.u8 (32 : Nat) f, PV.vec bn (PV.parr (69 : Nat) (n + (1 : Nat)) (Sh.st (69 : Nat) [Sh.st (68 : Nat) [Sh.int IntKind.u32, Sh.iarr IntKind.u8 (32 : Nat), Sh.iarr IntKind.u8 (32 : Nat), Sh.int IntKind.u32, Sh.int IntKind.u32, Sh.int IntKind.u32], Sh.vec (1 : Nat) (Sh.vec (1 : Nat) (Sh.int IntKind.u8))]) B)]] [] (PV.tup [PV.st (2 : Nat) [PV.vec z (PV.parr (69 : Nat) (n + (1 : Nat)) (Sh.st (69 : Nat) [Sh.st (68 : Nat) [Sh.int IntKind.u32, Sh.iarr IntKind.u8 (32 : Nat), Sh.iarr IntKind.u8 (32 : Nat), Sh.int IntKind.u32, Sh.int IntKind.u32, Sh.int IntKind.u32], Sh.vec (1 : Nat) Sh.str]) R), PV.vec false (PV.parr (32 : Nat) (n + (1 : Nat) + (1 : Nat)) (Sh.iarr IntKind.u8 (32 : Nat)) H)], PV.int IntKind.i64 (↑(0 : Nat) : Int)]), PV.int IntKind.i64 (↑(0 : Nat) : Int) = PV.int IntKind.i64 (0 : Int), PC Tryd.prog G0 (9 : Nat) [((1 : Nat), Row.mk (PV.st (3 : Nat) [PV.ref (2 : Nat) [] (69 : Nat) (0 : Nat) (n + (1 : Nat)), PV.ref (3 : Nat) [] (32 : Nat) (0 : Nat) (n + (1 : Nat) + (1 : Nat)), PV.fn (1000000 : Nat) (4 : Nat)]) false), ((2 : Nat), Row.mk (PV.parr (69 : Nat) (n + (1 : Nat)) (Sh.st (69 : Nat) [Sh.st (68 : Nat) [Sh.int IntKind.u32, Sh.iarr IntKind.u8 (32 : Nat), Sh.iarr IntKind.u8 (32 : Nat), Sh.int IntKind.u32, Sh.int IntKind.u32, Sh.int IntKind.u32], Sh.vec (1 : Nat) (Sh.vec (1 : Nat) (Sh.int IntKind.u8))]) BM) false), ((3 : Nat), Row.mk (PV.parr (32 : Nat) (n + (1 : Nat) + (1 : Nat)) (Sh.iarr IntKind.u8 (32 : Nat)) H) false), ((4 : Nat), Row.mk (PV.tup [PV.tup [PV.parr (32 : Nat) q (Sh.iarr IntKind.u8 (32 : Nat)) K, PV.iarr IntKind.i64 q V]]) false)] [PV.at (1 : Nat) []] [((1 : Nat), Row.mk (PV.st (3 : Nat) [PV.ref (2 : Nat) [] (69 : Nat) (0 : Nat) (n + (1 : Nat)), PV.ref (3 : Nat) [] (32 : Nat) (0 : Nat) (n + (1 : Nat) + (1 : Nat)), PV.fn (1000000 : Nat) (4 : Nat)]) false), ((2 : Nat), Row.mk (PV.parr (69 : Nat) (n + (1 : Nat)) (Sh.st (69 : Nat) [Sh.st (68 : Nat) [Sh.int IntKind.u32, Sh.iarr IntKind.u8 (32 : Nat), Sh.iarr IntKind.u8 (32 : Nat), Sh.int IntKind.u32, Sh.int IntKind.u32, Sh.int IntKind.u32], Sh.vec (1 : Nat) (Sh.vec (1 : Nat) (Sh.int IntKind.u8))]) BM) false), ((3 : Nat), Row.mk (PV.parr (32 : Nat) (n + (1 : Nat) + (1 : Nat)) (Sh.iarr IntKind.u8 (32 : Nat)) H) false), ((4 : Nat), Row.mk (PV.tup [PV.tup [PV.parr (32 : Nat) q (Sh.iarr IntKind.u8 (32 : Nat)) K, PV.iarr IntKind.i64 q V]]) false)] (PV.int IntKind.i64 (↑(n + (1 : Nat)) : Int)), ((↑(n + (1 : Nat)) : Int) != (↑(n + (1 : Nat)) : Int)) = false, PC Tryd.prog G0 (10 : Nat) [((1 : Nat), Row.mk (PV.st (3 : Nat) [PV.ref (2 : Nat) [] (69 : Nat) (0 : Nat) (n + (1 : Nat)), PV.ref (3 : Nat) [] (32 : Nat) (0 : Nat) (n + (1 : Nat) + (1 : Nat)), PV.fn (1000000 : Nat) (4 : Nat)]) false), ((2 : Nat), Row.mk (PV.parr (69 : Nat) (n + (1 : Nat)) (Sh.st (69 : Nat) [Sh.st (68 : Nat) [Sh.int IntKind.u32, Sh.iarr IntKind.u8 (32 : Nat), Sh.iarr IntKind.u8 (32 : Nat), Sh.int IntKind.u32, Sh.int IntKind.u32, Sh.int IntKind.u32], Sh.vec (1 : Nat) (Sh.vec (1 : Nat) (Sh.int IntKind.u8))]) BM) false), ((3 : Nat), Row.mk (PV.parr (32 : Nat) (n + (1 : Nat) + (1 : Nat)) (Sh.iarr IntKind.u8 (32 : Nat)) H) false), ((4 : Nat), Row.mk (PV.tup [PV.tup [PV.parr (32 : Nat) q (Sh.iarr IntKind.u8 (32 : Nat)) K, PV.iarr IntKind.i64 q V]]) false)] [PV.at (1 : Nat) []] [((1 : Nat), Row.mk (PV.st (3 : Nat) [PV.ref (2 : Nat) [] (69 : Nat) (0 : Nat) (n + (1 : Nat)), PV.ref (3 : Nat) [] (32 : Nat) (0 : Nat) (n + (1 : Nat) + (1 : Nat)), PV.fn (1000000 : Nat) (4 : Nat)]) false), ((2 : Nat), Row.mk (PV.parr (69 : Nat) (n + (1 : Nat)) (Sh.st (69 : Nat) [Sh.st (68 : Nat) [Sh.int IntKind.u32, Sh.iarr IntKind.u8 (32 : Nat), Sh.iarr IntKind.u8 (32 : Nat), Sh.int IntKind.u32, Sh.int IntKind.u32, Sh.int IntKind.u32], Sh.vec (1 : Nat) (Sh.vec (1 : Nat) (Sh.int IntKind.u8))]) BM) false), ((3 : Nat), Row.mk (PV.parr (32 : Nat) (n + (1 : Nat) + (1 : Nat)) (Sh.iarr IntKind.u8 (32 : Nat)) H) false), ((4 : Nat), Row.mk (PV.tup [PV.tup [PV.parr (32 : Nat) q (Sh.iarr IntKind.u8 (32 : Nat)) K, PV.iarr IntKind.i64 q V]]) false), ((5 : Nat), Row.mk (PV.parr (32 : Nat) (n + (1 : Nat) + (1 : Nat)) (Sh.iarr IntKind.u8 (32 : Nat)) H) false)] (PV.ref (5 : Nat) [] (32 : Nat) (0 : Nat) (n + (1 : Nat) + (1 : Nat))), PV.int IntKind.i64 (↑(n + (1 : Nat) + (1 : Nat)) : Int) = PV.int IntKind.i64 (↑(n + (2 : Nat)) : Int), PV.int IntKind.i64 (↑(n + (1 : Nat) + (1 : Nat)) : Int) = PV.int IntKind.i64 (↑(n + (2 : Nat)) : Int), ((↑(n + (2 : Nat)) : Int) != (↑(n + (2 : Nat)) : Int)) = false, PV.int IntKind.i64 (↑(n + (1 : Nat) + (1 : Nat)) : Int) = PV.int IntKind.i64 (↑(n + (2 : Nat)) : Int)] (by kernel_rfl) (ac (by exact c0) (ac (by exact c1) (ac (by exact congrArg (PV.int _) (by omega)) (ac (by exact c3) (ac (by exact congrArg (PV.int _) (by omega)) (ac (by exact c4) (ac (by exact bne_eq_false_iff_eq.2 (by omega)) (ac (by exact c5) (ac (by exact congrArg (PV.int _) (by omega)) (ac (by exact congrArg (PV.int _) (by omega)) (ac (by exact bne_eq_false_iff_eq.2 (by omega)) (ao (by exact congrArg (PV.int _) (by omega)))))))))))))) ?_
        exact hww
    · have c1 := pc_depNew (bn := bn) hB (by omega) hok hf (hout := []) (res := .tup [.nilp, .int .i64 (depE f Bs)]) (fun h => absurd h he) (fun e h1 h2 => ⟨rfl, by rw [h1]⟩)
      have c2 := pc_rDepNew (nl := decide (n = 0)) hB (by omega) hok hf (res := .tup [zdep, .int .i64 (depE f Bs)]) (fun h => absurd h he) (fun e h1 h2 => by rw [h1])
      have c3 := pc_depRef (bn := bn) hB (by omega) hok c2 ⟨_, _, _, _, _, _, rfl⟩
      clear c2
      have hne : ¬ ((depE f Bs : Int) = 0) := by omega
      unfold casePV blksPV zdep at *
      generalize Bs.map Blk.pv = B at *
      generalize depE f Bs = e at *
      refine W.rt [(3, c9 c0), (9, c9 c1), (16, c9 c3), (24, aT), (27, aT), (33, c9 ca)] [] [_, _, _, ((e:Int) != 0) = true, ((e:Int) == (e:Int)) = true, _] (by kernel_rfl) (ac (c0) (ac (c1) (ac (c3) (ac (bne_iff_ne.2 (by omega)) (ac (dT (by omega)) (ao (ca)))))))
  · have hfi' : fineB Bs = false := by simpa using hfi
    rw [hfi'] at c0
    unfold casePV blksPV at *
    generalize Bs.map Blk.pv = B at *
    refine W.rt [(3, c9 c0), (5, c9 ca)] [] [_, _] (by kernel_rfl) (ac (c0) (ao (ca)))
end Go.Proofs
namespace Go.Proofs
open Go Go.Pe Go.Pm
set_option maxRecDepth 100000
theorem blks_of : ∀ {l : List PV}, WFL l → (∀ q ∈ l, size q = 69 ∧ conf bksh q = true ∧ noref q = true) → ∃ Bs : List Blk, l = Bs.map Blk.pv ∧ ∀ b ∈ Bs, BlkW b
  | [], _, _ => ⟨[], rfl, fun x hx => by cases hx⟩
  | p :: l, hw, hq => by
    simp only [WFL] at hw
    obtain ⟨h, nl, n, L, rfl, hh, hL⟩ := blk_of (hq p (by simp)).2.1 hw.1
    obtain ⟨Bs, rfl, hB⟩ := blks_of hw.2 fun q hh => hq q (by simp [hh])
    refine ⟨⟨h, nl, n, L⟩ :: Bs, rfl, fun b hb => ?_⟩
    rcases List.mem_cons.1 hb with rfl | hb
    · exact ⟨hh, hL⟩
    · exact hB b hb
def cassh : Sh := .st 33 [.iarr .u8 32, .vec 69 bksh]
theorem case_of {p : PV} (hc : conf cassh p = true) (hw : WF p) : ∃ (f : List Int) (bn : Bool) (n : Nat) (Bs : List Blk), p = casePV f bn n Bs ∧ f.length = 32 ∧ Bs.length = n ∧ ∀ b ∈ Bs, BlkW b := by
  obtain ⟨f, bn, n, m, rfl⟩ : ∃ f bn n m, p = .st 33 [.iarr .u8 32 f, .vec bn (.parr 69 n bksh m)] := ⟨_, _, _, _, (expose_conf _ _ hc).symm⟩
  simp only [WF, WFL] at hw
  obtain ⟨_, ⟨h1, _⟩, ⟨⟨h2, h3, h4⟩, _, _⟩, _⟩ := hw
  obtain ⟨Bs, rfl, hB⟩ := blks_of h3 h4
  exact ⟨f, bn, n, Bs, rfl, h1, by rw [← h2, List.length_map], hB⟩
end Go.Proofs
namespace Go.Pe
def laysB (P : Program) (tot : Nat) : Nat → List Field → Bool
  | o, [] => Nat.beq o tot
  | o, f :: l => Nat.beq f.offset o && laysB P tot (o + P.cellsOf f.type) l
def okT (P : Program) : Nat → TypeId → Bool
  | 0, _ => false
  | d + 1, t => match P.underlying t with
    | some .bool | some (.int _) | some .string => Nat.beq (P.cellsOf t) 1
    | some (.struct fs) => laysB P (P.cellsOf t) 0 fs.toList && fs.toList.all fun f => okT P d f.type
    | some (.array n e) => Nat.beq (P.cellsOf t) (n * P.cellsOf e) && szOk P e && okT P d e
    | some (.slice e) => Nat.beq (P.cellsOf t) 1 && szOk P e && okT P d e
    | _ => false
theorem same_refl (k : IntKind) : IntKind.same k k = true := by cases k <;> rfl
theorem beq_refl (s : Sh) : Sh.beq s s = true :=
  Sh.rec (motive_1 := fun s => Sh.beq s s = true) (motive_2 := fun l => Sh.beqL l l = true) rfl same_refl rfl rfl (fun _ _ ih => by simp only [Sh.beq, Bool.and_eq_true]; exact ⟨Nat.beq_refl _, ih⟩)
    (fun k _ => by simp only [Sh.beq, Bool.and_eq_true]; exact ⟨same_refl k, Nat.beq_refl _⟩) (fun _ _ _ ih => by simp only [Sh.beq, Bool.and_eq_true]; exact ⟨⟨Nat.beq_refl _, Nat.beq_refl _⟩, ih⟩)
    (fun _ _ ih => by simp only [Sh.beq, Bool.and_eq_true]; exact ⟨Nat.beq_refl _, ih⟩) rfl (fun _ _ h1 h2 => by simp only [Sh.beqL, Bool.and_eq_true]; exact ⟨h1, h2⟩) s
structure Opens (P : Program) (w : World) (T : T2) (d : Nat) (t : TypeId) (cs : List Value) (p : PV) : Prop where
  conf : conf (shOf P d t) p = true
  wf : WF p
  noref : noref p = true
  untup : untup p = true
  size : size p = P.cellsOf t
  len : cs.length = P.cellsOf t
  agg : Pe.isAgg p = isAggT P t
  rel : ∀ (j : Nat) (q : PV) (u : Value), (flat p)[j]? = some q → cs[j]? = some u → RC w T u q
theorem mapM_get {α β : Type} {g : α → Option β} : ∀ {l : List α} {xs : List β}, l.mapM g = some xs → ∀ i ∈ l, ∃ y, g i = some y
  | [], _, _, i, hi => by cases hi
  | a :: l, xs, h, i, hi => by
    rw [List.mapM_cons] at h
    simp only [Option.bind_eq_bind, Option.bind_eq_some_iff] at h
    obtain ⟨y, hy, ys, hys, _⟩ := h
    rcases List.mem_cons.1 hi with rfl | hi
    · exact ⟨y, hy⟩
    · exact mapM_get hys i hi
theorem flatL_nth {s : Nat} (hs : 0 < s) : ∀ {l : List PV}, WFL l → (∀ q ∈ l, Pe.size q = s) → ∀ {j : Nat} {q : PV}, (flatL l)[j]? = some q → ∃ p, l[j / s]? = some p ∧ (flat p)[j % s]? = some q
  | [], _, _, j, q, h => by simp [flatL] at h
  | p :: l, hw, hz, j, q, h => by
    simp only [WFL] at hw
    have hl : (flat p).length = s := by rw [flat_length p hw.1, hz p (by simp)]
    simp only [flatL] at h
    by_cases hj : j < s
    · rw [List.getElem?_append_left (by omega)] at h
      refine ⟨p, by rw [Nat.div_eq_of_lt hj]; rfl, by rw [Nat.mod_eq_of_lt hj]; exact h⟩
    · rw [List.getElem?_append_right (by omega), hl] at h
      obtain ⟨p', h1, h2⟩ := flatL_nth hs hw.2 (fun q hq => hz q (by simp [hq])) h
      have e : j = (j - s) + s := by omega
      refine ⟨p', ?_, ?_⟩
      · rw [e, Nat.add_div_right _ hs]
        simpa using h1
      · rw [e, Nat.add_mod_right]; exact h2
/-- The row of n elements. -/
def arrOf (P : Program) (d : Nat) (e : TypeId) (l : List PV) : PV := match P.underlying e with
  | some (.int k) => .iarr k l.length (l.map PV.num)
  | _ => .parr (P.cellsOf e) l.length (shOf P d e) l
section
variable {P : Program} {w : World} {T : T2}
theorem shOf_int {d : Nat} {e : TypeId} {k : IntKind} (h : P.underlying e = some (.int k)) : shOf P (d + 1) e = .int k := by simp only [shOf, h]
theorem shOf_slice {d : Nat} {t e : TypeId} (h : P.underlying t = some (.slice e)) : shOf P (d + 1) t = .vec (P.cellsOf e) (shOf P d e) := by simp only [shOf, h]
theorem arrOf_spec {d : Nat} {e : TypeId} {l : List PV} (hok : okT P d e = true) (hl : ∀ q ∈ l, Pe.conf (shOf P d e) q = true ∧ WF q ∧ Pe.noref q = true ∧ Pe.untup q = true ∧ Pe.size q = P.cellsOf e) :
    WF (arrOf P d e l) ∧ isArr (arrOf P d e l) = true ∧ arrLen (arrOf P d e l) = l.length ∧ elSize (arrOf P d e l) = P.cellsOf e ∧ Pe.untup (arrOf P d e l) = true ∧ flat (arrOf P d e l) = flatL l ∧ Pe.size (arrOf P d e l) = l.length * P.cellsOf e := by
  have hut : untupL l = true := by
    clear hok
    induction l with
    | nil => rfl
    | cons p l ih =>
      simp only [untupL, Bool.and_eq_true]
      exact ⟨(hl p (by simp)).2.2.2.1, ih fun q hq => hl q (by simp [hq])⟩
  unfold arrOf
  split
  · rename_i k hu
    obtain ⟨d', rfl⟩ : ∃ d', d = d' + 1 := by cases d with
      | zero => simp [okT] at hok
      | succ d => exact ⟨d, rfl⟩
    have h1 : P.cellsOf e = 1 := by
      simp only [okT, hu] at hok
      exact Nat.eq_of_beq_eq_true hok
    have hq : ∀ q ∈ l, ∃ x, q = .int k x ∧ k.wrap x = x := by
      intro q hq
      have := hl q hq
      rw [shOf_int hu] at this
      cases q <;> simp only [Pe.conf, reduceCtorEq, false_and] at this
      rename_i k' x
      have hk := IntKind.same_eq this.1
      subst hk
      exact ⟨x, rfl, by simpa only [WF] using this.2.1⟩
    have hf : (l.map PV.num).map (PV.int k) = l := by
      rw [List.map_map]
      conv => rhs; rw [← List.map_id l]
      refine List.map_congr_left fun q hql => ?_
      obtain ⟨x, rfl, _⟩ := hq q hql
      rfl
    have hfl : flatL l = l := by
      clear hok hf
      induction l with
      | nil => rfl
      | cons p l ih =>
        obtain ⟨x, rfl, _⟩ := hq p (by simp)
        simp only [flatL, flat]
        rw [ih (by simp only [untupL, Bool.and_eq_true] at hut; exact hut.2) (fun q hq' => hl q (by simp [hq'])) (fun q hq' => hq q (by simp [hq']))]
        rfl
    refine ⟨?_, rfl, rfl, by simp only [elSize]; omega, rfl, by simp only [flat]; rw [hf, hfl], by simp only [Pe.size]; rw [h1, Nat.mul_one]⟩
    simp only [WF, List.length_map, List.mem_map, true_and]
    rintro x ⟨q, hql, rfl⟩
    obtain ⟨x, rfl, hx⟩ := hq q hql
    exact hx
  · refine ⟨?_, rfl, rfl, rfl, by simpa only [Pe.untup] using hut, rfl, rfl⟩
    simp only [WF]
    exact ⟨trivial, WFL_of fun q hq => (hl q hq).2.1, fun q hq => ⟨(hl q hq).2.2.2.2, (hl q hq).1, (hl q hq).2.2.1⟩⟩
theorem opens_array {d n : Nat} {t e : TypeId} {cs : List Value} (hu : P.underlying t = some (.array n e)) (hc : P.cellsOf t = n * P.cellsOf e) (hok : okT P d e = true) (hs : 0 < P.cellsOf e) (hl : cs.length = P.cellsOf t)
    (h : ∀ i, i < n → ∃ p, Opens P w T d e ((cs.drop (i * P.cellsOf e)).take (P.cellsOf e)) p) : ∃ p, Opens P w T (d + 1) t cs p := by
  have hex : ∀ i, ∃ p, i < n → Opens P w T d e ((cs.drop (i * P.cellsOf e)).take (P.cellsOf e)) p := fun i => by
    by_cases hi : i < n
    · obtain ⟨p, hp⟩ := h i hi; exact ⟨p, fun _ => hp⟩
    · exact ⟨.undef, fun h => absurd h hi⟩
  obtain ⟨f, hf⟩ := Classical.axiomOfChoice hex
  have hmem : ∀ q ∈ (List.range n).map f, Pe.conf (shOf P d e) q = true ∧ WF q ∧ Pe.noref q = true ∧ Pe.untup q = true ∧ Pe.size q = P.cellsOf e := by
    intro q hq
    obtain ⟨i, hi, rfl⟩ := List.mem_map.1 hq
    have := hf i (by simpa using hi)
    exact ⟨this.conf, this.wf, this.noref, this.untup, this.size⟩
  obtain ⟨a1, a2, a3, a4, a5, a6, a7⟩ := arrOf_spec hok hmem
  have hlen : ((List.range n).map f).length = n := by simp
  refine ⟨arrOf P d e ((List.range n).map f), ?_, a1, arr_noref a2, a5, by rw [a7, hlen, hc], hl, ?_, fun j q u hq hu' => ?_⟩
  · unfold arrOf
    simp only [shOf, hu]
    cases hk : P.underlying e with
    | none =>
      simp only [Pe.conf, Bool.and_eq_true, hlen]
      exact ⟨⟨Nat.beq_refl _, Nat.beq_refl _⟩, beq_refl _⟩
    | some dsc => cases dsc with
    | int k =>
      simp only [Pe.conf, Bool.and_eq_true, hlen]
      exact ⟨same_refl k, Nat.beq_refl _⟩
    | _ =>
      simp only [Pe.conf, Bool.and_eq_true, hlen]
      exact ⟨⟨Nat.beq_refl _, Nat.beq_refl _⟩, beq_refl _⟩
  · have : Pe.isAgg (arrOf P d e ((List.range n).map f)) = true := by unfold arrOf; split <;> rfl
    rw [this]
    simp only [isAggT, hu]
  · rw [a6] at hq
    have hwl : WFL ((List.range n).map f) := WFL_of fun q hq => (hmem q hq).2.1
    obtain ⟨p, h1, h2⟩ := flatL_nth hs hwl (fun q hq => (hmem q hq).2.2.2.2) hq
    have hjn : j / P.cellsOf e < n := by have := (List.getElem?_eq_some_iff.1 h1).1; simpa using this
    have hp : p = f (j / P.cellsOf e) := by simp [hjn] at h1; exact h1.symm
    subst hp
    refine (hf _ hjn).rel (j % P.cellsOf e) q u h2 ?_
    rw [List.getElem?_take, if_pos (Nat.mod_lt _ hs), List.getElem?_drop, ← hu']
    congr 1
    rw [Nat.mul_comm]
    exact Nat.div_add_mod j (P.cellsOf e)
theorem opens_fields {d tot : Nat} {cs : List Value} (hl : cs.length = tot) : ∀ {fs : List Field} {o : Nat}, laysB P tot o fs = true → (∀ f ∈ fs, okT P d f.type = true ∧ ∃ p, Opens P w T d f.type ((cs.drop f.offset).take (P.cellsOf f.type)) p) →
    ∃ ps, confL (fs.map fun f => shOf P d f.type) ps = true ∧ WFL ps ∧ norefL ps = true ∧ untupL ps = true ∧ o + sizeL ps = tot ∧ ∀ (j : Nat) (q : PV) (u : Value), (flatL ps)[j]? = some q → cs[o + j]? = some u → RC w T u q
  | [], o, h, _ => by
    simp only [laysB] at h
    exact ⟨[], rfl, by simp [WFL], rfl, rfl, by simp only [sizeL]; exact Nat.eq_of_beq_eq_true h, fun j q u hq => by simp [flatL] at hq⟩
  | f :: fs, o, h, hf => by
    simp only [laysB, Bool.and_eq_true] at h
    obtain ⟨h1, h2⟩ := h
    have ho := Nat.eq_of_beq_eq_true h1
    obtain ⟨_, p, hp⟩ := hf f (by simp)
    obtain ⟨ps, g1, g2, g3, g4, g5, g6⟩ := opens_fields hl h2 fun x hx => hf x (by simp [hx])
    refine ⟨p :: ps, by simp only [List.map_cons, confL, Bool.and_eq_true]; exact ⟨hp.conf, g1⟩, by simp only [WFL]; exact ⟨hp.wf, g2⟩, by simp only [norefL, Bool.and_eq_true]; exact ⟨hp.noref, g3⟩, by simp only [untupL, Bool.and_eq_true]; exact ⟨hp.untup, g4⟩, by simp only [sizeL, hp.size]; omega, fun j q u hq hu => ?_⟩
    simp only [flatL] at hq
    have hlp : (flat p).length = P.cellsOf f.type := by rw [flat_length p hp.wf, hp.size]
    by_cases hj : j < P.cellsOf f.type
    · rw [List.getElem?_append_left (by omega)] at hq
      refine hp.rel j q u hq ?_
      rw [List.getElem?_take, if_pos hj, List.getElem?_drop, ho]
      exact hu
    · rw [List.getElem?_append_right (by omega), hlp] at hq
      refine g6 _ q u hq ?_
      rw [← hu]
      congr 1
      omega
end
section
variable {H : Type} {enc : TypeId × Value → H} {P : Program} {w : World} {base : Nat} {spare : Nat → Bool} {held : Bool}
theorem cells?_spec {a : Addr} {n : Nat} {cs : List Value} (h : w.cells? base a n = some cs) : cs.length = n ∧ ∀ j u, cs[j]? = some u → w.cell? (a.add j) = some u := by
  unfold World.cells? at h
  split at h
  · have : ∀ {l : List Nat} {xs : List Value}, l.mapM (fun i => w.cell? (a.add i)) = some xs → xs.length = l.length ∧ ∀ (j : Nat) (i : Nat) (u : Value), l[j]? = some i → xs[j]? = some u → w.cell? (a.add i) = some u := by
      intro l
      induction l with
      | nil => intro xs h; simp at h; subst h; exact ⟨rfl, fun j i u hi => by simp at hi⟩
      | cons b l ih =>
        intro xs h
        rw [List.mapM_cons] at h
        simp only [Option.bind_eq_bind, Option.bind_eq_some_iff, Option.pure_def, Option.some.injEq] at h
        obtain ⟨y, hy, ys, hys, rfl⟩ := h
        obtain ⟨e1, e2⟩ := ih hys
        refine ⟨by simp [e1], fun j i u hi hu => ?_⟩
        cases j with
        | zero => simp at hi hu; subst hi; subst hu; exact hy
        | succ j => simp at hi hu; exact e2 j i u hi hu
    obtain ⟨e1, e2⟩ := this h
    refine ⟨by simpa using e1, fun j u hu => ?_⟩
    have hj : j < n := by have := (List.getElem?_eq_some_iff.1 hu).1; simp at e1; omega
    exact e2 j j u (by simp [hj]) hu
  · cases h
theorem trod_opens : ∀ (d : Nat) (t : TypeId) (fuel : Nat) (cs : List Value) (x : DataW H × List MemPlace), okT P d t = true → DataW.trod enc P w base spare held fuel t cs = some x → ∃ p, Opens P w (fun b _ => b < w.heap.size) d t cs p
  | 0, _, _, _, _, h, _ => by simp [okT] at h
  | d + 1, t, 0, cs, x, _, h => by simp [DataW.trod] at h
  | d + 1, t, fuel + 1, cs, x, hok, h => by
    have hsz : ∀ e, szOk P e = true → 0 < P.cellsOf e := fun e he => Nat.pos_of_ne_zero (szOk_ne he)
    simp only [okT] at hok
    split at hok
    · rename_i hu
      have hc := Nat.eq_of_beq_eq_true hok
      obtain ⟨b, rfl, _⟩ := DataW.trod_bool hu h
      refine ⟨.bool b, by simp only [shOf, hu]; rfl, trivial, rfl, rfl, hc.symm, by rw [hc]; rfl, by simp only [isAggT, hu]; rfl, fun j q u hq hu' => ?_⟩
      cases j with
      | zero => simp [flat] at hq hu'; subst hq; subst hu'; exact .bool b
      | succ j => simp [flat] at hq
    · rename_i k hu
      have hc := Nat.eq_of_beq_eq_true hok
      obtain ⟨n, rfl, _, hwf⟩ := DataW.trod_int hu h
      have hw : k.wrap n = n := by
        rw [wrap_bounds]
        simpa [Lit.wf, IntKind.has] using hwf
      refine ⟨.int k n, by simp only [shOf, hu, conf]; cases k <;> rfl, by simp only [WF]; exact hw, rfl, rfl, hc.symm, by rw [hc]; rfl, by simp only [isAggT, hu]; rfl, fun j q u hq hu' => ?_⟩
      cases j with
      | zero => simp [flat] at hq hu'; subst hq; subst hu'; exact .int k n
      | succ j => simp [flat] at hq
    · rename_i hu
      have hc := Nat.eq_of_beq_eq_true hok
      obtain ⟨s, rfl, _, hs⟩ := DataW.trod_string hu h
      refine ⟨.str s, by simp only [shOf, hu]; rfl, trivial, rfl, rfl, hc.symm, by rw [hc]; rfl, by simp only [isAggT, hu]; rfl, fun j q u hq hu' => ?_⟩
      cases j with
      | zero => simp [flat] at hq hu'; subst hq; subst hu'; exact .str s hs
      | succ j => simp [flat] at hq
    · rename_i fs hu
      simp only [Bool.and_eq_true, List.all_eq_true] at hok
      simp only [DataW.trod, hu] at h
      split at h
      · rename_i hl
        simp only [Option.map_eq_some_iff] at h
        obtain ⟨xs, hxs, _⟩ := h
        obtain ⟨ps, g1, g2, g3, g4, g5, g6⟩ := opens_fields (P := P) (w := w) (T := fun b _ => b < w.heap.size) (d := d) hl hok.1 (fun f hf => ⟨hok.2 f hf, by
          obtain ⟨y, hy⟩ := mapM_get hxs f hf
          exact trod_opens d f.type fuel _ y (hok.2 f hf) hy⟩)
        refine ⟨.st (P.cellsOf t) ps, by simp only [shOf, hu, conf, Bool.and_eq_true]; exact ⟨Nat.beq_refl _, g1⟩, by simp only [WF]; exact ⟨by omega, g2⟩, by simp only [noref]; exact g3, by simp only [untup]; exact g4, rfl, hl, by simp only [isAggT, hu]; rfl, fun j q u hq hu' => ?_⟩
        simp only [flat] at hq
        exact g6 j q u hq (by rw [Nat.zero_add]; exact hu')
      · cases h
    · rename_i n e hu
      simp only [Bool.and_eq_true] at hok
      have hc := Nat.eq_of_beq_eq_true hok.1.1
      simp only [DataW.trod, hu] at h
      split at h
      · rename_i hl
        simp only [Option.map_eq_some_iff] at h
        obtain ⟨xs, hxs, _⟩ := h
        exact opens_array hu hc hok.2 (hsz e hok.1.2) hl fun i hi => by
          obtain ⟨y, hy⟩ := mapM_get hxs i (by simpa using hi)
          exact trod_opens d e fuel _ y hok.2 hy
      · cases h
    · rename_i e hu
      simp only [Bool.and_eq_true] at hok
      have hc := Nat.eq_of_beq_eq_true hok.1.1
      have hpos := hsz e hok.1.2
      have hone : ∀ (v : Value) (c : PV) (nl : Bool), cs = [v] → WF (.vec nl c) → Pe.conf (shOf P (d + 1) t) (.vec nl c) = true → RC w (fun b _ => b < w.heap.size) v (.vec nl c) → ∃ p, Opens P w (fun b _ => b < w.heap.size) (d + 1) t cs p := by
        rintro v c nl rfl h1 h2 h3
        refine ⟨.vec nl c, h2, h1, rfl, rfl, hc.symm, by rw [hc]; rfl, by simp only [isAggT, hu]; rfl, fun j q u hq hu' => ?_⟩
        cases j with
        | zero => simp [flat] at hq hu'; subst hq; subst hu'; exact h3
        | succ j => simp [flat] at hq
      have hshape : ∀ l : List PV, ∀ nl, Pe.conf (shOf P (d + 1) t) (.vec nl (arrOf P d e l)) = true := by
        intro l nl
        obtain ⟨d', rfl⟩ : ∃ d', d = d' + 1 := by cases d with
          | zero => simp [okT] at hok
          | succ d => exact ⟨d, rfl⟩
        have hsh : shOf P (d' + 1 + 1) t = .vec (P.cellsOf e) (shOf P (d' + 1) e) := shOf_slice hu
        rw [hsh]
        by_cases hk : ∃ k, P.underlying e = some (.int k)
        · obtain ⟨k, hk⟩ := hk
          have : arrOf P (d' + 1) e l = .iarr k l.length (l.map PV.num) := by simp only [arrOf, hk]
          rw [this, shOf_int hk]
          simp only [Pe.conf]
          exact same_refl k
        · have : arrOf P (d' + 1) e l = .parr (P.cellsOf e) l.length (shOf P (d' + 1) e) l := by
            unfold arrOf
            split
            · rename_i k hk'; exact absurd ⟨k, hk'⟩ hk
            · rfl
          rw [this]
          have hni : Sh.isInt (shOf P (d' + 1) e) = false := by
            cases he : P.underlying e with
            | none => simp only [shOf, he, Sh.isInt]
            | some dsc => cases dsc with
              | int k => exact absurd ⟨k, he⟩ hk
              | array n e' =>
                simp only [shOf, he]
                split <;> rfl
              | _ => simp only [shOf, he, Sh.isInt]
          cases hs2 : shOf P (d' + 1) e with
          | int k => rw [hs2] at hni; simp [Sh.isInt] at hni
          | _ => simp only [Pe.conf, Bool.and_eq_true, Sh.isInt, Bool.not_false, true_and]; exact ⟨Nat.beq_refl _, beq_refl _⟩
      rcases DataW.trod_slice hu h with ⟨hx, _⟩ | ⟨a, len, cap, elems, rest, n, hf, hx, _, _, h1, h2, h3, h4, _⟩
      · obtain ⟨a1, a2, a3, _⟩ := arrOf_spec (P := P) (d := d) (e := e) (l := []) hok.2 (fun q hq => by cases hq)
        exact hone _ (arrOf P d e []) true hx (by simp only [WF]; exact ⟨a1, a2, fun _ => a3⟩) (hshape [] true) (.vec0 _ _ _ _ a3 rfl (fun _ => rfl))
      · have hfu : n = fuel := by omega
        subst hfu
        have hex : ∀ i, ∃ p, i < len → ∃ cs', w.cells? base (a.add (i * P.cellsOf e)) (P.cellsOf e) = some cs' ∧ Opens P w (fun b _ => b < w.heap.size) d e cs' p := fun i => by
          by_cases hi : i < len
          · have := h4 i hi
            rw [List.getElem?_eq_getElem (by omega), Option.bind_eq_some_iff] at this
            obtain ⟨cs', c1, c2⟩ := this
            obtain ⟨p, hp⟩ := trod_opens d e n cs' _ hok.2 c2
            exact ⟨p, fun _ => ⟨cs', c1, hp⟩⟩
          · exact ⟨.undef, fun h => absurd h hi⟩
        obtain ⟨f, hf⟩ := Classical.axiomOfChoice hex
        have hmem : ∀ q ∈ (List.range len).map f, Pe.conf (shOf P d e) q = true ∧ WF q ∧ Pe.noref q = true ∧ Pe.untup q = true ∧ Pe.size q = P.cellsOf e := by
          intro q hq
          obtain ⟨i, hi, rfl⟩ := List.mem_map.1 hq
          obtain ⟨cs', _, hp⟩ := hf i (by simpa using hi)
          exact ⟨hp.conf, hp.wf, hp.noref, hp.untup, hp.size⟩
        obtain ⟨a1, a2, a3, a4, a5, a6, a7⟩ := arrOf_spec hok.2 hmem
        have hlen : ((List.range len).map f).length = len := by simp
        rw [hlen] at a3
        rcases Nat.eq_zero_or_pos len with h0 | h0
        · subst h0
          exact hone _ (arrOf P d e ((List.range 0).map f)) false hx (by simp only [WF]; exact ⟨a1, a2, fun e => by cases e⟩) (hshape _ false) (.vec0 _ _ _ _ a3 rfl (fun e => by cases e))
        · have hsp : a.spot = none := by
            obtain ⟨cs', c1, hp⟩ := hf 0 h0
            obtain ⟨e1, e2⟩ := cells?_spec c1
            have := e2 0 cs'[0] (List.getElem?_eq_getElem (by omega))
            unfold World.cell? at this
            split at this
            · split at this
              · cases this
              · rename_i hs
                simpa [Addr.add] using hs
            · cases this
          obtain ⟨bk, o, sp⟩ := a
          simp only at hsp
          subst hsp
          have hcell : ∀ j, ∃ u, ∀ q, (flat (arrOf P d e ((List.range len).map f)))[j]? = some q → w.cell? ⟨bk, o + j, none⟩ = some u ∧ RC w (fun b _ => b < w.heap.size) u q := by
            intro j
            cases hj : (flat (arrOf P d e ((List.range len).map f)))[j]? with
            | none => exact ⟨Go.undef, fun q hq => by cases hq⟩
            | some q =>
              rw [a6] at hj
              obtain ⟨p, p1, p2⟩ := flatL_nth hpos (WFL_of fun q hq => (hmem q hq).2.1) (fun q hq => (hmem q hq).2.2.2.2) hj
              have hjn : j / P.cellsOf e < len := by have := (List.getElem?_eq_some_iff.1 p1).1; simpa using this
              have hp : p = f (j / P.cellsOf e) := by simp [hjn] at p1; exact p1.symm
              subst hp
              obtain ⟨cs', c1, hp⟩ := hf _ hjn
              obtain ⟨e1, e2⟩ := cells?_spec c1
              have hm : j % P.cellsOf e < cs'.length := by rw [e1]; exact Nat.mod_lt _ hpos
              refine ⟨cs'[j % P.cellsOf e], fun q' hq' => ?_⟩
              cases hq'
              refine ⟨?_, hp.rel _ q _ p2 (List.getElem?_eq_getElem hm)⟩
              have := e2 _ _ (List.getElem?_eq_getElem hm)
              rw [add_none, add_none] at this
              rw [← this]
              congr 2
              rw [Nat.add_assoc, Nat.mul_comm, Nat.div_add_mod]
          obtain ⟨us, hus⟩ := Classical.axiomOfChoice hcell
          exact hone _ (arrOf P d e ((List.range len).map f)) false hx (by simp only [WF]; exact ⟨a1, a2, fun e => by cases e⟩) (hshape _ false)
            (.vec1 _ _ _ _ _ us a3 h1 h2 (fun j q hq => ⟨lt_of_cell? (hus j q hq).1, (hus j q hq).1⟩) (fun j q hq => (hus j q hq).2))
    · cases hok
end
end Go.Pe
namespace Go.Pe
open Go.ChangeShapes Go.WideShapes Go.ChangeAt Go.RowKit
section
variable {H : Type} {enc : TypeId × Value → H} {P : Program}
theorem post_below {f : Func} {s : ChangeSpec} {apart fresh handsOn again : Bool} {W W' : World} {args : Array Value} {v : Value} {ds gs : List (DataW H)} {before pa pv : List MemPlace}
    (hW : DataW.Whole enc P f.params.toList s.vars apart W args.toList ds gs before)
    (hres : ∀ (b : Nat) (sp : Nat → Bool) (hd : Bool), DataW.TrodAll enc P W' b sp hd f.resultTypes.toList (v.resultList f.resultTypes.size) (s.fn H (ds ++ gs)).results [])
    (hargs : ∀ sp : Nat → Bool, (∀ p ∈ before, sp p.block = true) → DataW.TrodAll enc P W' 0 sp true f.params.toList args.toList (s.fn H (ds ++ gs)).args pa)
    (hvars : ∀ sp : Nat → Bool, (∀ p ∈ before, sp p.block = true) → DataW.TrodVars enc P W' sp s.vars (s.fn H (ds ++ gs)).vars pv)
    (hps : before = pa ++ pv) (hb : Below W.heap.size W W')
    (hok : ∀ (j : Nat) (t : TypeId) (r : Value), f.resultTypes[j]? = some t → (v.resultList f.resultTypes.size)[j]? = some r → Value.okWide P W' .any 0 t r) :
    s.post enc P f apart fresh handsOn again W args v W' := by
  have hlt : ∀ p ∈ before, p.block < W.heap.size := fun p hp => hW.lt p hp
  have hold : ∀ p ∈ before, (fun b => decide (b < W.heap.size)) p.block = true := fun p hp => by simpa using hlt p hp
  refine ⟨ds, gs, before, [], pa, pv, hW, hres _ _ _, hargs _ hold, hvars _ hold, World.keptBut_mono (fun p hp => ⟨hp, ?_⟩) (hb.frame (· ∈ before)), fun _ => ?_⟩
  · rw [hps, List.mem_append] at hp
    exact Or.inr hp
  · obtain ⟨_, _, _, _, _, hz, hn⟩ := hW
    refine ⟨hok, _, _, ([] ++ pa) ++ pv, ⟨[] ++ pa, pv, trodAll_append (hargs _ (fun _ _ => rfl)) (hres _ _ _), hvars _ (fun _ _ => rfl), rfl, ?_, ?_⟩, ?_⟩
    · intro b off hp
      have hin : MemPlace.cell b off ∈ before := by rw [hps]; simpa using hp
      rw [hb.frozen (hlt _ hin)]
      exact hz b off hin
    · intro ha
      have := hn ha
      rw [hps] at this
      simpa using this
    · intro p hp _
      rw [hps]
      simpa using hp
theorem trodAll_stays (hl : laidOutB P = true) {W W' : World} (hb : Below W.heap.size W W') {sp : Nat → Bool} : ∀ {ts : List TypeId} {vs : List Value} {ds : List (DataW H)} {ps : List MemPlace}, (∀ t ∈ ts, P.readableRec t = true ∧ t < P.types.size) →
    DataW.TrodAll enc P W 0 (fun _ => true) true ts vs ds ps → (∀ p ∈ ps, sp p.block = true) → DataW.TrodAll enc P W' 0 sp true ts vs ds ps
  | [], [], [], _, _, h, _ => h
  | t :: ts, v :: vs, d :: ds, ps, ht, h, hs => by
    have hlt := h.lt
    obtain ⟨p, q, h1, h2, rfl⟩ := h
    exact ⟨p, q, WideElems.Trod_stays hl (ht t (by simp)).1 (ht t (by simp)).2 h1 (fun x hx => hb.same (hlt x (by simp [hx]))) (fun x hx => hs x (by simp [hx])),
      trodAll_stays hl hb (fun t ht' => ht t (by simp [ht'])) h2 (fun x hx => hs x (by simp [hx])), rfl⟩
  | [], _ :: _, _, _, _, h, _ => by simp [DataW.TrodAll] at h
  | [], [], _ :: _, _, _, h, _ => by simp [DataW.TrodAll] at h
  | _ :: _, [], _, _, _, h, _ => by simp [DataW.TrodAll] at h
  | _ :: _, _ :: _, [], _, _, h, _ => by simp [DataW.TrodAll] at h
/-- What an input's values stand for. -/
structure Ins (P : Program) (ts : List TypeId) (ps : List PV) : Prop where
  conf : confL (ts.map (shOf P 9)) ps = true
  wf : WFL ps
  untup : untupL ps = true
theorem RV_opens {W : World} {base : Nat} {t : TypeId} {v : Value} {p : PV} (hv : Value.okWide P W .any base t v) (h : Opens P W (fun b _ => b < W.heap.size) 9 t v.cells.toList p) : RV W (fun b _ => b < W.heap.size) (fun _ => none) v p := by
  have hnt : ∀ vs, p ≠ .tup vs := fun vs e => by have := h.untup; subst e; simp [Pe.untup] at this
  cases ha : Pe.isAgg p with
  | true =>
    have hat : isAggT P t = true := by rw [← h.agg]; exact ha
    have : ∃ cs, v = .agg cs := by
      unfold isAggT at hat
      unfold Value.okWide at hv
      split at hat
      · rename_i fs hu
        rw [hu] at hv
        obtain ⟨cs, hc, _⟩ := hv
        exact ⟨cs, hc⟩
      · rename_i n e hu
        rw [hu] at hv
        obtain ⟨cs, hc, _⟩ := hv
        exact ⟨cs, hc⟩
      · cases hat
    obtain ⟨cs, rfl⟩ := this
    refine RV.of_agg ha h.wf ⟨cs, rfl, ?_, fun j q u hq hu => RO.of_closed (h.rel j q u hq ?_)⟩
    · have := h.len
      simp only [Value.cells, Array.length_toList] at this
      rw [this, h.size]
    · simpa [Value.cells] using hu
  | false =>
    have hl : Pe.leaf p = true := by rw [Pe.leaf_agg, ha]; rfl
    have hone : v.cells = #[v] := by
      have hnagg : ∀ cs, v ≠ .agg cs := by
        rintro cs rfl
        have hat : isAggT P t = false := by rw [← h.agg]; exact ha
        unfold Value.okWide at hv
        unfold isAggT at hat
        split at hv
        · rename_i fs hu; rw [hu] at hat; cases hat
        · rename_i n e hu; rw [hu] at hat; cases hat
        · unfold Cell.okWide at hv
          split at hv <;> simp_all [Cell.ok]
      cases v <;> first | rfl | exact absurd rfl (hnagg _)
    refine RV.of_leaf hl hnt h.wf (RO.of_closed (h.rel 0 p v (by rw [flat_leaf hl]; rfl) (by rw [hone]; rfl)))
theorem ins_of {W : World} {base : Nat} : ∀ {ts : List TypeId} {vs : List Value} {ds : List (DataW H)} {ps : List MemPlace}, (∀ t ∈ ts, okT P 9 t = true) → (∀ (j : Nat) t v, ts[j]? = some t → vs[j]? = some v → Value.okWide P W .any base t v) →
    DataW.TrodAll enc P W 0 (fun _ => true) true ts vs ds ps → ∃ qs, Ins P ts qs ∧ qs.length = vs.length ∧ ∀ (j : Nat) (p : PV) (v : Value), qs[j]? = some p → vs[j]? = some v → RV W (fun b _ => b < W.heap.size) (fun _ => none) v p
  | [], [], [], _, _, _, _ => ⟨[], ⟨rfl, by simp [WFL], rfl⟩, rfl, fun j p v hp => by simp at hp⟩
  | t :: ts, v :: vs, d :: ds, ps, ht, hv, h => by
    obtain ⟨p, q, ⟨fuel, h1⟩, h2, rfl⟩ := h
    obtain ⟨x, hx⟩ := trod_opens 9 t fuel _ _ (ht t (by simp)) h1
    obtain ⟨qs, g1, g2, g3⟩ := ins_of (fun t' h' => ht t' (by simp [h'])) (fun j t' v' hj hj' => hv (j + 1) t' v' (by simpa using hj) (by simpa using hj')) h2
    refine ⟨x :: qs, ⟨by simp only [List.map_cons, confL, Bool.and_eq_true]; exact ⟨hx.conf, g1.conf⟩, by simp only [WFL]; exact ⟨hx.wf, g1.wf⟩, by simp only [untupL, Bool.and_eq_true]; exact ⟨hx.untup, g1.untup⟩⟩, by simp [g2], fun j p' v' hp hv' => ?_⟩
    cases j with
    | zero =>
      simp at hp hv'
      subst hp; subst hv'
      exact RV_opens (hv 0 t v rfl rfl) hx
    | succ j => simp at hp hv'; exact g3 j p' v' hp hv'
  | [], _ :: _, _, _, _, _, h => by simp [DataW.TrodAll] at h
  | [], [], _ :: _, _, _, _, h => by simp [DataW.TrodAll] at h
  | _ :: _, [], _, _, _, _, h => by simp [DataW.TrodAll] at h
  | _ :: _, _ :: _, [], _, _, _, h => by simp [DataW.TrodAll] at h
theorem below_of_FR {w w' : World} {M : T2} (hM : ∀ b o, ¬ M b o) (h : FR M w w') : Below w.heap.size w w' := by
  refine ⟨h.os, h.tape, h.output, h.size, fun k hk => ?_⟩
  rcases h.block k hk with e | ⟨_, _, _, _, _, _, m3⟩ | ⟨cs, cs', t, fz, e1, e2, e3, e4⟩
  · exact e.symm
  · exact absurd m3 (hM k 0)
  · rw [e1, e2]
    have : cs' = cs := by
      apply Array.ext_getElem?
      intro i
      exact e4 i (hM k i)
    rw [this]
end
end Go.Pe
namespace Go.Pe
open Go.ChangeShapes Go.WideShapes Go.ChangeAt Go.RowKit
section
variable {H : Type} {enc : TypeId × Value → H} {P : Program}
theorem mapM_idx {α β : Type} {g : α → Option β} : ∀ {l : List α} {xs : List β}, l.mapM g = some xs → ∀ (i : Nat) (a : α), l[i]? = some a → ∃ y, xs[i]? = some y ∧ g a = some y
  | [], _, _, i, a, hi => by simp at hi
  | b :: l, xs, h, i, a, hi => by
    rw [List.mapM_cons] at h
    simp only [Option.bind_eq_bind, Option.bind_eq_some_iff] at h
    obtain ⟨y, hy, ys, hys, hx⟩ := h
    obtain rfl := Option.some.inj hx
    cases i with
    | zero => simp at hi; subst hi; exact ⟨y, rfl, hy⟩
    | succ i => exact mapM_idx hys i a (by simpa using hi)
theorem laid_mem {w : World} : ∀ {l : List (String × DataW Unit)} {ps : List MemPlace}, DataW.LaidVars P w l ps → ∀ x ∈ l, ∃ g t cs fuel p, P.globalNamed x.1 = some g ∧ (P.globals[g]?).map (·.type) = some t ∧ w.var? P x.1 = some cs ∧ DataW.trod (fun _ => ()) P w 0 (fun _ => true) false fuel t cs.toList = some (x.2, p)
  | [], _, _, x, hx => by cases hx
  | (n, d) :: l, ps, h, x, hx => by
    simp only [DataW.LaidVars] at h
    obtain ⟨g, t, cs, fuel, p, q, h1, h2, h3, h4, h5, _⟩ := h
    rcases List.mem_cons.1 hx with rfl | hx
    · exact ⟨g, t, cs, fuel, p, h1, h2, h3, h4⟩
    · exact laid_mem h5 x hx
theorem trod_int {w : World} {base fuel : Nat} {sp : Nat → Bool} {held : Bool} {t : TypeId} {k k' : IntKind} {n : Int} {cs : List Value} {p : List MemPlace} (hu : P.underlying t = some (.int k))
    (h : DataW.trod enc P w base sp held fuel t cs = some (.lit (.int k' n), p)) : cs = [.int k n] := by
  cases fuel with
  | zero => simp [DataW.trod] at h
  | succ fuel =>
    simp only [DataW.trod, hu] at h
    split at h <;> simp_all
/-- a variable that holds an array of integers -/
theorem glob_ints {W : World} {laid : List (String × DataW Unit)} (h : laidMet P laid W) {name : String} {g t e m : Nat} {k : IntKind} {ls : List Int} (hin : (name, .agg (ls.map fun v => .lit (.int k v))) ∈ laid)
    (hg : P.globalNamed name = some g) (ht : (P.globals[g]?).map (·.type) = some t) (hu : P.underlying t = some (.array m e)) (he : P.underlying e = some (.int k)) (hce : P.cellsOf e = 1) (hct : P.cellsOf t = m) (hm : ls.length = m) :
    RC W (fun b _ => b < W.heap.size) (.pointer (some ⟨g, 0, none⟩)) (.cptr (.iarr k m ls) []) := by
  obtain ⟨ps, hL, _, _⟩ := h
  obtain ⟨g', t', cs, fuel, p, h1, h2, h3, h4⟩ := laid_mem hL _ hin
  obtain rfl := Option.some.inj (hg.symm.trans h1)
  obtain rfl := Option.some.inj (ht.symm.trans h2)
  have hcell : ∀ (i : Nat) (v : Int), ls[i]? = some v → cs[i]? = some (Value.int k v) := by
    intro i v hv
    cases fuel with
    | zero => simp [DataW.trod] at h4
    | succ fuel =>
      simp only [DataW.trod, hu] at h4
      split at h4
      · rename_i hl
        simp only [Option.map_eq_some_iff] at h4
        obtain ⟨xs, hxs, hd⟩ := h4
        simp only [Prod.mk.injEq, DataW.agg.injEq] at hd
        have hi : i < ls.length := by
          rw [List.getElem?_eq_some_iff] at hv
          exact hv.1
        obtain ⟨y, hy1, hy2⟩ := mapM_idx hxs i i (by rw [List.getElem?_range (by omega)])
        have hy : (xs.map (·.1))[i]? = some y.1 := by rw [List.getElem?_map, hy1]; rfl
        rw [hd.1, List.getElem?_map, hv] at hy
        obtain ⟨y1, y2⟩ := y
        simp only [Option.map_some, Option.some.injEq] at hy
        subst hy
        have := trod_int he hy2
        rw [hce, Nat.mul_one] at this
        have e : cs.toList[i]? = some (Value.int k v) := by
          have e0 := congrArg (fun l => l[0]?) this
          simpa using e0
        simpa using e
      · cases h4
  have hcw : ∀ (i : Nat) (v : Int), ls[i]? = some v → W.cell? ⟨g, i, none⟩ = some (Value.int k v) := fun i v hv => by rw [World.var?_cell hg h3, hcell i v hv]
  refine RC.cptr g 0 _ [] (fun j => Value.int k (ls.getD j 0)) ?_ ?_
  · intro j q hq
    simp only [flat, List.getElem?_map, Option.map_eq_some_iff] at hq
    obtain ⟨v, hv, rfl⟩ := hq
    have hc := hcw j v hv
    rw [Nat.zero_add]
    refine ⟨?_, by rw [hc, List.getD_eq_getElem?_getD, hv]; rfl⟩
    rcases Nat.lt_or_ge g W.heap.size with h | h
    · exact h
    · simp [World.cell?, Array.getElem?_eq_none h] at hc
  · intro j q hq
    simp only [flat, List.getElem?_map, Option.map_eq_some_iff] at hq
    obtain ⟨v, hv, rfl⟩ := hq
    rw [List.getD_eq_getElem?_getD, hv]
    exact .int k v
theorem wants_of {ps : Array TypeId} (h : ps.toList.all (fun t => !P.wantsStandIn t) = true) (j : Nat) (t : TypeId) (ht : ps[j]? = some t) : P.wantsStandIn t = false := by
  have := List.all_eq_true.1 h t (by rw [← Array.getElem?_toList] at ht; exact List.mem_of_getElem? ht)
  simpa using this
/-- a world with a variable laid -/
noncomputable def laidW (P : Program) (os : Os) (g : Nat) (cs : Array Value) : World :=
  let w0 := World.holding P os ⟨#[], #[], []⟩
  { w0 with heap := w0.heap.modify g fun
      | .cells _ t frozen => .cells cs t frozen
      | o => o }
/-- THE LAW's STEP over laid variables. -/
theorem law_callsG {G : Nat → Option PV} {f : FuncId} {fn : Func} {s : ChangeSpec} {apart fresh handsOn again : Bool} {tb : TypeId} (hl : laidOutB P = true) (hvars : s.vars = []) (hr : fn.resultTypes = #[tb]) (hb : P.underlying tb = some .bool)
    (hbody : hasBody P f) (hspec : ∀ ds : List (DataW H), ds.length = fn.params.toList.length → s.fn H ds = { results := [.lit (.bool true)], args := ds })
    (ht : fn.params.toList.all (fun t => okT P 9 t && P.readableRec t && Nat.blt t P.types.size) = true)
    (hpc : ∀ ps, Ins P fn.params.toList ps → PC P G f [] ps [] (.bool true))
    {W : World} (hG : ∀ g c, G g = some c → WF c ∧ noref c = true ∧ RC W (fun b _ => b < W.heap.size) (.pointer (some ⟨g, 0, none⟩)) (.cptr c []))
    {base : Nat} {args : Array Value} {ds gs : List (DataW H)} {before : List MemPlace}
    (hval : ∀ (j : Nat) t v, fn.params[j]? = some t → args[j]? = some v → Value.okWide P W .any base t v)
    (hW : DataW.Whole enc P fn.params.toList s.vars apart W args.toList ds gs before) :
    Calls P f args W fun e W' => ∃ v, e = .returned v ∧ s.post enc P fn apart fresh handsOn again W args v W' := by
  have ht' : ∀ t ∈ fn.params.toList, okT P 9 t = true ∧ P.readableRec t = true ∧ t < P.types.size := by
    intro t h
    have := List.all_eq_true.1 ht t h
    simp only [Bool.and_eq_true] at this
    exact ⟨this.1.1, this.1.2, Nat.blt_eq ▸ this.2⟩
  have hW' := hW
  obtain ⟨p, q, hA, hV, rfl, hz, hn⟩ := hW
  rw [hvars] at hV
  obtain ⟨rfl, rfl⟩ := trodVars_none hV
  obtain ⟨l1, l2⟩ := trodAll_length hA
  obtain ⟨qs, g1, g2, g3⟩ := ins_of (base := base) (fun t h => (ht' t h).1) (fun j t v h1 h2 => hval j t v (by rw [← Array.getElem?_toList]; exact h1) (by rw [← Array.getElem?_toList]; exact h2)) hA
  have hM : ∀ b o, ¬ Mut (fun _ => none) (lookR ([] : List (Nat × Row))) b o := by
    rintro b o ⟨i, r, pl, h1, _⟩
    simp [lookR] at h1
  have hc := hpc qs g1
  refine Calls.mono (Enters.calls hbody (hc (fun b _ => b < W.heap.size) (fun _ => none) W args (fun b o _ => hM b o) ⟨fun i r hi => by simp [lookR] at hi, fun i i' r r' pl pl' _ h1 => by simp [lookR] at h1⟩ (fun _ _ => rfl) hG
    (by rw [g2]; simp) (fun j p v hp hv _ => g3 j p v hp (by rw [Array.getElem?_toList]; exact hv)))) fun e W' he => ?_
  obtain ⟨v, ρ', rfl, r1, _, _, r4, _⟩ := he
  have hvb : v = .bool true := by
    have := r1.to_leaf rfl (fun _ e => by cases e)
    simp only [RO] at this
    cases this
    rfl
  subst hvb
  have hbel := below_of_FR hM r4
  have hsp := hspec ds l2
  refine ⟨_, rfl, post_below (pa := p) (pv := []) hW' ?_ ?_ ?_ (by simp) hbel ?_⟩
  · intro b sp hd
    rw [List.append_nil, hsp, hr]
    exact trodAll_mk1 (shut_bool hb true)
  · intro sp hs
    rw [List.append_nil, hsp]
    exact trodAll_stays hl hbel (fun t h => (ht' t h).2) hA (fun x hx => hs x (by simp [hx]))
  · intro sp hs
    rw [List.append_nil, hsp, hvars]
    rfl
  · rw [hr]
    exact ok_one (f := { fn with resultTypes := #[tb] }) rfl rfl (okWide_bool_mk hb true)
end
end Go.Pe
