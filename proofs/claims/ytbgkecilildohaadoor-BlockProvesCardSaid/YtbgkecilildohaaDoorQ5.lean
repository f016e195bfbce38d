/- Merged texts: the pure machine and what the walks show. Conditions: as each statement says. -/
import Derived.Carry
import Derived.ChangeArms
import Derived.ChangeSame
import Derived.ChangeCalls
import Derived.JoinedOf
import Derived.Handed
import Derived.OpenShut
import Derived.RowKit
import Derived.ProofKit
import Derived.LaidLaws
import Derived.LaidHandle
import Derived.FnData
import GoSem.ClaimSeven
import Derived.Test.YtbgkecilildohaaDoorQ4
namespace Go.Proofs
open Go Go.Pe Go.Pm
set_option maxRecDepth 100000
set_option linter.unusedVariables false
/-- the document's branch -/
def dsBr (nl : Bool) (n : Nat) (M M2 : List PV) (i : Nat) : DS := ⟨[(3, .ref 1 [] 32 0 i), (6, .vec nl (.parr 32 n hsE M)), (7, .int .i64 n), (8, .int .i64 i)], [(1, ⟨.parr 32 i hsE M2, false⟩)]⟩
theorem hv_take {P : List (List Int)} {i : Nat} (h : i < P.length) : (P.map hv).take (i + 1) = (P.map hv).take i ++ [hv (P.getD i [])] := by
  rw [List.take_add_one]
  congr 1
  simp [List.getD_eq_getElem?_getD, h]
theorem W_refs {nl : Bool} {n : Nat} {P : List (List Int)} (ho : HsOk P n) (hn : n ≤ 100000) : ∀ (k i : Nat), i + k = n → 0 < i →
    W Tryd.prog G0 Tryd.f65 [] [] (.vec (decide (n = 0)) (hL n P)) (loopAt Tryd.f65 0) (dsBr nl n (P.map hv) ((P.map hv).take i) i)
  | 0, i, hk, h0 => by
    have hi : i = n := by omega
    subst hi
    have e : (P.map hv).take i = P.map hv := List.take_of_length_le (by rw [List.length_map, ho.len]; omega)
    rw [e]
    have hl : (P.map hv).length = i := by rw [List.length_map, ho.len]
    have hd : decide (i = 0) = false := decide_eq_false (by omega)
    unfold hL
    rw [hd]
    generalize P.map hv = M at *
    unfold dsBr
    refine W.ret [(0, aF)] [] [decide ((i:Int) < (i:Int)) = false, 0 + i ≤ i, PV.vec false (PV.parr 32 i (Sh.iarr IntKind.u8 32) (List.take i M)) = PV.vec false (PV.parr 32 i (Sh.iarr IntKind.u8 32) M)] (by kernel_rfl) (ac (decide_eq_false (by omega)) (ac (by omega) (ao (by (simp; omega)))))
  | k + 1, i, hk, h0 => by
    have hi : i < n := by omega
    have hlt : i < P.length := by rw [ho.len]; exact hi
    have g := hv_get hlt
    have hw := W_refs (nl := nl) ho hn k (i + 1) (by omega) (by omega)
    rw [hv_take hlt] at hw
    obtain ⟨hy, bY⟩ := ho.get hi
    have hl : ((P.map hv).take i).length = i := by rw [List.length_take, List.length_map, ho.len]; omega
    generalize P.getD i [] = y at *
    generalize hM2 : (P.map hv).take i = M2 at *
    clear hM2
    generalize PV.vec (decide (n = 0)) (hL n P) = res at *
    generalize P.map hv = M at *
    unfold hv at *
    unfold dsBr at *
    refine W.seg [(0, aT), (2, aV (B8 32 y)), (8, Ans.ups [(1, none), (192, some (Row.mk (PV.parr 32 (i + 1) (Sh.iarr IntKind.u8 32) (M2 ++ [B8 32 y])) false))]), (10, aV (I6 (↑(i + 1) : Int)))] [(192, 1)] (DS.mk [(3, PV.ref 1 [] 32 0 (i + 1)), (6, PV.vec nl (PV.parr 32 n hsE M)), (7, I6 (n:Int)), (8, I6 (↑(i + 1) : Int))] [(1, Row.mk (PV.parr 32 (i + 1) hsE (M2 ++ [B8 32 y])) false)]) (todo' := loopAt Tryd.f65 0) [decide ((i:Int) < (n:Int)) = true, 0 ≤ (i:Int), (i:Int) < (n:Int), B8 32 (PV.nums (List.getD M i PV.undef)) = B8 32 y, i < n, ([(1, none), (192, some (Row.mk (PV.parr 32 (i + 1) (Sh.iarr IntKind.u8 32) (List.take i M2 ++ [B8 32 y])) false))] : List (Nat × Option Row)) = [(1, none), (192, some (Row.mk (PV.parr 32 (i + 1) (Sh.iarr IntKind.u8 32) (M2 ++ [B8 32 y])) false))], 1 ≤ 1, 0 + i = i, (i + 1) * 32 ≤ 140737488355328, i + 1 ≤ 9223372036854775807, I6 (IntKind.wrap .i64 ((i:Int) + 1)) = I6 (↑(i + 1) : Int), rr (PV.ref 1 [] 32 0 (i + 1)), rr (PV.vec nl (PV.parr 32 n (Sh.iarr IntKind.u8 32) M)), rr (I6 (n:Int)), rr (I6 (↑(i + 1) : Int)), rr (PV.parr 32 (i + 1) (Sh.iarr IntKind.u8 32) (M2 ++ [B8 32 y]))] (by kernel_rfl) (ac (decide_eq_true (by omega)) (ac (by omega) (ac (by omega) (ac (by (rw [g]; rfl)) (ac (by omega) (ac (by rw [List.take_of_length_le (show List.length M2 ≤ i by omega)]) (ac (by omega) (ac (by omega) (ac (by omega) (ac (by omega) (ac (cg (w_i64 rfl (by omega) (by omega))) (ac rfl (ac rfl (ac rfl (ac rfl (ao rfl)))))))))))))))) ?_
    exact hw
theorem pc_refs {nl : Bool} {n : Nat} {P : List (List Int)} (ho : HsOk P n) (hn : n ≤ 100000) : PC Tryd.prog G0 65 [] [.vec nl (hL n P)] [] (.vec (decide (n = 0)) (hL n P)) := by
  refine PC.of (fn := Tryd.f65) (c := bodyOf Tryd.f65) Tryd.func65 (by kernel_rfl) (by kernel_rfl) (by kernel_rfl) (by kernel_rfl) ?_
  by_cases h0 : n = 0
  · subst h0
    have hP : P = [] := List.eq_nil_of_length_eq_zero ho.len
    subst hP
    show W _ _ _ _ _ (.vec true (.parr 32 0 hsE [])) _ _
    unfold hL
    rw [List.map_nil]
    refine W.seg [(3, aV (I6 0))] [] (DS.mk [(3, PV.vec true (PV.parr 32 0 hsE [])), (6, PV.vec nl (PV.parr 32 0 hsE [])), (7, I6 0), (8, I6 0)] []) (todo' := loopAt Tryd.f65 0) [I6 (↑(0 : Nat) : Int) = I6 0, rr (PV.vec true (PV.parr 32 0 (Sh.iarr IntKind.u8 32) [])), rr (PV.vec nl (PV.parr 32 0 (Sh.iarr IntKind.u8 32) [])), rr (I6 0), rr (I6 0)] (by kernel_rfl) (ac (cg (by omega)) (ac rfl (ac rfl (ac rfl (ao rfl))))) ?_
    refine W.ret [] [] [rr (PV.vec true (PV.parr 32 0 (Sh.iarr IntKind.u8 32) []))] (by kernel_rfl) (ao rfl)
  · have hlt : 0 < P.length := by rw [ho.len]; omega
    have g := hv_get hlt
    obtain ⟨hy, bY⟩ := ho.get (i := 0) (by omega)
    have hw := W_refs (nl := nl) ho hn (n - 1) 1 (by omega) (by omega)
    have hs := hv_take hlt
    rw [List.take_zero, List.nil_append] at hs
    rw [hs] at hw
    have hn0 : 0 < n := by omega
    clear hs h0
    generalize PV.vec (decide (n = 0)) (hL n P) = res at *
    unfold hL at *
    generalize P.getD 0 [] = y at *
    generalize P.map hv = M at *
    unfold hv at *
    unfold dsBr at *
    refine W.seg [] [] (DS.mk [(3, PV.vec true (PV.parr 32 0 hsE [])), (6, PV.vec nl (PV.parr 32 n hsE M)), (7, I6 (n:Int)), (8, I6 0)] []) (todo' := loopAt Tryd.f65 0) [rr (PV.vec true (PV.parr 32 0 (Sh.iarr IntKind.u8 32) [])), rr (PV.vec nl (PV.parr 32 n (Sh.iarr IntKind.u8 32) M)), rr (I6 (n:Int)), rr (I6 0)] (by kernel_rfl) (ac rfl (ac rfl (ac rfl (ao rfl)))) ?_
    refine W.seg [(0, aT), (2, aV (B8 32 y)), (10, aV (I6 1))] [(192, 1)] (DS.mk [(3, PV.ref 1 [] 32 0 1), (6, PV.vec nl (PV.parr 32 n hsE M)), (7, I6 (n:Int)), (8, I6 (↑(1 : Nat) : Int))] [(1, Row.mk (PV.parr 32 1 hsE [B8 32 y]) false)]) (todo' := loopAt Tryd.f65 0) [decide (0 < (n:Int)) = true, (0 : Int) ≤ (0 : Int), 0 < (n:Int), B8 32 (PV.nums (List.getD M 0 PV.undef)) = B8 32 y, 0 < n, 1 ≤ 1, 0 < 1, 32 ≤ 140737488355328, 1 ≤ 9223372036854775807, I6 (IntKind.wrap .i64 ((0 : Int) + (1 : Int))) = I6 1, rr (PV.ref 1 [] 32 0 1), rr (PV.vec nl (PV.parr 32 n (Sh.iarr IntKind.u8 32) M)), rr (I6 (n:Int)), I6 1 = I6 (↑(1 : Nat) : Int), rr (PV.parr 32 1 (Sh.iarr IntKind.u8 32) [B8 32 y])] (by kernel_rfl) (ac (decide_eq_true (by omega)) (ac (by omega) (ac (by omega) (ac (by (rw [g]; rfl)) (ac (by omega) (ac (by omega) (ac (by omega) (ac (by omega) (ac (by omega) (ac (cg (w_i64 rfl (by omega) (by omega))) (ac rfl (ac rfl (ac rfl (ac (cg (by omega)) (ao rfl))))))))))))))) ?_
    exact hw
theorem pc_lawBranch {c i : Int} {nl : Bool} {n : Nat} {P : List (List Int)} (ho : HsOk P n) (hn : n ≤ 100000) : PC Tryd.prog G0 37 [] [brPV c i nl n P] [] (brPV c i (decide (n = 0)) n P) := by
  refine PC.of (fn := Tryd.f37) (c := bodyOf Tryd.f37) Tryd.func37 (by kernel_rfl) (by kernel_rfl) (by kernel_rfl) (by kernel_rfl) ?_
  have c1 := pc_refs (nl := nl) ho hn
  unfold brPV hL at *
  generalize P.map hv = M at *
  generalize decide (n = 0) = nn at *
  refine W.ret [(8, Ans.call false [] [] (PV.vec nn (PV.parr 32 n (Sh.iarr IntKind.u8 32) M)))] [] [PC Tryd.prog G0 65 [] [PV.vec nl (PV.parr 32 n (Sh.iarr IntKind.u8 32) M)] [] (PV.vec nn (PV.parr 32 n (Sh.iarr IntKind.u8 32) M)), rr (PV.st 3 [I6 c, I6 i, PV.vec nn (PV.parr 32 n (Sh.iarr IntKind.u8 32) M)])] (by kernel_rfl) (ac (c1) (ao rfl))
/-- an entry -/
def enPV (tn : Bool) (N : Nat) (b : List Int) (c i : Int) (nl : Bool) (n : Nat) (P : List (List Int)) : PV := .st 4 [.vec tn (.iarr .u8 N b), brPV c i nl n P]
def renPV (b : List Int) (c i : Int) (nl : Bool) (n : Nat) (P : List (List Int)) : PV := .st 4 [.str (strOf b), brPV c i nl n P]
theorem pc_lawEntry {tn : Bool} {N : Nat} {b : List Int} {c i : Int} {nl : Bool} {n : Nat} {P : List (List Int)} (hb : b.length = N) (hN : N ≤ 1000000) (ho : HsOk P n) (hn : n ≤ 100000) : PC Tryd.prog G0 19 [] [enPV tn N b c i nl n P] [] (renPV b c i (decide (n = 0)) n P) := by
  refine PC.of (fn := Tryd.f19) (c := bodyOf Tryd.f19) Tryd.func19 (by kernel_rfl) (by kernel_rfl) (by kernel_rfl) (by kernel_rfl) ?_
  have c1 := pc_lawBranch (c := c) (i := i) (nl := nl) ho hn
  unfold enPV renPV
  unfold brPV hL at *
  generalize P.map hv = M at *
  generalize decide (n = 0) = nn at *
  refine W.ret [(7, Ans.call false [] [] (PV.st 3 [I6 c, I6 i, PV.vec nn (PV.parr 32 n (Sh.iarr IntKind.u8 32) M)]))] [] [PC Tryd.prog G0 37 [] [PV.st 3 [I6 c, I6 i, PV.vec nl (PV.parr 32 n (Sh.iarr IntKind.u8 32) M)]] [] (PV.st 3 [I6 c, I6 i, PV.vec nn (PV.parr 32 n (Sh.iarr IntKind.u8 32) M)]), rr (PV.st 4 [PV.str (strOf b), PV.st 3 [I6 c, I6 i, PV.vec nn (PV.parr 32 n (Sh.iarr IntKind.u8 32) M)]])] (by kernel_rfl) (ac (c1) (ao rfl))
/-- what is wrong with an entry -/
def enE (b : List Int) (c i : Int) (P : List (List Int)) (root it : List Int) : Nat := if txE b = 0 then (if paysB (txOuts b) it then bchE c i P root (dsha b) else 6) else txE b
theorem txOuts_facts {N : Nat} {b : List Int} (hl : b.length = N) (hb : Bytes b) (hN : N ≤ 1000000) : (txOuts b).length ≤ 1000000 ∧ OutsOk (txOuts b) := by
  have hr : (txR3 b).In b N := (((⟨hl, by show b.length ≤ N; omega, by show b = b.drop (N - b.length); rw [hl, Nat.sub_self]; rfl, hb⟩ : (Rd.mk b 0).In b N).tk 1).tk 8).var 8
  exact ⟨by unfold txOuts; rw [outsM_length]; have := Rd.vn_le (txR2 b) 8; unfold txN; omega, outsM_ok _ _ hr⟩
theorem pc_proves {tn il : Bool} {N m : Nat} {b it : List Int} {c i : Int} {nl : Bool} {n : Nat} {P : List (List Int)} {h : Hd} (hb : BsOk (tn, N, b)) (hN : N ≤ 1000000) (htn : tn = true → N = 0) (ho : HsOk P n) (hn : n ≤ 100) (hr : h.root.length = 32) (hit : it.length = m) (bit : Bytes it) :
    PC Tryd.prog G0 17 [] [enPV tn N b c i nl n P, h.pv, .vec il (.iarr .u8 m it)] [] (.int .i64 (enE b c i P h.root it)) := by
  refine PC.of (fn := Tryd.f17) (c := bodyOf Tryd.f17) Tryd.func17 (by kernel_rfl) (by kernel_rfl) (by kernel_rfl) (by kernel_rfl) ?_
  have c1 := pc_parse (nl := tn) hb.1 hb.2 hN htn
  have c2 := pc_txId hb hN
  have c3 := pc_bcheck (c := c) (i := i) (nl := nl) (root := h.root) (x := dsha b) ho hn (sha_length _) (sha_bytes _) hr
  unfold enE enPV Hd.pv
  have hle := txE_le b
  by_cases h0 : txE b = 0
  · rw [if_pos h0]
    obtain ⟨f1, f2⟩ := txOuts_facts hb.1 hb.2 hN
    have c4 := pc_pays (nl := (txOuts b).isEmpty) (il := il) (s := txSalt b) (L := txOuts b) (n := (txOuts b).length) rfl f1 f2 hit bit
    unfold txP txRes at c1
    rw [if_pos h0, h0, outsPV_eq] at c1
    unfold brPV hL at *
    generalize P.map hv = M at *
    generalize (txOuts b).map outPV = M2 at *
    generalize (txOuts b).isEmpty = oe at *
    generalize (txOuts b).length = on at *
    generalize txSalt b = salt at *
    generalize dsha b = id at *
    by_cases hp : paysB (txOuts b) it = true
    · rw [if_pos hp]
      rw [hp] at c4
      generalize bchE c i P h.root id = e at *
      refine W.ret [(5, Ans.call false [] [] (PV.tup [PV.st 2 [U6 (salt:Int), PV.vec oe (PV.parr 2 on (Sh.st 2 [Sh.int IntKind.u64, Sh.vec 1 (Sh.int IntKind.u8)]) M2)], I6 (↑(0 : Nat) : Int)])), (8, aV (I6 0)), (17, aK (PV.bool true)), (26, aK (B8 32 id)), (27, aK (I6 (e:Int)))] [] [PC Tryd.prog G0 32 [] [PV.vec tn (B8 N b)] [] (PV.tup [PV.st 2 [U6 (salt:Int), PV.vec oe (PV.parr 2 on (Sh.st 2 [Sh.int IntKind.u64, Sh.vec 1 (Sh.int IntKind.u8)]) M2)], I6 (↑(0 : Nat) : Int)]), I6 (↑(0 : Nat) : Int) = I6 0, PC Tryd.prog G0 33 [] [PV.st 2 [U6 (salt:Int), PV.vec oe (PV.parr 2 on (Sh.st 2 [Sh.int IntKind.u64, Sh.vec 1 (Sh.int IntKind.u8)]) M2)], PV.vec il (B8 m it)] [] (PV.bool true), PC Tryd.prog G0 23 [] [PV.vec tn (B8 N b)] [] (B8 32 id), PC Tryd.prog G0 34 [] [PV.st 3 [I6 c, I6 i, PV.vec nl (PV.parr 32 n (Sh.iarr IntKind.u8 32) M)], B8 32 (Hd.root h), B8 32 id] [] (I6 (e:Int)), rr (I6 (e:Int))] (by kernel_rfl) (ac (c1) (ac (cg (by omega)) (ac (c4) (ac (c2) (ac (c3) (ao rfl))))))
    · rw [if_neg hp]
      have hp' : paysB (txOuts b) it = false := by simpa using hp
      rw [hp'] at c4
      refine W.ret [(5, Ans.call false [] [] (PV.tup [PV.st 2 [U6 (salt:Int), PV.vec oe (PV.parr 2 on (Sh.st 2 [Sh.int IntKind.u64, Sh.vec 1 (Sh.int IntKind.u8)]) M2)], I6 (↑(0 : Nat) : Int)])), (8, aV (I6 0)), (17, aK (PV.bool false))] [] [PC Tryd.prog G0 32 [] [PV.vec tn (B8 N b)] [] (PV.tup [PV.st 2 [U6 (salt:Int), PV.vec oe (PV.parr 2 on (Sh.st 2 [Sh.int IntKind.u64, Sh.vec 1 (Sh.int IntKind.u8)]) M2)], I6 (↑(0 : Nat) : Int)]), I6 (↑(0 : Nat) : Int) = I6 0, PC Tryd.prog G0 33 [] [PV.st 2 [U6 (salt:Int), PV.vec oe (PV.parr 2 on (Sh.st 2 [Sh.int IntKind.u64, Sh.vec 1 (Sh.int IntKind.u8)]) M2)], PV.vec il (B8 m it)] [] (PV.bool false), I6 6 = I6 (↑(6 : Nat) : Int)] (by kernel_rfl) (ac (c1) (ac (cg (by omega)) (ac (c4) (ao (cg (by omega))))))
  · rw [if_neg h0]
    obtain ⟨s, o, mm, M, hf⟩ := txP_form b
    rw [hf] at c1
    have hne : ¬ ((txE b : Int) = 0) := by omega
    generalize txE b = e at *
    unfold brPV hL at *
    generalize P.map hv = M3 at *
    refine W.ret [(5, Ans.call false [] [] (PV.tup [PV.st 2 [U6 (s:Int), PV.vec o (PV.parr 2 mm (Sh.st 2 [Sh.int IntKind.u64, Sh.vec 1 (Sh.int IntKind.u8)]) M)], I6 (e:Int)])), (13, aT)] [] [PC Tryd.prog G0 32 [] [PV.vec tn (B8 N b)] [] (PV.tup [PV.st 2 [U6 (s:Int), PV.vec o (PV.parr 2 mm (Sh.st 2 [Sh.int IntKind.u64, Sh.vec 1 (Sh.int IntKind.u8)]) M)], I6 (e:Int)]), ((e:Int) != 0) = true, rr (I6 (e:Int))] (by kernel_rfl) (ac (c1) (ac (bne_iff_ne.2 (by omega)) (ao rfl)))
theorem pc_rProves {N : Nat} {b it root : List Int} {c i : Int} {nl : Bool} {n : Nat} {P : List (List Int)} (hl : b.length = N) (hb : Bytes b) (hN : N ≤ 1000000) (ho : HsOk P n) (hn : n ≤ 20) (hr : root.length = 32) (hit : it.length ≤ 1000000) (bit : Bytes it) :
    PC Tryd.prog G0 18 [] [renPV b c i nl n P, .iarr .u8 32 root, .str (strOf it)] [] (.int .i64 (enE b c i P root it)) := by
  refine PC.of (fn := Tryd.f18) (c := bodyOf Tryd.f18) Tryd.func18 (by kernel_rfl) (by kernel_rfl) (by kernel_rfl) (by kernel_rfl) ?_
  have c1 := pc_rParse hl hb hN
  have c2 := pc_rPays hl hb hN bit hit
  have c3 := pc_rTwice (s := strOf b) (by rw [strOf_size]; omega)
  rw [bytesOf_strOf hb] at c3
  have c4 := pc_rUp (c := c) (i := i) (nl := nl) (x := dsha b) ho hn (sha_length _) (sha_bytes _)
  obtain ⟨s, o, mm, M, hf⟩ := rtxP_form b
  rw [hf] at c1
  have ht := upT_len c i P (x := dsha b) (sha_length _)
  have hle := txE_le b
  have hue := upE_le c i P (dsha b)
  unfold enE renPV
  unfold paysT at c2
  by_cases h0 : txE b = 0
  · rw [if_pos h0]
    rw [h0] at c1
    rw [if_pos h0] at c2
    unfold bchE
    unfold upPV at c4
    unfold brPV hL at *
    generalize P.map hv = M2 at *
    generalize dsha b = id at *
    generalize strOf it = si at *
    generalize strOf b = t at *
    by_cases hp : paysB (txOuts b) it = true
    · rw [if_pos hp]
      rw [hp] at c2
      by_cases h1 : upE c i P id = 0
      · rw [h1] at c4 ⊢
        by_cases hq : upT c i P id = root
        · rw [if_neg (fun h => h.2 hq)]
          rw [hq] at c4
          refine W.ret [(5, Ans.call false [] [] (PV.tup [PV.st 2 [U6 (s:Int), PV.vec o (PV.parr 2 mm (Sh.st 2 [Sh.int IntKind.u64, Sh.str]) M)], I6 (↑(0 : Nat) : Int)])), (8, aV (I6 0)), (17, aK (PV.bool true)), (23, aK (B8 32 id)), (24, aK (PV.tup [B8 32 root, I6 (↑(0 : Nat) : Int)])), (27, aV (I6 0)), (36, aF)] [] [PC Tryd.prog G0 28 [] [PV.str t] [] (PV.tup [PV.st 2 [U6 (s:Int), PV.vec o (PV.parr 2 mm (Sh.st 2 [Sh.int IntKind.u64, Sh.str]) M)], I6 (↑(0 : Nat) : Int)]), I6 (↑(0 : Nat) : Int) = I6 0, PC Tryd.prog G0 35 [] [PV.str t, PV.str si] [] (PV.bool true), PC Tryd.prog G0 25 [] [PV.str t] [] (B8 32 id), PC Tryd.prog G0 36 [] [PV.st 3 [I6 c, I6 i, PV.vec nl (PV.parr 32 n (Sh.iarr IntKind.u8 32) M2)], B8 32 id] [] (PV.tup [B8 32 root, I6 (↑(0 : Nat) : Int)]), I6 (↑(0 : Nat) : Int) = I6 0, (!decide (root = root)) = false, I6 0 = I6 (↑(0 : Nat) : Int)] (by kernel_rfl) (ac (c1) (ac (cg (by omega)) (ac (c2) (ac (c3) (ac (c4) (ac (cg (by omega)) (ac (by (simp [*]; done)) (ao (cg (by omega))))))))))
        · rw [if_pos ⟨rfl, hq⟩]
          generalize upT c i P id = y at *
          refine W.ret [(5, Ans.call false [] [] (PV.tup [PV.st 2 [U6 (s:Int), PV.vec o (PV.parr 2 mm (Sh.st 2 [Sh.int IntKind.u64, Sh.str]) M)], I6 (↑(0 : Nat) : Int)])), (8, aV (I6 0)), (17, aK (PV.bool true)), (23, aK (B8 32 id)), (24, aK (PV.tup [B8 32 y, I6 (↑(0 : Nat) : Int)])), (27, aV (I6 0)), (36, aT)] [] [PC Tryd.prog G0 28 [] [PV.str t] [] (PV.tup [PV.st 2 [U6 (s:Int), PV.vec o (PV.parr 2 mm (Sh.st 2 [Sh.int IntKind.u64, Sh.str]) M)], I6 (↑(0 : Nat) : Int)]), I6 (↑(0 : Nat) : Int) = I6 0, PC Tryd.prog G0 35 [] [PV.str t, PV.str si] [] (PV.bool true), PC Tryd.prog G0 25 [] [PV.str t] [] (B8 32 id), PC Tryd.prog G0 36 [] [PV.st 3 [I6 c, I6 i, PV.vec nl (PV.parr 32 n (Sh.iarr IntKind.u8 32) M2)], B8 32 id] [] (PV.tup [B8 32 y, I6 (↑(0 : Nat) : Int)]), I6 (↑(0 : Nat) : Int) = I6 0, (!decide (y = root)) = true, I6 15 = I6 (↑(15 : Nat) : Int)] (by kernel_rfl) (ac (c1) (ac (cg (by omega)) (ac (c2) (ac (c3) (ac (c4) (ac (cg (by omega)) (ac (by (simp [*]; done)) (ao (cg (by omega))))))))))
      · rw [if_neg (fun e => h1 e.1)]
        have h' : ¬ ((upE c i P id : Nat) : Int) = 0 := by omega
        generalize upE c i P id = e at *
        generalize upT c i P id = y at *
        refine W.ret [(5, Ans.call false [] [] (PV.tup [PV.st 2 [U6 (s:Int), PV.vec o (PV.parr 2 mm (Sh.st 2 [Sh.int IntKind.u64, Sh.str]) M)], I6 (↑(0 : Nat) : Int)])), (8, aV (I6 0)), (17, aK (PV.bool true)), (23, aK (B8 32 id)), (24, aK (PV.tup [B8 32 y, I6 (e:Int)])), (32, aF)] [] [PC Tryd.prog G0 28 [] [PV.str t] [] (PV.tup [PV.st 2 [U6 (s:Int), PV.vec o (PV.parr 2 mm (Sh.st 2 [Sh.int IntKind.u64, Sh.str]) M)], I6 (↑(0 : Nat) : Int)]), I6 (↑(0 : Nat) : Int) = I6 0, PC Tryd.prog G0 35 [] [PV.str t, PV.str si] [] (PV.bool true), PC Tryd.prog G0 25 [] [PV.str t] [] (B8 32 id), PC Tryd.prog G0 36 [] [PV.st 3 [I6 c, I6 i, PV.vec nl (PV.parr 32 n (Sh.iarr IntKind.u8 32) M2)], B8 32 id] [] (PV.tup [B8 32 y, I6 (e:Int)]), ((e:Int) == 0) = false, rr (I6 (e:Int))] (by kernel_rfl) (ac (c1) (ac (cg (by omega)) (ac (c2) (ac (c3) (ac (c4) (ac (decide_eq_false (by omega)) (ao rfl)))))))
    · rw [if_neg hp]
      have hp' : paysB (txOuts b) it = false := by simpa using hp
      rw [hp'] at c2
      refine W.ret [(5, Ans.call false [] [] (PV.tup [PV.st 2 [U6 (s:Int), PV.vec o (PV.parr 2 mm (Sh.st 2 [Sh.int IntKind.u64, Sh.str]) M)], I6 (↑(0 : Nat) : Int)])), (8, aV (I6 0)), (17, aK (PV.bool false))] [] [PC Tryd.prog G0 28 [] [PV.str t] [] (PV.tup [PV.st 2 [U6 (s:Int), PV.vec o (PV.parr 2 mm (Sh.st 2 [Sh.int IntKind.u64, Sh.str]) M)], I6 (↑(0 : Nat) : Int)]), I6 (↑(0 : Nat) : Int) = I6 0, PC Tryd.prog G0 35 [] [PV.str t, PV.str si] [] (PV.bool false), I6 6 = I6 (↑(6 : Nat) : Int)] (by kernel_rfl) (ac (c1) (ac (cg (by omega)) (ac (c2) (ao (cg (by omega))))))
  · rw [if_neg h0]
    have hne : ¬ ((txE b : Int) = 0) := by omega
    clear c2 c3 c4 hue ht
    generalize txE b = e at *
    unfold brPV hL at *
    generalize P.map hv = M3 at *
    generalize strOf it = si at *
    generalize strOf b = t at *
    refine W.ret [(5, Ans.call false [] [] (PV.tup [PV.st 2 [U6 (s:Int), PV.vec o (PV.parr 2 mm (Sh.st 2 [Sh.int IntKind.u64, Sh.str]) M)], I6 (e:Int)])), (13, aT)] [] [PC Tryd.prog G0 28 [] [PV.str t] [] (PV.tup [PV.st 2 [U6 (s:Int), PV.vec o (PV.parr 2 mm (Sh.st 2 [Sh.int IntKind.u64, Sh.str]) M)], I6 (e:Int)]), ((e:Int) != 0) = true, rr (I6 (e:Int))] (by kernel_rfl) (ac (c1) (ac (bne_iff_ne.2 (by omega)) (ao rfl)))
end Go.Proofs
namespace Go.Proofs
open Go Go.Pe Go.Pm
set_option maxRecDepth 100000
set_option linter.unusedVariables false
def brsh : Sh := .st 3 [.int .i64, .int .i64, .vec 32 hsE]
def ensh : Sh := .st 4 [.vec 1 (.int .u8), brsh]
theorem hv_of {q : PV} (hc : conf hsE q = true) (hw : WF q) : ∃ y : List Int, q = hv y ∧ y.length = 32 ∧ Bytes y := by
  obtain ⟨l, rfl⟩ : ∃ l, q = .iarr .u8 32 l := ⟨_, (expose_conf _ _ hc).symm⟩
  simp only [WF] at hw
  exact ⟨l, rfl, hw.1, u8_bytes hw.2⟩
theorem hvs_of : ∀ {l : List PV}, WFL l → (∀ q ∈ l, size q = 32 ∧ conf hsE q = true ∧ noref q = true) → ∃ P : List (List Int), l = P.map hv ∧ ∀ y ∈ P, y.length = 32 ∧ Bytes y
  | [], _, _ => ⟨[], rfl, fun x hx => by cases hx⟩
  | p :: l, hw, hq => by
    simp only [WFL] at hw
    obtain ⟨y, rfl, ho⟩ := hv_of (hq p (by simp)).2.1 hw.1
    obtain ⟨P, rfl, hP⟩ := hvs_of hw.2 fun q hh => hq q (by simp [hh])
    refine ⟨y :: P, rfl, fun z hz => ?_⟩
    rcases List.mem_cons.1 hz with rfl | hz
    · exact ho
    · exact hP z hz
theorem br_of {p : PV} (hc : conf brsh p = true) (hw : WF p) : ∃ (c i : Int) (nl : Bool) (n : Nat) (P : List (List Int)), p = brPV c i nl n P ∧ HsOk P n ∧ (nl = true → n = 0) := by
  obtain ⟨c, i, nl, n, m, rfl⟩ : ∃ c i nl n m, p = .st 3 [.int .i64 c, .int .i64 i, .vec nl (.parr 32 n hsE m)] := ⟨_, _, _, _, _, (expose_conf _ _ hc).symm⟩
  simp only [WF, WFL] at hw
  obtain ⟨_, _, _, ⟨⟨h1, h2, h3⟩, _, h4⟩, _⟩ := hw
  obtain ⟨P, rfl, hP⟩ := hvs_of h2 h3
  exact ⟨c, i, nl, n, P, rfl, ⟨by rw [← h1, List.length_map], hP⟩, h4⟩
theorem en_of {p : PV} (hc : conf ensh p = true) (hw : WF p) : ∃ (tn : Bool) (N : Nat) (b : List Int) (c i : Int) (nl : Bool) (n : Nat) (P : List (List Int)), p = enPV tn N b c i nl n P ∧ BsOk (tn, N, b) ∧ (tn = true → N = 0) ∧ HsOk P n := by
  obtain ⟨x, y, rfl, hx, hy⟩ : ∃ x y, p = .st 4 [x, y] ∧ conf (.vec 1 (.int .u8)) x = true ∧ conf brsh y = true := by
    have e := expose_conf _ _ hc
    obtain ⟨x, y, rfl⟩ : ∃ x y, p = .st 4 [x, y] := ⟨_, _, e.symm⟩
    have h2 : (Nat.beq 4 4 && (conf (.vec 1 (.int .u8)) x && (conf brsh y && true))) = true := hc
    simp only [Bool.and_eq_true] at h2
    exact ⟨x, y, rfl, h2.2.1, h2.2.2.1⟩
  simp only [WF, WFL] at hw
  obtain ⟨c, i, nl, n, P, rfl, hP, _⟩ := br_of hy hw.2.2.1
  obtain ⟨⟨tn, N, b⟩, rfl, hb, ht⟩ := tx_of hx hw.2.1
  exact ⟨tn, N, b, c, i, nl, n, P, rfl, hb, ht, hP⟩
theorem pc_blockProves {tn il : Bool} {N m : Nat} {b it root : List Int} {c i : Int} {nl : Bool} {n : Nat} {P : List (List Int)} (hb : BsOk (tn, N, b)) (htn : tn = true → N = 0) (ho : HsOk P n) (hr : root.length = 32) (hit : it.length = m) (bit : Bytes it) :
    PC Tryd.prog G0 5 [] [enPV tn N b c i nl n P, .iarr .u8 32 root, .vec il (.iarr .u8 m it)] [] (.bool true) := by
  refine PC.of (fn := Tryd.f5) (c := bodyOf Tryd.f5) Tryd.func5 (by kernel_rfl) (by kernel_rfl) (by kernel_rfl) (by kernel_rfl) ?_
  have ca := pc_awake
  have hbl := hb.1
  dsimp only at hbl
  by_cases h1 : N ≤ 700
  · by_cases h2 : n ≤ 20
    · by_cases h3 : m ≤ 100
      · have c1 := pc_proves (c := c) (i := i) (nl := nl) (il := il) (h := ⟨0, z32, root, 0, 0, 0⟩) hb (by omega) htn ho (by omega) hr hit bit
        have c2 := pc_lawEntry (tn := tn) (c := c) (i := i) (nl := nl) hbl (by omega) ho (by omega)
        have c3 := pc_rProves (c := c) (i := i) (nl := decide (n = 0)) hbl hb.2 (by omega) ho h2 hr (by omega) bit
        unfold enPV renPV Hd.pv at *
        dsimp only at *
        generalize enE b c i P root it = e at *
        unfold brPV hL at *
        generalize P.map hv = M at *
        generalize decide (n = 0) = nn at *
        refine W.ret [(6, aF), (12, aF), (17, aF), (23, aK (I6 (e:Int))), (25, Ans.call false [] [] (PV.st 4 [PV.str (strOf b), PV.st 3 [I6 c, I6 i, PV.vec nn (PV.parr 32 n (Sh.iarr IntKind.u8 32) M)]])), (29, aK (I6 (e:Int))), (30, aT), (32, aK (PV.bool true))] [] [decide ((N:Int) > 700) = false, decide ((n:Int) > 20) = false, decide ((m:Int) > 100) = false, PC Tryd.prog G0 17 [] [PV.st 4 [PV.vec tn (B8 N b), PV.st 3 [I6 c, I6 i, PV.vec nl (PV.parr 32 n (Sh.iarr IntKind.u8 32) M)]], PV.st 68 [U3 0, B8 32 (List.replicate 32 0), B8 32 root, U3 0, U3 0, U3 0], PV.vec il (B8 m it)] [] (I6 (e:Int)), PC Tryd.prog G0 19 [] [PV.st 4 [PV.vec tn (B8 N b), PV.st 3 [I6 c, I6 i, PV.vec nl (PV.parr 32 n (Sh.iarr IntKind.u8 32) M)]]] [] (PV.st 4 [PV.str (strOf b), PV.st 3 [I6 c, I6 i, PV.vec nn (PV.parr 32 n (Sh.iarr IntKind.u8 32) M)]]), PC Tryd.prog G0 18 [] [PV.st 4 [PV.str (strOf b), PV.st 3 [I6 c, I6 i, PV.vec nn (PV.parr 32 n (Sh.iarr IntKind.u8 32) M)]], B8 32 root, PV.str (strOf it)] [] (I6 (e:Int)), ((e:Int) == (e:Int)) = true, PC Tryd.prog G0 8 [] [] [] (PV.bool true), rr (PV.bool true)] (by kernel_rfl) (ac (decide_eq_false (by omega)) (ac (decide_eq_false (by omega)) (ac (decide_eq_false (by omega)) (ac (c1) (ac (c2) (ac (c3) (ac (decide_eq_true (by omega)) (ac (ca) (ao rfl)))))))))
      · unfold enPV brPV hL
        generalize P.map hv = M at *
        refine W.ret [(6, aF), (12, aF), (17, aT), (19, aK (PV.bool true))] [] [decide ((N:Int) > 700) = false, decide ((n:Int) > 20) = false, decide ((m:Int) > 100) = true, PC Tryd.prog G0 8 [] [] [] (PV.bool true), rr (PV.bool true)] (by kernel_rfl) (ac (decide_eq_false (by omega)) (ac (decide_eq_false (by omega)) (ac (decide_eq_true (by omega)) (ac (ca) (ao rfl)))))
    · unfold enPV brPV hL
      generalize P.map hv = M at *
      refine W.ret [(6, aF), (12, aT), (19, aK (PV.bool true))] [] [decide ((N:Int) > 700) = false, decide ((n:Int) > 20) = true, PC Tryd.prog G0 8 [] [] [] (PV.bool true), rr (PV.bool true)] (by kernel_rfl) (ac (decide_eq_false (by omega)) (ac (decide_eq_true (by omega)) (ac (ca) (ao rfl))))
  · unfold enPV brPV hL
    generalize P.map hv = M at *
    refine W.ret [(6, aT), (19, aK (PV.bool true))] [] [decide ((N:Int) > 700) = true, PC Tryd.prog G0 8 [] [] [] (PV.bool true), rr (PV.bool true)] (by kernel_rfl) (ac (decide_eq_true (by omega)) (ac (ca) (ao rfl)))
end Go.Proofs
namespace Go.Pe
def laysB (P : Program) (tot : Nat) : Nat → List Field → Bool
  | o, [] => Nat.beq o tot
  | o, f :: l => Nat.beq f.offset o && laysB P tot (o + P.cellsOf f.type) l
def okT (P : Program) : Nat → TypeId → Bool
  | 0, _ => false
  | d + 1, t => match P.underlying t with
    | some .bool | some (.int _) | some .string => Nat.beq (P.cellsOf t) 1
    | some (.struct fs) => laysB P (P.cellsOf t) 0 fs.toList && fs.toList.all fun f => okT P d f.type
    | some (.array n e) => Nat.beq (P.cellsOf t) (n * P.cellsOf e) && szOk P e && okT P d e
    | some (.slice e) => Nat.beq (P.cellsOf t) 1 && szOk P e && okT P d e
    | _ => false
theorem same_refl (k : IntKind) : IntKind.same k k = true := by cases k <;> rfl
theorem beq_refl (s : Sh) : Sh.beq s s = true :=
  Sh.rec (motive_1 := fun s => Sh.beq s s = true) (motive_2 := fun l => Sh.beqL l l = true) rfl same_refl rfl rfl (fun _ _ ih => by simp only [Sh.beq, Bool.and_eq_true]; exact ⟨Nat.beq_refl _, ih⟩)
    (fun k _ => by simp only [Sh.beq, Bool.and_eq_true]; exact ⟨same_refl k, Nat.beq_refl _⟩) (fun _ _ _ ih => by simp only [Sh.beq, Bool.and_eq_true]; exact ⟨⟨Nat.beq_refl _, Nat.beq_refl _⟩, ih⟩)
    (fun _ _ ih => by simp only [Sh.beq, Bool.and_eq_true]; exact ⟨Nat.beq_refl _, ih⟩) rfl (fun _ _ h1 h2 => by simp only [Sh.beqL, Bool.and_eq_true]; exact ⟨h1, h2⟩) s
structure Opens (P : Program) (w : World) (T : T2) (d : Nat) (t : TypeId) (cs : List Value) (p : PV) : Prop where
  conf : conf (shOf P d t) p = true
  wf : WF p
  noref : noref p = true
  untup : untup p = true
  size : size p = P.cellsOf t
  len : cs.length = P.cellsOf t
  agg : Pe.isAgg p = isAggT P t
  rel : ∀ (j : Nat) (q : PV) (u : Value), (flat p)[j]? = some q → cs[j]? = some u → RC w T u q
theorem mapM_get {α β : Type} {g : α → Option β} : ∀ {l : List α} {xs : List β}, l.mapM g = some xs → ∀ i ∈ l, ∃ y, g i = some y
  | [], _, _, i, hi => by cases hi
  | a :: l, xs, h, i, hi => by
    rw [List.mapM_cons] at h
    simp only [Option.bind_eq_bind, Option.bind_eq_some_iff] at h
    obtain ⟨y, hy, ys, hys, _⟩ := h
    rcases List.mem_cons.1 hi with rfl | hi
    · exact ⟨y, hy⟩
    · exact mapM_get hys i hi
theorem flatL_nth {s : Nat} (hs : 0 < s) : ∀ {l : List PV}, WFL l → (∀ q ∈ l, Pe.size q = s) → ∀ {j : Nat} {q : PV}, (flatL l)[j]? = some q → ∃ p, l[j / s]? = some p ∧ (flat p)[j % s]? = some q
  | [], _, _, j, q, h => by simp [flatL] at h
  | p :: l, hw, hz, j, q, h => by
    simp only [WFL] at hw
    have hl : (flat p).length = s := by rw [flat_length p hw.1, hz p (by simp)]
    simp only [flatL] at h
    by_cases hj : j < s
    · rw [List.getElem?_append_left (by omega)] at h
      refine ⟨p, by rw [Nat.div_eq_of_lt hj]; rfl, by rw [Nat.mod_eq_of_lt hj]; exact h⟩
    · rw [List.getElem?_append_right (by omega), hl] at h
      obtain ⟨p', h1, h2⟩ := flatL_nth hs hw.2 (fun q hq => hz q (by simp [hq])) h
      have e : j = (j - s) + s := by omega
      refine ⟨p', ?_, ?_⟩
      · rw [e, Nat.add_div_right _ hs]
        simpa using h1
      · rw [e, Nat.add_mod_right]; exact h2
/-- The row of n elements. -/
def arrOf (P : Program) (d : Nat) (e : TypeId) (l : List PV) : PV := match P.underlying e with
  | some (.int k) => .iarr k l.length (l.map PV.num)
  | _ => .parr (P.cellsOf e) l.length (shOf P d e) l
section
variable {P : Program} {w : World} {T : T2}
theorem shOf_int {d : Nat} {e : TypeId} {k : IntKind} (h : P.underlying e = some (.int k)) : shOf P (d + 1) e = .int k := by simp only [shOf, h]
theorem shOf_slice {d : Nat} {t e : TypeId} (h : P.underlying t = some (.slice e)) : shOf P (d + 1) t = .vec (P.cellsOf e) (shOf P d e) := by simp only [shOf, h]
theorem arrOf_spec {d : Nat} {e : TypeId} {l : List PV} (hok : okT P d e = true) (hl : ∀ q ∈ l, Pe.conf (shOf P d e) q = true ∧ WF q ∧ Pe.noref q = true ∧ Pe.untup q = true ∧ Pe.size q = P.cellsOf e) :
    WF (arrOf P d e l) ∧ isArr (arrOf P d e l) = true ∧ arrLen (arrOf P d e l) = l.length ∧ elSize (arrOf P d e l) = P.cellsOf e ∧ Pe.untup (arrOf P d e l) = true ∧ flat (arrOf P d e l) = flatL l ∧ Pe.size (arrOf P d e l) = l.length * P.cellsOf e := by
  have hut : untupL l = true := by
    clear hok
    induction l with
    | nil => rfl
    | cons p l ih =>
      simp only [untupL, Bool.and_eq_true]
      exact ⟨(hl p (by simp)).2.2.2.1, ih fun q hq => hl q (by simp [hq])⟩
  unfold arrOf
  split
  · rename_i k hu
    obtain ⟨d', rfl⟩ : ∃ d', d = d' + 1 := by cases d with
      | zero => simp [okT] at hok
      | succ d => exact ⟨d, rfl⟩
    have h1 : P.cellsOf e = 1 := by
      simp only [okT, hu] at hok
      exact Nat.eq_of_beq_eq_true hok
    have hq : ∀ q ∈ l, ∃ x, q = .int k x ∧ k.wrap x = x := by
      intro q hq
      have := hl q hq
      rw [shOf_int hu] at this
      cases q <;> simp only [Pe.conf, reduceCtorEq, false_and] at this
      rename_i k' x
      have hk := IntKind.same_eq this.1
      subst hk
      exact ⟨x, rfl, by simpa only [WF] using this.2.1⟩
    have hf : (l.map PV.num).map (PV.int k) = l := by
      rw [List.map_map]
      conv => rhs; rw [← List.map_id l]
      refine List.map_congr_left fun q hql => ?_
      obtain ⟨x, rfl, _⟩ := hq q hql
      rfl
    have hfl : flatL l = l := by
      clear hok hf
      induction l with
      | nil => rfl
      | cons p l ih =>
        obtain ⟨x, rfl, _⟩ := hq p (by simp)
        simp only [flatL, flat]
        rw [ih (by simp only [untupL, Bool.and_eq_true] at hut; exact hut.2) (fun q hq' => hl q (by simp [hq'])) (fun q hq' => hq q (by simp [hq']))]
        rfl
    refine ⟨?_, rfl, rfl, by simp only [elSize]; omega, rfl, by simp only [flat]; rw [hf, hfl], by simp only [Pe.size]; rw [h1, Nat.mul_one]⟩
    simp only [WF, List.length_map, List.mem_map, true_and]
    rintro x ⟨q, hql, rfl⟩
    obtain ⟨x, rfl, hx⟩ := hq q hql
    exact hx
  · refine ⟨?_, rfl, rfl, rfl, by simpa only [Pe.untup] using hut, rfl, rfl⟩
    simp only [WF]
    exact ⟨trivial, WFL_of fun q hq => (hl q hq).2.1, fun q hq => ⟨(hl q hq).2.2.2.2, (hl q hq).1, (hl q hq).2.2.1⟩⟩
theorem opens_array {d n : Nat} {t e : TypeId} {cs : List Value} (hu : P.underlying t = some (.array n e)) (hc : P.cellsOf t = n * P.cellsOf e) (hok : okT P d e = true) (hs : 0 < P.cellsOf e) (hl : cs.length = P.cellsOf t)
    (h : ∀ i, i < n → ∃ p, Opens P w T d e ((cs.drop (i * P.cellsOf e)).take (P.cellsOf e)) p) : ∃ p, Opens P w T (d + 1) t cs p := by
  have hex : ∀ i, ∃ p, i < n → Opens P w T d e ((cs.drop (i * P.cellsOf e)).take (P.cellsOf e)) p := fun i => by
    by_cases hi : i < n
    · obtain ⟨p, hp⟩ := h i hi; exact ⟨p, fun _ => hp⟩
    · exact ⟨.undef, fun h => absurd h hi⟩
  obtain ⟨f, hf⟩ := Classical.axiomOfChoice hex
  have hmem : ∀ q ∈ (List.range n).map f, Pe.conf (shOf P d e) q = true ∧ WF q ∧ Pe.noref q = true ∧ Pe.untup q = true ∧ Pe.size q = P.cellsOf e := by
    intro q hq
    obtain ⟨i, hi, rfl⟩ := List.mem_map.1 hq
    have := hf i (by simpa using hi)
    exact ⟨this.conf, this.wf, this.noref, this.untup, this.size⟩
  obtain ⟨a1, a2, a3, a4, a5, a6, a7⟩ := arrOf_spec hok hmem
  have hlen : ((List.range n).map f).length = n := by simp
  refine ⟨arrOf P d e ((List.range n).map f), ?_, a1, arr_noref a2, a5, by rw [a7, hlen, hc], hl, ?_, fun j q u hq hu' => ?_⟩
  · unfold arrOf
    simp only [shOf, hu]
    cases hk : P.underlying e with
    | none =>
      simp only [Pe.conf, Bool.and_eq_true, hlen]
      exact ⟨⟨Nat.beq_refl _, Nat.beq_refl _⟩, beq_refl _⟩
    | some dsc => cases dsc with
    | int k =>
      simp only [Pe.conf, Bool.and_eq_true, hlen]
      exact ⟨same_refl k, Nat.beq_refl _⟩
    | _ =>
      simp only [Pe.conf, Bool.and_eq_true, hlen]
      exact ⟨⟨Nat.beq_refl _, Nat.beq_refl _⟩, beq_refl _⟩
  · have : Pe.isAgg (arrOf P d e ((List.range n).map f)) = true := by unfold arrOf; split <;> rfl
    rw [this]
    simp only [isAggT, hu]
  · rw [a6] at hq
    have hwl : WFL ((List.range n).map f) := WFL_of fun q hq => (hmem q hq).2.1
    obtain ⟨p, h1, h2⟩ := flatL_nth hs hwl (fun q hq => (hmem q hq).2.2.2.2) hq
    have hjn : j / P.cellsOf e < n := by have := (List.getElem?_eq_some_iff.1 h1).1; simpa using this
    have hp : p = f (j / P.cellsOf e) := by simp [hjn] at h1; exact h1.symm
    subst hp
    refine (hf _ hjn).rel (j % P.cellsOf e) q u h2 ?_
    rw [List.getElem?_take, if_pos (Nat.mod_lt _ hs), List.getElem?_drop, ← hu']
    congr 1
    rw [Nat.mul_comm]
    exact Nat.div_add_mod j (P.cellsOf e)
theorem opens_fields {d tot : Nat} {cs : List Value} (hl : cs.length = tot) : ∀ {fs : List Field} {o : Nat}, laysB P tot o fs = true → (∀ f ∈ fs, okT P d f.type = true ∧ ∃ p, Opens P w T d f.type ((cs.drop f.offset).take (P.cellsOf f.type)) p) →
    ∃ ps, confL (fs.map fun f => shOf P d f.type) ps = true ∧ WFL ps ∧ norefL ps = true ∧ untupL ps = true ∧ o + sizeL ps = tot ∧ ∀ (j : Nat) (q : PV) (u : Value), (flatL ps)[j]? = some q → cs[o + j]? = some u → RC w T u q
  | [], o, h, _ => by
    simp only [laysB] at h
    exact ⟨[], rfl, by simp [WFL], rfl, rfl, by simp only [sizeL]; exact Nat.eq_of_beq_eq_true h, fun j q u hq => by simp [flatL] at hq⟩
  | f :: fs, o, h, hf => by
    simp only [laysB, Bool.and_eq_true] at h
    obtain ⟨h1, h2⟩ := h
    have ho := Nat.eq_of_beq_eq_true h1
    obtain ⟨_, p, hp⟩ := hf f (by simp)
    obtain ⟨ps, g1, g2, g3, g4, g5, g6⟩ := opens_fields hl h2 fun x hx => hf x (by simp [hx])
    refine ⟨p :: ps, by simp only [List.map_cons, confL, Bool.and_eq_true]; exact ⟨hp.conf, g1⟩, by simp only [WFL]; exact ⟨hp.wf, g2⟩, by simp only [norefL, Bool.and_eq_true]; exact ⟨hp.noref, g3⟩, by simp only [untupL, Bool.and_eq_true]; exact ⟨hp.untup, g4⟩, by simp only [sizeL, hp.size]; omega, fun j q u hq hu => ?_⟩
    simp only [flatL] at hq
    have hlp : (flat p).length = P.cellsOf f.type := by rw [flat_length p hp.wf, hp.size]
    by_cases hj : j < P.cellsOf f.type
    · rw [List.getElem?_append_left (by omega)] at hq
      refine hp.rel j q u hq ?_
      rw [List.getElem?_take, if_pos hj, List.getElem?_drop, ho]
      exact hu
    · rw [List.getElem?_append_right (by omega), hlp] at hq
      refine g6 _ q u hq ?_
      rw [← hu]
      congr 1
      omega
end
section
variable {H : Type} {enc : TypeId × Value → H} {P : Program} {w : World} {base : Nat} {spare : Nat → Bool} {held : Bool}
theorem cells?_spec {a : Addr} {n : Nat} {cs : List Value} (h : w.cells? base a n = some cs) : cs.length = n ∧ ∀ j u, cs[j]? = some u → w.cell? (a.add j) = some u := by
  unfold World.cells? at h
  split at h
  · have : ∀ {l : List Nat} {xs : List Value}, l.mapM (fun i => w.cell? (a.add i)) = some xs → xs.length = l.length ∧ ∀ (j : Nat) (i : Nat) (u : Value), l[j]? = some i → xs[j]? = some u → w.cell? (a.add i) = some u := by
      intro l
      induction l with
      | nil => intro xs h; simp at h; subst h; exact ⟨rfl, fun j i u hi => by simp at hi⟩
      | cons b l ih =>
        intro xs h
        rw [List.mapM_cons] at h
        simp only [Option.bind_eq_bind, Option.bind_eq_some_iff, Option.pure_def, Option.some.injEq] at h
        obtain ⟨y, hy, ys, hys, rfl⟩ := h
        obtain ⟨e1, e2⟩ := ih hys
        refine ⟨by simp [e1], fun j i u hi hu => ?_⟩
        cases j with
        | zero => simp at hi hu; subst hi; subst hu; exact hy
        | succ j => simp at hi hu; exact e2 j i u hi hu
    obtain ⟨e1, e2⟩ := this h
    refine ⟨by simpa using e1, fun j u hu => ?_⟩
    have hj : j < n := by have := (List.getElem?_eq_some_iff.1 hu).1; simp at e1; omega
    exact e2 j j u (by simp [hj]) hu
  · cases h
theorem trod_opens : ∀ (d : Nat) (t : TypeId) (fuel : Nat) (cs : List Value) (x : DataW H × List MemPlace), okT P d t = true → DataW.trod enc P w base spare held fuel t cs = some x → ∃ p, Opens P w (fun b _ => b < w.heap.size) d t cs p
  | 0, _, _, _, _, h, _ => by simp [okT] at h
  | d + 1, t, 0, cs, x, _, h => by simp [DataW.trod] at h
  | d + 1, t, fuel + 1, cs, x, hok, h => by
    have hsz : ∀ e, szOk P e = true → 0 < P.cellsOf e := fun e he => Nat.pos_of_ne_zero (szOk_ne he)
    simp only [okT] at hok
    split at hok
    · rename_i hu
      have hc := Nat.eq_of_beq_eq_true hok
      obtain ⟨b, rfl, _⟩ := DataW.trod_bool hu h
      refine ⟨.bool b, by simp only [shOf, hu]; rfl, trivial, rfl, rfl, hc.symm, by rw [hc]; rfl, by simp only [isAggT, hu]; rfl, fun j q u hq hu' => ?_⟩
      cases j with
      | zero => simp [flat] at hq hu'; subst hq; subst hu'; exact .bool b
      | succ j => simp [flat] at hq
    · rename_i k hu
      have hc := Nat.eq_of_beq_eq_true hok
      obtain ⟨n, rfl, _, hwf⟩ := DataW.trod_int hu h
      have hw : k.wrap n = n := by
        rw [wrap_bounds]
        simpa [Lit.wf, IntKind.has] using hwf
      refine ⟨.int k n, by simp only [shOf, hu, conf]; cases k <;> rfl, by simp only [WF]; exact hw, rfl, rfl, hc.symm, by rw [hc]; rfl, by simp only [isAggT, hu]; rfl, fun j q u hq hu' => ?_⟩
      cases j with
      | zero => simp [flat] at hq hu'; subst hq; subst hu'; exact .int k n
      | succ j => simp [flat] at hq
    · rename_i hu
      have hc := Nat.eq_of_beq_eq_true hok
      obtain ⟨s, rfl, _, hs⟩ := DataW.trod_string hu h
      refine ⟨.str s, by simp only [shOf, hu]; rfl, trivial, rfl, rfl, hc.symm, by rw [hc]; rfl, by simp only [isAggT, hu]; rfl, fun j q u hq hu' => ?_⟩
      cases j with
      | zero => simp [flat] at hq hu'; subst hq; subst hu'; exact .str s hs
      | succ j => simp [flat] at hq
    · rename_i fs hu
      simp only [Bool.and_eq_true, List.all_eq_true] at hok
      simp only [DataW.trod, hu] at h
      split at h
      · rename_i hl
        simp only [Option.map_eq_some_iff] at h
        obtain ⟨xs, hxs, _⟩ := h
        obtain ⟨ps, g1, g2, g3, g4, g5, g6⟩ := opens_fields (P := P) (w := w) (T := fun b _ => b < w.heap.size) (d := d) hl hok.1 (fun f hf => ⟨hok.2 f hf, by
          obtain ⟨y, hy⟩ := mapM_get hxs f hf
          exact trod_opens d f.type fuel _ y (hok.2 f hf) hy⟩)
        refine ⟨.st (P.cellsOf t) ps, by simp only [shOf, hu, conf, Bool.and_eq_true]; exact ⟨Nat.beq_refl _, g1⟩, by simp only [WF]; exact ⟨by omega, g2⟩, by simp only [noref]; exact g3, by simp only [untup]; exact g4, rfl, hl, by simp only [isAggT, hu]; rfl, fun j q u hq hu' => ?_⟩
        simp only [flat] at hq
        exact g6 j q u hq (by rw [Nat.zero_add]; exact hu')
      · cases h
    · rename_i n e hu
      simp only [Bool.and_eq_true] at hok
      have hc := Nat.eq_of_beq_eq_true hok.1.1
      simp only [DataW.trod, hu] at h
      split at h
      · rename_i hl
        simp only [Option.map_eq_some_iff] at h
        obtain ⟨xs, hxs, _⟩ := h
        exact opens_array hu hc hok.2 (hsz e hok.1.2) hl fun i hi => by
          obtain ⟨y, hy⟩ := mapM_get hxs i (by simpa using hi)
          exact trod_opens d e fuel _ y hok.2 hy
      · cases h
    · rename_i e hu
      simp only [Bool.and_eq_true] at hok
      have hc := Nat.eq_of_beq_eq_true hok.1.1
      have hpos := hsz e hok.1.2
      have hone : ∀ (v : Value) (c : PV) (nl : Bool), cs = [v] → WF (.vec nl c) → Pe.conf (shOf P (d + 1) t) (.vec nl c) = true → RC w (fun b _ => b < w.heap.size) v (.vec nl c) → ∃ p, Opens P w (fun b _ => b < w.heap.size) (d + 1) t cs p := by
        rintro v c nl rfl h1 h2 h3
        refine ⟨.vec nl c, h2, h1, rfl, rfl, hc.symm, by rw [hc]; rfl, by simp only [isAggT, hu]; rfl, fun j q u hq hu' => ?_⟩
        cases j with
        | zero => simp [flat] at hq hu'; subst hq; subst hu'; exact h3
        | succ j => simp [flat] at hq
      have hshape : ∀ l : List PV, ∀ nl, Pe.conf (shOf P (d + 1) t) (.vec nl (arrOf P d e l)) = true := by
        intro l nl
        obtain ⟨d', rfl⟩ : ∃ d', d = d' + 1 := by cases d with
          | zero => simp [okT] at hok
          | succ d => exact ⟨d, rfl⟩
        have hsh : shOf P (d' + 1 + 1) t = .vec (P.cellsOf e) (shOf P (d' + 1) e) := shOf_slice hu
        rw [hsh]
        by_cases hk : ∃ k, P.underlying e = some (.int k)
        · obtain ⟨k, hk⟩ := hk
          have : arrOf P (d' + 1) e l = .iarr k l.length (l.map PV.num) := by simp only [arrOf, hk]
          rw [this, shOf_int hk]
          simp only [Pe.conf]
          exact same_refl k
        · have : arrOf P (d' + 1) e l = .parr (P.cellsOf e) l.length (shOf P (d' + 1) e) l := by
            unfold arrOf
            split
            · rename_i k hk'; exact absurd ⟨k, hk'⟩ hk
            · rfl
          rw [this]
          have hni : Sh.isInt (shOf P (d' + 1) e) = false := by
            cases he : P.underlying e with
            | none => simp only [shOf, he, Sh.isInt]
            | some dsc => cases dsc with
              | int k => exact absurd ⟨k, he⟩ hk
              | array n e' =>
                simp only [shOf, he]
                split <;> rfl
              | _ => simp only [shOf, he, Sh.isInt]
          cases hs2 : shOf P (d' + 1) e with
          | int k => rw [hs2] at hni; simp [Sh.isInt] at hni
          | _ => simp only [Pe.conf, Bool.and_eq_true, Sh.isInt, Bool.not_false, true_and]; exact ⟨Nat.beq_refl _, beq_refl _⟩
      rcases DataW.trod_slice hu h with ⟨hx, _⟩ | ⟨a, len, cap, elems, rest, n, hf, hx, _, _, h1, h2, h3, h4, _⟩
      · obtain ⟨a1, a2, a3, _⟩ := arrOf_spec (P := P) (d := d) (e := e) (l := []) hok.2 (fun q hq => by cases hq)
        exact hone _ (arrOf P d e []) true hx (by simp only [WF]; exact ⟨a1, a2, fun _ => a3⟩) (hshape [] true) (.vec0 _ _ _ _ a3 rfl (fun _ => rfl))
      · have hfu : n = fuel := by omega
        subst hfu
        have hex : ∀ i, ∃ p, i < len → ∃ cs', w.cells? base (a.add (i * P.cellsOf e)) (P.cellsOf e) = some cs' ∧ Opens P w (fun b _ => b < w.heap.size) d e cs' p := fun i => by
          by_cases hi : i < len
          · have := h4 i hi
            rw [List.getElem?_eq_getElem (by omega), Option.bind_eq_some_iff] at this
            obtain ⟨cs', c1, c2⟩ := this
            obtain ⟨p, hp⟩ := trod_opens d e n cs' _ hok.2 c2
            exact ⟨p, fun _ => ⟨cs', c1, hp⟩⟩
          · exact ⟨.undef, fun h => absurd h hi⟩
        obtain ⟨f, hf⟩ := Classical.axiomOfChoice hex
        have hmem : ∀ q ∈ (List.range len).map f, Pe.conf (shOf P d e) q = true ∧ WF q ∧ Pe.noref q = true ∧ Pe.untup q = true ∧ Pe.size q = P.cellsOf e := by
          intro q hq
          obtain ⟨i, hi, rfl⟩ := List.mem_map.1 hq
          obtain ⟨cs', _, hp⟩ := hf i (by simpa using hi)
          exact ⟨hp.conf, hp.wf, hp.noref, hp.untup, hp.size⟩
        obtain ⟨a1, a2, a3, a4, a5, a6, a7⟩ := arrOf_spec hok.2 hmem
        have hlen : ((List.range len).map f).length = len := by simp
        rw [hlen] at a3
        rcases Nat.eq_zero_or_pos len with h0 | h0
        · subst h0
          exact hone _ (arrOf P d e ((List.range 0).map f)) false hx (by simp only [WF]; exact ⟨a1, a2, fun e => by cases e⟩) (hshape _ false) (.vec0 _ _ _ _ a3 rfl (fun e => by cases e))
        · have hsp : a.spot = none := by
            obtain ⟨cs', c1, hp⟩ := hf 0 h0
            obtain ⟨e1, e2⟩ := cells?_spec c1
            have := e2 0 cs'[0] (List.getElem?_eq_getElem (by omega))
            unfold World.cell? at this
            split at this
            · split at this
              · cases this
              · rename_i hs
                simpa [Addr.add] using hs
            · cases this
          obtain ⟨bk, o, sp⟩ := a
          simp only at hsp
          subst hsp
          have hcell : ∀ j, ∃ u, ∀ q, (flat (arrOf P d e ((List.range len).map f)))[j]? = some q → w.cell? ⟨bk, o + j, none⟩ = some u ∧ RC w (fun b _ => b < w.heap.size) u q := by
            intro j
            cases hj : (flat (arrOf P d e ((List.range len).map f)))[j]? with
            | none => exact ⟨Go.undef, fun q hq => by cases hq⟩
            | some q =>
              rw [a6] at hj
              obtain ⟨p, p1, p2⟩ := flatL_nth hpos (WFL_of fun q hq => (hmem q hq).2.1) (fun q hq => (hmem q hq).2.2.2.2) hj
              have hjn : j / P.cellsOf e < len := by have := (List.getElem?_eq_some_iff.1 p1).1; simpa using this
              have hp : p = f (j / P.cellsOf e) := by simp [hjn] at p1; exact p1.symm
              subst hp
              obtain ⟨cs', c1, hp⟩ := hf _ hjn
              obtain ⟨e1, e2⟩ := cells?_spec c1
              have hm : j % P.cellsOf e < cs'.length := by rw [e1]; exact Nat.mod_lt _ hpos
              refine ⟨cs'[j % P.cellsOf e], fun q' hq' => ?_⟩
              cases hq'
              refine ⟨?_, hp.rel _ q _ p2 (List.getElem?_eq_getElem hm)⟩
              have := e2 _ _ (List.getElem?_eq_getElem hm)
              rw [add_none, add_none] at this
              rw [← this]
              congr 2
              rw [Nat.add_assoc, Nat.mul_comm, Nat.div_add_mod]
          obtain ⟨us, hus⟩ := Classical.axiomOfChoice hcell
          exact hone _ (arrOf P d e ((List.range len).map f)) false hx (by simp only [WF]; exact ⟨a1, a2, fun e => by cases e⟩) (hshape _ false)
            (.vec1 _ _ _ _ _ us a3 h1 h2 (fun j q hq => ⟨lt_of_cell? (hus j q hq).1, (hus j q hq).1⟩) (fun j q hq => (hus j q hq).2))
    · cases hok
end
end Go.Pe
namespace Go.Pe
open Go.ChangeShapes Go.WideShapes Go.ChangeAt Go.RowKit
section
variable {H : Type} {enc : TypeId × Value → H} {P : Program}
theorem post_below {f : Func} {s : ChangeSpec} {apart fresh handsOn again : Bool} {W W' : World} {args : Array Value} {v : Value} {ds gs : List (DataW H)} {before pa pv : List MemPlace}
    (hW : DataW.Whole enc P f.params.toList s.vars apart W args.toList ds gs before)
    (hres : ∀ (b : Nat) (sp : Nat → Bool) (hd : Bool), DataW.TrodAll enc P W' b sp hd f.resultTypes.toList (v.resultList f.resultTypes.size) (s.fn H (ds ++ gs)).results [])
    (hargs : ∀ sp : Nat → Bool, (∀ p ∈ before, sp p.block = true) → DataW.TrodAll enc P W' 0 sp true f.params.toList args.toList (s.fn H (ds ++ gs)).args pa)
    (hvars : ∀ sp : Nat → Bool, (∀ p ∈ before, sp p.block = true) → DataW.TrodVars enc P W' sp s.vars (s.fn H (ds ++ gs)).vars pv)
    (hps : before = pa ++ pv) (hb : Below W.heap.size W W')
    (hok : ∀ (j : Nat) (t : TypeId) (r : Value), f.resultTypes[j]? = some t → (v.resultList f.resultTypes.size)[j]? = some r → Value.okWide P W' .any 0 t r) :
    s.post enc P f apart fresh handsOn again W args v W' := by
  have hlt : ∀ p ∈ before, p.block < W.heap.size := fun p hp => hW.lt p hp
  have hold : ∀ p ∈ before, (fun b => decide (b < W.heap.size)) p.block = true := fun p hp => by simpa using hlt p hp
  refine ⟨ds, gs, before, [], pa, pv, hW, hres _ _ _, hargs _ hold, hvars _ hold, World.keptBut_mono (fun p hp => ⟨hp, ?_⟩) (hb.frame (· ∈ before)), fun _ => ?_⟩
  · rw [hps, List.mem_append] at hp
    exact Or.inr hp
  · obtain ⟨_, _, _, _, _, hz, hn⟩ := hW
    refine ⟨hok, _, _, ([] ++ pa) ++ pv, ⟨[] ++ pa, pv, trodAll_append (hargs _ (fun _ _ => rfl)) (hres _ _ _), hvars _ (fun _ _ => rfl), rfl, ?_, ?_⟩, ?_⟩
    · intro b off hp
      have hin : MemPlace.cell b off ∈ before := by rw [hps]; simpa using hp
      rw [hb.frozen (hlt _ hin)]
      exact hz b off hin
    · intro ha
      have := hn ha
      rw [hps] at this
      simpa using this
    · intro p hp _
      rw [hps]
      simpa using hp
theorem trodAll_stays (hl : laidOutB P = true) {W W' : World} (hb : Below W.heap.size W W') {sp : Nat → Bool} : ∀ {ts : List TypeId} {vs : List Value} {ds : List (DataW H)} {ps : List MemPlace}, (∀ t ∈ ts, P.readableRec t = true ∧ t < P.types.size) →
    DataW.TrodAll enc P W 0 (fun _ => true) true ts vs ds ps → (∀ p ∈ ps, sp p.block = true) → DataW.TrodAll enc P W' 0 sp true ts vs ds ps
  | [], [], [], _, _, h, _ => h
  | t :: ts, v :: vs, d :: ds, ps, ht, h, hs => by
    have hlt := h.lt
    obtain ⟨p, q, h1, h2, rfl⟩ := h
    exact ⟨p, q, WideElems.Trod_stays hl (ht t (by simp)).1 (ht t (by simp)).2 h1 (fun x hx => hb.same (hlt x (by simp [hx]))) (fun x hx => hs x (by simp [hx])),
      trodAll_stays hl hb (fun t ht' => ht t (by simp [ht'])) h2 (fun x hx => hs x (by simp [hx])), rfl⟩
  | [], _ :: _, _, _, _, h, _ => by simp [DataW.TrodAll] at h
  | [], [], _ :: _, _, _, h, _ => by simp [DataW.TrodAll] at h
  | _ :: _, [], _, _, _, h, _ => by simp [DataW.TrodAll] at h
  | _ :: _, _ :: _, [], _, _, h, _ => by simp [DataW.TrodAll] at h
/-- What an input's values stand for. -/
structure Ins (P : Program) (ts : List TypeId) (ps : List PV) : Prop where
  conf : confL (ts.map (shOf P 9)) ps = true
  wf : WFL ps
  untup : untupL ps = true
theorem RV_opens {W : World} {base : Nat} {t : TypeId} {v : Value} {p : PV} (hv : Value.okWide P W .any base t v) (h : Opens P W (fun b _ => b < W.heap.size) 9 t v.cells.toList p) : RV W (fun b _ => b < W.heap.size) (fun _ => none) v p := by
  have hnt : ∀ vs, p ≠ .tup vs := fun vs e => by have := h.untup; subst e; simp [Pe.untup] at this
  cases ha : Pe.isAgg p with
  | true =>
    have hat : isAggT P t = true := by rw [← h.agg]; exact ha
    have : ∃ cs, v = .agg cs := by
      unfold isAggT at hat
      unfold Value.okWide at hv
      split at hat
      · rename_i fs hu
        rw [hu] at hv
        obtain ⟨cs, hc, _⟩ := hv
        exact ⟨cs, hc⟩
      · rename_i n e hu
        rw [hu] at hv
        obtain ⟨cs, hc, _⟩ := hv
        exact ⟨cs, hc⟩
      · cases hat
    obtain ⟨cs, rfl⟩ := this
    refine RV.of_agg ha h.wf ⟨cs, rfl, ?_, fun j q u hq hu => RO.of_closed (h.rel j q u hq ?_)⟩
    · have := h.len
      simp only [Value.cells, Array.length_toList] at this
      rw [this, h.size]
    · simpa [Value.cells] using hu
  | false =>
    have hl : Pe.leaf p = true := by rw [Pe.leaf_agg, ha]; rfl
    have hone : v.cells = #[v] := by
      have hnagg : ∀ cs, v ≠ .agg cs := by
        rintro cs rfl
        have hat : isAggT P t = false := by rw [← h.agg]; exact ha
        unfold Value.okWide at hv
        unfold isAggT at hat
        split at hv
        · rename_i fs hu; rw [hu] at hat; cases hat
        · rename_i n e hu; rw [hu] at hat; cases hat
        · unfold Cell.okWide at hv
          split at hv <;> simp_all [Cell.ok]
      cases v <;> first | rfl | exact absurd rfl (hnagg _)
    refine RV.of_leaf hl hnt h.wf (RO.of_closed (h.rel 0 p v (by rw [flat_leaf hl]; rfl) (by rw [hone]; rfl)))
theorem ins_of {W : World} {base : Nat} : ∀ {ts : List TypeId} {vs : List Value} {ds : List (DataW H)} {ps : List MemPlace}, (∀ t ∈ ts, okT P 9 t = true) → (∀ (j : Nat) t v, ts[j]? = some t → vs[j]? = some v → Value.okWide P W .any base t v) →
    DataW.TrodAll enc P W 0 (fun _ => true) true ts vs ds ps → ∃ qs, Ins P ts qs ∧ qs.length = vs.length ∧ ∀ (j : Nat) (p : PV) (v : Value), qs[j]? = some p → vs[j]? = some v → RV W (fun b _ => b < W.heap.size) (fun _ => none) v p
  | [], [], [], _, _, _, _ => ⟨[], ⟨rfl, by simp [WFL], rfl⟩, rfl, fun j p v hp => by simp at hp⟩
  | t :: ts, v :: vs, d :: ds, ps, ht, hv, h => by
    obtain ⟨p, q, ⟨fuel, h1⟩, h2, rfl⟩ := h
    obtain ⟨x, hx⟩ := trod_opens 9 t fuel _ _ (ht t (by simp)) h1
    obtain ⟨qs, g1, g2, g3⟩ := ins_of (fun t' h' => ht t' (by simp [h'])) (fun j t' v' hj hj' => hv (j + 1) t' v' (by simpa using hj) (by simpa using hj')) h2
    refine ⟨x :: qs, ⟨by simp only [List.map_cons, confL, Bool.and_eq_true]; exact ⟨hx.conf, g1.conf⟩, by simp only [WFL]; exact ⟨hx.wf, g1.wf⟩, by simp only [untupL, Bool.and_eq_true]; exact ⟨hx.untup, g1.untup⟩⟩, by simp [g2], fun j p' v' hp hv' => ?_⟩
    cases j with
    | zero =>
      simp at hp hv'
      subst hp; subst hv'
      exact RV_opens (hv 0 t v rfl rfl) hx
    | succ j => simp at hp hv'; exact g3 j p' v' hp hv'
  | [], _ :: _, _, _, _, _, h => by simp [DataW.TrodAll] at h
  | [], [], _ :: _, _, _, _, h => by simp [DataW.TrodAll] at h
  | _ :: _, [], _, _, _, _, h => by simp [DataW.TrodAll] at h
  | _ :: _, _ :: _, [], _, _, _, h => by simp [DataW.TrodAll] at h
theorem below_of_FR {w w' : World} {M : T2} (hM : ∀ b o, ¬ M b o) (h : FR M w w') : Below w.heap.size w w' := by
  refine ⟨h.os, h.tape, h.output, h.size, fun k hk => ?_⟩
  rcases h.block k hk with e | ⟨cs, cs', t, fz, e1, e2, e3, e4⟩
  · exact e.symm
  · rw [e1, e2]
    have : cs' = cs := by
      apply Array.ext_getElem?
      intro i
      exact e4 i (hM k i)
    rw [this]
end
end Go.Pe
namespace Go.Pe
open Go.ChangeShapes Go.WideShapes Go.ChangeAt Go.RowKit
section
variable {H : Type} {enc : TypeId × Value → H} {P : Program}
theorem mapM_idx {α β : Type} {g : α → Option β} : ∀ {l : List α} {xs : List β}, l.mapM g = some xs → ∀ (i : Nat) (a : α), l[i]? = some a → ∃ y, xs[i]? = some y ∧ g a = some y
  | [], _, _, i, a, hi => by simp at hi
  | b :: l, xs, h, i, a, hi => by
    rw [List.mapM_cons] at h
    simp only [Option.bind_eq_bind, Option.bind_eq_some_iff] at h
    obtain ⟨y, hy, ys, hys, hx⟩ := h
    obtain rfl := Option.some.inj hx
    cases i with
    | zero => simp at hi; subst hi; exact ⟨y, rfl, hy⟩
    | succ i => exact mapM_idx hys i a (by simpa using hi)
theorem laid_mem {w : World} : ∀ {l : List (String × DataW Unit)} {ps : List MemPlace}, DataW.LaidVars P w l ps → ∀ x ∈ l, ∃ g t cs fuel p, P.globalNamed x.1 = some g ∧ (P.globals[g]?).map (·.type) = some t ∧ w.var? P x.1 = some cs ∧ DataW.trod (fun _ => ()) P w 0 (fun _ => true) false fuel t cs.toList = some (x.2, p)
  | [], _, _, x, hx => by cases hx
  | (n, d) :: l, ps, h, x, hx => by
    simp only [DataW.LaidVars] at h
    obtain ⟨g, t, cs, fuel, p, q, h1, h2, h3, h4, h5, _⟩ := h
    rcases List.mem_cons.1 hx with rfl | hx
    · exact ⟨g, t, cs, fuel, p, h1, h2, h3, h4⟩
    · exact laid_mem h5 x hx
theorem trod_int {w : World} {base fuel : Nat} {sp : Nat → Bool} {held : Bool} {t : TypeId} {k k' : IntKind} {n : Int} {cs : List Value} {p : List MemPlace} (hu : P.underlying t = some (.int k))
    (h : DataW.trod enc P w base sp held fuel t cs = some (.lit (.int k' n), p)) : cs = [.int k n] := by
  cases fuel with
  | zero => simp [DataW.trod] at h
  | succ fuel =>
    simp only [DataW.trod, hu] at h
    split at h <;> simp_all
/-- a variable that holds an array of integers -/
theorem glob_ints {W : World} {laid : List (String × DataW Unit)} (h : laidMet P laid W) {name : String} {g t e m : Nat} {k : IntKind} {ls : List Int} (hin : (name, .agg (ls.map fun v => .lit (.int k v))) ∈ laid)
    (hg : P.globalNamed name = some g) (ht : (P.globals[g]?).map (·.type) = some t) (hu : P.underlying t = some (.array m e)) (he : P.underlying e = some (.int k)) (hce : P.cellsOf e = 1) (hct : P.cellsOf t = m) (hm : ls.length = m) :
    RC W (fun b _ => b < W.heap.size) (.pointer (some ⟨g, 0, none⟩)) (.cptr (.iarr k m ls) []) := by
  obtain ⟨ps, hL, _, _⟩ := h
  obtain ⟨g', t', cs, fuel, p, h1, h2, h3, h4⟩ := laid_mem hL _ hin
  obtain rfl := Option.some.inj (hg.symm.trans h1)
  obtain rfl := Option.some.inj (ht.symm.trans h2)
  have hcell : ∀ (i : Nat) (v : Int), ls[i]? = some v → cs[i]? = some (Value.int k v) := by
    intro i v hv
    cases fuel with
    | zero => simp [DataW.trod] at h4
    | succ fuel =>
      simp only [DataW.trod, hu] at h4
      split at h4
      · rename_i hl
        simp only [Option.map_eq_some_iff] at h4
        obtain ⟨xs, hxs, hd⟩ := h4
        simp only [Prod.mk.injEq, DataW.agg.injEq] at hd
        have hi : i < ls.length := by
          rw [List.getElem?_eq_some_iff] at hv
          exact hv.1
        obtain ⟨y, hy1, hy2⟩ := mapM_idx hxs i i (by rw [List.getElem?_range (by omega)])
        have hy : (xs.map (·.1))[i]? = some y.1 := by rw [List.getElem?_map, hy1]; rfl
        rw [hd.1, List.getElem?_map, hv] at hy
        obtain ⟨y1, y2⟩ := y
        simp only [Option.map_some, Option.some.injEq] at hy
        subst hy
        have := trod_int he hy2
        rw [hce, Nat.mul_one] at this
        have e : cs.toList[i]? = some (Value.int k v) := by
          have e0 := congrArg (fun l => l[0]?) this
          simpa using e0
        simpa using e
      · cases h4
  have hcw : ∀ (i : Nat) (v : Int), ls[i]? = some v → W.cell? ⟨g, i, none⟩ = some (Value.int k v) := fun i v hv => by rw [World.var?_cell hg h3, hcell i v hv]
  refine RC.cptr g 0 _ [] (fun j => Value.int k (ls.getD j 0)) ?_ ?_
  · intro j q hq
    simp only [flat, List.getElem?_map, Option.map_eq_some_iff] at hq
    obtain ⟨v, hv, rfl⟩ := hq
    have hc := hcw j v hv
    rw [Nat.zero_add]
    refine ⟨?_, by rw [hc, List.getD_eq_getElem?_getD, hv]; rfl⟩
    rcases Nat.lt_or_ge g W.heap.size with h | h
    · exact h
    · simp [World.cell?, Array.getElem?_eq_none h] at hc
  · intro j q hq
    simp only [flat, List.getElem?_map, Option.map_eq_some_iff] at hq
    obtain ⟨v, hv, rfl⟩ := hq
    rw [List.getD_eq_getElem?_getD, hv]
    exact .int k v
theorem wants_of {ps : Array TypeId} (h : ps.toList.all (fun t => !P.wantsStandIn t) = true) (j : Nat) (t : TypeId) (ht : ps[j]? = some t) : P.wantsStandIn t = false := by
  have := List.all_eq_true.1 h t (by rw [← Array.getElem?_toList] at ht; exact List.mem_of_getElem? ht)
  simpa using this
/-- a world with a variable laid -/
noncomputable def laidW (P : Program) (os : Os) (g : Nat) (cs : Array Value) : World :=
  let w0 := World.holding P os ⟨#[], #[], []⟩
  { w0 with heap := w0.heap.modify g fun
      | .cells _ t frozen => .cells cs t frozen
      | o => o }
/-- THE LAW's STEP over laid variables. -/
theorem law_callsG {G : Nat → Option PV} {f : FuncId} {fn : Func} {s : ChangeSpec} {apart fresh handsOn again : Bool} {tb : TypeId} (hl : laidOutB P = true) (hvars : s.vars = []) (hr : fn.resultTypes = #[tb]) (hb : P.underlying tb = some .bool)
    (hbody : hasBody P f) (hspec : ∀ ds : List (DataW H), ds.length = fn.params.toList.length → s.fn H ds = { results := [.lit (.bool true)], args := ds })
    (ht : fn.params.toList.all (fun t => okT P 9 t && P.readableRec t && Nat.blt t P.types.size) = true)
    (hpc : ∀ ps, Ins P fn.params.toList ps → PC P G f [] ps [] (.bool true))
    {W : World} (hG : ∀ g c, G g = some c → WF c ∧ noref c = true ∧ RC W (fun b _ => b < W.heap.size) (.pointer (some ⟨g, 0, none⟩)) (.cptr c []))
    {base : Nat} {args : Array Value} {ds gs : List (DataW H)} {before : List MemPlace}
    (hval : ∀ (j : Nat) t v, fn.params[j]? = some t → args[j]? = some v → Value.okWide P W .any base t v)
    (hW : DataW.Whole enc P fn.params.toList s.vars apart W args.toList ds gs before) :
    Calls P f args W fun e W' => ∃ v, e = .returned v ∧ s.post enc P fn apart fresh handsOn again W args v W' := by
  have ht' : ∀ t ∈ fn.params.toList, okT P 9 t = true ∧ P.readableRec t = true ∧ t < P.types.size := by
    intro t h
    have := List.all_eq_true.1 ht t h
    simp only [Bool.and_eq_true] at this
    exact ⟨this.1.1, this.1.2, Nat.blt_eq ▸ this.2⟩
  have hW' := hW
  obtain ⟨p, q, hA, hV, rfl, hz, hn⟩ := hW
  rw [hvars] at hV
  obtain ⟨rfl, rfl⟩ := trodVars_none hV
  obtain ⟨l1, l2⟩ := trodAll_length hA
  obtain ⟨qs, g1, g2, g3⟩ := ins_of (base := base) (fun t h => (ht' t h).1) (fun j t v h1 h2 => hval j t v (by rw [← Array.getElem?_toList]; exact h1) (by rw [← Array.getElem?_toList]; exact h2)) hA
  have hM : ∀ b o, ¬ Mut (fun _ => none) (lookR ([] : List (Nat × Row))) b o := by
    rintro b o ⟨i, r, pl, h1, _⟩
    simp [lookR] at h1
  have hc := hpc qs g1
  refine Calls.mono (Enters.calls hbody (hc (fun b _ => b < W.heap.size) (fun _ => none) W args (fun b o _ => hM b o) ⟨fun i r hi => by simp [lookR] at hi, fun i i' r r' pl pl' _ h1 => by simp [lookR] at h1⟩ (fun _ _ => rfl) hG
    (by rw [g2]; simp) (fun j p v hp hv _ => g3 j p v hp (by rw [Array.getElem?_toList]; exact hv)))) fun e W' he => ?_
  obtain ⟨v, ρ', rfl, r1, _, _, r4, _⟩ := he
  have hvb : v = .bool true := by
    have := r1.to_leaf rfl (fun _ e => by cases e)
    simp only [RO] at this
    cases this
    rfl
  subst hvb
  have hbel := below_of_FR hM r4
  have hsp := hspec ds l2
  refine ⟨_, rfl, post_below (pa := p) (pv := []) hW' ?_ ?_ ?_ (by simp) hbel ?_⟩
  · intro b sp hd
    rw [List.append_nil, hsp, hr]
    exact trodAll_mk1 (shut_bool hb true)
  · intro sp hs
    rw [List.append_nil, hsp]
    exact trodAll_stays hl hbel (fun t h => (ht' t h).2) hA (fun x hx => hs x (by simp [hx]))
  · intro sp hs
    rw [List.append_nil, hsp, hvars]
    rfl
  · rw [hr]
    exact ok_one (f := { fn with resultTypes := #[tb] }) rfl rfl (okWide_bool_mk hb true)
end
end Go.Pe
