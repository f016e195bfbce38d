/- Merged texts: the pure machine and what the walks show. Conditions: as each statement says. -/
import Derived.Carry
import Derived.ChangeArms
import Derived.ChangeSame
import Derived.ChangeCalls
import Derived.JoinedOf
import Derived.Handed
import Derived.OpenShut
import Derived.RowKit
import Derived.ProofKit
import Derived.LaidLaws
import Derived.LaidHandle
import Derived.FnData
import GoSem.ClaimSeven
import Derived.Test.YtfecpjikhlangaaGreatDoorQ5
namespace Go.Proofs
open Go Go.Pe Go.Pm
set_option maxRecDepth 100000
set_option linter.unusedVariables false
attribute [local irreducible] hhash lv dsha bwsn bwat
theorem pc_hash07 {h : Hd} (ho : h.Ok) : PC Tryz.prog G0 50 [] [h.pv] [] (.iarr .u8 32 (hhash h)) := by
  refine PC.of (fn := Tryz.f50) (c := bodyOf Tryz.f50) Tryz.func50 (by kernel_rfl) (by kernel_rfl) (by kernel_rfl) (by kernel_rfl) ?_
  have c1 := pc_bytes07 ho
  have c2 := pc_rTwice (s := strOf (hb h)) (by rw [strOf_size, hb_length ho]; omega)
  rw [bytesOf_strOf (hb_bytes ho)] at c2
  unfold hhash
  generalize dsha (hb h) = r at *
  generalize strOf (hb h) = s at *
  refine W.ret [(3, aK (PV.str s)), (4, aK (B8 32 r))] [] [PC Tryz.prog G0 76 [] [Hd.pv h] [] (PV.str s), PC Tryz.prog G0 75 [] [PV.str s] [] (B8 32 r), rr (B8 32 r)] (by kernel_rfl) (ac (c1) (ac (c2) (ao rfl)))
def dsNu (b : List Int) (L : List Int) (i : Int) : DS := ⟨[(1, .at 1 []), (3, .at 3 []), (4, .int .i64 i)], [(1, rowB 32 b), (3, ⟨.iarr .u64 4 L, false⟩)]⟩
set_option maxHeartbeats 4000000 in
theorem W_nu {b : List Int} (hb : Bytes b) (hl : b.length = 32) : ∀ (n : Nat) (L : List Int) (i : Int), n ≤ 32 → i = (n : Int) - 1 → L = bwsn (lv b 32) n →
    W Tryz.prog G0 Tryz.f49 [] [] (bv false (lv b 32)) (loopAt Tryz.f49 0) (dsNu b L i)
  | 0, L, i, hn, hi, hL => by
    have h1 : i < 0 := by omega
    rw [bwsn_zero] at hL
    have c := pc_bOf4 (lv32_lt hb)
    subst hL
    generalize lv b 32 = v at *
    unfold uw at c
    unfold uw
    refine W.ret [(0, aV (I6 ((↑(0 : Nat) : Int) - 1))), (11, Ans.call false [] [] (PV.vec false (BI (nd v) (dg v))))] [] [I6 i = I6 ((↑(0 : Nat) : Int) - 1), (0 : Int) ≤ (0 : Int), 0 < (↑(4 : Nat) : Int), 0 < 4, (0 : Int) ≤ (1 : Int), 1 < (↑(4 : Nat) : Int), 1 < 4, (0 : Int) ≤ (2 : Int), 2 < (↑(4 : Nat) : Int), 2 < 4, (0 : Int) ≤ (3 : Int), 3 < (↑(4 : Nat) : Int), 3 < 4, 4 ≤ 4, PC Tryz.prog G0 20 [] [PV.vec false (B6 4 [(↑(v % 18446744073709551616) : Int), (↑(v / 18446744073709551616 % 18446744073709551616) : Int), (↑(v / 18446744073709551616 / 18446744073709551616 % 18446744073709551616) : Int), (↑(v / 18446744073709551616 / 18446744073709551616 / 18446744073709551616 % 18446744073709551616) : Int)])] [] (PV.vec false (BI (nd v) (dg v))), rr (PV.vec false (BI (nd v) (dg v)))] (by kernel_rfl) (ac (cg (hi)) (ac (by omega) (ac (by omega) (ac (by omega) (ac (by omega) (ac (by omega) (ac (by omega) (ac (by omega) (ac (by omega) (ac (by omega) (ac (by omega) (ac (by omega) (ac (by omega) (ac (by omega) (ac (c) (ao rfl))))))))))))))))
  | n + 1, L, i, hn, hi, hL => by
    have hi : i = (n : Int) := by omega
    subst hi
    have hs := bwsn_set (n := n) (by omega) (bwat_lv hb (n := n) (by omega))
    have hg := bwsn_get (v := lv b 32) (n := n) (by omega)
    have hst := bwat_step (bwat_lv hb (n := n) (by omega))
    have hlt := bwat_lt (lv b 32) n (n / 8)
    have hw := W_nu hb hl n (bwsn (lv b 32) n) ((n : Int) - 1) (by omega) (by omega) rfl
    have hLl : L.length = 4 := by rw [hL]; unfold bwsn; rfl
    obtain ⟨e, h1⟩ := hb.get n
    have hq : (n : Int).tdiv 8 = ((n / 8 : Nat) : Int) := by rw [Int.tdiv_eq_ediv_of_nonneg (by omega)]; omega
    rw [← hL] at hs hg
    rw [hst] at hlt
    generalize bwsn (lv b 32) n = L2 at *
    generalize bwat (lv b 32) (n + 1) (n / 8) = x at *
    generalize at0 b n = d at *
    refine W.seg [(0, aV (I6 ((↑(n + 1) : Int) - 1))), (1, aT), (2, aV (I6 ((↑(n + 1) : Int) - 1))), (3, aV (I6 (↑(n / 8) : Int))), (4, aV (I6 ((↑(n + 1) : Int) - 1))), (5, aV (I6 (↑(n / 8) : Int))), (6, aV (PV.at 3 [Stp.idx (n / 8) 1])), (7, aV (U6 (x:Int))), (8, aV (U6 (↑(256 * x) : Int))), (9, aV (I6 ((↑(n + 1) : Int) - 1))), (10, aV (PV.at 1 [Stp.idx n 1])), (11, aV (U8 (d:Int))), (12, aV (U6 (d:Int))), (13, aV (U6 (↑(256 * x + d) : Int))), (14, aV (PV.at 3 [Stp.idx (n / 8) 1])), (16, aV (I6 ((↑(n + 1) : Int) - 1))), (17, aV (I6 ((n:Int) - 1)))] [(1, 1), (3, 3)] (dsNu b L2 ((n:Int) - 1)) (todo' := loopAt Tryz.f49 0) [I6 (n:Int) = I6 ((↑(n + 1) : Int) - 1), decide ((↑(n + 1) : Int) - 1 ≥ (0 : Int)) = true, I6 (n:Int) = I6 ((↑(n + 1) : Int) - 1), I6 (IntKind.wrap .i64 (Int.tdiv ((↑(n + 1) : Int) - 1) (8 : Int))) = I6 (↑(n / 8) : Int), (8 : Int) ≠ (0 : Int), I6 (n:Int) = I6 ((↑(n + 1) : Int) - 1), I6 (IntKind.wrap .i64 (Int.tdiv ((↑(n + 1) : Int) - 1) (8 : Int))) = I6 (↑(n / 8) : Int), (8 : Int) ≠ (0 : Int), PV.at 3 [Stp.idx (Int.toNat (↑(n / 8) : Int)) 1] = PV.at 3 [Stp.idx (n / 8) 1], 0 ≤ (↑(n / 8) : Int), (↑(n / 8) : Int) < (↑(4 : Nat) : Int), U6 (List.getD L (n / 8) (0 : Int)) = U6 (x:Int), n / 8 < 4, U6 (IntKind.wrap .u64 ((x:Int) * (256 : Int))) = U6 (↑(256 * x) : Int), I6 (n:Int) = I6 ((↑(n + 1) : Int) - 1), PV.at 1 [Stp.idx (Int.toNat ((↑(n + 1) : Int) - 1)) 1] = PV.at 1 [Stp.idx n 1], 0 ≤ (↑(n + 1) : Int) - 1, (↑(n + 1) : Int) - 1 < (↑(32 : Nat) : Int), U8 (List.getD b n (0 : Int)) = U8 (d:Int), n < 32, U6 (IntKind.wrap .u64 (d:Int)) = U6 (d:Int), U6 (IntKind.wrap .u64 ((↑(256 * x) : Int) + (d:Int))) = U6 (↑(256 * x + d) : Int), PV.at 3 [Stp.idx (Int.toNat (↑(n / 8) : Int)) 1] = PV.at 3 [Stp.idx (n / 8) 1], 0 ≤ (↑(n / 8) : Int), (↑(n / 8) : Int) < (↑(4 : Nat) : Int), n / 8 < 4, I6 (n:Int) = I6 ((↑(n + 1) : Int) - 1), I6 (IntKind.wrap .i64 ((↑(n + 1) : Int) - 1 - (1 : Int))) = I6 ((n:Int) - 1), rr (PV.at 1 []), rr (PV.at 3 []), rr (I6 ((n:Int) - 1)), rr (B8 32 b), B6 4 (List.set L (n / 8) (↑(256 * x + d) : Int)) = B6 4 L2] (by kernel_rfl) (ac (cg (hi)) (ac (decide_eq_true (by omega)) (ac (cg (hi)) (ac (cg (w_i64 (by rw [Int.tdiv_eq_ediv_of_nonneg (by omega)]; omega) (by omega) (by omega))) (ac (by omega) (ac (cg (hi)) (ac (cg (w_i64 (by rw [Int.tdiv_eq_ediv_of_nonneg (by omega)]; omega) (by omega) (by omega))) (ac (by omega) (ac (by rw [show Int.toNat (↑(n / 8) : Int) = n / 8 by omega]) (ac (by omega) (ac (by omega) (ac (cg (hg)) (ac (by omega) (ac (cg (w_u64 (by omega) (by omega) (by omega))) (ac (cg (hi)) (ac (by rw [show Int.toNat ((↑(n + 1) : Int) - 1) = n by omega]) (ac (by omega) (ac (by omega) (ac (cg (e)) (ac (by omega) (ac (cg (w_u64 rfl (by omega) (by omega))) (ac (cg (w_u64 rfl (by omega) (by omega))) (ac (by rw [show Int.toNat (↑(n / 8) : Int) = n / 8 by omega]) (ac (by omega) (ac (by omega) (ac (by omega) (ac (cg (hi)) (ac (cg (w_i64 (by omega) (by omega) (by omega))) (ac rfl (ac rfl (ac rfl (ac rfl (ao ?_))))))))))))))))))))))))))))))))) ?_
    · rw [hs]
    exact hw
theorem pc_number07 {b : List Int} (hb : Bytes b) (hl : b.length = 32) : PC Tryz.prog G0 49 [] [.iarr .u8 32 b] [] (bv false (lv b 32)) := by
  refine PC.of (fn := Tryz.f49) (c := bodyOf Tryz.f49) Tryz.func49 (by kernel_rfl) (by kernel_rfl) (by kernel_rfl) (by kernel_rfl) ?_
  have hw := W_nu hb hl 32 [0, 0, 0, 0] 31 (by omega) (by omega) (bwsn_end (lv_lt hb 32)).symm
  generalize lv b 32 = v at *
  refine W.seg [] [(64, 1), (96, 3)] (dsNu b [(0 : Int), (0 : Int), (0 : Int), (0 : Int)] (31 : Int)) (todo' := loopAt Tryz.f49 0) [rr (PV.at 1 []), rr (PV.at 3 []), rr (I6 31), rr (B8 32 b), rr (B6 4 [(0 : Int), (0 : Int), (0 : Int), (0 : Int)])] (by kernel_rfl) (ac rfl (ac rfl (ac rfl (ac rfl (ao rfl))))) ?_
  exact hw
theorem pc_meets07 {h : Hd} (ho : h.Ok) : PC Tryz.prog G0 30 [] [h.pv] [] (.bool (meets h)) := by
  refine PC.of (fn := Tryz.f30) (c := bodyOf Tryz.f30) Tryz.func30 (by kernel_rfl) (by kernel_rfl) (by kernel_rfl) (by kernel_rfl) ?_
  by_cases h0 : tgt h.bits = 0
  · have c1 := pc_rTargetN ho.bits h0
    have e : meets h = false := by unfold meets; exact decide_eq_false fun x => x.1 h0
    rw [e]
    refine W.ret [(4, aK (PV.tup [PV.vec true (BI 0 (dg 0)), PV.bool false]))] [] [PC Tryz.prog G0 18 [] [U3 (↑(Hd.bits h) : Int)] [] (PV.tup [PV.vec true (BI 0 (dg 0)), PV.bool false]), rr (PV.bool false)] (by kernel_rfl) (ac (c1) (ao rfl))
  · have c1 := pc_rTargetY ho.bits h0
    have c2 := pc_hash07 ho
    have c3 := pc_number07 (hhash_bytes h) (hhash_length h)
    have n1 := nd_W256.2 (tgt_lt h.bits)
    have n2 := nd_W256.2 (lv32_lt (hhash_bytes h))
    have c4 := pc_bLess (na := false) (nb := false) (a := tgt h.bits) (b := lv (hhash h) 32) (by omega) (by omega)
    have hl := hhash_length h
    have e0 : meets h = decide (lv (hhash h) 32 ≤ tgt h.bits) := by
      unfold meets hnum
      rw [decide_eq_decide]
      exact ⟨fun x => x.2, fun x => ⟨h0, x⟩⟩
    rw [e0]
    by_cases hc : lv (hhash h) 32 ≤ tgt h.bits
    · rw [decide_eq_false (by omega)] at c4
      rw [decide_eq_true hc]
      generalize lv (hhash h) 32 = v at *
      generalize hhash h = hh at *
      refine W.ret [(4, Ans.call false [] [] (PV.tup [PV.vec false (BI (nd (tgt (Hd.bits h))) (dg (tgt (Hd.bits h)))), PV.bool true])), (14, aK (B8 32 hh)), (15, Ans.call false [] [] (PV.vec false (BI (nd v) (dg v)))), (16, aK (PV.bool false))] [] [PC Tryz.prog G0 18 [] [U3 (↑(Hd.bits h) : Int)] [] (PV.tup [PV.vec false (BI (nd (tgt (Hd.bits h))) (dg (tgt (Hd.bits h)))), PV.bool true]), PC Tryz.prog G0 50 [] [Hd.pv h] [] (B8 32 hh), PC Tryz.prog G0 49 [] [B8 32 hh] [] (PV.vec false (BI (nd v) (dg v))), PC Tryz.prog G0 19 [] [PV.vec false (BI (nd (tgt (Hd.bits h))) (dg (tgt (Hd.bits h)))), PV.vec false (BI (nd v) (dg v))] [] (PV.bool false), rr (PV.bool true)] (by kernel_rfl) (ac (c1) (ac (c2) (ac (c3) (ac (c4) (ao rfl)))))
    · rw [decide_eq_true (by omega)] at c4
      rw [decide_eq_false hc]
      generalize lv (hhash h) 32 = v at *
      generalize hhash h = hh at *
      refine W.ret [(4, Ans.call false [] [] (PV.tup [PV.vec false (BI (nd (tgt (Hd.bits h))) (dg (tgt (Hd.bits h)))), PV.bool true])), (14, aK (B8 32 hh)), (15, Ans.call false [] [] (PV.vec false (BI (nd v) (dg v)))), (16, aK (PV.bool true))] [] [PC Tryz.prog G0 18 [] [U3 (↑(Hd.bits h) : Int)] [] (PV.tup [PV.vec false (BI (nd (tgt (Hd.bits h))) (dg (tgt (Hd.bits h)))), PV.bool true]), PC Tryz.prog G0 50 [] [Hd.pv h] [] (B8 32 hh), PC Tryz.prog G0 49 [] [B8 32 hh] [] (PV.vec false (BI (nd v) (dg v))), PC Tryz.prog G0 19 [] [PV.vec false (BI (nd (tgt (Hd.bits h))) (dg (tgt (Hd.bits h)))), PV.vec false (BI (nd v) (dg v))] [] (PV.bool true), rr (PV.bool false)] (by kernel_rfl) (ac (c1) (ac (c2) (ac (c3) (ac (c4) (ao rfl)))))
/-- a header with its hash -/
def lh (h : Hd) : Hd × List Int := (h, hhash h)
theorem pc_of19 {h : Hd} (ho : h.Ok) : PC Tryz.prog G0 33 [] [h.pv] [] (lk (lh h)) := by
  refine PC.of (fn := Tryz.f33) (c := bodyOf Tryz.f33) Tryz.func33 (by kernel_rfl) (by kernel_rfl) (by kernel_rfl) (by kernel_rfl) ?_
  have c1 := pc_hash07 ho
  have e : lk (lh h) = .st 100 [h.pv, .iarr .u8 32 (hhash h)] := rfl
  rw [e]
  generalize hhash h = x at *
  refine W.ret [(4, aK (B8 32 x))] [] [PC Tryz.prog G0 50 [] [Hd.pv h] [] (B8 32 x), rr (PV.st 100 [Hd.pv h, B8 32 x])] (by kernel_rfl) (ac (c1) (ao rfl))
def rowK' (n : Nat) (l : List PV) : Row := ⟨.parr 100 n lksh l, false⟩
def dsL0 (nl : Bool) (l : List Hd) (n : Nat) : DS := ⟨[(3, .vec true (.parr 100 0 lksh [])), (6, .vec nl (.parr 68 n hsh (l.map Hd.pv))), (7, .int .i64 n), (8, .int .i64 0)], []⟩
def dsL (nl : Bool) (l : List Hd) (n : Nat) (L : List PV) (i : Nat) : DS := ⟨[(3, .ref 1 [] 100 0 i), (6, .vec nl (.parr 68 n hsh (l.map Hd.pv))), (7, .int .i64 n), (8, .int .i64 i)], [(1, rowK' i L)]⟩
theorem take_snocL {l : List Hd} {i : Nat} (h : i < l.length) : (l.take i).map (fun h => lk (lh h)) ++ [lk (lh (l.getD i default))] = (l.take (i + 1)).map (fun h => lk (lh h)) := by
  rw [List.take_add_one, List.map_append, List.getElem?_eq_getElem h, List.getD_eq_getElem?_getD, List.getElem?_eq_getElem h]
  rfl
theorem W_links {nl : Bool} {l : List Hd} {n : Nat} (hn : l.length = n) (hn1 : n ≤ 30) (ho : ∀ h ∈ l, h.Ok) : ∀ (k i : Nat) (L : List PV), i + k = n → 0 < i → L = (l.take i).map (fun h => lk (lh h)) →
    W Tryz.prog G0 Tryz.f11 [] [] (.vec false (.parr 100 n lksh (l.map (fun h => lk (lh h))))) (loopAt Tryz.f11 0) (dsL nl l n L i)
  | 0, i, L, hk, h0, hL => by
    have hi : i = n := by omega
    subst hi
    rw [← hn, List.take_length] at hL
    have hll : L.length = i := by rw [hL]; simp [hn]
    rw [← hL]
    refine W.ret [(0, aF)] [] [decide ((i:Int) < (i:Int)) = false, 0 + i ≤ i, PV.vec false (PV.parr 100 i (Sh.st 100 [hsh, Sh.iarr IntKind.u8 32]) (List.take i L)) = PV.vec false (PV.parr 100 i (Sh.st 100 [hsh, Sh.iarr IntKind.u8 32]) L)] (by kernel_rfl) (ac (decide_eq_false (by omega)) (ac (by omega) (ao ?_)))
    rw [List.take_of_length_le (by omega)]
  | k + 1, i, L, hk, h0, hL => by
    have hll : L.length = i := by rw [hL]; simp; omega
    have hh := take_snocL (l := l) (i := i) (by omega)
    have g := map_get (l := l) (i := i) (by omega)
    have hok := ok_get (i := i) ho (by omega)
    have c1 := pc_ref7 (l.getD i default)
    have c2 := pc_of19 hok
    rw [← hL] at hh
    have hw := W_links (nl := nl) hn hn1 ho k (i + 1) _ (by omega) (by omega) hh
    generalize l.getD i default = h at *
    generalize (l.map (fun h => lk (lh h))) = R at *
    have e : lk (lh h) = .st 100 [h.pv, .iarr .u8 32 (hhash h)] := rfl
    rw [e] at c2 hh hw
    generalize hhash h = x at *
    clear e
    refine W.seg [(0, aT), (2, aV (Hd.pv h)), (7, aK (Hd.pv h)), (8, aK (PV.st 100 [Hd.pv h, B8 32 x])), (10, Ans.ups [(1, none), (224, some (Row.mk (PV.parr 100 (i + 1) (Sh.st 100 [hsh, Sh.iarr IntKind.u8 32]) (L ++ [PV.st 100 [Hd.pv h, B8 32 x]])) false))]), (12, aV (I6 (↑(i + 1) : Int)))] [(224, 1)] (dsL nl l n (L ++ [PV.st 100 [Hd.pv h, B8 32 x]]) (i + 1)) (todo' := loopAt Tryz.f11 0) [decide ((i:Int) < (n:Int)) = true, 0 ≤ (i:Int), (i:Int) < (n:Int), expose hsh (List.getD (List.map Hd.pv l) i PV.undef) = Hd.pv h, i < n, PC Tryz.prog G0 12 [] [Hd.pv h] [] (Hd.pv h), PC Tryz.prog G0 33 [] [Hd.pv h] [] (PV.st 100 [Hd.pv h, B8 32 x]), ([(1, none), (224, some (Row.mk (PV.parr 100 (i + 1) (Sh.st 100 [hsh, Sh.iarr IntKind.u8 32]) (List.take i L ++ [PV.st 100 [Hd.pv h, B8 32 x]])) false))] : List (Nat × Option Row)) = [(1, none), (224, some (Row.mk (PV.parr 100 (i + 1) (Sh.st 100 [hsh, Sh.iarr IntKind.u8 32]) (L ++ [PV.st 100 [Hd.pv h, B8 32 x]])) false))], 1 ≤ 1, 0 + i = i, (i + 1) * 112 ≤ 140737488355328, i + 1 ≤ 9223372036854775807, I6 (IntKind.wrap .i64 ((i:Int) + 1)) = I6 (↑(i + 1) : Int), rr (PV.ref 1 [] 100 0 (i + 1)), rr (PV.vec nl (PV.parr 68 n hsh (List.map Hd.pv l))), rr (I6 (n:Int)), rr (I6 (↑(i + 1) : Int)), rr (PV.parr 100 (i + 1) (Sh.st 100 [hsh, Sh.iarr IntKind.u8 32]) (L ++ [PV.st 100 [Hd.pv h, B8 32 x]]))] (by kernel_rfl) (ac (decide_eq_true (by omega)) (ac (by omega) (ac (by omega) (ac (by (rw [g]; rfl)) (ac (by omega) (ac (c1) (ac (c2) (ac (by rw [List.take_of_length_le (show List.length L ≤ i by omega)]) (ac (by omega) (ac (by omega) (ac (by omega) (ac (by omega) (ac (cg (w_i64 rfl (by omega) (by omega))) (ac rfl (ac rfl (ac rfl (ac rfl (ao rfl)))))))))))))))))) ?_
    exact hw
theorem pc_links {nl : Bool} {l : List Hd} (h0 : 0 < l.length) (hn1 : l.length ≤ 30) (ho : ∀ h ∈ l, h.Ok) : PC Tryz.prog G0 11 [] [lpv nl l] [] (links false (l.map lh)) := by
  refine PC.of (fn := Tryz.f11) (c := bodyOf Tryz.f11) Tryz.func11 (by kernel_rfl) (by kernel_rfl) (by kernel_rfl) (by kernel_rfl) ?_
  unfold lpv links
  rw [List.length_map, List.map_map, show lk ∘ lh = fun h => lk (lh h) from rfl]
  have hh := take_snocL (l := l) (i := 0) h0
  have g := map_get (l := l) (i := 0) h0
  have hok := ok_get (i := 0) ho h0
  have c1 := pc_ref7 (l.getD 0 default)
  have c2 := pc_of19 hok
  rw [List.take_zero, List.map_nil, List.nil_append] at hh
  have hw := W_links (nl := nl) rfl hn1 ho (l.length - 1) 1 _ (by omega) (by omega) hh
  generalize l.length = n at *
  generalize l.getD 0 default = h at *
  generalize (l.map (fun h => lk (lh h))) = R at *
  have e : lk (lh h) = .st 100 [h.pv, .iarr .u8 32 (hhash h)] := rfl
  rw [e] at c2 hh hw
  generalize hhash h = x at *
  clear e
  refine W.seg [] [] (dsL0 nl l n) (todo' := loopAt Tryz.f11 0) [rr (PV.vec true (PV.parr 100 0 (Sh.st 100 [hsh, Sh.iarr IntKind.u8 32]) [])), rr (PV.vec nl (PV.parr 68 n hsh (List.map Hd.pv l))), rr (I6 (n:Int)), rr (I6 0)] (by kernel_rfl) (ac rfl (ac rfl (ac rfl (ao rfl)))) ?_
  refine W.seg [(0, aT), (2, aV (Hd.pv h)), (7, aK (Hd.pv h)), (8, aK (PV.st 100 [Hd.pv h, B8 32 x])), (12, aV (I6 1))] [(224, 1)] (dsL nl l n [PV.st 100 [Hd.pv h, B8 32 x]] 1) (todo' := loopAt Tryz.f11 0) [decide (0 < (n:Int)) = true, (0 : Int) ≤ (0 : Int), 0 < (n:Int), expose hsh (List.getD (List.map Hd.pv l) 0 PV.undef) = Hd.pv h, 0 < n, PC Tryz.prog G0 12 [] [Hd.pv h] [] (Hd.pv h), PC Tryz.prog G0 33 [] [Hd.pv h] [] (PV.st 100 [Hd.pv h, B8 32 x]), 1 ≤ 1, 0 < 1, 112 ≤ 140737488355328, 1 ≤ 9223372036854775807, I6 (IntKind.wrap .i64 ((0 : Int) + (1 : Int))) = I6 1, rr (PV.ref 1 [] 100 0 1), rr (PV.vec nl (PV.parr 68 n hsh (List.map Hd.pv l))), rr (I6 (n:Int)), I6 1 = I6 (↑(1 : Nat) : Int), rr (PV.parr 100 1 (Sh.st 100 [hsh, Sh.iarr IntKind.u8 32]) [PV.st 100 [Hd.pv h, B8 32 x]])] (by kernel_rfl) (ac (decide_eq_true (by omega)) (ac (by omega) (ac (by omega) (ac (by (rw [g]; rfl)) (ac (by omega) (ac (c1) (ac (c2) (ac (by omega) (ac (by omega) (ac (by omega) (ac (by omega) (ac (cg (w_i64 rfl (by omega) (by omega))) (ac rfl (ac rfl (ac rfl (ac (cg (by omega)) (ao rfl))))))))))))))))) ?_
  exact hw
/-- the times of a line -/
def tms (l : List Hd) : List Int := l.map fun h => (h.time : Int)
def dsTm (l : List Hd) (nl : Bool) (n : Nat) (T : PV) (i : Nat) : DS := ⟨[(3, T), (11, .vec nl (.parr 68 n hsh (l.map Hd.pv))), (12, .int .i64 n), (13, .int .i64 i)], []⟩
def dsTm1 (l : List Hd) (nl : Bool) (n : Nat) (L : List Int) (i : Nat) : DS := ⟨[(3, .ref 1 [] 1 0 i), (11, .vec nl (.parr 68 n hsh (l.map Hd.pv))), (12, .int .i64 n), (13, .int .i64 i)], [(1, ⟨.iarr .u32 i L, false⟩)]⟩
theorem tms_snoc {l : List Hd} {i : Nat} (h : i < l.length) : tms (l.take i) ++ [((l.getD i default).time : Int)] = tms (l.take (i + 1)) := by
  unfold tms
  rw [List.take_add_one, List.map_append, List.getElem?_eq_getElem h, List.getD_eq_getElem?_getD, List.getElem?_eq_getElem h]
  rfl
theorem W_times {nl : Bool} {l : List Hd} {n : Nat} (hn : l.length = n) (hn1 : n ≤ 30) (ho : ∀ h ∈ l, h.Ok) : ∀ (k i : Nat) (L : List Int), i + k = n → 0 < i → L = tms (l.take i) →
    W Tryz.prog G0 Tryz.f27 [] [] (.vec false (.iarr .u32 n (tms l))) (loopAt Tryz.f27 0) (dsTm1 l nl n L i)
  | 0, i, L, hk, h0, hL => by
    have hi : i = n := by omega
    subst hi
    rw [← hn, List.take_length] at hL
    have hll : L.length = i := by rw [hL]; simp [tms, hn]
    rw [← hL]
    refine W.ret [(0, aF)] [] [decide ((i:Int) < (i:Int)) = false, 0 + i ≤ i, PV.vec false (B3 i (List.take i L)) = PV.vec false (B3 i L)] (by kernel_rfl) (ac (decide_eq_false (by omega)) (ac (by omega) (ao ?_)))
    rw [List.take_of_length_le (by omega)]
  | k + 1, i, L, hk, h0, hL => by
    have hll : L.length = i := by rw [hL]; simp [tms]; omega
    have hh := tms_snoc (l := l) (i := i) (by omega)
    have g := map_get (l := l) (i := i) (by omega)
    rw [← hL] at hh
    have hw := W_times (nl := nl) hn hn1 ho k (i + 1) _ (by omega) (by omega) hh
    generalize l.getD i default = h at *
    generalize tms l = R at *
    refine W.seg [(0, aT), (2, aV (Hd.pv h)), (9, Ans.ups [(1, none), (208, some (Row.mk (B3 (i + 1) (L ++ [(↑(Hd.time h) : Int)])) false))]), (11, aV (I6 (↑(i + 1) : Int)))] [(208, 1)] (dsTm1 l nl n (L ++ [(↑(Hd.time h) : Int)]) (i + 1)) (todo' := loopAt Tryz.f27 0) [decide ((i:Int) < (n:Int)) = true, 0 ≤ (i:Int), (i:Int) < (n:Int), expose hsh (List.getD (List.map Hd.pv l) i PV.undef) = Hd.pv h, i < n, ([(1, none), (208, some (Row.mk (B3 (i + 1) (List.take i L ++ [(↑(Hd.time h) : Int)])) false))] : List (Nat × Option Row)) = [(1, none), (208, some (Row.mk (B3 (i + 1) (L ++ [(↑(Hd.time h) : Int)])) false))], 1 ≤ 1, 0 + i = i, (i + 1) * 4 ≤ 140737488355328, i + 1 ≤ 9223372036854775807, I6 (IntKind.wrap .i64 ((i:Int) + 1)) = I6 (↑(i + 1) : Int), rr (PV.ref 1 [] 1 0 (i + 1)), rr (PV.vec nl (PV.parr 68 n hsh (List.map Hd.pv l))), rr (I6 (n:Int)), rr (I6 (↑(i + 1) : Int)), rr (B3 (i + 1) (L ++ [(↑(Hd.time h) : Int)]))] (by kernel_rfl) (ac (decide_eq_true (by omega)) (ac (by omega) (ac (by omega) (ac (by (rw [g]; rfl)) (ac (by omega) (ac (by rw [List.take_of_length_le (show List.length L ≤ i by omega)]) (ac (by omega) (ac (by omega) (ac (by omega) (ac (by omega) (ac (cg (w_i64 rfl (by omega) (by omega))) (ac rfl (ac rfl (ac rfl (ac rfl (ao rfl)))))))))))))))) ?_
    exact hw
theorem mx_eleven (n : Nat) : mx 0 ((n : Int) - 11) = ((n - 11 : Nat) : Int) := by unfold mx; split <;> omega
theorem pc_times {nl : Bool} {l : List Hd} (h0 : 0 < l.length) (hn1 : l.length ≤ 30) (ho : ∀ h ∈ l, h.Ok) : PC Tryz.prog G0 27 [] [lpv nl l] [] (.vec false (.iarr .u32 (lastU (tms l)).length (lastU (tms l)))) := by
  refine PC.of (fn := Tryz.f27) (c := bodyOf Tryz.f27) Tryz.func27 (by kernel_rfl) (by kernel_rfl) (by kernel_rfl) (by kernel_rfl) ?_
  unfold lpv
  have eL : lastU (tms l) = tms (l.drop (l.length - 11)) := by unfold lastU tms; rw [List.length_map, List.map_drop]
  have hlen : (tms (l.drop (l.length - 11))).length = l.length - (l.length - 11) := by simp [tms]
  rw [eL, hlen]
  have hdl : (l.drop (l.length - 11)).length = l.length - (l.length - 11) := by simp
  have hh := tms_snoc (l := l.drop (l.length - 11)) (i := 0) (by omega)
  have g := map_get (l := l.drop (l.length - 11)) (i := 0) (by omega)
  rw [List.take_zero, show tms [] = [] from rfl, List.nil_append] at hh
  have hw := W_times (nl := nl) hdl (by omega) (fun h hh => ho h (List.mem_of_mem_drop hh)) (l.length - (l.length - 11) - 1) 1 _ (by omega) (by omega) hh
  have hm := mx_eleven l.length
  have hkk : l.length - 11 ≤ l.length := by omega
  have hd : (l.length : Int) - ((l.length - 11 : Nat) : Int) = ((l.length - (l.length - 11) : Nat) : Int) := by omega
  have e2 : (l.drop (l.length - 11)).map Hd.pv = ((l.map Hd.pv).drop (l.length - 11)) := by rw [List.map_drop]
  refine W.seg [(5, aV (I6 ((↑(List.length l) : Int) - 11))), (6, aV (I6 (↑(List.length l - 11) : Int))), (7, aV (PV.vec nl (PV.parr 68 (List.length l - (List.length l - 11)) hsh (List.take (List.length l - (List.length l - 11)) (drop0 (List.map Hd.pv l) (List.length l - 11))))))] [] (dsTm (List.drop (List.length l - 11) l) nl (List.length l - (List.length l - 11)) (PV.vec true (B3 0 [])) 0) (todo' := loopAt Tryz.f27 0) [I6 (IntKind.wrap .i64 ((↑(List.length l) : Int) - 11)) = I6 ((↑(List.length l) : Int) - 11), I6 (mx (0 : Int) ((↑(List.length l) : Int) - 11)) = I6 (↑(List.length l - 11) : Int), PV.vec nl (PV.parr 68 (Int.toNat ((↑(List.length l) : Int) - (↑(List.length l - 11) : Int))) hsh (List.take (Int.toNat ((↑(List.length l) : Int) - (↑(List.length l - 11) : Int))) (drop0 (List.map Hd.pv l) (Int.toNat (↑(List.length l - 11) : Int))))) = PV.vec nl (PV.parr 68 (List.length l - (List.length l - 11)) hsh (List.take (List.length l - (List.length l - 11)) (drop0 (List.map Hd.pv l) (List.length l - 11)))), 0 ≤ (↑(List.length l - 11) : Int), (↑(List.length l - 11) : Int) ≤ (↑(List.length l) : Int), (↑(List.length l) : Int) ≤ (↑(List.length l) : Int), rr (PV.vec true (B3 0 [])), PV.vec nl (PV.parr 68 (List.length l - (List.length l - 11)) hsh (List.take (List.length l - (List.length l - 11)) (drop0 (List.map Hd.pv l) (List.length l - 11)))) = PV.vec nl (PV.parr 68 (List.length l - (List.length l - 11)) hsh (List.map Hd.pv (List.drop (List.length l - 11) l))), rr (I6 (↑(List.length l - (List.length l - 11)) : Int)), I6 0 = I6 (↑(0 : Nat) : Int)] (by kernel_rfl) (ac (cg (w_i64 rfl (by omega) (by omega))) (ac (cg (hm)) (ac (by rw [show Int.toNat ((↑(List.length l) : Int) - (↑(List.length l - 11) : Int)) = List.length l - (List.length l - 11) by omega, show Int.toNat (↑(List.length l - 11) : Int) = List.length l - 11 by omega]) (ac (by omega) (ac (by omega) (ac (by omega) (ac rfl (ac ?_ (ac rfl (ao (cg (by omega)))))))))))) ?_
  · rw [drop0_eq, ← e2, List.take_of_length_le (by simp)]
  generalize l.drop (l.length - 11) = m at *
  generalize l.length - (l.length - 11) = n at *
  generalize m.getD 0 default = h at *
  generalize tms m = R at *
  refine W.seg [(0, aT), (2, aV (Hd.pv h)), (11, aV (I6 1))] [(208, 1)] (dsTm1 m nl n [(↑(Hd.time h) : Int)] 1) (todo' := loopAt Tryz.f27 0) [decide ((↑(0 : Nat) : Int) < (n:Int)) = true, 0 ≤ (↑(0 : Nat) : Int), (↑(0 : Nat) : Int) < (n:Int), expose hsh (List.getD (List.map Hd.pv m) 0 PV.undef) = Hd.pv h, 0 < n, 1 ≤ 1, 0 < 1, 4 ≤ 140737488355328, 1 ≤ 9223372036854775807, I6 (IntKind.wrap .i64 ((↑(0 : Nat) : Int) + 1)) = I6 1, rr (PV.ref 1 [] 1 0 1), rr (PV.vec nl (PV.parr 68 n hsh (List.map Hd.pv m))), rr (I6 (n:Int)), I6 1 = I6 (↑(1 : Nat) : Int), rr (B3 1 [(↑(Hd.time h) : Int)])] (by kernel_rfl) (ac (decide_eq_true (by omega)) (ac (by omega) (ac (by omega) (ac (by (rw [g]; rfl)) (ac (by omega) (ac (by omega) (ac (by omega) (ac (by omega) (ac (by omega) (ac (cg (w_i64 rfl (by omega) (by omega))) (ac rfl (ac rfl (ac rfl (ac (cg (by omega)) (ao rfl))))))))))))))) ?_
  exact hw
end Go.Proofs
namespace Go.Proofs
open Go Go.Pe Go.Pm
set_option maxRecDepth 100000
set_option linter.unusedVariables false
attribute [local irreducible] hhash lv dsha
/-- the next header's bits, if there are any -/
def nbits (p : Prm) (l : List Hd) : Nat × Bool :=
  let a := l.getD (l.length - 1) default
  if l.length % p.per.toNat = 0 then
    if tgt a.bits = 0 then (0, false)
    else (cbits (nextN (tgt a.bits) (tgt p.lim) (idealN p.per.toNat p.sp) (lastedN (idealN p.per.toNat p.sp) (l.getD (l.length - p.per.toNat) default).time a.time)), true)
  else (a.bits, true)
theorem lh_get {l : List Hd} {i : Nat} (h : i < l.length) : (l.map lh).getD i default = lh (l.getD i default) := by
  simp [List.getD_eq_getElem?_getD, h]
/-- both answers -/
theorem bits_both {p : Prm} (hp : p.Ok) (hm : p.May) {nl nl2 : Bool} {l : List Hd} (h0 : 0 < l.length) (hn : l.length ≤ 30) (ho : ∀ h ∈ l, h.Ok) :
    PC Tryz.prog G0 22 [] [p.pv, lpv nl l] [] (.tup [.int .u32 (nbits p l).1, .int .i64 (if (nbits p l).2 = true then 0 else 5)]) ∧
    PC Tryz.prog G0 29 [] [p.rpv, links nl2 (l.map lh)] [] (.tup [.int .u32 (nbits p l).1, .bool (nbits p l).2]) := by
  obtain ⟨q, hq⟩ : ∃ q : Nat, p.per = (q : Int) := ⟨p.per.toNat, by have := hm.per; omega⟩
  have hq1 : 1 ≤ q := by have := hm.per; omega
  have hqt : p.per.toNat = q := by omega
  have hlim := canon_ne hm.c1
  have hlen : (l.map lh).length = l.length := by simp
  have e1 := lh_get (l := l) (i := l.length - 1) (by omega)
  unfold nbits
  dsimp only
  rw [hqt]
  by_cases hd : l.length % q = 0
  · rw [if_pos hd]
    have hqn : q ≤ l.length := Nat.le_of_dvd (by omega) (Nat.dvd_of_mod_eq_zero hd)
    have h1 := ok_get (i := l.length - 1) ho (by omega)
    have h2 := ok_get (i := l.length - q) ho (by omega)
    have e2 := lh_get (l := l) (i := l.length - q) (by omega)
    by_cases ht : tgt (l.getD (l.length - 1) default).bits = 0
    · rw [if_pos ht]
      refine ⟨pc_ruleBitsP hq hq1 rfl (by omega) (by omega) hd (pc_pbitsA _ _ h1.bits hp.lim h2.time h1.time ht), pc_rBits19P hq hq1 hlen (by omega) (by omega) hd ?_⟩
      rw [e1, e2]
      exact pc_rBits18N _ _ h1.bits hp.lim (.inl ht)
    · rw [if_neg ht]
      refine ⟨pc_ruleBitsP hq hq1 rfl (by omega) (by omega) hd (pc_pbitsC _ _ h1.bits hp.lim h2.time h1.time ht hlim), pc_rBits19P hq hq1 hlen (by omega) (by omega) hd ?_⟩
      rw [e1, e2]
      exact pc_rBits18Y _ _ h1.bits hp.lim h2.time h1.time ht hlim
  · rw [if_neg hd]
    have := pc_rBits19K (p := p) (nl := nl2) (l := l.map lh) hq hq1 hlen (by omega) (by omega) hd
    rw [e1] at this
    exact ⟨pc_ruleBitsK hq hq1 rfl (by omega) (by omega) hd, this⟩
/-- a header's verdict -/
def jud (p : Prm) (l : List Hd) (h : Hd) (now : Int) : Int :=
  if ¬ h.prev = hhash (l.getD (l.length - 1) default) then 9
  else if (nbits p l).2 = false ∨ ¬ (nbits p l).1 = h.bits then 10
  else if meets h = false then 11
  else if (h.time : Int) ≤ medianM (tms l) then 12
  else if held now + p.fu < (h.time : Int) then 13
  else 0
theorem medianM_last (l : List Int) : medianM (lastU l) = medianM l := by
  unfold medianM
  have e : lastU (lastU l) = lastU l := by
    unfold lastU
    rw [List.drop_drop, List.length_drop]
    congr 1
    omega
  rw [e]
  by_cases h : l = []
  · rw [if_pos h, if_pos (lastU_nil.2 h)]
  · rw [if_neg h, if_neg (fun x => h (lastU_nil.1 x))]
theorem held_id {n : Int} (h1 : 0 ≤ n) (h2 : n ≤ 4294967296) : held n = n := by
  unfold held mn mx
  split <;> split <;> omega
set_option maxHeartbeats 4000000 in
theorem pc_judge {p : Prm} (hp : p.Ok) (hm : p.May) {nl : Bool} {l : List Hd} (h0 : 0 < l.length) (hn : l.length ≤ 30) (ho : ∀ h ∈ l, h.Ok) {h : Hd} (hh : h.Ok) {now : Int} :
    PC Tryz.prog G0 9 [] [p.pv, lpv nl l, h.pv, .int .i64 now] [] (.int .i64 (jud p l h now)) := by
  refine PC.of (fn := Tryz.f9) (c := bodyOf Tryz.f9) Tryz.func9 (by kernel_rfl) (by kernel_rfl) (by kernel_rfl) (by kernel_rfl) ?_
  have c1 := (bits_both hp hm (nl := nl) (nl2 := nl) h0 hn ho).1
  have hok := ok_get (i := l.length - 1) ho (by omega)
  have c2 := pc_hdHash hok
  have c3 := pc_hdMeets hh
  have c4 := pc_times (nl := nl) h0 hn ho
  have hne : tms l ≠ [] := by unfold tms; simp; intro e; rw [e] at h0; simp at h0
  have hne2 : lastU (tms l) ≠ [] := fun x => hne (lastU_nil.1 x)
  have hll : (lastU (tms l)).length < 1000 := by simp [lastU, tms]; omega
  have c5 := pc_after1 (nl := false) (h.time : Int) (l := lastU (tms l)) rfl (List.length_pos_iff.2 hne2) hll (by intro x; cases x)
  rw [medianM_last] at c5
  have t1 := hh.time
  have c6 := pc_near (t := (h.time : Int)) (now := now) (future := p.fu) (by omega) (by omega)
  rw [held_id hm.fu.1 hm.fu.2] at c6
  have g := map_get (l := l) (i := l.length - 1) (by omega)
  have hi : (l.length : Int) - 1 = ((l.length - 1 : Nat) : Int) := by omega
  have hk : l.length - 1 < l.length := by omega
  have hpl := hh.prev
  have hhl := hhash_length (l.getD (l.length - 1) default)
  unfold jud
  unfold lpv at *
  generalize (lastU (tms l)).length = tn at *
  generalize lastU (tms l) = ts at *
  generalize medianM (tms l) = me at *
  generalize nbits p l = xb at *
  generalize held now = hd at *
  generalize l.getD (l.length - 1) default = a at *
  generalize l.length - 1 = k at *
  generalize l.length = n at *
  generalize hhash a = ha at *
  generalize meets h = mt at *
  obtain ⟨x, b⟩ := xb
  dsimp only at c1 ⊢
  by_cases j1 : h.prev = ha
  · rw [if_neg (not_not_intro j1)]
    by_cases j2 : b = false
    · rw [if_pos (.inl j2)]
      subst j2
      rw [if_neg (by decide)] at c1
      refine W.ret [(5, aF), (8, aK (PV.tup [U3 (x:Int), I6 5])), (19, aV (I6 (k:Int))), (21, aV (Hd.pv a)), (22, aK (B8 32 ha)), (23, aF)] [] [((n:Int) == 0) = false, PC Tryz.prog G0 22 [] [Prm.pv p, PV.vec nl (PV.parr 68 n hsh (List.map Hd.pv l))] [] (PV.tup [U3 (x:Int), I6 5]), I6 (IntKind.wrap .i64 ((n:Int) - 1)) = I6 (k:Int), 0 ≤ (k:Int), (k:Int) < (n:Int), expose hsh (List.getD (List.map Hd.pv l) k PV.undef) = Hd.pv a, k < n, PC Tryz.prog G0 24 [] [Hd.pv a] [] (B8 32 ha), (!decide (Hd.prev h = ha)) = false, rr (I6 10)] (by kernel_rfl) (ac (decide_eq_false (by omega)) (ac (c1) (ac (cg (w_i64 hi (by omega) (by omega))) (ac (by omega) (ac (by omega) (ac (by (rw [g]; rfl)) (ac (by omega) (ac (c2) (ac (by (simp [*]; done)) (ao rfl))))))))))
    · have j2 : b = true := by cases b <;> simp_all
      subst j2
      rw [if_pos rfl] at c1
      by_cases j3 : x = h.bits
      · rw [if_neg (by rintro (h | h); cases h; exact h j3)]
        by_cases j4 : mt = false
        · rw [if_pos j4]
          subst j4
          refine W.ret [(5, aF), (8, aK (PV.tup [U3 (x:Int), I6 0])), (19, aV (I6 (k:Int))), (21, aV (Hd.pv a)), (22, aK (B8 32 ha)), (23, aF), (31, aF), (35, aK (PV.bool false))] [] [((n:Int) == 0) = false, PC Tryz.prog G0 22 [] [Prm.pv p, PV.vec nl (PV.parr 68 n hsh (List.map Hd.pv l))] [] (PV.tup [U3 (x:Int), I6 0]), I6 (IntKind.wrap .i64 ((n:Int) - 1)) = I6 (k:Int), 0 ≤ (k:Int), (k:Int) < (n:Int), expose hsh (List.getD (List.map Hd.pv l) k PV.undef) = Hd.pv a, k < n, PC Tryz.prog G0 24 [] [Hd.pv a] [] (B8 32 ha), (!decide (Hd.prev h = ha)) = false, ((↑(Hd.bits h) : Int) != (x:Int)) = false, PC Tryz.prog G0 25 [] [Hd.pv h] [] (PV.bool false), rr (I6 11)] (by kernel_rfl) (ac (decide_eq_false (by omega)) (ac (c1) (ac (cg (w_i64 hi (by omega) (by omega))) (ac (by omega) (ac (by omega) (ac (by (rw [g]; rfl)) (ac (by omega) (ac (c2) (ac (by (simp [*]; done)) (ac (bne_eq_false_iff_eq.2 (by omega)) (ac (c3) (ao rfl))))))))))))
        · have j4 : mt = true := by cases mt <;> simp_all
          subst j4
          rw [if_neg (by decide)]
          by_cases j5 : (h.time : Int) ≤ me
          · rw [if_pos j5]
            rw [decide_eq_false (by omega)] at c5
            refine W.ret [(5, aF), (8, aK (PV.tup [U3 (x:Int), I6 0])), (19, aV (I6 (k:Int))), (21, aV (Hd.pv a)), (22, aK (B8 32 ha)), (23, aF), (31, aF), (35, aK (PV.bool true)), (39, Ans.call false [] [] (PV.vec false (B3 tn ts))), (42, aK (PV.bool false))] [] [((n:Int) == 0) = false, PC Tryz.prog G0 22 [] [Prm.pv p, PV.vec nl (PV.parr 68 n hsh (List.map Hd.pv l))] [] (PV.tup [U3 (x:Int), I6 0]), I6 (IntKind.wrap .i64 ((n:Int) - 1)) = I6 (k:Int), 0 ≤ (k:Int), (k:Int) < (n:Int), expose hsh (List.getD (List.map Hd.pv l) k PV.undef) = Hd.pv a, k < n, PC Tryz.prog G0 24 [] [Hd.pv a] [] (B8 32 ha), (!decide (Hd.prev h = ha)) = false, ((↑(Hd.bits h) : Int) != (x:Int)) = false, PC Tryz.prog G0 25 [] [Hd.pv h] [] (PV.bool true), PC Tryz.prog G0 27 [] [PV.vec nl (PV.parr 68 n hsh (List.map Hd.pv l))] [] (PV.vec false (B3 tn ts)), PC Tryz.prog G0 26 [] [PV.vec false (B3 tn ts), U3 (↑(Hd.time h) : Int)] [] (PV.bool false), rr (I6 12)] (by kernel_rfl) (ac (decide_eq_false (by omega)) (ac (c1) (ac (cg (w_i64 hi (by omega) (by omega))) (ac (by omega) (ac (by omega) (ac (by (rw [g]; rfl)) (ac (by omega) (ac (c2) (ac (by (simp [*]; done)) (ac (bne_eq_false_iff_eq.2 (by omega)) (ac (c3) (ac (c4) (ac (c5) (ao rfl))))))))))))))
          · rw [if_neg j5]
            rw [decide_eq_true (by omega)] at c5
            by_cases j6 : hd + p.fu < (h.time : Int)
            · rw [if_pos j6]
              rw [decide_eq_false (by omega)] at c6
              refine W.ret [(5, aF), (8, aK (PV.tup [U3 (x:Int), I6 0])), (19, aV (I6 (k:Int))), (21, aV (Hd.pv a)), (22, aK (B8 32 ha)), (23, aF), (31, aF), (35, aK (PV.bool true)), (39, Ans.call false [] [] (PV.vec false (B3 tn ts))), (42, aK (PV.bool true)), (50, aK (PV.bool false))] [] [((n:Int) == 0) = false, PC Tryz.prog G0 22 [] [Prm.pv p, PV.vec nl (PV.parr 68 n hsh (List.map Hd.pv l))] [] (PV.tup [U3 (x:Int), I6 0]), I6 (IntKind.wrap .i64 ((n:Int) - 1)) = I6 (k:Int), 0 ≤ (k:Int), (k:Int) < (n:Int), expose hsh (List.getD (List.map Hd.pv l) k PV.undef) = Hd.pv a, k < n, PC Tryz.prog G0 24 [] [Hd.pv a] [] (B8 32 ha), (!decide (Hd.prev h = ha)) = false, ((↑(Hd.bits h) : Int) != (x:Int)) = false, PC Tryz.prog G0 25 [] [Hd.pv h] [] (PV.bool true), PC Tryz.prog G0 27 [] [PV.vec nl (PV.parr 68 n hsh (List.map Hd.pv l))] [] (PV.vec false (B3 tn ts)), PC Tryz.prog G0 26 [] [PV.vec false (B3 tn ts), U3 (↑(Hd.time h) : Int)] [] (PV.bool true), PC Tryz.prog G0 28 [] [U3 (↑(Hd.time h) : Int), I6 now, I6 (Prm.fu p)] [] (PV.bool false), rr (I6 13)] (by kernel_rfl) (ac (decide_eq_false (by omega)) (ac (c1) (ac (cg (w_i64 hi (by omega) (by omega))) (ac (by omega) (ac (by omega) (ac (by (rw [g]; rfl)) (ac (by omega) (ac (c2) (ac (by (simp [*]; done)) (ac (bne_eq_false_iff_eq.2 (by omega)) (ac (c3) (ac (c4) (ac (c5) (ac (c6) (ao rfl)))))))))))))))
            · rw [if_neg j6]
              rw [decide_eq_true (by omega)] at c6
              refine W.ret [(5, aF), (8, aK (PV.tup [U3 (x:Int), I6 0])), (19, aV (I6 (k:Int))), (21, aV (Hd.pv a)), (22, aK (B8 32 ha)), (23, aF), (31, aF), (35, aK (PV.bool true)), (39, Ans.call false [] [] (PV.vec false (B3 tn ts))), (42, aK (PV.bool true)), (50, aK (PV.bool true))] [] [((n:Int) == 0) = false, PC Tryz.prog G0 22 [] [Prm.pv p, PV.vec nl (PV.parr 68 n hsh (List.map Hd.pv l))] [] (PV.tup [U3 (x:Int), I6 0]), I6 (IntKind.wrap .i64 ((n:Int) - 1)) = I6 (k:Int), 0 ≤ (k:Int), (k:Int) < (n:Int), expose hsh (List.getD (List.map Hd.pv l) k PV.undef) = Hd.pv a, k < n, PC Tryz.prog G0 24 [] [Hd.pv a] [] (B8 32 ha), (!decide (Hd.prev h = ha)) = false, ((↑(Hd.bits h) : Int) != (x:Int)) = false, PC Tryz.prog G0 25 [] [Hd.pv h] [] (PV.bool true), PC Tryz.prog G0 27 [] [PV.vec nl (PV.parr 68 n hsh (List.map Hd.pv l))] [] (PV.vec false (B3 tn ts)), PC Tryz.prog G0 26 [] [PV.vec false (B3 tn ts), U3 (↑(Hd.time h) : Int)] [] (PV.bool true), PC Tryz.prog G0 28 [] [U3 (↑(Hd.time h) : Int), I6 now, I6 (Prm.fu p)] [] (PV.bool true), rr (I6 0)] (by kernel_rfl) (ac (decide_eq_false (by omega)) (ac (c1) (ac (cg (w_i64 hi (by omega) (by omega))) (ac (by omega) (ac (by omega) (ac (by (rw [g]; rfl)) (ac (by omega) (ac (c2) (ac (by (simp [*]; done)) (ac (bne_eq_false_iff_eq.2 (by omega)) (ac (c3) (ac (c4) (ac (c5) (ac (c6) (ao rfl)))))))))))))))
      · rw [if_pos (.inr j3)]
        refine W.ret [(5, aF), (8, aK (PV.tup [U3 (x:Int), I6 0])), (19, aV (I6 (k:Int))), (21, aV (Hd.pv a)), (22, aK (B8 32 ha)), (23, aF), (31, aT)] [] [((n:Int) == 0) = false, PC Tryz.prog G0 22 [] [Prm.pv p, PV.vec nl (PV.parr 68 n hsh (List.map Hd.pv l))] [] (PV.tup [U3 (x:Int), I6 0]), I6 (IntKind.wrap .i64 ((n:Int) - 1)) = I6 (k:Int), 0 ≤ (k:Int), (k:Int) < (n:Int), expose hsh (List.getD (List.map Hd.pv l) k PV.undef) = Hd.pv a, k < n, PC Tryz.prog G0 24 [] [Hd.pv a] [] (B8 32 ha), (!decide (Hd.prev h = ha)) = false, ((↑(Hd.bits h) : Int) != (x:Int)) = true, rr (I6 10)] (by kernel_rfl) (ac (decide_eq_false (by omega)) (ac (c1) (ac (cg (w_i64 hi (by omega) (by omega))) (ac (by omega) (ac (by omega) (ac (by (rw [g]; rfl)) (ac (by omega) (ac (c2) (ac (by (simp [*]; done)) (ac (bne_iff_ne.2 (by omega)) (ao rfl)))))))))))
  · rw [if_pos j1]
    refine W.ret [((5 : Nat), Ans.dec false), ((8 : Nat), Ans.call true [] [] (PV.tup [PV.int IntKind.u32 (↑x : Int), PV.int IntKind.i64 (Decidable.rec (fun h => (fun x => (5 : Int)) h) (fun h => (fun x => (0 : Int)) h) (instDecidableEqBool (Prod.snd (x, b)) true))])), ((9 : Nat), Ans.val (PV.tup [PV.int IntKind.u32 (↑x : Int), PV.int IntKind.i64 (Decidable.rec (fun h => (5 : Int)) (fun h => (0 : Int)) (instDecidableEqBool b true))])), ((19 : Nat), Ans.val (PV.int IntKind.i64 (↑k : Int))), ((21 : Nat), Ans.val (PV.st (68 : Nat) [PV.int IntKind.u32 (↑(Hd.ver a) : Int), PV.iarr IntKind.u8 (32 : Nat) (Hd.prev a), PV.iarr IntKind.u8 (32 : Nat) (Hd.root a), PV.int IntKind.u32 (↑(Hd.time a) : Int), PV.int IntKind.u32 (↑(Hd.bits a) : Int), PV.int IntKind.u32 (↑(Hd.nonce a) : Int)])), ((22 : Nat), Ans.call true [] [] (PV.iarr IntKind.u8 (32 : Nat) ha)), ((23 : Nat), Ans.dec true)] [] [((↑n : Int) == (0 : Int)) = false, PC Tryz.prog G0 (22 : Nat) [] [PV.st (77 : Nat) [PV.int IntKind.u32 (↑(Prm.lim p) : Int), PV.int IntKind.i64 (Prm.per p), PV.int IntKind.i64 (Prm.sp p), PV.int IntKind.i64 (Prm.fu p), PV.int IntKind.i64 (Prm.cap p), PV.st (68 : Nat) [PV.int IntKind.u32 (↑(Hd.ver (Prm.gen p)) : Int), PV.iarr IntKind.u8 (32 : Nat) (Hd.prev (Prm.gen p)), PV.iarr IntKind.u8 (32 : Nat) (Hd.root (Prm.gen p)), PV.int IntKind.u32 (↑(Hd.time (Prm.gen p)) : Int), PV.int IntKind.u32 (↑(Hd.bits (Prm.gen p)) : Int), PV.int IntKind.u32 (↑(Hd.nonce (Prm.gen p)) : Int)], PV.iarr IntKind.u64 (4 : Nat) (uw (Prm.sum p))], PV.vec nl (PV.parr (68 : Nat) n (Sh.st (68 : Nat) [Sh.int IntKind.u32, Sh.iarr IntKind.u8 (32 : Nat), Sh.iarr IntKind.u8 (32 : Nat), Sh.int IntKind.u32, Sh.int IntKind.u32, Sh.int IntKind.u32]) (List.map Hd.pv l))] [] (PV.tup [PV.int IntKind.u32 (↑x : Int), PV.int IntKind.i64 (Decidable.rec (fun h => (fun x => (5 : Int)) h) (fun h => (fun x => (0 : Int)) h) (instDecidableEqBool (Prod.snd (x, b)) true))]), PV.tup [PV.int IntKind.u32 (↑x : Int), PV.int IntKind.i64 (Decidable.rec (fun h => (fun x => (5 : Int)) h) (fun h => (fun x => (0 : Int)) h) (instDecidableEqBool (Prod.snd (x, b)) true))] = PV.tup [PV.int IntKind.u32 (↑x : Int), PV.int IntKind.i64 (Decidable.rec (fun h => (5 : Int)) (fun h => (0 : Int)) (instDecidableEqBool b true))], PV.int IntKind.i64 (IntKind.wrap IntKind.i64 ((↑n : Int) - (1 : Int))) = PV.int IntKind.i64 (↑k : Int), (0 : Int) ≤ (↑k : Int), (↑k : Int) < (↑n : Int), PV.st (68 : Nat) [PV.int IntKind.u32 (PV.num (List.headD (PV.fs (List.getD (List.map Hd.pv l) k PV.undef)) PV.undef)), PV.iarr IntKind.u8 (32 : Nat) (PV.nums (List.headD (List.tail (PV.fs (List.getD (List.map Hd.pv l) k PV.undef))) PV.undef)), PV.iarr IntKind.u8 (32 : Nat) (PV.nums (List.headD (List.tail (List.tail (PV.fs (List.getD (List.map Hd.pv l) k PV.undef)))) PV.undef)), PV.int IntKind.u32 (PV.num (List.headD (List.tail (List.tail (List.tail (PV.fs (List.getD (List.map Hd.pv l) k PV.undef))))) PV.undef)), PV.int IntKind.u32 (PV.num (List.headD (List.tail (List.tail (List.tail (List.tail (PV.fs (List.getD (List.map Hd.pv l) k PV.undef)))))) PV.undef)), PV.int IntKind.u32 (PV.num (List.headD (List.tail (List.tail (List.tail (List.tail (List.tail (PV.fs (List.getD (List.map Hd.pv l) k PV.undef))))))) PV.undef))] = PV.st (68 : Nat) [PV.int IntKind.u32 (↑(Hd.ver a) : Int), PV.iarr IntKind.u8 (32 : Nat) (Hd.prev a), PV.iarr IntKind.u8 (32 : Nat) (Hd.root a), PV.int IntKind.u32 (↑(Hd.time a) : Int), PV.int IntKind.u32 (↑(Hd.bits a) : Int), PV.int IntKind.u32 (↑(Hd.nonce a) : Int)], k < n, PC Tryz.prog G0 (24 : Nat) [] [PV.st (68 : Nat) [PV.int IntKind.u32 (↑(Hd.ver a) : Int), PV.iarr IntKind.u8 (32 : Nat) (Hd.prev a), PV.iarr IntKind.u8 (32 : Nat) (Hd.root a), PV.int IntKind.u32 (↑(Hd.time a) : Int), PV.int IntKind.u32 (↑(Hd.bits a) : Int), PV.int IntKind.u32 (↑(Hd.nonce a) : Int)]] [] (PV.iarr IntKind.u8 (32 : Nat) ha), (!decide (Hd.prev h = ha)) = true, PV.int IntKind.i64 (9 : Int) = PV.int IntKind.i64 (9 : Int)] (by kernel_rfl) (ac (by exact decide_eq_false (by omega)) (ac (by exact c1) (ac (by simp only []) (ac (by exact congrArg (PV.int _) (w_i64 hi (by omega) (by omega))) (ac (by omega) (ac (by omega) (ac (by (rw [g]; rfl)) (ac (by omega) (ac (by exact c2) (ac (by (simp [*]; done)) (ao (by with_reducible rfl))))))))))))
end Go.Proofs
namespace Go.Proofs
open Go Go.Pe Go.Pm
set_option maxRecDepth 100000
set_option linter.unusedVariables false
attribute [local irreducible] hhash lv dsha
def dsJ0 (p : Prm) (h : Hd) (now : Int) (nl : Bool) (K : List PV) (n : Nat) : DS := ⟨[(3, .int .i64 now), (4, .at 4 []), (6, .at 6 []), (11, .vec true (.iarr .u32 0 [])), (41, .vec nl (.parr 100 n lksh K)), (42, .int .i64 n), (43, .int .i64 ((0 : Nat) : Int))], [(4, ⟨p.rpv, false⟩), (6, ⟨h.pv, false⟩)]⟩
def dsJ (p : Prm) (h : Hd) (now : Int) (nl : Bool) (K : List PV) (n : Nat) (L : List Int) (i : Nat) : DS := ⟨[(3, .int .i64 now), (4, .at 4 []), (6, .at 6 []), (11, .ref 1 [] 1 0 i), (41, .vec nl (.parr 100 n lksh K)), (42, .int .i64 n), (43, .int .i64 i)], [(4, ⟨p.rpv, false⟩), (6, ⟨h.pv, false⟩), (1, ⟨.iarr .u32 i L, false⟩)]⟩
theorem lkl_get {l : List Hd} {i : Nat} (h : i < l.length) : ((l.map lh).map lk).getD i .undef = .st 100 [(l.getD i default).pv, .iarr .u8 32 (hhash (l.getD i default))] := by
  rw [lk_get (by simpa using h), lh_get h]
  rfl
/-- the verdict behind the first three looks -/
def jud2 (p : Prm) (l : List Hd) (h : Hd) (now : Int) : Int :=
  if (h.time : Int) ≤ medianM (tms l) then 12
  else if held now + p.fu < (h.time : Int) then 13
  else 0
set_option maxHeartbeats 4000000 in
theorem W_rj {p : Prm} (hm : p.May) {h : Hd} (hh : h.Ok) {now : Int} {nl : Bool} {l : List Hd} {n : Nat} (hn : l.length = n) (hn1 : n ≤ 30) : ∀ (k i : Nat) (L : List Int), i + k = n → 0 < i → L = tms (l.take i) →
    W Tryz.prog G0 Tryz.f10 [] [] (.int .i64 (jud2 p l h now)) (loopAt Tryz.f10 0) (dsJ p h now nl ((l.map lh).map lk) n L i)
  | 0, i, L, hk, h0, hL => by
    have hi : i = n := by omega
    subst hi
    rw [← hn, List.take_length] at hL
    have hll : L.length = i := by rw [hL]; simp [tms, hn]
    have t1 := hh.time
    have f1 := hm.fu
    have c1 := pc_refMedian (nl := false) (l := L) (n := i) hll.symm (by omega)
    have c2 := pc_held now
    have hb := held_le now
    unfold jud2
    rw [← hL]
    generalize medianM L = me at *
    generalize held now = hd at *
    by_cases j5 : (h.time : Int) ≤ me
    · rw [if_pos j5]
      refine W.ret [(0, aF), (4, Ans.calla true [] [] [PV.vec false (B3 i L)] [] (U3 me)), (5, aT)] [] [decide ((i:Int) < (i:Int)) = false, 0 + i ≤ i, rr ([] : List (Nat × Row)), ([PV.vec false (B3 i (List.take i L))] : List PV) = [PV.vec false (B3 i L)], PC Tryz.prog G0 31 [] [PV.vec false (B3 i L)] [] (U3 me), decide ((↑(Hd.time h) : Int) ≤ me) = true, rr (I6 12)] (by kernel_rfl) (ac (decide_eq_false (by omega)) (ac (by omega) (ac rfl (ac (by rw [List.take_of_length_le (show List.length L ≤ i by omega)]) (ac (c1) (ac (decide_eq_true (by omega)) (ao rfl)))))))
    · rw [if_neg j5]
      by_cases j6 : hd + p.fu < (h.time : Int)
      · rw [if_pos j6]
        refine W.ret [(0, aF), (4, Ans.calla true [] [] [PV.vec false (B3 i L)] [] (U3 me)), (5, aF), (8, aV (I6 (↑(Hd.time h) : Int))), (10, aK (I6 hd)), (13, aV (I6 (hd + Prm.fu p))), (14, aT)] [] [decide ((i:Int) < (i:Int)) = false, 0 + i ≤ i, rr ([] : List (Nat × Row)), ([PV.vec false (B3 i (List.take i L))] : List PV) = [PV.vec false (B3 i L)], PC Tryz.prog G0 31 [] [PV.vec false (B3 i L)] [] (U3 me), decide ((↑(Hd.time h) : Int) ≤ me) = false, I6 (IntKind.wrap .i64 (↑(Hd.time h) : Int)) = I6 (↑(Hd.time h) : Int), PC Tryz.prog G0 32 [] [I6 now] [] (I6 hd), I6 (IntKind.wrap .i64 (hd + Prm.fu p)) = I6 (hd + Prm.fu p), decide ((↑(Hd.time h) : Int) > hd + Prm.fu p) = true, rr (I6 13)] (by kernel_rfl) (ac (decide_eq_false (by omega)) (ac (by omega) (ac rfl (ac (by rw [List.take_of_length_le (show List.length L ≤ i by omega)]) (ac (c1) (ac (decide_eq_false (by omega)) (ac (cg (w_i64 rfl (by omega) (by omega))) (ac (c2) (ac (cg (w_i64 rfl (by omega) (by omega))) (ac (decide_eq_true (by omega)) (ao rfl)))))))))))
      · rw [if_neg j6]
        refine W.ret [(0, aF), (4, Ans.calla true [] [] [PV.vec false (B3 i L)] [] (U3 me)), (5, aF), (8, aV (I6 (↑(Hd.time h) : Int))), (10, aK (I6 hd)), (13, aV (I6 (hd + Prm.fu p))), (14, aF)] [] [decide ((i:Int) < (i:Int)) = false, 0 + i ≤ i, rr ([] : List (Nat × Row)), ([PV.vec false (B3 i (List.take i L))] : List PV) = [PV.vec false (B3 i L)], PC Tryz.prog G0 31 [] [PV.vec false (B3 i L)] [] (U3 me), decide ((↑(Hd.time h) : Int) ≤ me) = false, I6 (IntKind.wrap .i64 (↑(Hd.time h) : Int)) = I6 (↑(Hd.time h) : Int), PC Tryz.prog G0 32 [] [I6 now] [] (I6 hd), I6 (IntKind.wrap .i64 (hd + Prm.fu p)) = I6 (hd + Prm.fu p), decide ((↑(Hd.time h) : Int) > hd + Prm.fu p) = false, rr (I6 0)] (by kernel_rfl) (ac (decide_eq_false (by omega)) (ac (by omega) (ac rfl (ac (by rw [List.take_of_length_le (show List.length L ≤ i by omega)]) (ac (c1) (ac (decide_eq_false (by omega)) (ac (cg (w_i64 rfl (by omega) (by omega))) (ac (c2) (ac (cg (w_i64 rfl (by omega) (by omega))) (ac (decide_eq_false (by omega)) (ao rfl)))))))))))
  | k + 1, i, L, hk, h0, hL => by
    have hll : L.length = i := by rw [hL]; simp [tms]; omega
    have hs := tms_snoc (l := l) (i := i) (by omega)
    have g := lkl_get (l := l) (i := i) (by omega)
    have hlen : ((l.map lh).map lk).length = n := by simp [hn]
    rw [← hL] at hs
    have hw := W_rj hm hh (now := now) (nl := nl) hn hn1 k (i + 1) _ (by omega) (by omega) hs
    generalize l.getD i default = a at *
    generalize hhash a = x at *
    generalize jud2 p l h now = R at *
    generalize (l.map lh).map lk = K at *
    refine W.seg [(0, aT), (2, aV (PV.st 100 [Hd.pv a, B8 32 x])), (10, Ans.ups [(1, none), (224, some (Row.mk (B3 (i + 1) (L ++ [(↑(Hd.time a) : Int)])) false))]), (12, aV (I6 (↑(i + 1) : Int)))] [(4, 4), (6, 6), (224, 1)] (dsJ p h now nl K n (L ++ [(↑(Hd.time a) : Int)]) (i + 1)) (todo' := loopAt Tryz.f10 0) [decide ((i:Int) < (n:Int)) = true, 0 ≤ (i:Int), (i:Int) < (n:Int), PV.st 100 [expose hsh (List.headD (PV.fs (List.getD K i PV.undef)) PV.undef), B8 32 (PV.nums (List.headD (List.tail (PV.fs (List.getD K i PV.undef))) PV.undef))] = PV.st 100 [Hd.pv a, B8 32 x], i < n, ([(1, none), (224, some (Row.mk (B3 (i + 1) (List.take i L ++ [(↑(Hd.time a) : Int)])) false))] : List (Nat × Option Row)) = [(1, none), (224, some (Row.mk (B3 (i + 1) (L ++ [(↑(Hd.time a) : Int)])) false))], 1 ≤ 1, 0 + i = i, (i + 1) * 4 ≤ 140737488355328, i + 1 ≤ 9223372036854775807, I6 (IntKind.wrap .i64 ((i:Int) + 1)) = I6 (↑(i + 1) : Int), rr (I6 now), rr (PV.at 4 []), rr (PV.at 6 []), rr (PV.ref 1 [] 1 0 (i + 1)), rr (PV.vec nl (PV.parr 100 n (Sh.st 100 [hsh, Sh.iarr IntKind.u8 32]) K)), rr (I6 (n:Int)), rr (I6 (↑(i + 1) : Int)), rr (Prm.rpv p), rr (Hd.pv h), rr (B3 (i + 1) (L ++ [(↑(Hd.time a) : Int)]))] (by kernel_rfl) (ac (decide_eq_true (by omega)) (ac (by omega) (ac (by omega) (ac (by (rw [g]; rfl)) (ac (by omega) (ac (by rw [List.take_of_length_le (show List.length L ≤ i by omega)]) (ac (by omega) (ac (by omega) (ac (by omega) (ac (by omega) (ac (cg (w_i64 rfl (by omega) (by omega))) (ac rfl (ac rfl (ac rfl (ac rfl (ac rfl (ac rfl (ac rfl (ac rfl (ac rfl (ao rfl))))))))))))))))))))) ?_
    exact hw
set_option maxHeartbeats 4000000 in
theorem pc_rJudge {p : Prm} (hp : p.Ok) (hm : p.May) {nl : Bool} {l : List Hd} (h0 : 0 < l.length) (hn : l.length ≤ 30) (ho : ∀ h ∈ l, h.Ok) {h : Hd} (hh : h.Ok) {now : Int} :
    PC Tryz.prog G0 10 [] [p.rpv, links nl (l.map lh), h.pv, .int .i64 now] [] (.int .i64 (jud p l h now)) := by
  refine PC.of (fn := Tryz.f10) (c := bodyOf Tryz.f10) Tryz.func10 (by kernel_rfl) (by kernel_rfl) (by kernel_rfl) (by kernel_rfl) ?_
  have c1 := (bits_both hp hm (nl := nl) (nl2 := nl) h0 hn ho).2
  have c3 := pc_meets07 hh
  have g := lkl_get (l := l) (i := l.length - 1) (by omega)
  have g0 := lkl_get (l := l) (i := 0) h0
  have hi : (l.length : Int) - 1 = ((l.length - 1 : Nat) : Int) := by omega
  have hk : l.length - 1 < l.length := by omega
  have hpl := hh.prev
  have hhl := hhash_length (l.getD (l.length - 1) default)
  have hs := tms_snoc (l := l) (i := 0) h0
  rw [List.take_zero, show tms [] = [] from rfl, List.nil_append] at hs
  have hw := W_rj hm hh (now := now) (nl := nl) (l := l) rfl hn (l.length - 1) 1 _ (by omega) (by omega) hs
  have ej : jud p l h now = if ¬ h.prev = hhash (l.getD (l.length - 1) default) then 9 else if (nbits p l).2 = false ∨ ¬ (nbits p l).1 = h.bits then 10 else if meets h = false then 11 else jud2 p l h now := rfl
  rw [ej]
  have hlen : ((l.map lh).map lk).length = l.length := by simp
  unfold links at *
  rw [List.length_map] at *
  generalize (l.map lh).map lk = K at *
  generalize jud2 p l h now = R at *
  generalize nbits p l = xb at *
  generalize l.getD 0 default = a0 at *
  generalize hhash a0 = ha0 at *
  generalize l.getD (l.length - 1) default = a at *
  generalize l.length - 1 = k at *
  generalize l.length = n at *
  generalize hhash a = ha at *
  generalize meets h = mt at *
  obtain ⟨x, b⟩ := xb
  dsimp only at c1 ⊢
  by_cases j1 : h.prev = ha
  · rw [if_neg (not_not_intro j1)]
    by_cases j2 : b = false
    · rw [if_pos (.inl j2)]
      subst j2
      refine W.ret [(8, aV (I6 (k:Int))), (11, aV (B8 32 ha)), (12, aF), (15, aK (PV.tup [U3 (x:Int), PV.bool false]))] [] [I6 (IntKind.wrap .i64 ((n:Int) - 1)) = I6 (k:Int), 0 ≤ (k:Int), (k:Int) < (n:Int), B8 32 (PV.nums (List.headD (List.tail (PV.fs (List.getD K k PV.undef))) PV.undef)) = B8 32 ha, k < n, (!decide (Hd.prev h = ha)) = false, PC Tryz.prog G0 29 [] [Prm.rpv p, PV.vec nl (PV.parr 100 n (Sh.st 100 [hsh, Sh.iarr IntKind.u8 32]) K)] [] (PV.tup [U3 (x:Int), PV.bool false]), rr (I6 10)] (by kernel_rfl) (ac (cg (w_i64 hi (by omega) (by omega))) (ac (by omega) (ac (by omega) (ac (by (rw [g]; rfl)) (ac (by omega) (ac (by (simp [*]; done)) (ac (c1) (ao rfl))))))))
    · have j2 : b = true := by cases b <;> simp_all
      subst j2
      by_cases j3 : x = h.bits
      · rw [if_neg (by rintro (h | h); cases h; exact h j3)]
        by_cases j4 : mt = false
        · rw [if_pos j4]
          subst j4
          refine W.ret [(8, aV (I6 (k:Int))), (11, aV (B8 32 ha)), (12, aF), (15, aK (PV.tup [U3 (x:Int), PV.bool true])), (27, aF), (30, aK (PV.bool false))] [] [I6 (IntKind.wrap .i64 ((n:Int) - 1)) = I6 (k:Int), 0 ≤ (k:Int), (k:Int) < (n:Int), B8 32 (PV.nums (List.headD (List.tail (PV.fs (List.getD K k PV.undef))) PV.undef)) = B8 32 ha, k < n, (!decide (Hd.prev h = ha)) = false, PC Tryz.prog G0 29 [] [Prm.rpv p, PV.vec nl (PV.parr 100 n (Sh.st 100 [hsh, Sh.iarr IntKind.u8 32]) K)] [] (PV.tup [U3 (x:Int), PV.bool true]), ((x:Int) != (↑(Hd.bits h) : Int)) = false, PC Tryz.prog G0 30 [] [Hd.pv h] [] (PV.bool false), rr (I6 11)] (by kernel_rfl) (ac (cg (w_i64 hi (by omega) (by omega))) (ac (by omega) (ac (by omega) (ac (by (rw [g]; rfl)) (ac (by omega) (ac (by (simp [*]; done)) (ac (c1) (ac (bne_eq_false_iff_eq.2 (by omega)) (ac (c3) (ao rfl))))))))))
        · have j4 : mt = true := by cases mt <;> simp_all
          subst j4
          rw [if_neg (by decide)]
          refine W.seg [(8, aV (I6 (k:Int))), (11, aV (B8 32 ha)), (12, aF), (15, aK (PV.tup [U3 (x:Int), PV.bool true])), (27, aF), (30, aK (PV.bool true))] [(64, 4), (80, 6)] (dsJ0 p h now nl K n) (todo' := loopAt Tryz.f10 0) [I6 (IntKind.wrap .i64 ((n:Int) - 1)) = I6 (k:Int), 0 ≤ (k:Int), (k:Int) < (n:Int), B8 32 (PV.nums (List.headD (List.tail (PV.fs (List.getD K k PV.undef))) PV.undef)) = B8 32 ha, k < n, (!decide (Hd.prev h = ha)) = false, PC Tryz.prog G0 29 [] [Prm.rpv p, PV.vec nl (PV.parr 100 n (Sh.st 100 [hsh, Sh.iarr IntKind.u8 32]) K)] [] (PV.tup [U3 (x:Int), PV.bool true]), ((x:Int) != (↑(Hd.bits h) : Int)) = false, PC Tryz.prog G0 30 [] [Hd.pv h] [] (PV.bool true), rr (I6 now), rr (PV.at 4 []), rr (PV.at 6 []), rr (PV.vec true (B3 0 [])), rr (PV.vec nl (PV.parr 100 n (Sh.st 100 [hsh, Sh.iarr IntKind.u8 32]) K)), rr (I6 (n:Int)), I6 0 = I6 (↑(0 : Nat) : Int), rr (Prm.rpv p), rr (Hd.pv h)] (by kernel_rfl) (ac (cg (w_i64 hi (by omega) (by omega))) (ac (by omega) (ac (by omega) (ac (by (rw [g]; rfl)) (ac (by omega) (ac (by (simp [*]; done)) (ac (c1) (ac (bne_eq_false_iff_eq.2 (by omega)) (ac (c3) (ac rfl (ac rfl (ac rfl (ac rfl (ac rfl (ac rfl (ac (cg (by omega)) (ac rfl (ao rfl)))))))))))))))))) ?_
          refine W.seg [(0, aT), (2, aV (PV.st 100 [Hd.pv a0, B8 32 ha0])), (12, aV (I6 1))] [(4, 4), (6, 6), (224, 1)] (dsJ p h now nl K n [(↑(Hd.time a0) : Int)] 1) (todo' := loopAt Tryz.f10 0) [decide ((↑(0 : Nat) : Int) < (n:Int)) = true, 0 ≤ (↑(0 : Nat) : Int), (↑(0 : Nat) : Int) < (n:Int), PV.st 100 [expose hsh (List.headD (PV.fs (List.getD K 0 PV.undef)) PV.undef), B8 32 (PV.nums (List.headD (List.tail (PV.fs (List.getD K 0 PV.undef))) PV.undef))] = PV.st 100 [Hd.pv a0, B8 32 ha0], 0 < n, 1 ≤ 1, 0 < 1, 4 ≤ 140737488355328, 1 ≤ 9223372036854775807, I6 (IntKind.wrap .i64 ((↑(0 : Nat) : Int) + 1)) = I6 1, rr (I6 now), rr (PV.at 4 []), rr (PV.at 6 []), rr (PV.ref 1 [] 1 0 1), rr (PV.vec nl (PV.parr 100 n (Sh.st 100 [hsh, Sh.iarr IntKind.u8 32]) K)), rr (I6 (n:Int)), I6 1 = I6 (↑(1 : Nat) : Int), rr (Prm.rpv p), rr (Hd.pv h), rr (B3 1 [(↑(Hd.time a0) : Int)])] (by kernel_rfl) (ac (decide_eq_true (by omega)) (ac (by omega) (ac (by omega) (ac (by (rw [g0]; rfl)) (ac (by omega) (ac (by omega) (ac (by omega) (ac (by omega) (ac (by omega) (ac (cg (w_i64 rfl (by omega) (by omega))) (ac rfl (ac rfl (ac rfl (ac rfl (ac rfl (ac rfl (ac (cg (by omega)) (ac rfl (ac rfl (ao rfl)))))))))))))))))))) ?_
          exact hw
      · rw [if_pos (.inr j3)]
        refine W.ret [(8, aV (I6 (k:Int))), (11, aV (B8 32 ha)), (12, aF), (15, aK (PV.tup [U3 (x:Int), PV.bool true])), (27, aT)] [] [I6 (IntKind.wrap .i64 ((n:Int) - 1)) = I6 (k:Int), 0 ≤ (k:Int), (k:Int) < (n:Int), B8 32 (PV.nums (List.headD (List.tail (PV.fs (List.getD K k PV.undef))) PV.undef)) = B8 32 ha, k < n, (!decide (Hd.prev h = ha)) = false, PC Tryz.prog G0 29 [] [Prm.rpv p, PV.vec nl (PV.parr 100 n (Sh.st 100 [hsh, Sh.iarr IntKind.u8 32]) K)] [] (PV.tup [U3 (x:Int), PV.bool true]), ((x:Int) != (↑(Hd.bits h) : Int)) = true, rr (I6 10)] (by kernel_rfl) (ac (cg (w_i64 hi (by omega) (by omega))) (ac (by omega) (ac (by omega) (ac (by (rw [g]; rfl)) (ac (by omega) (ac (by (simp [*]; done)) (ac (c1) (ac (bne_iff_ne.2 (by omega)) (ao rfl)))))))))
  · rw [if_pos j1]
    refine W.ret [(8, aV (I6 (k:Int))), (11, aV (B8 32 ha)), (12, aT)] [] [I6 (IntKind.wrap .i64 ((n:Int) - 1)) = I6 (k:Int), 0 ≤ (k:Int), (k:Int) < (n:Int), B8 32 (PV.nums (List.headD (List.tail (PV.fs (List.getD K k PV.undef))) PV.undef)) = B8 32 ha, k < n, (!decide (Hd.prev h = ha)) = true, rr (I6 9)] (by kernel_rfl) (ac (cg (w_i64 hi (by omega) (by omega))) (ac (by omega) (ac (by omega) (ac (by (rw [g]; rfl)) (ac (by omega) (ac (by (simp [*]; done)) (ao rfl)))))))
end Go.Proofs
namespace Go.Proofs
open Go Go.Pe Go.Pm
set_option maxRecDepth 100000
set_option linter.unusedVariables false
attribute [local irreducible] hhash lv dsha
/-- the first header that fails, from i on, and its verdict -/
def scan (p : Prm) (l : List Hd) (now : Int) : Nat → Nat → Nat × Int
  | 0, i => (i, 0)
  | k + 1, i => if jud p (l.take i) (l.getD i default) now = 0 then scan p l now k (i + 1) else (i, jud p (l.take i) (l.getD i default) now)
theorem take_ok {l : List Hd} {i : Nat} (ho : ∀ h ∈ l, h.Ok) : ∀ h ∈ l.take i, h.Ok := fun h hh => ho h (List.mem_of_mem_take hh)
theorem pc_judgeT {p : Prm} (hp : p.Ok) (hm : p.May) {nl : Bool} {l : List Hd} {i : Nat} (h0 : 0 < i) (hi : i < l.length) (hn : l.length ≤ 30) (ho : ∀ h ∈ l, h.Ok) {now : Int} :
    PC Tryz.prog G0 9 [] [p.pv, .vec nl (.parr 68 i hsh ((l.map Hd.pv).take i)), (l.getD i default).pv, .int .i64 now] [] (.int .i64 (jud p (l.take i) (l.getD i default) now)) := by
  have hl : (l.take i).length = i := by rw [List.length_take]; omega
  have c := pc_judge hp hm (nl := nl) (l := l.take i) (now := now) (by omega) (by omega) (take_ok ho) (ok_get (i := i) ho hi)
  unfold lpv at c
  rw [hl, List.map_take] at c
  exact c
theorem pc_rJudgeT {p : Prm} (hp : p.Ok) (hm : p.May) {nl : Bool} {l : List Hd} {i : Nat} (h0 : 0 < i) (hi : i < l.length) (hn : l.length ≤ 30) (ho : ∀ h ∈ l, h.Ok) {now : Int} :
    PC Tryz.prog G0 10 [] [p.rpv, .vec nl (.parr 100 i lksh (((l.map lh).map lk).take i)), (l.getD i default).pv, .int .i64 now] [] (.int .i64 (jud p (l.take i) (l.getD i default) now)) := by
  have hl : (l.take i).length = i := by rw [List.length_take]; omega
  have c := pc_rJudge hp hm (nl := nl) (l := l.take i) (now := now) (by omega) (by omega) (take_ok ho) (ok_get (i := i) ho hi)
  unfold links at c
  rw [List.length_map, hl, List.map_take, List.map_take] at c
  exact c
def dsLn (p : Prm) (now : Int) (nl : Bool) (H : List PV) (n i : Nat) : DS := ⟨[(1, .vec nl (.parr 68 n hsh H)), (2, .int .i64 now), (3, .at 3 []), (8, .int .i64 i)], [(3, ⟨p.pv, false⟩)]⟩
set_option maxHeartbeats 4000000 in
theorem W_line {p : Prm} (hp : p.Ok) (hm : p.May) {now : Int} {nl : Bool} {l : List Hd} {n : Nat} (hn : l.length = n) (hn1 : n ≤ 30) (ho : ∀ h ∈ l, h.Ok) : ∀ (k i : Nat), i + k = n → 0 < i →
    W Tryz.prog G0 Tryz.f13 [] [] (.tup [.int .i64 (scan p l now k i).1, .int .i64 (scan p l now k i).2]) (loopAt Tryz.f13 0) (dsLn p now nl (l.map Hd.pv) n i)
  | 0, i, hk, h0 => by
    have hi : i = n := by omega
    subst hi
    unfold scan
    generalize l.map Hd.pv = H at *
    refine W.ret [(3, aF)] [] [decide ((i:Int) < (i:Int)) = false, PV.tup [I6 (i:Int), I6 0] = PV.tup [I6 (i:Int), I6 (Prod.snd (i, (0 : Int)))]] (by kernel_rfl) (ac (decide_eq_false (by omega)) (ao rfl))
  | k + 1, i, hk, h0 => by
    have hlen : (l.map Hd.pv).length = n := by rw [List.length_map, hn]
    have g := map_get (l := l) (i := i) (by omega)
    have c := pc_judgeT hp hm (nl := nl) (l := l) (now := now) (i := i) h0 (by omega) (by omega) ho
    have hw := W_line hp hm (now := now) (nl := nl) hn hn1 ho k (i + 1) (by omega) (by omega)
    have hin : i < n := by omega
    rw [scan]
    generalize jud p (l.take i) (l.getD i default) now = r at *
    generalize scan p l now k (i + 1) = x at *
    generalize l.getD i default = a at *
    generalize l.map Hd.pv = H at *
    by_cases hr : r = 0
    · rw [if_pos hr]
      refine W.seg [(3, aT), (11, aV (Hd.pv a)), (13, aK (I6 r)), (14, aV (I6 0)), (18, aV (I6 (↑(i + 1) : Int)))] [(3, 3)] (dsLn p now nl H n (i + 1)) (todo' := loopAt Tryz.f13 0) [decide ((i:Int) < (n:Int)) = true, (0 : Int) ≤ (0 : Int), 0 ≤ (i:Int), (i:Int) ≤ (n:Int), 0 ≤ (i:Int), (i:Int) < (n:Int), expose hsh (List.getD H i PV.undef) = Hd.pv a, i < n, PC Tryz.prog G0 9 [] [Prm.pv p, PV.vec nl (PV.parr 68 i hsh (List.take i H)), Hd.pv a, I6 now] [] (I6 r), I6 r = I6 0, I6 (IntKind.wrap .i64 ((i:Int) + 1)) = I6 (↑(i + 1) : Int), rr (PV.vec nl (PV.parr 68 n hsh H)), rr (I6 now), rr (PV.at 3 []), rr (I6 (↑(i + 1) : Int)), rr (Prm.pv p)] (by kernel_rfl) (ac (decide_eq_true (by omega)) (ac (by omega) (ac (by omega) (ac (by omega) (ac (by omega) (ac (by omega) (ac (by (rw [g]; rfl)) (ac (by omega) (ac (c) (ac (cg (hr)) (ac (cg (w_i64 rfl (by omega) (by omega))) (ac rfl (ac rfl (ac rfl (ac rfl (ao rfl)))))))))))))))) ?_
      exact hw
    · rw [if_neg hr]
      refine W.ret [(3, aT), (11, aV (Hd.pv a)), (13, aK (I6 r)), (16, aT)] [] [decide ((i:Int) < (n:Int)) = true, (0 : Int) ≤ (0 : Int), 0 ≤ (i:Int), (i:Int) ≤ (n:Int), 0 ≤ (i:Int), (i:Int) < (n:Int), expose hsh (List.getD H i PV.undef) = Hd.pv a, i < n, PC Tryz.prog G0 9 [] [Prm.pv p, PV.vec nl (PV.parr 68 i hsh (List.take i H)), Hd.pv a, I6 now] [] (I6 r), (r != (0 : Int)) = true, PV.tup [I6 (i:Int), I6 r] = PV.tup [I6 (i:Int), I6 (Prod.snd (i, r))]] (by kernel_rfl) (ac (decide_eq_true (by omega)) (ac (by omega) (ac (by omega) (ac (by omega) (ac (by omega) (ac (by omega) (ac (by (rw [g]; rfl)) (ac (by omega) (ac (c) (ac (bne_iff_ne.2 (by omega)) (ao rfl)))))))))))
instance : DecidableEq Hd := fun a b => decidable_of_iff (a.ver = b.ver ∧ a.prev = b.prev ∧ a.root = b.root ∧ a.time = b.time ∧ a.bits = b.bits ∧ a.nonce = b.nonce) (by cases a; cases b; simp)
/-- a line's verdict -/
def lineM (p : Prm) (l : List Hd) (now : Int) : Nat × Int := if l.getD 0 default = p.gen then scan p l now (l.length - 1) 1 else (0, 3)
theorem pc_line0 {p : Prm} {now : Int} {nl : Bool} : PC Tryz.prog G0 13 [] [p.pv, lpv nl [], .int .i64 now] [] (.tup [.int .i64 0, .int .i64 6]) := by
  refine PC.of (fn := Tryz.f13) (c := bodyOf Tryz.f13) Tryz.func13 (by kernel_rfl) (by kernel_rfl) (by kernel_rfl) (by kernel_rfl) ?_
  refine W.ret [(4, aV (I6 0))] [] [I6 (↑(0 : Nat) : Int) = I6 0, rr (PV.tup [I6 0, I6 6])] (by kernel_rfl) (ac (cg (by omega)) (ao rfl))
theorem hd_eqB (a b : Hd) : (!((a.ver : Int) == (b.ver : Int) && (decide (a.prev = b.prev) && (decide (a.root = b.root) && ((a.time : Int) == (b.time : Int) && ((a.bits : Int) == (b.bits : Int) && ((a.nonce : Int) == (b.nonce : Int) && true))))))) = decide (¬ a = b) := by
  rw [Bool.eq_iff_iff]
  cases a; cases b
  simp [Int.natCast_inj]
set_option maxHeartbeats 4000000 in
theorem pc_line {p : Prm} (hp : p.Ok) (hm : p.May) {now : Int} {nl : Bool} {l : List Hd} (h0 : 0 < l.length) (hn : l.length ≤ 30) (ho : ∀ h ∈ l, h.Ok) :
    PC Tryz.prog G0 13 [] [p.pv, lpv nl l, .int .i64 now] [] (.tup [.int .i64 (lineM p l now).1, .int .i64 (lineM p l now).2]) := by
  refine PC.of (fn := Tryz.f13) (c := bodyOf Tryz.f13) Tryz.func13 (by kernel_rfl) (by kernel_rfl) (by kernel_rfl) (by kernel_rfl) ?_
  have g := map_get (l := l) (i := 0) (by omega)
  have ha := ok_get (i := 0) ho h0
  have hg := hp.gen
  have hw := W_line hp hm (now := now) (nl := nl) (l := l) rfl hn ho (l.length - 1) 1 (by omega) (by omega)
  unfold lpv lineM
  generalize l.getD 0 default = a at *
  generalize scan p l now (l.length - 1) 1 = x at *
  generalize l.length = n at *
  generalize l.map Hd.pv = H at *
  have q1 := ha.prev
  have q2 := ha.root
  have q3 := hg.prev
  have q4 := hg.root
  by_cases e : a = p.gen
  · rw [if_pos e]
    have e2 := hd_eqB a p.gen
    rw [decide_eq_false (not_not_intro e)] at e2
    refine W.seg [(5, aF), (8, aV (Hd.pv a)), (11, aF)] [(64, 3)] (dsLn p now nl H n 1) (todo' := loopAt Tryz.f13 0) [((n:Int) == 0) = false, (0 : Int) ≤ (0 : Int), 0 < (n:Int), expose hsh (List.getD H 0 PV.undef) = Hd.pv a, 0 < n, (!((↑(Hd.ver a) : Int) == (↑(Hd.ver (Prm.gen p)) : Int) && (decide (Hd.prev a = Hd.prev (Prm.gen p)) && (decide (Hd.root a = Hd.root (Prm.gen p)) && ((↑(Hd.time a) : Int) == (↑(Hd.time (Prm.gen p)) : Int) && ((↑(Hd.bits a) : Int) == (↑(Hd.bits (Prm.gen p)) : Int) && ((↑(Hd.nonce a) : Int) == (↑(Hd.nonce (Prm.gen p)) : Int) && true))))))) = false, rr (PV.vec nl (PV.parr 68 n hsh H)), rr (I6 now), rr (PV.at 3 []), I6 1 = I6 (↑(1 : Nat) : Int), rr (Prm.pv p)] (by kernel_rfl) (ac (decide_eq_false (by omega)) (ac (by omega) (ac (by omega) (ac (by (rw [g]; rfl)) (ac (by omega) (ac (by assumption) (ac rfl (ac rfl (ac rfl (ac (cg (by omega)) (ao rfl))))))))))) ?_
    exact hw
  · rw [if_neg e]
    have e2 := hd_eqB a p.gen
    rw [decide_eq_true e] at e2
    refine W.ret [(5, aF), (8, aV (Hd.pv a)), (11, aT)] [] [((n:Int) == 0) = false, (0 : Int) ≤ (0 : Int), 0 < (n:Int), expose hsh (List.getD H 0 PV.undef) = Hd.pv a, 0 < n, (!((↑(Hd.ver a) : Int) == (↑(Hd.ver (Prm.gen p)) : Int) && (decide (Hd.prev a = Hd.prev (Prm.gen p)) && (decide (Hd.root a = Hd.root (Prm.gen p)) && ((↑(Hd.time a) : Int) == (↑(Hd.time (Prm.gen p)) : Int) && ((↑(Hd.bits a) : Int) == (↑(Hd.bits (Prm.gen p)) : Int) && ((↑(Hd.nonce a) : Int) == (↑(Hd.nonce (Prm.gen p)) : Int) && true))))))) = true, PV.tup [I6 0, I6 3] = PV.tup [I6 (↑(0 : Nat) : Int), I6 (Prod.snd (0, (3 : Int)))]] (by kernel_rfl) (ac (decide_eq_false (by omega)) (ac (by omega) (ac (by omega) (ac (by (rw [g]; rfl)) (ac (by omega) (ac (by assumption) (ao rfl)))))))
def dsLL (p : Prm) (now : Int) (nl : Bool) (H K : List PV) (n : Nat) (x : Nat × Int) (i : Nat) : DS := ⟨[(1, .vec nl (.parr 68 n hsh H)), (2, .int .i64 now), (3, .at 3 []), (7, .int .i64 x.1), (8, .int .i64 x.2), (9, .vec false (.parr 100 n lksh K)), (10, .int .i64 i)], [(3, ⟨p.pv, false⟩)]⟩
set_option maxHeartbeats 4000000 in
theorem W_ll {p : Prm} (hp : p.Ok) (hm : p.May) {now : Int} {nl : Bool} {l : List Hd} {n : Nat} {x : Nat × Int} (hn : l.length = n) (hn1 : n ≤ 30) (ho : ∀ h ∈ l, h.Ok) : ∀ (k i : Nat), i + k = n → 0 < i → x = scan p l now k i →
    W Tryz.prog G0 Tryz.f4 [] [] (.bool true) (loopAt Tryz.f4 0) (dsLL p now nl (l.map Hd.pv) ((l.map lh).map lk) n x i)
  | 0, i, hk, h0, hx => by
    have hi : i = n := by omega
    subst hi
    unfold scan at hx
    subst hx
    have c4 := pc_awake19
    generalize l.map Hd.pv = H at *
    generalize (l.map lh).map lk = K at *
    unfold dsLL
    dsimp only
    refine W.ret [(3, aF), (7, aT), (13, aK (PV.bool true))] [] [decide ((i:Int) < (i:Int)) = false, ((i:Int) == (i:Int)) = true, PC Tryz.prog G0 8 [] [] [] (PV.bool true), rr (PV.bool true)] (by kernel_rfl) (ac (decide_eq_false (by omega)) (ac (decide_eq_true (by omega)) (ac (c4) (ao rfl))))
  | k + 1, i, hk, h0, hx => by
    have hlen : ((l.map lh).map lk).length = n := by simp [hn]
    have g := lkl_get (l := l) (i := i) (by omega)
    have c := pc_rJudgeT hp hm (nl := false) (l := l) (now := now) (i := i) h0 (by omega) (by omega) ho
    have c3 := pc_rref hp.sum
    have c4 := pc_awake19
    have hw := W_ll hp hm (now := now) (nl := nl) (x := x) hn hn1 ho k (i + 1) (by omega) (by omega)
    have hin : i < n := by omega
    rw [scan] at hx
    generalize jud p (l.take i) (l.getD i default) now = r at *
    generalize scan p l now k (i + 1) = y at *
    generalize l.getD i default = a at *
    generalize hhash a = ha at *
    generalize l.map Hd.pv = H at *
    generalize (l.map lh).map lk = K at *
    by_cases hr : r = 0
    · rw [if_pos hr] at hx
      have hw := hw hx
      obtain ⟨x1, x2⟩ := x
      unfold dsLL at *
      dsimp only at *
      refine W.seg [(3, aT), (5, Ans.call false [] [] (Prm.rpv p)), (13, aV (Hd.pv a)), (15, aK (I6 r)), (16, aV (I6 0)), (20, aV (I6 (↑(i + 1) : Int)))] [(3, 3)] (dsLL p now nl H K n (x1, x2) (i + 1)) (todo' := loopAt Tryz.f4 0) [decide ((i:Int) < (n:Int)) = true, PC Tryz.prog G0 7 [] [Prm.pv p] [] (Prm.rpv p), (0 : Int) ≤ (0 : Int), 0 ≤ (i:Int), (i:Int) ≤ (n:Int), 0 ≤ (i:Int), (i:Int) < (n:Int), expose hsh (List.headD (PV.fs (List.getD K i PV.undef)) PV.undef) = Hd.pv a, i < n, PC Tryz.prog G0 10 [] [Prm.rpv p, PV.vec false (PV.parr 100 i (Sh.st 100 [hsh, Sh.iarr IntKind.u8 32]) (List.take i K)), Hd.pv a, I6 now] [] (I6 r), I6 r = I6 0, I6 (IntKind.wrap .i64 ((i:Int) + 1)) = I6 (↑(i + 1) : Int), rr (PV.vec nl (PV.parr 68 n hsh H)), rr (I6 now), rr (PV.at 3 []), rr (I6 (x1:Int)), I6 x2 = I6 (Prod.snd (x1, x2)), rr (PV.vec false (PV.parr 100 n (Sh.st 100 [hsh, Sh.iarr IntKind.u8 32]) K)), rr (I6 (↑(i + 1) : Int)), rr (Prm.pv p)] (by kernel_rfl) (ac (decide_eq_true (by omega)) (ac (c3) (ac (by omega) (ac (by omega) (ac (by omega) (ac (by omega) (ac (by omega) (ac (by (rw [g]; rfl)) (ac (by omega) (ac (c) (ac (cg (hr)) (ac (cg (w_i64 rfl (by omega) (by omega))) (ac rfl (ac rfl (ac rfl (ac rfl (ac rfl (ac rfl (ac rfl (ao rfl)))))))))))))))))))) ?_
      exact hw
    · rw [if_neg hr] at hx
      subst hx
      unfold dsLL
      dsimp only
      refine W.ret [(3, aT), (5, Ans.call false [] [] (Prm.rpv p)), (13, aV (Hd.pv a)), (15, aK (I6 r)), (18, aT), (21, aT), (25, aT), (28, aK (PV.bool true))] [] [decide ((i:Int) < (n:Int)) = true, PC Tryz.prog G0 7 [] [Prm.pv p] [] (Prm.rpv p), (0 : Int) ≤ (0 : Int), 0 ≤ (i:Int), (i:Int) ≤ (n:Int), 0 ≤ (i:Int), (i:Int) < (n:Int), expose hsh (List.headD (PV.fs (List.getD K i PV.undef)) PV.undef) = Hd.pv a, i < n, PC Tryz.prog G0 10 [] [Prm.rpv p, PV.vec false (PV.parr 100 i (Sh.st 100 [hsh, Sh.iarr IntKind.u8 32]) (List.take i K)), Hd.pv a, I6 now] [] (I6 r), (r != (0 : Int)) = true, ((i:Int) == (i:Int)) = true, (r == r) = true, PC Tryz.prog G0 8 [] [] [] (PV.bool true), rr (PV.bool true)] (by kernel_rfl) (ac (decide_eq_true (by omega)) (ac (c3) (ac (by omega) (ac (by omega) (ac (by omega) (ac (by omega) (ac (by omega) (ac (by (rw [g]; rfl)) (ac (by omega) (ac (c) (ac (bne_iff_ne.2 (by omega)) (ac (decide_eq_true (by omega)) (ac (decide_eq_true (by omega)) (ac (c4) (ao rfl)))))))))))))))
set_option maxHeartbeats 4000000 in
theorem pc_ruleLines {p : Prm} {nl : Bool} {l : List Hd} (hp : p.Ok) (ho : ∀ h ∈ l, h.Ok) {now : Int} : PC Tryz.prog G0 4 [] [p.pv, lpv nl l, .int .i64 now] [] (.bool true) := by
  refine PC.of (fn := Tryz.f4) (c := bodyOf Tryz.f4) Tryz.func4 (by kernel_rfl) (by kernel_rfl) (by kernel_rfl) (by kernel_rfl) ?_
  have c3 := pc_rref hp.sum
  have c4 := pc_awake19
  by_cases hb : l.length > 16
  · unfold lpv
    generalize l.length = n at *
    refine W.ret [(4, aT), (11, aK (PV.bool true))] [] [decide ((n:Int) > 16) = true, PC Tryz.prog G0 8 [] [] [] (PV.bool true), rr (PV.bool true)] (by kernel_rfl) (ac (decide_eq_true (by omega)) (ac (c4) (ao rfl)))
  · by_cases hm : p.May
    · have c5 := pc_mayY hp hm
      by_cases h0 : l.length = 0
      · have hl : l = [] := List.eq_nil_of_length_eq_zero h0
        subst hl
        have c1 := pc_line0 (p := p) (nl := nl) (now := now)
        refine W.ret [(3, aV (I6 0)), (7, Ans.call false [] [] (Prm.rpv p)), (8, aK (PV.bool true)), (14, aK (PV.tup [I6 0, I6 6])), (21, aV (I6 0)), (30, aK (PV.bool true))] [] [I6 (↑(0 : Nat) : Int) = I6 0, PC Tryz.prog G0 7 [] [Prm.pv p] [] (Prm.rpv p), PC Tryz.prog G0 6 [] [Prm.rpv p] [] (PV.bool true), PC Tryz.prog G0 13 [] [Prm.pv p, PV.vec nl (PV.parr 68 0 hsh []), I6 now] [] (PV.tup [I6 0, I6 6]), I6 (↑(0 : Nat) : Int) = I6 0, PC Tryz.prog G0 8 [] [] [] (PV.bool true), rr (PV.bool true)] (by kernel_rfl) (ac (cg (by omega)) (ac (c3) (ac (c5) (ac (c1) (ac (cg (by omega)) (ac (c4) (ao rfl)))))))
      · have c1 := pc_line hp hm (nl := nl) (l := l) (now := now) (by omega) (by omega) ho
        have c6 := pc_links (nl := nl) (l := l) (by omega) (by omega) ho
        have g := map_get (l := l) (i := 0) (by omega)
        have ha := ok_get (i := 0) ho (by omega)
        have hg := hp.gen
        have q1 := ha.prev
        have q2 := ha.root
        have q3 := hg.prev
        have q4 := hg.root
        unfold links at c6
        rw [List.length_map] at c6
        unfold lineM at c1
        by_cases e : l.getD 0 default = p.gen
        · rw [if_pos e] at c1
          have e2 := hd_eqB (l.getD 0 default) p.gen
          rw [decide_eq_false (not_not_intro e)] at e2
          have hw := W_ll hp hm (now := now) (nl := nl) (l := l) rfl (by omega) ho (l.length - 1) 1 (by omega) (by omega) rfl
          unfold lpv at *
          generalize l.getD 0 default = a at *
          generalize scan p l now (l.length - 1) 1 = x at *
          generalize (l.map lh).map lk = K at *
          generalize l.length = n at *
          generalize l.map Hd.pv = H at *
          obtain ⟨x1, x2⟩ := x
          dsimp only at c1
          refine W.seg [(4, aF), (7, Ans.call false [] [] (Prm.rpv p)), (8, aK (PV.bool true)), (14, aK (PV.tup [I6 (x1:Int), I6 x2])), (22, aF), (25, aV (Hd.pv a)), (28, aF), (30, Ans.call false [] [] (PV.vec false (PV.parr 100 n (Sh.st 100 [hsh, Sh.iarr IntKind.u8 32]) K)))] [(64, 3)] (dsLL p now nl H K n (x1, x2) 1) (todo' := loopAt Tryz.f4 0) [decide ((n:Int) > 16) = false, PC Tryz.prog G0 7 [] [Prm.pv p] [] (Prm.rpv p), PC Tryz.prog G0 6 [] [Prm.rpv p] [] (PV.bool true), PC Tryz.prog G0 13 [] [Prm.pv p, PV.vec nl (PV.parr 68 n hsh H), I6 now] [] (PV.tup [I6 (x1:Int), I6 x2]), ((n:Int) == 0) = false, (0 : Int) ≤ (0 : Int), 0 < (n:Int), expose hsh (List.getD H 0 PV.undef) = Hd.pv a, 0 < n, (!((↑(Hd.ver a) : Int) == (↑(Hd.ver (Prm.gen p)) : Int) && (decide (Hd.prev a = Hd.prev (Prm.gen p)) && (decide (Hd.root a = Hd.root (Prm.gen p)) && ((↑(Hd.time a) : Int) == (↑(Hd.time (Prm.gen p)) : Int) && ((↑(Hd.bits a) : Int) == (↑(Hd.bits (Prm.gen p)) : Int) && ((↑(Hd.nonce a) : Int) == (↑(Hd.nonce (Prm.gen p)) : Int) && true))))))) = false, PC Tryz.prog G0 11 [] [PV.vec nl (PV.parr 68 n hsh H)] [] (PV.vec false (PV.parr 100 n (Sh.st 100 [hsh, Sh.iarr IntKind.u8 32]) K)), rr (PV.vec nl (PV.parr 68 n hsh H)), rr (I6 now), rr (PV.at 3 []), rr (I6 (x1:Int)), I6 x2 = I6 (Prod.snd (x1, x2)), rr (PV.vec false (PV.parr 100 n (Sh.st 100 [hsh, Sh.iarr IntKind.u8 32]) K)), I6 1 = I6 (↑(1 : Nat) : Int), rr (Prm.pv p)] (by kernel_rfl) (ac (decide_eq_false (by omega)) (ac (c3) (ac (c5) (ac (c1) (ac (decide_eq_false (by omega)) (ac (by omega) (ac (by omega) (ac (by (rw [g]; rfl)) (ac (by omega) (ac (by assumption) (ac (c6) (ac rfl (ac rfl (ac rfl (ac rfl (ac rfl (ac rfl (ac (cg (by omega)) (ao rfl))))))))))))))))))) ?_
          exact hw
        · rw [if_neg e] at c1
          have e2 := hd_eqB (l.getD 0 default) p.gen
          rw [decide_eq_true e] at e2
          dsimp only at c1
          unfold lpv at *
          generalize l.getD 0 default = a at *
          generalize l.length = n at *
          generalize l.map Hd.pv = H at *
          refine W.ret [(4, aF), (7, Ans.call false [] [] (Prm.rpv p)), (8, aK (PV.bool true)), (14, aK (PV.tup [I6 (↑(0 : Nat) : Int), I6 3])), (16, aV (I6 0)), (22, aF), (25, aV (Hd.pv a)), (28, aT), (36, aK (PV.bool true))] [] [decide ((n:Int) > 16) = false, PC Tryz.prog G0 7 [] [Prm.pv p] [] (Prm.rpv p), PC Tryz.prog G0 6 [] [Prm.rpv p] [] (PV.bool true), PC Tryz.prog G0 13 [] [Prm.pv p, PV.vec nl (PV.parr 68 n hsh H), I6 now] [] (PV.tup [I6 (↑(0 : Nat) : Int), I6 3]), I6 (↑(0 : Nat) : Int) = I6 0, ((n:Int) == 0) = false, (0 : Int) ≤ (0 : Int), 0 < (n:Int), expose hsh (List.getD H 0 PV.undef) = Hd.pv a, 0 < n, (!((↑(Hd.ver a) : Int) == (↑(Hd.ver (Prm.gen p)) : Int) && (decide (Hd.prev a = Hd.prev (Prm.gen p)) && (decide (Hd.root a = Hd.root (Prm.gen p)) && ((↑(Hd.time a) : Int) == (↑(Hd.time (Prm.gen p)) : Int) && ((↑(Hd.bits a) : Int) == (↑(Hd.bits (Prm.gen p)) : Int) && ((↑(Hd.nonce a) : Int) == (↑(Hd.nonce (Prm.gen p)) : Int) && true))))))) = true, PC Tryz.prog G0 8 [] [] [] (PV.bool true), rr (PV.bool true)] (by kernel_rfl) (ac (decide_eq_false (by omega)) (ac (c3) (ac (c5) (ac (c1) (ac (cg (by omega)) (ac (decide_eq_false (by omega)) (ac (by omega) (ac (by omega) (ac (by (rw [g]; rfl)) (ac (by omega) (ac (by assumption) (ac (c4) (ao rfl)))))))))))))
    · have c5 := pc_mayN hp hm
      unfold lpv
      generalize l.length = n at *
      refine W.ret [(4, aF), (7, Ans.call false [] [] (Prm.rpv p)), (8, aK (PV.bool false)), (11, aK (PV.bool true))] [] [decide ((n:Int) > 16) = false, PC Tryz.prog G0 7 [] [Prm.pv p] [] (Prm.rpv p), PC Tryz.prog G0 6 [] [Prm.rpv p] [] (PV.bool false), PC Tryz.prog G0 8 [] [] [] (PV.bool true), rr (PV.bool true)] (by kernel_rfl) (ac (decide_eq_false (by omega)) (ac (c3) (ac (c5) (ac (c4) (ao rfl)))))
end Go.Proofs
namespace Go.Pe
def laysB (P : Program) (tot : Nat) : Nat → List Field → Bool
  | o, [] => Nat.beq o tot
  | o, f :: l => Nat.beq f.offset o && laysB P tot (o + P.cellsOf f.type) l
def okT (P : Program) : Nat → TypeId → Bool
  | 0, _ => false
  | d + 1, t => match P.underlying t with
    | some .bool | some (.int _) | some .string => Nat.beq (P.cellsOf t) 1
    | some (.struct fs) => laysB P (P.cellsOf t) 0 fs.toList && fs.toList.all fun f => okT P d f.type
    | some (.array n e) => Nat.beq (P.cellsOf t) (n * P.cellsOf e) && szOk P e && okT P d e
    | some (.slice e) => Nat.beq (P.cellsOf t) 1 && szOk P e && okT P d e
    | _ => false
theorem same_refl (k : IntKind) : IntKind.same k k = true := by cases k <;> rfl
theorem beq_refl (s : Sh) : Sh.beq s s = true :=
  Sh.rec (motive_1 := fun s => Sh.beq s s = true) (motive_2 := fun l => Sh.beqL l l = true) rfl same_refl rfl rfl (fun _ _ ih => by simp only [Sh.beq, Bool.and_eq_true]; exact ⟨Nat.beq_refl _, ih⟩)
    (fun k _ => by simp only [Sh.beq, Bool.and_eq_true]; exact ⟨same_refl k, Nat.beq_refl _⟩) (fun _ _ _ ih => by simp only [Sh.beq, Bool.and_eq_true]; exact ⟨⟨Nat.beq_refl _, Nat.beq_refl _⟩, ih⟩)
    (fun _ _ ih => by simp only [Sh.beq, Bool.and_eq_true]; exact ⟨Nat.beq_refl _, ih⟩) rfl (fun _ _ h1 h2 => by simp only [Sh.beqL, Bool.and_eq_true]; exact ⟨h1, h2⟩) s
structure Opens (P : Program) (w : World) (T : T2) (d : Nat) (t : TypeId) (cs : List Value) (p : PV) : Prop where
  conf : conf (shOf P d t) p = true
  wf : WF p
  noref : noref p = true
  untup : untup p = true
  size : size p = P.cellsOf t
  len : cs.length = P.cellsOf t
  agg : Pe.isAgg p = isAggT P t
  rel : ∀ (j : Nat) (q : PV) (u : Value), (flat p)[j]? = some q → cs[j]? = some u → RC w T u q
theorem mapM_get {α β : Type} {g : α → Option β} : ∀ {l : List α} {xs : List β}, l.mapM g = some xs → ∀ i ∈ l, ∃ y, g i = some y
  | [], _, _, i, hi => by cases hi
  | a :: l, xs, h, i, hi => by
    rw [List.mapM_cons] at h
    simp only [Option.bind_eq_bind, Option.bind_eq_some_iff] at h
    obtain ⟨y, hy, ys, hys, _⟩ := h
    rcases List.mem_cons.1 hi with rfl | hi
    · exact ⟨y, hy⟩
    · exact mapM_get hys i hi
theorem flatL_nth {s : Nat} (hs : 0 < s) : ∀ {l : List PV}, WFL l → (∀ q ∈ l, Pe.size q = s) → ∀ {j : Nat} {q : PV}, (flatL l)[j]? = some q → ∃ p, l[j / s]? = some p ∧ (flat p)[j % s]? = some q
  | [], _, _, j, q, h => by simp [flatL] at h
  | p :: l, hw, hz, j, q, h => by
    simp only [WFL] at hw
    have hl : (flat p).length = s := by rw [flat_length p hw.1, hz p (by simp)]
    simp only [flatL] at h
    by_cases hj : j < s
    · rw [List.getElem?_append_left (by omega)] at h
      refine ⟨p, by rw [Nat.div_eq_of_lt hj]; rfl, by rw [Nat.mod_eq_of_lt hj]; exact h⟩
    · rw [List.getElem?_append_right (by omega), hl] at h
      obtain ⟨p', h1, h2⟩ := flatL_nth hs hw.2 (fun q hq => hz q (by simp [hq])) h
      have e : j = (j - s) + s := by omega
      refine ⟨p', ?_, ?_⟩
      · rw [e, Nat.add_div_right _ hs]
        simpa using h1
      · rw [e, Nat.add_mod_right]; exact h2
/-- The row of n elements. -/
def arrOf (P : Program) (d : Nat) (e : TypeId) (l : List PV) : PV := match P.underlying e with
  | some (.int k) => .iarr k l.length (l.map PV.num)
  | _ => .parr (P.cellsOf e) l.length (shOf P d e) l
section
variable {P : Program} {w : World} {T : T2}
theorem shOf_int {d : Nat} {e : TypeId} {k : IntKind} (h : P.underlying e = some (.int k)) : shOf P (d + 1) e = .int k := by simp only [shOf, h]
theorem shOf_slice {d : Nat} {t e : TypeId} (h : P.underlying t = some (.slice e)) : shOf P (d + 1) t = .vec (P.cellsOf e) (shOf P d e) := by simp only [shOf, h]
theorem arrOf_spec {d : Nat} {e : TypeId} {l : List PV} (hok : okT P d e = true) (hl : ∀ q ∈ l, Pe.conf (shOf P d e) q = true ∧ WF q ∧ Pe.noref q = true ∧ Pe.untup q = true ∧ Pe.size q = P.cellsOf e) :
    WF (arrOf P d e l) ∧ isArr (arrOf P d e l) = true ∧ arrLen (arrOf P d e l) = l.length ∧ elSize (arrOf P d e l) = P.cellsOf e ∧ Pe.untup (arrOf P d e l) = true ∧ flat (arrOf P d e l) = flatL l ∧ Pe.size (arrOf P d e l) = l.length * P.cellsOf e := by
  have hut : untupL l = true := by
    clear hok
    induction l with
    | nil => rfl
    | cons p l ih =>
      simp only [untupL, Bool.and_eq_true]
      exact ⟨(hl p (by simp)).2.2.2.1, ih fun q hq => hl q (by simp [hq])⟩
  unfold arrOf
  split
  · rename_i k hu
    obtain ⟨d', rfl⟩ : ∃ d', d = d' + 1 := by cases d with
      | zero => simp [okT] at hok
      | succ d => exact ⟨d, rfl⟩
    have h1 : P.cellsOf e = 1 := by
      simp only [okT, hu] at hok
      exact Nat.eq_of_beq_eq_true hok
    have hq : ∀ q ∈ l, ∃ x, q = .int k x ∧ k.wrap x = x := by
      intro q hq
      have := hl q hq
      rw [shOf_int hu] at this
      cases q <;> simp only [Pe.conf, reduceCtorEq, false_and] at this
      rename_i k' x
      have hk := IntKind.same_eq this.1
      subst hk
      exact ⟨x, rfl, by simpa only [WF] using this.2.1⟩
    have hf : (l.map PV.num).map (PV.int k) = l := by
      rw [List.map_map]
      conv => rhs; rw [← List.map_id l]
      refine List.map_congr_left fun q hql => ?_
      obtain ⟨x, rfl, _⟩ := hq q hql
      rfl
    have hfl : flatL l = l := by
      clear hok hf
      induction l with
      | nil => rfl
      | cons p l ih =>
        obtain ⟨x, rfl, _⟩ := hq p (by simp)
        simp only [flatL, flat]
        rw [ih (by simp only [untupL, Bool.and_eq_true] at hut; exact hut.2) (fun q hq' => hl q (by simp [hq'])) (fun q hq' => hq q (by simp [hq']))]
        rfl
    refine ⟨?_, rfl, rfl, by simp only [elSize]; omega, rfl, by simp only [flat]; rw [hf, hfl], by simp only [Pe.size]; rw [h1, Nat.mul_one]⟩
    simp only [WF, List.length_map, List.mem_map, true_and]
    rintro x ⟨q, hql, rfl⟩
    obtain ⟨x, rfl, hx⟩ := hq q hql
    exact hx
  · refine ⟨?_, rfl, rfl, rfl, by simpa only [Pe.untup] using hut, rfl, rfl⟩
    simp only [WF]
    exact ⟨trivial, WFL_of fun q hq => (hl q hq).2.1, fun q hq => ⟨(hl q hq).2.2.2.2, (hl q hq).1, (hl q hq).2.2.1⟩⟩
theorem opens_array {d n : Nat} {t e : TypeId} {cs : List Value} (hu : P.underlying t = some (.array n e)) (hc : P.cellsOf t = n * P.cellsOf e) (hok : okT P d e = true) (hs : 0 < P.cellsOf e) (hl : cs.length = P.cellsOf t)
    (h : ∀ i, i < n → ∃ p, Opens P w T d e ((cs.drop (i * P.cellsOf e)).take (P.cellsOf e)) p) : ∃ p, Opens P w T (d + 1) t cs p := by
  have hex : ∀ i, ∃ p, i < n → Opens P w T d e ((cs.drop (i * P.cellsOf e)).take (P.cellsOf e)) p := fun i => by
    by_cases hi : i < n
    · obtain ⟨p, hp⟩ := h i hi; exact ⟨p, fun _ => hp⟩
    · exact ⟨.undef, fun h => absurd h hi⟩
  obtain ⟨f, hf⟩ := Classical.axiomOfChoice hex
  have hmem : ∀ q ∈ (List.range n).map f, Pe.conf (shOf P d e) q = true ∧ WF q ∧ Pe.noref q = true ∧ Pe.untup q = true ∧ Pe.size q = P.cellsOf e := by
    intro q hq
    obtain ⟨i, hi, rfl⟩ := List.mem_map.1 hq
    have := hf i (by simpa using hi)
    exact ⟨this.conf, this.wf, this.noref, this.untup, this.size⟩
  obtain ⟨a1, a2, a3, a4, a5, a6, a7⟩ := arrOf_spec hok hmem
  have hlen : ((List.range n).map f).length = n := by simp
  refine ⟨arrOf P d e ((List.range n).map f), ?_, a1, arr_noref a2, a5, by rw [a7, hlen, hc], hl, ?_, fun j q u hq hu' => ?_⟩
  · unfold arrOf
    simp only [shOf, hu]
    cases hk : P.underlying e with
    | none =>
      simp only [Pe.conf, Bool.and_eq_true, hlen]
      exact ⟨⟨Nat.beq_refl _, Nat.beq_refl _⟩, beq_refl _⟩
    | some dsc => cases dsc with
    | int k =>
      simp only [Pe.conf, Bool.and_eq_true, hlen]
      exact ⟨same_refl k, Nat.beq_refl _⟩
    | _ =>
      simp only [Pe.conf, Bool.and_eq_true, hlen]
      exact ⟨⟨Nat.beq_refl _, Nat.beq_refl _⟩, beq_refl _⟩
  · have : Pe.isAgg (arrOf P d e ((List.range n).map f)) = true := by unfold arrOf; split <;> rfl
    rw [this]
    simp only [isAggT, hu]
  · rw [a6] at hq
    have hwl : WFL ((List.range n).map f) := WFL_of fun q hq => (hmem q hq).2.1
    obtain ⟨p, h1, h2⟩ := flatL_nth hs hwl (fun q hq => (hmem q hq).2.2.2.2) hq
    have hjn : j / P.cellsOf e < n := by have := (List.getElem?_eq_some_iff.1 h1).1; simpa using this
    have hp : p = f (j / P.cellsOf e) := by simp [hjn] at h1; exact h1.symm
    subst hp
    refine (hf _ hjn).rel (j % P.cellsOf e) q u h2 ?_
    rw [List.getElem?_take, if_pos (Nat.mod_lt _ hs), List.getElem?_drop, ← hu']
    congr 1
    rw [Nat.mul_comm]
    exact Nat.div_add_mod j (P.cellsOf e)
theorem opens_fields {d tot : Nat} {cs : List Value} (hl : cs.length = tot) : ∀ {fs : List Field} {o : Nat}, laysB P tot o fs = true → (∀ f ∈ fs, okT P d f.type = true ∧ ∃ p, Opens P w T d f.type ((cs.drop f.offset).take (P.cellsOf f.type)) p) →
    ∃ ps, confL (fs.map fun f => shOf P d f.type) ps = true ∧ WFL ps ∧ norefL ps = true ∧ untupL ps = true ∧ o + sizeL ps = tot ∧ ∀ (j : Nat) (q : PV) (u : Value), (flatL ps)[j]? = some q → cs[o + j]? = some u → RC w T u q
  | [], o, h, _ => by
    simp only [laysB] at h
    exact ⟨[], rfl, by simp [WFL], rfl, rfl, by simp only [sizeL]; exact Nat.eq_of_beq_eq_true h, fun j q u hq => by simp [flatL] at hq⟩
  | f :: fs, o, h, hf => by
    simp only [laysB, Bool.and_eq_true] at h
    obtain ⟨h1, h2⟩ := h
    have ho := Nat.eq_of_beq_eq_true h1
    obtain ⟨_, p, hp⟩ := hf f (by simp)
    obtain ⟨ps, g1, g2, g3, g4, g5, g6⟩ := opens_fields hl h2 fun x hx => hf x (by simp [hx])
    refine ⟨p :: ps, by simp only [List.map_cons, confL, Bool.and_eq_true]; exact ⟨hp.conf, g1⟩, by simp only [WFL]; exact ⟨hp.wf, g2⟩, by simp only [norefL, Bool.and_eq_true]; exact ⟨hp.noref, g3⟩, by simp only [untupL, Bool.and_eq_true]; exact ⟨hp.untup, g4⟩, by simp only [sizeL, hp.size]; omega, fun j q u hq hu => ?_⟩
    simp only [flatL] at hq
    have hlp : (flat p).length = P.cellsOf f.type := by rw [flat_length p hp.wf, hp.size]
    by_cases hj : j < P.cellsOf f.type
    · rw [List.getElem?_append_left (by omega)] at hq
      refine hp.rel j q u hq ?_
      rw [List.getElem?_take, if_pos hj, List.getElem?_drop, ho]
      exact hu
    · rw [List.getElem?_append_right (by omega), hlp] at hq
      refine g6 _ q u hq ?_
      rw [← hu]
      congr 1
      omega
end
section
variable {H : Type} {enc : TypeId × Value → H} {P : Program} {w : World} {base : Nat} {spare : Nat → Bool} {held : Bool}
theorem cells?_spec {a : Addr} {n : Nat} {cs : List Value} (h : w.cells? base a n = some cs) : cs.length = n ∧ ∀ j u, cs[j]? = some u → w.cell? (a.add j) = some u := by
  unfold World.cells? at h
  split at h
  · have : ∀ {l : List Nat} {xs : List Value}, l.mapM (fun i => w.cell? (a.add i)) = some xs → xs.length = l.length ∧ ∀ (j : Nat) (i : Nat) (u : Value), l[j]? = some i → xs[j]? = some u → w.cell? (a.add i) = some u := by
      intro l
      induction l with
      | nil => intro xs h; simp at h; subst h; exact ⟨rfl, fun j i u hi => by simp at hi⟩
      | cons b l ih =>
        intro xs h
        rw [List.mapM_cons] at h
        simp only [Option.bind_eq_bind, Option.bind_eq_some_iff, Option.pure_def, Option.some.injEq] at h
        obtain ⟨y, hy, ys, hys, rfl⟩ := h
        obtain ⟨e1, e2⟩ := ih hys
        refine ⟨by simp [e1], fun j i u hi hu => ?_⟩
        cases j with
        | zero => simp at hi hu; subst hi; subst hu; exact hy
        | succ j => simp at hi hu; exact e2 j i u hi hu
    obtain ⟨e1, e2⟩ := this h
    refine ⟨by simpa using e1, fun j u hu => ?_⟩
    have hj : j < n := by have := (List.getElem?_eq_some_iff.1 hu).1; simp at e1; omega
    exact e2 j j u (by simp [hj]) hu
  · cases h
theorem trod_opens : ∀ (d : Nat) (t : TypeId) (fuel : Nat) (cs : List Value) (x : DataW H × List MemPlace), okT P d t = true → DataW.trod enc P w base spare held fuel t cs = some x → ∃ p, Opens P w (fun b _ => b < w.heap.size) d t cs p
  | 0, _, _, _, _, h, _ => by simp [okT] at h
  | d + 1, t, 0, cs, x, _, h => by simp [DataW.trod] at h
  | d + 1, t, fuel + 1, cs, x, hok, h => by
    have hsz : ∀ e, szOk P e = true → 0 < P.cellsOf e := fun e he => Nat.pos_of_ne_zero (szOk_ne he)
    simp only [okT] at hok
    split at hok
    · rename_i hu
      have hc := Nat.eq_of_beq_eq_true hok
      obtain ⟨b, rfl, _⟩ := DataW.trod_bool hu h
      refine ⟨.bool b, by simp only [shOf, hu]; rfl, trivial, rfl, rfl, hc.symm, by rw [hc]; rfl, by simp only [isAggT, hu]; rfl, fun j q u hq hu' => ?_⟩
      cases j with
      | zero => simp [flat] at hq hu'; subst hq; subst hu'; exact .bool b
      | succ j => simp [flat] at hq
    · rename_i k hu
      have hc := Nat.eq_of_beq_eq_true hok
      obtain ⟨n, rfl, _, hwf⟩ := DataW.trod_int hu h
      have hw : k.wrap n = n := by
        rw [wrap_bounds]
        simpa [Lit.wf, IntKind.has] using hwf
      refine ⟨.int k n, by simp only [shOf, hu, conf]; cases k <;> rfl, by simp only [WF]; exact hw, rfl, rfl, hc.symm, by rw [hc]; rfl, by simp only [isAggT, hu]; rfl, fun j q u hq hu' => ?_⟩
      cases j with
      | zero => simp [flat] at hq hu'; subst hq; subst hu'; exact .int k n
      | succ j => simp [flat] at hq
    · rename_i hu
      have hc := Nat.eq_of_beq_eq_true hok
      obtain ⟨s, rfl, _, hs⟩ := DataW.trod_string hu h
      refine ⟨.str s, by simp only [shOf, hu]; rfl, trivial, rfl, rfl, hc.symm, by rw [hc]; rfl, by simp only [isAggT, hu]; rfl, fun j q u hq hu' => ?_⟩
      cases j with
      | zero => simp [flat] at hq hu'; subst hq; subst hu'; exact .str s hs
      | succ j => simp [flat] at hq
    · rename_i fs hu
      simp only [Bool.and_eq_true, List.all_eq_true] at hok
      simp only [DataW.trod, hu] at h
      split at h
      · rename_i hl
        simp only [Option.map_eq_some_iff] at h
        obtain ⟨xs, hxs, _⟩ := h
        obtain ⟨ps, g1, g2, g3, g4, g5, g6⟩ := opens_fields (P := P) (w := w) (T := fun b _ => b < w.heap.size) (d := d) hl hok.1 (fun f hf => ⟨hok.2 f hf, by
          obtain ⟨y, hy⟩ := mapM_get hxs f hf
          exact trod_opens d f.type fuel _ y (hok.2 f hf) hy⟩)
        refine ⟨.st (P.cellsOf t) ps, by simp only [shOf, hu, conf, Bool.and_eq_true]; exact ⟨Nat.beq_refl _, g1⟩, by simp only [WF]; exact ⟨by omega, g2⟩, by simp only [noref]; exact g3, by simp only [untup]; exact g4, rfl, hl, by simp only [isAggT, hu]; rfl, fun j q u hq hu' => ?_⟩
        simp only [flat] at hq
        exact g6 j q u hq (by rw [Nat.zero_add]; exact hu')
      · cases h
    · rename_i n e hu
      simp only [Bool.and_eq_true] at hok
      have hc := Nat.eq_of_beq_eq_true hok.1.1
      simp only [DataW.trod, hu] at h
      split at h
      · rename_i hl
        simp only [Option.map_eq_some_iff] at h
        obtain ⟨xs, hxs, _⟩ := h
        exact opens_array hu hc hok.2 (hsz e hok.1.2) hl fun i hi => by
          obtain ⟨y, hy⟩ := mapM_get hxs i (by simpa using hi)
          exact trod_opens d e fuel _ y hok.2 hy
      · cases h
    · rename_i e hu
      simp only [Bool.and_eq_true] at hok
      have hc := Nat.eq_of_beq_eq_true hok.1.1
      have hpos := hsz e hok.1.2
      have hone : ∀ (v : Value) (c : PV) (nl : Bool), cs = [v] → WF (.vec nl c) → Pe.conf (shOf P (d + 1) t) (.vec nl c) = true → RC w (fun b _ => b < w.heap.size) v (.vec nl c) → ∃ p, Opens P w (fun b _ => b < w.heap.size) (d + 1) t cs p := by
        rintro v c nl rfl h1 h2 h3
        refine ⟨.vec nl c, h2, h1, rfl, rfl, hc.symm, by rw [hc]; rfl, by simp only [isAggT, hu]; rfl, fun j q u hq hu' => ?_⟩
        cases j with
        | zero => simp [flat] at hq hu'; subst hq; subst hu'; exact h3
        | succ j => simp [flat] at hq
      have hshape : ∀ l : List PV, ∀ nl, Pe.conf (shOf P (d + 1) t) (.vec nl (arrOf P d e l)) = true := by
        intro l nl
        obtain ⟨d', rfl⟩ : ∃ d', d = d' + 1 := by cases d with
          | zero => simp [okT] at hok
          | succ d => exact ⟨d, rfl⟩
        have hsh : shOf P (d' + 1 + 1) t = .vec (P.cellsOf e) (shOf P (d' + 1) e) := shOf_slice hu
        rw [hsh]
        by_cases hk : ∃ k, P.underlying e = some (.int k)
        · obtain ⟨k, hk⟩ := hk
          have : arrOf P (d' + 1) e l = .iarr k l.length (l.map PV.num) := by simp only [arrOf, hk]
          rw [this, shOf_int hk]
          simp only [Pe.conf]
          exact same_refl k
        · have : arrOf P (d' + 1) e l = .parr (P.cellsOf e) l.length (shOf P (d' + 1) e) l := by
            unfold arrOf
            split
            · rename_i k hk'; exact absurd ⟨k, hk'⟩ hk
            · rfl
          rw [this]
          have hni : Sh.isInt (shOf P (d' + 1) e) = false := by
            cases he : P.underlying e with
            | none => simp only [shOf, he, Sh.isInt]
            | some dsc => cases dsc with
              | int k => exact absurd ⟨k, he⟩ hk
              | array n e' =>
                simp only [shOf, he]
                split <;> rfl
              | _ => simp only [shOf, he, Sh.isInt]
          cases hs2 : shOf P (d' + 1) e with
          | int k => rw [hs2] at hni; simp [Sh.isInt] at hni
          | _ => simp only [Pe.conf, Bool.and_eq_true, Sh.isInt, Bool.not_false, true_and]; exact ⟨Nat.beq_refl _, beq_refl _⟩
      rcases DataW.trod_slice hu h with ⟨hx, _⟩ | ⟨a, len, cap, elems, rest, n, hf, hx, _, _, h1, h2, h3, h4, _⟩
      · obtain ⟨a1, a2, a3, _⟩ := arrOf_spec (P := P) (d := d) (e := e) (l := []) hok.2 (fun q hq => by cases hq)
        exact hone _ (arrOf P d e []) true hx (by simp only [WF]; exact ⟨a1, a2, fun _ => a3⟩) (hshape [] true) (.vec0 _ _ _ _ a3 rfl (fun _ => rfl))
      · have hfu : n = fuel := by omega
        subst hfu
        have hex : ∀ i, ∃ p, i < len → ∃ cs', w.cells? base (a.add (i * P.cellsOf e)) (P.cellsOf e) = some cs' ∧ Opens P w (fun b _ => b < w.heap.size) d e cs' p := fun i => by
          by_cases hi : i < len
          · have := h4 i hi
            rw [List.getElem?_eq_getElem (by omega), Option.bind_eq_some_iff] at this
            obtain ⟨cs', c1, c2⟩ := this
            obtain ⟨p, hp⟩ := trod_opens d e n cs' _ hok.2 c2
            exact ⟨p, fun _ => ⟨cs', c1, hp⟩⟩
          · exact ⟨.undef, fun h => absurd h hi⟩
        obtain ⟨f, hf⟩ := Classical.axiomOfChoice hex
        have hmem : ∀ q ∈ (List.range len).map f, Pe.conf (shOf P d e) q = true ∧ WF q ∧ Pe.noref q = true ∧ Pe.untup q = true ∧ Pe.size q = P.cellsOf e := by
          intro q hq
          obtain ⟨i, hi, rfl⟩ := List.mem_map.1 hq
          obtain ⟨cs', _, hp⟩ := hf i (by simpa using hi)
          exact ⟨hp.conf, hp.wf, hp.noref, hp.untup, hp.size⟩
        obtain ⟨a1, a2, a3, a4, a5, a6, a7⟩ := arrOf_spec hok.2 hmem
        have hlen : ((List.range len).map f).length = len := by simp
        rw [hlen] at a3
        rcases Nat.eq_zero_or_pos len with h0 | h0
        · subst h0
          exact hone _ (arrOf P d e ((List.range 0).map f)) false hx (by simp only [WF]; exact ⟨a1, a2, fun e => by cases e⟩) (hshape _ false) (.vec0 _ _ _ _ a3 rfl (fun e => by cases e))
        · have hsp : a.spot = none := by
            obtain ⟨cs', c1, hp⟩ := hf 0 h0
            obtain ⟨e1, e2⟩ := cells?_spec c1
            have := e2 0 cs'[0] (List.getElem?_eq_getElem (by omega))
            unfold World.cell? at this
            split at this
            · split at this
              · cases this
              · rename_i hs
                simpa [Addr.add] using hs
            · cases this
          obtain ⟨bk, o, sp⟩ := a
          simp only at hsp
          subst hsp
          have hcell : ∀ j, ∃ u, ∀ q, (flat (arrOf P d e ((List.range len).map f)))[j]? = some q → w.cell? ⟨bk, o + j, none⟩ = some u ∧ RC w (fun b _ => b < w.heap.size) u q := by
            intro j
            cases hj : (flat (arrOf P d e ((List.range len).map f)))[j]? with
            | none => exact ⟨Go.undef, fun q hq => by cases hq⟩
            | some q =>
              rw [a6] at hj
              obtain ⟨p, p1, p2⟩ := flatL_nth hpos (WFL_of fun q hq => (hmem q hq).2.1) (fun q hq => (hmem q hq).2.2.2.2) hj
              have hjn : j / P.cellsOf e < len := by have := (List.getElem?_eq_some_iff.1 p1).1; simpa using this
              have hp : p = f (j / P.cellsOf e) := by simp [hjn] at p1; exact p1.symm
              subst hp
              obtain ⟨cs', c1, hp⟩ := hf _ hjn
              obtain ⟨e1, e2⟩ := cells?_spec c1
              have hm : j % P.cellsOf e < cs'.length := by rw [e1]; exact Nat.mod_lt _ hpos
              refine ⟨cs'[j % P.cellsOf e], fun q' hq' => ?_⟩
              cases hq'
              refine ⟨?_, hp.rel _ q _ p2 (List.getElem?_eq_getElem hm)⟩
              have := e2 _ _ (List.getElem?_eq_getElem hm)
              rw [add_none, add_none] at this
              rw [← this]
              congr 2
              rw [Nat.add_assoc, Nat.mul_comm, Nat.div_add_mod]
          obtain ⟨us, hus⟩ := Classical.axiomOfChoice hcell
          exact hone _ (arrOf P d e ((List.range len).map f)) false hx (by simp only [WF]; exact ⟨a1, a2, fun e => by cases e⟩) (hshape _ false)
            (.vec1 _ _ _ _ _ us a3 h1 h2 (fun j q hq => ⟨lt_of_cell? (hus j q hq).1, (hus j q hq).1⟩) (fun j q hq => (hus j q hq).2))
    · cases hok
end
end Go.Pe
namespace Go.Pe
open Go.ChangeShapes Go.WideShapes Go.ChangeAt Go.RowKit
section
variable {H : Type} {enc : TypeId × Value → H} {P : Program}
theorem post_below {f : Func} {s : ChangeSpec} {apart fresh handsOn again : Bool} {W W' : World} {args : Array Value} {v : Value} {ds gs : List (DataW H)} {before pa pv : List MemPlace}
    (hW : DataW.Whole enc P f.params.toList s.vars apart W args.toList ds gs before)
    (hres : ∀ (b : Nat) (sp : Nat → Bool) (hd : Bool), DataW.TrodAll enc P W' b sp hd f.resultTypes.toList (v.resultList f.resultTypes.size) (s.fn H (ds ++ gs)).results [])
    (hargs : ∀ sp : Nat → Bool, (∀ p ∈ before, sp p.block = true) → DataW.TrodAll enc P W' 0 sp true f.params.toList args.toList (s.fn H (ds ++ gs)).args pa)
    (hvars : ∀ sp : Nat → Bool, (∀ p ∈ before, sp p.block = true) → DataW.TrodVars enc P W' sp s.vars (s.fn H (ds ++ gs)).vars pv)
    (hps : before = pa ++ pv) (hb : Below W.heap.size W W')
    (hok : ∀ (j : Nat) (t : TypeId) (r : Value), f.resultTypes[j]? = some t → (v.resultList f.resultTypes.size)[j]? = some r → Value.okWide P W' .any 0 t r) :
    s.post enc P f apart fresh handsOn again W args v W' := by
  have hlt : ∀ p ∈ before, p.block < W.heap.size := fun p hp => hW.lt p hp
  have hold : ∀ p ∈ before, (fun b => decide (b < W.heap.size)) p.block = true := fun p hp => by simpa using hlt p hp
  refine ⟨ds, gs, before, [], pa, pv, hW, hres _ _ _, hargs _ hold, hvars _ hold, World.keptBut_mono (fun p hp => ⟨hp, ?_⟩) (hb.frame (· ∈ before)), fun _ => ?_⟩
  · rw [hps, List.mem_append] at hp
    exact Or.inr hp
  · obtain ⟨_, _, _, _, _, hz, hn⟩ := hW
    refine ⟨hok, _, _, ([] ++ pa) ++ pv, ⟨[] ++ pa, pv, trodAll_append (hargs _ (fun _ _ => rfl)) (hres _ _ _), hvars _ (fun _ _ => rfl), rfl, ?_, ?_⟩, ?_⟩
    · intro b off hp
      have hin : MemPlace.cell b off ∈ before := by rw [hps]; simpa using hp
      rw [hb.frozen (hlt _ hin)]
      exact hz b off hin
    · intro ha
      have := hn ha
      rw [hps] at this
      simpa using this
    · intro p hp _
      rw [hps]
      simpa using hp
theorem trodAll_stays (hl : laidOutB P = true) {W W' : World} (hb : Below W.heap.size W W') {sp : Nat → Bool} : ∀ {ts : List TypeId} {vs : List Value} {ds : List (DataW H)} {ps : List MemPlace}, (∀ t ∈ ts, P.readableRec t = true ∧ t < P.types.size) →
    DataW.TrodAll enc P W 0 (fun _ => true) true ts vs ds ps → (∀ p ∈ ps, sp p.block = true) → DataW.TrodAll enc P W' 0 sp true ts vs ds ps
  | [], [], [], _, _, h, _ => h
  | t :: ts, v :: vs, d :: ds, ps, ht, h, hs => by
    have hlt := h.lt
    obtain ⟨p, q, h1, h2, rfl⟩ := h
    exact ⟨p, q, WideElems.Trod_stays hl (ht t (by simp)).1 (ht t (by simp)).2 h1 (fun x hx => hb.same (hlt x (by simp [hx]))) (fun x hx => hs x (by simp [hx])),
      trodAll_stays hl hb (fun t ht' => ht t (by simp [ht'])) h2 (fun x hx => hs x (by simp [hx])), rfl⟩
  | [], _ :: _, _, _, _, h, _ => by simp [DataW.TrodAll] at h
  | [], [], _ :: _, _, _, h, _ => by simp [DataW.TrodAll] at h
  | _ :: _, [], _, _, _, h, _ => by simp [DataW.TrodAll] at h
  | _ :: _, _ :: _, [], _, _, h, _ => by simp [DataW.TrodAll] at h
/-- What an input's values stand for. -/
structure Ins (P : Program) (ts : List TypeId) (ps : List PV) : Prop where
  conf : confL (ts.map (shOf P 9)) ps = true
  wf : WFL ps
  untup : untupL ps = true
theorem RV_opens {W : World} {base : Nat} {t : TypeId} {v : Value} {p : PV} (hv : Value.okWide P W .any base t v) (h : Opens P W (fun b _ => b < W.heap.size) 9 t v.cells.toList p) : RV W (fun b _ => b < W.heap.size) (fun _ => none) v p := by
  have hnt : ∀ vs, p ≠ .tup vs := fun vs e => by have := h.untup; subst e; simp [Pe.untup] at this
  cases ha : Pe.isAgg p with
  | true =>
    have hat : isAggT P t = true := by rw [← h.agg]; exact ha
    have : ∃ cs, v = .agg cs := by
      unfold isAggT at hat
      unfold Value.okWide at hv
      split at hat
      · rename_i fs hu
        rw [hu] at hv
        obtain ⟨cs, hc, _⟩ := hv
        exact ⟨cs, hc⟩
      · rename_i n e hu
        rw [hu] at hv
        obtain ⟨cs, hc, _⟩ := hv
        exact ⟨cs, hc⟩
      · cases hat
    obtain ⟨cs, rfl⟩ := this
    refine RV.of_agg ha h.wf ⟨cs, rfl, ?_, fun j q u hq hu => RO.of_closed (h.rel j q u hq ?_)⟩
    · have := h.len
      simp only [Value.cells, Array.length_toList] at this
      rw [this, h.size]
    · simpa [Value.cells] using hu
  | false =>
    have hl : Pe.leaf p = true := by rw [Pe.leaf_agg, ha]; rfl
    have hone : v.cells = #[v] := by
      have hnagg : ∀ cs, v ≠ .agg cs := by
        rintro cs rfl
        have hat : isAggT P t = false := by rw [← h.agg]; exact ha
        unfold Value.okWide at hv
        unfold isAggT at hat
        split at hv
        · rename_i fs hu; rw [hu] at hat; cases hat
        · rename_i n e hu; rw [hu] at hat; cases hat
        · unfold Cell.okWide at hv
          split at hv <;> simp_all [Cell.ok]
      cases v <;> first | rfl | exact absurd rfl (hnagg _)
    refine RV.of_leaf hl hnt h.wf (RO.of_closed (h.rel 0 p v (by rw [flat_leaf hl]; rfl) (by rw [hone]; rfl)))
theorem ins_of {W : World} {base : Nat} : ∀ {ts : List TypeId} {vs : List Value} {ds : List (DataW H)} {ps : List MemPlace}, (∀ t ∈ ts, okT P 9 t = true) → (∀ (j : Nat) t v, ts[j]? = some t → vs[j]? = some v → Value.okWide P W .any base t v) →
    DataW.TrodAll enc P W 0 (fun _ => true) true ts vs ds ps → ∃ qs, Ins P ts qs ∧ qs.length = vs.length ∧ ∀ (j : Nat) (p : PV) (v : Value), qs[j]? = some p → vs[j]? = some v → RV W (fun b _ => b < W.heap.size) (fun _ => none) v p
  | [], [], [], _, _, _, _ => ⟨[], ⟨rfl, by simp [WFL], rfl⟩, rfl, fun j p v hp => by simp at hp⟩
  | t :: ts, v :: vs, d :: ds, ps, ht, hv, h => by
    obtain ⟨p, q, ⟨fuel, h1⟩, h2, rfl⟩ := h
    obtain ⟨x, hx⟩ := trod_opens 9 t fuel _ _ (ht t (by simp)) h1
    obtain ⟨qs, g1, g2, g3⟩ := ins_of (fun t' h' => ht t' (by simp [h'])) (fun j t' v' hj hj' => hv (j + 1) t' v' (by simpa using hj) (by simpa using hj')) h2
    refine ⟨x :: qs, ⟨by simp only [List.map_cons, confL, Bool.and_eq_true]; exact ⟨hx.conf, g1.conf⟩, by simp only [WFL]; exact ⟨hx.wf, g1.wf⟩, by simp only [untupL, Bool.and_eq_true]; exact ⟨hx.untup, g1.untup⟩⟩, by simp [g2], fun j p' v' hp hv' => ?_⟩
    cases j with
    | zero =>
      simp at hp hv'
      subst hp; subst hv'
      exact RV_opens (hv 0 t v rfl rfl) hx
    | succ j => simp at hp hv'; exact g3 j p' v' hp hv'
  | [], _ :: _, _, _, _, _, h => by simp [DataW.TrodAll] at h
  | [], [], _ :: _, _, _, _, h => by simp [DataW.TrodAll] at h
  | _ :: _, [], _, _, _, _, h => by simp [DataW.TrodAll] at h
  | _ :: _, _ :: _, [], _, _, _, h => by simp [DataW.TrodAll] at h
theorem below_of_FR {w w' : World} {M : T2} (hM : ∀ b o, ¬ M b o) (h : FR M w w') : Below w.heap.size w w' := by
  refine ⟨h.os, h.tape, h.output, h.size, fun k hk => ?_⟩
  rcases h.block k hk with e | ⟨cs, cs', t, fz, e1, e2, e3, e4⟩
  · exact e.symm
  · rw [e1, e2]
    have : cs' = cs := by
      apply Array.ext_getElem?
      intro i
      exact e4 i (hM k i)
    rw [this]
end
end Go.Pe
namespace Go.Pe
open Go.ChangeShapes Go.WideShapes Go.ChangeAt Go.RowKit
section
variable {H : Type} {enc : TypeId × Value → H} {P : Program}
theorem mapM_idx {α β : Type} {g : α → Option β} : ∀ {l : List α} {xs : List β}, l.mapM g = some xs → ∀ (i : Nat) (a : α), l[i]? = some a → ∃ y, xs[i]? = some y ∧ g a = some y
  | [], _, _, i, a, hi => by simp at hi
  | b :: l, xs, h, i, a, hi => by
    rw [List.mapM_cons] at h
    simp only [Option.bind_eq_bind, Option.bind_eq_some_iff] at h
    obtain ⟨y, hy, ys, hys, hx⟩ := h
    obtain rfl := Option.some.inj hx
    cases i with
    | zero => simp at hi; subst hi; exact ⟨y, rfl, hy⟩
    | succ i => exact mapM_idx hys i a (by simpa using hi)
theorem laid_mem {w : World} : ∀ {l : List (String × DataW Unit)} {ps : List MemPlace}, DataW.LaidVars P w l ps → ∀ x ∈ l, ∃ g t cs fuel p, P.globalNamed x.1 = some g ∧ (P.globals[g]?).map (·.type) = some t ∧ w.var? P x.1 = some cs ∧ DataW.trod (fun _ => ()) P w 0 (fun _ => true) false fuel t cs.toList = some (x.2, p)
  | [], _, _, x, hx => by cases hx
  | (n, d) :: l, ps, h, x, hx => by
    simp only [DataW.LaidVars] at h
    obtain ⟨g, t, cs, fuel, p, q, h1, h2, h3, h4, h5, _⟩ := h
    rcases List.mem_cons.1 hx with rfl | hx
    · exact ⟨g, t, cs, fuel, p, h1, h2, h3, h4⟩
    · exact laid_mem h5 x hx
theorem trod_int {w : World} {base fuel : Nat} {sp : Nat → Bool} {held : Bool} {t : TypeId} {k k' : IntKind} {n : Int} {cs : List Value} {p : List MemPlace} (hu : P.underlying t = some (.int k))
    (h : DataW.trod enc P w base sp held fuel t cs = some (.lit (.int k' n), p)) : cs = [.int k n] := by
  cases fuel with
  | zero => simp [DataW.trod] at h
  | succ fuel =>
    simp only [DataW.trod, hu] at h
    split at h <;> simp_all
/-- a variable that holds an array of integers -/
theorem glob_ints {W : World} {laid : List (String × DataW Unit)} (h : laidMet P laid W) {name : String} {g t e m : Nat} {k : IntKind} {ls : List Int} (hin : (name, .agg (ls.map fun v => .lit (.int k v))) ∈ laid)
    (hg : P.globalNamed name = some g) (ht : (P.globals[g]?).map (·.type) = some t) (hu : P.underlying t = some (.array m e)) (he : P.underlying e = some (.int k)) (hce : P.cellsOf e = 1) (hct : P.cellsOf t = m) (hm : ls.length = m) :
    RC W (fun b _ => b < W.heap.size) (.pointer (some ⟨g, 0, none⟩)) (.cptr (.iarr k m ls) []) := by
  obtain ⟨ps, hL, _, _⟩ := h
  obtain ⟨g', t', cs, fuel, p, h1, h2, h3, h4⟩ := laid_mem hL _ hin
  obtain rfl := Option.some.inj (hg.symm.trans h1)
  obtain rfl := Option.some.inj (ht.symm.trans h2)
  have hcell : ∀ (i : Nat) (v : Int), ls[i]? = some v → cs[i]? = some (Value.int k v) := by
    intro i v hv
    cases fuel with
    | zero => simp [DataW.trod] at h4
    | succ fuel =>
      simp only [DataW.trod, hu] at h4
      split at h4
      · rename_i hl
        simp only [Option.map_eq_some_iff] at h4
        obtain ⟨xs, hxs, hd⟩ := h4
        simp only [Prod.mk.injEq, DataW.agg.injEq] at hd
        have hi : i < ls.length := by
          rw [List.getElem?_eq_some_iff] at hv
          exact hv.1
        obtain ⟨y, hy1, hy2⟩ := mapM_idx hxs i i (by rw [List.getElem?_range (by omega)])
        have hy : (xs.map (·.1))[i]? = some y.1 := by rw [List.getElem?_map, hy1]; rfl
        rw [hd.1, List.getElem?_map, hv] at hy
        obtain ⟨y1, y2⟩ := y
        simp only [Option.map_some, Option.some.injEq] at hy
        subst hy
        have := trod_int he hy2
        rw [hce, Nat.mul_one] at this
        have e : cs.toList[i]? = some (Value.int k v) := by
          have e0 := congrArg (fun l => l[0]?) this
          simpa using e0
        simpa using e
      · cases h4
  have hcw : ∀ (i : Nat) (v : Int), ls[i]? = some v → W.cell? ⟨g, i, none⟩ = some (Value.int k v) := fun i v hv => by rw [World.var?_cell hg h3, hcell i v hv]
  refine RC.cptr g 0 _ [] (fun j => Value.int k (ls.getD j 0)) ?_ ?_
  · intro j q hq
    simp only [flat, List.getElem?_map, Option.map_eq_some_iff] at hq
    obtain ⟨v, hv, rfl⟩ := hq
    have hc := hcw j v hv
    rw [Nat.zero_add]
    refine ⟨?_, by rw [hc, List.getD_eq_getElem?_getD, hv]; rfl⟩
    rcases Nat.lt_or_ge g W.heap.size with h | h
    · exact h
    · simp [World.cell?, Array.getElem?_eq_none h] at hc
  · intro j q hq
    simp only [flat, List.getElem?_map, Option.map_eq_some_iff] at hq
    obtain ⟨v, hv, rfl⟩ := hq
    rw [List.getD_eq_getElem?_getD, hv]
    exact .int k v
theorem wants_of {ps : Array TypeId} (h : ps.toList.all (fun t => !P.wantsStandIn t) = true) (j : Nat) (t : TypeId) (ht : ps[j]? = some t) : P.wantsStandIn t = false := by
  have := List.all_eq_true.1 h t (by rw [← Array.getElem?_toList] at ht; exact List.mem_of_getElem? ht)
  simpa using this
/-- a world with a variable laid -/
noncomputable def laidW (P : Program) (os : Os) (g : Nat) (cs : Array Value) : World :=
  let w0 := World.holding P os ⟨#[], #[], []⟩
  { w0 with heap := w0.heap.modify g fun
      | .cells _ t frozen => .cells cs t frozen
      | o => o }
/-- THE LAW's STEP over laid variables. -/
theorem law_callsG {G : Nat → Option PV} {f : FuncId} {fn : Func} {s : ChangeSpec} {apart fresh handsOn again : Bool} {tb : TypeId} (hl : laidOutB P = true) (hvars : s.vars = []) (hr : fn.resultTypes = #[tb]) (hb : P.underlying tb = some .bool)
    (hbody : hasBody P f) (hspec : ∀ ds : List (DataW H), ds.length = fn.params.toList.length → s.fn H ds = { results := [.lit (.bool true)], args := ds })
    (ht : fn.params.toList.all (fun t => okT P 9 t && P.readableRec t && Nat.blt t P.types.size) = true)
    (hpc : ∀ ps, Ins P fn.params.toList ps → PC P G f [] ps [] (.bool true))
    {W : World} (hG : ∀ g c, G g = some c → WF c ∧ noref c = true ∧ RC W (fun b _ => b < W.heap.size) (.pointer (some ⟨g, 0, none⟩)) (.cptr c []))
    {base : Nat} {args : Array Value} {ds gs : List (DataW H)} {before : List MemPlace}
    (hval : ∀ (j : Nat) t v, fn.params[j]? = some t → args[j]? = some v → Value.okWide P W .any base t v)
    (hW : DataW.Whole enc P fn.params.toList s.vars apart W args.toList ds gs before) :
    Calls P f args W fun e W' => ∃ v, e = .returned v ∧ s.post enc P fn apart fresh handsOn again W args v W' := by
  have ht' : ∀ t ∈ fn.params.toList, okT P 9 t = true ∧ P.readableRec t = true ∧ t < P.types.size := by
    intro t h
    have := List.all_eq_true.1 ht t h
    simp only [Bool.and_eq_true] at this
    exact ⟨this.1.1, this.1.2, Nat.blt_eq ▸ this.2⟩
  have hW' := hW
  obtain ⟨p, q, hA, hV, rfl, hz, hn⟩ := hW
  rw [hvars] at hV
  obtain ⟨rfl, rfl⟩ := trodVars_none hV
  obtain ⟨l1, l2⟩ := trodAll_length hA
  obtain ⟨qs, g1, g2, g3⟩ := ins_of (base := base) (fun t h => (ht' t h).1) (fun j t v h1 h2 => hval j t v (by rw [← Array.getElem?_toList]; exact h1) (by rw [← Array.getElem?_toList]; exact h2)) hA
  have hM : ∀ b o, ¬ Mut (fun _ => none) (lookR ([] : List (Nat × Row))) b o := by
    rintro b o ⟨i, r, pl, h1, _⟩
    simp [lookR] at h1
  have hc := hpc qs g1
  refine Calls.mono (Enters.calls hbody (hc (fun b _ => b < W.heap.size) (fun _ => none) W args (fun b o _ => hM b o) ⟨fun i r hi => by simp [lookR] at hi, fun i i' r r' pl pl' _ h1 => by simp [lookR] at h1⟩ (fun _ _ => rfl) hG
    (by rw [g2]; simp) (fun j p v hp hv _ => g3 j p v hp (by rw [Array.getElem?_toList]; exact hv)))) fun e W' he => ?_
  obtain ⟨v, ρ', rfl, r1, _, _, r4, _⟩ := he
  have hvb : v = .bool true := by
    have := r1.to_leaf rfl (fun _ e => by cases e)
    simp only [RO] at this
    cases this
    rfl
  subst hvb
  have hbel := below_of_FR hM r4
  have hsp := hspec ds l2
  refine ⟨_, rfl, post_below (pa := p) (pv := []) hW' ?_ ?_ ?_ (by simp) hbel ?_⟩
  · intro b sp hd
    rw [List.append_nil, hsp, hr]
    exact trodAll_mk1 (shut_bool hb true)
  · intro sp hs
    rw [List.append_nil, hsp]
    exact trodAll_stays hl hbel (fun t h => (ht' t h).2) hA (fun x hx => hs x (by simp [hx]))
  · intro sp hs
    rw [List.append_nil, hsp, hvars]
    rfl
  · rw [hr]
    exact ok_one (f := { fn with resultTypes := #[tb] }) rfl rfl (okWide_bool_mk hb true)
end
end Go.Pe
