/- Merged texts: the pure machine and what the walks show. Conditions: as each statement says. -/
import Derived.Test.YtdlipfcaomomfaaDoorQ3
namespace Go.Proofs
open Go Go.Pe Go.Pm
set_option maxRecDepth 100000
set_option linter.unusedVariables false
def osh : Sh := .st 2 [.int .u64, .vec 1 (.int .u8)]
def outPV (o : OutM) : PV := .st 2 [.int .u64 ((o.v : Nat) : Int), .vec o.nl (.iarr .u8 o.b.length o.b)]
def zOuts : PV := .vec true (.parr 2 0 osh [])
def zTx : PV := .st 2 [.int .u64 0, zOuts]
def outsPV (L : List OutM) : PV := if L = [] then zOuts else .vec false (.parr 2 L.length osh (L.map outPV))
theorem Rd.tk_e {r : Rd} {n : Nat} (h : r.e ≤ 100) : (r.tk n).e ≤ 100 := by
  unfold Rd.tk
  split
  · split
    · exact Nat.zero_le _
    · show 2 ≤ 100; omega
  · exact h
theorem Rd.ve_e {r : Rd} {m : Nat} (h : r.e ≤ 100) : r.ve m ≤ 100 := by unfold Rd.ve; repeat' split
                                                                        all_goals omega
theorem Rd.we_e {r : Rd} {m : Nat} (h : r.e ≤ 100) : r.we m ≤ 100 := by
  have := Rd.ve_e (m := m) h
  unfold Rd.we; repeat' split
  all_goals omega
theorem Rd.wd_e {r : Rd} {m : Nat} (h : r.e ≤ 100) : (r.wd m).e ≤ 100 := by
  have := Rd.we_e (m := m) h
  unfold Rd.wd; split
  · exact Nat.zero_le _
  · exact this
def dsTx (nl : Bool) (N : Nat) (b : List Int) (salt n i a e : Nat) (M : List PV) : DS := ⟨[(2, .at 1 []), (4, .at 2 []), (6, .at 3 []), (30, .int .u64 n), (31, .int .u64 i)],
  [(1, ⟨zTx, false⟩), (2, rdq nl N b a e), (3, ⟨.st 2 [.int .u64 salt, .ref 4 [] 2 0 i], false⟩), (4, ⟨.parr 2 i osh M, false⟩)]⟩
def dsTx0 (nl : Bool) (N : Nat) (b : List Int) (salt n a e : Nat) : DS := ⟨[(2, .at 1 []), (4, .at 2 []), (6, .at 3 []), (30, .int .u64 n), (31, .int .u64 0)],
  [(1, ⟨zTx, false⟩), (2, rdq nl N b a e), (3, ⟨.st 2 [.int .u64 salt, zOuts], false⟩)]⟩
/-- what Parse tells, of the salt and the outputs, where e is the end's error -/
def txRes (salt : Nat) (L : List OutM) (e : Nat) : PV := .tup [if e = 0 then .st 2 [.int .u64 salt, outsPV L] else zTx, .int .i64 e]
theorem endE_e {r : Rd} (h : r.e ≤ 100) : endE r ≤ 100 := by unfold endE; repeat' split
                                                             all_goals omega
theorem outsR_e : ∀ {n : Nat} {r : Rd}, r.e ≤ 100 → (outsR n r).e ≤ 100
  | 0, _, h => h
  | n + 1, r, h => outsR_e (n := n) (Rd.wd_e (Rd.tk_e h))
theorem W_tx {nl : Bool} {N : Nat} {b : List Int} {salt n : Nat} (hN : N ≤ 1000000) (hnl : nl = true → N = 0) (hn : n ≤ 8) : ∀ (k i : Nat) (r : Rd) (L : List OutM), L.length = i → 0 < i → i + k = n → r.In b N → r.e ≤ 100 →
    W Tryd.prog G0 Tryd.f25 [] [] (txRes salt (L ++ outsM k r) (endE (outsR k r))) (loopAt Tryd.f25 0) (dsTx nl N b salt n i (N - r.s.length) r.e (L.map outPV))
  | 0, i, r, L, hL, hi, hk, hr, he => by
    have hc := pc_rdEnd (nl := nl) hr hN he
    have hbl := hr.len
    have hle := hr.le
    have heb := endE_e he
    have hMl : (L.map outPV).length = i := by rw [List.length_map, hL]
    have hLne : L ≠ [] := by intro e; rw [e] at hL; simp at hL; omega
    have hin : i = n := by omega
    show W _ _ _ _ _ (txRes salt (L ++ []) (endE r)) _ _
    rw [List.append_nil]
    unfold txRes outsPV
    rw [if_neg hLne, hL]
    have hT : (L.map outPV).take i = L.map outPV := List.take_of_length_le (by omega)
    subst hin
    by_cases h0 : endE r = 0
    · rw [if_pos h0]
      rw [h0] at hc ⊢
      generalize L.map outPV = M at *
      generalize N - r.s.length = a at *
      generalize r.e = e at *
      unfold dsTx rdq zTx zOuts at *
      refine W.ret [(0, aF), (2, cC false [(2, 0)] hc), (3, aV (I6 0))] [] [decide ((i:Int) < (i:Int)) = false, _, I6 (↑(0 : Nat) : Int) = I6 0, 0 + i ≤ i, PV.tup [PV.st 2 [U6 (salt:Int), PV.vec false (PV.parr 2 i (Sh.st 2 [Sh.int IntKind.u64, Sh.vec 1 (Sh.int IntKind.u8)]) (List.take i M))], I6 0] = PV.tup [PV.st 2 [U6 (salt:Int), PV.vec false (PV.parr 2 i (Sh.st 2 [Sh.int IntKind.u64, Sh.vec 1 (Sh.int IntKind.u8)]) M)], I6 (↑(0 : Nat) : Int)]] (by kernel_rfl) (ac (dF (by omega)) (ac (hc) (ac (cg (by omega)) (ac (by omega) (ao (by (simp; omega)))))))
    · rw [if_neg h0]
      have hne : ¬ ((endE r : Int) = 0) := by omega
      generalize L.map outPV = M at *
      generalize endE r = ee at *
      generalize N - r.s.length = a at *
      generalize r.e = e at *
      unfold dsTx rdq zTx zOuts at *
      refine W.rt [(0, aF), (2, cC false [(2, 0)] hc), (5, aT)] [] [decide ((i:Int) < (i:Int)) = false, _, ((ee:Int) != 0) = true] (by kernel_rfl) (ac (dF (by omega)) (ac (hc) (ao (bne_iff_ne.2 (by omega)))))
  | k + 1, i, r, L, hL, hi, hk, hr, he => by
    have hbl := hr.len
    have hle := hr.le
    have he1 := Rd.tk_e (n := 8) he
    have hr1 := hr.tk 8
    have hle1 := hr1.le
    have hr2 : (outR r).In b N := hr1.wd 64
    have hle2 := hr2.le
    have c1 := pc_rdNum (nl := nl) (w := 8) hr hN he (by omega) (by omega) hnl
    have c2 := pc_rdText (nl := nl) (m := 64) hr1 hN he1 (by omega) hnl
    have hw := W_tx (nl := nl) (salt := salt) hN hnl hn k (i + 1) (outR r) (L ++ [outM r]) (by rw [List.length_append, hL]; rfl) (by omega) (by omega) hr2 (Rd.wd_e he1)
    rw [List.append_assoc, List.map_append] at hw
    have hq1 : [outM r].map outPV = [.st 2 [.int .u64 ((r.nv 8 : Nat) : Int), wPV (r.tk 8) 64]] := rfl
    rw [hq1] at hw
    clear hq1
    show W _ _ _ _ _ (txRes salt (L ++ ([outM r] ++ outsM k (outR r))) (endE (outsR k (outR r)))) _ _
    have hMl : (L.map outPV).length = i := by rw [List.length_map, hL]
    unfold outR at *
    unfold wPV at *
    generalize txRes salt (L ++ ([outM r] ++ outsM k ((r.tk 8).wd 64))) (endE (outsR k ((r.tk 8).wd 64))) = res at *
    generalize L.map outPV = M at *
    have hb0 : N - r.s.length ≤ 1000000 := by omega
    have hb1 : N - (r.tk 8).s.length ≤ 1000000 := by omega
    have hb2 : N - ((r.tk 8).wd 64).s.length ≤ 1000000 := by omega
    generalize N - ((r.tk 8).wd 64).s.length = a2 at *
    generalize N - (r.tk 8).s.length = a1 at *
    generalize N - r.s.length = a at *
    generalize ((r.tk 8).wd 64).e = ee2 at *
    generalize (r.tk 8).e = ee1 at *
    generalize r.nv 8 = v at *
    generalize (r.tk 8).wv 64 = tx at *
    generalize (if (r.tk 8).we 64 = 0 then false else true) = nq at *
    generalize r.e = e at *
    unfold dsTx rdq zTx zOuts at *
    refine W.sg 0 [(0, aT), (2, cC false [(2, 0)] c1), (7, cC false [(2, 0)] c2), (14, Ans.ups [(4, none), (288, some (Row.mk (PV.parr 2 (i + 1) (Sh.st 2 [Sh.int IntKind.u64, Sh.vec 1 (Sh.int IntKind.u8)]) (M ++ [PV.st 2 [U6 (v:Int), PV.vec nq (B8 (List.length tx) tx)]])) false))]), (17, aV (U6 (↑(i + 1) : Int)))] [(1, 1), (2, 2), (3, 3), (288, 4)] (⟨[(2, .at 1 []), (4, .at 2 []), (6, .at 3 []), (30, .int .u64 n), (31, .int .u64 ((i + 1 : Nat) : Int))], [(1, ⟨.st 2 [.int .u64 0, .vec true (.parr 2 0 osh [])], false⟩), (2, ⟨.st 3 [.vec nl (.iarr .u8 N b), .int .i64 (a2 : Int), .int .i64 (ee2 : Int)], false⟩), (3, ⟨.st 2 [.int .u64 salt, .ref 4 [] 2 0 (i + 1)], false⟩), (4, ⟨.parr 2 (i + 1) osh (M ++ [.st 2 [.int .u64 (v : Int), .vec nq (.iarr .u8 tx.length tx)]]), false⟩)]⟩ : DS) [decide ((i:Int) < (n:Int)) = true, _, _, ([(4, none), (288, some (Row.mk (PV.parr 2 (i + 1) (Sh.st 2 [Sh.int IntKind.u64, Sh.vec 1 (Sh.int IntKind.u8)]) (List.take i M ++ [PV.st 2 [U6 (v:Int), PV.vec nq (B8 (List.length tx) tx)]])) false))] : List (Nat × Option Row)) = [(4, none), (288, some (Row.mk (PV.parr 2 (i + 1) (Sh.st 2 [Sh.int IntKind.u64, Sh.vec 1 (Sh.int IntKind.u8)]) (M ++ [PV.st 2 [U6 (v:Int), PV.vec nq (B8 (List.length tx) tx)]])) false))], 1 ≤ 1, 0 + i = i, (i + 1) * 32 ≤ 140737488355328, i + 1 ≤ 9223372036854775807, U6 (IntKind.wrap .u64 ((i:Int) + 1)) = U6 (↑(i + 1) : Int)] (by kernel_rfl) (ac (dT (by omega)) (ac (c1) (ac (c2) (ac (by rw [List.take_of_length_le (show List.length M ≤ i by omega)]) (ac (by omega) (ac (by omega) (ac (by omega) (ac (by omega) (ao (cg (w_u64 rfl (by omega) (by omega)))))))))))) ?_
    exact hw
theorem W_tx0 {nl : Bool} {N : Nat} {b : List Int} {salt n : Nat} (hN : N ≤ 1000000) (hnl : nl = true → N = 0) (hn : n ≤ 8) (r : Rd) (hr : r.In b N) (he : r.e ≤ 100) :
    W Tryd.prog G0 Tryd.f25 [] [] (txRes salt (outsM n r) (endE (outsR n r))) (loopAt Tryd.f25 0) (dsTx0 nl N b salt n (N - r.s.length) r.e) := by
  have hbl := hr.len
  have hle := hr.le
  cases n with
  | zero =>
    have hc := pc_rdEnd (nl := nl) hr hN he
    have heb := endE_e he
    show W _ _ _ _ _ (txRes salt [] (endE r)) _ _
    unfold txRes outsPV
    rw [if_pos rfl]
    by_cases h0 : endE r = 0
    · rw [if_pos h0]
      rw [h0] at hc ⊢
      generalize N - r.s.length = a at *
      generalize r.e = e at *
      unfold dsTx0 rdq zTx zOuts at *
      refine W.ret [(2, cC false [(2, 0)] hc), (3, aV (I6 0))] [] [_, I6 (↑(0 : Nat) : Int) = I6 0, PV.tup [PV.st 2 [U6 (salt:Int), PV.vec true (PV.parr 2 0 (Sh.st 2 [Sh.int IntKind.u64, Sh.vec 1 (Sh.int IntKind.u8)]) [])], I6 0] = PV.tup [PV.st 2 [U6 (salt:Int), PV.vec true (PV.parr 2 0 (Sh.st 2 [Sh.int IntKind.u64, Sh.vec 1 (Sh.int IntKind.u8)]) [])], I6 (↑(0 : Nat) : Int)]] (by kernel_rfl) (ac (hc) (ac (cg (by omega)) (ao rfl)))
    · rw [if_neg h0]
      have hne : ¬ ((endE r : Int) = 0) := by omega
      generalize endE r = ee at *
      generalize N - r.s.length = a at *
      generalize r.e = e at *
      unfold dsTx0 rdq zTx zOuts at *
      refine W.rt [(2, cC false [(2, 0)] hc), (5, aT)] [] [_, ((ee:Int) != 0) = true] (by kernel_rfl) (ac (hc) (ao (bne_iff_ne.2 (by omega))))
  | succ k =>
    have he1 := Rd.tk_e (n := 8) he
    have hr1 := hr.tk 8
    have hle1 := hr1.le
    have hr2 : (outR r).In b N := hr1.wd 64
    have hle2 := hr2.le
    have c1 := pc_rdNum (nl := nl) (w := 8) hr hN he (by omega) (by omega) hnl
    have c2 := pc_rdText (nl := nl) (m := 64) hr1 hN he1 (by omega) hnl
    have hw := W_tx (nl := nl) (salt := salt) hN hnl hn k 1 (outR r) [outM r] rfl (by omega) (by omega) hr2 (Rd.wd_e he1)
    have hq1 : [outM r].map outPV = [.st 2 [.int .u64 ((r.nv 8 : Nat) : Int), wPV (r.tk 8) 64]] := rfl
    rw [hq1] at hw
    clear hq1
    show W _ _ _ _ _ (txRes salt ([outM r] ++ outsM k (outR r)) (endE (outsR k (outR r)))) _ _
    unfold outR at *
    unfold wPV at *
    generalize txRes salt ([outM r] ++ outsM k ((r.tk 8).wd 64)) (endE (outsR k ((r.tk 8).wd 64))) = res at *
    have hb0 : N - r.s.length ≤ 1000000 := by omega
    have hb1 : N - (r.tk 8).s.length ≤ 1000000 := by omega
    have hb2 : N - ((r.tk 8).wd 64).s.length ≤ 1000000 := by omega
    generalize N - ((r.tk 8).wd 64).s.length = a2 at *
    generalize N - (r.tk 8).s.length = a1 at *
    generalize N - r.s.length = a at *
    generalize ((r.tk 8).wd 64).e = ee2 at *
    generalize (r.tk 8).e = ee1 at *
    generalize r.nv 8 = v at *
    generalize (r.tk 8).wv 64 = tx at *
    generalize (if (r.tk 8).we 64 = 0 then false else true) = nq at *
    generalize r.e = e at *
    have hk1 : k + 1 ≤ 8 := hn
    have hn0 : 0 < k + 1 := Nat.succ_pos k
    generalize k + 1 = n at *
    unfold dsTx dsTx0 rdq zTx zOuts at *
    refine W.seg [(0, aT), (2, cC false [(2, 0)] c1), (7, cC false [(2, 0)] c2), (17, aV (U6 1))] [(1, 1), (2, 2), (3, 3), (288, 4)] (⟨[(2, .at 1 []), (4, .at 2 []), (6, .at 3 []), (30, .int .u64 n), (31, .int .u64 (1 : Int))], [(1, ⟨.st 2 [.int .u64 0, .vec true (.parr 2 0 osh [])], false⟩), (2, ⟨.st 3 [.vec nl (.iarr .u8 N b), .int .i64 (a2 : Int), .int .i64 (ee2 : Int)], false⟩), (3, ⟨.st 2 [.int .u64 salt, .ref 4 [] 2 0 1], false⟩), (4, ⟨.parr 2 1 osh [.st 2 [.int .u64 (v : Int), .vec nq (.iarr .u8 tx.length tx)]], false⟩)]⟩ : DS) (todo' := loopAt Tryd.f25 0) [decide (0 < (n:Int)) = true, _, _, 1 ≤ 1, 0 < 1, 32 ≤ 140737488355328, 1 ≤ 9223372036854775807, U6 (IntKind.wrap .u64 ((0 : Int) + (1 : Int))) = U6 1, rr (PV.at 1 []), rr (PV.at 2 []), rr (PV.at 3 []), rr (U6 (n:Int)), U6 1 = U6 (↑(1 : Nat) : Int), rr (PV.st 2 [U6 0, PV.vec true (PV.parr 2 0 (Sh.st 2 [Sh.int IntKind.u64, Sh.vec 1 (Sh.int IntKind.u8)]) [])]), rr (PV.st 3 [PV.vec nl (B8 N b), I6 (a2:Int), I6 (ee2:Int)]), rr (PV.st 2 [U6 (salt:Int), PV.ref 4 [] 2 0 1]), rr (PV.parr 2 1 (Sh.st 2 [Sh.int IntKind.u64, Sh.vec 1 (Sh.int IntKind.u8)]) [PV.st 2 [U6 (v:Int), PV.vec nq (B8 (List.length tx) tx)]])] (by kernel_rfl) (ac (dT (by omega)) (ac (c1) (ac (c2) (ac (by omega) (ac (by omega) (ac (by omega) (ac (by omega) (ac (cg (w_u64 rfl (by omega) (by omega))) (ac rfl (ac rfl (ac rfl (ac rfl (ac (cg (by omega)) (ac rfl (ac rfl (ac rfl (ao rfl))))))))))))))))) ?_
    exact hw
/-- what Parse tells of bytes -/
def txP (b : List Int) : PV := txRes (txSalt b) (txOuts b) (txE b)
theorem pc_parse {nl : Bool} {N : Nat} {b : List Int} (hl : b.length = N) (hb : Bytes b) (hN : N ≤ 1000000) (hnl : nl = true → N = 0) : PC Tryd.prog G0 25 [] [.vec nl (.iarr .u8 N b)] [] (txP b) := by
  refine PC.of (fn := Tryd.f25) (c := bodyOf Tryd.f25) Tryd.func25 (by kernel_rfl) (by kernel_rfl) (by kernel_rfl) (by kernel_rfl) ?_
  have hr : (Rd.mk b 0).In b N := ⟨hl, by show b.length ≤ N; omega, by show b = b.drop (N - b.length); rw [hl, Nat.sub_self]; rfl, hb⟩
  have c0 := pc_rdOf (nl := nl) hN hl hnl
  have c1 := pc_rdNum (nl := nl) (w := 1) hr hN (by show 0 ≤ 100; omega) (by omega) (by omega) hnl
  have hr1 : (txR1 b).In b N := hr.tk 1
  have he1 : (txR1 b).e ≤ 100 := Rd.tk_e (by show 0 ≤ 100; omega)
  have cE := pc_rdErr (nl := nl) (N := N) (a := N - (txR1 b).s.length) (e := (txR1 b).e) hl he1
  have z0 : N - (Rd.mk b 0).s.length = 0 := by show N - b.length = 0; omega
  rw [z0] at c1
  change PC _ _ _ [(0, rdq nl N b 0 0)] _ [(0, rdq nl N b (N - (txR1 b).s.length) (txR1 b).e)] _ at c1
  have hfl : (Rd.mk b 0).nv 1 < 18446744073709551616 := by
    unfold Rd.nv
    split
    · rw [lv_one]; have := at0_lt hb 0; show at0 b 0 < _; omega
    · omega
  have hb1 : N - (txR1 b).s.length ≤ 1000000 := by omega
  unfold txP
  by_cases hf : txFirst b
  · have e3 : txE b = 3 := by unfold txE; rw [if_pos hf]
    rw [e3]
    unfold txRes
    rw [if_neg (by omega)]
    clear hr hr1 z0 e3
    rcases hf with h64 | ⟨h0, h1⟩
    · have hN64 : N = 64 := by omega
      generalize N - (txR1 b).s.length = a1 at *
      generalize (Rd.mk b 0).nv 1 = v at *
      generalize (txR1 b).e = e1 at *
      unfold rdq zTx zOuts at *
      refine W.ret [((3 : Nat), Ans.call false [] [((1 : Nat), Row.mk (PV.st (3 : Nat) [PV.vec nl (PV.iarr IntKind.u8 N b), PV.int IntKind.i64 (↑(0 : Nat) : Int), PV.int IntKind.i64 (↑(0 : Nat) : Int)]) false)] (PV.at (1 : Nat) [])), ((6 : Nat), Ans.call false [((113 : Nat), (0 : Nat))] [((0 : Nat), Row.mk (PV.st (3 : Nat) [PV.vec nl (PV.iarr IntKind.u8 N b), PV.int IntKind.i64 (↑a1 : Int), PV.int IntKind.i64 (↑e1 : Int)]) false)] (PV.int IntKind.u64 (↑v : Int))), ((10 : Nat), Ans.dec true)] [] [PC Tryd.prog G0 (39 : Nat) [] [PV.vec nl (PV.iarr IntKind.u8 N b)] [((1 : Nat), Row.mk (PV.st (3 : Nat) [PV.vec nl (PV.iarr IntKind.u8 N b), PV.int IntKind.i64 (↑(0 : Nat) : Int), PV.int IntKind.i64 (↑(0 : Nat) : Int)]) false)] (PV.at (1 : Nat) []), PC Tryd.prog G0 (40 : Nat) [((0 : Nat), Row.mk (PV.st (3 : Nat) [PV.vec nl (PV.iarr IntKind.u8 N b), PV.int IntKind.i64 (↑(0 : Nat) : Int), PV.int IntKind.i64 (↑(0 : Nat) : Int)]) false)] [PV.at (0 : Nat) [], PV.int IntKind.i64 (1 : Int)] [((0 : Nat), Row.mk (PV.st (3 : Nat) [PV.vec nl (PV.iarr IntKind.u8 N b), PV.int IntKind.i64 (↑a1 : Int), PV.int IntKind.i64 (↑e1 : Int)]) false)] (PV.int IntKind.u64 (↑v : Int)), ((↑N : Int) == (64 : Int)) = true, PV.tup [PV.st (2 : Nat) [PV.int IntKind.u64 (0 : Int), PV.vec true (PV.parr (2 : Nat) (0 : Nat) (Sh.st (2 : Nat) [Sh.int IntKind.u64, Sh.vec (1 : Nat) (Sh.int IntKind.u8)]) [])], PV.int IntKind.i64 (3 : Int)] = PV.tup [PV.st (2 : Nat) [PV.int IntKind.u64 (0 : Int), PV.vec true (PV.parr (2 : Nat) (0 : Nat) (Sh.st (2 : Nat) [Sh.int IntKind.u64, Sh.vec (1 : Nat) (Sh.int IntKind.u8)]) [])], PV.int IntKind.i64 (↑(3 : Nat) : Int)]] (by kernel_rfl) (ac (by exact c0) (ac (by exact c1) (ac (by exact decide_eq_true (by omega)) (ao (by rfl)))))
    · have h1' : ¬ (((Rd.mk b 0).nv 1 : Int) = 1) := by omega
      rw [h0] at c1 cE
      generalize N - (txR1 b).s.length = a1 at *
      generalize (Rd.mk b 0).nv 1 = v at *
      generalize (txR1 b).e = e1 at *
      unfold rdq zTx zOuts at *
      by_cases hN64 : N = 64
      · refine W.ret [((3 : Nat), Ans.call false [] [((1 : Nat), Row.mk (PV.st (3 : Nat) [PV.vec nl (PV.iarr IntKind.u8 N b), PV.int IntKind.i64 (↑(0 : Nat) : Int), PV.int IntKind.i64 (↑(0 : Nat) : Int)]) false)] (PV.at (1 : Nat) [])), ((6 : Nat), Ans.call false [((113 : Nat), (0 : Nat))] [((0 : Nat), Row.mk (PV.st (3 : Nat) [PV.vec nl (PV.iarr IntKind.u8 N b), PV.int IntKind.i64 (↑a1 : Int), PV.int IntKind.i64 (↑(0 : Nat) : Int)]) false)] (PV.int IntKind.u64 (↑v : Int))), ((10 : Nat), Ans.dec true)] [] [PC Tryd.prog G0 (39 : Nat) [] [PV.vec nl (PV.iarr IntKind.u8 N b)] [((1 : Nat), Row.mk (PV.st (3 : Nat) [PV.vec nl (PV.iarr IntKind.u8 N b), PV.int IntKind.i64 (↑(0 : Nat) : Int), PV.int IntKind.i64 (↑(0 : Nat) : Int)]) false)] (PV.at (1 : Nat) []), PC Tryd.prog G0 (40 : Nat) [((0 : Nat), Row.mk (PV.st (3 : Nat) [PV.vec nl (PV.iarr IntKind.u8 N b), PV.int IntKind.i64 (↑(0 : Nat) : Int), PV.int IntKind.i64 (↑(0 : Nat) : Int)]) false)] [PV.at (0 : Nat) [], PV.int IntKind.i64 (1 : Int)] [((0 : Nat), Row.mk (PV.st (3 : Nat) [PV.vec nl (PV.iarr IntKind.u8 N b), PV.int IntKind.i64 (↑a1 : Int), PV.int IntKind.i64 (↑(0 : Nat) : Int)]) false)] (PV.int IntKind.u64 (↑v : Int)), ((↑N : Int) == (64 : Int)) = true, PV.tup [PV.st (2 : Nat) [PV.int IntKind.u64 (0 : Int), PV.vec true (PV.parr (2 : Nat) (0 : Nat) (Sh.st (2 : Nat) [Sh.int IntKind.u64, Sh.vec (1 : Nat) (Sh.int IntKind.u8)]) [])], PV.int IntKind.i64 (3 : Int)] = PV.tup [PV.st (2 : Nat) [PV.int IntKind.u64 (0 : Int), PV.vec true (PV.parr (2 : Nat) (0 : Nat) (Sh.st (2 : Nat) [Sh.int IntKind.u64, Sh.vec (1 : Nat) (Sh.int IntKind.u8)]) [])], PV.int IntKind.i64 (↑(3 : Nat) : Int)]] (by kernel_rfl) (ac (by exact c0) (ac (by exact c1) (ac (by exact decide_eq_true (by omega)) (ao (by rfl)))))
      · refine W.ret [((3 : Nat), Ans.call false [] [((1 : Nat), Row.mk (PV.st (3 : Nat) [PV.vec nl (PV.iarr IntKind.u8 N b), PV.int IntKind.i64 (↑(0 : Nat) : Int), PV.int IntKind.i64 (↑(0 : Nat) : Int)]) false)] (PV.at (1 : Nat) [])), ((6 : Nat), Ans.call false [((113 : Nat), (0 : Nat))] [((0 : Nat), Row.mk (PV.st (3 : Nat) [PV.vec nl (PV.iarr IntKind.u8 N b), PV.int IntKind.i64 (↑a1 : Int), PV.int IntKind.i64 (↑(0 : Nat) : Int)]) false)] (PV.int IntKind.u64 (↑v : Int))), ((10 : Nat), Ans.dec false), ((13 : Nat), Ans.call false [((113 : Nat), (0 : Nat))] [((0 : Nat), Row.mk (PV.st (3 : Nat) [PV.vec nl (PV.iarr IntKind.u8 N b), PV.int IntKind.i64 (↑a1 : Int), PV.int IntKind.i64 (↑(0 : Nat) : Int)]) false)] (PV.int IntKind.i64 (↑(0 : Nat) : Int))), ((17 : Nat), Ans.dec true)] [] [PC Tryd.prog G0 (39 : Nat) [] [PV.vec nl (PV.iarr IntKind.u8 N b)] [((1 : Nat), Row.mk (PV.st (3 : Nat) [PV.vec nl (PV.iarr IntKind.u8 N b), PV.int IntKind.i64 (↑(0 : Nat) : Int), PV.int IntKind.i64 (↑(0 : Nat) : Int)]) false)] (PV.at (1 : Nat) []), PC Tryd.prog G0 (40 : Nat) [((0 : Nat), Row.mk (PV.st (3 : Nat) [PV.vec nl (PV.iarr IntKind.u8 N b), PV.int IntKind.i64 (↑(0 : Nat) : Int), PV.int IntKind.i64 (↑(0 : Nat) : Int)]) false)] [PV.at (0 : Nat) [], PV.int IntKind.i64 (1 : Int)] [((0 : Nat), Row.mk (PV.st (3 : Nat) [PV.vec nl (PV.iarr IntKind.u8 N b), PV.int IntKind.i64 (↑a1 : Int), PV.int IntKind.i64 (↑(0 : Nat) : Int)]) false)] (PV.int IntKind.u64 (↑v : Int)), ((↑N : Int) == (64 : Int)) = false, PC Tryd.prog G0 (41 : Nat) [((0 : Nat), Row.mk (PV.st (3 : Nat) [PV.vec nl (PV.iarr IntKind.u8 N b), PV.int IntKind.i64 (↑a1 : Int), PV.int IntKind.i64 (↑(0 : Nat) : Int)]) false)] [PV.at (0 : Nat) []] [((0 : Nat), Row.mk (PV.st (3 : Nat) [PV.vec nl (PV.iarr IntKind.u8 N b), PV.int IntKind.i64 (↑a1 : Int), PV.int IntKind.i64 (↑(0 : Nat) : Int)]) false)] (PV.int IntKind.i64 (↑(0 : Nat) : Int)), ((↑v : Int) != (1 : Int)) = true, PV.tup [PV.st (2 : Nat) [PV.int IntKind.u64 (0 : Int), PV.vec true (PV.parr (2 : Nat) (0 : Nat) (Sh.st (2 : Nat) [Sh.int IntKind.u64, Sh.vec (1 : Nat) (Sh.int IntKind.u8)]) [])], PV.int IntKind.i64 (3 : Int)] = PV.tup [PV.st (2 : Nat) [PV.int IntKind.u64 (0 : Int), PV.vec true (PV.parr (2 : Nat) (0 : Nat) (Sh.st (2 : Nat) [Sh.int IntKind.u64, Sh.vec (1 : Nat) (Sh.int IntKind.u8)]) [])], PV.int IntKind.i64 (↑(3 : Nat) : Int)]] (by kernel_rfl) (ac (by exact c0) (ac (by exact c1) (ac (by exact decide_eq_false (by omega)) (ac (by exact cE) (ac (by exact bne_iff_ne.2 (by omega)) (ao (by rfl)))))))
  · have eE : txE b = endE (outsR (txN b) (txR3 b)) := by unfold txE; rw [if_neg hf]; rfl
    rw [eE]
    have c2 := pc_rdNum (nl := nl) (w := 8) hr1 hN he1 (by omega) (by omega) hnl
    have hr2 : (txR2 b).In b N := hr1.tk 8
    have he2 : (txR2 b).e ≤ 100 := Rd.tk_e he1
    have c3 := pc_rdVar (nl := nl) (m := 8) hr2 hN he2 (by omega) hnl
    have hr3 : (txR3 b).In b N := hr2.var 8
    have he3 : (txR3 b).e ≤ 100 := by
      show ((txR2 b).var 8).e ≤ 100
      have := Rd.ve_e (m := 8) he2
      unfold Rd.var
      split
      · exact Nat.zero_le _
      · exact this
    have hw := W_tx0 (nl := nl) (salt := txSalt b) hN hnl (n := txN b) (Rd.vn_le _ _) (txR3 b) hr3 he3
    change W _ _ _ _ _ (txRes (txSalt b) (txOuts b) _) _ _ at hw
    change PC _ _ _ _ _ [(0, rdq nl N b (N - (txR2 b).s.length) (txR2 b).e)] (.int .u64 ((txSalt b : Nat) : Int)) at c2
    change PC _ _ _ _ _ [(0, rdq nl N b (N - (txR3 b).s.length) (txR3 b).e)] (.int .u64 ((txN b : Nat) : Int)) at c3
    have hn8 : txN b ≤ 8 := Rd.vn_le _ _
    have hb2 : N - (txR2 b).s.length ≤ 1000000 := by omega
    have hb3 : N - (txR3 b).s.length ≤ 1000000 := by omega
    have hN64 : ¬ ((N : Int) = 64) := by intro e; exact hf (.inl (by omega))
    have hfirst : (txR1 b).e = 0 → ((Rd.mk b 0).nv 1 : Int) = 1 := fun h => by
      by_cases h1 : (Rd.mk b 0).nv 1 = 1
      · rw [h1]; rfl
      · exact absurd (.inr ⟨h, h1⟩) hf
    generalize txRes (txSalt b) (txOuts b) (endE (outsR (txN b) (txR3 b))) = res at *
    clear eE hr hr1 hr2 hr3 z0 hf
    generalize N - (txR3 b).s.length = a3 at *
    generalize N - (txR2 b).s.length = a2 at *
    generalize N - (txR1 b).s.length = a1 at *
    generalize (txR3 b).e = ee3 at *
    generalize (txR2 b).e = ee2 at *
    generalize txN b = n at *
    generalize txSalt b = salt at *
    generalize (Rd.mk b 0).nv 1 = v at *
    by_cases he0 : (txR1 b).e = 0
    · have hv := hfirst he0
      rw [he0] at c1 c2 cE
      generalize (txR1 b).e = ee1 at *
      unfold dsTx0 rdq zTx zOuts at *
      refine W.sg 0 [(3, Ans.call false [] [((1 : Nat), Row.mk (PV.st (3 : Nat) [PV.vec nl (PV.iarr IntKind.u8 N b), PV.int IntKind.i64 (↑(0 : Nat) : Int), PV.int IntKind.i64 (↑(0 : Nat) : Int)]) false)] (PV.at (1 : Nat) [])), (6, Ans.call false [((113 : Nat), (0 : Nat))] [((0 : Nat), Row.mk (PV.st (3 : Nat) [PV.vec nl (PV.iarr IntKind.u8 N b), PV.int IntKind.i64 (↑a1 : Int), PV.int IntKind.i64 (↑(0 : Nat) : Int)]) false)] (PV.int IntKind.u64 (↑v : Int))), (7, Ans.val (PV.int IntKind.u64 (1 : Int))), (10, Ans.dec false), (13, Ans.call false [((113 : Nat), (0 : Nat))] [((0 : Nat), Row.mk (PV.st (3 : Nat) [PV.vec nl (PV.iarr IntKind.u8 N b), PV.int IntKind.i64 (↑a1 : Int), PV.int IntKind.i64 (↑(0 : Nat) : Int)]) false)] (PV.int IntKind.i64 (↑(0 : Nat) : Int))), (21, Ans.call false [((113 : Nat), (0 : Nat))] [((0 : Nat), Row.mk (PV.st (3 : Nat) [PV.vec nl (PV.iarr IntKind.u8 N b), PV.int IntKind.i64 (↑a2 : Int), PV.int IntKind.i64 (↑ee2 : Int)]) false)] (PV.int IntKind.u64 (↑salt : Int))), (26, Ans.call false [((113 : Nat), (0 : Nat))] [((0 : Nat), Row.mk (PV.st (3 : Nat) [PV.vec nl (PV.iarr IntKind.u8 N b), PV.int IntKind.i64 (↑a3 : Int), PV.int IntKind.i64 (↑ee3 : Int)]) false)] (PV.int IntKind.u64 (↑n : Int)))] [((64 : Nat), (1 : Nat)), ((113 : Nat), (2 : Nat)), ((432 : Nat), (3 : Nat))] (DS.mk [((2 : Nat), PV.at (1 : Nat) []), ((4 : Nat), PV.at (2 : Nat) []), ((6 : Nat), PV.at (3 : Nat) []), ((30 : Nat), PV.int IntKind.u64 (↑n : Int)), ((31 : Nat), PV.int IntKind.u64 (0 : Int))] [((1 : Nat), Row.mk (PV.st (2 : Nat) [PV.int IntKind.u64 (0 : Int), PV.vec true (PV.parr (2 : Nat) (0 : Nat) osh [])]) false), ((2 : Nat), Row.mk (PV.st (3 : Nat) [PV.vec nl (PV.iarr IntKind.u8 N b), PV.int IntKind.i64 (↑a3 : Int), PV.int IntKind.i64 (↑ee3 : Int)]) false), ((3 : Nat), Row.mk (PV.st (2 : Nat) [PV.int IntKind.u64 (↑salt : Int), PV.vec true (PV.parr (2 : Nat) (0 : Nat) osh [])]) false)]) [PC Tryd.prog G0 (39 : Nat) [] [PV.vec nl (PV.iarr IntKind.u8 N b)] [((1 : Nat), Row.mk (PV.st (3 : Nat) [PV.vec nl (PV.iarr IntKind.u8 N b), PV.int IntKind.i64 (↑(0 : Nat) : Int), PV.int IntKind.i64 (↑(0 : Nat) : Int)]) false)] (PV.at (1 : Nat) []), PC Tryd.prog G0 (40 : Nat) [((0 : Nat), Row.mk (PV.st (3 : Nat) [PV.vec nl (PV.iarr IntKind.u8 N b), PV.int IntKind.i64 (↑(0 : Nat) : Int), PV.int IntKind.i64 (↑(0 : Nat) : Int)]) false)] [PV.at (0 : Nat) [], PV.int IntKind.i64 (1 : Int)] [((0 : Nat), Row.mk (PV.st (3 : Nat) [PV.vec nl (PV.iarr IntKind.u8 N b), PV.int IntKind.i64 (↑a1 : Int), PV.int IntKind.i64 (↑(0 : Nat) : Int)]) false)] (PV.int IntKind.u64 (↑v : Int)), PV.int IntKind.u64 (↑v : Int) = PV.int IntKind.u64 (1 : Int), ((↑N : Int) == (64 : Int)) = false, PC Tryd.prog G0 (41 : Nat) [((0 : Nat), Row.mk (PV.st (3 : Nat) [PV.vec nl (PV.iarr IntKind.u8 N b), PV.int IntKind.i64 (↑a1 : Int), PV.int IntKind.i64 (↑(0 : Nat) : Int)]) false)] [PV.at (0 : Nat) []] [((0 : Nat), Row.mk (PV.st (3 : Nat) [PV.vec nl (PV.iarr IntKind.u8 N b), PV.int IntKind.i64 (↑a1 : Int), PV.int IntKind.i64 (↑(0 : Nat) : Int)]) false)] (PV.int IntKind.i64 (↑(0 : Nat) : Int)), PC Tryd.prog G0 (40 : Nat) [((0 : Nat), Row.mk (PV.st (3 : Nat) [PV.vec nl (PV.iarr IntKind.u8 N b), PV.int IntKind.i64 (↑a1 : Int), PV.int IntKind.i64 (↑(0 : Nat) : Int)]) false)] [PV.at (0 : Nat) [], PV.int IntKind.i64 (8 : Int)] [((0 : Nat), Row.mk (PV.st (3 : Nat) [PV.vec nl (PV.iarr IntKind.u8 N b), PV.int IntKind.i64 (↑a2 : Int), PV.int IntKind.i64 (↑ee2 : Int)]) false)] (PV.int IntKind.u64 (↑salt : Int)), PC Tryd.prog G0 (42 : Nat) [((0 : Nat), Row.mk (PV.st (3 : Nat) [PV.vec nl (PV.iarr IntKind.u8 N b), PV.int IntKind.i64 (↑a2 : Int), PV.int IntKind.i64 (↑ee2 : Int)]) false)] [PV.at (0 : Nat) [], PV.int IntKind.u64 (8 : Int)] [((0 : Nat), Row.mk (PV.st (3 : Nat) [PV.vec nl (PV.iarr IntKind.u8 N b), PV.int IntKind.i64 (↑a3 : Int), PV.int IntKind.i64 (↑ee3 : Int)]) false)] (PV.int IntKind.u64 (↑n : Int))] (by kernel_rfl) (ac (by exact c0) (ac (by exact c1) (ac (by exact congrArg (PV.int _) (hv)) (ac (by exact decide_eq_false (by omega)) (ac (by exact cE) (ac (by exact c2) (ao (by exact c3)))))))) ?_
      exact hw
    · have hne : ¬ (((txR1 b).e : Int) = 0) := by omega
      clear hfirst
      generalize (txR1 b).e = ee1 at *
      unfold dsTx0 rdq zTx zOuts at *
      refine W.sg 0 [(3, Ans.call false [] [((1 : Nat), Row.mk (PV.st (3 : Nat) [PV.vec nl (PV.iarr IntKind.u8 N b), PV.int IntKind.i64 (↑(0 : Nat) : Int), PV.int IntKind.i64 (↑(0 : Nat) : Int)]) false)] (PV.at (1 : Nat) [])), (6, Ans.call false [((113 : Nat), (0 : Nat))] [((0 : Nat), Row.mk (PV.st (3 : Nat) [PV.vec nl (PV.iarr IntKind.u8 N b), PV.int IntKind.i64 (↑a1 : Int), PV.int IntKind.i64 (↑ee1 : Int)]) false)] (PV.int IntKind.u64 (↑v : Int))), (10, Ans.dec false), (13, Ans.call false [((113 : Nat), (0 : Nat))] [((0 : Nat), Row.mk (PV.st (3 : Nat) [PV.vec nl (PV.iarr IntKind.u8 N b), PV.int IntKind.i64 (↑a1 : Int), PV.int IntKind.i64 (↑ee1 : Int)]) false)] (PV.int IntKind.i64 (↑ee1 : Int))), (14, Ans.dec false), (21, Ans.call false [((113 : Nat), (0 : Nat))] [((0 : Nat), Row.mk (PV.st (3 : Nat) [PV.vec nl (PV.iarr IntKind.u8 N b), PV.int IntKind.i64 (↑a2 : Int), PV.int IntKind.i64 (↑ee2 : Int)]) false)] (PV.int IntKind.u64 (↑salt : Int))), (26, Ans.call false [((113 : Nat), (0 : Nat))] [((0 : Nat), Row.mk (PV.st (3 : Nat) [PV.vec nl (PV.iarr IntKind.u8 N b), PV.int IntKind.i64 (↑a3 : Int), PV.int IntKind.i64 (↑ee3 : Int)]) false)] (PV.int IntKind.u64 (↑n : Int)))] [((64 : Nat), (1 : Nat)), ((113 : Nat), (2 : Nat)), ((432 : Nat), (3 : Nat))] (DS.mk [((2 : Nat), PV.at (1 : Nat) []), ((4 : Nat), PV.at (2 : Nat) []), ((6 : Nat), PV.at (3 : Nat) []), ((30 : Nat), PV.int IntKind.u64 (↑n : Int)), ((31 : Nat), PV.int IntKind.u64 (0 : Int))] [((1 : Nat), Row.mk (PV.st (2 : Nat) [PV.int IntKind.u64 (0 : Int), PV.vec true (PV.parr (2 : Nat) (0 : Nat) osh [])]) false), ((2 : Nat), Row.mk (PV.st (3 : Nat) [PV.vec nl (PV.iarr IntKind.u8 N b), PV.int IntKind.i64 (↑a3 : Int), PV.int IntKind.i64 (↑ee3 : Int)]) false), ((3 : Nat), Row.mk (PV.st (2 : Nat) [PV.int IntKind.u64 (↑salt : Int), PV.vec true (PV.parr (2 : Nat) (0 : Nat) osh [])]) false)]) [PC Tryd.prog G0 (39 : Nat) [] [PV.vec nl (PV.iarr IntKind.u8 N b)] [((1 : Nat), Row.mk (PV.st (3 : Nat) [PV.vec nl (PV.iarr IntKind.u8 N b), PV.int IntKind.i64 (↑(0 : Nat) : Int), PV.int IntKind.i64 (↑(0 : Nat) : Int)]) false)] (PV.at (1 : Nat) []), PC Tryd.prog G0 (40 : Nat) [((0 : Nat), Row.mk (PV.st (3 : Nat) [PV.vec nl (PV.iarr IntKind.u8 N b), PV.int IntKind.i64 (↑(0 : Nat) : Int), PV.int IntKind.i64 (↑(0 : Nat) : Int)]) false)] [PV.at (0 : Nat) [], PV.int IntKind.i64 (1 : Int)] [((0 : Nat), Row.mk (PV.st (3 : Nat) [PV.vec nl (PV.iarr IntKind.u8 N b), PV.int IntKind.i64 (↑a1 : Int), PV.int IntKind.i64 (↑ee1 : Int)]) false)] (PV.int IntKind.u64 (↑v : Int)), ((↑N : Int) == (64 : Int)) = false, PC Tryd.prog G0 (41 : Nat) [((0 : Nat), Row.mk (PV.st (3 : Nat) [PV.vec nl (PV.iarr IntKind.u8 N b), PV.int IntKind.i64 (↑a1 : Int), PV.int IntKind.i64 (↑ee1 : Int)]) false)] [PV.at (0 : Nat) []] [((0 : Nat), Row.mk (PV.st (3 : Nat) [PV.vec nl (PV.iarr IntKind.u8 N b), PV.int IntKind.i64 (↑a1 : Int), PV.int IntKind.i64 (↑ee1 : Int)]) false)] (PV.int IntKind.i64 (↑ee1 : Int)), ((↑ee1 : Int) == (0 : Int)) = false, PC Tryd.prog G0 (40 : Nat) [((0 : Nat), Row.mk (PV.st (3 : Nat) [PV.vec nl (PV.iarr IntKind.u8 N b), PV.int IntKind.i64 (↑a1 : Int), PV.int IntKind.i64 (↑ee1 : Int)]) false)] [PV.at (0 : Nat) [], PV.int IntKind.i64 (8 : Int)] [((0 : Nat), Row.mk (PV.st (3 : Nat) [PV.vec nl (PV.iarr IntKind.u8 N b), PV.int IntKind.i64 (↑a2 : Int), PV.int IntKind.i64 (↑ee2 : Int)]) false)] (PV.int IntKind.u64 (↑salt : Int)), PC Tryd.prog G0 (42 : Nat) [((0 : Nat), Row.mk (PV.st (3 : Nat) [PV.vec nl (PV.iarr IntKind.u8 N b), PV.int IntKind.i64 (↑a2 : Int), PV.int IntKind.i64 (↑ee2 : Int)]) false)] [PV.at (0 : Nat) [], PV.int IntKind.u64 (8 : Int)] [((0 : Nat), Row.mk (PV.st (3 : Nat) [PV.vec nl (PV.iarr IntKind.u8 N b), PV.int IntKind.i64 (↑a3 : Int), PV.int IntKind.i64 (↑ee3 : Int)]) false)] (PV.int IntKind.u64 (↑n : Int))] (by kernel_rfl) (ac (by exact c0) (ac (by exact c1) (ac (by exact decide_eq_false (by omega)) (ac (by exact cE) (ac (by exact decide_eq_false (by omega)) (ac (by exact c2) (ao (by exact c3)))))))) ?_
      exact hw
end Go.Proofs
namespace Go.Pm
/-- the level above -/
def above (l : List (List Int)) : List (List Int) := (List.range ((l.length + 1) / 2)).map fun i => dsha (l.getD (2 * i) [] ++ l.getD (min (2 * i + 1) (l.length - 1)) [])
/-- the k-th level -/
def lvl (l : List (List Int)) : Nat → List (List Int)
  | 0 => l
  | k + 1 => above (lvl l k)
/-- how wide it is -/
def wid (n : Nat) : Nat → Nat
  | 0 => n
  | k + 1 => (wid n k + 1) / 2
theorem above_length (l : List (List Int)) : (above l).length = (l.length + 1) / 2 := by unfold above; rw [List.length_map, List.length_range]
theorem above_get {l : List (List Int)} {i : Nat} (h : i < (l.length + 1) / 2) : (above l).getD i [] = dsha (l.getD (2 * i) [] ++ l.getD (min (2 * i + 1) (l.length - 1)) []) := by
  unfold above
  rw [List.getD_eq_getElem?_getD, List.getElem?_map, List.getElem?_range h]
  rfl
theorem lvl_length (l : List (List Int)) : ∀ k, (lvl l k).length = wid l.length k
  | 0 => rfl
  | k + 1 => by rw [lvl, above_length, lvl_length l k, wid]
theorem wid_le (n : Nat) : ∀ k, wid n k ≤ 2 ^ 0 * 1 ↔ n ≤ 2 ^ k
  | 0 => by simp [wid]
  | k + 1 => by
    have h : ∀ k c, wid n k ≤ c ↔ n ≤ c * 2 ^ k := by
      intro k
      induction k with
      | zero => intro c; simp [wid]
      | succ k ih =>
        intro c
        rw [wid, show ((wid n k + 1) / 2 ≤ c ↔ wid n k ≤ 2 * c) by omega, ih (2 * c), Nat.pow_succ]
        rw [show 2 * c * 2 ^ k = c * (2 ^ k * 2) by rw [Nat.mul_comm (2 ^ k) 2, ← Nat.mul_assoc, Nat.mul_comm c 2]]
    have := h (k + 1) 1
    simpa using this
theorem wid_one (n k : Nat) : wid n k ≤ 1 ↔ n ≤ 2 ^ k := by have := wid_le n k; simpa using this
/-- the root -/
def depM : Nat → Nat := fun n => if n ≤ 1 then 0 else Nat.log2 (n - 1) + 1
def rootM (l : List (List Int)) : List Int := if l = [] then List.replicate 32 0 else (lvl l (depM l.length)).getD 0 []
theorem depM_le (n k : Nat) : depM n ≤ k ↔ n ≤ 2 ^ k := by
  unfold depM
  have hp := Nat.two_pow_pos k
  split
  · omega
  · rw [Nat.succ_le_iff, Nat.log2_lt (by omega)]
    omega
/-- is there a pair of two that are alike? -/
def dblM (l : List (List Int)) : Prop := ∃ k i, 2 * i + 1 < wid l.length k ∧ (lvl l k).getD (2 * i) [] = (lvl l k).getD (2 * i + 1) []
theorem depM_half {n : Nat} (h : 1 < n) : depM n = depM ((n + 1) / 2) + 1 := by
  have e : ∀ k, depM n ≤ k + 1 ↔ depM ((n + 1) / 2) ≤ k := by
    intro k
    rw [depM_le, depM_le, Nat.pow_succ]
    omega
  have h0 : depM n ≠ 0 := by
    intro h0
    have := (depM_le n 0).1 (by omega)
    simp at this
    omega
  have h1 := (e (depM ((n + 1) / 2))).2 (Nat.le_refl _)
  have h2 := (e (depM n - 1)).1 (by omega)
  omega
theorem lvl_above (l : List (List Int)) : ∀ k, lvl (above l) k = lvl l (k + 1)
  | 0 => rfl
  | k + 1 => by rw [lvl, lvl_above l k]; rfl
theorem above_nil {l : List (List Int)} (h : 0 < l.length) : above l ≠ [] := by
  intro e
  have := above_length l
  rw [e] at this
  simp at this
  omega
theorem rootM_above {l : List (List Int)} (h : 1 < l.length) : rootM (above l) = rootM l := by
  unfold rootM
  rw [if_neg (above_nil (by omega)), if_neg (by intro e; rw [e] at h; simp at h), lvl_above, above_length, depM_half h]
theorem rootM_one {l : List (List Int)} (h : l.length = 1) : rootM l = l.getD 0 [] := by
  unfold rootM
  rw [if_neg (by intro e; rw [e] at h; simp at h), h]
  rfl
theorem wid_half (n : Nat) : ∀ k, wid ((n + 1) / 2) k = wid n (k + 1)
  | 0 => rfl
  | k + 1 => by rw [wid, wid_half n k]; rfl
/-- a pair of two that are alike, at this level -/
def dbl1 (l : List (List Int)) : Prop := ∃ i, 2 * i + 1 < l.length ∧ l.getD (2 * i) [] = l.getD (2 * i + 1) []
theorem dblM_step (l : List (List Int)) : dblM l ↔ dbl1 l ∨ dblM (above l) := by
  constructor
  · rintro ⟨k, i, h1, h2⟩
    cases k with
    | zero => exact .inl ⟨i, h1, h2⟩
    | succ k => exact .inr ⟨k, i, by rw [above_length, wid_half]; exact h1, by rw [lvl_above]; exact h2⟩
  · rintro (⟨i, h1, h2⟩ | ⟨k, i, h1, h2⟩)
    · exact ⟨0, i, h1, h2⟩
    · exact ⟨k + 1, i, by rw [above_length, wid_half] at h1; exact h1, by rw [lvl_above] at h2; exact h2⟩
theorem dblM_short {l : List (List Int)} (h : l.length ≤ 1) : ¬ dblM l := by
  rintro ⟨k, i, h1, _⟩
  have := (wid_one l.length k).2 (Nat.le_trans h (Nat.two_pow_pos k))
  omega
/-- .. computed -/
def dblB (l : List (List Int)) : Bool := (List.range (depM l.length)).any fun k => (List.range ((lvl l k).length / 2)).any fun i => decide ((lvl l k).getD (2 * i) [] = (lvl l k).getD (2 * i + 1) [])
theorem dblB_iff (l : List (List Int)) : dblB l = true ↔ dblM l := by
  unfold dblB dblM
  simp only [List.any_eq_true, List.mem_range, decide_eq_true_eq]
  constructor
  · rintro ⟨k, hk, i, hi, h⟩
    rw [lvl_length] at hi
    exact ⟨k, i, by omega, h⟩
  · rintro ⟨k, i, h1, h2⟩
    refine ⟨k, ?_, i, by rw [lvl_length]; omega, h2⟩
    rcases Nat.lt_or_ge k (depM l.length) with g | g
    · exact g
    · have := (wid_one l.length k).2 ((depM_le l.length k).1 g)
      omega
end Go.Pm
namespace Go.Proofs
open Go Go.Pe Go.Pm
set_option maxRecDepth 100000
set_option linter.unusedVariables false
def hv (x : List Int) : PV := .iarr .u8 32 x
def hsE : Sh := .iarr .u8 32
def hL (n : Nat) (l : List (List Int)) : PV := .parr 32 n (.iarr .u8 32) (l.map hv)
/-- hashes -/
structure HsOk (l : List (List Int)) (n : Nat) : Prop where
  len : l.length = n
  el : ∀ x ∈ l, x.length = 32 ∧ Bytes x
theorem hv_get {l : List (List Int)} {i : Nat} (h : i < l.length) : (l.map hv).getD i .undef = hv (l.getD i []) := by
  simp [List.getD_eq_getElem?_getD, h]
theorem HsOk.get {l : List (List Int)} {n i : Nat} (h : HsOk l n) (hi : i < n) : (l.getD i []).length = 32 ∧ Bytes (l.getD i []) := by
  have hi' : i < l.length := by rw [h.len]; exact hi
  have : l.getD i [] = l[i] := by simp [List.getD_eq_getElem?_getD, hi']
  rw [this]
  exact h.el _ (List.getElem_mem hi')
theorem HsOk.above {l : List (List Int)} {n : Nat} (h : HsOk l n) : HsOk (above l) ((n + 1) / 2) := by
  refine ⟨by rw [above_length, h.len], fun x hx => ?_⟩
  unfold Pm.above at hx
  obtain ⟨i, _, rfl⟩ := List.mem_map.1 hx
  exact ⟨sha_length _, sha_bytes _⟩
theorem pc_pair {a b : List Int} (ha : a.length = 32 ∧ Bytes a) (hb : b.length = 32 ∧ Bytes b) : PC Tryd.prog G0 19 [] [.vec false (.parr 1 2 bsh [.vec false (.iarr .u8 32 a), .vec false (.iarr .u8 32 b)])] [] (.iarr .u8 32 (dsha (a ++ b))) := by
  have e : cat [(false, 32, a), (false, 32, b)] = a ++ b := by simp [cat]
  have c := pc_twice (nl := false) (l := [(false, 32, a), (false, 32, b)]) (c := 2) rfl (by intro x hx; simp at hx; rcases hx with rfl | rfl; exact ⟨ha.1, ha.2⟩; exact ⟨hb.1, hb.2⟩) (by rw [e, List.length_append]; omega) (by omega)
  rw [e] at c
  exact c
def dsAb (nl : Bool) (n : Nat) (L M : List PV) (j : Nat) : DS := ⟨[(0, .vec nl (.parr 32 n hsE L)), (3, .ref 1 [] 32 0 j), (4, .int .i64 ((2 * j : Nat) : Int))], [(1, ⟨.parr 32 j hsE M, false⟩)]⟩
theorem W_above {nl : Bool} {l : List (List Int)} {n : Nat} (ho : HsOk l n) (hn : n ≤ 100000) : ∀ (k j : Nat), k + j = (n + 1) / 2 →
    W Tryd.prog G0 Tryd.f62 [] [(1, ⟨hL ((n + 1) / 2) (above l), false⟩)] (.ref 1 [] 32 0 ((n + 1) / 2)) (loopAt Tryd.f62 0) (dsAb nl n (l.map hv) (((above l).take j).map hv) j)
  | 0, j, hk => by
    have e : (above l).take j = above l := List.take_of_length_le (by rw [above_length, ho.len]; omega)
    rw [e]
    have hj : j = (n + 1) / 2 := by omega
    rw [← hj]
    have hge : ¬ (((2 * j : Nat) : Int) < (n : Int)) := by omega
    generalize above l = M at *
    generalize l.map hv = L at *
    unfold hL
    refine W.rt [(3, aF)] (rI 1) [decide ((↑(2 * j) : Int) < (n:Int)) = false] (by kernel_rfl) (ao (dF (by omega)))
  | k + 1, j, hk => by
    have h1 : 2 * j < n := by omega
    obtain ⟨m, hm⟩ : ∃ m, m = min (2 * j + 1) (n - 1) := ⟨_, rfl⟩
    have hmI : mn (((2 * j + 1 : Nat)) : Int) ((n : Int) - 1) = (m : Int) := by unfold mn; split <;> omega
    have g1 := hv_get (l := l) (i := 2 * j) (by rw [ho.len]; omega)
    have g2 := hv_get (l := l) (i := m) (by rw [ho.len]; omega)
    have o1 := ho.get (i := 2 * j) (by omega)
    have o2 := ho.get (i := m) (by omega)
    have c1 := pc_pair o1 o2
    have hab := above_get (l := l) (i := j) (by rw [ho.len]; omega)
    rw [ho.len, ← hm] at hab
    have hsucc : (above l).take (j + 1) = (above l).take j ++ [(above l).getD j []] := by
      rw [List.take_add_one]
      congr 1
      rw [List.getD_eq_getElem?_getD, List.getElem?_eq_getElem (by rw [above_length, ho.len]; omega)]
      rfl
    have hw := W_above (nl := nl) ho hn k (j + 1) (by omega)
    rw [hsucc, hab, List.map_append] at hw
    have hMl : (((above l).take j).map hv).length = j := by rw [List.length_map, List.length_take, above_length, ho.len]; omega
    generalize dsha (l.getD (2 * j) [] ++ l.getD m []) = res at *
    generalize l.getD (2 * j) [] = x at *
    generalize l.getD m [] = y at *
    generalize ((above l).take j).map hv = M at *
    generalize l.map hv = L at *
    generalize above l = A at *
    generalize hres : (n + 1) / 2 = N at *
    unfold hv at *
    refine W.sg 0 [(3, aT), (6, aV (PV.cptr (PV.parr 32 n (Sh.iarr IntKind.u8 32) L) [Stp.idx (2 * j) 32])), (7, aE g1), (10, aV (I6 (↑(2 * j + 1) : Int))), (13, aV (I6 ((n:Int) - 1))), (14, aV (I6 (m:Int))), (16, aE g2), (24, Ans.frz [336, 352]), (25, cL true [] c1), (27, Ans.ups [(1, none), (496, some (Row.mk (PV.parr 32 (j + 1) (Sh.iarr IntKind.u8 32) (M ++ [B8 32 res])) false))]), (30, aV (I6 (↑(2 * j + 2) : Int)))] [(496, 1)] (dsAb nl n L (M ++ [res].map (PV.iarr .u8 32)) (j + 1)) [decide ((↑(2 * j) : Int) < (n:Int)) = true, PV.cptr (PV.parr 32 n (Sh.iarr IntKind.u8 32) L) [Stp.idx (Int.toNat (↑(2 * j) : Int)) 32] = PV.cptr (PV.parr 32 n (Sh.iarr IntKind.u8 32) L) [Stp.idx (2 * j) 32], 0 ≤ (↑(2 * j) : Int), (↑(2 * j) : Int) < (n:Int), _, 2 * j < n, I6 (IntKind.wrap .i64 ((↑(2 * j) : Int) + 1)) = I6 (↑(2 * j + 1) : Int), I6 (IntKind.wrap .i64 ((n:Int) - 1)) = I6 ((n:Int) - 1), I6 (mn (↑(2 * j + 1) : Int) ((n:Int) - 1)) = I6 (m:Int), 0 ≤ (m:Int), (m:Int) < (n:Int), _, m < n, (0 : Int) ≤ (0 : Int), 0 ≤ (↑(32 : Nat) : Int), (↑(32 : Nat) : Int) ≤ (↑(32 : Nat) : Int), (0 : Int) ≤ (0 : Int), 0 ≤ (↑(32 : Nat) : Int), (↑(32 : Nat) : Int) ≤ (↑(32 : Nat) : Int), 32 ≤ 32, 32 ≤ 32, 2 ≤ 2, rr ([] : List (Nat × Row)), ([PV.vec false (PV.parr 1 2 (Sh.vec 1 (Sh.int IntKind.u8)) [PV.vec false (B8 32 (List.take 32 x)), PV.vec false (B8 32 (List.take 32 y))])] : List PV) = [PV.vec false (PV.parr 1 2 (Sh.vec 1 (Sh.int IntKind.u8)) [PV.vec false (B8 32 x), PV.vec false (B8 32 y)])], _, ([(1, none), (496, some (Row.mk (PV.parr 32 (j + 1) (Sh.iarr IntKind.u8 32) (List.take j M ++ [B8 32 res])) false))] : List (Nat × Option Row)) = [(1, none), (496, some (Row.mk (PV.parr 32 (j + 1) (Sh.iarr IntKind.u8 32) (M ++ [B8 32 res])) false))], 1 ≤ 1, 0 + j = j, (j + 1) * 32 ≤ 140737488355328, j + 1 ≤ 9223372036854775807, I6 (IntKind.wrap .i64 ((↑(2 * j) : Int) + 2)) = I6 (↑(2 * j + 2) : Int)] (by kernel_rfl) (ac (dT (by omega)) (ac (by rw [show Int.toNat (↑(2 * j) : Int) = 2 * j by omega]) (ac (by omega) (ac (by omega) (ac (ex g1) (ac (by omega) (ac (cg (w_i64 rfl (by omega) (by omega))) (ac (cg (w_i64 rfl (by omega) (by omega))) (ac (cg (hmI)) (ac (by omega) (ac (by omega) (ac (ex g2) (ac (by omega) (ac (by omega) (ac (by omega) (ac (by omega) (ac (by omega) (ac (by omega) (ac (by omega) (ac (by omega) (ac (by omega) (ac (by omega) (ac rfl (ac (by rw [List.take_of_length_le (show List.length x ≤ 32 by omega), List.take_of_length_le (show List.length y ≤ 32 by omega)]) (ac (c1) (ac (by rw [List.take_of_length_le (show List.length M ≤ j by omega)]) (ac (by omega) (ac (by omega) (ac (by omega) (ac (by omega) (ao (cg (w_i64 rfl (by omega) (by omega)))))))))))))))))))))))))))))))))) ?_
    exact hw
end Go.Proofs
namespace Go.Proofs
open Go Go.Pe Go.Pm
set_option maxRecDepth 100000
set_option linter.unusedVariables false
theorem pc_above {nl : Bool} {l : List (List Int)} {n : Nat} (ho : HsOk l n) (hn : n ≤ 100000) : PC Tryd.prog G0 62 [] [.vec nl (hL n l)] [(1, ⟨hL ((n + 1) / 2) (above l), false⟩)] (.ref 1 [] 32 0 ((n + 1) / 2)) := by
  refine PC.of (fn := Tryd.f62) (c := bodyOf Tryd.f62) Tryd.func62 (by kernel_rfl) (by kernel_rfl) (by kernel_rfl) (by kernel_rfl) ?_
  have hw := W_above (nl := nl) ho hn ((n + 1) / 2) 0 (by omega)
  have e : ((above l).take 0).map hv = [] := rfl
  rw [e] at hw
  generalize above l = A at *
  unfold hL at *
  have hN : ((n : Int) + 1).tdiv 2 = (((n + 1) / 2 : Nat) : Int) := by rw [Int.tdiv_eq_ediv_of_nonneg (by omega)]; omega
  generalize (n + 1) / 2 = N at *
  generalize l.map hv = L at *
  refine W.sg 0 [(3, aV (I6 (↑(n + 1) : Int))), (4, aV (I6 (↑((n + 1) / 2) : Int)))] [(144, 1)] (dsAb nl n L [] 0) [I6 (IntKind.wrap .i64 ((n:Int) + 1)) = I6 (↑(n + 1) : Int), I6 (IntKind.wrap .i64 (Int.tdiv (↑(n + 1) : Int) (2 : Int))) = I6 (↑((n + 1) / 2) : Int), (2 : Int) ≠ (0 : Int), (0 : Int) ≤ (0 : Int), 0 ≤ (↑((n + 1) / 2) : Int), (↑((n + 1) / 2) : Int) ≤ (9223372036854775807 : Int), (↑(32 : Nat) : Int) * (↑((n + 1) / 2) : Int) ≤ (140737488355328 : Int)] (by kernel_rfl) (ac (cg (w_i64 rfl (by omega) (by omega))) (ac (cg (w_i64 rfl (by omega) (by omega))) (ac (by omega) (ac (by omega) (ac (by omega) (ac (by omega) (ao (by omega)))))))) ?_
  exact hw
theorem pc_levels {nl : Bool} {c : PV} (hc : good (.vec nl c) = true) : PC Tryd.prog G0 46 [] [.vec nl c] [(1, ⟨.vec nl c, false⟩)] (.fn 61 1) := by
  refine PC.of (fn := Tryd.f46) (c := bodyOf Tryd.f46) Tryd.func46 (by kernel_rfl) (by kernel_rfl) (by kernel_rfl) (by kernel_rfl) ?_
  refine W.rt [] [(64, 1)] [] (by kernel_rfl) trivial
end Go.Proofs
namespace Go.Proofs
open Go Go.Pe Go.Pm
set_option maxRecDepth 100000
set_option linter.unusedVariables false
def z32 : List Int := List.replicate 32 0
def yv (l : Nat) : PV := .fv (.func (.yield l) #[] #[])
def rows3 (rt : List Int) (nl : Bool) (c : PV) : List (Nat × Row) := [(1, ⟨.iarr .u8 32 z32, false⟩), (2, ⟨.iarr .u8 32 rt, false⟩), (3, ⟨.vec nl c, false⟩)]
def dRootR (rt : List Int) (nl : Bool) (c : PV) : DS := ⟨[(2, .at 1 []), (3, .at 2 []), (6, .fn 61 3)], rows3 rt nl c⟩
def frRoot : List (Nat × PV) := [(2, .at 1 []), (3, .at 2 [])]
def dLev (y : Nat) (rt : List Int) (nl : Bool) (c : PV) : DS := ⟨[(0, yv y), (1, .at 3 [])], rows3 rt nl c⟩
def dLevY (y : Nat) (rt : List Int) (nl : Bool) (c : PV) : DS := ⟨[(0, yv y), (1, .at 3 []), (3, yv y), (4, .vec nl c)], rows3 rt nl c⟩
/-- what the loop over the levels leaves in the root's place -/
def rootW (l : List (List Int)) (rt : List Int) : List Int := if l.length = 1 then l.getD 0 [] else rt
theorem W_rootEnd {rt : List Int} : WM Tryd.prog G0 Tryd.f28 [] [] (.iarr .u8 32 rt) (rgK (stopIn Tryd.f28 0)) ⟨frRoot, [(1, ⟨.iarr .u8 32 z32, false⟩), (2, ⟨.iarr .u8 32 rt, false⟩)]⟩ := by
  unfold frRoot
  refine WM.rt [] [] [] (by kernel_rfl) trivial
def dRnd (rt : List Int) (nl : Bool) (c : PV) : DS := ⟨[(2, .at 1 []), (3, .at 2 []), (4, .vec nl c)], rows3 rt nl c⟩
theorem W_rootRound {y : Nat} {rt res : List Int} {nl : Bool} {l : List (List Int)} {n : Nat} (ho : HsOk l n) (hn : n ≤ 100000)
    (hw : WH Tryd.prog G0 Tryd.f61 [1, 2] (HIter (rangeOf Tryd.f28 0 [] (.iarr .u8 32 res) [] frRoot 61) y .ready none) (.inRegion (rgOps (stopIn Tryd.f61 0)) (rgRest (stopIn Tryd.f61 0)) :: rgK (stopIn Tryd.f61 0))
      ⟨[(0, yv y), (1, .at 3 []), (5, .bool true)], rows3 (rootW l rt) nl (hL n l)⟩) :
    WH Tryd.prog G0 Tryd.f61 [1, 2] (HIter (rangeOf Tryd.f28 0 [] (.iarr .u8 32 res) [] frRoot 61) y .ready none) (stopIn Tryd.f61 0) (dLevY y rt nl (hL n l)) := by
  refine WH.yieldAt (args := [.vec nl (hL n l)]) (pinsR := [1, 2, 3]) (frI := [(0, yv y), (1, .at 3 [])]) (by kernel_rfl) (by kernel_rfl) (by kernel_rfl) (by kernel_rfl) (by kernel_rfl) (SlotsIn.ofL ⟨rfl, rfl, trivial⟩) ?_
  show WH _ _ Tryd.f28 [1, 2, 3] _ _ (⟨[(2, .at 1 []), (3, .at 2 []), (7, .vec nl (hL n l))], rows3 rt nl (hL n l)⟩)
  have hll := ho.len
  have g0 : 0 < n → (l.map hv).getD 0 .undef = hv (l.getD 0 []) := fun h => hv_get (by omega)
  have o0 : 0 < n → (l.getD 0 []).length = 32 := fun h => (ho.get h).1
  have hr : rootW l rt = if n = 1 then l.getD 0 [] else rt := by unfold rootW; rw [hll]
  rw [hr] at hw
  unfold hL at *
  generalize l.getD 0 [] = x at *
  generalize l.map hv = L at *
  unfold rows3 hv at *
  refine WH.sg [] (rI 3) (dRnd rt nl (.parr 32 n hsE L)) ([Item.beginRound, Item.code (rgBody (stopIn Tryd.f28 0))]) [] (by kernel_rfl) trivial ?_
  refine WH.begin ?_
  by_cases h1 : n = 1
  · rw [if_pos h1] at hw
    have g := g0 (by omega)
    have o := o0 (by omega)
    refine WH.sg [(2, aT), (5, aE g)] (rI 3) (⟨[], [(1, ⟨.iarr .u8 32 z32, false⟩), (2, ⟨.iarr .u8 32 x, false⟩), (3, ⟨.vec nl (.parr 32 n hsE L), false⟩)]⟩ : DS) ([]) [((n:Int) == 1) = true, (0 : Int) ≤ (0 : Int), 0 < (n:Int), _, 0 < n] (by kernel_rfl) (ac (dT (by omega)) (ac (by omega) (ac (by omega) (ac (ex g) (ao (by omega)))))) ?_
    exact WH.roundNormal (by kernel_rfl) hw
  · rw [if_neg h1] at hw
    refine WH.sg [(2, aF)] (rI 3) (⟨[], [(1, ⟨.iarr .u8 32 z32, false⟩), (2, ⟨.iarr .u8 32 rt, false⟩), (3, ⟨.vec nl (.parr 32 n hsE L), false⟩)]⟩ : DS) ([]) [((n:Int) == 1) = false] (by kernel_rfl) (ao (dF (by omega))) ?_
    exact WH.roundNormal (by kernel_rfl) hw
theorem W_rootIter {y : Nat} {res : List Int} : ∀ (n : Nat) (l : List (List Int)) (rt : List Int) (nl : Bool), HsOk l n → n ≤ 100000 → (n = 0 → res = rt) → (0 < n → res = rootM l) →
    WH Tryd.prog G0 Tryd.f61 [1, 2] (HIter (rangeOf Tryd.f28 0 [] (.iarr .u8 32 res) [] frRoot 61) y .ready none) (loopAt Tryd.f61 0) (dLev y rt nl (hL n l)) := by
  intro n
  induction n using Nat.strongRecOn with
  | _ n ih =>
    intro l rt nl ho hn h0 h1
    unfold dLev rows3
    generalize hc : hL n l = c
    refine WH.sg [] (rI 3) (⟨[(0, yv y), (1, .at 3 []), (3, yv y), (4, .vec nl c)], [(1, ⟨.iarr .u8 32 z32, false⟩), (2, ⟨.iarr .u8 32 rt, false⟩), (3, ⟨.vec nl c, false⟩)]⟩ : DS) (stopIn Tryd.f61 0) [] (by kernel_rfl) trivial ?_
    rw [← hc]
    refine W_rootRound ho hn ?_
    by_cases hgt : 1 < n
    · have c1 := pc_above (nl := nl) ho hn
      have hw := ih ((n + 1) / 2) (by omega) (above l) (rootW l rt) false ho.above (by omega) (by omega) (fun _ => by rw [h1 (by omega), rootM_above (by rw [ho.len]; exact hgt)])
      clear hc
      have hln := ho.len
      unfold hL at *
      have hT : ((above l).map hv).take ((n + 1) / 2) = (above l).map hv := List.take_of_length_le (by rw [List.length_map, above_length, hln]; omega)
      generalize rootW l rt = rw at *
      generalize (above l).map hv = M at *
      generalize (n + 1) / 2 = m at *
      generalize l.map hv = L at *
      unfold dLev at *
      unfold rows3 at *
      refine WH.seg [(6, aT), (12, c9 c1), (13, Ans.frz [257])] (rI 3) (⟨[(0, yv y), (1, .at 3 [])], [(1, ⟨.iarr .u8 32 z32, false⟩), (2, ⟨.iarr .u8 32 rw, false⟩), (3, ⟨.vec false (.parr 32 m hsE M), false⟩)]⟩ : DS) (todo' := loopAt Tryd.f61 0) [decide ((n:Int) > 1) = true, _, 0 + m ≤ m, rr (PV.fv (Value.func (Fn.yield y) #[] #[])), rr (PV.at 3 []), rr (B8 32 (List.replicate 32 0)), rr (B8 32 rw), PV.vec false (PV.parr 32 m (Sh.iarr IntKind.u8 32) (List.take m M)) = PV.vec false (PV.parr 32 m (Sh.iarr IntKind.u8 32) M)] (by kernel_rfl) (ac (dT (by omega)) (ac (c1) (ac (by omega) (ac rfl (ac rfl (ac rfl (ac rfl (ao (by (simp; omega)))))))))) ?_
      exact hw
    · have hres : res = rootW l rt := by
        unfold rootW
        rw [ho.len]
        by_cases hn1 : n = 1
        · rw [if_pos hn1, h1 (by omega), rootM_one (by rw [ho.len, hn1])]
        · rw [if_neg hn1, h0 (by omega)]
      rw [← hres]
      have hle : ¬ ((n : Int) > 1) := by omega
      clear hc
      unfold hL rows3 at *
      generalize l.map hv = L at *
      refine WH.sg [(6, aF)] (rI 2) (⟨[], [(1, ⟨.iarr .u8 32 z32, false⟩), (2, ⟨.iarr .u8 32 res, false⟩)]⟩ : DS) ([]) [decide ((n:Int) > 1) = false] (by kernel_rfl) (ao (dF (by omega))) ?_
      exact WH.iterRet Tryd.func61 (by kernel_rfl) (by intro e; cases e) rfl W_rootEnd
theorem pc_root {nl : Bool} {l : List (List Int)} {n : Nat} (ho : HsOk l n) (hn : n ≤ 100000) : PC Tryd.prog G0 28 [] [.vec nl (hL n l)] [] (hv (rootM l)) := by
  refine PC.of (fn := Tryd.f28) (c := bodyOf Tryd.f28) Tryd.func28 (by kernel_rfl) (by kernel_rfl) (by kernel_rfl) (by kernel_rfl) ?_
  have hw := fun y => W_rootIter (y := y) (res := rootM l) n l z32 nl ho hn (fun h => by
    have : l = [] := List.eq_nil_of_length_eq_zero (by rw [ho.len, h])
    rw [this]; rfl) (fun _ => rfl)
  have c1 := pc_levels (nl := nl) (c := hL n l) rfl
  generalize rootM l = res at *
  unfold dLev at hw
  generalize hL n l = c at *
  refine W.st [(3, c0 c1)] [(64, 1), (80, 2), (113, 3)] (dRootR z32 nl c) (stopIn Tryd.f28 0) [_] (by kernel_rfl) (ao (c1)) ?_
  refine W.rangeFnAt (g := 6) (fi := 61) (fI := Tryd.f61) (id := 3) (pinsI := [1, 2]) (by kernel_rfl) frRoot rfl Tryd.func61 (by kernel_rfl) (by kernel_rfl) (by kernel_rfl) (by kernel_rfl) (by kernel_rfl) (SlotsIn.ofL ⟨rfl, rfl, trivial⟩) fun y => ?_
  have hw := hw y
  unfold dRootR rows3 at *
  dsimp only
  unfold yv at *
  refine WH.sg [] (rI 3) (⟨[(0, yv y), (1, .at 3 [])], [(1, ⟨.iarr .u8 32 z32, false⟩), (2, ⟨.iarr .u8 32 z32, false⟩), (3, ⟨.vec nl c, false⟩)]⟩ : DS) (loopAt Tryd.f61 0) [] (by kernel_rfl) trivial ?_
  exact hw
end Go.Proofs
namespace Go.Proofs
open Go Go.Pe Go.Pm
set_option maxRecDepth 100000
set_option linter.unusedVariables false
def frDbl : List (Nat × PV) := [(2, .at 1 [])]
theorem W_dblEnd {b : Bool} {k : List Item} (hk : k = rgK (stopIn Tryd.f27 0)) (hb : b = false) : WM Tryd.prog G0 Tryd.f27 [] [] (.bool false) k ⟨frDbl, [(1, ⟨.bool b, false⟩)]⟩ := by
  subst hk; subst hb
  unfold frDbl
  refine WM.rt [] [] [] (by kernel_rfl) trivial
theorem W_dblRet {b : Bool} {k : List Item} : WM Tryd.prog G0 Tryd.f27 [] [] (.bool b) (.code .ret :: k) ⟨frDbl, [(1, ⟨.bool b, false⟩)]⟩ := by
  unfold frDbl
  refine WM.rt [] [] [] (by kernel_rfl) trivial
def dDbl (nl : Bool) (n : Nat) (L : List PV) (j : Nat) : DS := ⟨[(2, .at 1 []), (3, .vec nl (.parr 32 n hsE L)), (4, .int .i64 ((2 * j + 1 : Nat) : Int))], [(1, ⟨.bool false, false⟩), (2, ⟨.vec nl (.parr 32 n hsE L), false⟩)]⟩
theorem W_dblRound {y : Nat} {res nl : Bool} {l : List (List Int)} {n : Nat} (ho : HsOk l n) (hn : n ≤ 100000)
    (hw1 : (∀ i, 2 * i + 1 < n → l.getD (2 * i) [] ≠ l.getD (2 * i + 1) []) → WH Tryd.prog G0 Tryd.f61 [1] (HIter (rangeOf Tryd.f27 0 [] (.bool res) [] frDbl 61) y .ready none) (.inRegion (rgOps (stopIn Tryd.f61 0)) (rgRest (stopIn Tryd.f61 0)) :: rgK (stopIn Tryd.f61 0))
      ⟨[(0, yv y), (1, .at 2 []), (5, .bool true)], [(1, ⟨.bool false, false⟩), (2, ⟨.vec nl (.parr 32 n hsE (l.map hv)), false⟩)]⟩)
    (hw2 : (∃ i, 2 * i + 1 < n ∧ l.getD (2 * i) [] = l.getD (2 * i + 1) []) → WH Tryd.prog G0 Tryd.f61 [1] (HIter (rangeOf Tryd.f27 0 [] (.bool res) [] frDbl 61) y .done (some .ret)) (.inRegion (rgOps (stopIn Tryd.f61 0)) (rgRest (stopIn Tryd.f61 0)) :: rgK (stopIn Tryd.f61 0))
      ⟨[(0, yv y), (1, .at 2 []), (5, .bool false)], [(1, ⟨.bool true, false⟩), (2, ⟨.vec nl (.parr 32 n hsE (l.map hv)), false⟩)]⟩) : ∀ (k j : Nat), n ≤ 2 * (k + j) + 1 → 2 * j ≤ n + 1 → (∀ i, i < j → l.getD (2 * i) [] ≠ l.getD (2 * i + 1) []) →
    WH Tryd.prog G0 Tryd.f27 [1, 2] (HRound (rangeOf Tryd.f27 0 [] (.bool res) [] frDbl 61) (roundOf Tryd.f61 0 [1] [(0, yv y), (1, .at 2 [])]) y .busy none) (loopIn (rgBody (stopIn Tryd.f27 0)) 0) (dDbl nl n (l.map hv) j)
  | 0, j, hk, hj, hne => by
    have hw1 := hw1 fun i hi => hne i (by omega)
    have hge : ¬ (((2 * j + 1 : Nat) : Int) < (n : Int)) := by omega
    generalize l.map hv = L at *
    unfold dDbl
    refine WH.sg [(3, aF)] (rI 2) (⟨[], [(1, ⟨.bool false, false⟩), (2, ⟨.vec nl (.parr 32 n hsE L), false⟩)]⟩ : DS) ([]) [decide ((↑(2 * j + 1) : Int) < (n:Int)) = false] (by kernel_rfl) (ao (dF (by omega))) ?_
    exact WH.roundNormal (by kernel_rfl) hw1
  | k + 1, j, hk, hj, hne => by
    by_cases hlt : 2 * j + 1 < n
    · have g1 := hv_get (l := l) (i := 2 * j) (by rw [ho.len]; omega)
      have g2 := hv_get (l := l) (i := 2 * j + 1) (by rw [ho.len]; omega)
      have o1 := (ho.get (i := 2 * j) (by omega)).1
      have o2 := (ho.get (i := 2 * j + 1) (by omega)).1
      have e1 : ((2 * j + 1 : Nat) : Int) - 1 = ((2 * j : Nat) : Int) := by omega
      by_cases heq : l.getD (2 * j) [] = l.getD (2 * j + 1) []
      · have hw2 := hw2 ⟨j, hlt, heq⟩
        generalize l.getD (2 * j) [] = x at *
        generalize l.getD (2 * j + 1) [] = z at *
        subst heq
        generalize l.map hv = L at *
        unfold hv at *
        unfold dDbl
        refine WH.sg [(3, aT), (6, aV (PV.cptr (PV.parr 32 n (Sh.iarr IntKind.u8 32) L) [Stp.idx (2 * j + 1) 32])), (7, aE g2), (10, aV (I6 (↑(2 * j) : Int))), (11, aV (PV.cptr (PV.parr 32 n (Sh.iarr IntKind.u8 32) L) [Stp.idx (2 * j) 32])), (12, aE g1), (13, aT)] (rI 2) (⟨[], [(1, ⟨.bool true, false⟩), (2, ⟨.vec nl (.parr 32 n hsE L), false⟩)]⟩ : DS) (retIn (rgBody (stopIn Tryd.f27 0)) 0) [decide ((↑(2 * j + 1) : Int) < (n:Int)) = true, PV.cptr (PV.parr 32 n (Sh.iarr IntKind.u8 32) L) [Stp.idx (Int.toNat (↑(2 * j + 1) : Int)) 32] = PV.cptr (PV.parr 32 n (Sh.iarr IntKind.u8 32) L) [Stp.idx (2 * j + 1) 32], 0 ≤ (↑(2 * j + 1) : Int), (↑(2 * j + 1) : Int) < (n:Int), _, 2 * j + 1 < n, I6 (IntKind.wrap .i64 ((↑(2 * j + 1) : Int) - 1)) = I6 (↑(2 * j) : Int), PV.cptr (PV.parr 32 n (Sh.iarr IntKind.u8 32) L) [Stp.idx (Int.toNat (↑(2 * j) : Int)) 32] = PV.cptr (PV.parr 32 n (Sh.iarr IntKind.u8 32) L) [Stp.idx (2 * j) 32], 0 ≤ (↑(2 * j) : Int), (↑(2 * j) : Int) < (n:Int), _, 2 * j < n, decide (x = x) = true] (by kernel_rfl) (ac (dT (by omega)) (ac (by rw [show Int.toNat (↑(2 * j + 1) : Int) = 2 * j + 1 by omega]) (ac (by omega) (ac (by omega) (ac (ex g2) (ac (by omega) (ac (cg (w_i64 e1 (by omega) (by omega))) (ac (by rw [show Int.toNat (↑(2 * j) : Int) = 2 * j by omega]) (ac (by omega) (ac (by omega) (ac (ex g1) (ac (by omega) (ao (by (simp [*]; done))))))))))))))) ?_
        exact WH.roundRet (by kernel_rfl) (by kernel_rfl) hw2
      · have hw := W_dblRound ho hn hw1 hw2 k (j + 1) (by omega) (by omega) (fun i hi => by
          rcases Nat.lt_or_eq_of_le (Nat.le_of_lt_succ hi) with h | rfl
          · exact hne i h
          · exact heq)
        have hne' := fun h => heq (Eq.symm h)
        have e2 : ((2 * j + 1 : Nat) : Int) + 2 = ((2 * (j + 1) + 1 : Nat) : Int) := by omega
        have b2 : 2 * (j + 1) + 1 ≤ 100010 := by omega
        generalize l.getD (2 * j) [] = x at *
        generalize l.getD (2 * j + 1) [] = z at *
        generalize l.map hv = L at *
        clear hw1 hw2 hne
        unfold hv at *
        unfold dDbl at *
        generalize 2 * (j + 1) + 1 = i2 at *
        refine WH.sg [(3, aT), (6, aV (PV.cptr (PV.parr 32 n (Sh.iarr IntKind.u8 32) L) [Stp.idx (2 * j + 1) 32])), (7, aE g2), (10, aV (I6 (↑(2 * j) : Int))), (11, aV (PV.cptr (PV.parr 32 n (Sh.iarr IntKind.u8 32) L) [Stp.idx (2 * j) 32])), (12, aE g1), (13, aF), (15, aV (I6 (i2:Int)))] (rI 2) (⟨[(2, .at 1 []), (3, .vec nl (.parr 32 n hsE L)), (4, .int .i64 ((i2 : Nat) : Int))], [(1, ⟨.bool false, false⟩), (2, ⟨.vec nl (.parr 32 n hsE L), false⟩)]⟩ : DS) (loopIn (rgBody (stopIn Tryd.f27 0)) 0) [decide ((↑(2 * j + 1) : Int) < (n:Int)) = true, PV.cptr (PV.parr 32 n (Sh.iarr IntKind.u8 32) L) [Stp.idx (Int.toNat (↑(2 * j + 1) : Int)) 32] = PV.cptr (PV.parr 32 n (Sh.iarr IntKind.u8 32) L) [Stp.idx (2 * j + 1) 32], 0 ≤ (↑(2 * j + 1) : Int), (↑(2 * j + 1) : Int) < (n:Int), _, 2 * j + 1 < n, I6 (IntKind.wrap .i64 ((↑(2 * j + 1) : Int) - 1)) = I6 (↑(2 * j) : Int), PV.cptr (PV.parr 32 n (Sh.iarr IntKind.u8 32) L) [Stp.idx (Int.toNat (↑(2 * j) : Int)) 32] = PV.cptr (PV.parr 32 n (Sh.iarr IntKind.u8 32) L) [Stp.idx (2 * j) 32], 0 ≤ (↑(2 * j) : Int), (↑(2 * j) : Int) < (n:Int), _, 2 * j < n, decide (z = x) = false, I6 (IntKind.wrap .i64 ((↑(2 * j + 1) : Int) + 2)) = I6 (i2:Int)] (by kernel_rfl) (ac (dT (by omega)) (ac (by rw [show Int.toNat (↑(2 * j + 1) : Int) = 2 * j + 1 by omega]) (ac (by omega) (ac (by omega) (ac (ex g2) (ac (by omega) (ac (cg (w_i64 e1 (by omega) (by omega))) (ac (by rw [show Int.toNat (↑(2 * j) : Int) = 2 * j by omega]) (ac (by omega) (ac (by omega) (ac (ex g1) (ac (by omega) (ac (dF (by omega)) (ao (cg (w_i64 e2 (by omega) (by omega))))))))))))))))) ?_
        exact hw
    · have hw1 := hw1 fun i hi => hne i (by omega)
      have hge : ¬ (((2 * j + 1 : Nat) : Int) < (n : Int)) := by omega
      generalize l.map hv = L at *
      unfold dDbl
      refine WH.sg [(3, aF)] (rI 2) (⟨[], [(1, ⟨.bool false, false⟩), (2, ⟨.vec nl (.parr 32 n hsE L), false⟩)]⟩ : DS) ([]) [decide ((↑(2 * j + 1) : Int) < (n:Int)) = false] (by kernel_rfl) (ao (dF (by omega))) ?_
      exact WH.roundNormal (by kernel_rfl) hw1
theorem W_dblIter {y : Nat} {res : Bool} : ∀ (n : Nat) (l : List (List Int)) (nl : Bool), HsOk l n → n ≤ 100000 → (res = true ↔ dblM l) →
    WH Tryd.prog G0 Tryd.f61 [1] (HIter (rangeOf Tryd.f27 0 [] (.bool res) [] frDbl 61) y .ready none) (loopAt Tryd.f61 0) ⟨[(0, yv y), (1, .at 2 [])], [(1, ⟨.bool false, false⟩), (2, ⟨.vec nl (hL n l), false⟩)]⟩ := by
  intro n
  induction n using Nat.strongRecOn with
  | _ n ih =>
    intro l nl ho hn hres
    have hln := ho.len
    unfold hL
    generalize hLe : l.map hv = L
    refine WH.sg [] (rI 2) (⟨[(0, yv y), (1, .at 2 []), (3, yv y), (4, .vec nl (.parr 32 n hsE L))], [(1, ⟨.bool false, false⟩), (2, ⟨.vec nl (.parr 32 n hsE L), false⟩)]⟩ : DS) (stopIn Tryd.f61 0) [] (by kernel_rfl) trivial ?_
    refine WH.yieldAt (args := [.vec nl (.parr 32 n hsE L)]) (pinsR := [1, 2]) (frI := [(0, yv y), (1, .at 2 [])]) (by kernel_rfl) (by kernel_rfl) (by kernel_rfl) (by kernel_rfl) (by kernel_rfl) (SlotsIn.ofL ⟨rfl, rfl, trivial⟩) ?_
    show WH _ _ Tryd.f27 [1, 2] _ _ (⟨[(2, .at 1 []), (7, .vec nl (.parr 32 n hsE L))], [(1, ⟨.bool false, false⟩), (2, ⟨.vec nl (.parr 32 n hsE L), false⟩)]⟩)
    refine WH.sg [] (rI 2) (⟨[(2, .at 1 []), (3, .vec nl (.parr 32 n hsE L))], [(1, ⟨.bool false, false⟩), (2, ⟨.vec nl (.parr 32 n hsE L), false⟩)]⟩ : DS) ([Item.beginRound, Item.code (rgBody (stopIn Tryd.f27 0))]) [] (by kernel_rfl) trivial ?_
    refine WH.begin ?_
    refine WH.sg [] (rI 2) (⟨[(2, .at 1 []), (3, .vec nl (.parr 32 n hsE L)), (4, .int .i64 1)], [(1, ⟨.bool false, false⟩), (2, ⟨.vec nl (.parr 32 n hsE L), false⟩)]⟩ : DS) (loopIn (rgBody (stopIn Tryd.f27 0)) 0) [] (by kernel_rfl) trivial ?_
    rw [← hLe]
    refine W_dblRound (l := l) ho hn (fun hno => ?_) (fun hyes => ?_) n 0 (by omega) (by omega) (fun i hi => by omega)
    · rw [hLe]
      have hd1 : ¬ dbl1 l := by rintro ⟨i, h1, h2⟩; rw [hln] at h1; exact hno i h1 h2
      by_cases hgt : 1 < n
      · have c1 := pc_above (nl := nl) ho hn
        have hw := ih ((n + 1) / 2) (by omega) (above l) false ho.above (by omega) (by rw [hres, dblM_step]; simp [hd1])
        have hT : ((above l).map hv).take ((n + 1) / 2) = (above l).map hv := List.take_of_length_le (by rw [List.length_map, above_length, hln]; omega)
        unfold hL at *
        rw [hLe] at c1
        generalize (above l).map hv = M at *
        generalize (n + 1) / 2 = m at *
        clear hno hd1 hres hLe hln
        refine WH.seg [(6, aT), (12, c9 c1), (13, Ans.frz [257])] (rI 2) (⟨[(0, yv y), (1, .at 2 [])], [(1, ⟨.bool false, false⟩), (2, ⟨.vec false (.parr 32 m hsE M), false⟩)]⟩ : DS) (todo' := loopAt Tryd.f61 0) [decide ((n:Int) > 1) = true, _, 0 + m ≤ m, rr (PV.fv (Value.func (Fn.yield y) #[] #[])), rr (PV.at 2 []), rr (PV.bool false), PV.vec false (PV.parr 32 m (Sh.iarr IntKind.u8 32) (List.take m M)) = PV.vec false (PV.parr 32 m (Sh.iarr IntKind.u8 32) M)] (by kernel_rfl) (ac (dT (by omega)) (ac (c1) (ac (by omega) (ac rfl (ac rfl (ac rfl (ao (by (simp; omega))))))))) ?_
        exact hw
      · have hr : res = false := by
          have := dblM_short (l := l) (by omega)
          rw [← hres] at this
          simpa using this
        have hle : ¬ ((n : Int) > 1) := by omega
        subst hr
        clear hno hd1 hres
        refine WH.sg [(6, aF)] (rI 1) (⟨[], [(1, ⟨.bool false, false⟩)]⟩ : DS) ([]) [decide ((n:Int) > 1) = false] (by kernel_rfl) (ao (dF (by omega))) ?_
        exact WH.iterRet Tryd.func61 (by kernel_rfl) (by intro e; cases e) rfl (W_dblEnd rfl rfl)
    · rw [hLe]
      have hr : res = true := by
        rw [hres, dblM_step]
        obtain ⟨i, h1, h2⟩ := hyes
        exact .inl ⟨i, by rw [hln]; exact h1, h2⟩
      subst hr
      clear hyes hres
      refine WH.sg [] (rI 1) (⟨[], [(1, ⟨.bool true, false⟩)]⟩ : DS) ([]) [] (by kernel_rfl) trivial ?_
      exact WH.iterRet Tryd.func61 (by kernel_rfl) (by intro e; cases e) rfl W_dblRet
def dDblR (nl : Bool) (c : PV) : DS := ⟨[(2, .at 1 []), (6, .fn 61 2)], [(1, ⟨.bool false, false⟩), (2, ⟨.vec nl c, false⟩)]⟩
theorem pc_doubled {nl : Bool} {l : List (List Int)} {n : Nat} {res : Bool} (ho : HsOk l n) (hn : n ≤ 100000) (hres : res = true ↔ dblM l) : PC Tryd.prog G0 27 [] [.vec nl (hL n l)] [] (.bool res) := by
  refine PC.of (fn := Tryd.f27) (c := bodyOf Tryd.f27) Tryd.func27 (by kernel_rfl) (by kernel_rfl) (by kernel_rfl) (by kernel_rfl) ?_
  have hw := fun y => W_dblIter (y := y) (res := res) n l nl ho hn hres
  have c1 := pc_levels (nl := nl) (c := hL n l) rfl
  generalize hL n l = c at *
  refine W.st [(2, c0 c1)] [(64, 1), (97, 2)] (dDblR nl c) (stopIn Tryd.f27 0) [_] (by kernel_rfl) (ao (c1)) ?_
  refine W.rangeFnAt (g := 6) (fi := 61) (fI := Tryd.f61) (id := 2) (pinsI := [1]) (by kernel_rfl) frDbl rfl Tryd.func61 (by kernel_rfl) (by kernel_rfl) (by kernel_rfl) (by kernel_rfl) (by kernel_rfl) (SlotsIn.ofL ⟨rfl, trivial⟩) fun y => ?_
  have hw := hw y
  unfold dDblR at *
  dsimp only
  unfold yv at *
  refine WH.sg [] (rI 2) (⟨[(0, yv y), (1, .at 2 [])], [(1, ⟨.bool false, false⟩), (2, ⟨.vec nl c, false⟩)]⟩ : DS) (loopAt Tryd.f61 0) [] (by kernel_rfl) trivial ?_
  exact hw
end Go.Proofs
namespace Go.Proofs
open Go Go.Pe Go.Pm
/-- a header -/
structure Hd where
  ver : Nat
  prev : List Int
  root : List Int
  time : Nat
  bits : Nat
  nonce : Nat
def Hd.pv (h : Hd) : PV := .st 68 [.int .u32 h.ver, .iarr .u8 32 h.prev, .iarr .u8 32 h.root, .int .u32 h.time, .int .u32 h.bits, .int .u32 h.nonce]
structure Hd.Ok (h : Hd) : Prop where
  ver : h.ver < 4294967296
  time : h.time < 4294967296
  bits : h.bits < 4294967296
  nonce : h.nonce < 4294967296
  prev : h.prev.length = 32
  root : h.root.length = 32
  prevB : ∀ x ∈ h.prev, 0 ≤ x ∧ x ≤ 255
  rootB : ∀ x ∈ h.root, 0 ≤ x ∧ x ≤ 255
def hsh : Sh := .st 68 [.int .u32, .iarr .u8 32, .iarr .u8 32, .int .u32, .int .u32, .int .u32]
theorem u32_nat {n : Int} (h : IntKind.u32.wrap n = n) : ∃ m : Nat, n = m ∧ m < 4294967296 := by
  rw [wrap_bounds] at h
  obtain ⟨h1, h2⟩ := h
  have e1 : IntKind.u32.min = 0 := rfl
  have e2 : IntKind.u32.max = 4294967295 := rfl
  exact ⟨n.toNat, by omega, by omega⟩
theorem u8_bytes {l : List Int} (h : ∀ x ∈ l, IntKind.u8.wrap x = x) : ∀ x ∈ l, 0 ≤ x ∧ x ≤ 255 := fun x hx => by
  have := h x hx
  rw [wrap_bounds] at this
  exact this
theorem hd_of {p : PV} (hc : conf hsh p = true) (hw : WF p) : ∃ h : Hd, p = h.pv ∧ h.Ok := by
  have e := expose_conf hsh p hc
  obtain ⟨a, b, c, d, x, y, rfl⟩ : ∃ a b c d x y, p = .st 68 [.int .u32 a, .iarr .u8 32 b, .iarr .u8 32 c, .int .u32 d, .int .u32 x, .int .u32 y] := ⟨_, _, _, _, _, _, e.symm⟩
  simp only [WF, WFL] at hw
  obtain ⟨_, ha, ⟨hb1, hb2⟩, ⟨hc1, hc2⟩, hd, hx, hy, _⟩ := hw
  obtain ⟨a, rfl, ka⟩ := u32_nat ha
  obtain ⟨d, rfl, kd⟩ := u32_nat hd
  obtain ⟨x, rfl, kx⟩ := u32_nat hx
  obtain ⟨y, rfl, ky⟩ := u32_nat hy
  exact ⟨⟨a, b, c, d, x, y⟩, rfl, ⟨ka, kd, kx, ky, hb1, hc1, u8_bytes hb2, u8_bytes hc2⟩⟩
end Go.Proofs
namespace Go.Proofs
open Go Go.Pe Go.Pm
set_option maxRecDepth 100000
set_option linter.unusedVariables false
abbrev TxM := Bool × Nat × List Int
/-- transactions' bytes -/
structure TxsOk (L : List TxM) (n : Nat) : Prop where
  len : L.length = n
  el : ∀ x ∈ L, BsOk x ∧ (x.1 = true → x.2.1 = 0) ∧ x.2.1 ≤ 1000000
def txsPV (nl : Bool) (n : Nat) (L : List TxM) : PV := .vec nl (.parr 1 n bsh (L.map bsPV))
def blkPV (h : Hd) (nl : Bool) (n : Nat) (L : List TxM) : PV := .st 69 [h.pv, txsPV nl n L]
def bksh : Sh := .st 69 [hsh, .vec 1 (.vec 1 (.int .u8))]
def idsM (L : List TxM) : List (List Int) := L.map fun x => dsha x.2.2
theorem TxsOk.get {L : List TxM} {n i : Nat} (h : TxsOk L n) (hi : i < n) : BsOk (L.getD i default) ∧ ((L.getD i default).1 = true → (L.getD i default).2.1 = 0) ∧ (L.getD i default).2.1 ≤ 1000000 := by
  have hi' : i < L.length := by rw [h.len]; exact hi
  have : L.getD i default = L[i] := by simp [List.getD_eq_getElem?_getD, hi']
  rw [this]
  exact h.el _ (List.getElem_mem hi')
theorem idsM_ok {L : List TxM} {n : Nat} (h : TxsOk L n) : HsOk (idsM L) n := ⟨by unfold idsM; rw [List.length_map, h.len], fun x hx => by
  unfold idsM at hx
  obtain ⟨y, _, rfl⟩ := List.mem_map.1 hx
  exact ⟨sha_length _, sha_bytes _⟩⟩
theorem pc_txId {nl : Bool} {N : Nat} {b : List Int} (hb : BsOk (nl, N, b)) (hN : N ≤ 1000000) : PC Tryd.prog G0 45 [] [.vec nl (.iarr .u8 N b)] [] (.iarr .u8 32 (dsha b)) := by
  refine PC.of (fn := Tryd.f45) (c := bodyOf Tryd.f45) Tryd.func45 (by kernel_rfl) (by kernel_rfl) (by kernel_rfl) (by kernel_rfl) ?_
  have e : cat [(nl, N, b)] = b := by simp [cat]
  have hl : b.length = N := hb.len
  have c1 := pc_twice (nl := false) (l := [(nl, N, b)]) (c := 1) rfl (by intro x hx; simp at hx; subst hx; exact hb) (by rw [e]; omega) (by omega)
  rw [e] at c1
  unfold bsPV at c1
  dsimp only [List.map] at c1
  generalize dsha b = r at *
  refine W.rt [(3, c9 c1)] [] [1 ≤ 1, _] (by kernel_rfl) (ac (by omega) (ao (c1)))
def dsIds (nl : Bool) (n : Nat) (T I : List PV) (j : Nat) : DS := ⟨[(3, .ref 1 [] 32 0 j), (11, .vec nl (.parr 1 n bsh T)), (12, .int .i64 n), (13, .int .i64 j)], [(1, ⟨.parr 32 j hsE I, false⟩)]⟩
theorem W_ids {nl : Bool} {n : Nat} {L : List TxM} (ho : TxsOk L n) (hn : n ≤ 100000) : ∀ (k j : Nat), k + j = n →
    W Tryd.prog G0 Tryd.f26 [] [(1, ⟨hL n (idsM L), false⟩)] (.ref 1 [] 32 0 n) (loopAt Tryd.f26 0) (dsIds nl n (L.map bsPV) (((idsM L).take j).map hv) j)
  | 0, j, hk => by
    have hj : j = n := by omega
    subst hj
    have e : (idsM L).take j = idsM L := List.take_of_length_le (by rw [(idsM_ok ho).len]; omega)
    rw [e]
    unfold hL
    generalize (idsM L).map hv = I at *
    generalize L.map bsPV = T at *
    unfold dsIds
    refine W.rt [(0, aF)] (rI 1) [decide ((j:Int) < (j:Int)) = false] (by kernel_rfl) (ao (dF (by omega)))
  | k + 1, j, hk => by
    have hj : j < n := by omega
    have hlt : j < L.length := by rw [ho.len]; exact hj
    have g := bs_get (l := L) (i := j) hlt
    obtain ⟨hb, hnl, hN⟩ := ho.get hj
    have hs : (idsM L).take (j + 1) = (idsM L).take j ++ [dsha (L.getD j default).2.2] := by
      rw [List.take_add_one]
      congr 1
      unfold idsM
      simp [List.getD_eq_getElem?_getD, hlt]
    have hw := W_ids (nl := nl) ho hn k (j + 1) (by omega)
    rw [hs, List.map_append] at hw
    have hIl : (((idsM L).take j).map hv).length = j := by rw [List.length_map, List.length_take, (idsM_ok ho).len]; omega
    generalize L.getD j default = x at *
    obtain ⟨xnl, xN, xb⟩ := x
    dsimp only at *
    have c1 := pc_txId hb hN
    change _ = PV.vec xnl (.iarr .u8 xN xb) at g
    generalize dsha xb = r at *
    generalize ((idsM L).take j).map hv = I at *
    generalize L.map bsPV = T at *
    have hr : [r].map hv = [PV.iarr .u8 32 r] := rfl
    rw [hr] at hw
    unfold dsIds at *
    refine W.sg 0 [(0, aT), (2, aE g), (6, c9 c1), (8, Ans.ups [(1, none), (192, some (Row.mk (PV.parr 32 (j + 1) (Sh.iarr IntKind.u8 32) (I ++ [B8 32 r])) false))]), (10, aV (I6 (↑(j + 1) : Int)))] [(192, 1)] (⟨[(3, .ref 1 [] 32 0 (j + 1)), (11, .vec nl (.parr 1 n bsh T)), (12, .int .i64 n), (13, .int .i64 ((j + 1 : Nat) : Int))], [(1, ⟨.parr 32 (j + 1) hsE (I ++ [.iarr .u8 32 r]), false⟩)]⟩ : DS) [decide ((j:Int) < (n:Int)) = true, 0 ≤ (j:Int), (j:Int) < (n:Int), _, j < n, _, ([(1, none), (192, some (Row.mk (PV.parr 32 (j + 1) (Sh.iarr IntKind.u8 32) (List.take j I ++ [B8 32 r])) false))] : List (Nat × Option Row)) = [(1, none), (192, some (Row.mk (PV.parr 32 (j + 1) (Sh.iarr IntKind.u8 32) (I ++ [B8 32 r])) false))], 1 ≤ 1, 0 + j = j, (j + 1) * 32 ≤ 140737488355328, j + 1 ≤ 9223372036854775807, I6 (IntKind.wrap .i64 ((j:Int) + 1)) = I6 (↑(j + 1) : Int)] (by kernel_rfl) (ac (dT (by omega)) (ac (by omega) (ac (by omega) (ac (ex g) (ac (by omega) (ac (c1) (ac (by rw [List.take_of_length_le (show List.length I ≤ j by omega)]) (ac (by omega) (ac (by omega) (ac (by omega) (ac (by omega) (ao (cg (w_i64 rfl (by omega) (by omega))))))))))))))) ?_
    exact hw
theorem pc_ids {h : Hd} {nl : Bool} {n : Nat} {L : List TxM} (ho : TxsOk L n) (hn : n ≤ 100000) : PC Tryd.prog G0 26 [] [blkPV h nl n L] [(1, ⟨hL n (idsM L), false⟩)] (.ref 1 [] 32 0 n) := by
  refine PC.of (fn := Tryd.f26) (c := bodyOf Tryd.f26) Tryd.func26 (by kernel_rfl) (by kernel_rfl) (by kernel_rfl) (by kernel_rfl) ?_
  have hw := W_ids (nl := nl) ho hn n 0 (by omega)
  have e : ((idsM L).take 0).map hv = [] := rfl
  rw [e] at hw
  unfold hL at *
  generalize (idsM L).map hv = I at *
  unfold blkPV txsPV Hd.pv
  generalize L.map bsPV = T at *
  unfold dsIds at *
  refine W.sg 0 [] [(144, 1)] (⟨[(3, .ref 1 [] 32 0 0), (11, .vec nl (.parr 1 n bsh T)), (12, .int .i64 n), (13, .int .i64 (0 : Int))], [(1, ⟨.parr 32 0 hsE [], false⟩)]⟩ : DS) [(0 : Int) ≤ (0 : Int), 0 ≤ (n:Int), (n:Int) ≤ 9223372036854775807, (↑(32 : Nat) : Int) * (n:Int) ≤ 140737488355328] (by kernel_rfl) (ac (by omega) (ac (by omega) (ac (by omega) (ao (by omega))))) ?_
  exact hw
end Go.Proofs
namespace Go.Proofs
open Go Go.Pe Go.Pm
set_option maxRecDepth 100000
set_option linter.unusedVariables false
theorem txP_form (b : List Int) : ∃ (s : Nat) (o : Bool) (m : Nat) (M : List PV), txP b = .tup [.st 2 [.int .u64 s, .vec o (.parr 2 m osh M)], .int .i64 (txE b)] := by
  unfold txP txRes outsPV
  by_cases h : txE b = 0
  · rw [if_pos h]
    by_cases g : txOuts b = []
    · rw [if_pos g]; exact ⟨_, _, _, _, rfl⟩
    · rw [if_neg g]; exact ⟨_, _, _, _, rfl⟩
  · rw [if_neg h]; exact ⟨0, true, 0, [], rfl⟩
theorem txE_le (b : List Int) : txE b ≤ 100 := by
  have h1 : (txR4 b).e ≤ 100 := outsR_e (by
    show ((txR2 b).var 8).e ≤ 100
    have he : (txR2 b).e ≤ 100 := Rd.tk_e (Rd.tk_e (Nat.zero_le _))
    have := Rd.ve_e (m := 8) he
    unfold Rd.var
    split
    · exact Nat.zero_le _
    · exact this)
  unfold txE
  repeat' split
  all_goals omega
/-- the first error of transactions -/
def parseE : List TxM → Nat
  | [] => 0
  | x :: l => if txE x.2.2 = 0 then parseE l else txE x.2.2
def soundE (L : List TxM) : Nat := if L.length < 1 ∨ 16 < L.length then 5 else if parseE L = 0 then (if dblB (idsM L) = true then 7 else 0) else parseE L
def soundPV (L : List TxM) : PV := .tup [hv (if soundE L = 0 then rootM (idsM L) else z32), .int .i64 (soundE L)]
theorem rootM_length {l : List (List Int)} {n : Nat} (h : HsOk l n) : (rootM l).length = 32 := by
  unfold rootM
  split
  · rfl
  · rename_i hne
    have hk : ∀ k (l : List (List Int)), (∀ x ∈ l, x.length = 32) → ∀ x ∈ lvl l k, x.length = 32 := by
      intro k
      induction k with
      | zero => intro l hl; exact hl
      | succ k ih =>
        intro l hl x hx
        rw [lvl] at hx
        unfold above at hx
        obtain ⟨i, _, rfl⟩ := List.mem_map.1 hx
        exact sha_length _
    have hpos : 0 < (lvl l (depM l.length)).length := by
      rw [lvl_length]
      have : ∀ k n, 0 < n → 0 < wid n k := by
        intro k
        induction k with
        | zero => intro n h; exact h
        | succ k ih => intro n h; have := ih n h; rw [wid]; omega
      exact this _ _ (List.length_pos_iff.2 hne)
    have : (lvl l (depM l.length)).getD 0 [] = (lvl l (depM l.length))[0] := by simp [List.getD_eq_getElem?_getD, hpos]
    rw [this]
    exact hk _ l (fun x hx => (h.el x hx).1) _ (List.getElem_mem hpos)
def dsSd (h : Hd) (nl : Bool) (n : Nat) (T : List PV) (i : Nat) : DS := ⟨[(1, .at 1 []), (2, .at 2 []), (21, .vec nl (.parr 1 n bsh T)), (22, .int .i64 n), (23, .int .i64 i)], [(1, ⟨.st 69 [h.pv, .vec nl (.parr 1 n bsh T)], false⟩), (2, ⟨.iarr .u8 32 z32, false⟩)]⟩
theorem W_sound {h : Hd} {nl : Bool} {n : Nat} {L : List TxM} (ho : TxsOk L n) (hn : n ≤ 16) (hn0 : 0 < n) : ∀ (k i : Nat), i + k = n → parseE L = parseE (L.drop i) →
    W Tryd.prog G0 Tryd.f18 [] [] (soundPV L) (loopAt Tryd.f18 0) (dsSd h nl n (L.map bsPV) i)
  | 0, i, hk, hp => by
    have hi : i = n := by omega
    subst hi
    have hp0 : parseE L = 0 := by rw [hp, List.drop_of_length_le (by rw [ho.len]; omega)]; rfl
    have hse : soundE L = if dblB (idsM L) = true then 7 else 0 := by unfold soundE; rw [ho.len, if_neg (by omega), if_pos hp0]
    have c1 := pc_ids (h := h) (nl := nl) ho (by omega)
    have c2 := pc_doubled (nl := false) (idsM_ok ho) (by omega) (dblB_iff (idsM L))
    have c3 := pc_root (nl := false) (idsM_ok ho) (by omega)
    have hrl := rootM_length (idsM_ok ho)
    have hT : ((idsM L).map hv).take i = (idsM L).map hv := List.take_of_length_le (by rw [List.length_map, (idsM_ok ho).len]; omega)
    unfold soundPV
    by_cases hd : dblB (idsM L) = true
    · rw [hse, if_pos hd, if_neg (by omega)]
      rw [hd] at c2
      clear hse hp0 hp
      unfold blkPV txsPV hL hv at *
      generalize (idsM L).map (PV.iarr .u8 32) = I at *
      generalize L.map bsPV = T at *
      have hT' := Eq.symm hT
      rw [hT'] at c2 c3
      unfold dsSd Hd.pv at *
      refine W.ret [(0, aF), (2, c9 c1), (5, c9 c2)] [] [decide ((i:Int) < (i:Int)) = false, _, 0 + i ≤ i, _, PV.tup [B8 32 (List.replicate 32 0), I6 7] = PV.tup [B8 32 (List.replicate 32 0), I6 (↑(7 : Nat) : Int)]] (by kernel_rfl) (ac (dF (by omega)) (ac (c1) (ac (by omega) (ac (c2) (ao rfl)))))
    · rw [hse, if_neg hd, if_pos rfl]
      have hd' : dblB (idsM L) = false := by simpa using hd
      rw [hd'] at c2
      clear hse hp0 hp hd hd'
      unfold blkPV txsPV hL hv at *
      generalize rootM (idsM L) = rt at *
      generalize (idsM L).map (PV.iarr .u8 32) = I at *
      generalize L.map bsPV = T at *
      have hT' := Eq.symm hT
      rw [hT'] at c2 c3
      unfold dsSd Hd.pv at *
      refine W.ret [(0, aF), (2, c9 c1), (5, c9 c2), (7, c9 c3)] [] [decide ((i:Int) < (i:Int)) = false, _, 0 + i ≤ i, _, 0 + i ≤ i, _, PV.tup [B8 32 rt, I6 0] = PV.tup [B8 32 rt, I6 (↑(0 : Nat) : Int)]] (by kernel_rfl) (ac (dF (by omega)) (ac (c1) (ac (by omega) (ac (c2) (ac (by omega) (ac (c3) (ao rfl)))))))
  | k + 1, i, hk, hp => by
    have hi : i < n := by omega
    have hlt : i < L.length := by rw [ho.len]; exact hi
    have g := bs_get (l := L) (i := i) hlt
    obtain ⟨hb, hnl, hN⟩ := ho.get hi
    have hdrop : L.drop i = L.getD i default :: L.drop (i + 1) := by rw [List.drop_eq_getElem_cons hlt]; simp [List.getD_eq_getElem?_getD, hlt]
    rw [hdrop] at hp
    have hw := W_sound (h := h) (nl := nl) ho hn hn0 k (i + 1) (by omega)
    generalize L.getD i default = x at *
    obtain ⟨xnl, xN, xb⟩ := x
    dsimp only [parseE] at *
    have c1 := pc_parse hb.len hb.bytes hN hnl
    change _ = PV.vec xnl (.iarr .u8 xN xb) at g
    dsimp only at c1
    obtain ⟨s, o, m, M, hf⟩ := txP_form xb
    rw [hf] at c1
    have hle := txE_le xb
    by_cases h0 : txE xb = 0
    · rw [if_pos h0] at hp
      have hw := hw hp
      rw [h0] at c1
      clear hdrop hf hp h0
      generalize soundPV L = res at *
      generalize L.map bsPV = T at *
      unfold dsSd Hd.pv at *
      refine W.sg 0 [(0, aT), (2, aE g), (5, c0 c1), (8, aV (I6 0)), (14, aV (I6 (↑(i + 1) : Int)))] (rI 2) (⟨[(1, .at 1 []), (2, .at 2 []), (21, .vec nl (.parr 1 n bsh T)), (22, .int .i64 n), (23, .int .i64 ((i + 1 : Nat) : Int))], [(1, ⟨.st 69 [.st 68 [.int .u32 h.ver, .iarr .u8 32 h.prev, .iarr .u8 32 h.root, .int .u32 h.time, .int .u32 h.bits, .int .u32 h.nonce], .vec nl (.parr 1 n bsh T)], false⟩), (2, ⟨.iarr .u8 32 z32, false⟩)]⟩ : DS) [decide ((i:Int) < (n:Int)) = true, 0 ≤ (i:Int), (i:Int) < (n:Int), _, i < n, _, I6 (↑(0 : Nat) : Int) = I6 0, I6 (IntKind.wrap .i64 ((i:Int) + 1)) = I6 (↑(i + 1) : Int)] (by kernel_rfl) (ac (dT (by omega)) (ac (by omega) (ac (by omega) (ac (ex g) (ac (by omega) (ac (c1) (ac (cg (by omega)) (ao (cg (w_i64 rfl (by omega) (by omega))))))))))) ?_
      exact hw
    · rw [if_neg h0] at hp
      have hse : soundE L = txE xb := by unfold soundE; rw [ho.len, if_neg (by omega), hp, if_neg h0]
      have hne : ¬ ((txE xb : Int) = 0) := by omega
      unfold soundPV
      rw [hse, if_neg h0]
      clear hdrop hf hp hw hse
      generalize txE xb = e at *
      generalize L.map bsPV = T at *
      unfold dsSd Hd.pv hv at *
      refine W.rt [(0, aT), (2, aE g), (5, c0 c1), (13, aT)] [] [decide ((i:Int) < (n:Int)) = true, 0 ≤ (i:Int), (i:Int) < (n:Int), _, i < n, _, ((e:Int) != 0) = true] (by kernel_rfl) (ac (dT (by omega)) (ac (by omega) (ac (by omega) (ac (ex g) (ac (by omega) (ac (c1) (ao (bne_iff_ne.2 (by omega)))))))))
theorem pc_sound {h : Hd} {nl : Bool} {n : Nat} {L : List TxM} (ho : TxsOk L n) (hn : n ≤ 100000) : PC Tryd.prog G0 18 [] [blkPV h nl n L] [] (soundPV L) := by
  refine PC.of (fn := Tryd.f18) (c := bodyOf Tryd.f18) Tryd.func18 (by kernel_rfl) (by kernel_rfl) (by kernel_rfl) (by kernel_rfl) ?_
  by_cases hr : n < 1 ∨ 16 < n
  · have hse : soundE L = 5 := by unfold soundE; rw [ho.len, if_pos hr]
    unfold soundPV
    rw [hse, if_neg (by omega)]
    unfold blkPV txsPV Hd.pv hv
    clear hse
    generalize L.map bsPV = T at *
    rcases hr with h1 | h1
    · refine W.ret [(6, aT)] [] [decide ((n:Int) < 1) = true, PV.tup [B8 32 (List.replicate 32 0), I6 5] = PV.tup [B8 32 (List.replicate 32 0), I6 (↑(5 : Nat) : Int)]] (by kernel_rfl) (ac (dT (by omega)) (ao rfl))
    · have h2 : ¬ ((n : Int) < 1) := by omega
      refine W.ret [(6, aF), (11, aT)] [] [decide ((n:Int) < 1) = false, decide ((n:Int) > 16) = true, PV.tup [B8 32 (List.replicate 32 0), I6 5] = PV.tup [B8 32 (List.replicate 32 0), I6 (↑(5 : Nat) : Int)]] (by kernel_rfl) (ac (dF (by omega)) (ac (dT (by omega)) (ao rfl)))
  · have hw := W_sound (h := h) (nl := nl) ho (by omega) (by omega) n 0 (by omega) rfl
    generalize soundPV L = res at *
    unfold blkPV txsPV Hd.pv
    generalize L.map bsPV = T at *
    unfold dsSd Hd.pv at *
    refine W.seg [(6, aF), (11, aF)] [(64, 1), (80, 2)] (⟨[(1, .at 1 []), (2, .at 2 []), (21, .vec nl (.parr 1 n bsh T)), (22, .int .i64 n), (23, .int .i64 (0 : Int))], [(1, ⟨.st 69 [.st 68 [.int .u32 h.ver, .iarr .u8 32 h.prev, .iarr .u8 32 h.root, .int .u32 h.time, .int .u32 h.bits, .int .u32 h.nonce], .vec nl (.parr 1 n bsh T)], false⟩), (2, ⟨.iarr .u8 32 z32, false⟩)]⟩ : DS) (todo' := loopAt Tryd.f18 0) [decide ((n:Int) < 1) = false, decide ((n:Int) > 16) = false, rr (PV.at 1 []), rr (PV.at 2 []), rr (PV.vec nl (PV.parr 1 n (Sh.vec 1 (Sh.int IntKind.u8)) T)), rr (I6 (n:Int)), I6 0 = I6 (↑(0 : Nat) : Int), rr (PV.st 69 [Hd.pv h, PV.vec nl (PV.parr 1 n (Sh.vec 1 (Sh.int IntKind.u8)) T)]), rr (B8 32 (List.replicate 32 0))] (by kernel_rfl) (ac (dF (by omega)) (ac (dF (by omega)) (ac rfl (ac rfl (ac rfl (ac rfl (ac (cg (by omega)) (ac rfl (ao rfl))))))))) ?_
    exact hw
end Go.Proofs
namespace Go.Proofs
open Go Go.Pe Go.Pm
set_option maxRecDepth 100000
set_option linter.unusedVariables false
def checkE (h : Hd) (L : List TxM) : Nat := if soundE L = 0 then (if rootM (idsM L) = h.root then 0 else 15) else soundE L
theorem soundE_le (L : List TxM) : soundE L ≤ 100 := by
  have h : parseE L ≤ 100 := by
    induction L with
    | nil => exact Nat.zero_le _
    | cons x l ih =>
      rw [parseE]
      have := txE_le x.2.2
      split <;> assumption
  unfold soundE
  repeat' split
  all_goals omega
theorem pc_bCheck {h : Hd} {nl : Bool} {n : Nat} {L : List TxM} (hh : h.Ok) (ho : TxsOk L n) (hn : n ≤ 100000) : PC Tryd.prog G0 12 [] [blkPV h nl n L] [] (.int .i64 (checkE h L)) := by
  refine PC.of (fn := Tryd.f12) (c := bodyOf Tryd.f12) Tryd.func12 (by kernel_rfl) (by kernel_rfl) (by kernel_rfl) (by kernel_rfl) ?_
  have c1 := pc_sound (h := h) (nl := nl) ho hn
  have hl := soundE_le L
  have hrl := rootM_length (idsM_ok ho)
  have hroot := hh.root
  unfold soundPV at c1
  unfold checkE
  by_cases h0 : soundE L = 0
  · rw [h0, if_pos rfl] at c1
    rw [if_pos h0]
    unfold blkPV txsPV Hd.pv hv at *
    by_cases hr : rootM (idsM L) = h.root
    · rw [if_pos hr]
      generalize rootM (idsM L) = rt at *
      subst hr
      generalize L.map bsPV = T at *
      refine W.ret [(3, c9 c1), (6, aV (I6 0)), (17, aF)] [] [_, I6 (↑(0 : Nat) : Int) = I6 0, (!decide (Hd.root h = Hd.root h)) = false, I6 0 = I6 (↑(0 : Nat) : Int)] (by kernel_rfl) (ac (c1) (ac (cg (by omega)) (ac (by (simp [*]; done)) (ao (cg (by omega))))))
    · rw [if_neg hr]
      generalize rootM (idsM L) = rt at *
      generalize L.map bsPV = T at *
      generalize h.root = hr0 at *
      refine W.ret [(3, c9 c1), (6, aV (I6 0)), (17, aT)] [] [_, I6 (↑(0 : Nat) : Int) = I6 0, (!decide (rt = hr0)) = true, I6 15 = I6 (↑(15 : Nat) : Int)] (by kernel_rfl) (ac (c1) (ac (cg (by omega)) (ac (by (simp [*]; done)) (ao (cg (by omega))))))
  · rw [if_neg h0] at c1 ⊢
    have hne : ¬ ((soundE L : Int) = 0) := by omega
    unfold blkPV txsPV Hd.pv hv at *
    generalize soundE L = e at *
    generalize L.map bsPV = T at *
    refine W.rt [(3, c9 c1), (11, aF)] [] [_, ((e:Int) == 0) = false] (by kernel_rfl) (ac (c1) (ao (dF (by omega))))
end Go.Proofs
namespace Go.Proofs
open Go Go.Pe Go.Pm
set_option maxRecDepth 100000
set_option linter.unusedVariables false
theorem pc_lawHead {h : Hd} : PC Tryd.prog G0 22 [] [h.pv] [] h.pv := by
  refine PC.of (fn := Tryd.f22) (c := bodyOf Tryd.f22) Tryd.func22 (by kernel_rfl) (by kernel_rfl) (by kernel_rfl) (by kernel_rfl) ?_
  unfold Hd.pv
  refine W.rt [] [] [] (by kernel_rfl) trivial
def stPV (x : TxM) : PV := .str (strOf x.2.2)
def txtsPV (n : Nat) (L : List TxM) : PV := .vec (decide (n = 0)) (.parr 1 n .str (L.map stPV))
def rblkPV (h : Hd) (n : Nat) (L : List TxM) : PV := .st 69 [h.pv, txtsPV n L]
def dsRf (h : Hd) (nl : Bool) (n : Nat) (T M : List PV) (i : Nat) : DS := ⟨[(2, .at 1 []), (3, .at 2 []), (11, .vec nl (.parr 1 n bsh T)), (12, .int .i64 n), (13, .int .i64 i)], [(1, ⟨.st 69 [.st 68 [.int .u32 0, .iarr .u8 32 z32, .iarr .u8 32 z32, .int .u32 0, .int .u32 0, .int .u32 0], .vec true (.parr 1 0 .str [])], false⟩), (2, ⟨.st 69 [h.pv, .ref 3 [] 1 0 i], false⟩), (3, ⟨.parr 1 i .str M, false⟩)]⟩
theorem st_get {L : List TxM} {i : Nat} (h : i < L.length) : (L.map stPV).take (i + 1) = (L.map stPV).take i ++ [stPV (L.getD i default)] := by
  rw [List.take_add_one]
  congr 1
  simp [List.getD_eq_getElem?_getD, h]
theorem W_lawRef {h : Hd} {nl : Bool} {n : Nat} {L : List TxM} (ho : TxsOk L n) (hn : n ≤ 100000) : ∀ (k i : Nat), i + k = n → 0 < i →
    W Tryd.prog G0 Tryd.f15 [] [] (rblkPV h n L) (loopAt Tryd.f15 0) (dsRf h nl n (L.map bsPV) ((L.map stPV).take i) i)
  | 0, i, hk, h0 => by
    have hi : i = n := by omega
    subst hi
    have e : (L.map stPV).take i = L.map stPV := List.take_of_length_le (by rw [List.length_map, ho.len]; omega)
    rw [e]
    have hl : (L.map stPV).length = i := by rw [List.length_map, ho.len]
    have hd : decide (i = 0) = false := decide_eq_false (by omega)
    unfold rblkPV txtsPV
    rw [hd]
    generalize L.map bsPV = T at *
    generalize L.map stPV = M at *
    unfold dsRf Hd.pv
    refine W.ret [(0, aF)] [] [decide ((i:Int) < (i:Int)) = false, 0 + i ≤ i, PV.st 69 [Hd.pv h, PV.vec false (PV.parr 1 i Sh.str (List.take i M))] = PV.st 69 [Hd.pv h, PV.vec false (PV.parr 1 i Sh.str M)]] (by kernel_rfl) (ac (dF (by omega)) (ac (by omega) (ao (by (simp; omega)))))
  | k + 1, i, hk, h0 => by
    have hi : i < n := by omega
    have hlt : i < L.length := by rw [ho.len]; exact hi
    have g := bs_get (l := L) (i := i) hlt
    obtain ⟨hb, hnl, hN⟩ := ho.get hi
    have hw := W_lawRef (h := h) (nl := nl) ho hn k (i + 1) (by omega) (by omega)
    rw [st_get hlt] at hw
    have hl : ((L.map stPV).take i).length = i := by rw [List.length_take, List.length_map, ho.len]; omega
    unfold stPV at hw hl ⊢
    generalize L.getD i default = x at *
    obtain ⟨xnl, xN, xb⟩ := x
    dsimp only at *
    change _ = PV.vec xnl (.iarr .u8 xN xb) at g
    generalize rblkPV h n L = res at *
    generalize (L.map fun x : TxM => PV.str (strOf x.2.2)).take i = M at *
    generalize L.map bsPV = T at *
    unfold dsRf Hd.pv at *
    refine W.sg 0 [(0, aT), (2, aE g), (9, Ans.ups [(3, none), (208, some (Row.mk (PV.parr 1 (i + 1) Sh.str (M ++ [PV.str (strOf xb)])) false))]), (12, aV (I6 (↑(i + 1) : Int)))] [(1, 1), (2, 2), (208, 3)] (⟨[(2, .at 1 []), (3, .at 2 []), (11, .vec nl (.parr 1 n bsh T)), (12, .int .i64 n), (13, .int .i64 ((i + 1 : Nat) : Int))], [(1, ⟨.st 69 [.st 68 [.int .u32 0, .iarr .u8 32 z32, .iarr .u8 32 z32, .int .u32 0, .int .u32 0, .int .u32 0], .vec true (.parr 1 0 .str [])], false⟩), (2, ⟨.st 69 [.st 68 [.int .u32 h.ver, .iarr .u8 32 h.prev, .iarr .u8 32 h.root, .int .u32 h.time, .int .u32 h.bits, .int .u32 h.nonce], .ref 3 [] 1 0 (i + 1)], false⟩), (3, ⟨.parr 1 (i + 1) .str (M ++ [.str (strOf xb)]), false⟩)]⟩ : DS) [decide ((i:Int) < (n:Int)) = true, 0 ≤ (i:Int), (i:Int) < (n:Int), _, i < n, ([(3, none), (208, some (Row.mk (PV.parr 1 (i + 1) Sh.str (List.take i M ++ [PV.str (strOf xb)])) false))] : List (Nat × Option Row)) = [(3, none), (208, some (Row.mk (PV.parr 1 (i + 1) Sh.str (M ++ [PV.str (strOf xb)])) false))], 1 ≤ 1, 0 + i = i, (i + 1) * 16 ≤ 140737488355328, i + 1 ≤ 9223372036854775807, I6 (IntKind.wrap .i64 ((i:Int) + 1)) = I6 (↑(i + 1) : Int)] (by kernel_rfl) (ac (dT (by omega)) (ac (by omega) (ac (by omega) (ac (ex g) (ac (by omega) (ac (by rw [List.take_of_length_le (show List.length M ≤ i by omega)]) (ac (by omega) (ac (by omega) (ac (by omega) (ac (by omega) (ao (cg (w_i64 rfl (by omega) (by omega)))))))))))))) ?_
    exact hw
theorem pc_lawRef {h : Hd} {nl : Bool} {n : Nat} {L : List TxM} (ho : TxsOk L n) (hn : n ≤ 100000) : PC Tryd.prog G0 15 [] [blkPV h nl n L] [] (rblkPV h n L) := by
  refine PC.of (fn := Tryd.f15) (c := bodyOf Tryd.f15) Tryd.func15 (by kernel_rfl) (by kernel_rfl) (by kernel_rfl) (by kernel_rfl) ?_
  have c1 := pc_lawHead (h := h)
  by_cases h0 : n = 0
  · subst h0
    have hL : L = [] := List.eq_nil_of_length_eq_zero ho.len
    subst hL
    unfold rblkPV txtsPV blkPV txsPV Hd.pv at *
    change W _ _ _ _ _ (PV.st 69 [_, PV.vec true (PV.parr 1 0 .str [])]) _ _
    refine W.seg [(4, c9 c1), (10, aV (I6 0))] [(80, 1), (160, 2)] (⟨[(2, .at 1 []), (3, .at 2 []), (11, .vec nl (.parr 1 0 bsh [])), (12, .int .i64 (0 : Int)), (13, .int .i64 0)], [(1, ⟨.st 69 [.st 68 [.int .u32 0, .iarr .u8 32 z32, .iarr .u8 32 z32, .int .u32 0, .int .u32 0, .int .u32 0], .vec true (.parr 1 0 .str [])], false⟩), (2, ⟨.st 69 [.st 68 [.int .u32 h.ver, .iarr .u8 32 h.prev, .iarr .u8 32 h.root, .int .u32 h.time, .int .u32 h.bits, .int .u32 h.nonce], .vec true (.parr 1 0 .str [])], false⟩)]⟩ : DS) (todo' := loopAt Tryd.f15 0) [_, I6 (↑(0 : Nat) : Int) = I6 0, rr (PV.at 1 []), rr (PV.at 2 []), rr (PV.vec nl (PV.parr 1 0 (Sh.vec 1 (Sh.int IntKind.u8)) [])), I6 0 = I6 (↑(0 : Nat) : Int), rr (I6 0), rr (PV.st 69 [PV.st 68 [U3 0, B8 32 (List.replicate 32 0), B8 32 (List.replicate 32 0), U3 0, U3 0, U3 0], PV.vec true (PV.parr 1 0 Sh.str [])]), rr (PV.st 69 [Hd.pv h, PV.vec true (PV.parr 1 0 Sh.str [])])] (by kernel_rfl) (ac (c1) (ac (cg (by omega)) (ac rfl (ac rfl (ac rfl (ac (cg (by omega)) (ac rfl (ac rfl (ao rfl))))))))) ?_
    refine W.rt [] [] [] (by kernel_rfl) trivial
  · have hlt : 0 < L.length := by rw [ho.len]; omega
    have g := bs_get (l := L) (i := 0) hlt
    obtain ⟨hb, hnl, hN⟩ := ho.get (i := 0) (by omega)
    have hw := W_lawRef (h := h) (nl := nl) ho hn (n - 1) 1 (by omega) (by omega)
    have hs := st_get hlt
    rw [List.take_zero, List.nil_append] at hs
    rw [hs] at hw
    unfold stPV at hw
    generalize L.getD 0 default = x at *
    obtain ⟨xnl, xN, xb⟩ := x
    dsimp only at *
    change _ = PV.vec xnl (.iarr .u8 xN xb) at g
    have hn0 : 0 < n := by omega
    clear hs h0
    generalize rblkPV h n L = res at *
    unfold blkPV txsPV at *
    generalize L.map bsPV = T at *
    unfold dsRf Hd.pv at *
    refine W.sg 0 [(4, c9 c1)] [(80, 1), (160, 2)] (⟨[(2, .at 1 []), (3, .at 2 []), (11, .vec nl (.parr 1 n bsh T)), (12, .int .i64 n), (13, .int .i64 0)], [(1, ⟨.st 69 [.st 68 [.int .u32 0, .iarr .u8 32 z32, .iarr .u8 32 z32, .int .u32 0, .int .u32 0, .int .u32 0], .vec true (.parr 1 0 .str [])], false⟩), (2, ⟨.st 69 [.st 68 [.int .u32 h.ver, .iarr .u8 32 h.prev, .iarr .u8 32 h.root, .int .u32 h.time, .int .u32 h.bits, .int .u32 h.nonce], .vec true (.parr 1 0 .str [])], false⟩)]⟩ : DS) [_] (by kernel_rfl) (ao (c1)) ?_
    refine W.seg [(0, aT), (2, aE g), (12, aV (I6 1))] [(1, 1), (2, 2), (208, 3)] (⟨[(2, .at 1 []), (3, .at 2 []), (11, .vec nl (.parr 1 n bsh T)), (12, .int .i64 n), (13, .int .i64 (1 : Int))], [(1, ⟨.st 69 [.st 68 [.int .u32 0, .iarr .u8 32 z32, .iarr .u8 32 z32, .int .u32 0, .int .u32 0, .int .u32 0], .vec true (.parr 1 0 .str [])], false⟩), (2, ⟨.st 69 [.st 68 [.int .u32 h.ver, .iarr .u8 32 h.prev, .iarr .u8 32 h.root, .int .u32 h.time, .int .u32 h.bits, .int .u32 h.nonce], .ref 3 [] 1 0 1], false⟩), (3, ⟨.parr 1 1 .str [.str (strOf xb)], false⟩)]⟩ : DS) (todo' := loopAt Tryd.f15 0) [decide (0 < (n:Int)) = true, (0 : Int) ≤ (0 : Int), 0 < (n:Int), _, 0 < n, 1 ≤ 1, 0 < 1, 16 ≤ 140737488355328, 1 ≤ 9223372036854775807, I6 (IntKind.wrap .i64 ((0 : Int) + (1 : Int))) = I6 1, rr (PV.at 1 []), rr (PV.at 2 []), rr (PV.vec nl (PV.parr 1 n (Sh.vec 1 (Sh.int IntKind.u8)) T)), rr (I6 (n:Int)), I6 1 = I6 (↑(1 : Nat) : Int), rr (PV.st 69 [PV.st 68 [U3 0, B8 32 (List.replicate 32 0), B8 32 (List.replicate 32 0), U3 0, U3 0, U3 0], PV.vec true (PV.parr 1 0 Sh.str [])]), rr (PV.st 69 [Hd.pv h, PV.ref 3 [] 1 0 1]), rr (PV.parr 1 1 Sh.str [PV.str (strOf xb)])] (by kernel_rfl) (ac (dT (by omega)) (ac (by omega) (ac (by omega) (ac (ex g) (ac (by omega) (ac (by omega) (ac (by omega) (ac (by omega) (ac (by omega) (ac (cg (w_i64 rfl (by omega) (by omega))) (ac rfl (ac rfl (ac rfl (ac rfl (ac (cg (by omega)) (ac rfl (ac rfl (ao rfl)))))))))))))))))) ?_
    exact hw
theorem bsl_get {L : List TxM} {i : Nat} (h : i < L.length) : (L.map bsPV).take (i + 1) = (L.map bsPV).take i ++ [bsPV (L.getD i default)] := by
  rw [List.take_add_one]
  congr 1
  simp [List.getD_eq_getElem?_getD, h]
end Go.Proofs
namespace Go.Proofs
open Go Go.Pe Go.Pm
set_option maxRecDepth 100000
set_option linter.unusedVariables false
def dsOw (h : Hd) (nl : Bool) (n : Nat) (T M : List PV) (i : Nat) : DS := ⟨[(2, .at 1 []), (3, .at 2 []), (10, .vec nl (.parr 1 n bsh T)), (11, .int .i64 n), (12, .int .i64 i)], [(1, ⟨.st 69 [.st 68 [.int .u32 0, .iarr .u8 32 z32, .iarr .u8 32 z32, .int .u32 0, .int .u32 0, .int .u32 0], .vec true (.parr 1 0 bsh [])], false⟩), (2, ⟨.st 69 [.st 68 [.int .u32 h.ver, .iarr .u8 32 h.prev, .iarr .u8 32 h.root, .int .u32 h.time, .int .u32 h.bits, .int .u32 h.nonce], .ref 3 [] 1 0 i], false⟩), (3, ⟨.parr 1 i bsh M, false⟩)]⟩
theorem W_own {h : Hd} {nl : Bool} {n : Nat} {L : List TxM} (ho : TxsOk L n) (hn : n ≤ 100000) : ∀ (k i : Nat), i + k = n → 0 < i →
    W Tryd.prog G0 Tryd.f14 [] [] (blkPV h (decide (n = 0)) n L) (loopAt Tryd.f14 0) (dsOw h nl n (L.map bsPV) ((L.map bsPV).take i) i)
  | 0, i, hk, h0 => by
    have hi : i = n := by omega
    subst hi
    have e : (L.map bsPV).take i = L.map bsPV := List.take_of_length_le (by rw [List.length_map, ho.len]; omega)
    rw [e]
    have hl : (L.map bsPV).length = i := by rw [List.length_map, ho.len]
    have hd : decide (i = 0) = false := decide_eq_false (by omega)
    unfold blkPV txsPV
    rw [hd]
    generalize L.map bsPV = T at *
    unfold dsOw Hd.pv
    refine W.ret [(0, aF)] [] [decide ((i:Int) < (i:Int)) = false, 0 + i ≤ i, PV.st 69 [Hd.pv h, PV.vec false (PV.parr 1 i (Sh.vec 1 (Sh.int IntKind.u8)) (List.take i T))] = PV.st 69 [Hd.pv h, PV.vec false (PV.parr 1 i (Sh.vec 1 (Sh.int IntKind.u8)) T)]] (by kernel_rfl) (ac (dF (by omega)) (ac (by omega) (ao (by (simp; omega)))))
  | k + 1, i, hk, h0 => by
    have hi : i < n := by omega
    have hlt : i < L.length := by rw [ho.len]; exact hi
    have g := bs_get (l := L) (i := i) hlt
    obtain ⟨hb, hnl, hN⟩ := ho.get hi
    have hw := W_own (h := h) (nl := nl) ho hn k (i + 1) (by omega) (by omega)
    rw [bsl_get hlt] at hw
    have hl : ((L.map bsPV).take i).length = i := by rw [List.length_take, List.length_map, ho.len]; omega
    generalize L.getD i default = x at *
    obtain ⟨xnl, xN, xb⟩ := x
    have c1 := pc_cloneV (by omega) hb.len hnl
    dsimp only at *
    change _ = PV.vec xnl (.iarr .u8 xN xb) at g
    change W _ _ _ _ _ _ _ (dsOw h nl n (L.map bsPV) ((L.map bsPV).take i ++ [PV.vec xnl (.iarr .u8 xN xb)]) (i + 1)) at hw
    generalize blkPV h (decide (n = 0)) n L = res at *
    generalize (L.map bsPV).take i = M at *
    generalize L.map bsPV = T at *
    unfold dsOw at *
    refine W.sg 0 [(0, aT), (2, aE g), (7, c0 c1), (9, Ans.ups [(3, none), (208, some (Row.mk (PV.parr 1 (i + 1) (Sh.vec 1 (Sh.int IntKind.u8)) (M ++ [PV.vec xnl (B8 xN xb)])) false))]), (12, aV (I6 (↑(i + 1) : Int)))] [(1, 1), (2, 2), (208, 3)] (⟨[(2, .at 1 []), (3, .at 2 []), (10, .vec nl (.parr 1 n bsh T)), (11, .int .i64 n), (12, .int .i64 ((i + 1 : Nat) : Int))], [(1, ⟨.st 69 [.st 68 [.int .u32 0, .iarr .u8 32 z32, .iarr .u8 32 z32, .int .u32 0, .int .u32 0, .int .u32 0], .vec true (.parr 1 0 bsh [])], false⟩), (2, ⟨.st 69 [.st 68 [.int .u32 h.ver, .iarr .u8 32 h.prev, .iarr .u8 32 h.root, .int .u32 h.time, .int .u32 h.bits, .int .u32 h.nonce], .ref 3 [] 1 0 (i + 1)], false⟩), (3, ⟨.parr 1 (i + 1) bsh (M ++ [.vec xnl (.iarr .u8 xN xb)]), false⟩)]⟩ : DS) [decide ((i:Int) < (n:Int)) = true, 0 ≤ (i:Int), (i:Int) < (n:Int), _, i < n, _, ([(3, none), (208, some (Row.mk (PV.parr 1 (i + 1) (Sh.vec 1 (Sh.int IntKind.u8)) (List.take i M ++ [PV.vec xnl (B8 xN xb)])) false))] : List (Nat × Option Row)) = [(3, none), (208, some (Row.mk (PV.parr 1 (i + 1) (Sh.vec 1 (Sh.int IntKind.u8)) (M ++ [PV.vec xnl (B8 xN xb)])) false))], 1 ≤ 1, 0 + i = i, (i + 1) * 24 ≤ 140737488355328, i + 1 ≤ 9223372036854775807, I6 (IntKind.wrap .i64 ((i:Int) + 1)) = I6 (↑(i + 1) : Int)] (by kernel_rfl) (ac (dT (by omega)) (ac (by omega) (ac (by omega) (ac (ex g) (ac (by omega) (ac (c1) (ac (by rw [List.take_of_length_le (show List.length M ≤ i by omega)]) (ac (by omega) (ac (by omega) (ac (by omega) (ac (by omega) (ao (cg (w_i64 rfl (by omega) (by omega))))))))))))))) ?_
    exact hw
theorem pc_own {h : Hd} {nl : Bool} {n : Nat} {L : List TxM} (ho : TxsOk L n) (hn : n ≤ 100000) : PC Tryd.prog G0 14 [] [blkPV h nl n L] [] (blkPV h (decide (n = 0)) n L) := by
  refine PC.of (fn := Tryd.f14) (c := bodyOf Tryd.f14) Tryd.func14 (by kernel_rfl) (by kernel_rfl) (by kernel_rfl) (by kernel_rfl) ?_
  by_cases h0 : n = 0
  · subst h0
    have hL : L = [] := List.eq_nil_of_length_eq_zero ho.len
    subst hL
    unfold blkPV txsPV Hd.pv at *
    change W _ _ _ _ _ (PV.st 69 [_, PV.vec true (PV.parr 1 0 bsh [])]) _ _
    rw [List.map_nil]
    refine W.sg 0 [(9, aV (I6 0))] [(80, 1), (144, 2)] (⟨[(2, .at 1 []), (3, .at 2 []), (10, .vec nl (.parr 1 0 bsh [])), (11, .int .i64 (0 : Int)), (12, .int .i64 0)], [(1, ⟨.st 69 [.st 68 [.int .u32 0, .iarr .u8 32 z32, .iarr .u8 32 z32, .int .u32 0, .int .u32 0, .int .u32 0], .vec true (.parr 1 0 bsh [])], false⟩), (2, ⟨.st 69 [.st 68 [.int .u32 h.ver, .iarr .u8 32 h.prev, .iarr .u8 32 h.root, .int .u32 h.time, .int .u32 h.bits, .int .u32 h.nonce], .vec true (.parr 1 0 bsh [])], false⟩)]⟩ : DS) [I6 (↑(0 : Nat) : Int) = I6 0] (by kernel_rfl) (ao (cg (by omega))) ?_
    refine W.rt [] [] [] (by kernel_rfl) trivial
  · have hlt : 0 < L.length := by rw [ho.len]; omega
    have g := bs_get (l := L) (i := 0) hlt
    obtain ⟨hb, hnl, hN⟩ := ho.get (i := 0) (by omega)
    have hw := W_own (h := h) (nl := nl) ho hn (n - 1) 1 (by omega) (by omega)
    have hs := bsl_get hlt
    rw [List.take_zero, List.nil_append] at hs
    rw [hs] at hw
    generalize L.getD 0 default = x at *
    obtain ⟨xnl, xN, xb⟩ := x
    have c1 := pc_cloneV (by omega) hb.len hnl
    dsimp only at *
    change _ = PV.vec xnl (.iarr .u8 xN xb) at g
    change W _ _ _ _ _ _ _ (dsOw h nl n (L.map bsPV) [PV.vec xnl (.iarr .u8 xN xb)] 1) at hw
    have hn0 : 0 < n := by omega
    clear hs h0
    generalize blkPV h (decide (n = 0)) n L = res at *
    unfold blkPV txsPV at *
    generalize L.map bsPV = T at *
    unfold dsOw Hd.pv at *
    refine W.sg 0 [] [(80, 1), (144, 2)] (⟨[(2, .at 1 []), (3, .at 2 []), (10, .vec nl (.parr 1 n bsh T)), (11, .int .i64 n), (12, .int .i64 0)], [(1, ⟨.st 69 [.st 68 [.int .u32 0, .iarr .u8 32 z32, .iarr .u8 32 z32, .int .u32 0, .int .u32 0, .int .u32 0], .vec true (.parr 1 0 bsh [])], false⟩), (2, ⟨.st 69 [.st 68 [.int .u32 h.ver, .iarr .u8 32 h.prev, .iarr .u8 32 h.root, .int .u32 h.time, .int .u32 h.bits, .int .u32 h.nonce], .vec true (.parr 1 0 bsh [])], false⟩)]⟩ : DS) [] (by kernel_rfl) trivial ?_
    refine W.sg 0 [(0, aT), (2, aE g), (7, c0 c1), (12, aV (I6 1))] [(1, 1), (2, 2), (208, 3)] (⟨[(2, .at 1 []), (3, .at 2 []), (10, .vec nl (.parr 1 n bsh T)), (11, .int .i64 n), (12, .int .i64 (1 : Int))], [(1, ⟨.st 69 [.st 68 [.int .u32 0, .iarr .u8 32 z32, .iarr .u8 32 z32, .int .u32 0, .int .u32 0, .int .u32 0], .vec true (.parr 1 0 bsh [])], false⟩), (2, ⟨.st 69 [.st 68 [.int .u32 h.ver, .iarr .u8 32 h.prev, .iarr .u8 32 h.root, .int .u32 h.time, .int .u32 h.bits, .int .u32 h.nonce], .ref 3 [] 1 0 1], false⟩), (3, ⟨.parr 1 1 bsh [.vec xnl (.iarr .u8 xN xb)], false⟩)]⟩ : DS) [decide (0 < (n:Int)) = true, (0 : Int) ≤ (0 : Int), 0 < (n:Int), _, 0 < n, _, 1 ≤ 1, 0 < 1, 24 ≤ 140737488355328, 1 ≤ 9223372036854775807, I6 (IntKind.wrap .i64 ((0 : Int) + (1 : Int))) = I6 1] (by kernel_rfl) (ac (dT (by omega)) (ac (by omega) (ac (by omega) (ac (ex g) (ac (by omega) (ac (c1) (ac (by omega) (ac (by omega) (ac (by omega) (ac (by omega) (ao (cg (w_i64 rfl (by omega) (by omega)))))))))))))) ?_
    exact hw
/-- a block -/
structure Blk where
  h : Hd
  nl : Bool
  n : Nat
  L : List TxM
instance : Inhabited Blk := ⟨⟨⟨0, z32, z32, 0, 0, 0⟩, true, 0, []⟩⟩
def Blk.pv (b : Blk) : PV := blkPV b.h b.nl b.n b.L
structure BlkOk (b : Blk) : Prop where
  h : b.h.Ok
  t : TxsOk b.L b.n
  n : b.n ≤ 100000
def goodB (b : Blk) : Bool := decide (b.n ≤ 17) && b.L.all fun x => decide (x.2.1 ≤ 300)
def fineB (Bs : List Blk) : Bool := decide (Bs.length ≤ 10) && Bs.all goodB
def blksPV (bn : Bool) (n : Nat) (Bs : List Blk) : PV := .vec bn (.parr 69 n bksh (Bs.map Blk.pv))
def casePV (f : List Int) (bn : Bool) (n : Nat) (Bs : List Blk) : PV := .st 33 [.iarr .u8 32 f, blksPV bn n Bs]
theorem blk_get {Bs : List Blk} {i : Nat} (h : i < Bs.length) : (Bs.map Blk.pv).getD i .undef = (Bs.getD i default).pv := by simp [List.getD_eq_getElem?_getD, h]
def dFo (bn : Bool) (n : Nat) (B : List PV) (i : Nat) : DS := ⟨[(12, .vec bn (.parr 69 n bksh B)), (13, .int .i64 n), (14, .int .i64 i)], []⟩
def dFi (bn : Bool) (n : Nat) (B : List PV) (i : Nat) (tn : Bool) (m : Nat) (T : List PV) (j : Nat) : DS := ⟨[(12, .vec bn (.parr 69 n bksh B)), (13, .int .i64 n), (14, .int .i64 i), (23, .vec tn (.parr 1 m bsh T)), (24, .int .i64 m), (25, .int .i64 j)], []⟩
theorem W_fineIn {bn : Bool} {n : Nat} {B : List PV} {i : Nat} {tn : Bool} {m : Nat} {L : List TxM} {rest : Bool} (hi : i < n) (hn : n ≤ 10) (hL : L.length = m) (hm : m ≤ 17)
    (hw : W Tryd.prog G0 Tryd.f5 [] [] (.bool rest) (loopAt Tryd.f5 0) (dFo bn n B (i + 1))) : ∀ (k j : Nat) (res : Bool), j + k = m → res = (((L.drop j).all fun x => decide (x.2.1 ≤ 300)) && rest) →
    W Tryd.prog G0 Tryd.f5 [] [] (.bool res) (loopAt Tryd.f5 1) (dFi bn n B i tn m (L.map bsPV) j)
  | 0, j, res, hk, hr => by
    have hj : j = m := by omega
    subst hj
    rw [List.drop_of_length_le (by omega), List.all_nil, Bool.true_and] at hr
    subst hr
    generalize L.map bsPV = T at *
    unfold dFo at hw
    unfold dFi
    refine W.sg 0 [(0, aF), (1, aV (I6 (↑(i + 1) : Int)))] [] (⟨[(12, .vec bn (.parr 69 n bksh B)), (13, .int .i64 n), (14, .int .i64 ((i + 1 : Nat) : Int))], []⟩ : DS) [decide ((j:Int) < (j:Int)) = false, I6 (IntKind.wrap .i64 ((i:Int) + 1)) = I6 (↑(i + 1) : Int)] (by kernel_rfl) (ac (dF (by omega)) (ao (cg (w_i64 rfl (by omega) (by omega))))) ?_
    exact hw
  | k + 1, j, res, hk, hr => by
    have hj : j < m := by omega
    have hlt : j < L.length := by omega
    have g := bs_get (l := L) (i := j) hlt
    have hdrop : L.drop j = L.getD j default :: L.drop (j + 1) := by rw [List.drop_eq_getElem_cons hlt]; simp [List.getD_eq_getElem?_getD, hlt]
    rw [hdrop, List.all_cons, Bool.and_assoc] at hr
    have ih := W_fineIn (tn := tn) hi hn hL hm hw k (j + 1)
    generalize L.getD j default = x at *
    obtain ⟨xnl, xN, xb⟩ := x
    dsimp only at *
    change _ = PV.vec xnl (.iarr .u8 xN xb) at g
    by_cases h3 : xN ≤ 300
    · rw [decide_eq_true h3, Bool.true_and] at hr
      have ih := ih res (by omega) hr
      clear hr hdrop hw
      generalize L.map bsPV = T at *
      unfold dFi at *
      refine W.sg 1 [(0, aT), (2, aE g), (6, aF), (7, aV (I6 (↑(j + 1) : Int)))] [] (⟨[(12, .vec bn (.parr 69 n bksh B)), (13, .int .i64 n), (14, .int .i64 i), (23, .vec tn (.parr 1 m bsh T)), (24, .int .i64 m), (25, .int .i64 ((j + 1 : Nat) : Int))], []⟩ : DS) [decide ((j:Int) < (m:Int)) = true, 0 ≤ (j:Int), (j:Int) < (m:Int), _, j < m, decide ((xN:Int) > 300) = false, I6 (IntKind.wrap .i64 ((j:Int) + 1)) = I6 (↑(j + 1) : Int)] (by kernel_rfl) (ac (dT (by omega)) (ac (by omega) (ac (by omega) (ac (ex g) (ac (by omega) (ac (dF (by omega)) (ao (cg (w_i64 rfl (by omega) (by omega)))))))))) ?_
      exact ih
    · rw [decide_eq_false h3, Bool.false_and] at hr
      subst hr
      clear hdrop hw ih
      generalize L.map bsPV = T at *
      unfold dFi
      refine W.rt [(0, aT), (2, aE g), (6, aT)] [] [decide ((j:Int) < (m:Int)) = true, 0 ≤ (j:Int), (j:Int) < (m:Int), _, j < m, decide ((xN:Int) > 300) = true] (by kernel_rfl) (ac (dT (by omega)) (ac (by omega) (ac (by omega) (ac (ex g) (ac (by omega) (ao (dT (by omega))))))))
theorem W_fine {bn : Bool} {n : Nat} {Bs : List Blk} (hB : Bs.length = n) (hn : n ≤ 10) (hL : ∀ b ∈ Bs, b.L.length = b.n) : ∀ (k i : Nat) (res : Bool), i + k = n → res = ((Bs.drop i).all goodB) →
    W Tryd.prog G0 Tryd.f5 [] [] (.bool res) (loopAt Tryd.f5 0) (dFo bn n (Bs.map Blk.pv) i)
  | 0, i, res, hk, hr => by
    have hi : i = n := by omega
    subst hi
    rw [List.drop_of_length_le (by omega), List.all_nil] at hr
    subst hr
    generalize Bs.map Blk.pv = B at *
    unfold dFo
    refine W.rt [(0, aF)] [] [decide ((i:Int) < (i:Int)) = false] (by kernel_rfl) (ao (dF (by omega)))
  | k + 1, i, res, hk, hr => by
    have hi : i < n := by omega
    have hlt : i < Bs.length := by omega
    have g := blk_get hlt
    have hdrop : Bs.drop i = Bs.getD i default :: Bs.drop (i + 1) := by rw [List.drop_eq_getElem_cons hlt]; simp [List.getD_eq_getElem?_getD, hlt]
    have hmem : Bs.getD i default ∈ Bs := by
      have : Bs.getD i default = Bs[i] := by simp [List.getD_eq_getElem?_getD, hlt]
      rw [this]; exact List.getElem_mem hlt
    have hlb := hL _ hmem
    rw [hdrop, List.all_cons] at hr
    have ih := W_fine (bn := bn) hB hn hL k (i + 1) _ (by omega) rfl
    generalize (Bs.drop (i + 1)).all goodB = rest at *
    generalize Bs.getD i default = b at *
    obtain ⟨h, tn, m, L⟩ := b
    unfold Blk.pv goodB at *
    dsimp only at *
    clear hdrop hmem
    generalize Bs.map (fun b : Blk => blkPV b.h b.nl b.n b.L) = B at *
    by_cases h17 : m ≤ 17
    · rw [decide_eq_true h17, Bool.true_and] at hr
      have hin := W_fineIn (tn := tn) hi hn hlb h17 ih m 0 res (by omega) hr
      clear hr ih
      unfold blkPV txsPV Hd.pv at g
      generalize L.map bsPV = T at *
      unfold dFi at hin
      unfold dFo
      refine W.sg 1 [(0, aT), (2, aE g), (8, aF)] [] (⟨[(12, .vec bn (.parr 69 n bksh B)), (13, .int .i64 n), (14, .int .i64 i), (23, .vec tn (.parr 1 m bsh T)), (24, .int .i64 m), (25, .int .i64 (0 : Int))], []⟩ : DS) [decide ((i:Int) < (n:Int)) = true, 0 ≤ (i:Int), (i:Int) < (n:Int), _, i < n, decide ((m:Int) > 17) = false] (by kernel_rfl) (ac (dT (by omega)) (ac (by omega) (ac (by omega) (ac (ex g) (ac (by omega) (ao (dF (by omega)))))))) ?_
      exact hin
    · rw [decide_eq_false h17, Bool.false_and, Bool.false_and] at hr
      subst hr
      clear ih
      unfold blkPV txsPV Hd.pv at g
      generalize L.map bsPV = T at *
      unfold dFo
      refine W.rt [(0, aT), (2, aE g), (8, aT)] [] [decide ((i:Int) < (n:Int)) = true, 0 ≤ (i:Int), (i:Int) < (n:Int), _, i < n, decide ((m:Int) > 17) = true] (by kernel_rfl) (ac (dT (by omega)) (ac (by omega) (ac (by omega) (ac (ex g) (ac (by omega) (ao (dT (by omega))))))))
theorem pc_fine {f : List Int} {bn : Bool} {n : Nat} {Bs : List Blk} (hB : Bs.length = n) (hL : ∀ b ∈ Bs, b.L.length = b.n) : PC Tryd.prog G0 5 [] [casePV f bn n Bs] [] (.bool (fineB Bs)) := by
  refine PC.of (fn := Tryd.f5) (c := bodyOf Tryd.f5) Tryd.func5 (by kernel_rfl) (by kernel_rfl) (by kernel_rfl) (by kernel_rfl) ?_
  unfold fineB casePV blksPV
  by_cases h10 : n ≤ 10
  · rw [hB, decide_eq_true h10, Bool.true_and]
    have hw := W_fine (bn := bn) hB h10 hL n 0 _ (by omega) rfl
    rw [List.drop_zero] at hw
    generalize Bs.all goodB = res at *
    generalize Bs.map Blk.pv = B at *
    unfold dFo at hw
    refine W.sg 0 [(5, aF)] [] (⟨[(12, .vec bn (.parr 69 n bksh B)), (13, .int .i64 n), (14, .int .i64 (0 : Int))], []⟩ : DS) [decide ((n:Int) > 10) = false] (by kernel_rfl) (ao (dF (by omega))) ?_
    exact hw
  · rw [hB, decide_eq_false h10, Bool.false_and]
    generalize Bs.map Blk.pv = B at *
    refine W.rt [(5, aT)] [] [decide ((n:Int) > 10) = true] (by kernel_rfl) (ao (dT (by omega)))
end Go.Proofs
namespace Go.Proofs
open Go Go.Pe Go.Pm
set_option maxRecDepth 100000
set_option linter.unusedVariables false
/-- a header's bytes -/
def hb (h : Hd) : List Int := (((le h.ver 4 ++ (h.prev ++ h.root)) ++ le h.time 4) ++ le h.bits 4) ++ le h.nonce 4
/-- a header's hash -/
def hhash (h : Hd) : List Int := dsha (hb h)
theorem hb_length {h : Hd} (ho : h.Ok) : (hb h).length = 80 := by
  unfold hb
  simp only [List.length_append, le_length, ho.prev, ho.root]
theorem hb_bytes {h : Hd} (ho : h.Ok) : Bytes (hb h) := by
  unfold hb
  exact (((((le_bytes _ _).append (Bytes.append ho.prevB ho.rootB)).append (le_bytes _ _)).append (le_bytes _ _)).append (le_bytes _ _))
theorem hhash_length (h : Hd) : (hhash h).length = 32 := sha_length _
def dsHb (ns : List Int) (n : Nat) (b : List Int) (i : Nat) : DS := ⟨[(3, .at 2 []), (25, .iarr .u32 3 ns), (26, .int .i64 i)], [(2, wrR 3 n), (3, rowB n b)]⟩
set_option maxHeartbeats 4000000 in
theorem pc_hdBytes {h : Hd} (ho : h.Ok) : PC Tryd.prog G0 20 [] [h.pv] [(1, rowB 80 (hb h))] (.ref 1 [] 1 0 80) := by
  refine PC.of (fn := Tryd.f20) (c := bodyOf Tryd.f20) Tryd.func20 (by kernel_rfl) (by kernel_rfl) (by kernel_rfl) (by kernel_rfl) ?_
  have hlen := hb_length ho
  have p1 := ho.ver
  have p2 := ho.time
  have p3 := ho.bits
  have p4 := ho.nonce
  have p5 := ho.prev
  have p6 := ho.root
  have c1 := pc_wrNew
  have c2 := pc_wrNumN (x := h.ver) (w := 4) (by omega) (by omega) (by omega)
  have l1 := le_length h.ver 4
  have c3 := pc_wrPut (nl := false) (l := [(false, 32, h.prev), (false, 32, h.root)]) (c := 2) (n := 4) (m := 68) (b := le h.ver 4) (q := le h.ver 4 ++ (h.prev ++ h.root)) rfl (by omega) (by
    intro x hx
    simp only [List.mem_cons, List.not_mem_nil, or_false] at hx
    rcases hx with rfl | rfl
    · exact ⟨ho.prev, ho.prevB⟩
    · exact ⟨ho.root, ho.rootB⟩) (by omega) (by omega) l1 (by simp [cat]) (by simp only [List.length_append, l1, p5, p6])
  have l2 : (le h.ver 4 ++ (h.prev ++ h.root)).length = 68 := by simp only [List.length_append, l1, p5, p6]
  have c4 := pc_wrNum (x := h.time) (w := 4) (by omega) (by omega) l2 (by omega)
  have l3 : ((le h.ver 4 ++ (h.prev ++ h.root)) ++ le h.time 4).length = 72 := by rw [List.length_append, l2, le_length]
  have c5 := pc_wrNum (x := h.bits) (w := 4) (by omega) (by omega) l3 (by omega)
  have l4 : (((le h.ver 4 ++ (h.prev ++ h.root)) ++ le h.time 4) ++ le h.bits 4).length = 76 := by rw [List.length_append, l3, le_length]
  have c6 := pc_wrNum (x := h.nonce) (w := 4) (by omega) (by omega) l4 (by omega)
  have c7 := pc_wrBytes (n := 80) (l := hb h) (by omega) (by omega) hlen
  unfold hb at c7 hlen ⊢
  unfold bsPV at c3
  dsimp only [List.map] at c3
  generalize le h.ver 4 ++ (h.prev ++ h.root) = b1 at *
  generalize b1 ++ le h.time 4 = b2 at *
  generalize b2 ++ le h.bits 4 = b3 at *
  generalize b3 ++ le h.nonce 4 = b4 at *
  generalize le h.ver 4 = b0 at *
  obtain ⟨ver, prev, root, time, bits, nonce⟩ := h
  unfold Hd.pv
  dsimp only at *
  refine W.sg 0 [(2, c9 c1), (7, aV (U6 (ver:Int))), (8, cC true [(97, 0)] c2), (14, Ans.frz [64]), (15, cL true [(97, 0), (194, 1)] c3)] [(97, 2), (306, 3)] (dsHb [(time : Int), (bits : Int), (nonce : Int)] 68 b1 0) [_, U6 (IntKind.wrap .u64 (ver:Int)) = U6 (ver:Int), _, (0 : Int) ≤ (0 : Int), 0 ≤ (↑(32 : Nat) : Int), (↑(32 : Nat) : Int) ≤ (↑(32 : Nat) : Int), (0 : Int) ≤ (0 : Int), 0 ≤ (↑(32 : Nat) : Int), (↑(32 : Nat) : Int) ≤ (↑(32 : Nat) : Int), 32 ≤ 32, 32 ≤ 32, 2 ≤ 2, rr ([(0, Row.mk (PV.st 1 [PV.ref 1 [] 1 0 4]) false), (1, Row.mk (B8 4 b0) false)] : List (Nat × Row)), ([PV.at 0 [], PV.vec false (PV.parr 1 2 (Sh.vec 1 (Sh.int IntKind.u8)) [PV.vec false (B8 32 (List.take 32 prev)), PV.vec false (B8 32 (List.take 32 root))])] : List PV) = [PV.at 0 [], PV.vec false (PV.parr 1 2 (Sh.vec 1 (Sh.int IntKind.u8)) [PV.vec false (B8 32 prev), PV.vec false (B8 32 root)])], _] (by kernel_rfl) (ac (c1) (ac (cg (w_u64 rfl (by omega) (by omega))) (ac (c2) (ac (by omega) (ac (by omega) (ac (by omega) (ac (by omega) (ac (by omega) (ac (by omega) (ac (by omega) (ac (by omega) (ac (by omega) (ac rfl (ac (by rw [List.take_of_length_le (show List.length prev ≤ 32 by omega), List.take_of_length_le (show List.length root ≤ 32 by omega)]) (ao (c3)))))))))))))))) ?_
  refine W.sg 0 [(5, aV (U6 (time:Int))), (6, cC true [(2, 0), (3, 1)] c4), (7, aV (I6 1))] [(2, 2), (162, 3)] (dsHb [(time : Int), (bits : Int), (nonce : Int)] 72 b2 1) [0 ≤ (↑(0 : Nat) : Int), (↑(0 : Nat) : Int) < (↑(3 : Nat) : Int), U6 (IntKind.wrap .u64 (time:Int)) = U6 (time:Int), _, I6 (IntKind.wrap .i64 ((↑(0 : Nat) : Int) + 1)) = I6 1] (by kernel_rfl) (ac (by omega) (ac (by omega) (ac (cg (w_u64 rfl (by omega) (by omega))) (ac (c4) (ao (cg (w_i64 rfl (by omega) (by omega)))))))) ?_
  refine W.sg 0 [(5, aV (U6 (bits:Int))), (6, cC true [(2, 0), (3, 1)] c5), (7, aV (I6 2))] [(2, 2), (162, 3)] (dsHb [(time : Int), (bits : Int), (nonce : Int)] 76 b3 2) [0 ≤ (↑(1 : Nat) : Int), (↑(1 : Nat) : Int) < (↑(3 : Nat) : Int), U6 (IntKind.wrap .u64 (bits:Int)) = U6 (bits:Int), _, I6 (IntKind.wrap .i64 ((↑(1 : Nat) : Int) + 1)) = I6 2] (by kernel_rfl) (ac (by omega) (ac (by omega) (ac (cg (w_u64 rfl (by omega) (by omega))) (ac (c5) (ao (cg (w_i64 rfl (by omega) (by omega)))))))) ?_
  refine W.sg 0 [(5, aV (U6 (nonce:Int))), (6, cC true [(2, 0), (3, 1)] c6), (7, aV (I6 3))] [(2, 2), (162, 3)] (dsHb [(time : Int), (bits : Int), (nonce : Int)] 80 b4 3) [0 ≤ (↑(2 : Nat) : Int), (↑(2 : Nat) : Int) < (↑(3 : Nat) : Int), U6 (IntKind.wrap .u64 (nonce:Int)) = U6 (nonce:Int), _, I6 (IntKind.wrap .i64 ((↑(2 : Nat) : Int) + 1)) = I6 3] (by kernel_rfl) (ac (by omega) (ac (by omega) (ac (cg (w_u64 rfl (by omega) (by omega))) (ac (c6) (ao (cg (w_i64 rfl (by omega) (by omega)))))))) ?_
  refine W.rt [(2, cC true [(2, 0), (3, 1)] c7)] [(98, 1)] [_] (by kernel_rfl) (ao (c7))
theorem pc_hdHash {h : Hd} (ho : h.Ok) : PC Tryd.prog G0 13 [] [h.pv] [] (.iarr .u8 32 (hhash h)) := by
  refine PC.of (fn := Tryd.f13) (c := bodyOf Tryd.f13) Tryd.func13 (by kernel_rfl) (by kernel_rfl) (by kernel_rfl) (by kernel_rfl) ?_
  have c1 := pc_hdBytes ho
  have hl := hb_length ho
  have e : cat [(false, 80, hb h)] = hb h := by simp [cat]
  have c2 := pc_twice (nl := false) (l := [(false, 80, hb h)]) (c := 1) rfl (by intro x hx; simp at hx; subst hx; exact ⟨hl, hb_bytes ho⟩) (by rw [e]; omega) (by omega)
  rw [e] at c2
  unfold bsPV at c2
  dsimp only [List.map] at c2
  unfold hhash
  generalize dsha (hb h) = res at *
  generalize hb h = b at *
  refine W.rt [(3, c9 c1), (4, Ans.frz [113]), (5, cL true [] c2)] [] [_, 80 ≤ 80, 1 ≤ 1, rr ([] : List (Nat × Row)), ([PV.vec false (PV.parr 1 1 (Sh.vec 1 (Sh.int IntKind.u8)) [PV.vec false (B8 80 (List.take 80 b))])] : List PV) = [PV.vec false (PV.parr 1 1 (Sh.vec 1 (Sh.int IntKind.u8)) [PV.vec false (B8 80 b)])], _] (by kernel_rfl) (ac (c1) (ac (by omega) (ac (by omega) (ac rfl (ac (by rw [List.take_of_length_le (show List.length b ≤ 80 by omega)]) (ao (c2)))))))
end Go.Proofs
namespace Go.Proofs
open Go Go.Pe Go.Pm
set_option maxRecDepth 100000
set_option linter.unusedVariables false
set_option maxHeartbeats 4000000 in
theorem pc_bytes07 {h : Hd} (ho : h.Ok) : PC Tryd.prog G0 38 [] [h.pv] [] (.str (strOf (hb h))) := by
  refine PC.of (fn := Tryd.f38) (c := bodyOf Tryd.f38) Tryd.func38 (by kernel_rfl) (by kernel_rfl) (by kernel_rfl) (by kernel_rfl) ?_
  have p1 := ho.ver
  have p2 := ho.time
  have p3 := ho.bits
  have p4 := ho.nonce
  have p5 := ho.prev
  have p6 := ho.root
  have c1 := pc_num06 (x := h.ver) (w := 4) (by omega) (by omega) (by omega)
  have c2 := pc_num06 (x := h.time) (w := 4) (by omega) (by omega) (by omega)
  have c3 := pc_num06 (x := h.bits) (w := 4) (by omega) (by omega) (by omega)
  have c4 := pc_num06 (x := h.nonce) (w := 4) (by omega) (by omega) (by omega)
  have e : strOf (hb h) = ((((strOf (le h.ver 4) ++ strOf h.prev) ++ strOf h.root) ++ strOf (le h.time 4)) ++ strOf (le h.bits 4)) ++ strOf (le h.nonce 4) := by
    unfold hb
    simp only [strOf_append, List.append_assoc]
  rw [e]
  have l1 := le_length h.ver 4
  have l2 := le_length h.time 4
  have l3 := le_length h.bits 4
  have l4 := le_length h.nonce 4
  have s1 : (strOf (le h.ver 4)).size = 4 := by rw [strOf_size, l1]
  have s2 : (strOf h.prev).size = 32 := by rw [strOf_size, p5]
  have s3 : (strOf h.root).size = 32 := by rw [strOf_size, p6]
  have s4 : (strOf (le h.time 4)).size = 4 := by rw [strOf_size, l2]
  have s5 : (strOf (le h.bits 4)).size = 4 := by rw [strOf_size, l3]
  have s6 : (strOf (le h.nonce 4)).size = 4 := by rw [strOf_size, l4]
  generalize le h.ver 4 = a1 at *
  generalize le h.time 4 = a2 at *
  generalize le h.bits 4 = a3 at *
  generalize le h.nonce 4 = a4 at *
  refine W.rt [(4, aV (U6 (↑(Hd.ver h) : Int))), (5, c9 c1), (8, aV (PV.str (strOf (Hd.prev h)))), (12, aV (PV.str (strOf (Hd.root h)))), (18, aV (U6 (↑(Hd.time h) : Int))), (19, c9 c2), (23, aV (U6 (↑(Hd.bits h) : Int))), (24, c9 c3), (28, aV (U6 (↑(Hd.nonce h) : Int))), (29, c9 c4)] [] [U6 (IntKind.wrap .u64 (↑(Hd.ver h) : Int)) = U6 (↑(Hd.ver h) : Int), _, (0 : Int) ≤ (0 : Int), 0 ≤ (↑(32 : Nat) : Int), (↑(32 : Nat) : Int) ≤ (↑(32 : Nat) : Int), PV.str (strOf (List.take 32 (Hd.prev h))) = PV.str (strOf (Hd.prev h)), 32 ≤ 32, ByteArray.size (strOf a1) + ByteArray.size (strOf (Hd.prev h)) ≤ 9223372036854775807, (0 : Int) ≤ (0 : Int), 0 ≤ (↑(32 : Nat) : Int), (↑(32 : Nat) : Int) ≤ (↑(32 : Nat) : Int), PV.str (strOf (List.take 32 (Hd.root h))) = PV.str (strOf (Hd.root h)), 32 ≤ 32, ByteArray.size (strOf a1 ++ strOf (Hd.prev h)) + ByteArray.size (strOf (Hd.root h)) ≤ 9223372036854775807, U6 (IntKind.wrap .u64 (↑(Hd.time h) : Int)) = U6 (↑(Hd.time h) : Int), _, ByteArray.size (strOf a1 ++ strOf (Hd.prev h) ++ strOf (Hd.root h)) + ByteArray.size (strOf a2) ≤ 9223372036854775807, U6 (IntKind.wrap .u64 (↑(Hd.bits h) : Int)) = U6 (↑(Hd.bits h) : Int), _, ByteArray.size (strOf a1 ++ strOf (Hd.prev h) ++ strOf (Hd.root h) ++ strOf a2) + ByteArray.size (strOf a3) ≤ 9223372036854775807, U6 (IntKind.wrap .u64 (↑(Hd.nonce h) : Int)) = U6 (↑(Hd.nonce h) : Int), _, ByteArray.size (strOf a1 ++ strOf (Hd.prev h) ++ strOf (Hd.root h) ++ strOf a2 ++ strOf a3) + ByteArray.size (strOf a4) ≤ 9223372036854775807] (by kernel_rfl) (ac (cg (w_u64 rfl (by omega) (by omega))) (ac (c1) (ac (by omega) (ac (by omega) (ac (by omega) (ac (by rw [List.take_of_length_le (show List.length (Hd.prev h) ≤ 32 by omega)]) (ac (by omega) (ac (by omega) (ac (by omega) (ac (by omega) (ac (by omega) (ac (by rw [List.take_of_length_le (show List.length (Hd.root h) ≤ 32 by omega)]) (ac (by omega) (ac (by (simp; omega)) (ac (cg (w_u64 rfl (by omega) (by omega))) (ac (c2) (ac (by (simp; omega)) (ac (cg (w_u64 rfl (by omega) (by omega))) (ac (c3) (ac (by (simp; omega)) (ac (cg (w_u64 rfl (by omega) (by omega))) (ac (c4) (ao (by (simp; omega)))))))))))))))))))))))))
theorem pc_hash07 {h : Hd} (ho : h.Ok) : PC Tryd.prog G0 24 [] [h.pv] [] (.iarr .u8 32 (hhash h)) := by
  refine PC.of (fn := Tryd.f24) (c := bodyOf Tryd.f24) Tryd.func24 (by kernel_rfl) (by kernel_rfl) (by kernel_rfl) (by kernel_rfl) ?_
  have c1 := pc_bytes07 ho
  have c2 := pc_rTwice (s := strOf (hb h)) (by rw [strOf_size, hb_length ho]; omega)
  rw [bytesOf_strOf (hb_bytes ho)] at c2
  unfold hhash
  generalize dsha (hb h) = r at *
  generalize strOf (hb h) = s at *
  refine W.rt [(3, c9 c1), (4, c9 c2)] [] [_, _] (by kernel_rfl) (ac (c1) (ao (c2)))
end Go.Proofs
namespace Go.Proofs
open Go Go.Pe Go.Pm
set_option maxRecDepth 100000
set_option linter.unusedVariables false
def dN0 (bn : Bool) (n : Nat) (B HM : List PV) (q : Nat) (K : List PV) (V : List Int) : DS := ⟨[(6, .at 1 []), (23, .vec bn (.parr 69 n bksh B)), (24, .int .i64 n), (25, .int .i64 0)], [(1, ⟨.st 3 [.vec true (.parr 69 0 bksh []), .ref 3 [] 32 0 1, .fn 1000000 4], false⟩), (3, ⟨.parr 32 1 hsE (HM), false⟩), (4, ⟨.tup [.tup [.parr 32 (q) hsE (K), .iarr .i64 (q) (V)]], false⟩)]⟩
def dN1 (bn : Bool) (n : Nat) (B HM : List PV) (q : Nat) (K : List PV) (V : List Int) (BM : List PV) (i : Nat) : DS := ⟨[(6, .at 1 []), (23, .vec bn (.parr 69 n bksh B)), (24, .int .i64 n), (25, .int .i64 i)], [(1, ⟨.st 3 [.ref 2 [] 69 0 (i), .ref 3 [] 32 0 (i + 1), .fn 1000000 4], false⟩), (2, ⟨.parr 69 (i) bksh (BM), false⟩), (3, ⟨.parr 32 (i + 1) hsE (HM), false⟩), (4, ⟨.tup [.tup [.parr 32 (q) hsE (K), .iarr .i64 (q) (V)]], false⟩)]⟩
def dN (bn : Bool) (n : Nat) (B HM : List PV) (q : Nat) (K : List PV) (V : List Int) (BM : List PV) (i : Nat) : DS := match i with
  | 0 => dN0 bn n B HM q K V
  | i + 1 => dN1 bn n B HM q K V BM (i + 1)
theorem W_dn0Has {hout : List (Nat × Row)} {res : PV} {bn : Bool} {n : Nat} {B HM : List PV} {q : Nat} {K : List PV} {V : List Int} {h : Hd} {tn to : Bool} {m : Nat} {T : List PV} {x y : List Int} (hi : 0 < n) (g : B.getD 0 .undef = .st 69 [.st 68 [.int .u32 h.ver, .iarr .u8 32 h.prev, .iarr .u8 32 h.root, .int .u32 h.time, .int .u32 h.bits, .int .u32 h.nonce], .vec tn (.parr 1 m bsh T)]) (gH : HM.getD 0 .undef = .iarr .u8 32 x) (hl : HM.length = 1) (hn : n ≤ 100) (c1 : PC Tryd.prog G0 12 [] [.st 69 [.st 68 [.int .u32 h.ver, .iarr .u8 32 h.prev, .iarr .u8 32 h.root, .int .u32 h.time, .int .u32 h.bits, .int .u32 h.nonce], .vec tn (.parr 1 m bsh T)]] [] (.int .i64 ((0 : Nat) : Int))) (c2 : PC Tryd.prog G0 13 [] [.st 68 [.int .u32 h.ver, .iarr .u8 32 h.prev, .iarr .u8 32 h.root, .int .u32 h.time, .int .u32 h.bits, .int .u32 h.nonce]] [] (.iarr .u8 32 y)) (c3 : PC Tryd.prog G0 14 [] [.st 69 [.st 68 [.int .u32 h.ver, .iarr .u8 32 h.prev, .iarr .u8 32 h.root, .int .u32 h.time, .int .u32 h.bits, .int .u32 h.nonce], .vec tn (.parr 1 m bsh T)]] [] (.st 69 [.st 68 [.int .u32 h.ver, .iarr .u8 32 h.prev, .iarr .u8 32 h.root, .int .u32 h.time, .int .u32 h.bits, .int .u32 h.nonce], .vec to (.parr 1 m bsh T)])) (hx : x.length = 32) (hy : y.length = 32) (hp : h.prev = x) (hm : mhas K (.iarr .u8 32 y) = true) (hq : q ≤ 1000) (hw : W Tryd.prog G0 Tryd.f7 [] hout res (loopAt Tryd.f7 0) (dN1 bn n B (HM ++ [.iarr .u8 32 y]) (q) (K) (V) ([.st 69 [.st 68 [.int .u32 h.ver, .iarr .u8 32 h.prev, .iarr .u8 32 h.root, .int .u32 h.time, .int .u32 h.bits, .int .u32 h.nonce], .vec to (.parr 1 m bsh T)]]) (1))) : W Tryd.prog G0 Tryd.f7 [] hout res (loopAt Tryd.f7 0) (dN0 bn n B HM q K V) := by
  unfold dN1 at hw
  unfold dN0
  refine W.sg 0 [(0, aT), (3, aE g), (8, c9 c1), (9, aV (I6 0)), (21, aE gH), (22, aF), (25, c9 c2), (34, c0 c3), (47, Ans.ups [(3, none), (816, some (Row.mk (PV.parr 32 2 (Sh.iarr IntKind.u8 32) (HM ++ [B8 32 y])) false))]), (59, aT), (64, aV (I6 1))] [(1, 1), (640, 2), (816, 3), (4, 4)] (⟨[(6, .at 1 []), (23, .vec bn (.parr 69 n bksh B)), (24, .int .i64 n), (25, .int .i64 (1 : Int))], [(1, ⟨.st 3 [.ref 2 [] 69 0 (1), .ref 3 [] 32 0 (1 + 1), .fn 1000000 4], false⟩), (2, ⟨.parr 69 (1) bksh ([.st 69 [.st 68 [.int .u32 h.ver, .iarr .u8 32 h.prev, .iarr .u8 32 h.root, .int .u32 h.time, .int .u32 h.bits, .int .u32 h.nonce], .vec to (.parr 1 m bsh T)]]), false⟩), (3, ⟨.parr 32 (1 + 1) hsE (HM ++ [.iarr .u8 32 y]), false⟩), (4, ⟨.tup [.tup [.parr 32 (q) hsE (K), .iarr .i64 (q) (V)]], false⟩)]⟩ : DS) [decide (0 < (n:Int)) = true, (0 : Int) ≤ (0 : Int), 0 < (n:Int), _, 0 < n, _, I6 (↑(0 : Nat) : Int) = I6 0, (0 : Int) ≤ (0 : Int), 0 < (↑(1 : Nat) : Int), _, 0 < 1, (!decide (Hd.prev h = x)) = false, _, _, 1 ≤ 1, 0 < 1, 1 * 104 ≤ 140737488355328, 1 ≤ 9223372036854775807, ([(3, none), (816, some (Row.mk (PV.parr 32 2 (Sh.iarr IntKind.u8 32) (List.take 1 HM ++ [B8 32 y])) false))] : List (Nat × Option Row)) = [(3, none), (816, some (Row.mk (PV.parr 32 2 (Sh.iarr IntKind.u8 32) (HM ++ [B8 32 y])) false))], 1 ≤ 1, rr (1), (1 + 1) * 32 ≤ 140737488355328, 1 + 1 ≤ 9223372036854775807, mhas K (B8 32 y) = true, I6 (IntKind.wrap .i64 ((0 : Int) + (1 : Int))) = I6 1] (by kernel_rfl) (ac (dT (by omega)) (ac (by omega) (ac (by omega) (ac (ex g) (ac (by omega) (ac (c1) (ac (cg (by omega)) (ac (by omega) (ac (by omega) (ac (ex gH) (ac (by omega) (ac (by (simp [*]; done)) (ac (c2) (ac (c3) (ac (by omega) (ac (by omega) (ac (by omega) (ac (by omega) (ac (by rw [List.take_of_length_le (show List.length HM ≤ 1 by omega)]) (ac (by omega) (ac rfl (ac (by omega) (ac (by omega) (ac (by assumption) (ao (cg (w_i64 rfl (by omega) (by omega)))))))))))))))))))))))))))) ?_
  exact hw
theorem W_dn0New {hout : List (Nat × Row)} {res : PV} {bn : Bool} {n : Nat} {B HM : List PV} {q : Nat} {K : List PV} {V : List Int} {h : Hd} {tn to : Bool} {m : Nat} {T : List PV} {x y : List Int} (hi : 0 < n) (g : B.getD 0 .undef = .st 69 [.st 68 [.int .u32 h.ver, .iarr .u8 32 h.prev, .iarr .u8 32 h.root, .int .u32 h.time, .int .u32 h.bits, .int .u32 h.nonce], .vec tn (.parr 1 m bsh T)]) (gH : HM.getD 0 .undef = .iarr .u8 32 x) (hl : HM.length = 1) (hn : n ≤ 100) (c1 : PC Tryd.prog G0 12 [] [.st 69 [.st 68 [.int .u32 h.ver, .iarr .u8 32 h.prev, .iarr .u8 32 h.root, .int .u32 h.time, .int .u32 h.bits, .int .u32 h.nonce], .vec tn (.parr 1 m bsh T)]] [] (.int .i64 ((0 : Nat) : Int))) (c2 : PC Tryd.prog G0 13 [] [.st 68 [.int .u32 h.ver, .iarr .u8 32 h.prev, .iarr .u8 32 h.root, .int .u32 h.time, .int .u32 h.bits, .int .u32 h.nonce]] [] (.iarr .u8 32 y)) (c3 : PC Tryd.prog G0 14 [] [.st 69 [.st 68 [.int .u32 h.ver, .iarr .u8 32 h.prev, .iarr .u8 32 h.root, .int .u32 h.time, .int .u32 h.bits, .int .u32 h.nonce], .vec tn (.parr 1 m bsh T)]] [] (.st 69 [.st 68 [.int .u32 h.ver, .iarr .u8 32 h.prev, .iarr .u8 32 h.root, .int .u32 h.time, .int .u32 h.bits, .int .u32 h.nonce], .vec to (.parr 1 m bsh T)])) (hx : x.length = 32) (hy : y.length = 32) (hp : h.prev = x) (hm : mhas K (.iarr .u8 32 y) = false) (hq : q ≤ 1000) (hw : W Tryd.prog G0 Tryd.f7 [] hout res (loopAt Tryd.f7 0) (dN1 bn n B (HM ++ [.iarr .u8 32 y]) (q + 1) (K ++ [.iarr .u8 32 y]) (V ++ [((0 + 1 : Nat) : Int)]) ([.st 69 [.st 68 [.int .u32 h.ver, .iarr .u8 32 h.prev, .iarr .u8 32 h.root, .int .u32 h.time, .int .u32 h.bits, .int .u32 h.nonce], .vec to (.parr 1 m bsh T)]]) (1))) : W Tryd.prog G0 Tryd.f7 [] hout res (loopAt Tryd.f7 0) (dN0 bn n B HM q K V) := by
  unfold dN1 at hw
  unfold dN0
  refine W.sg 0 [(0, aT), (3, aE g), (8, c9 c1), (9, aV (I6 0)), (21, aE gH), (22, aF), (25, c9 c2), (34, c0 c3), (47, Ans.ups [(3, none), (816, some (Row.mk (PV.parr 32 2 (Sh.iarr IntKind.u8 32) (HM ++ [B8 32 y])) false))]), (59, aF), (70, aV (I6 1)), (72, aV (I6 1))] [(1, 1), (640, 2), (816, 3), (4, 4)] (⟨[(6, .at 1 []), (23, .vec bn (.parr 69 n bksh B)), (24, .int .i64 n), (25, .int .i64 (1 : Int))], [(1, ⟨.st 3 [.ref 2 [] 69 0 (1), .ref 3 [] 32 0 (1 + 1), .fn 1000000 4], false⟩), (2, ⟨.parr 69 (1) bksh ([.st 69 [.st 68 [.int .u32 h.ver, .iarr .u8 32 h.prev, .iarr .u8 32 h.root, .int .u32 h.time, .int .u32 h.bits, .int .u32 h.nonce], .vec to (.parr 1 m bsh T)]]), false⟩), (3, ⟨.parr 32 (1 + 1) hsE (HM ++ [.iarr .u8 32 y]), false⟩), (4, ⟨.tup [.tup [.parr 32 (q + 1) hsE (K ++ [.iarr .u8 32 y]), .iarr .i64 (q + 1) (V ++ [((0 + 1 : Nat) : Int)])]], false⟩)]⟩ : DS) [decide (0 < (n:Int)) = true, (0 : Int) ≤ (0 : Int), 0 < (n:Int), _, 0 < n, _, I6 (↑(0 : Nat) : Int) = I6 0, (0 : Int) ≤ (0 : Int), 0 < (↑(1 : Nat) : Int), _, 0 < 1, (!decide (Hd.prev h = x)) = false, _, _, 1 ≤ 1, 0 < 1, 1 * 104 ≤ 140737488355328, 1 ≤ 9223372036854775807, ([(3, none), (816, some (Row.mk (PV.parr 32 2 (Sh.iarr IntKind.u8 32) (List.take 1 HM ++ [B8 32 y])) false))] : List (Nat × Option Row)) = [(3, none), (816, some (Row.mk (PV.parr 32 2 (Sh.iarr IntKind.u8 32) (HM ++ [B8 32 y])) false))], 1 ≤ 1, rr (1), (1 + 1) * 32 ≤ 140737488355328, 1 + 1 ≤ 9223372036854775807, mhas K (B8 32 y) = false, I6 (IntKind.wrap .i64 ((0 : Int) + (1 : Int))) = I6 1, mhas K (B8 32 y) = false, I6 (IntKind.wrap .i64 ((0 : Int) + (1 : Int))) = I6 1] (by kernel_rfl) (ac (dT (by omega)) (ac (by omega) (ac (by omega) (ac (ex g) (ac (by omega) (ac (c1) (ac (cg (by omega)) (ac (by omega) (ac (by omega) (ac (ex gH) (ac (by omega) (ac (by (simp [*]; done)) (ac (c2) (ac (c3) (ac (by omega) (ac (by omega) (ac (by omega) (ac (by omega) (ac (by rw [List.take_of_length_le (show List.length HM ≤ 1 by omega)]) (ac (by omega) (ac rfl (ac (by omega) (ac (by omega) (ac (by assumption) (ac (cg (w_i64 rfl (by omega) (by omega))) (ac (by assumption) (ao (cg (w_i64 rfl (by omega) (by omega)))))))))))))))))))))))))))))) ?_
  exact hw
theorem W_dn1Has {hout : List (Nat × Row)} {res : PV} {bn : Bool} {n : Nat} {B HM : List PV} {q : Nat} {K : List PV} {V : List Int} {h : Hd} {tn to : Bool} {m : Nat} {T : List PV} {x y : List Int} {BM : List PV} {i : Nat} (hi : i < n) (g : B.getD i .undef = .st 69 [.st 68 [.int .u32 h.ver, .iarr .u8 32 h.prev, .iarr .u8 32 h.root, .int .u32 h.time, .int .u32 h.bits, .int .u32 h.nonce], .vec tn (.parr 1 m bsh T)]) (gH : HM.getD i .undef = .iarr .u8 32 x) (hl : HM.length = i + 1) (hb : BM.length = i) (hn : n ≤ 100) (c1 : PC Tryd.prog G0 12 [] [.st 69 [.st 68 [.int .u32 h.ver, .iarr .u8 32 h.prev, .iarr .u8 32 h.root, .int .u32 h.time, .int .u32 h.bits, .int .u32 h.nonce], .vec tn (.parr 1 m bsh T)]] [] (.int .i64 ((0 : Nat) : Int))) (c2 : PC Tryd.prog G0 13 [] [.st 68 [.int .u32 h.ver, .iarr .u8 32 h.prev, .iarr .u8 32 h.root, .int .u32 h.time, .int .u32 h.bits, .int .u32 h.nonce]] [] (.iarr .u8 32 y)) (c3 : PC Tryd.prog G0 14 [] [.st 69 [.st 68 [.int .u32 h.ver, .iarr .u8 32 h.prev, .iarr .u8 32 h.root, .int .u32 h.time, .int .u32 h.bits, .int .u32 h.nonce], .vec tn (.parr 1 m bsh T)]] [] (.st 69 [.st 68 [.int .u32 h.ver, .iarr .u8 32 h.prev, .iarr .u8 32 h.root, .int .u32 h.time, .int .u32 h.bits, .int .u32 h.nonce], .vec to (.parr 1 m bsh T)])) (hx : x.length = 32) (hy : y.length = 32) (hp : h.prev = x) (hm : mhas K (.iarr .u8 32 y) = true) (hq : q ≤ 1000) (hw : W Tryd.prog G0 Tryd.f7 [] hout res (loopAt Tryd.f7 0) (dN1 bn n B (HM ++ [.iarr .u8 32 y]) (q) (K) (V) (BM ++ [.st 69 [.st 68 [.int .u32 h.ver, .iarr .u8 32 h.prev, .iarr .u8 32 h.root, .int .u32 h.time, .int .u32 h.bits, .int .u32 h.nonce], .vec to (.parr 1 m bsh T)]]) (i + 1))) : W Tryd.prog G0 Tryd.f7 [] hout res (loopAt Tryd.f7 0) (dN1 bn n B HM q K V BM i) := by
  unfold dN1 at hw
  unfold dN1
  refine W.sg 0 [(0, aT), (3, aE g), (8, c9 c1), (9, aV (I6 0)), (20, aV (PV.at 3 [Stp.idx i 32])), (21, aE gH), (22, aF), (25, c9 c2), (34, c0 c3), (36, Ans.ups [(2, none), (640, some (Row.mk (PV.parr 69 (i + 1) (Sh.st 69 [hsh, Sh.vec 1 (Sh.vec 1 (Sh.int IntKind.u8))]) (BM ++ [PV.st 69 [Hd.pv h, PV.vec to (PV.parr 1 m (Sh.vec 1 (Sh.int IntKind.u8)) T)]])) false))]), (47, Ans.ups [(3, none), (816, some (Row.mk (PV.parr 32 (i + 1 + 1) (Sh.iarr IntKind.u8 32) (HM ++ [B8 32 y])) false))]), (59, aT), (64, aV (I6 (↑(i + 1) : Int)))] [(1, 1), (640, 2), (816, 3), (4, 4)] (⟨[(6, .at 1 []), (23, .vec bn (.parr 69 n bksh B)), (24, .int .i64 n), (25, .int .i64 ((i + 1 : Nat) : Int))], [(1, ⟨.st 3 [.ref 2 [] 69 0 (i + 1), .ref 3 [] 32 0 (i + 1 + 1), .fn 1000000 4], false⟩), (2, ⟨.parr 69 (i + 1) bksh (BM ++ [.st 69 [.st 68 [.int .u32 h.ver, .iarr .u8 32 h.prev, .iarr .u8 32 h.root, .int .u32 h.time, .int .u32 h.bits, .int .u32 h.nonce], .vec to (.parr 1 m bsh T)]]), false⟩), (3, ⟨.parr 32 (i + 1 + 1) hsE (HM ++ [.iarr .u8 32 y]), false⟩), (4, ⟨.tup [.tup [.parr 32 (q) hsE (K), .iarr .i64 (q) (V)]], false⟩)]⟩ : DS) [decide ((i:Int) < (n:Int)) = true, 0 ≤ (i:Int), (i:Int) < (n:Int), _, i < n, _, I6 (↑(0 : Nat) : Int) = I6 0, PV.at 3 [Stp.idx (0 + i) 32] = PV.at 3 [Stp.idx i 32], 0 ≤ (i:Int), (i:Int) < (↑(i + 1) : Int), _, i < i + 1, (!decide (Hd.prev h = x)) = false, _, _, ([(2, none), (640, some (Row.mk (PV.parr 69 (i + 1) (Sh.st 69 [hsh, Sh.vec 1 (Sh.vec 1 (Sh.int IntKind.u8))]) (List.take i BM ++ [PV.st 69 [Hd.pv h, PV.vec to (PV.parr 1 m (Sh.vec 1 (Sh.int IntKind.u8)) T)]])) false))] : List (Nat × Option Row)) = [(2, none), (640, some (Row.mk (PV.parr 69 (i + 1) (Sh.st 69 [hsh, Sh.vec 1 (Sh.vec 1 (Sh.int IntKind.u8))]) (BM ++ [PV.st 69 [Hd.pv h, PV.vec to (PV.parr 1 m (Sh.vec 1 (Sh.int IntKind.u8)) T)]])) false))], 1 ≤ 1, 0 + i = i, (i + 1) * 104 ≤ 140737488355328, i + 1 ≤ 9223372036854775807, ([(3, none), (816, some (Row.mk (PV.parr 32 (i + 1 + 1) (Sh.iarr IntKind.u8 32) (List.take (i + 1) HM ++ [B8 32 y])) false))] : List (Nat × Option Row)) = [(3, none), (816, some (Row.mk (PV.parr 32 (i + 1 + 1) (Sh.iarr IntKind.u8 32) (HM ++ [B8 32 y])) false))], 1 ≤ 1, 0 + (i + 1) = i + 1, (i + 1 + 1) * 32 ≤ 140737488355328, i + 1 + 1 ≤ 9223372036854775807, mhas K (B8 32 y) = true, I6 (IntKind.wrap .i64 ((i:Int) + 1)) = I6 (↑(i + 1) : Int)] (by kernel_rfl) (ac (dT (by omega)) (ac (by omega) (ac (by omega) (ac (ex g) (ac (by omega) (ac (c1) (ac (cg (by omega)) (ac (by simp only [Nat.zero_add]) (ac (by omega) (ac (by omega) (ac (ex gH) (ac (by omega) (ac (by (simp [*]; done)) (ac (c2) (ac (c3) (ac (by rw [List.take_of_length_le (show List.length BM ≤ i by omega)]) (ac (by omega) (ac (by omega) (ac (by omega) (ac (by omega) (ac (by rw [List.take_of_length_le (show List.length HM ≤ i + 1 by omega)]) (ac (by omega) (ac (by omega) (ac (by omega) (ac (by omega) (ac (by assumption) (ao (cg (w_i64 rfl (by omega) (by omega)))))))))))))))))))))))))))))) ?_
  exact hw
theorem W_dn1New {hout : List (Nat × Row)} {res : PV} {bn : Bool} {n : Nat} {B HM : List PV} {q : Nat} {K : List PV} {V : List Int} {h : Hd} {tn to : Bool} {m : Nat} {T : List PV} {x y : List Int} {BM : List PV} {i : Nat} (hi : i < n) (g : B.getD i .undef = .st 69 [.st 68 [.int .u32 h.ver, .iarr .u8 32 h.prev, .iarr .u8 32 h.root, .int .u32 h.time, .int .u32 h.bits, .int .u32 h.nonce], .vec tn (.parr 1 m bsh T)]) (gH : HM.getD i .undef = .iarr .u8 32 x) (hl : HM.length = i + 1) (hb : BM.length = i) (hn : n ≤ 100) (c1 : PC Tryd.prog G0 12 [] [.st 69 [.st 68 [.int .u32 h.ver, .iarr .u8 32 h.prev, .iarr .u8 32 h.root, .int .u32 h.time, .int .u32 h.bits, .int .u32 h.nonce], .vec tn (.parr 1 m bsh T)]] [] (.int .i64 ((0 : Nat) : Int))) (c2 : PC Tryd.prog G0 13 [] [.st 68 [.int .u32 h.ver, .iarr .u8 32 h.prev, .iarr .u8 32 h.root, .int .u32 h.time, .int .u32 h.bits, .int .u32 h.nonce]] [] (.iarr .u8 32 y)) (c3 : PC Tryd.prog G0 14 [] [.st 69 [.st 68 [.int .u32 h.ver, .iarr .u8 32 h.prev, .iarr .u8 32 h.root, .int .u32 h.time, .int .u32 h.bits, .int .u32 h.nonce], .vec tn (.parr 1 m bsh T)]] [] (.st 69 [.st 68 [.int .u32 h.ver, .iarr .u8 32 h.prev, .iarr .u8 32 h.root, .int .u32 h.time, .int .u32 h.bits, .int .u32 h.nonce], .vec to (.parr 1 m bsh T)])) (hx : x.length = 32) (hy : y.length = 32) (hp : h.prev = x) (hm : mhas K (.iarr .u8 32 y) = false) (hq : q ≤ 1000) (hw : W Tryd.prog G0 Tryd.f7 [] hout res (loopAt Tryd.f7 0) (dN1 bn n B (HM ++ [.iarr .u8 32 y]) (q + 1) (K ++ [.iarr .u8 32 y]) (V ++ [((i + 1 : Nat) : Int)]) (BM ++ [.st 69 [.st 68 [.int .u32 h.ver, .iarr .u8 32 h.prev, .iarr .u8 32 h.root, .int .u32 h.time, .int .u32 h.bits, .int .u32 h.nonce], .vec to (.parr 1 m bsh T)]]) (i + 1))) : W Tryd.prog G0 Tryd.f7 [] hout res (loopAt Tryd.f7 0) (dN1 bn n B HM q K V BM i) := by
  unfold dN1 at hw
  unfold dN1
  refine W.sg 0 [(0, aT), (3, aE g), (8, c9 c1), (9, aV (I6 0)), (20, aV (PV.at 3 [Stp.idx i 32])), (21, aE gH), (22, aF), (25, c9 c2), (34, c0 c3), (36, Ans.ups [(2, none), (640, some (Row.mk (PV.parr 69 (i + 1) (Sh.st 69 [hsh, Sh.vec 1 (Sh.vec 1 (Sh.int IntKind.u8))]) (BM ++ [PV.st 69 [Hd.pv h, PV.vec to (PV.parr 1 m (Sh.vec 1 (Sh.int IntKind.u8)) T)]])) false))]), (47, Ans.ups [(3, none), (816, some (Row.mk (PV.parr 32 (i + 1 + 1) (Sh.iarr IntKind.u8 32) (HM ++ [B8 32 y])) false))]), (59, aF), (70, aV (I6 (↑(i + 1) : Int))), (72, aV (I6 (↑(i + 1) : Int)))] [(1, 1), (640, 2), (816, 3), (4, 4)] (⟨[(6, .at 1 []), (23, .vec bn (.parr 69 n bksh B)), (24, .int .i64 n), (25, .int .i64 ((i + 1 : Nat) : Int))], [(1, ⟨.st 3 [.ref 2 [] 69 0 (i + 1), .ref 3 [] 32 0 (i + 1 + 1), .fn 1000000 4], false⟩), (2, ⟨.parr 69 (i + 1) bksh (BM ++ [.st 69 [.st 68 [.int .u32 h.ver, .iarr .u8 32 h.prev, .iarr .u8 32 h.root, .int .u32 h.time, .int .u32 h.bits, .int .u32 h.nonce], .vec to (.parr 1 m bsh T)]]), false⟩), (3, ⟨.parr 32 (i + 1 + 1) hsE (HM ++ [.iarr .u8 32 y]), false⟩), (4, ⟨.tup [.tup [.parr 32 (q + 1) hsE (K ++ [.iarr .u8 32 y]), .iarr .i64 (q + 1) (V ++ [((i + 1 : Nat) : Int)])]], false⟩)]⟩ : DS) [decide ((i:Int) < (n:Int)) = true, 0 ≤ (i:Int), (i:Int) < (n:Int), _, i < n, _, I6 (↑(0 : Nat) : Int) = I6 0, PV.at 3 [Stp.idx (0 + i) 32] = PV.at 3 [Stp.idx i 32], 0 ≤ (i:Int), (i:Int) < (↑(i + 1) : Int), _, i < i + 1, (!decide (Hd.prev h = x)) = false, _, _, ([(2, none), (640, some (Row.mk (PV.parr 69 (i + 1) (Sh.st 69 [hsh, Sh.vec 1 (Sh.vec 1 (Sh.int IntKind.u8))]) (List.take i BM ++ [PV.st 69 [Hd.pv h, PV.vec to (PV.parr 1 m (Sh.vec 1 (Sh.int IntKind.u8)) T)]])) false))] : List (Nat × Option Row)) = [(2, none), (640, some (Row.mk (PV.parr 69 (i + 1) (Sh.st 69 [hsh, Sh.vec 1 (Sh.vec 1 (Sh.int IntKind.u8))]) (BM ++ [PV.st 69 [Hd.pv h, PV.vec to (PV.parr 1 m (Sh.vec 1 (Sh.int IntKind.u8)) T)]])) false))], 1 ≤ 1, 0 + i = i, (i + 1) * 104 ≤ 140737488355328, i + 1 ≤ 9223372036854775807, ([(3, none), (816, some (Row.mk (PV.parr 32 (i + 1 + 1) (Sh.iarr IntKind.u8 32) (List.take (i + 1) HM ++ [B8 32 y])) false))] : List (Nat × Option Row)) = [(3, none), (816, some (Row.mk (PV.parr 32 (i + 1 + 1) (Sh.iarr IntKind.u8 32) (HM ++ [B8 32 y])) false))], 1 ≤ 1, 0 + (i + 1) = i + 1, (i + 1 + 1) * 32 ≤ 140737488355328, i + 1 + 1 ≤ 9223372036854775807, mhas K (B8 32 y) = false, I6 (IntKind.wrap .i64 ((i:Int) + 1)) = I6 (↑(i + 1) : Int), mhas K (B8 32 y) = false, I6 (IntKind.wrap .i64 ((i:Int) + 1)) = I6 (↑(i + 1) : Int)] (by kernel_rfl) (ac (dT (by omega)) (ac (by omega) (ac (by omega) (ac (ex g) (ac (by omega) (ac (c1) (ac (cg (by omega)) (ac (by simp only [Nat.zero_add]) (ac (by omega) (ac (by omega) (ac (ex gH) (ac (by omega) (ac (by (simp [*]; done)) (ac (c2) (ac (c3) (ac (by rw [List.take_of_length_le (show List.length BM ≤ i by omega)]) (ac (by omega) (ac (by omega) (ac (by omega) (ac (by omega) (ac (by rw [List.take_of_length_le (show List.length HM ≤ i + 1 by omega)]) (ac (by omega) (ac (by omega) (ac (by omega) (ac (by omega) (ac (by assumption) (ac (cg (w_i64 rfl (by omega) (by omega))) (ac (by assumption) (ao (cg (w_i64 rfl (by omega) (by omega)))))))))))))))))))))))))))))))) ?_
  exact hw
theorem W_dn0Bad {bn : Bool} {n : Nat} {B HM : List PV} {q : Nat} {K : List PV} {V : List Int} {h : Hd} {tn to : Bool} {m : Nat} {T : List PV} {x y : List Int} (hi : 0 < n) (g : B.getD 0 .undef = .st 69 [.st 68 [.int .u32 h.ver, .iarr .u8 32 h.prev, .iarr .u8 32 h.root, .int .u32 h.time, .int .u32 h.bits, .int .u32 h.nonce], .vec tn (.parr 1 m bsh T)]) (gH : HM.getD 0 .undef = .iarr .u8 32 x) (hn : n ≤ 100) {e : Nat} (he : e ≠ 0) (c1 : PC Tryd.prog G0 12 [] [.st 69 [.st 68 [.int .u32 h.ver, .iarr .u8 32 h.prev, .iarr .u8 32 h.root, .int .u32 h.time, .int .u32 h.bits, .int .u32 h.nonce], .vec tn (.parr 1 m bsh T)]] [] (.int .i64 e)) : W Tryd.prog G0 Tryd.f7 [] [] (.tup [.nilp, .int .i64 e]) (loopAt Tryd.f7 0) (dN0 bn n B HM q K V) := by
  have hne : ¬ ((e : Int) = 0) := by omega
  unfold dN0
  refine W.rt [(0, aT), (3, aE g), (8, c9 c1), (11, aT)] [] [decide (0 < (n:Int)) = true, (0 : Int) ≤ (0 : Int), 0 < (n:Int), _, 0 < n, _, ((e:Int) != 0) = true] (by kernel_rfl) (ac (dT (by omega)) (ac (by omega) (ac (by omega) (ac (ex g) (ac (by omega) (ac (c1) (ao (bne_iff_ne.2 (by omega)))))))))
theorem W_dn0Off {bn : Bool} {n : Nat} {B HM : List PV} {q : Nat} {K : List PV} {V : List Int} {h : Hd} {tn to : Bool} {m : Nat} {T : List PV} {x y : List Int} (hi : 0 < n) (g : B.getD 0 .undef = .st 69 [.st 68 [.int .u32 h.ver, .iarr .u8 32 h.prev, .iarr .u8 32 h.root, .int .u32 h.time, .int .u32 h.bits, .int .u32 h.nonce], .vec tn (.parr 1 m bsh T)]) (gH : HM.getD 0 .undef = .iarr .u8 32 x) (hn : n ≤ 100) (c1 : PC Tryd.prog G0 12 [] [.st 69 [.st 68 [.int .u32 h.ver, .iarr .u8 32 h.prev, .iarr .u8 32 h.root, .int .u32 h.time, .int .u32 h.bits, .int .u32 h.nonce], .vec tn (.parr 1 m bsh T)]] [] (.int .i64 ((0 : Nat) : Int))) (hx : x.length = 32) (hp : ¬ h.prev = x) : W Tryd.prog G0 Tryd.f7 [] [] (.tup [.nilp, .int .i64 ((9 : Nat) : Int)]) (loopAt Tryd.f7 0) (dN0 bn n B HM q K V) := by
  unfold dN0
  refine W.rt [(0, aT), (3, aE g), (8, c9 c1), (9, aV (I6 0)), (21, aE gH), (22, aT)] [] [decide (0 < (n:Int)) = true, (0 : Int) ≤ (0 : Int), 0 < (n:Int), _, 0 < n, _, I6 (↑(0 : Nat) : Int) = I6 0, (0 : Int) ≤ (0 : Int), 0 < (↑(1 : Nat) : Int), _, 0 < 1, (!decide (Hd.prev h = x)) = true] (by kernel_rfl) (ac (dT (by omega)) (ac (by omega) (ac (by omega) (ac (ex g) (ac (by omega) (ac (c1) (ac (cg (by omega)) (ac (by omega) (ac (by omega) (ac (ex gH) (ac (by omega) (ao (by (simp [*]; done))))))))))))))
theorem W_dn1Bad {bn : Bool} {n : Nat} {B HM : List PV} {q : Nat} {K : List PV} {V : List Int} {h : Hd} {tn to : Bool} {m : Nat} {T : List PV} {x y : List Int} {BM : List PV} {i : Nat} (hi : i < n) (g : B.getD i .undef = .st 69 [.st 68 [.int .u32 h.ver, .iarr .u8 32 h.prev, .iarr .u8 32 h.root, .int .u32 h.time, .int .u32 h.bits, .int .u32 h.nonce], .vec tn (.parr 1 m bsh T)]) (gH : HM.getD i .undef = .iarr .u8 32 x) (hn : n ≤ 100) {e : Nat} (he : e ≠ 0) (c1 : PC Tryd.prog G0 12 [] [.st 69 [.st 68 [.int .u32 h.ver, .iarr .u8 32 h.prev, .iarr .u8 32 h.root, .int .u32 h.time, .int .u32 h.bits, .int .u32 h.nonce], .vec tn (.parr 1 m bsh T)]] [] (.int .i64 e)) : W Tryd.prog G0 Tryd.f7 [] [] (.tup [.nilp, .int .i64 e]) (loopAt Tryd.f7 0) (dN1 bn n B HM q K V BM i) := by
  have hne : ¬ ((e : Int) = 0) := by omega
  unfold dN1
  refine W.rt [(0, aT), (3, aE g), (8, c9 c1), (11, aT)] [] [decide ((i:Int) < (n:Int)) = true, 0 ≤ (i:Int), (i:Int) < (n:Int), _, i < n, _, ((e:Int) != 0) = true] (by kernel_rfl) (ac (dT (by omega)) (ac (by omega) (ac (by omega) (ac (ex g) (ac (by omega) (ac (c1) (ao (bne_iff_ne.2 (by omega)))))))))
theorem W_dn1Off {bn : Bool} {n : Nat} {B HM : List PV} {q : Nat} {K : List PV} {V : List Int} {h : Hd} {tn to : Bool} {m : Nat} {T : List PV} {x y : List Int} {BM : List PV} {i : Nat} (hi : i < n) (g : B.getD i .undef = .st 69 [.st 68 [.int .u32 h.ver, .iarr .u8 32 h.prev, .iarr .u8 32 h.root, .int .u32 h.time, .int .u32 h.bits, .int .u32 h.nonce], .vec tn (.parr 1 m bsh T)]) (gH : HM.getD i .undef = .iarr .u8 32 x) (hn : n ≤ 100) (c1 : PC Tryd.prog G0 12 [] [.st 69 [.st 68 [.int .u32 h.ver, .iarr .u8 32 h.prev, .iarr .u8 32 h.root, .int .u32 h.time, .int .u32 h.bits, .int .u32 h.nonce], .vec tn (.parr 1 m bsh T)]] [] (.int .i64 ((0 : Nat) : Int))) (hx : x.length = 32) (hp : ¬ h.prev = x) : W Tryd.prog G0 Tryd.f7 [] [] (.tup [.nilp, .int .i64 ((9 : Nat) : Int)]) (loopAt Tryd.f7 0) (dN1 bn n B HM q K V BM i) := by
  unfold dN1
  refine W.rt [(0, aT), (3, aE g), (8, c9 c1), (9, aV (I6 0)), (20, aV (PV.at 3 [Stp.idx i 32])), (21, aE gH), (22, aT)] [] [decide ((i:Int) < (n:Int)) = true, 0 ≤ (i:Int), (i:Int) < (n:Int), _, i < n, _, I6 (↑(0 : Nat) : Int) = I6 0, PV.at 3 [Stp.idx (0 + i) 32] = PV.at 3 [Stp.idx i 32], 0 ≤ (i:Int), (i:Int) < (↑(i + 1) : Int), _, i < i + 1, (!decide (Hd.prev h = x)) = true] (by kernel_rfl) (ac (dT (by omega)) (ac (by omega) (ac (by omega) (ac (ex g) (ac (by omega) (ac (c1) (ac (cg (by omega)) (ac (by simp only [Nat.zero_add]) (ac (by omega) (ac (by omega) (ac (ex gH) (ac (by omega) (ao (by (simp [*]; done)))))))))))))))
end Go.Proofs
namespace Go.Proofs
open Go Go.Pe Go.Pm
set_option maxRecDepth 100000
set_option linter.unusedVariables false
def rD0 (HM : List PV) (q : Nat) (K : List PV) (V : List Int) : List (Nat × Row) := [(1, ⟨.st 3 [.vec true (.parr 69 0 bksh []), .ref 3 [] 32 0 1, .fn 1000000 4], false⟩), (3, ⟨.parr 32 1 hsE HM, false⟩), (4, ⟨.tup [.tup [.parr 32 (q) hsE (K), .iarr .i64 (q) (V)]], false⟩)]
def rD1 (n : Nat) (BM HM : List PV) (q : Nat) (K : List PV) (V : List Int) : List (Nat × Row) := [(1, ⟨.st 3 [.ref 2 [] 69 0 n, .ref 3 [] 32 0 (n + 1), .fn 1000000 4], false⟩), (2, ⟨.parr 69 n bksh BM, false⟩), (3, ⟨.parr 32 (n + 1) hsE HM, false⟩), (4, ⟨.tup [.tup [.parr 32 (q) hsE (K), .iarr .i64 (q) (V)]], false⟩)]
def rD (n : Nat) (BM HM : List PV) (q : Nat) (K : List PV) (V : List Int) : List (Nat × Row) := match n with
  | 0 => rD0 HM q K V
  | n + 1 => rD1 (n + 1) BM HM q K V
theorem W_dnEnd0 {bn : Bool} {B HM : List PV} {q : Nat} {K : List PV} {V : List Int} : W Tryd.prog G0 Tryd.f7 [] (rD0 HM q K V) (.tup [.at 1 [], .int .i64 ((0 : Nat) : Int)]) (loopAt Tryd.f7 0) (dN0 bn 0 B HM q K V) := by
  unfold dN0 rD0
  refine W.rt [] [(1, 1), (3, 3), (4, 4)] [] (by kernel_rfl) trivial
theorem W_dnEnd1 {bn : Bool} {n : Nat} {B HM : List PV} {q : Nat} {K : List PV} {V : List Int} {BM : List PV} : W Tryd.prog G0 Tryd.f7 [] (rD1 n BM HM q K V) (.tup [.at 1 [], .int .i64 ((0 : Nat) : Int)]) (loopAt Tryd.f7 0) (dN1 bn n B HM q K V BM n) := by
  unfold dN1 rD1
  refine W.rt [(0, aF)] (rI 4) [decide ((n:Int) < (n:Int)) = false] (by kernel_rfl) (ao (dF (by omega)))
def ownB (b : Blk) : PV := blkPV b.h (decide (b.n = 0)) b.n b.L
def depHs (f : List Int) (Bs : List Blk) : List (List Int) := f :: Bs.map fun b => hhash b.h
def depE : List Int → List Blk → Nat
  | _, [] => 0
  | x, b :: l => if checkE b.h b.L = 0 then (if b.h.prev = x then depE (hhash b.h) l else 9) else checkE b.h b.L
def mapS (KV : List (List Int) × List Int) (i : Nat) (y : List Int) : List (List Int) × List Int := if mhas (KV.1.map hv) (hv y) = true then KV else (KV.1 ++ [y], KV.2 ++ [((i + 1 : Nat) : Int)])
def mapF : Nat → List (List Int) × List Int → List Blk → List (List Int) × List Int
  | _, KV, [] => KV
  | i, KV, b :: l => mapF (i + 1) (mapS KV i (hhash b.h)) l
theorem depHs_length (f : List Int) (Bs : List Blk) : (depHs f Bs).length = Bs.length + 1 := by simp [depHs]
theorem depHs_next {f : List Int} {Bs : List Blk} {i : Nat} (h : i < Bs.length) : (depHs f Bs).getD (i + 1) [] = hhash (Bs.getD i default).h := by
  simp [depHs, List.getD_eq_getElem?_getD, h]
theorem depHs_take {f : List Int} {Bs : List Blk} {i : Nat} (h : i < Bs.length) : ((depHs f Bs).map hv).take (i + 1 + 1) = ((depHs f Bs).map hv).take (i + 1) ++ [hv (hhash (Bs.getD i default).h)] := by
  rw [List.take_add_one]
  congr 1
  simp [depHs, List.getD_eq_getElem?_getD, h]
theorem depHs_get {f : List Int} {Bs : List Blk} {i : Nat} (h : i < (depHs f Bs).length) : (((depHs f Bs).map hv).take (i + 1)).getD i .undef = hv ((depHs f Bs).getD i []) := by
  simp [List.getD_eq_getElem?_getD, h, List.getElem?_take]
theorem depHs_len {f : List Int} {Bs : List Blk} {i : Nat} (hf : f.length = 32) : ((depHs f Bs).getD i []).length = 32 ∨ (depHs f Bs).length ≤ i := by
  by_cases h : i < (depHs f Bs).length
  · left
    cases i with
    | zero => simpa [depHs] using hf
    | succ i =>
      rw [depHs_next (by rw [depHs_length] at h; omega)]
      exact hhash_length _
  · right; omega
theorem own_take {Bs : List Blk} {i : Nat} (h : i < Bs.length) : (Bs.map ownB).take (i + 1) = (Bs.map ownB).take i ++ [ownB (Bs.getD i default)] := by
  rw [List.take_add_one]
  congr 1
  simp [List.getD_eq_getElem?_getD, h]
theorem W_dep {bn : Bool} {n : Nat} {Bs : List Blk} {f : List Int} (hB : Bs.length = n) (hn : n ≤ 100) (hok : ∀ b ∈ Bs, BlkOk b) (hf : f.length = 32) {hout : List (Nat × Row)} {res : PV} : ∀ (k i : Nat) (KV : List (List Int) × List Int), i + k = n → KV.1.length = KV.2.length → KV.1.length ≤ i + 1 →
    (depE ((depHs f Bs).getD i []) (Bs.drop i) = 0 → hout = rD n (Bs.map ownB) ((depHs f Bs).map hv) (mapF i KV (Bs.drop i)).1.length ((mapF i KV (Bs.drop i)).1.map hv) (mapF i KV (Bs.drop i)).2 ∧ res = .tup [.at 1 [], .int .i64 ((0 : Nat) : Int)]) →
    (∀ e, depE ((depHs f Bs).getD i []) (Bs.drop i) = e → e ≠ 0 → hout = [] ∧ res = .tup [.nilp, .int .i64 e]) →
    W Tryd.prog G0 Tryd.f7 [] hout res (loopAt Tryd.f7 0) (dN bn n (Bs.map Blk.pv) (((depHs f Bs).map hv).take (i + 1)) KV.1.length (KV.1.map hv) KV.2 ((Bs.map ownB).take i) i)
  | 0, i, KV, hk, hl, hq, h1, h2 => by
    have hi : i = n := by omega
    subst hi
    rw [List.drop_of_length_le (by omega)] at h1
    obtain ⟨rfl, rfl⟩ := h1 rfl
    rw [List.take_of_length_le (l := (depHs f Bs).map hv) (by rw [List.length_map, depHs_length]; omega), List.take_of_length_le (l := Bs.map ownB) (by rw [List.length_map]; omega)]
    rcases i with _ | i
    · exact W_dnEnd0
    · exact W_dnEnd1
  | k + 1, i, KV, hk, hl, hq, h1, h2 => by
    have hi : i < n := by omega
    have hlt : i < Bs.length := by omega
    have g := blk_get hlt
    have gH := depHs_get (f := f) (Bs := Bs) (i := i) (by rw [depHs_length]; omega)
    have hx : ((depHs f Bs).getD i []).length = 32 := by
      rcases depHs_len (f := f) (Bs := Bs) (i := i) hf with h | h
      · exact h
      · rw [depHs_length] at h; omega
    have hmem : Bs.getD i default ∈ Bs := by
      have : Bs.getD i default = Bs[i] := by simp [List.getD_eq_getElem?_getD, hlt]
      rw [this]; exact List.getElem_mem hlt
    have ob := hok _ hmem
    have hdrop : Bs.drop i = Bs.getD i default :: Bs.drop (i + 1) := by rw [List.drop_eq_getElem_cons hlt]; simp [List.getD_eq_getElem?_getD, hlt]
    have ih := fun KV => W_dep (bn := bn) hB hn hok hf (hout := hout) (res := res) k (i + 1) KV (by omega)
    rw [depHs_take hlt, own_take hlt, depHs_next hlt] at ih
    rw [hdrop] at h1 h2
    have c1 := pc_bCheck (nl := (Bs.getD i default).nl) ob.h ob.t ob.n
    have c2 := pc_hdHash ob.h
    have c3 := pc_own (h := (Bs.getD i default).h) (nl := (Bs.getD i default).nl) ob.t ob.n
    have hy := hhash_length (Bs.getD i default).h
    have hLH : (((depHs f Bs).map hv).take (i + 1)).length = i + 1 := by rw [List.length_take, List.length_map, depHs_length]; omega
    have hLB : ((Bs.map ownB).take i).length = i := by rw [List.length_take, List.length_map]; omega
    clear hdrop hmem
    generalize Bs.getD i default = b at *
    generalize (depHs f Bs).getD i [] = x at *
    obtain ⟨h, tn, m, L⟩ := b
    dsimp only at *
    unfold depE at h1 h2
    dsimp only at h1 h2
    by_cases hc : checkE h L = 0
    · rw [if_pos hc] at h1 h2
      rw [hc] at c1
      by_cases hp : h.prev = x
      · rw [if_pos hp] at h1 h2
        unfold mapF at h1
        dsimp only at h1
        have hS : mapS KV i (hhash h) = if mhas (KV.1.map hv) (hv (hhash h)) = true then KV else (KV.1 ++ [hhash h], KV.2 ++ [((i + 1 : Nat) : Int)]) := rfl
        have ih := ih (mapS KV i (hhash h))
        by_cases hm : mhas (KV.1.map hv) (hv (hhash h)) = true
        · rw [if_pos hm] at hS
          rw [hS] at h1 ih
          have ih := ih hl (by omega) h1 h2
          rcases i with _ | i
          · have hw := ih
            rw [List.take_zero, List.nil_append] at hw
            exact W_dn0Has hi g gH hLH hn c1 c2 c3 hx hy hp hm (by omega) hw
          · exact W_dn1Has hi g gH hLH hLB hn c1 c2 c3 hx hy hp hm (by omega) ih
        · have hm' : mhas (KV.1.map hv) (hv (hhash h)) = false := by simpa using hm
          rw [if_neg hm] at hS
          rw [hS] at h1 ih
          have ih := ih (by simp [hl]) (by simp; omega) h1 h2
          dsimp only at ih
          rw [List.length_append, List.map_append] at ih
          rcases i with _ | i
          · have hw := ih
            rw [List.take_zero, List.nil_append] at hw
            exact W_dn0New hi g gH hLH hn c1 c2 c3 hx hy hp hm' (by omega) hw
          · exact W_dn1New hi g gH hLH hLB hn c1 c2 c3 hx hy hp hm' (by omega) ih
      · rw [if_neg hp] at h1 h2
        obtain ⟨rfl, rfl⟩ := h2 9 rfl (by omega)
        rcases i with _ | i
        · exact W_dn0Off (to := true) (y := x) hi g gH hn c1 hx hp
        · exact W_dn1Off (to := true) (y := x) hi g gH hn c1 hx hp
    · rw [if_neg hc] at h1 h2
      obtain ⟨rfl, rfl⟩ := h2 _ rfl hc
      rcases i with _ | i
      · exact W_dn0Bad (to := true) (y := x) hi g gH hn hc c1
      · exact W_dn1Bad (to := true) (y := x) hi g gH hn hc c1
def depKV (f : List Int) (Bs : List Blk) : List (List Int) × List Int := mapF 0 ([f], [0]) Bs
def depRows (n : Nat) (f : List Int) (Bs : List Blk) : List (Nat × Row) := rD n (Bs.map ownB) ((depHs f Bs).map hv) (depKV f Bs).1.length ((depKV f Bs).1.map hv) (depKV f Bs).2
theorem pc_depNew {bn : Bool} {n : Nat} {Bs : List Blk} {f : List Int} (hB : Bs.length = n) (hn : n ≤ 100) (hok : ∀ b ∈ Bs, BlkOk b) (hf : f.length = 32) {hout : List (Nat × Row)} {res : PV} (h1 : depE f Bs = 0 → hout = depRows n f Bs ∧ res = .tup [.at 1 [], .int .i64 ((0 : Nat) : Int)]) (h2 : ∀ e, depE f Bs = e → e ≠ 0 → hout = [] ∧ res = .tup [.nilp, .int .i64 e]) :
    PC Tryd.prog G0 7 [] [.iarr .u8 32 f, blksPV bn n Bs] hout res := by
  refine PC.of (fn := Tryd.f7) (c := bodyOf Tryd.f7) Tryd.func7 (by kernel_rfl) (by kernel_rfl) (by kernel_rfl) (by kernel_rfl) ?_
  have hw := W_dep (bn := bn) hB hn hok hf (hout := hout) (res := res) n 0 ([f], [0]) (by omega) rfl (by simp) (by rw [List.drop_zero]; exact h1) (by rw [List.drop_zero]; exact h2)
  clear h1 h2
  change W _ _ _ _ _ _ _ (dN0 bn n (Bs.map Blk.pv) [.iarr .u8 32 f] 1 [.iarr .u8 32 f] [0]) at hw
  unfold blksPV
  generalize Bs.map Blk.pv = B at *
  unfold dN0 at hw
  refine W.sg 0 [(5, aF)] [(272, 1), (176, 3), (192, 4)] (⟨[(6, .at 1 []), (23, .vec bn (.parr 69 n bksh B)), (24, .int .i64 n), (25, .int .i64 0)], [(1, ⟨.st 3 [.vec true (.parr 69 0 bksh []), .ref 3 [] 32 0 1, .fn 1000000 4], false⟩), (3, ⟨.parr 32 1 hsE [.iarr .u8 32 f], false⟩), (4, ⟨.tup [.tup [.parr 32 1 hsE [.iarr .u8 32 f], .iarr .i64 1 [0]]], false⟩)]⟩ : DS) [decide ((n:Int) > 512) = false, rr (false)] (by kernel_rfl) (ac (dF (by omega)) (ao rfl)) ?_
  exact hw
theorem pc_len0 {HM : List PV} {q : Nat} {K : List PV} {V : List Int} : PC Tryd.prog G0 9 (rD0 HM q K V) [.at 1 []] (rD0 HM q K V) (.int .i64 ((0 : Nat) : Int)) := by
  unfold rD0
  refine PC.of (fn := Tryd.f9) (c := bodyOf Tryd.f9) Tryd.func9 (by kernel_rfl) (by kernel_rfl) (by kernel_rfl) (by kernel_rfl) ?_
  refine W.rt [(5, aV (I6 0))] [(1, 1), (3, 3), (4, 4)] [I6 (↑(0 : Nat) : Int) = I6 0] (by kernel_rfl) (ao (cg (by omega)))
theorem pc_len1 {n : Nat} {BM HM : List PV} {q : Nat} {K : List PV} {V : List Int} : PC Tryd.prog G0 9 (rD1 n BM HM q K V) [.at 1 []] (rD1 n BM HM q K V) (.int .i64 n) := by
  unfold rD1
  refine PC.of (fn := Tryd.f9) (c := bodyOf Tryd.f9) Tryd.func9 (by kernel_rfl) (by kernel_rfl) (by kernel_rfl) (by kernel_rfl) ?_
  refine W.rt [] (rI 4) [] (by kernel_rfl) trivial
theorem pc_cloneH {n : Nat} {HM : List PV} (hn : n ≤ 1000) (h0 : 0 < n) (hl : HM.length = n) : PC Tryd.prog G0 17 [] [.vec false (.parr 32 n hsE HM)] [(1, ⟨.parr 32 n hsE HM, false⟩)] (.ref 1 [] 32 0 n) := by
  refine PC.of (fn := Tryd.f17) (c := bodyOf Tryd.f17) Tryd.func17 (by kernel_rfl) (by kernel_rfl) (by kernel_rfl) (by kernel_rfl) ?_
  refine W.rt [(5, Ans.vu (PV.ref 144 [] 32 0 n) [(112, none), (144, some (Row.mk (PV.parr 32 n (Sh.iarr IntKind.u8 32) HM) false))])] [(144, 1)] [([(112, none), (144, some (Row.mk (PV.parr 32 (0 + n) (Sh.iarr IntKind.u8 32) HM) false))] : List (Nat × Option Row)) = [(112, none), (144, some (Row.mk (PV.parr 32 n (Sh.iarr IntKind.u8 32) HM) false))], PV.ref 144 [] 32 0 (0 + n) = PV.ref 144 [] 32 0 n, rr (0), (0 + n) * 32 ≤ 140737488355328, 0 + n ≤ 9223372036854775807] (by kernel_rfl) (ac (by simp only [Nat.zero_add]) (ac (by simp only [Nat.zero_add]) (ac rfl (ac (by omega) (ao (by omega))))))
theorem pc_hashes0 {HM : List PV} {q : Nat} {K : List PV} {V : List Int} (hl : HM.length = 1) : PC Tryd.prog G0 10 (rD0 HM q K V) [.at 1 []] (rD0 HM q K V ++ [(5, ⟨.parr 32 1 hsE HM, false⟩)]) (.ref 5 [] 32 0 1) := by
  unfold rD0
  refine PC.of (fn := Tryd.f10) (c := bodyOf Tryd.f10) Tryd.func10 (by kernel_rfl) (by kernel_rfl) (by kernel_rfl) (by kernel_rfl) ?_
  have c1 := pc_cloneH (n := 1) (HM := HM) (by omega) (by omega) hl
  have ht : HM.take 1 = HM := List.take_of_length_le (by omega)
  refine W.rt [(5, cL true [] c1)] [(1, 1), (3, 3), (4, 4), (145, 5)] [1 ≤ 1, rr ([] : List (Nat × Row)), ([PV.vec false (PV.parr 32 1 (Sh.iarr IntKind.u8 32) (List.take 1 HM))] : List PV) = [PV.vec false (PV.parr 32 1 (Sh.iarr IntKind.u8 32) HM)], _] (by kernel_rfl) (ac (by omega) (ac rfl (ac (by rw [List.take_of_length_le (show List.length HM ≤ 1 by omega)]) (ao (c1)))))
theorem pc_hashes1 {n : Nat} {BM HM : List PV} {q : Nat} {K : List PV} {V : List Int} (hl : HM.length = n + 1) (hn : n ≤ 100) : PC Tryd.prog G0 10 (rD1 n BM HM q K V) [.at 1 []] (rD1 n BM HM q K V ++ [(5, ⟨.parr 32 (n + 1) hsE HM, false⟩)]) (.ref 5 [] 32 0 (n + 1)) := by
  unfold rD1
  refine PC.of (fn := Tryd.f10) (c := bodyOf Tryd.f10) Tryd.func10 (by kernel_rfl) (by kernel_rfl) (by kernel_rfl) (by kernel_rfl) ?_
  have c1 := pc_cloneH (n := n + 1) (HM := HM) (by omega) (by omega) hl
  have ht : HM.take (n + 1) = HM := List.take_of_length_le (by omega)
  refine W.rt [(5, cL true [] c1)] [(1, 1), (2, 2), (3, 3), (4, 4), (145, 5)] [0 + (n + 1) ≤ n + 1, rr ([] : List (Nat × Row)), ([PV.vec false (PV.parr 32 (n + 1) (Sh.iarr IntKind.u8 32) (List.take (n + 1) HM))] : List PV) = [PV.vec false (PV.parr 32 (n + 1) (Sh.iarr IntKind.u8 32) HM)], _] (by kernel_rfl) (ac (by omega) (ac rfl (ac (by rw [List.take_of_length_le (show List.length HM ≤ n + 1 by omega)]) (ao (c1)))))
def f7 : List Int := 7 :: List.replicate 31 0
theorem pc_depAwake : PC Tryd.prog G0 6 [] [] [] (.bool true) := by
  refine PC.of (fn := Tryd.f6) (c := bodyOf Tryd.f6) Tryd.func6 (by kernel_rfl) (by kernel_rfl) (by kernel_rfl) (by kernel_rfl) ?_
  have c1 := pc_depNew (bn := true) (n := 0) (Bs := []) (f := f7) rfl (by omega) (fun b hb => by cases hb) rfl (hout := depRows 0 f7 []) (res := .tup [.at 1 [], .int .i64 ((0 : Nat) : Int)]) (fun _ => ⟨rfl, rfl⟩) (fun e he hne => absurd he.symm hne)
  have c2 := pc_len0 (HM := [hv f7]) (q := 1) (K := [hv f7]) (V := [0])
  have c3 := pc_hashes0 (HM := [hv f7]) (q := 1) (K := [hv f7]) (V := [0]) rfl
  change PC _ _ _ _ [.iarr .u8 32 f7, .vec true (.parr 69 0 bksh [])] (rD0 [hv f7] 1 [hv f7] [0]) _ at c1
  unfold rD0 hv f7 at *
  refine W.rt [(2, c9 c1), (5, aV (I6 0)), (16, cC true [(97, 1), (99, 3), (100, 4)] c2), (21, cC true [(97, 1), (99, 3), (100, 4)] c3), (22, aV (I6 1)), (27, cC true [(97, 1), (99, 3), (100, 4)] c3)] [] [_, I6 (↑(0 : Nat) : Int) = I6 0, _, _, I6 (↑(1 : Nat) : Int) = I6 1, _, (0 : Int) ≤ (0 : Int), 0 < (↑(1 : Nat) : Int), 0 < 1] (by kernel_rfl) (ac (c1) (ac (cg (by omega)) (ac (c2) (ac (c3) (ac (cg (by omega)) (ac (c3) (ac (by omega) (ac (by omega) (ao (by omega))))))))))
end Go.Proofs
namespace Go.Proofs
open Go Go.Pe Go.Pm
set_option maxRecDepth 100000
set_option linter.unusedVariables false
theorem pc_rPair {a b : List Int} (ha : a.length = 32 ∧ Bytes a) (hb : b.length = 32 ∧ Bytes b) : PC Tryd.prog G0 70 [] [.iarr .u8 32 a, .iarr .u8 32 b] [] (.iarr .u8 32 (dsha (a ++ b))) := by
  refine PC.of (fn := Tryd.f70) (c := bodyOf Tryd.f70) Tryd.func70 (by kernel_rfl) (by kernel_rfl) (by kernel_rfl) (by kernel_rfl) ?_
  have hs1 : (strOf a).size = 32 := by rw [strOf_size, ha.1]
  have hs2 : (strOf b).size = 32 := by rw [strOf_size, hb.1]
  have c1 := pc_rTwice (s := strOf a ++ strOf b) (by rw [strOf_append, strOf_size, List.length_append]; omega)
  have e : bytesOf (strOf a ++ strOf b) = a ++ b := by
    rw [strOf_append, bytesOf_strOf]
    intro x hx
    rcases List.mem_append.1 hx with h | h
    · exact ha.2 x h
    · exact hb.2 x h
  rw [e] at c1
  have l1 := ha.1
  have l2 := hb.1
  have t1 : a.take 32 = a := List.take_of_length_le (by omega)
  have t2 : b.take 32 = b := List.take_of_length_le (by omega)
  generalize dsha (a ++ b) = r at *
  refine W.rt [(4, aV (PV.str (strOf a))), (6, aV (PV.str (strOf b))), (8, c9 c1)] [] [(0 : Int) ≤ (0 : Int), 0 ≤ (↑(32 : Nat) : Int), (↑(32 : Nat) : Int) ≤ (↑(32 : Nat) : Int), PV.str (strOf (List.take 32 a)) = PV.str (strOf a), 32 ≤ 32, (0 : Int) ≤ (0 : Int), 0 ≤ (↑(32 : Nat) : Int), (↑(32 : Nat) : Int) ≤ (↑(32 : Nat) : Int), PV.str (strOf (List.take 32 b)) = PV.str (strOf b), 32 ≤ 32, ByteArray.size (strOf a) + ByteArray.size (strOf b) ≤ 9223372036854775807, _] (by kernel_rfl) (ac (by omega) (ac (by omega) (ac (by omega) (ac (by rw [List.take_of_length_le (show List.length a ≤ 32 by omega)]) (ac (by omega) (ac (by omega) (ac (by omega) (ac (by omega) (ac (by rw [List.take_of_length_le (show List.length b ≤ 32 by omega)]) (ac (by omega) (ac (by omega) (ao (c1)))))))))))))
def dsWd (w k i : Nat) : DS := ⟨[(0, .int .i64 w), (1, .int .i64 k), (5, .int .i64 i)], []⟩
theorem W_rWide {n K : Nat} (hn : n ≤ 100000) (hK : K ≤ 20) : ∀ (k i : Nat), i + k = K →
    W Tryd.prog G0 Tryd.f69 [] [] (.int .i64 (wid n K)) (loopAt Tryd.f69 0) (dsWd (wid n i) K i)
  | 0, i, hk => by
    have hi : i = K := by omega
    subst hi
    generalize wid n i = w at *
    unfold dsWd
    refine W.rt [(2, aF)] [] [decide ((i:Int) < (i:Int)) = false] (by kernel_rfl) (ao (dF (by omega)))
  | k + 1, i, hk => by
    have hw := W_rWide hn hK k (i + 1) (by omega)
    have hb : wid n i ≤ 100000 := by
      have : ∀ k, wid n k ≤ n + 1 := by
        intro k
        induction k with
        | zero => rw [wid]; omega
        | succ k ih => rw [wid]; omega
      rcases i with _ | i
      · rw [wid]; omega
      · have := this i
        rw [wid]; omega
    rw [wid] at hw
    have hq : ((wid n i : Int) + 1).tdiv 2 = (((wid n i + 1) / 2 : Nat) : Int) := by rw [Int.tdiv_eq_ediv_of_nonneg (by omega)]; omega
    have hq1 : (((wid n i + 1 : Nat)) : Int).tdiv 2 = (((wid n i + 1) / 2 : Nat) : Int) := by rw [Int.tdiv_eq_ediv_of_nonneg (by omega)]; omega
    have hb2 : (wid n i + 1) / 2 ≤ 100000 := by omega
    generalize (wid n i + 1) / 2 = w2 at *
    generalize wid n i = w at *
    generalize wid n K = res at *
    unfold dsWd at *
    refine W.sg 0 [(2, aT), (4, aV (I6 (↑(w + 1) : Int))), (5, aV (I6 (w2:Int))), (8, aV (I6 (↑(i + 1) : Int)))] [] (⟨[(0, .int .i64 w2), (1, .int .i64 K), (5, .int .i64 ((i + 1 : Nat) : Int))], []⟩ : DS) [decide ((i:Int) < (K:Int)) = true, I6 (IntKind.wrap .i64 ((w:Int) + 1)) = I6 (↑(w + 1) : Int), I6 (IntKind.wrap .i64 (Int.tdiv (↑(w + 1) : Int) (2 : Int))) = I6 (w2:Int), (2 : Int) ≠ (0 : Int), I6 (IntKind.wrap .i64 ((i:Int) + 1)) = I6 (↑(i + 1) : Int)] (by kernel_rfl) (ac (dT (by omega)) (ac (cg (w_i64 rfl (by omega) (by omega))) (ac (cg (w_i64 hq1 (by omega) (by omega))) (ac (by omega) (ao (cg (w_i64 rfl (by omega) (by omega)))))))) ?_
    exact hw
theorem pc_rWide {n k : Nat} (hn : n ≤ 100000) (hk : k ≤ 20) : PC Tryd.prog G0 69 [] [.int .i64 n, .int .i64 k] [] (.int .i64 (wid n k)) := by
  refine PC.of (fn := Tryd.f69) (c := bodyOf Tryd.f69) Tryd.func69 (by kernel_rfl) (by kernel_rfl) (by kernel_rfl) (by kernel_rfl) ?_
  have hw := W_rWide hn hk k 0 (by omega)
  rw [wid] at hw
  generalize wid n k = res at *
  unfold dsWd at *
  refine W.sg 0 [] [] (⟨[(0, .int .i64 n), (1, .int .i64 k), (5, .int .i64 (0 : Int))], []⟩ : DS) [] (by kernel_rfl) trivial ?_
  exact hw
def dsDe (n d k : Nat) : DS := ⟨[(0, .int .i64 n), (3, .int .i64 d), (4, .int .i64 k)], []⟩
theorem W_rDepth {n : Nat} (hn : n ≤ 100000) : ∀ (j d : Nat), d + j = depM n →
    W Tryd.prog G0 Tryd.f54 [] [] (.int .i64 (depM n)) (loopAt Tryd.f54 0) (dsDe n d (2 ^ d))
  | 0, d, hk => by
    have hd : d = depM n := by omega
    have hle := (depM_le n d).1 (by omega)
    rw [← hd]
    generalize 2 ^ d = k at *
    unfold dsDe
    refine W.rt [(2, aF)] [] [decide ((k:Int) < (n:Int)) = false] (by kernel_rfl) (ao (dF (by omega)))
  | j + 1, d, hk => by
    have hlt : ¬ n ≤ 2 ^ d := fun h => by have := (depM_le n d).2 h; omega
    have hw := W_rDepth hn j (d + 1) (by omega)
    have hb : d + 1 ≤ 1000000 := by
      have : d < 2 ^ d := Nat.lt_two_pow_self
      omega
    have hp : 2 ^ (d + 1) = 2 ^ d * 2 := Nat.pow_succ 2 d
    generalize depM n = res at *
    generalize 2 ^ (d + 1) = k2 at *
    generalize 2 ^ d = k at *
    unfold dsDe at *
    refine W.seg [(2, aT), (4, aV (I6 (↑(d + 1) : Int))), (7, aV (I6 (↑(2 * k) : Int)))] [] (⟨[(0, .int .i64 n), (3, .int .i64 ((d + 1 : Nat) : Int)), (4, .int .i64 k2)], []⟩ : DS) (todo' := loopAt Tryd.f54 0) [decide ((k:Int) < (n:Int)) = true, I6 (IntKind.wrap .i64 ((d:Int) + 1)) = I6 (↑(d + 1) : Int), I6 (IntKind.wrap .i64 ((k:Int) * (2 : Int))) = I6 (↑(2 * k) : Int), rr (I6 (n:Int)), rr (I6 (↑(d + 1) : Int)), I6 (↑(2 * k) : Int) = I6 (k2:Int)] (by kernel_rfl) (ac (dT (by omega)) (ac (cg (w_i64 rfl (by omega) (by omega))) (ac (cg (w_i64 (by omega) (by omega) (by omega))) (ac rfl (ac rfl (ao (cg (by omega)))))))) ?_
    exact hw
theorem pc_rDepth {n : Nat} (hn : n ≤ 100000) : PC Tryd.prog G0 54 [] [.int .i64 n] [] (.int .i64 (depM n)) := by
  refine PC.of (fn := Tryd.f54) (c := bodyOf Tryd.f54) Tryd.func54 (by kernel_rfl) (by kernel_rfl) (by kernel_rfl) (by kernel_rfl) ?_
  have hw := W_rDepth hn (depM n) 0 (by omega)
  generalize depM n = res at *
  unfold dsDe at *
  refine W.sg 0 [] [] (⟨[(0, .int .i64 n), (3, .int .i64 (0 : Int)), (4, .int .i64 (1 : Int))], []⟩ : DS) [] (by kernel_rfl) trivial ?_
  exact hw
theorem HsOk.lvl {l : List (List Int)} {n : Nat} (h : HsOk l n) : ∀ k, HsOk (lvl l k) (wid n k)
  | 0 => h
  | k + 1 => by rw [Pm.lvl, wid]; exact (HsOk.lvl h k).above
theorem pc_rNode {nl : Bool} {l : List (List Int)} {n : Nat} (ho : HsOk l n) (hn : n ≤ 100000) : ∀ (k at' : Nat), k ≤ 20 → at' < wid n k → PC Tryd.prog G0 53 [] [.vec nl (hL n l), .int .i64 k, .int .i64 at'] [] (.iarr .u8 32 ((lvl l k).getD at' []))
  | 0, i, hk, hi => by
    refine PC.of (fn := Tryd.f53) (c := bodyOf Tryd.f53) Tryd.func53 (by kernel_rfl) (by kernel_rfl) (by kernel_rfl) (by kernel_rfl) ?_
    rw [wid] at hi
    have g := hv_get (l := l) (i := i) (by rw [ho.len]; omega)
    have hx := (ho.get hi).1
    show W _ _ _ _ _ (.iarr .u8 32 (l.getD i [])) _ _
    generalize l.getD i [] = x at *
    unfold hL at *
    generalize l.map hv = L at *
    unfold hv at *
    refine W.rt [(1, aV (I6 0)), (6, aE g)] [] [I6 (↑(0 : Nat) : Int) = I6 0, 0 ≤ (i:Int), (i:Int) < (n:Int), _, i < n] (by kernel_rfl) (ac (cg (by omega)) (ac (by omega) (ac (by omega) (ac (ex g) (ao (by omega))))))
  | k + 1, i, hk, hi => by
    refine PC.of (fn := Tryd.f53) (c := bodyOf Tryd.f53) Tryd.func53 (by kernel_rfl) (by kernel_rfl) (by kernel_rfl) (by kernel_rfl) ?_
    have hok := ho.lvl k
    rw [wid] at hi
    have h2 : 2 * i < wid n k := by omega
    have hwb : wid n k ≤ 100001 := by
      have : ∀ k, wid n k ≤ n + 1 := by
        intro k
        induction k with
        | zero => rw [wid]; omega
        | succ k ih => rw [wid]; omega
      have := this k
      omega
    have c1 := pc_rNode (nl := nl) ho hn k (2 * i) (by omega) h2
    have c2 := pc_rWide (n := n) (k := k) hn (by omega)
    have o1 := hok.get h2
    have hab := above_get (l := lvl l k) (i := i) (by rw [hok.len]; omega)
    rw [hok.len] at hab
    have hkI : ((k + 1 : Nat) : Int) - 1 = (k : Int) := by omega
    show W _ _ _ _ _ (.iarr .u8 32 ((above (lvl l k)).getD i [])) _ _
    rw [hab]
    by_cases hge : wid n k ≤ 2 * i + 1
    · have hm : min (2 * i + 1) (wid n k - 1) = 2 * i := by omega
      rw [hm]
      have c3 := pc_rPair o1 o1
      generalize dsha ((lvl l k).getD (2 * i) [] ++ (lvl l k).getD (2 * i) []) = r at *
      generalize (lvl l k).getD (2 * i) [] = x at *
      generalize wid n k = w at *
      unfold hL at *
      generalize l.map hv = L at *
      have hxl := o1.1
      clear hm hab h2 hok o1
      refine W.rt [(5, aV (I6 (k:Int))), (7, aV (I6 (↑(2 * i) : Int))), (8, c9 c1), (12, aV (I6 (↑(2 * i) : Int))), (13, aV (I6 (↑(2 * i + 1) : Int))), (17, aV (I6 (k:Int))), (18, c9 c2), (19, aT), (22, c9 c3)] [] [I6 (IntKind.wrap .i64 ((↑(k + 1) : Int) - 1)) = I6 (k:Int), I6 (IntKind.wrap .i64 (2 * (i:Int))) = I6 (↑(2 * i) : Int), _, I6 (IntKind.wrap .i64 (2 * (i:Int))) = I6 (↑(2 * i) : Int), I6 (IntKind.wrap .i64 ((↑(2 * i) : Int) + 1)) = I6 (↑(2 * i + 1) : Int), I6 (IntKind.wrap .i64 ((↑(k + 1) : Int) - 1)) = I6 (k:Int), _, decide ((↑(2 * i + 1) : Int) ≥ (w:Int)) = true, _] (by kernel_rfl) (ac (cg (w_i64 hkI (by omega) (by omega))) (ac (cg (w_i64 rfl (by omega) (by omega))) (ac (c1) (ac (cg (w_i64 rfl (by omega) (by omega))) (ac (cg (w_i64 rfl (by omega) (by omega))) (ac (cg (w_i64 hkI (by omega) (by omega))) (ac (c2) (ac (dT (by omega)) (ao (c3))))))))))
    · have hm : min (2 * i + 1) (wid n k - 1) = 2 * i + 1 := by omega
      rw [hm]
      have o2 := hok.get (i := 2 * i + 1) (by omega)
      have c3 := pc_rPair o1 o2
      have c4 := pc_rNode (nl := nl) ho hn k (2 * i + 1) (by omega) (by omega)
      generalize dsha ((lvl l k).getD (2 * i) [] ++ (lvl l k).getD (2 * i + 1) []) = r at *
      generalize (lvl l k).getD (2 * i) [] = x at *
      generalize (lvl l k).getD (2 * i + 1) [] = z at *
      generalize wid n k = w at *
      unfold hL at *
      generalize l.map hv = L at *
      have hxl := o1.1
      have hzl := o2.1
      clear hm hab h2 hok o1 o2
      refine W.rt [(5, aV (I6 (k:Int))), (7, aV (I6 (↑(2 * i) : Int))), (8, c9 c1), (12, aV (I6 (↑(2 * i) : Int))), (13, aV (I6 (↑(2 * i + 1) : Int))), (17, aV (I6 (k:Int))), (18, c9 c2), (19, aF), (23, aV (I6 (k:Int))), (25, aV (I6 (↑(2 * i) : Int))), (26, aV (I6 (↑(2 * i + 1) : Int))), (27, c9 c4), (28, c9 c3)] [] [I6 (IntKind.wrap .i64 ((↑(k + 1) : Int) - 1)) = I6 (k:Int), I6 (IntKind.wrap .i64 (2 * (i:Int))) = I6 (↑(2 * i) : Int), _, I6 (IntKind.wrap .i64 (2 * (i:Int))) = I6 (↑(2 * i) : Int), I6 (IntKind.wrap .i64 ((↑(2 * i) : Int) + 1)) = I6 (↑(2 * i + 1) : Int), I6 (IntKind.wrap .i64 ((↑(k + 1) : Int) - 1)) = I6 (k:Int), _, decide ((↑(2 * i + 1) : Int) ≥ (w:Int)) = false, I6 (IntKind.wrap .i64 ((↑(k + 1) : Int) - 1)) = I6 (k:Int), I6 (IntKind.wrap .i64 (2 * (i:Int))) = I6 (↑(2 * i) : Int), I6 (IntKind.wrap .i64 ((↑(2 * i) : Int) + 1)) = I6 (↑(2 * i + 1) : Int), _, _] (by kernel_rfl) (ac (cg (w_i64 hkI (by omega) (by omega))) (ac (cg (w_i64 rfl (by omega) (by omega))) (ac (c1) (ac (cg (w_i64 rfl (by omega) (by omega))) (ac (cg (w_i64 rfl (by omega) (by omega))) (ac (cg (w_i64 hkI (by omega) (by omega))) (ac (c2) (ac (dF (by omega)) (ac (cg (w_i64 hkI (by omega) (by omega))) (ac (cg (w_i64 rfl (by omega) (by omega))) (ac (cg (w_i64 rfl (by omega) (by omega))) (ac (c4) (ao (c3))))))))))))))
theorem pc_rRoot {nl : Bool} {l : List (List Int)} {n : Nat} (ho : HsOk l n) (hn : n ≤ 100000) : PC Tryd.prog G0 35 [] [.vec nl (hL n l)] [] (hv (rootM l)) := by
  refine PC.of (fn := Tryd.f35) (c := bodyOf Tryd.f35) Tryd.func35 (by kernel_rfl) (by kernel_rfl) (by kernel_rfl) (by kernel_rfl) ?_
  by_cases h0 : n = 0
  · have hl : l = [] := List.eq_nil_of_length_eq_zero (by rw [ho.len, h0])
    subst hl; subst h0
    have e : rootM [] = List.replicate 32 0 := rfl
    rw [e]
    unfold hL hv
    refine W.rt [(2, aV (I6 0))] [] [I6 (↑(0 : Nat) : Int) = I6 0] (by kernel_rfl) (ao (cg (by omega)))
  · have hne : l ≠ [] := by intro e; have := ho.len; rw [e] at this; exact h0 this.symm
    have e : rootM l = (lvl l (depM n)).getD 0 [] := by unfold rootM; rw [if_neg hne, ho.len]
    have hpos : ∀ k n, 0 < n → 0 < wid n k := by
      intro k
      induction k with
      | zero => intro n h; exact h
      | succ k ih => intro n h; have := ih n h; rw [wid]; omega
    have hdep : depM n ≤ 20 := by
      rw [depM_le]
      exact Nat.le_trans hn (Nat.le_trans (show 100000 ≤ 2 ^ 17 by decide) (Nat.pow_le_pow_right (by omega) (by omega)))
    have c1 := pc_rDepth hn
    have c2 := pc_rNode (nl := nl) ho hn (depM n) 0 hdep (hpos _ _ (by omega))
    have hl := ((ho.lvl (depM n)).get (hpos _ _ (by omega))).1
    rw [e]
    generalize (lvl l (depM n)).getD 0 [] = r at *
    generalize depM n = d at *
    unfold hL hv at *
    generalize l.map (PV.iarr .u8 32) = L at *
    refine W.rt [(3, aF), (7, c9 c1), (8, c9 c2)] [] [((n:Int) == 0) = false, _, _] (by kernel_rfl) (ac (dF (by omega)) (ac (c1) (ao (c2))))
def dsRd (nl : Bool) (n : Nat) (L : List PV) (k i : Nat) : DS := ⟨[(0, .vec nl (.parr 32 n hsE L)), (3, .int .i64 k), (4, .int .i64 i)], []⟩
def dsRd0 (nl : Bool) (n : Nat) (L : List PV) (k : Nat) : DS := ⟨[(0, .vec nl (.parr 32 n hsE L)), (3, .int .i64 k)], []⟩
theorem W_rDbl {nl : Bool} {l : List (List Int)} {n : Nat} (ho : HsOk l n) (hn : n ≤ 100000) {res : Bool} (hres : res = true ↔ dblM l) : ∀ (j k : Nat), k + j = depM n → (∀ k' i, k' < k → 2 * i + 1 < wid n k' → (lvl l k').getD (2 * i) [] ≠ (lvl l k').getD (2 * i + 1) []) →
    W Tryd.prog G0 Tryd.f52 [] [] (.bool res) (loopAt Tryd.f52 0) (dsRd0 nl n (l.map hv) k)
  | 0, k, hk, hne => by
    have hr : res = false := by
      have : ¬ dblM l := by
        rintro ⟨k', i, h1, h2⟩
        rw [ho.len] at h1
        rcases Nat.lt_or_ge k' k with h | h
        · exact hne k' i h h1 h2
        · have h3 := (wid_one n k').2 ((depM_le n k').1 (by omega))
          omega
      rw [← hres] at this
      simpa using this
    subst hr
    have c1 := pc_rDepth hn
    have hkd : depM n = k := by omega
    rw [hkd] at c1
    generalize l.map hv = L at *
    unfold dsRd0
    refine W.rt [(3, c9 c1), (4, aF)] [] [_, decide ((k:Int) < (k:Int)) = false] (by kernel_rfl) (ac (c1) (ao (dF (by omega))))
  | j + 1, k, hk, hne => by
    have hklt : k < depM n := by omega
    have c1 := pc_rDepth hn
    have hkb : depM n ≤ 20 := by
      rw [depM_le]
      exact Nat.le_trans hn (Nat.le_trans (show 100000 ≤ 2 ^ 17 by decide) (Nat.pow_le_pow_right (by omega) (by omega)))
    have c2 := pc_rWide (n := n) (k := k) hn (by omega)
    have hok := ho.lvl k
    have hwb : wid n k ≤ 100001 := by
      have : ∀ k, wid n k ≤ n + 1 := by
        intro k
        induction k with
        | zero => rw [wid]; omega
        | succ k ih => rw [wid]; omega
      have := this k
      omega
    have hout := W_rDbl (nl := nl) ho hn hres j (k + 1) (by omega)
    -- the inner loop
    have inner : ∀ (m i : Nat), wid n k ≤ 2 * (i + m) + 1 → 2 * i ≤ wid n k + 1 → (∀ i', i' < i → (lvl l k).getD (2 * i') [] ≠ (lvl l k).getD (2 * i' + 1) []) →
        W Tryd.prog G0 Tryd.f52 [] [] (.bool res) (loopAt Tryd.f52 1) (dsRd nl n (l.map hv) k i) := by
      intro m
      induction m with
      | zero =>
        intro i hm hib hno
        have hout := hout (fun k' i' hk' hi' => by
          rcases Nat.lt_or_eq_of_le (Nat.le_of_lt_succ hk') with h | rfl
          · exact hne k' i' h hi'
          · exact hno i' (by omega))
        have hge : ¬ (((2 * i + 1 : Nat) : Int) < ((wid n k : Nat) : Int)) := by omega
        generalize wid n k = w at *
        generalize l.map hv = L at *
        unfold dsRd dsRd0 at *
        refine W.sg 0 [(1, aV (I6 (↑(2 * i) : Int))), (2, aV (I6 (↑(2 * i + 1) : Int))), (6, c9 c2), (7, aF), (9, aV (I6 (↑(k + 1) : Int)))] [] (⟨[(0, .vec nl (.parr 32 n hsE L)), (3, .int .i64 ((k + 1 : Nat) : Int))], []⟩ : DS) [I6 (IntKind.wrap .i64 (2 * (i:Int))) = I6 (↑(2 * i) : Int), I6 (IntKind.wrap .i64 ((↑(2 * i) : Int) + 1)) = I6 (↑(2 * i + 1) : Int), _, decide ((↑(2 * i + 1) : Int) < (w:Int)) = false, I6 (IntKind.wrap .i64 ((k:Int) + 1)) = I6 (↑(k + 1) : Int)] (by kernel_rfl) (ac (cg (w_i64 rfl (by omega) (by omega))) (ac (cg (w_i64 rfl (by omega) (by omega))) (ac (c2) (ac (dF (by omega)) (ao (cg (w_i64 rfl (by omega) (by omega)))))))) ?_
        exact hout
      | succ m ih =>
        intro i hm hib hno
        by_cases hlt : 2 * i + 1 < wid n k
        · have c3 := pc_rNode (nl := nl) ho hn k (2 * i) (by omega) (by omega)
          have c4 := pc_rNode (nl := nl) ho hn k (2 * i + 1) (by omega) hlt
          have o1 := (hok.get (i := 2 * i) (by omega)).1
          have o2 := (hok.get (i := 2 * i + 1) hlt).1
          by_cases heq : (lvl l k).getD (2 * i) [] = (lvl l k).getD (2 * i + 1) []
          · have hr : res = true := by rw [hres]; exact ⟨k, i, by rw [ho.len]; exact hlt, heq⟩
            subst hr
            clear ih hout hno hres hok
            generalize (lvl l k).getD (2 * i) [] = x at *
            generalize (lvl l k).getD (2 * i + 1) [] = z at *
            subst heq
            generalize wid n k = w at *
            unfold hL at *
            generalize l.map hv = L at *
            unfold dsRd at *
            refine W.rt [(1, aV (I6 (↑(2 * i) : Int))), (2, aV (I6 (↑(2 * i + 1) : Int))), (6, c9 c2), (7, aT), (11, aV (I6 (↑(2 * i) : Int))), (12, c9 c3), (16, aV (I6 (↑(2 * i) : Int))), (17, aV (I6 (↑(2 * i + 1) : Int))), (18, c9 c4), (19, aT)] [] [I6 (IntKind.wrap .i64 (2 * (i:Int))) = I6 (↑(2 * i) : Int), I6 (IntKind.wrap .i64 ((↑(2 * i) : Int) + 1)) = I6 (↑(2 * i + 1) : Int), _, decide ((↑(2 * i + 1) : Int) < (w:Int)) = true, I6 (IntKind.wrap .i64 (2 * (i:Int))) = I6 (↑(2 * i) : Int), _, I6 (IntKind.wrap .i64 (2 * (i:Int))) = I6 (↑(2 * i) : Int), I6 (IntKind.wrap .i64 ((↑(2 * i) : Int) + 1)) = I6 (↑(2 * i + 1) : Int), _, decide (x = x) = true] (by kernel_rfl) (ac (cg (w_i64 rfl (by omega) (by omega))) (ac (cg (w_i64 rfl (by omega) (by omega))) (ac (c2) (ac (dT (by omega)) (ac (cg (w_i64 rfl (by omega) (by omega))) (ac (c3) (ac (cg (w_i64 rfl (by omega) (by omega))) (ac (cg (w_i64 rfl (by omega) (by omega))) (ac (c4) (ao (by (simp [*]; done))))))))))))
          · have hw := ih (i + 1) (by omega) (by omega) (fun i' hi' => by
              rcases Nat.lt_or_eq_of_le (Nat.le_of_lt_succ hi') with h | rfl
              · exact hno i' h
              · exact heq)
            clear ih hout hno hres hok
            generalize (lvl l k).getD (2 * i) [] = x at *
            generalize (lvl l k).getD (2 * i + 1) [] = z at *
            generalize wid n k = w at *
            unfold hL at *
            generalize l.map hv = L at *
            unfold dsRd at *
            refine W.sg 1 [(1, aV (I6 (↑(2 * i) : Int))), (2, aV (I6 (↑(2 * i + 1) : Int))), (6, c9 c2), (7, aT), (11, aV (I6 (↑(2 * i) : Int))), (12, c9 c3), (16, aV (I6 (↑(2 * i) : Int))), (17, aV (I6 (↑(2 * i + 1) : Int))), (18, c9 c4), (19, aF), (21, aV (I6 (↑(i + 1) : Int)))] [] (⟨[(0, .vec nl (.parr 32 n hsE L)), (3, .int .i64 k), (4, .int .i64 ((i + 1 : Nat) : Int))], []⟩ : DS) [I6 (IntKind.wrap .i64 (2 * (i:Int))) = I6 (↑(2 * i) : Int), I6 (IntKind.wrap .i64 ((↑(2 * i) : Int) + 1)) = I6 (↑(2 * i + 1) : Int), _, decide ((↑(2 * i + 1) : Int) < (w:Int)) = true, I6 (IntKind.wrap .i64 (2 * (i:Int))) = I6 (↑(2 * i) : Int), _, I6 (IntKind.wrap .i64 (2 * (i:Int))) = I6 (↑(2 * i) : Int), I6 (IntKind.wrap .i64 ((↑(2 * i) : Int) + 1)) = I6 (↑(2 * i + 1) : Int), _, decide (x = z) = false, I6 (IntKind.wrap .i64 ((i:Int) + 1)) = I6 (↑(i + 1) : Int)] (by kernel_rfl) (ac (cg (w_i64 rfl (by omega) (by omega))) (ac (cg (w_i64 rfl (by omega) (by omega))) (ac (c2) (ac (dT (by omega)) (ac (cg (w_i64 rfl (by omega) (by omega))) (ac (c3) (ac (cg (w_i64 rfl (by omega) (by omega))) (ac (cg (w_i64 rfl (by omega) (by omega))) (ac (c4) (ac (dF (by omega)) (ao (cg (w_i64 rfl (by omega) (by omega)))))))))))))) ?_
            exact hw
        · have hout := hout (fun k' i' hk' hi' => by
            rcases Nat.lt_or_eq_of_le (Nat.le_of_lt_succ hk') with h | rfl
            · exact hne k' i' h hi'
            · exact hno i' (by omega))
          have hge : ¬ (((2 * i + 1 : Nat) : Int) < ((wid n k : Nat) : Int)) := by omega
          clear ih
          generalize wid n k = w at *
          generalize l.map hv = L at *
          unfold dsRd dsRd0 at *
          refine W.sg 0 [(1, aV (I6 (↑(2 * i) : Int))), (2, aV (I6 (↑(2 * i + 1) : Int))), (6, c9 c2), (7, aF), (9, aV (I6 (↑(k + 1) : Int)))] [] (⟨[(0, .vec nl (.parr 32 n hsE L)), (3, .int .i64 ((k + 1 : Nat) : Int))], []⟩ : DS) [I6 (IntKind.wrap .i64 (2 * (i:Int))) = I6 (↑(2 * i) : Int), I6 (IntKind.wrap .i64 ((↑(2 * i) : Int) + 1)) = I6 (↑(2 * i + 1) : Int), _, decide ((↑(2 * i + 1) : Int) < (w:Int)) = false, I6 (IntKind.wrap .i64 ((k:Int) + 1)) = I6 (↑(k + 1) : Int)] (by kernel_rfl) (ac (cg (w_i64 rfl (by omega) (by omega))) (ac (cg (w_i64 rfl (by omega) (by omega))) (ac (c2) (ac (dF (by omega)) (ao (cg (w_i64 rfl (by omega) (by omega)))))))) ?_
          exact hout
    have hw := inner (wid n k) 0 (by omega) (by omega) (fun i' hi' => by omega)
    clear inner hout
    generalize depM n = dp at *
    generalize l.map hv = L at *
    unfold dsRd0 dsRd at *
    refine W.sg 1 [(3, c9 c1), (4, aT)] [] (⟨[(0, .vec nl (.parr 32 n hsE L)), (3, .int .i64 k), (4, .int .i64 (0 : Int))], []⟩ : DS) [_, decide ((k:Int) < (dp:Int)) = true] (by kernel_rfl) (ac (c1) (ao (dT (by omega)))) ?_
    exact hw
theorem pc_rDoubled {nl : Bool} {l : List (List Int)} {n : Nat} (ho : HsOk l n) (hn : n ≤ 100000) {res : Bool} (hres : res = true ↔ dblM l) : PC Tryd.prog G0 52 [] [.vec nl (hL n l)] [] (.bool res) := by
  refine PC.of (fn := Tryd.f52) (c := bodyOf Tryd.f52) Tryd.func52 (by kernel_rfl) (by kernel_rfl) (by kernel_rfl) (by kernel_rfl) ?_
  have hw := W_rDbl (nl := nl) ho hn hres (depM n) 0 (by omega) (fun k' i h => by omega)
  unfold hL
  generalize l.map hv = L at *
  unfold dsRd0 at *
  refine W.sg 0 [] [] (⟨[(0, .vec nl (.parr 32 n hsE L)), (3, .int .i64 (0 : Int))], []⟩ : DS) [] (by kernel_rfl) trivial ?_
  exact hw
end Go.Proofs
namespace Go.Proofs
open Go Go.Pe Go.Pm
set_option maxRecDepth 100000
set_option linter.unusedVariables false
theorem strOf_drop (l : List Int) (n : Nat) : (strOf l).extract n (strOf l).size = strOf (l.drop n) := by
  apply ByteArray.ext
  rw [strOf_size]
  unfold strOf
  simp [List.map_drop]
  rw [List.take_of_length_le (by simp)]
theorem strOf_take (l : List Int) (n : Nat) : (strOf l).extract 0 n = strOf (l.take n) := by
  apply ByteArray.ext
  unfold strOf
  simp
theorem lv_rev {b : List Int} {i n : Nat} (hi : i < n) : lv (b.drop i) (n - i) = at0 b i + 256 * lv (b.drop (i + 1)) (n - (i + 1)) := by
  have e : n - i = 1 + (n - (i + 1)) := by omega
  rw [e, lv_add, lv_one, List.drop_drop]
  have : at0 (b.drop i) 0 = at0 b i := by unfold at0; simp [List.getD_eq_getElem?_getD]
  rw [this]
def dsVal (n : Nat) (b : List Int) (nl : Bool) (x : Nat) (i : Int) : DS := ⟨[(0, .vec nl (.iarr .u8 n b)), (3, .int .u64 x), (4, .int .i64 i)], []⟩
theorem W_val {n : Nat} {b : List Int} {nl : Bool} (hl : b.length = n) (hb : Bytes b) (hn : n ≤ 8) : ∀ (i x : Nat), i ≤ n → x = lv (b.drop i) (n - i) →
    W Tryd.prog G0 Tryd.f79 [] [] (.int .u64 ((lv b n : Nat) : Int)) (loopAt Tryd.f79 0) (dsVal n b nl x ((i : Int) - 1))
  | 0, x, hi, hx => by
    have e : x = lv b n := hx
    rw [← e]
    have h1 : ((0 : Nat) : Int) - 1 = -1 := rfl
    rw [h1]
    unfold dsVal
    refine W.rt [] [] [] (by kernel_rfl) trivial
  | i + 1, x, hi, hx => by
    have hrev := lv_rev (b := b) (i := i) (n := n) (by omega)
    rw [← hx] at hrev
    obtain ⟨g, hlt⟩ := hb.get i
    have hlim := lv_lt (hb.drop i) (n - i)
    have hlim2 : 2 ^ (8 * (n - i)) ≤ 2 ^ 64 := Nat.pow_le_pow_right (by omega) (by omega)
    have hyl : at0 b i + 256 * x < 18446744073709551616 := by rw [← hrev]; exact Nat.lt_of_lt_of_le hlim hlim2
    have hw := W_val (nl := nl) hl hb hn i (at0 b i + 256 * x) (by omega) hrev.symm
    have h1 : ((i + 1 : Nat) : Int) - 1 = (i : Int) := by omega
    rw [h1]
    clear hrev hlim hlim2 hx
    have hxl : x < 18446744073709551616 := by omega
    have hx256 : x * 256 < 18446744073709551616 := by omega
    have hs : x * 256 + at0 b i = at0 b i + 256 * x := by omega
    rw [← hs] at hw hyl
    generalize lv b n = res at *
    generalize at0 b i = y at *
    unfold dsVal at *
    refine W.seg [(3, aT), (5, aV (U6 (↑(256 * x) : Int))), (9, aV (U8 (y:Int))), (10, aV (U6 (y:Int))), (11, aV (U6 (↑(256 * x + y) : Int))), (14, aV (I6 ((i:Int) - 1)))] [] (⟨[(0, .vec nl (.iarr .u8 n b)), (3, .int .u64 ((x * 256 + y : Nat) : Int)), (4, .int .i64 ((i : Int) - 1))], []⟩ : DS) (todo' := loopAt Tryd.f79 0) [decide ((i:Int) < 8) = true, U6 (IntKind.wrap .u64 ((x:Int) * (256 : Int))) = U6 (↑(256 * x) : Int), 0 ≤ (i:Int), (i:Int) < (n:Int), U8 (List.getD b i (0 : Int)) = U8 (y:Int), i < n, U6 (IntKind.wrap .u64 (y:Int)) = U6 (y:Int), U6 (IntKind.wrap .u64 ((↑(256 * x) : Int) + (y:Int))) = U6 (↑(256 * x + y) : Int), I6 (IntKind.wrap .i64 ((i:Int) - 1)) = I6 ((i:Int) - 1), rr (PV.vec nl (B8 n b)), U6 (↑(256 * x + y) : Int) = U6 (↑(x * 256 + y) : Int), rr (I6 ((i:Int) - 1))] (by kernel_rfl) (ac (dT (by omega)) (ac (cg (w_u64 (by omega) (by omega) (by omega))) (ac (by omega) (ac (by omega) (ac (cg (g)) (ac (by omega) (ac (cg (w_u64 rfl (by omega) (by omega))) (ac (cg (w_u64 rfl (by omega) (by omega))) (ac (cg (w_i64 rfl (by omega) (by omega))) (ac rfl (ac (cg (by omega)) (ao rfl)))))))))))) ?_
    exact hw
theorem pc_value01 {s : ByteArray} {nl : Bool} (hs : s.size ≤ 8) : PC Tryd.prog G0 79 [] [.vec nl (.iarr .u8 s.size (bytesOf s))] [] (.int .u64 ((lv (bytesOf s) s.size : Nat) : Int)) := by
  refine PC.of (fn := Tryd.f79) (c := bodyOf Tryd.f79) Tryd.func79 (by kernel_rfl) (by kernel_rfl) (by kernel_rfl) (by kernel_rfl) ?_
  have hl := bytesOf_length s
  have hw := W_val (nl := nl) hl (bytesOf_bytes s) hs s.size 0 (Nat.le_refl _) (by rw [Nat.sub_self]; rfl)
  generalize lv (bytesOf s) s.size = res at *
  generalize bytesOf s = b at *
  generalize s.size = n at *
  unfold dsVal at *
  refine W.sg 0 [(4, aV (I6 ((n:Int) - 1)))] [] (⟨[(0, .vec nl (.iarr .u8 n b)), (3, .int .u64 (0 : Int)), (4, .int .i64 ((n : Int) - 1))], []⟩ : DS) [I6 (IntKind.wrap .i64 ((n:Int) - 1)) = I6 ((n:Int) - 1)] (by kernel_rfl) (ao (cg (w_i64 rfl (by omega) (by omega)))) ?_
  exact hw
theorem Rd.In.size {r : Rd} {bs : List Int} {N : Nat} (h : r.In bs N) : (strOf r.s).size = r.s.length := strOf_size _
def inPV (r : Rd) : PV := .st 2 [.str (strOf r.s), .int .i64 r.e]
theorem pc_rTake {N w : Nat} {bs : List Int} {r : Rd} (hr : r.In bs N) (hN : N ≤ 1000000) (he : r.e ≤ 100) (hw : w ≤ 1000000) : PC Tryd.prog G0 78 [] [inPV r, .int .i64 w] [] (.tup [inPV (r.tk w), .str (strOf (r.tv w))]) := by
  refine PC.of (fn := Tryd.f78) (c := bodyOf Tryd.f78) Tryd.func78 (by kernel_rfl) (by kernel_rfl) (by kernel_rfl) (by kernel_rfl) ?_
  have hle := hr.le
  have hsz : (strOf r.s).size = r.s.length := strOf_size _
  have hsb : (strOf r.s).size ≤ 1000000 := by omega
  have hnil : strOf [] = ByteArray.empty := rfl
  unfold inPV
  by_cases h0 : r.e = 0
  · by_cases hl : w ≤ r.s.length
    · have e1 : r.tk w = ⟨r.s.drop w, 0⟩ := by unfold Rd.tk; rw [if_pos h0, if_pos hl]
      have e3 : r.tv w = r.s.take w := by unfold Rd.tv; rw [if_pos ⟨h0, hl⟩]
      have d1 := strOf_drop r.s w
      have d2 := strOf_take r.s w
      rw [e1, e3, h0]
      rw [← hsz] at hl
      dsimp only
      generalize strOf (r.s.drop w) = s1 at *
      generalize strOf (r.s.take w) = s2 at *
      generalize strOf r.s = s at *
      refine W.ret [(4, aV (I6 0)), (12, aF), (16, aV (PV.str (ByteArray.extract s w (ByteArray.size s))))] [] [I6 (↑(0 : Nat) : Int) = I6 0, decide ((w:Int) > (↑(ByteArray.size s) : Int)) = false, PV.str (ByteArray.extract s w (Int.toNat (↑(ByteArray.size s) : Int))) = PV.str (ByteArray.extract s w (ByteArray.size s)), 0 ≤ (w:Int), (w:Int) ≤ (↑(ByteArray.size s) : Int), (↑(ByteArray.size s) : Int) ≤ (↑(ByteArray.size s) : Int), (0 : Int) ≤ (0 : Int), 0 ≤ (w:Int), (w:Int) ≤ (↑(ByteArray.size s) : Int), PV.tup [PV.st 2 [PV.str (ByteArray.extract s w (ByteArray.size s)), I6 0], PV.str (ByteArray.extract s 0 w)] = PV.tup [PV.st 2 [PV.str s1, I6 (↑(0 : Nat) : Int)], PV.str s2]] (by kernel_rfl) (ac (cg (by omega)) (ac (dF (by omega)) (ac (by rw [show Int.toNat (↑(ByteArray.size s) : Int) = ByteArray.size s by omega]) (ac (by omega) (ac (by omega) (ac (by omega) (ac (by omega) (ac (by omega) (ac (by omega) (ao ?_))))))))))
      rw [d1, d2]; rfl
    · have e1 : r.tk w = ⟨r.s, 2⟩ := by unfold Rd.tk; rw [if_pos h0, if_neg hl]
      have e3 : r.tv w = [] := by unfold Rd.tv; rw [if_neg (fun h => hl h.2)]
      rw [e1, e3, h0, hnil]
      rw [← hsz] at hl
      dsimp only
      generalize strOf r.s = s at *
      refine W.ret [(4, aV (I6 0)), (12, aT)] [] [I6 (↑(0 : Nat) : Int) = I6 0, decide ((w:Int) > (↑(ByteArray.size s) : Int)) = true, PV.tup [PV.st 2 [PV.str s, I6 2], PV.str (ByteArray.mk #[])] = PV.tup [PV.st 2 [PV.str s, I6 (↑(2 : Nat) : Int)], PV.str ByteArray.empty]] (by kernel_rfl) (ac (cg (by omega)) (ac (dT (by omega)) (ao rfl)))
  · have e1 : r.tk w = r := by unfold Rd.tk; rw [if_neg h0]
    have e3 : r.tv w = [] := by unfold Rd.tv; rw [if_neg (fun h => h0 h.1)]
    have h1 : ¬ ((r.e : Int) = 0) := by omega
    rw [e1, e3, hnil]
    generalize strOf r.s = s at *
    generalize r.e = e at *
    refine W.ret [(5, aT)] [] [((e:Int) != 0) = true, PV.tup [PV.st 2 [PV.str s, I6 (e:Int)], PV.str (ByteArray.mk #[])] = PV.tup [PV.st 2 [PV.str s, I6 (e:Int)], PV.str ByteArray.empty]] (by kernel_rfl) (ac (bne_iff_ne.2 (by omega)) (ao rfl))
theorem pc_rNumber {N w : Nat} {bs : List Int} {r : Rd} (hr : r.In bs N) (hN : N ≤ 1000000) (he : r.e ≤ 100) (hw : w ≤ 8) : PC Tryd.prog G0 66 [] [inPV r, .int .i64 w] [] (.tup [inPV (r.tk w), .int .u64 ((r.nv w : Nat) : Int)]) := by
  refine PC.of (fn := Tryd.f66) (c := bodyOf Tryd.f66) Tryd.func66 (by kernel_rfl) (by kernel_rfl) (by kernel_rfl) (by kernel_rfl) ?_
  have c1 := pc_rTake (w := w) hr hN he (by omega)
  have c2 := pc_held01 hw
  have htl : (r.tv w).length ≤ 8 := by
    unfold Rd.tv
    split
    · rw [List.length_take]; omega
    · exact Nat.zero_le _
  have hb : Bytes (r.tv w) := by
    unfold Rd.tv
    split
    · exact hr.bytes.take w
    · intro x hx; cases hx
  have c3 := pc_value01 (s := strOf (r.tv w)) (nl := false) (by rw [strOf_size]; exact htl)
  have hv : lv (bytesOf (strOf (r.tv w))) (strOf (r.tv w)).size = r.nv w := by
    rw [bytesOf_strOf hb, strOf_size]
    unfold Rd.tv Rd.nv
    split
    · rename_i h
      rw [List.length_take, Nat.min_eq_left h.2, lv_take (Nat.le_refl w)]
    · rfl
  rw [hv] at c3
  have hl := bytesOf_length (strOf (r.tv w))
  have hsb : (strOf (r.tv w)).size ≤ 8 := by rw [strOf_size]; exact htl
  have hbb := bytesOf_bytes (strOf (r.tv w))
  unfold inPV at *
  clear hv htl hb
  generalize strOf (r.tk w).s = s1 at *
  generalize strOf (r.tv w) = s2 at *
  generalize strOf r.s = s at *
  generalize (r.tk w).e = ee1 at *
  generalize r.nv w = v at *
  generalize r.e = e at *
  refine W.rt [(5, c9 c2), (6, c9 c1), (16, cL true [] c3)] [] [_, _, 0 + ByteArray.size s2 ≤ ByteArray.size s2, rr ([] : List (Nat × Row)), ([PV.vec false (B8 (ByteArray.size s2) (List.take (ByteArray.size s2) (bytesOf s2)))] : List PV) = [PV.vec false (B8 (ByteArray.size s2) (bytesOf s2))], _] (by kernel_rfl) (ac (c2) (ac (c1) (ac (by omega) (ac rfl (ac (by rw [List.take_of_length_le (show List.length (bytesOf s2) ≤ ByteArray.size s2 by omega)]) (ao (c3)))))))
end Go.Proofs
namespace Go.Pm
/-- a count's bytes -/
def vb (n : Nat) : List Int := if n < 253 then le n 1 else if n < 65536 then 253 :: le n 2 else if n < 4294967296 then 254 :: le n 4 else 255 :: le n 8
theorem le_ext {n w : Nat} {l : List Int} (hl : l.length = w) (hb : Bytes l) (h : ∀ k, k < w → n / 2 ^ (8 * k) % 256 = at0 l k) : le n w = l := by
  apply List.ext_getElem?
  intro k
  rcases Nat.lt_or_ge k w with hk | hk
  · have h1 : (le n w)[k]? = some ((n / 2 ^ (8 * k) % 256 : Nat) : Int) := by
      have hk' : k < (le n w).length := by rw [le_length]; exact hk
      have := tab_getD (f := fun i => ((n / 2 ^ (8 * i) % 256 : Nat) : Int)) hk
      rw [List.getElem?_eq_getElem hk']
      rw [List.getD_eq_getElem?_getD] at this
      change ((le n w)[k]?.getD 0) = _ at this
      rw [List.getElem?_eq_getElem hk'] at this
      simpa using this
    have hk2 : k < l.length := by omega
    have h2 : l[k]? = some (at0 l k : Int) := by
      rw [List.getElem?_eq_getElem hk2]
      have hb' := hb l[k] (List.getElem_mem hk2)
      unfold at0
      rw [List.getD_eq_getElem?_getD, List.getElem?_eq_getElem hk2]
      simp only [Option.getD_some, Option.some.injEq]
      omega
    rw [h1, h2, h k hk]
  · rw [List.getElem?_eq_none (by rw [le_length]; exact hk), List.getElem?_eq_none (by omega)]
theorem le_lv {l : List Int} {w : Nat} (hl : l.length = w) (hb : Bytes l) : le (lv l w) w = l := le_ext hl hb fun k hk => by
  have := lv_digit hb (n := w) hk
  rw [← this, show (256 : Nat) = 2 ^ 8 from rfl, ← Nat.pow_mul]
theorem vb_length (n : Nat) : (vb n).length = if n < 253 then 1 else if n < 65536 then 3 else if n < 4294967296 then 5 else 9 := by
  unfold vb
  split
  · exact le_length _ _
  · split
    · rw [List.length_cons, le_length]
    · split
      · rw [List.length_cons, le_length]
      · rw [List.length_cons, le_length]
theorem head_at0 {s : List Int} (h : 0 < s.length) (hb : Bytes s) : s = (at0 s 0 : Int) :: s.drop 1 := by
  cases s with
  | nil => simp at h
  | cons x l =>
    have := hb x (by simp)
    have e : at0 (x :: l) 0 = x.toNat := rfl
    rw [e, List.drop_one, List.tail_cons]
    congr 1
    omega
/-- The count that stands there is written just so, if it isn't less than its spelling allows. -/
theorem vb_vraw {s : List Int} (hb : Bytes s) (hl : 1 + wdt (at0 s 0) ≤ s.length) : vb (vraw s) = s.take (1 + wdt (at0 s 0)) ↔ ¬ vraw s < lst (at0 s 0) := by
  have hh := head_at0 (by omega) hb
  have hx := at0_lt hb 0
  have hlen : (s.take (1 + wdt (at0 s 0))).length = 1 + wdt (at0 s 0) := by rw [List.length_take]; omega
  have hvl := vb_length (vraw s)
  have htake : ∀ w, s.take (1 + w) = (at0 s 0 : Int) :: (s.drop 1).take w := by
    intro w
    conv => lhs; rw [hh]
    rw [Nat.add_comm, List.take_succ_cons]
  have hlv : ∀ w, wdt (at0 s 0) = w → w ≠ 0 → 1 + w ≤ s.length → le (vraw s) w = (s.drop 1).take w := by
    intro w hw h0 hle
    have e : vraw s = lv ((s.drop 1).take w) w := by unfold vraw; rw [hw, if_neg h0, lv_take (Nat.le_refl w)]
    rw [e]
    exact le_lv (by rw [List.length_take, List.length_drop]; omega) ((hb.drop 1).take w)
  have hvw : ∀ w, wdt (at0 s 0) = w → w ≠ 0 → vraw s < 2 ^ (8 * w) := by
    intro w hw h0
    unfold vraw
    rw [hw, if_neg h0]
    exact lv_lt (hb.drop 1) w
  by_cases h2 : at0 s 0 = 253
  · have w2 : wdt (at0 s 0) = 2 := by rw [h2]; rfl
    have l2 : lst (at0 s 0) = 253 := by rw [h2]; rfl
    have h65 := hvw 2 w2 (by omega)
    rw [w2] at hl hlen; rw [w2, l2]
    constructor
    · intro e hlt
      rw [e, hlen, if_pos hlt] at hvl
      omega
    · intro hge
      unfold vb
      rw [if_neg hge, if_pos (by omega), hlv 2 w2 (by omega) hl, htake, h2]
      rfl
  · by_cases h4 : at0 s 0 = 254
    · have w4 : wdt (at0 s 0) = 4 := by rw [h4]; rfl
      have l4 : lst (at0 s 0) = 65536 := by rw [h4]; rfl
      have h65 := hvw 4 w4 (by omega)
      rw [w4] at hl hlen; rw [w4, l4]
      constructor
      · intro e hlt
        rw [e, hlen] at hvl
        split at hvl
        · omega
        · omega
      · intro hge
        unfold vb
        rw [if_neg (by omega), if_neg hge, if_pos (by omega), hlv 4 w4 (by omega) hl, htake, h4]
        rfl
    · by_cases h8 : at0 s 0 = 255
      · have w8 : wdt (at0 s 0) = 8 := by rw [h8]; rfl
        have l8 : lst (at0 s 0) = 4294967296 := by rw [h8]; rfl
        rw [w8] at hl hlen; rw [w8, l8]
        constructor
        · intro e hlt
          rw [e, hlen] at hvl
          split at hvl
          · omega
          · split at hvl
            · omega
            · omega
        · intro hge
          unfold vb
          rw [if_neg (by omega), if_neg (by omega), if_neg hge, hlv 8 w8 (by omega) hl, htake, h8]
          rfl
      · have w0 : wdt (at0 s 0) = 0 := by unfold wdt; rw [if_neg h2, if_neg h4, if_neg h8]
        have l0 : lst (at0 s 0) = 0 := by unfold lst; rw [if_neg h2, if_neg h4, if_neg h8]
        have v0 : vraw s = at0 s 0 := by unfold vraw; rw [if_pos w0]
        rw [w0, l0, v0, htake, List.take_zero]
        constructor
        · intro _ h; omega
        · intro _
          unfold vb
          rw [if_pos (by omega)]
          have : le (at0 s 0) 1 = [(at0 s 0 : Int)] := le_ext rfl (by intro x hx; simp at hx; subst hx; omega) fun k hk => by
            have : k = 0 := by omega
            subst this
            have hq : at0 s 0 / 2 ^ (8 * 0) % 256 = at0 s 0 := by rw [Nat.mul_zero, Nat.pow_zero, Nat.div_one]; omega
            rw [hq]
            rfl
          exact this
end Go.Pm
namespace Go.Proofs
open Go Go.Pe Go.Pm
set_option maxRecDepth 100000
set_option linter.unusedVariables false
set_option maxHeartbeats 4000000 in
theorem pc_rVb {n : Nat} (hn : n < 18446744073709551616) : PC Tryd.prog G0 80 [] [.int .u64 n] [] (.str (strOf (vb n))) := by
  refine PC.of (fn := Tryd.f80) (c := bodyOf Tryd.f80) Tryd.func80 (by kernel_rfl) (by kernel_rfl) (by kernel_rfl) (by kernel_rfl) ?_
  unfold vb
  by_cases h1 : n < 253
  · rw [if_pos h1]
    have c1 := pc_num06 (x := n) (w := 1) hn (by omega) (by omega)
    have hsz : (strOf (le n 1)).size = 1 := by rw [strOf_size, le_length]
    generalize strOf (le n 1) = s at *
    refine W.rt [(2, aT), (4, c9 c1)] [] [decide ((n:Int) < 253) = true, _] (by kernel_rfl) (ac (dT (by omega)) (ao (c1)))
  · rw [if_neg h1]
    by_cases h2 : n < 65536
    · rw [if_pos h2]
      have c1 := pc_num06 (x := n) (w := 2) hn (by omega) (by omega)
      have e : (ByteArray.mk #[253]) ++ strOf (le n 2) = strOf (253 :: le n 2) := strOf_append [253] _
      generalize strOf (253 :: le n 2) = s2 at *
      have hsz : (strOf (le n 2)).size = 2 := by rw [strOf_size, le_length]
      generalize strOf (le n 2) = s at *
      refine W.ret [(2, aF), (4, aT), (6, c9 c1)] [] [decide ((n:Int) < 253) = false, decide ((n:Int) < 65536) = true, _, 1 + ByteArray.size s ≤ 9223372036854775807, PV.str (ByteArray.mk #[(253 : UInt8)] ++ s) = PV.str s2] (by kernel_rfl) (ac (dF (by omega)) (ac (dT (by omega)) (ac (c1) (ac (by omega) (ao (by (simp; omega)))))))
    · rw [if_neg h2]
      by_cases h3 : n < 4294967296
      · rw [if_pos h3]
        have c1 := pc_num06 (x := n) (w := 4) hn (by omega) (by omega)
        have e : (ByteArray.mk #[254]) ++ strOf (le n 4) = strOf (254 :: le n 4) := strOf_append [254] _
        generalize strOf (254 :: le n 4) = s2 at *
        have hsz : (strOf (le n 4)).size = 4 := by rw [strOf_size, le_length]
        generalize strOf (le n 4) = s at *
        refine W.ret [(2, aF), (4, aF), (6, aT), (8, c9 c1)] [] [decide ((n:Int) < 253) = false, decide ((n:Int) < 65536) = false, decide ((n:Int) < 4294967296) = true, _, 1 + ByteArray.size s ≤ 9223372036854775807, PV.str (ByteArray.mk #[(254 : UInt8)] ++ s) = PV.str s2] (by kernel_rfl) (ac (dF (by omega)) (ac (dF (by omega)) (ac (dT (by omega)) (ac (c1) (ac (by omega) (ao (by (simp; omega))))))))
      · rw [if_neg h3]
        have c1 := pc_num06 (x := n) (w := 8) hn (by omega) (by omega)
        have e : (ByteArray.mk #[255]) ++ strOf (le n 8) = strOf (255 :: le n 8) := strOf_append [255] _
        generalize strOf (255 :: le n 8) = s2 at *
        have hsz : (strOf (le n 8)).size = 8 := by rw [strOf_size, le_length]
        generalize strOf (le n 8) = s at *
        refine W.ret [(2, aF), (4, aF), (6, aF), (8, c9 c1)] [] [decide ((n:Int) < 253) = false, decide ((n:Int) < 65536) = false, decide ((n:Int) < 4294967296) = false, _, 1 + ByteArray.size s ≤ 9223372036854775807, PV.str (ByteArray.mk #[(255 : UInt8)] ++ s) = PV.str s2] (by kernel_rfl) (ac (dF (by omega)) (ac (dF (by omega)) (ac (dF (by omega)) (ac (c1) (ac (by omega) (ao (by (simp; omega))))))))
end Go.Proofs
namespace Go.Proofs
open Go Go.Pe Go.Pm
set_option maxRecDepth 100000
set_option linter.unusedVariables false
theorem strOf_inj {a b : List Int} (ha : Bytes a) (hb : Bytes b) (h : strOf a = strOf b) : a = b := by
  rw [← bytesOf_strOf ha, ← bytesOf_strOf hb, h]
theorem byte0 {s : List Int} (hb : Bytes s) (h : 0 < s.length) : byteAt (strOf s) 0 = (at0 s 0 : Int) := by
  cases s with
  | nil => simp at h
  | cons x l =>
    have := hb x (by simp)
    unfold byteAt strOf at0
    simp
    omega
theorem strOf_mid (l : List Int) (n : Nat) : (strOf l).extract 1 (1 + n) = strOf ((l.drop 1).take n) := by
  apply ByteArray.ext
  unfold strOf
  simp [List.map_take]
theorem vb_bytes (n : Nat) : Bytes (vb n) := by
  unfold vb
  have c : ∀ (k : Int) (l : List Int), 0 ≤ k → k ≤ 255 → Bytes l → Bytes (k :: l) := fun k l h1 h2 h x hx => by
    rcases List.mem_cons.1 hx with rfl | hx
    · exact ⟨h1, h2⟩
    · exact h x hx
  split
  · exact le_bytes _ _
  · split
    · exact c _ _ (by omega) (by omega) (le_bytes _ _)
    · split
      · exact c _ _ (by omega) (by omega) (le_bytes _ _)
      · exact c _ _ (by omega) (by omega) (le_bytes _ _)
theorem toList_loop (b : ByteArray) : ∀ (k i : Nat) (r : List UInt8), i + k = b.size → ByteArray.toList.loop b i r = r.reverse ++ b.data.toList.drop i := by
  intro k
  induction k with
  | zero =>
    intro i r h
    rw [ByteArray.toList.loop, if_neg (by omega), List.drop_of_length_le (by show b.data.toList.length ≤ i; have : b.data.toList.length = b.size := rfl; omega), List.append_nil]
  | succ k ih =>
    intro i r h
    rw [ByteArray.toList.loop, if_pos (by omega), ih (i + 1) _ (by omega)]
    have hlt : i < b.data.toList.length := by have : b.data.toList.length = b.size := rfl; omega
    rw [List.reverse_cons, List.append_assoc, List.drop_eq_getElem_cons hlt]
    congr 1
    simp only [List.singleton_append, List.cons.injEq, and_true]
    have hs : i < b.size := by omega
    simp [ByteArray.get!, hs]
theorem ba_toList (b : ByteArray) : b.toList = b.data.toList := by
  have := toList_loop b b.size 0 [] (by omega)
  simpa [ByteArray.toList] using this
theorem ba_eq {a b : ByteArray} : (a.toList == b.toList) = true ↔ a = b := by
  rw [beq_iff_eq, ba_toList, ba_toList]
  constructor
  · intro h
    exact ByteArray.ext (Array.toList_inj.1 h)
  · intro h; rw [h]
theorem ba_eqT {a b : ByteArray} (h : a = b) : (a.toList == b.toList) = true := ba_eq.2 h
theorem ba_eqF {a b : ByteArray} (h : ¬ a = b) : (a.toList == b.toList) = false := by
  cases hh : a.toList == b.toList with
  | false => rfl
  | true => exact absurd (ba_eq.1 hh) h
theorem ba_neT {a b : ByteArray} (h : ¬ a = b) : (!(a.toList == b.toList)) = true := by rw [ba_eqF h]; rfl
theorem ba_neF {a b : ByteArray} (h : a = b) : (!(a.toList == b.toList)) = false := by rw [ba_eqT h]; rfl
def cntPV (r : Rd) (m : Nat) : PV := .tup [inPV (r.var m), .int .u64 ((r.vn m : Nat) : Int)]
theorem pc_rCntE {N m : Nat} {bs : List Int} {r : Rd} (hr : r.In bs N) (hN : N ≤ 1000000) (he : r.e ≤ 100) (hm : m < 18446744073709551616) (h0 : r.e ≠ 0) : PC Tryd.prog G0 67 [] [inPV r, .int .u64 m] [] (cntPV r m) := by
  refine PC.of (fn := Tryd.f67) (c := bodyOf Tryd.f67) Tryd.func67 (by kernel_rfl) (by kernel_rfl) (by kernel_rfl) (by kernel_rfl) ?_
  have hve : r.ve m = r.e := by unfold Rd.ve; rw [if_neg h0]
  obtain ⟨q1, q2⟩ := Rd.var_of hve h0
  unfold cntPV
  rw [q1, q2]
  have hne : ¬ ((r.e : Int) = 0) := by omega
  unfold inPV
  dsimp only
  generalize strOf r.s = s at *
  generalize r.e = e at *
  refine W.rt [(5, aT)] [] [((e:Int) != 0) = true] (by kernel_rfl) (ao (bne_iff_ne.2 (by omega)))
theorem pc_rCntS {N m : Nat} {bs : List Int} {r : Rd} (hr : r.In bs N) (hN : N ≤ 1000000) (hm : m < 18446744073709551616) (h0 : r.e = 0) (hs : r.s.length = 0) : PC Tryd.prog G0 67 [] [inPV r, .int .u64 m] [] (cntPV r m) := by
  refine PC.of (fn := Tryd.f67) (c := bodyOf Tryd.f67) Tryd.func67 (by kernel_rfl) (by kernel_rfl) (by kernel_rfl) (by kernel_rfl) ?_
  have a0 : at0 r.s 0 = 0 := by rw [List.eq_nil_of_length_eq_zero hs]; rfl
  have hve : r.ve m = 2 := by unfold Rd.ve; rw [if_pos h0, a0]; exact if_pos (by show r.s.length < 1 + 0; omega)
  obtain ⟨q1, q2⟩ := Rd.var_of hve (by omega)
  unfold cntPV
  rw [q1, q2]
  have hsz : (strOf r.s).size = 0 := by rw [strOf_size, hs]
  unfold inPV
  rw [h0]
  dsimp only
  generalize strOf r.s = s at *
  refine W.rt [(4, aV (I6 0)), (10, aF), (15, aV (I6 1)), (16, aT)] [] [I6 (↑(0 : Nat) : Int) = I6 0, decide ((↑(ByteArray.size s) : Int) > 0) = false, I6 (IntKind.wrap .i64 ((1 : Int) + (0 : Int))) = I6 1, decide ((↑(ByteArray.size s) : Int) < 1) = true] (by kernel_rfl) (ac (cg (by omega)) (ac (dF (by omega)) (ac (cg (w_i64 rfl (by omega) (by omega))) (ao (dT (by omega))))))
end Go.Proofs
namespace Go.Proofs
open Go Go.Pe Go.Pm
set_option maxRecDepth 100000
set_option linter.unusedVariables false
set_option maxHeartbeats 8000000 in
theorem pc_rCnt0 {N m : Nat} {bs : List Int} {r : Rd} (hr : r.In bs N) (hN : N ≤ 1000000) (hm : m < 18446744073709551616) (h0 : r.e = 0) (hs : 0 < r.s.length) (hw : at0 r.s 0 ≠ 253 ∧ at0 r.s 0 ≠ 254 ∧ at0 r.s 0 ≠ 255) : PC Tryd.prog G0 67 [] [inPV r, .int .u64 m] [] (cntPV r m) := by
  refine PC.of (fn := Tryd.f67) (c := bodyOf Tryd.f67) Tryd.func67 (by kernel_rfl) (by kernel_rfl) (by kernel_rfl) (by kernel_rfl) ?_
  have hle := hr.le
  have hx := at0_lt hr.bytes 0
  have hb0 := byte0 hr.bytes hs
  have w0 : wdt (at0 r.s 0) = 0 := by unfold wdt; rw [if_neg hw.1, if_neg hw.2.1, if_neg hw.2.2]
  have hsz : (strOf r.s).size = r.s.length := strOf_size _
  have hsb : (strOf r.s).size ≤ 1000000 := by omega
  obtain ⟨n1, n2, n3⟩ := hw
  have b1 : ¬ ((at0 r.s 0 : Int) = 253) := by omega
  have b2 : ¬ ((at0 r.s 0 : Int) = 254) := by omega
  have b3 : ¬ ((at0 r.s 0 : Int) = 255) := by omega
  unfold cntPV
  by_cases hsh : r.s.length < 1 + 0
  · have hve : r.ve m = 2 := by unfold Rd.ve; rw [if_pos h0, w0, if_pos hsh]
    obtain ⟨q1, q2⟩ := Rd.var_of hve (by omega)
    rw [q1, q2]
    unfold inPV
    rw [h0]
    rw [← hsz] at hsh
    dsimp only
    clear q1 q2 hve
    generalize at0 r.s 0 = x at *
    generalize strOf r.s = s at *
    refine W.rt [(4, aV (I6 0)), (10, aT), (13, aV (U8 (x:Int))), (14, aT), (21, aV (I6 3)), (22, aT)] [] [I6 (↑(0 : Nat) : Int) = I6 0, decide ((↑(ByteArray.size s) : Int) > 0) = true, U8 (byteAt s (0 : Int)) = U8 (x:Int), (0 : Int) ≤ (0 : Int), 0 < (↑(ByteArray.size s) : Int), ((x:Int) == 253) = true, I6 (IntKind.wrap .i64 ((1 : Int) + (2 : Int))) = I6 3, decide ((↑(ByteArray.size s) : Int) < 3) = true] (by kernel_rfl) (ac (cg (by omega)) (ac (dT (by omega)) (ac (cg (hb0)) (ac (by omega) (ac (by omega) (ac (dT (by omega)) (ac (cg (w_i64 rfl (by omega) (by omega))) (ao (dT (by omega))))))))))
  · have hl : 1 + wdt (at0 r.s 0) ≤ r.s.length := by rw [w0]; omega
    have hcan := vb_vraw hr.bytes hl
    have hvl := vraw_lt hr.bytes
    have cv := pc_rVb hvl
    have hve : r.ve m = if vraw r.s < lst (at0 r.s 0) then 3 else if m < vraw r.s then 4 else 0 := by unfold Rd.ve; rw [if_pos h0, w0, if_neg hsh]
    have hmid : (strOf r.s).extract 0 1 = strOf (r.s.take 1) := strOf_take r.s 1
    have htk : (strOf r.s).extract 0 1 = strOf (r.s.take (1 + 0)) := strOf_take r.s (1 + 0)
    have hdr : (strOf r.s).extract 1 (strOf r.s).size = strOf (r.s.drop (1 + 0)) := strOf_drop r.s (1 + 0)
    have hval : lv (bytesOf (strOf (r.s.take 1))) (strOf (r.s.take 1)).size = vraw r.s := by
      rw [bytesOf_strOf (hr.bytes.take 1), strOf_size, List.length_take, Nat.min_eq_left (by omega)]
      unfold vraw
      rw [if_pos w0, lv_take (Nat.le_refl _), lv_one]
    have cval := pc_value01 (s := strOf (r.s.take 1)) (nl := false) (by rw [strOf_size, List.length_take]; omega)
    rw [hval] at cval
    have hbl := bytesOf_length (strOf (r.s.take 1))
    have hms : (strOf (r.s.take 1)).size ≤ 8 := by rw [strOf_size, List.length_take]; omega
    rw [w0] at hcan
    rw [← hsz] at hsh
    rw [← hmid] at cval hbl hms
    have hbs := bytesOf_bytes ((strOf r.s).extract 0 1)
    by_cases hlt : vraw r.s < lst (at0 r.s 0)
    · rw [if_pos hlt] at hve
      obtain ⟨q1, q2⟩ := Rd.var_of hve (by omega)
      have hneS : ¬ strOf (vb (vraw r.s)) = strOf (r.s.take (1 + 0)) := fun h => (hcan.1 (strOf_inj (vb_bytes _) (hr.bytes.take _) h)) hlt
      rw [← htk] at hneS
      have hneS := ba_neT hneS
      rw [q1, q2]
      unfold inPV
      rw [h0]
      dsimp only
      clear q1 q2 hve hcan hlt hval htk hmid
      generalize strOf (vb (vraw r.s)) = sv at *
      generalize vraw r.s = v at *
      generalize at0 r.s 0 = x at *
      generalize strOf r.s = s at *
      refine W.rt [(4, aV (I6 0)), (10, aT), (13, aV (U8 (x:Int))), (14, aF), (16, aF), (18, aF), (24, aV (I6 1)), (25, aF), (29, aV (I6 1)), (40, cL true [] cval), (43, c9 cv), (47, aV (I6 1)), (49, aT)] [] [I6 (↑(0 : Nat) : Int) = I6 0, decide ((↑(ByteArray.size s) : Int) > 0) = true, U8 (byteAt s (0 : Int)) = U8 (x:Int), (0 : Int) ≤ (0 : Int), 0 < (↑(ByteArray.size s) : Int), ((x:Int) == 253) = false, ((x:Int) == 254) = false, ((x:Int) == 255) = false, I6 (IntKind.wrap .i64 ((1 : Int) + (0 : Int))) = I6 1, decide ((↑(ByteArray.size s) : Int) < 1) = false, I6 (IntKind.wrap .i64 ((1 : Int) + (0 : Int))) = I6 1, (0 : Int) ≤ (1 : Int), (1 : Int) ≤ (1 : Int), 1 ≤ (↑(ByteArray.size s) : Int), (0 : Int) ≤ (0 : Int), (0 : Int) ≤ (1 : Int), 1 ≤ (↑(ByteArray.size s) : Int), 0 + ByteArray.size (ByteArray.extract s 0 1) ≤ ByteArray.size (ByteArray.extract s 0 1), rr ([] : List (Nat × Row)), ([PV.vec false (B8 (ByteArray.size (ByteArray.extract s 0 1)) (List.take (ByteArray.size (ByteArray.extract s 0 1)) (bytesOf (ByteArray.extract s 0 1))))] : List PV) = [PV.vec false (B8 (ByteArray.size (ByteArray.extract s 0 1)) (bytesOf (ByteArray.extract s 0 1)))], _, _, I6 (IntKind.wrap .i64 ((1 : Int) + (0 : Int))) = I6 1, (0 : Int) ≤ (0 : Int), (0 : Int) ≤ (1 : Int), 1 ≤ (↑(ByteArray.size s) : Int), (!ByteArray.toList sv == ByteArray.toList (ByteArray.extract s 0 1)) = true] (by kernel_rfl) (ac (cg (by omega)) (ac (dT (by omega)) (ac (cg (hb0)) (ac (by omega) (ac (by omega) (ac (dF (by omega)) (ac (dF (by omega)) (ac (dF (by omega)) (ac (cg (w_i64 rfl (by omega) (by omega))) (ac (dF (by omega)) (ac (cg (w_i64 rfl (by omega) (by omega))) (ac (by omega) (ac (by omega) (ac (by omega) (ac (by omega) (ac (by omega) (ac (by omega) (ac (by omega) (ac rfl (ac (by rw [List.take_of_length_le (show List.length (bytesOf (ByteArray.extract s 0 1)) ≤ ByteArray.size (ByteArray.extract s 0 1) by omega)]) (ac (cval) (ac (cv) (ac (cg (w_i64 rfl (by omega) (by omega))) (ac (by omega) (ac (by omega) (ac (by omega) (ao (by assumption))))))))))))))))))))))))))))
    · rw [if_neg hlt] at hve
      have heS : strOf (vb (vraw r.s)) = strOf (r.s.take (1 + 0)) := by rw [hcan.2 hlt]
      rw [← htk] at heS
      have heS := ba_neF heS
      by_cases hgt : m < vraw r.s
      · rw [if_pos hgt] at hve
        obtain ⟨q1, q2⟩ := Rd.var_of hve (by omega)
        rw [q1, q2]
        unfold inPV
        rw [h0]
        dsimp only
        clear q1 q2 hve hcan hlt hval htk hmid
        generalize strOf (vb (vraw r.s)) = sv at *
        generalize vraw r.s = v at *
        generalize at0 r.s 0 = x at *
        generalize strOf r.s = s at *
        refine W.rt [(4, aV (I6 0)), (10, aT), (13, aV (U8 (x:Int))), (14, aF), (16, aF), (18, aF), (24, aV (I6 1)), (25, aF), (29, aV (I6 1)), (40, cL true [] cval), (43, c9 cv), (47, aV (I6 1)), (49, aF), (52, aT)] [] [I6 (↑(0 : Nat) : Int) = I6 0, decide ((↑(ByteArray.size s) : Int) > 0) = true, U8 (byteAt s (0 : Int)) = U8 (x:Int), (0 : Int) ≤ (0 : Int), 0 < (↑(ByteArray.size s) : Int), ((x:Int) == 253) = false, ((x:Int) == 254) = false, ((x:Int) == 255) = false, I6 (IntKind.wrap .i64 ((1 : Int) + (0 : Int))) = I6 1, decide ((↑(ByteArray.size s) : Int) < 1) = false, I6 (IntKind.wrap .i64 ((1 : Int) + (0 : Int))) = I6 1, (0 : Int) ≤ (1 : Int), (1 : Int) ≤ (1 : Int), 1 ≤ (↑(ByteArray.size s) : Int), (0 : Int) ≤ (0 : Int), (0 : Int) ≤ (1 : Int), 1 ≤ (↑(ByteArray.size s) : Int), 0 + ByteArray.size (ByteArray.extract s 0 1) ≤ ByteArray.size (ByteArray.extract s 0 1), rr ([] : List (Nat × Row)), ([PV.vec false (B8 (ByteArray.size (ByteArray.extract s 0 1)) (List.take (ByteArray.size (ByteArray.extract s 0 1)) (bytesOf (ByteArray.extract s 0 1))))] : List PV) = [PV.vec false (B8 (ByteArray.size (ByteArray.extract s 0 1)) (bytesOf (ByteArray.extract s 0 1)))], _, _, I6 (IntKind.wrap .i64 ((1 : Int) + (0 : Int))) = I6 1, (0 : Int) ≤ (0 : Int), (0 : Int) ≤ (1 : Int), 1 ≤ (↑(ByteArray.size s) : Int), (!ByteArray.toList sv == ByteArray.toList (ByteArray.extract s 0 1)) = false, decide ((v:Int) > (m:Int)) = true] (by kernel_rfl) (ac (cg (by omega)) (ac (dT (by omega)) (ac (cg (hb0)) (ac (by omega) (ac (by omega) (ac (dF (by omega)) (ac (dF (by omega)) (ac (dF (by omega)) (ac (cg (w_i64 rfl (by omega) (by omega))) (ac (dF (by omega)) (ac (cg (w_i64 rfl (by omega) (by omega))) (ac (by omega) (ac (by omega) (ac (by omega) (ac (by omega) (ac (by omega) (ac (by omega) (ac (by omega) (ac rfl (ac (by rw [List.take_of_length_le (show List.length (bytesOf (ByteArray.extract s 0 1)) ≤ ByteArray.size (ByteArray.extract s 0 1) by omega)]) (ac (cval) (ac (cv) (ac (cg (w_i64 rfl (by omega) (by omega))) (ac (by omega) (ac (by omega) (ac (by omega) (ac (by assumption) (ao (dT (by omega))))))))))))))))))))))))))))))
      · rw [if_neg hgt] at hve
        obtain ⟨q1, q2⟩ := Rd.var_ok hve
        rw [w0] at q1
        rw [q1, q2]
        unfold inPV
        rw [h0]
        dsimp only
        rw [← hdr]
        clear hdr
        clear q1 q2 hve hcan hlt hval htk hmid
        generalize strOf (vb (vraw r.s)) = sv at *
        generalize vraw r.s = v at *
        generalize at0 r.s 0 = x at *
        generalize strOf r.s = s at *
        refine W.rt [(4, aV (I6 0)), (10, aT), (13, aV (U8 (x:Int))), (14, aF), (16, aF), (18, aF), (24, aV (I6 1)), (25, aF), (29, aV (I6 1)), (40, cL true [] cval), (43, c9 cv), (47, aV (I6 1)), (49, aF), (52, aF), (56, aV (I6 1)), (57, aV (PV.str (ByteArray.extract s 1 (ByteArray.size s))))] [] [I6 (↑(0 : Nat) : Int) = I6 0, decide ((↑(ByteArray.size s) : Int) > 0) = true, U8 (byteAt s (0 : Int)) = U8 (x:Int), (0 : Int) ≤ (0 : Int), 0 < (↑(ByteArray.size s) : Int), ((x:Int) == 253) = false, ((x:Int) == 254) = false, ((x:Int) == 255) = false, I6 (IntKind.wrap .i64 ((1 : Int) + (0 : Int))) = I6 1, decide ((↑(ByteArray.size s) : Int) < 1) = false, I6 (IntKind.wrap .i64 ((1 : Int) + (0 : Int))) = I6 1, (0 : Int) ≤ (1 : Int), (1 : Int) ≤ (1 : Int), 1 ≤ (↑(ByteArray.size s) : Int), (0 : Int) ≤ (0 : Int), (0 : Int) ≤ (1 : Int), 1 ≤ (↑(ByteArray.size s) : Int), 0 + ByteArray.size (ByteArray.extract s 0 1) ≤ ByteArray.size (ByteArray.extract s 0 1), rr ([] : List (Nat × Row)), ([PV.vec false (B8 (ByteArray.size (ByteArray.extract s 0 1)) (List.take (ByteArray.size (ByteArray.extract s 0 1)) (bytesOf (ByteArray.extract s 0 1))))] : List PV) = [PV.vec false (B8 (ByteArray.size (ByteArray.extract s 0 1)) (bytesOf (ByteArray.extract s 0 1)))], _, _, I6 (IntKind.wrap .i64 ((1 : Int) + (0 : Int))) = I6 1, (0 : Int) ≤ (0 : Int), (0 : Int) ≤ (1 : Int), 1 ≤ (↑(ByteArray.size s) : Int), (!ByteArray.toList sv == ByteArray.toList (ByteArray.extract s 0 1)) = false, decide ((v:Int) > (m:Int)) = false, I6 (IntKind.wrap .i64 ((1 : Int) + (0 : Int))) = I6 1, PV.str (ByteArray.extract s 1 (Int.toNat (↑(ByteArray.size s) : Int))) = PV.str (ByteArray.extract s 1 (ByteArray.size s)), (0 : Int) ≤ (1 : Int), 1 ≤ (↑(ByteArray.size s) : Int), (↑(ByteArray.size s) : Int) ≤ (↑(ByteArray.size s) : Int)] (by kernel_rfl) (ac (cg (by omega)) (ac (dT (by omega)) (ac (cg (hb0)) (ac (by omega) (ac (by omega) (ac (dF (by omega)) (ac (dF (by omega)) (ac (dF (by omega)) (ac (cg (w_i64 rfl (by omega) (by omega))) (ac (dF (by omega)) (ac (cg (w_i64 rfl (by omega) (by omega))) (ac (by omega) (ac (by omega) (ac (by omega) (ac (by omega) (ac (by omega) (ac (by omega) (ac (by omega) (ac rfl (ac (by rw [List.take_of_length_le (show List.length (bytesOf (ByteArray.extract s 0 1)) ≤ ByteArray.size (ByteArray.extract s 0 1) by omega)]) (ac (cval) (ac (cv) (ac (cg (w_i64 rfl (by omega) (by omega))) (ac (by omega) (ac (by omega) (ac (by omega) (ac (by assumption) (ac (dF (by omega)) (ac (cg (w_i64 rfl (by omega) (by omega))) (ac (by rw [show Int.toNat (↑(ByteArray.size s) : Int) = ByteArray.size s by omega]) (ac (by omega) (ac (by omega) (ao (by omega))))))))))))))))))))))))))))))))))
end Go.Proofs
namespace Go.Proofs
open Go Go.Pe Go.Pm
set_option maxRecDepth 100000
set_option linter.unusedVariables false
set_option maxHeartbeats 8000000 in
theorem pc_rCnt2 {N m : Nat} {bs : List Int} {r : Rd} (hr : r.In bs N) (hN : N ≤ 1000000) (hm : m < 18446744073709551616) (h0 : r.e = 0) (hs : 0 < r.s.length) (hw : at0 r.s 0 = 253) : PC Tryd.prog G0 67 [] [inPV r, .int .u64 m] [] (cntPV r m) := by
  refine PC.of (fn := Tryd.f67) (c := bodyOf Tryd.f67) Tryd.func67 (by kernel_rfl) (by kernel_rfl) (by kernel_rfl) (by kernel_rfl) ?_
  have hle := hr.le
  have hx := at0_lt hr.bytes 0
  have hb0 := byte0 hr.bytes hs
  have w0 : wdt (at0 r.s 0) = 2 := by rw [hw]; rfl
  have hsz : (strOf r.s).size = r.s.length := strOf_size _
  have hsb : (strOf r.s).size ≤ 1000000 := by omega
  unfold cntPV
  by_cases hsh : r.s.length < 1 + 2
  · have hve : r.ve m = 2 := by unfold Rd.ve; rw [if_pos h0, w0, if_pos hsh]
    obtain ⟨q1, q2⟩ := Rd.var_of hve (by omega)
    rw [q1, q2]
    unfold inPV
    rw [h0]
    rw [← hsz] at hsh
    dsimp only
    clear q1 q2 hve
    generalize at0 r.s 0 = x at *
    generalize strOf r.s = s at *
    subst hw
    refine W.rt [(4, aV (I6 0)), (10, aT), (13, aV (U8 (↑(253 : Nat) : Int))), (21, aV (I6 3)), (22, aT)] [] [I6 (↑(0 : Nat) : Int) = I6 0, decide ((↑(ByteArray.size s) : Int) > 0) = true, U8 (byteAt s (0 : Int)) = U8 (↑(253 : Nat) : Int), (0 : Int) ≤ (0 : Int), 0 < (↑(ByteArray.size s) : Int), I6 (IntKind.wrap .i64 ((1 : Int) + (2 : Int))) = I6 3, decide ((↑(ByteArray.size s) : Int) < 3) = true] (by kernel_rfl) (ac (cg (by omega)) (ac (dT (by omega)) (ac (cg (hb0)) (ac (by omega) (ac (by omega) (ac (cg (w_i64 rfl (by omega) (by omega))) (ao (dT (by omega)))))))))
  · have hl : 1 + wdt (at0 r.s 0) ≤ r.s.length := by rw [w0]; omega
    have hcan := vb_vraw hr.bytes hl
    have hvl := vraw_lt hr.bytes
    have cv := pc_rVb hvl
    have hve : r.ve m = if vraw r.s < lst (at0 r.s 0) then 3 else if m < vraw r.s then 4 else 0 := by unfold Rd.ve; rw [if_pos h0, w0, if_neg hsh]
    have hmid : (strOf r.s).extract 1 3 = strOf ((r.s.drop 1).take 2) := strOf_mid r.s 2
    have htk : (strOf r.s).extract 0 3 = strOf (r.s.take (1 + 2)) := strOf_take r.s (1 + 2)
    have hdr : (strOf r.s).extract 3 (strOf r.s).size = strOf (r.s.drop (1 + 2)) := strOf_drop r.s (1 + 2)
    have hval : lv (bytesOf (strOf ((r.s.drop 1).take 2))) (strOf ((r.s.drop 1).take 2)).size = vraw r.s := by
      rw [bytesOf_strOf ((hr.bytes.drop 1).take 2), strOf_size, List.length_take, List.length_drop, Nat.min_eq_left (by omega)]
      unfold vraw
      rw [w0, if_neg (by omega), lv_take (Nat.le_refl _)]
    have cval := pc_value01 (s := strOf ((r.s.drop 1).take 2)) (nl := false) (by rw [strOf_size, List.length_take]; omega)
    rw [hval] at cval
    have hbl := bytesOf_length (strOf ((r.s.drop 1).take 2))
    have hms : (strOf ((r.s.drop 1).take 2)).size ≤ 8 := by rw [strOf_size, List.length_take]; omega
    rw [w0] at hcan
    rw [← hsz] at hsh
    rw [← hmid] at cval hbl hms
    have hbs := bytesOf_bytes ((strOf r.s).extract 1 3)
    by_cases hlt : vraw r.s < lst (at0 r.s 0)
    · rw [if_pos hlt] at hve
      obtain ⟨q1, q2⟩ := Rd.var_of hve (by omega)
      have hneS : ¬ strOf (vb (vraw r.s)) = strOf (r.s.take (1 + 2)) := fun h => (hcan.1 (strOf_inj (vb_bytes _) (hr.bytes.take _) h)) hlt
      rw [← htk] at hneS
      have hneS := ba_neT hneS
      rw [q1, q2]
      unfold inPV
      rw [h0]
      dsimp only
      clear q1 q2 hve hcan hlt hval htk hmid
      generalize strOf (vb (vraw r.s)) = sv at *
      generalize vraw r.s = v at *
      generalize at0 r.s 0 = x at *
      generalize strOf r.s = s at *
      subst hw
      refine W.rt [(4, aV (I6 0)), (10, aT), (13, aV (U8 (↑(253 : Nat) : Int))), (21, aV (I6 3)), (22, aF), (26, aV (I6 3)), (33, cL true [] cval), (36, c9 cv), (40, aV (I6 3)), (42, aT)] [] [I6 (↑(0 : Nat) : Int) = I6 0, decide ((↑(ByteArray.size s) : Int) > 0) = true, U8 (byteAt s (0 : Int)) = U8 (↑(253 : Nat) : Int), (0 : Int) ≤ (0 : Int), 0 < (↑(ByteArray.size s) : Int), I6 (IntKind.wrap .i64 ((1 : Int) + (2 : Int))) = I6 3, decide ((↑(ByteArray.size s) : Int) < 3) = false, I6 (IntKind.wrap .i64 ((1 : Int) + (2 : Int))) = I6 3, (0 : Int) ≤ (1 : Int), (1 : Int) ≤ (3 : Int), 3 ≤ (↑(ByteArray.size s) : Int), 0 + ByteArray.size (ByteArray.extract s 1 3) ≤ ByteArray.size (ByteArray.extract s 1 3), rr ([] : List (Nat × Row)), ([PV.vec false (B8 (ByteArray.size (ByteArray.extract s 1 3)) (List.take (ByteArray.size (ByteArray.extract s 1 3)) (bytesOf (ByteArray.extract s 1 3))))] : List PV) = [PV.vec false (B8 (ByteArray.size (ByteArray.extract s 1 3)) (bytesOf (ByteArray.extract s 1 3)))], _, _, I6 (IntKind.wrap .i64 ((1 : Int) + (2 : Int))) = I6 3, (0 : Int) ≤ (0 : Int), (0 : Int) ≤ (3 : Int), 3 ≤ (↑(ByteArray.size s) : Int), (!ByteArray.toList sv == ByteArray.toList (ByteArray.extract s 0 3)) = true] (by kernel_rfl) (ac (cg (by omega)) (ac (dT (by omega)) (ac (cg (hb0)) (ac (by omega) (ac (by omega) (ac (cg (w_i64 rfl (by omega) (by omega))) (ac (dF (by omega)) (ac (cg (w_i64 rfl (by omega) (by omega))) (ac (by omega) (ac (by omega) (ac (by omega) (ac (by omega) (ac rfl (ac (by rw [List.take_of_length_le (show List.length (bytesOf (ByteArray.extract s 1 3)) ≤ ByteArray.size (ByteArray.extract s 1 3) by omega)]) (ac (cval) (ac (cv) (ac (cg (w_i64 rfl (by omega) (by omega))) (ac (by omega) (ac (by omega) (ac (by omega) (ao (by assumption))))))))))))))))))))))
    · rw [if_neg hlt] at hve
      have heS : strOf (vb (vraw r.s)) = strOf (r.s.take (1 + 2)) := by rw [hcan.2 hlt]
      rw [← htk] at heS
      have heS := ba_neF heS
      by_cases hgt : m < vraw r.s
      · rw [if_pos hgt] at hve
        obtain ⟨q1, q2⟩ := Rd.var_of hve (by omega)
        rw [q1, q2]
        unfold inPV
        rw [h0]
        dsimp only
        clear q1 q2 hve hcan hlt hval htk hmid
        generalize strOf (vb (vraw r.s)) = sv at *
        generalize vraw r.s = v at *
        generalize at0 r.s 0 = x at *
        generalize strOf r.s = s at *
        subst hw
        refine W.rt [(4, aV (I6 0)), (10, aT), (13, aV (U8 (↑(253 : Nat) : Int))), (21, aV (I6 3)), (22, aF), (26, aV (I6 3)), (33, cL true [] cval), (36, c9 cv), (40, aV (I6 3)), (42, aF), (45, aT)] [] [I6 (↑(0 : Nat) : Int) = I6 0, decide ((↑(ByteArray.size s) : Int) > 0) = true, U8 (byteAt s (0 : Int)) = U8 (↑(253 : Nat) : Int), (0 : Int) ≤ (0 : Int), 0 < (↑(ByteArray.size s) : Int), I6 (IntKind.wrap .i64 ((1 : Int) + (2 : Int))) = I6 3, decide ((↑(ByteArray.size s) : Int) < 3) = false, I6 (IntKind.wrap .i64 ((1 : Int) + (2 : Int))) = I6 3, (0 : Int) ≤ (1 : Int), (1 : Int) ≤ (3 : Int), 3 ≤ (↑(ByteArray.size s) : Int), 0 + ByteArray.size (ByteArray.extract s 1 3) ≤ ByteArray.size (ByteArray.extract s 1 3), rr ([] : List (Nat × Row)), ([PV.vec false (B8 (ByteArray.size (ByteArray.extract s 1 3)) (List.take (ByteArray.size (ByteArray.extract s 1 3)) (bytesOf (ByteArray.extract s 1 3))))] : List PV) = [PV.vec false (B8 (ByteArray.size (ByteArray.extract s 1 3)) (bytesOf (ByteArray.extract s 1 3)))], _, _, I6 (IntKind.wrap .i64 ((1 : Int) + (2 : Int))) = I6 3, (0 : Int) ≤ (0 : Int), (0 : Int) ≤ (3 : Int), 3 ≤ (↑(ByteArray.size s) : Int), (!ByteArray.toList sv == ByteArray.toList (ByteArray.extract s 0 3)) = false, decide ((v:Int) > (m:Int)) = true] (by kernel_rfl) (ac (cg (by omega)) (ac (dT (by omega)) (ac (cg (hb0)) (ac (by omega) (ac (by omega) (ac (cg (w_i64 rfl (by omega) (by omega))) (ac (dF (by omega)) (ac (cg (w_i64 rfl (by omega) (by omega))) (ac (by omega) (ac (by omega) (ac (by omega) (ac (by omega) (ac rfl (ac (by rw [List.take_of_length_le (show List.length (bytesOf (ByteArray.extract s 1 3)) ≤ ByteArray.size (ByteArray.extract s 1 3) by omega)]) (ac (cval) (ac (cv) (ac (cg (w_i64 rfl (by omega) (by omega))) (ac (by omega) (ac (by omega) (ac (by omega) (ac (by assumption) (ao (dT (by omega))))))))))))))))))))))))
      · rw [if_neg hgt] at hve
        obtain ⟨q1, q2⟩ := Rd.var_ok hve
        rw [w0] at q1
        rw [q1, q2]
        unfold inPV
        rw [h0]
        dsimp only
        rw [← hdr]
        clear hdr
        clear q1 q2 hve hcan hlt hval htk hmid
        generalize strOf (vb (vraw r.s)) = sv at *
        generalize vraw r.s = v at *
        generalize at0 r.s 0 = x at *
        generalize strOf r.s = s at *
        subst hw
        refine W.rt [(4, aV (I6 0)), (10, aT), (13, aV (U8 (↑(253 : Nat) : Int))), (21, aV (I6 3)), (22, aF), (26, aV (I6 3)), (33, cL true [] cval), (36, c9 cv), (40, aV (I6 3)), (42, aF), (45, aF), (49, aV (I6 3)), (50, aV (PV.str (ByteArray.extract s 3 (ByteArray.size s))))] [] [I6 (↑(0 : Nat) : Int) = I6 0, decide ((↑(ByteArray.size s) : Int) > 0) = true, U8 (byteAt s (0 : Int)) = U8 (↑(253 : Nat) : Int), (0 : Int) ≤ (0 : Int), 0 < (↑(ByteArray.size s) : Int), I6 (IntKind.wrap .i64 ((1 : Int) + (2 : Int))) = I6 3, decide ((↑(ByteArray.size s) : Int) < 3) = false, I6 (IntKind.wrap .i64 ((1 : Int) + (2 : Int))) = I6 3, (0 : Int) ≤ (1 : Int), (1 : Int) ≤ (3 : Int), 3 ≤ (↑(ByteArray.size s) : Int), 0 + ByteArray.size (ByteArray.extract s 1 3) ≤ ByteArray.size (ByteArray.extract s 1 3), rr ([] : List (Nat × Row)), ([PV.vec false (B8 (ByteArray.size (ByteArray.extract s 1 3)) (List.take (ByteArray.size (ByteArray.extract s 1 3)) (bytesOf (ByteArray.extract s 1 3))))] : List PV) = [PV.vec false (B8 (ByteArray.size (ByteArray.extract s 1 3)) (bytesOf (ByteArray.extract s 1 3)))], _, _, I6 (IntKind.wrap .i64 ((1 : Int) + (2 : Int))) = I6 3, (0 : Int) ≤ (0 : Int), (0 : Int) ≤ (3 : Int), 3 ≤ (↑(ByteArray.size s) : Int), (!ByteArray.toList sv == ByteArray.toList (ByteArray.extract s 0 3)) = false, decide ((v:Int) > (m:Int)) = false, I6 (IntKind.wrap .i64 ((1 : Int) + (2 : Int))) = I6 3, PV.str (ByteArray.extract s 3 (Int.toNat (↑(ByteArray.size s) : Int))) = PV.str (ByteArray.extract s 3 (ByteArray.size s)), (0 : Int) ≤ (3 : Int), 3 ≤ (↑(ByteArray.size s) : Int), (↑(ByteArray.size s) : Int) ≤ (↑(ByteArray.size s) : Int)] (by kernel_rfl) (ac (cg (by omega)) (ac (dT (by omega)) (ac (cg (hb0)) (ac (by omega) (ac (by omega) (ac (cg (w_i64 rfl (by omega) (by omega))) (ac (dF (by omega)) (ac (cg (w_i64 rfl (by omega) (by omega))) (ac (by omega) (ac (by omega) (ac (by omega) (ac (by omega) (ac rfl (ac (by rw [List.take_of_length_le (show List.length (bytesOf (ByteArray.extract s 1 3)) ≤ ByteArray.size (ByteArray.extract s 1 3) by omega)]) (ac (cval) (ac (cv) (ac (cg (w_i64 rfl (by omega) (by omega))) (ac (by omega) (ac (by omega) (ac (by omega) (ac (by assumption) (ac (dF (by omega)) (ac (cg (w_i64 rfl (by omega) (by omega))) (ac (by rw [show Int.toNat (↑(ByteArray.size s) : Int) = ByteArray.size s by omega]) (ac (by omega) (ac (by omega) (ao (by omega))))))))))))))))))))))))))))
end Go.Proofs
namespace Go.Proofs
open Go Go.Pe Go.Pm
set_option maxRecDepth 100000
set_option linter.unusedVariables false
set_option maxHeartbeats 8000000 in
theorem pc_rCnt4 {N m : Nat} {bs : List Int} {r : Rd} (hr : r.In bs N) (hN : N ≤ 1000000) (hm : m < 18446744073709551616) (h0 : r.e = 0) (hs : 0 < r.s.length) (hw : at0 r.s 0 = 254) : PC Tryd.prog G0 67 [] [inPV r, .int .u64 m] [] (cntPV r m) := by
  refine PC.of (fn := Tryd.f67) (c := bodyOf Tryd.f67) Tryd.func67 (by kernel_rfl) (by kernel_rfl) (by kernel_rfl) (by kernel_rfl) ?_
  have hle := hr.le
  have hx := at0_lt hr.bytes 0
  have hb0 := byte0 hr.bytes hs
  have w0 : wdt (at0 r.s 0) = 4 := by rw [hw]; rfl
  have hsz : (strOf r.s).size = r.s.length := strOf_size _
  have hsb : (strOf r.s).size ≤ 1000000 := by omega
  unfold cntPV
  by_cases hsh : r.s.length < 1 + 4
  · have hve : r.ve m = 2 := by unfold Rd.ve; rw [if_pos h0, w0, if_pos hsh]
    obtain ⟨q1, q2⟩ := Rd.var_of hve (by omega)
    rw [q1, q2]
    unfold inPV
    rw [h0]
    rw [← hsz] at hsh
    dsimp only
    clear q1 q2 hve
    generalize at0 r.s 0 = x at *
    generalize strOf r.s = s at *
    subst hw
    refine W.rt [(4, aV (I6 0)), (10, aT), (13, aV (U8 (↑(254 : Nat) : Int))), (23, aV (I6 5)), (24, aT)] [] [I6 (↑(0 : Nat) : Int) = I6 0, decide ((↑(ByteArray.size s) : Int) > 0) = true, U8 (byteAt s (0 : Int)) = U8 (↑(254 : Nat) : Int), (0 : Int) ≤ (0 : Int), 0 < (↑(ByteArray.size s) : Int), I6 (IntKind.wrap .i64 ((1 : Int) + (4 : Int))) = I6 5, decide ((↑(ByteArray.size s) : Int) < 5) = true] (by kernel_rfl) (ac (cg (by omega)) (ac (dT (by omega)) (ac (cg (hb0)) (ac (by omega) (ac (by omega) (ac (cg (w_i64 rfl (by omega) (by omega))) (ao (dT (by omega)))))))))
  · have hl : 1 + wdt (at0 r.s 0) ≤ r.s.length := by rw [w0]; omega
    have hcan := vb_vraw hr.bytes hl
    have hvl := vraw_lt hr.bytes
    have cv := pc_rVb hvl
    have hve : r.ve m = if vraw r.s < lst (at0 r.s 0) then 3 else if m < vraw r.s then 4 else 0 := by unfold Rd.ve; rw [if_pos h0, w0, if_neg hsh]
    have hmid : (strOf r.s).extract 1 5 = strOf ((r.s.drop 1).take 4) := strOf_mid r.s 4
    have htk : (strOf r.s).extract 0 5 = strOf (r.s.take (1 + 4)) := strOf_take r.s (1 + 4)
    have hdr : (strOf r.s).extract 5 (strOf r.s).size = strOf (r.s.drop (1 + 4)) := strOf_drop r.s (1 + 4)
    have hval : lv (bytesOf (strOf ((r.s.drop 1).take 4))) (strOf ((r.s.drop 1).take 4)).size = vraw r.s := by
      rw [bytesOf_strOf ((hr.bytes.drop 1).take 4), strOf_size, List.length_take, List.length_drop, Nat.min_eq_left (by omega)]
      unfold vraw
      rw [w0, if_neg (by omega), lv_take (Nat.le_refl _)]
    have cval := pc_value01 (s := strOf ((r.s.drop 1).take 4)) (nl := false) (by rw [strOf_size, List.length_take]; omega)
    rw [hval] at cval
    have hbl := bytesOf_length (strOf ((r.s.drop 1).take 4))
    have hms : (strOf ((r.s.drop 1).take 4)).size ≤ 8 := by rw [strOf_size, List.length_take]; omega
    rw [w0] at hcan
    rw [← hsz] at hsh
    rw [← hmid] at cval hbl hms
    have hbs := bytesOf_bytes ((strOf r.s).extract 1 5)
    by_cases hlt : vraw r.s < lst (at0 r.s 0)
    · rw [if_pos hlt] at hve
      obtain ⟨q1, q2⟩ := Rd.var_of hve (by omega)
      have hneS : ¬ strOf (vb (vraw r.s)) = strOf (r.s.take (1 + 4)) := fun h => (hcan.1 (strOf_inj (vb_bytes _) (hr.bytes.take _) h)) hlt
      rw [← htk] at hneS
      have hneS := ba_neT hneS
      rw [q1, q2]
      unfold inPV
      rw [h0]
      dsimp only
      clear q1 q2 hve hcan hlt hval htk hmid
      generalize strOf (vb (vraw r.s)) = sv at *
      generalize vraw r.s = v at *
      generalize at0 r.s 0 = x at *
      generalize strOf r.s = s at *
      subst hw
      refine W.rt [(4, aV (I6 0)), (10, aT), (13, aV (U8 (↑(254 : Nat) : Int))), (23, aV (I6 5)), (24, aF), (28, aV (I6 5)), (35, cL true [] cval), (38, c9 cv), (42, aV (I6 5)), (44, aT)] [] [I6 (↑(0 : Nat) : Int) = I6 0, decide ((↑(ByteArray.size s) : Int) > 0) = true, U8 (byteAt s (0 : Int)) = U8 (↑(254 : Nat) : Int), (0 : Int) ≤ (0 : Int), 0 < (↑(ByteArray.size s) : Int), I6 (IntKind.wrap .i64 ((1 : Int) + (4 : Int))) = I6 5, decide ((↑(ByteArray.size s) : Int) < 5) = false, I6 (IntKind.wrap .i64 ((1 : Int) + (4 : Int))) = I6 5, (0 : Int) ≤ (1 : Int), (1 : Int) ≤ (5 : Int), 5 ≤ (↑(ByteArray.size s) : Int), 0 + ByteArray.size (ByteArray.extract s 1 5) ≤ ByteArray.size (ByteArray.extract s 1 5), rr ([] : List (Nat × Row)), ([PV.vec false (B8 (ByteArray.size (ByteArray.extract s 1 5)) (List.take (ByteArray.size (ByteArray.extract s 1 5)) (bytesOf (ByteArray.extract s 1 5))))] : List PV) = [PV.vec false (B8 (ByteArray.size (ByteArray.extract s 1 5)) (bytesOf (ByteArray.extract s 1 5)))], _, _, I6 (IntKind.wrap .i64 ((1 : Int) + (4 : Int))) = I6 5, (0 : Int) ≤ (0 : Int), (0 : Int) ≤ (5 : Int), 5 ≤ (↑(ByteArray.size s) : Int), (!ByteArray.toList sv == ByteArray.toList (ByteArray.extract s 0 5)) = true] (by kernel_rfl) (ac (cg (by omega)) (ac (dT (by omega)) (ac (cg (hb0)) (ac (by omega) (ac (by omega) (ac (cg (w_i64 rfl (by omega) (by omega))) (ac (dF (by omega)) (ac (cg (w_i64 rfl (by omega) (by omega))) (ac (by omega) (ac (by omega) (ac (by omega) (ac (by omega) (ac rfl (ac (by rw [List.take_of_length_le (show List.length (bytesOf (ByteArray.extract s 1 5)) ≤ ByteArray.size (ByteArray.extract s 1 5) by omega)]) (ac (cval) (ac (cv) (ac (cg (w_i64 rfl (by omega) (by omega))) (ac (by omega) (ac (by omega) (ac (by omega) (ao (by assumption))))))))))))))))))))))
    · rw [if_neg hlt] at hve
      have heS : strOf (vb (vraw r.s)) = strOf (r.s.take (1 + 4)) := by rw [hcan.2 hlt]
      rw [← htk] at heS
      have heS := ba_neF heS
      by_cases hgt : m < vraw r.s
      · rw [if_pos hgt] at hve
        obtain ⟨q1, q2⟩ := Rd.var_of hve (by omega)
        rw [q1, q2]
        unfold inPV
        rw [h0]
        dsimp only
        clear q1 q2 hve hcan hlt hval htk hmid
        generalize strOf (vb (vraw r.s)) = sv at *
        generalize vraw r.s = v at *
        generalize at0 r.s 0 = x at *
        generalize strOf r.s = s at *
        subst hw
        refine W.rt [(4, aV (I6 0)), (10, aT), (13, aV (U8 (↑(254 : Nat) : Int))), (23, aV (I6 5)), (24, aF), (28, aV (I6 5)), (35, cL true [] cval), (38, c9 cv), (42, aV (I6 5)), (44, aF), (47, aT)] [] [I6 (↑(0 : Nat) : Int) = I6 0, decide ((↑(ByteArray.size s) : Int) > 0) = true, U8 (byteAt s (0 : Int)) = U8 (↑(254 : Nat) : Int), (0 : Int) ≤ (0 : Int), 0 < (↑(ByteArray.size s) : Int), I6 (IntKind.wrap .i64 ((1 : Int) + (4 : Int))) = I6 5, decide ((↑(ByteArray.size s) : Int) < 5) = false, I6 (IntKind.wrap .i64 ((1 : Int) + (4 : Int))) = I6 5, (0 : Int) ≤ (1 : Int), (1 : Int) ≤ (5 : Int), 5 ≤ (↑(ByteArray.size s) : Int), 0 + ByteArray.size (ByteArray.extract s 1 5) ≤ ByteArray.size (ByteArray.extract s 1 5), rr ([] : List (Nat × Row)), ([PV.vec false (B8 (ByteArray.size (ByteArray.extract s 1 5)) (List.take (ByteArray.size (ByteArray.extract s 1 5)) (bytesOf (ByteArray.extract s 1 5))))] : List PV) = [PV.vec false (B8 (ByteArray.size (ByteArray.extract s 1 5)) (bytesOf (ByteArray.extract s 1 5)))], _, _, I6 (IntKind.wrap .i64 ((1 : Int) + (4 : Int))) = I6 5, (0 : Int) ≤ (0 : Int), (0 : Int) ≤ (5 : Int), 5 ≤ (↑(ByteArray.size s) : Int), (!ByteArray.toList sv == ByteArray.toList (ByteArray.extract s 0 5)) = false, decide ((v:Int) > (m:Int)) = true] (by kernel_rfl) (ac (cg (by omega)) (ac (dT (by omega)) (ac (cg (hb0)) (ac (by omega) (ac (by omega) (ac (cg (w_i64 rfl (by omega) (by omega))) (ac (dF (by omega)) (ac (cg (w_i64 rfl (by omega) (by omega))) (ac (by omega) (ac (by omega) (ac (by omega) (ac (by omega) (ac rfl (ac (by rw [List.take_of_length_le (show List.length (bytesOf (ByteArray.extract s 1 5)) ≤ ByteArray.size (ByteArray.extract s 1 5) by omega)]) (ac (cval) (ac (cv) (ac (cg (w_i64 rfl (by omega) (by omega))) (ac (by omega) (ac (by omega) (ac (by omega) (ac (by assumption) (ao (dT (by omega))))))))))))))))))))))))
      · rw [if_neg hgt] at hve
        obtain ⟨q1, q2⟩ := Rd.var_ok hve
        rw [w0] at q1
        rw [q1, q2]
        unfold inPV
        rw [h0]
        dsimp only
        rw [← hdr]
        clear hdr
        clear q1 q2 hve hcan hlt hval htk hmid
        generalize strOf (vb (vraw r.s)) = sv at *
        generalize vraw r.s = v at *
        generalize at0 r.s 0 = x at *
        generalize strOf r.s = s at *
        subst hw
        refine W.rt [(4, aV (I6 0)), (10, aT), (13, aV (U8 (↑(254 : Nat) : Int))), (23, aV (I6 5)), (24, aF), (28, aV (I6 5)), (35, cL true [] cval), (38, c9 cv), (42, aV (I6 5)), (44, aF), (47, aF), (51, aV (I6 5)), (52, aV (PV.str (ByteArray.extract s 5 (ByteArray.size s))))] [] [I6 (↑(0 : Nat) : Int) = I6 0, decide ((↑(ByteArray.size s) : Int) > 0) = true, U8 (byteAt s (0 : Int)) = U8 (↑(254 : Nat) : Int), (0 : Int) ≤ (0 : Int), 0 < (↑(ByteArray.size s) : Int), I6 (IntKind.wrap .i64 ((1 : Int) + (4 : Int))) = I6 5, decide ((↑(ByteArray.size s) : Int) < 5) = false, I6 (IntKind.wrap .i64 ((1 : Int) + (4 : Int))) = I6 5, (0 : Int) ≤ (1 : Int), (1 : Int) ≤ (5 : Int), 5 ≤ (↑(ByteArray.size s) : Int), 0 + ByteArray.size (ByteArray.extract s 1 5) ≤ ByteArray.size (ByteArray.extract s 1 5), rr ([] : List (Nat × Row)), ([PV.vec false (B8 (ByteArray.size (ByteArray.extract s 1 5)) (List.take (ByteArray.size (ByteArray.extract s 1 5)) (bytesOf (ByteArray.extract s 1 5))))] : List PV) = [PV.vec false (B8 (ByteArray.size (ByteArray.extract s 1 5)) (bytesOf (ByteArray.extract s 1 5)))], _, _, I6 (IntKind.wrap .i64 ((1 : Int) + (4 : Int))) = I6 5, (0 : Int) ≤ (0 : Int), (0 : Int) ≤ (5 : Int), 5 ≤ (↑(ByteArray.size s) : Int), (!ByteArray.toList sv == ByteArray.toList (ByteArray.extract s 0 5)) = false, decide ((v:Int) > (m:Int)) = false, I6 (IntKind.wrap .i64 ((1 : Int) + (4 : Int))) = I6 5, PV.str (ByteArray.extract s 5 (Int.toNat (↑(ByteArray.size s) : Int))) = PV.str (ByteArray.extract s 5 (ByteArray.size s)), (0 : Int) ≤ (5 : Int), 5 ≤ (↑(ByteArray.size s) : Int), (↑(ByteArray.size s) : Int) ≤ (↑(ByteArray.size s) : Int)] (by kernel_rfl) (ac (cg (by omega)) (ac (dT (by omega)) (ac (cg (hb0)) (ac (by omega) (ac (by omega) (ac (cg (w_i64 rfl (by omega) (by omega))) (ac (dF (by omega)) (ac (cg (w_i64 rfl (by omega) (by omega))) (ac (by omega) (ac (by omega) (ac (by omega) (ac (by omega) (ac rfl (ac (by rw [List.take_of_length_le (show List.length (bytesOf (ByteArray.extract s 1 5)) ≤ ByteArray.size (ByteArray.extract s 1 5) by omega)]) (ac (cval) (ac (cv) (ac (cg (w_i64 rfl (by omega) (by omega))) (ac (by omega) (ac (by omega) (ac (by omega) (ac (by assumption) (ac (dF (by omega)) (ac (cg (w_i64 rfl (by omega) (by omega))) (ac (by rw [show Int.toNat (↑(ByteArray.size s) : Int) = ByteArray.size s by omega]) (ac (by omega) (ac (by omega) (ao (by omega))))))))))))))))))))))))))))
end Go.Proofs
namespace Go.Proofs
open Go Go.Pe Go.Pm
set_option maxRecDepth 100000
set_option linter.unusedVariables false
set_option maxHeartbeats 8000000 in
theorem pc_rCnt8 {N m : Nat} {bs : List Int} {r : Rd} (hr : r.In bs N) (hN : N ≤ 1000000) (hm : m < 18446744073709551616) (h0 : r.e = 0) (hs : 0 < r.s.length) (hw : at0 r.s 0 = 255) : PC Tryd.prog G0 67 [] [inPV r, .int .u64 m] [] (cntPV r m) := by
  refine PC.of (fn := Tryd.f67) (c := bodyOf Tryd.f67) Tryd.func67 (by kernel_rfl) (by kernel_rfl) (by kernel_rfl) (by kernel_rfl) ?_
  have hle := hr.le
  have hx := at0_lt hr.bytes 0
  have hb0 := byte0 hr.bytes hs
  have w0 : wdt (at0 r.s 0) = 8 := by rw [hw]; rfl
  have hsz : (strOf r.s).size = r.s.length := strOf_size _
  have hsb : (strOf r.s).size ≤ 1000000 := by omega
  unfold cntPV
  by_cases hsh : r.s.length < 1 + 8
  · have hve : r.ve m = 2 := by unfold Rd.ve; rw [if_pos h0, w0, if_pos hsh]
    obtain ⟨q1, q2⟩ := Rd.var_of hve (by omega)
    rw [q1, q2]
    unfold inPV
    rw [h0]
    rw [← hsz] at hsh
    dsimp only
    clear q1 q2 hve
    generalize at0 r.s 0 = x at *
    generalize strOf r.s = s at *
    subst hw
    refine W.rt [(4, aV (I6 0)), (10, aT), (13, aV (U8 (↑(255 : Nat) : Int))), (25, aV (I6 9)), (26, aT)] [] [I6 (↑(0 : Nat) : Int) = I6 0, decide ((↑(ByteArray.size s) : Int) > 0) = true, U8 (byteAt s (0 : Int)) = U8 (↑(255 : Nat) : Int), (0 : Int) ≤ (0 : Int), 0 < (↑(ByteArray.size s) : Int), I6 (IntKind.wrap .i64 ((1 : Int) + (8 : Int))) = I6 9, decide ((↑(ByteArray.size s) : Int) < 9) = true] (by kernel_rfl) (ac (cg (by omega)) (ac (dT (by omega)) (ac (cg (hb0)) (ac (by omega) (ac (by omega) (ac (cg (w_i64 rfl (by omega) (by omega))) (ao (dT (by omega)))))))))
  · have hl : 1 + wdt (at0 r.s 0) ≤ r.s.length := by rw [w0]; omega
    have hcan := vb_vraw hr.bytes hl
    have hvl := vraw_lt hr.bytes
    have cv := pc_rVb hvl
    have hve : r.ve m = if vraw r.s < lst (at0 r.s 0) then 3 else if m < vraw r.s then 4 else 0 := by unfold Rd.ve; rw [if_pos h0, w0, if_neg hsh]
    have hmid : (strOf r.s).extract 1 9 = strOf ((r.s.drop 1).take 8) := strOf_mid r.s 8
    have htk : (strOf r.s).extract 0 9 = strOf (r.s.take (1 + 8)) := strOf_take r.s (1 + 8)
    have hdr : (strOf r.s).extract 9 (strOf r.s).size = strOf (r.s.drop (1 + 8)) := strOf_drop r.s (1 + 8)
    have hval : lv (bytesOf (strOf ((r.s.drop 1).take 8))) (strOf ((r.s.drop 1).take 8)).size = vraw r.s := by
      rw [bytesOf_strOf ((hr.bytes.drop 1).take 8), strOf_size, List.length_take, List.length_drop, Nat.min_eq_left (by omega)]
      unfold vraw
      rw [w0, if_neg (by omega), lv_take (Nat.le_refl _)]
    have cval := pc_value01 (s := strOf ((r.s.drop 1).take 8)) (nl := false) (by rw [strOf_size, List.length_take]; omega)
    rw [hval] at cval
    have hbl := bytesOf_length (strOf ((r.s.drop 1).take 8))
    have hms : (strOf ((r.s.drop 1).take 8)).size ≤ 8 := by rw [strOf_size, List.length_take]; omega
    rw [w0] at hcan
    rw [← hsz] at hsh
    rw [← hmid] at cval hbl hms
    have hbs := bytesOf_bytes ((strOf r.s).extract 1 9)
    by_cases hlt : vraw r.s < lst (at0 r.s 0)
    · rw [if_pos hlt] at hve
      obtain ⟨q1, q2⟩ := Rd.var_of hve (by omega)
      have hneS : ¬ strOf (vb (vraw r.s)) = strOf (r.s.take (1 + 8)) := fun h => (hcan.1 (strOf_inj (vb_bytes _) (hr.bytes.take _) h)) hlt
      rw [← htk] at hneS
      have hneS := ba_neT hneS
      rw [q1, q2]
      unfold inPV
      rw [h0]
      dsimp only
      clear q1 q2 hve hcan hlt hval htk hmid
      generalize strOf (vb (vraw r.s)) = sv at *
      generalize vraw r.s = v at *
      generalize at0 r.s 0 = x at *
      generalize strOf r.s = s at *
      subst hw
      refine W.rt [(4, aV (I6 0)), (10, aT), (13, aV (U8 (↑(255 : Nat) : Int))), (25, aV (I6 9)), (26, aF), (30, aV (I6 9)), (37, cL true [] cval), (40, c9 cv), (44, aV (I6 9)), (46, aT)] [] [I6 (↑(0 : Nat) : Int) = I6 0, decide ((↑(ByteArray.size s) : Int) > 0) = true, U8 (byteAt s (0 : Int)) = U8 (↑(255 : Nat) : Int), (0 : Int) ≤ (0 : Int), 0 < (↑(ByteArray.size s) : Int), I6 (IntKind.wrap .i64 ((1 : Int) + (8 : Int))) = I6 9, decide ((↑(ByteArray.size s) : Int) < 9) = false, I6 (IntKind.wrap .i64 ((1 : Int) + (8 : Int))) = I6 9, (0 : Int) ≤ (1 : Int), (1 : Int) ≤ (9 : Int), 9 ≤ (↑(ByteArray.size s) : Int), 0 + ByteArray.size (ByteArray.extract s 1 9) ≤ ByteArray.size (ByteArray.extract s 1 9), rr ([] : List (Nat × Row)), ([PV.vec false (B8 (ByteArray.size (ByteArray.extract s 1 9)) (List.take (ByteArray.size (ByteArray.extract s 1 9)) (bytesOf (ByteArray.extract s 1 9))))] : List PV) = [PV.vec false (B8 (ByteArray.size (ByteArray.extract s 1 9)) (bytesOf (ByteArray.extract s 1 9)))], _, _, I6 (IntKind.wrap .i64 ((1 : Int) + (8 : Int))) = I6 9, (0 : Int) ≤ (0 : Int), (0 : Int) ≤ (9 : Int), 9 ≤ (↑(ByteArray.size s) : Int), (!ByteArray.toList sv == ByteArray.toList (ByteArray.extract s 0 9)) = true] (by kernel_rfl) (ac (cg (by omega)) (ac (dT (by omega)) (ac (cg (hb0)) (ac (by omega) (ac (by omega) (ac (cg (w_i64 rfl (by omega) (by omega))) (ac (dF (by omega)) (ac (cg (w_i64 rfl (by omega) (by omega))) (ac (by omega) (ac (by omega) (ac (by omega) (ac (by omega) (ac rfl (ac (by rw [List.take_of_length_le (show List.length (bytesOf (ByteArray.extract s 1 9)) ≤ ByteArray.size (ByteArray.extract s 1 9) by omega)]) (ac (cval) (ac (cv) (ac (cg (w_i64 rfl (by omega) (by omega))) (ac (by omega) (ac (by omega) (ac (by omega) (ao (by assumption))))))))))))))))))))))
    · rw [if_neg hlt] at hve
      have heS : strOf (vb (vraw r.s)) = strOf (r.s.take (1 + 8)) := by rw [hcan.2 hlt]
      rw [← htk] at heS
      have heS := ba_neF heS
      by_cases hgt : m < vraw r.s
      · rw [if_pos hgt] at hve
        obtain ⟨q1, q2⟩ := Rd.var_of hve (by omega)
        rw [q1, q2]
        unfold inPV
        rw [h0]
        dsimp only
        clear q1 q2 hve hcan hlt hval htk hmid
        generalize strOf (vb (vraw r.s)) = sv at *
        generalize vraw r.s = v at *
        generalize at0 r.s 0 = x at *
        generalize strOf r.s = s at *
        subst hw
        refine W.rt [(4, aV (I6 0)), (10, aT), (13, aV (U8 (↑(255 : Nat) : Int))), (25, aV (I6 9)), (26, aF), (30, aV (I6 9)), (37, cL true [] cval), (40, c9 cv), (44, aV (I6 9)), (46, aF), (49, aT)] [] [I6 (↑(0 : Nat) : Int) = I6 0, decide ((↑(ByteArray.size s) : Int) > 0) = true, U8 (byteAt s (0 : Int)) = U8 (↑(255 : Nat) : Int), (0 : Int) ≤ (0 : Int), 0 < (↑(ByteArray.size s) : Int), I6 (IntKind.wrap .i64 ((1 : Int) + (8 : Int))) = I6 9, decide ((↑(ByteArray.size s) : Int) < 9) = false, I6 (IntKind.wrap .i64 ((1 : Int) + (8 : Int))) = I6 9, (0 : Int) ≤ (1 : Int), (1 : Int) ≤ (9 : Int), 9 ≤ (↑(ByteArray.size s) : Int), 0 + ByteArray.size (ByteArray.extract s 1 9) ≤ ByteArray.size (ByteArray.extract s 1 9), rr ([] : List (Nat × Row)), ([PV.vec false (B8 (ByteArray.size (ByteArray.extract s 1 9)) (List.take (ByteArray.size (ByteArray.extract s 1 9)) (bytesOf (ByteArray.extract s 1 9))))] : List PV) = [PV.vec false (B8 (ByteArray.size (ByteArray.extract s 1 9)) (bytesOf (ByteArray.extract s 1 9)))], _, _, I6 (IntKind.wrap .i64 ((1 : Int) + (8 : Int))) = I6 9, (0 : Int) ≤ (0 : Int), (0 : Int) ≤ (9 : Int), 9 ≤ (↑(ByteArray.size s) : Int), (!ByteArray.toList sv == ByteArray.toList (ByteArray.extract s 0 9)) = false, decide ((v:Int) > (m:Int)) = true] (by kernel_rfl) (ac (cg (by omega)) (ac (dT (by omega)) (ac (cg (hb0)) (ac (by omega) (ac (by omega) (ac (cg (w_i64 rfl (by omega) (by omega))) (ac (dF (by omega)) (ac (cg (w_i64 rfl (by omega) (by omega))) (ac (by omega) (ac (by omega) (ac (by omega) (ac (by omega) (ac rfl (ac (by rw [List.take_of_length_le (show List.length (bytesOf (ByteArray.extract s 1 9)) ≤ ByteArray.size (ByteArray.extract s 1 9) by omega)]) (ac (cval) (ac (cv) (ac (cg (w_i64 rfl (by omega) (by omega))) (ac (by omega) (ac (by omega) (ac (by omega) (ac (by assumption) (ao (dT (by omega))))))))))))))))))))))))
      · rw [if_neg hgt] at hve
        obtain ⟨q1, q2⟩ := Rd.var_ok hve
        rw [w0] at q1
        rw [q1, q2]
        unfold inPV
        rw [h0]
        dsimp only
        rw [← hdr]
        clear hdr
        clear q1 q2 hve hcan hlt hval htk hmid
        generalize strOf (vb (vraw r.s)) = sv at *
        generalize vraw r.s = v at *
        generalize at0 r.s 0 = x at *
        generalize strOf r.s = s at *
        subst hw
        refine W.rt [(4, aV (I6 0)), (10, aT), (13, aV (U8 (↑(255 : Nat) : Int))), (25, aV (I6 9)), (26, aF), (30, aV (I6 9)), (37, cL true [] cval), (40, c9 cv), (44, aV (I6 9)), (46, aF), (49, aF), (53, aV (I6 9)), (54, aV (PV.str (ByteArray.extract s 9 (ByteArray.size s))))] [] [I6 (↑(0 : Nat) : Int) = I6 0, decide ((↑(ByteArray.size s) : Int) > 0) = true, U8 (byteAt s (0 : Int)) = U8 (↑(255 : Nat) : Int), (0 : Int) ≤ (0 : Int), 0 < (↑(ByteArray.size s) : Int), I6 (IntKind.wrap .i64 ((1 : Int) + (8 : Int))) = I6 9, decide ((↑(ByteArray.size s) : Int) < 9) = false, I6 (IntKind.wrap .i64 ((1 : Int) + (8 : Int))) = I6 9, (0 : Int) ≤ (1 : Int), (1 : Int) ≤ (9 : Int), 9 ≤ (↑(ByteArray.size s) : Int), 0 + ByteArray.size (ByteArray.extract s 1 9) ≤ ByteArray.size (ByteArray.extract s 1 9), rr ([] : List (Nat × Row)), ([PV.vec false (B8 (ByteArray.size (ByteArray.extract s 1 9)) (List.take (ByteArray.size (ByteArray.extract s 1 9)) (bytesOf (ByteArray.extract s 1 9))))] : List PV) = [PV.vec false (B8 (ByteArray.size (ByteArray.extract s 1 9)) (bytesOf (ByteArray.extract s 1 9)))], _, _, I6 (IntKind.wrap .i64 ((1 : Int) + (8 : Int))) = I6 9, (0 : Int) ≤ (0 : Int), (0 : Int) ≤ (9 : Int), 9 ≤ (↑(ByteArray.size s) : Int), (!ByteArray.toList sv == ByteArray.toList (ByteArray.extract s 0 9)) = false, decide ((v:Int) > (m:Int)) = false, I6 (IntKind.wrap .i64 ((1 : Int) + (8 : Int))) = I6 9, PV.str (ByteArray.extract s 9 (Int.toNat (↑(ByteArray.size s) : Int))) = PV.str (ByteArray.extract s 9 (ByteArray.size s)), (0 : Int) ≤ (9 : Int), 9 ≤ (↑(ByteArray.size s) : Int), (↑(ByteArray.size s) : Int) ≤ (↑(ByteArray.size s) : Int)] (by kernel_rfl) (ac (cg (by omega)) (ac (dT (by omega)) (ac (cg (hb0)) (ac (by omega) (ac (by omega) (ac (cg (w_i64 rfl (by omega) (by omega))) (ac (dF (by omega)) (ac (cg (w_i64 rfl (by omega) (by omega))) (ac (by omega) (ac (by omega) (ac (by omega) (ac (by omega) (ac rfl (ac (by rw [List.take_of_length_le (show List.length (bytesOf (ByteArray.extract s 1 9)) ≤ ByteArray.size (ByteArray.extract s 1 9) by omega)]) (ac (cval) (ac (cv) (ac (cg (w_i64 rfl (by omega) (by omega))) (ac (by omega) (ac (by omega) (ac (by omega) (ac (by assumption) (ac (dF (by omega)) (ac (cg (w_i64 rfl (by omega) (by omega))) (ac (by rw [show Int.toNat (↑(ByteArray.size s) : Int) = ByteArray.size s by omega]) (ac (by omega) (ac (by omega) (ao (by omega))))))))))))))))))))))))))))
end Go.Proofs
namespace Go.Proofs
open Go Go.Pe Go.Pm
set_option maxRecDepth 100000
set_option linter.unusedVariables false
theorem pc_rCnt {N m : Nat} {bs : List Int} {r : Rd} (hr : r.In bs N) (hN : N ≤ 1000000) (he : r.e ≤ 100) (hm : m < 18446744073709551616) : PC Tryd.prog G0 67 [] [inPV r, .int .u64 m] [] (cntPV r m) := by
  by_cases h0 : r.e = 0
  · by_cases hs : r.s.length = 0
    · exact pc_rCntS hr hN hm h0 hs
    · by_cases h2 : at0 r.s 0 = 253
      · exact pc_rCnt2 hr hN hm h0 (by omega) h2
      · by_cases h4 : at0 r.s 0 = 254
        · exact pc_rCnt4 hr hN hm h0 (by omega) h4
        · by_cases h8 : at0 r.s 0 = 255
          · exact pc_rCnt8 hr hN hm h0 (by omega) h8
          · exact pc_rCnt0 hr hN hm h0 (by omega) ⟨h2, h4, h8⟩
  · exact pc_rCntE hr hN he hm h0
theorem pc_rWords {N m : Nat} {bs : List Int} {r : Rd} (hr : r.In bs N) (hN : N ≤ 1000000) (he : r.e ≤ 100) (hm : m ≤ 1000000) : PC Tryd.prog G0 68 [] [inPV r, .int .i64 m] [] (.tup [inPV (r.wd m), .str (strOf (r.wv m))]) := by
  refine PC.of (fn := Tryd.f68) (c := bodyOf Tryd.f68) Tryd.func68 (by kernel_rfl) (by kernel_rfl) (by kernel_rfl) (by kernel_rfl) ?_
  have c1 := pc_rCnt (m := m) hr hN he (by omega)
  have hv := hr.var m
  have hvn := Rd.vn_le r m
  have hve : (r.var m).e = r.ve m := by
    unfold Rd.var
    split
    · rename_i h; exact h.symm
    · rfl
  have hveb := Rd.ve_e (m := m) he
  have c2 := pc_rTake (w := r.vn m) hv hN (by omega) (by omega)
  have hwe : ((r.var m).tk (r.vn m)).e = r.we m := by
    unfold Rd.tk Rd.we
    rw [hve]
    split
    · split <;> rfl
    · rw [hve]
  have hnil : strOf [] = ByteArray.empty := rfl
  unfold cntPV inPV at *
  by_cases h0 : r.we m = 0
  · have hv0 : r.ve m = 0 := by
      unfold Rd.we at h0
      split at h0
      · assumption
      · exact h0
    have hle : r.vn m ≤ (r.var m).s.length := by
      unfold Rd.we at h0
      rw [if_pos hv0] at h0
      split at h0
      · assumption
      · cases h0
    have e1 : r.wd m = ⟨(r.var m).s.drop (r.vn m), 0⟩ := by unfold Rd.wd; rw [if_pos h0]
    have e2 : r.wv m = (r.var m).s.take (r.vn m) := by unfold Rd.wv; rw [if_pos h0]
    have e3 : (r.var m).tk (r.vn m) = ⟨(r.var m).s.drop (r.vn m), 0⟩ := by unfold Rd.tk; rw [hve, if_pos hv0, if_pos hle]
    have e4 : (r.var m).tv (r.vn m) = (r.var m).s.take (r.vn m) := by unfold Rd.tv; rw [if_pos ⟨by rw [hve, hv0], hle⟩]
    rw [e3, e4] at c2
    rw [e1, e2]
    dsimp only at *
    clear hwe e1 e2 e3 e4
    generalize strOf ((r.var m).s.drop (r.vn m)) = s3 at *
    generalize strOf ((r.var m).s.take (r.vn m)) = s4 at *
    generalize strOf (r.var m).s = s2 at *
    generalize (r.var m).e = e2 at *
    generalize r.vn m = v at *
    generalize strOf r.s = s at *
    generalize r.e = e at *
    refine W.rt [(7, aV (U6 (m:Int))), (8, c9 c1), (17, aV (I6 (v:Int))), (18, c9 c2), (26, aV (I6 0))] [] [U6 (IntKind.wrap .u64 (m:Int)) = U6 (m:Int), _, I6 (IntKind.wrap .i64 (v:Int)) = I6 (v:Int), _, I6 (↑(0 : Nat) : Int) = I6 0] (by kernel_rfl) (ac (cg (w_u64 rfl (by omega) (by omega))) (ac (c1) (ac (cg (w_i64 rfl (by omega) (by omega))) (ac (c2) (ao (cg (by omega)))))))
  · have e1 : r.wd m = ⟨r.s, r.we m⟩ := by unfold Rd.wd; rw [if_neg h0]
    have e2 : r.wv m = [] := by unfold Rd.wv; rw [if_neg h0]
    rw [e1, e2, hnil]
    rw [hwe] at c2
    have hne : ¬ ((r.we m : Int) = 0) := by omega
    dsimp only at *
    clear hwe e1 e2
    generalize strOf ((r.var m).tk (r.vn m)).s = s3 at *
    generalize strOf ((r.var m).tv (r.vn m)) = s4 at *
    generalize strOf (r.var m).s = s2 at *
    generalize r.we m = w at *
    generalize (r.var m).e = e2 at *
    generalize r.vn m = v at *
    generalize strOf r.s = s at *
    generalize r.e = e at *
    refine W.ret [(7, aV (U6 (m:Int))), (8, c9 c1), (17, aV (I6 (v:Int))), (18, c9 c2), (27, aT)] [] [U6 (IntKind.wrap .u64 (m:Int)) = U6 (m:Int), _, I6 (IntKind.wrap .i64 (v:Int)) = I6 (v:Int), _, ((w:Int) != 0) = true, PV.tup [PV.st 2 [PV.str s, I6 (w:Int)], PV.str (ByteArray.mk #[])] = PV.tup [PV.st 2 [PV.str s, I6 (w:Int)], PV.str ByteArray.empty]] (by kernel_rfl) (ac (cg (w_u64 rfl (by omega) (by omega))) (ac (c1) (ac (cg (w_i64 rfl (by omega) (by omega))) (ac (c2) (ac (bne_iff_ne.2 (by omega)) (ao rfl))))))
end Go.Proofs
namespace Go.Proofs
open Go Go.Pe Go.Pm
set_option maxRecDepth 100000
set_option linter.unusedVariables false
def routPV (o : OutM) : PV := .st 2 [.int .u64 ((o.v : Nat) : Int), .str (strOf o.b)]
def rosh : Sh := .st 2 [.int .u64, .str]
def rzOuts : PV := .vec true (.parr 2 0 rosh [])
def rzTx : PV := .st 2 [.int .u64 0, rzOuts]
def routsPV (L : List OutM) : PV := if L = [] then rzOuts else .vec false (.parr 2 L.length rosh (L.map routPV))
def rtxRes (salt : Nat) (L : List OutM) (e : Nat) : PV := .tup [if e = 0 then .st 2 [.int .u64 salt, routsPV L] else rzTx, .int .i64 e]
def dsTr (salt n i : Nat) (s : ByteArray) (e : Nat) (M : List PV) : DS := ⟨[(2, .at 1 []), (4, .at 2 []), (6, .at 3 []), (7, .int .u64 n), (8, .int .u64 i)],
  [(1, ⟨rzTx, false⟩), (2, ⟨.st 2 [.str s, .int .i64 e], false⟩), (3, ⟨.st 2 [.int .u64 salt, .ref 4 [] 2 0 i], false⟩), (4, ⟨.parr 2 i rosh M, false⟩)]⟩
def dsTr0 (salt n : Nat) (s : ByteArray) (e : Nat) : DS := ⟨[(2, .at 1 []), (4, .at 2 []), (6, .at 3 []), (7, .int .u64 n), (8, .int .u64 0)],
  [(1, ⟨rzTx, false⟩), (2, ⟨.st 2 [.str s, .int .i64 e], false⟩), (3, ⟨.st 2 [.int .u64 salt, rzOuts], false⟩)]⟩
theorem W_rtx {N : Nat} {b : List Int} {salt n : Nat} (hN : N ≤ 1000000) (hn : n ≤ 8) : ∀ (k i : Nat) (r : Rd) (L : List OutM), L.length = i → 0 < i → i + k = n → r.In b N → r.e ≤ 100 →
    W Tryd.prog G0 Tryd.f51 [] [] (rtxRes salt (L ++ outsM k r) (endE (outsR k r))) (loopAt Tryd.f51 0) (dsTr salt n i (strOf r.s) r.e (L.map routPV))
  | 0, i, r, L, hL, hi, hk, hr, he => by
    have hle := hr.le
    have hMl : (L.map routPV).length = i := by rw [List.length_map, hL]
    have hLne : L ≠ [] := by intro e; rw [e] at hL; simp at hL; omega
    have hin : i = n := by omega
    have hsz : (strOf r.s).size = r.s.length := strOf_size _
    show W _ _ _ _ _ (rtxRes salt (L ++ []) (endE r)) _ _
    rw [List.append_nil]
    unfold rtxRes routsPV
    rw [if_neg hLne, hL]
    have hT : (L.map routPV).take i = L.map routPV := List.take_of_length_le (by omega)
    subst hin
    unfold endE
    by_cases h0 : r.e = 0
    · rw [if_pos h0, h0]
      by_cases hs : r.s = []
      · rw [if_pos hs, if_pos rfl]
        have hz : (strOf r.s).size = 0 := by rw [hsz, hs]; rfl
        generalize L.map routPV = M at *
        generalize strOf r.s = s at *
        unfold dsTr rzTx rzOuts at *
        refine W.ret [(2, aF), (4, aV (I6 0)), (9, aF)] [] [decide ((i:Int) < (i:Int)) = false, I6 (↑(0 : Nat) : Int) = I6 0, decide ((↑(ByteArray.size s) : Int) > 0) = false, 0 + i ≤ i, PV.tup [PV.st 2 [U6 (salt:Int), PV.vec false (PV.parr 2 i (Sh.st 2 [Sh.int IntKind.u64, Sh.str]) (List.take i M))], I6 0] = PV.tup [PV.st 2 [U6 (salt:Int), PV.vec false (PV.parr 2 i (Sh.st 2 [Sh.int IntKind.u64, Sh.str]) M)], I6 (↑(0 : Nat) : Int)]] (by kernel_rfl) (ac (dF (by omega)) (ac (cg (by omega)) (ac (dF (by omega)) (ac (by omega) (ao (by (simp; omega)))))))
      · rw [if_neg hs, if_neg (by omega)]
        have hz : 0 < (strOf r.s).size := by rw [hsz]; exact List.length_pos_iff.2 hs
        have hzb : (strOf r.s).size ≤ 1000000 := by omega
        generalize L.map routPV = M at *
        generalize strOf r.s = s at *
        unfold dsTr rzTx rzOuts at *
        refine W.rt [(2, aF), (4, aV (I6 0)), (9, aT)] [] [decide ((i:Int) < (i:Int)) = false, I6 (↑(0 : Nat) : Int) = I6 0, decide ((↑(ByteArray.size s) : Int) > 0) = true] (by kernel_rfl) (ac (dF (by omega)) (ac (cg (by omega)) (ao (dT (by omega)))))
    · rw [if_neg h0, if_neg h0]
      have hne : ¬ ((r.e : Int) = 0) := by omega
      generalize L.map routPV = M at *
      generalize strOf r.s = s at *
      generalize r.e = e at *
      unfold dsTr rzTx rzOuts at *
      refine W.rt [(2, aF), (5, aT)] [] [decide ((i:Int) < (i:Int)) = false, ((e:Int) != 0) = true] (by kernel_rfl) (ac (dF (by omega)) (ao (bne_iff_ne.2 (by omega))))
  | k + 1, i, r, L, hL, hi, hk, hr, he => by
    have he1 := Rd.tk_e (n := 8) he
    have hr1 := hr.tk 8
    have hr2 : (outR r).In b N := hr1.wd 64
    have c1 := pc_rNumber (w := 8) hr hN he (by omega)
    have c2 := pc_rWords (m := 64) hr1 hN he1 (by omega)
    have hw := W_rtx (salt := salt) hN hn k (i + 1) (outR r) (L ++ [outM r]) (by rw [List.length_append, hL]; rfl) (by omega) (by omega) hr2 (Rd.wd_e he1)
    rw [List.append_assoc, List.map_append] at hw
    have hq1 : [outM r].map routPV = [.st 2 [.int .u64 ((r.nv 8 : Nat) : Int), .str (strOf ((r.tk 8).wv 64))]] := rfl
    rw [hq1] at hw
    clear hq1
    show W _ _ _ _ _ (rtxRes salt (L ++ ([outM r] ++ outsM k (outR r))) (endE (outsR k (outR r)))) _ _
    have hMl : (L.map routPV).length = i := by rw [List.length_map, hL]
    unfold outR at *
    unfold inPV at *
    generalize rtxRes salt (L ++ ([outM r] ++ outsM k ((r.tk 8).wd 64))) (endE (outsR k ((r.tk 8).wd 64))) = res at *
    generalize L.map routPV = M at *
    generalize ((r.tk 8).wd 64).e = ee2 at *
    generalize (r.tk 8).e = ee1 at *
    generalize strOf ((r.tk 8).wd 64).s = s2 at *
    generalize strOf ((r.tk 8).wv 64) = tx at *
    generalize strOf (r.tk 8).s = s1 at *
    generalize r.nv 8 = v at *
    generalize strOf r.s = s at *
    generalize r.e = e at *
    unfold dsTr rzTx rzOuts at *
    refine W.sg 0 [(2, aT), (7, c9 c1), (15, c9 c2), (26, Ans.ups [(4, none), (480, some (Row.mk (PV.parr 2 (i + 1) (Sh.st 2 [Sh.int IntKind.u64, Sh.str]) (M ++ [PV.st 2 [U6 (v:Int), PV.str tx]])) false))]), (30, aV (U6 (↑(i + 1) : Int)))] [(1, 1), (2, 2), (3, 3), (480, 4)] (⟨[(2, .at 1 []), (4, .at 2 []), (6, .at 3 []), (7, .int .u64 n), (8, .int .u64 ((i + 1 : Nat) : Int))], [(1, ⟨.st 2 [.int .u64 0, .vec true (.parr 2 0 rosh [])], false⟩), (2, ⟨.st 2 [.str s2, .int .i64 (ee2 : Int)], false⟩), (3, ⟨.st 2 [.int .u64 salt, .ref 4 [] 2 0 (i + 1)], false⟩), (4, ⟨.parr 2 (i + 1) rosh (M ++ [.st 2 [.int .u64 (v : Int), .str tx]]), false⟩)]⟩ : DS) [decide ((i:Int) < (n:Int)) = true, _, _, ([(4, none), (480, some (Row.mk (PV.parr 2 (i + 1) (Sh.st 2 [Sh.int IntKind.u64, Sh.str]) (List.take i M ++ [PV.st 2 [U6 (v:Int), PV.str tx]])) false))] : List (Nat × Option Row)) = [(4, none), (480, some (Row.mk (PV.parr 2 (i + 1) (Sh.st 2 [Sh.int IntKind.u64, Sh.str]) (M ++ [PV.st 2 [U6 (v:Int), PV.str tx]])) false))], 1 ≤ 1, 0 + i = i, (i + 1) * 24 ≤ 140737488355328, i + 1 ≤ 9223372036854775807, U6 (IntKind.wrap .u64 ((i:Int) + 1)) = U6 (↑(i + 1) : Int)] (by kernel_rfl) (ac (dT (by omega)) (ac (c1) (ac (c2) (ac (by rw [List.take_of_length_le (show List.length M ≤ i by omega)]) (ac (by omega) (ac (by omega) (ac (by omega) (ac (by omega) (ao (cg (w_u64 rfl (by omega) (by omega)))))))))))) ?_
    exact hw
theorem W_rtx0 {N : Nat} {b : List Int} {salt n : Nat} (hN : N ≤ 1000000) (hn : n ≤ 8) (r : Rd) (hr : r.In b N) (he : r.e ≤ 100) :
    W Tryd.prog G0 Tryd.f51 [] [] (rtxRes salt (outsM n r) (endE (outsR n r))) (loopAt Tryd.f51 0) (dsTr0 salt n (strOf r.s) r.e) := by
  have hle := hr.le
  have hsz : (strOf r.s).size = r.s.length := strOf_size _
  cases n with
  | zero =>
    show W _ _ _ _ _ (rtxRes salt [] (endE r)) _ _
    unfold rtxRes routsPV
    rw [if_pos rfl]
    unfold endE
    by_cases h0 : r.e = 0
    · rw [if_pos h0, h0]
      by_cases hs : r.s = []
      · rw [if_pos hs, if_pos rfl]
        have hz : (strOf r.s).size = 0 := by rw [hsz, hs]; rfl
        generalize strOf r.s = s at *
        unfold dsTr0 rzTx rzOuts at *
        refine W.rt [(1, aV (U6 0)), (4, aV (I6 0)), (9, aF)] [] [U6 (↑(0 : Nat) : Int) = U6 0, I6 (↑(0 : Nat) : Int) = I6 0, decide ((↑(ByteArray.size s) : Int) > 0) = false] (by kernel_rfl) (ac (cg (by omega)) (ac (cg (by omega)) (ao (dF (by omega)))))
      · rw [if_neg hs, if_neg (by omega)]
        have hz : 0 < (strOf r.s).size := by rw [hsz]; exact List.length_pos_iff.2 hs
        have hzb : (strOf r.s).size ≤ 1000000 := by omega
        generalize strOf r.s = s at *
        unfold dsTr0 rzTx rzOuts at *
        refine W.rt [(1, aV (U6 0)), (4, aV (I6 0)), (9, aT)] [] [U6 (↑(0 : Nat) : Int) = U6 0, I6 (↑(0 : Nat) : Int) = I6 0, decide ((↑(ByteArray.size s) : Int) > 0) = true] (by kernel_rfl) (ac (cg (by omega)) (ac (cg (by omega)) (ao (dT (by omega)))))
    · rw [if_neg h0, if_neg h0]
      have hne : ¬ ((r.e : Int) = 0) := by omega
      generalize strOf r.s = s at *
      generalize r.e = e at *
      unfold dsTr0 rzTx rzOuts at *
      refine W.rt [(1, aV (U6 0)), (5, aT)] [] [U6 (↑(0 : Nat) : Int) = U6 0, ((e:Int) != 0) = true] (by kernel_rfl) (ac (cg (by omega)) (ao (bne_iff_ne.2 (by omega))))
  | succ k =>
    have he1 := Rd.tk_e (n := 8) he
    have hr1 := hr.tk 8
    have hr2 : (outR r).In b N := hr1.wd 64
    have c1 := pc_rNumber (w := 8) hr hN he (by omega)
    have c2 := pc_rWords (m := 64) hr1 hN he1 (by omega)
    have hw := W_rtx (salt := salt) hN hn k 1 (outR r) [outM r] rfl (by omega) (by omega) hr2 (Rd.wd_e he1)
    have hq1 : [outM r].map routPV = [.st 2 [.int .u64 ((r.nv 8 : Nat) : Int), .str (strOf ((r.tk 8).wv 64))]] := rfl
    rw [hq1] at hw
    clear hq1
    show W _ _ _ _ _ (rtxRes salt ([outM r] ++ outsM k (outR r)) (endE (outsR k (outR r)))) _ _
    unfold outR at *
    unfold inPV at *
    generalize rtxRes salt ([outM r] ++ outsM k ((r.tk 8).wd 64)) (endE (outsR k ((r.tk 8).wd 64))) = res at *
    generalize ((r.tk 8).wd 64).e = ee2 at *
    generalize (r.tk 8).e = ee1 at *
    generalize strOf ((r.tk 8).wd 64).s = s2 at *
    generalize strOf ((r.tk 8).wv 64) = tx at *
    generalize strOf (r.tk 8).s = s1 at *
    generalize r.nv 8 = v at *
    generalize strOf r.s = s at *
    generalize r.e = e at *
    have hk1 : k + 1 ≤ 8 := hn
    have hn0 : 0 < k + 1 := Nat.succ_pos k
    generalize k + 1 = n at *
    unfold dsTr dsTr0 rzTx rzOuts at *
    refine W.sg 0 [(2, aT), (7, c9 c1), (15, c9 c2), (30, aV (U6 1))] [(1, 1), (2, 2), (3, 3), (480, 4)] (⟨[(2, .at 1 []), (4, .at 2 []), (6, .at 3 []), (7, .int .u64 n), (8, .int .u64 (1 : Int))], [(1, ⟨.st 2 [.int .u64 0, .vec true (.parr 2 0 rosh [])], false⟩), (2, ⟨.st 2 [.str s2, .int .i64 (ee2 : Int)], false⟩), (3, ⟨.st 2 [.int .u64 salt, .ref 4 [] 2 0 1], false⟩), (4, ⟨.parr 2 1 rosh [.st 2 [.int .u64 (v : Int), .str tx]], false⟩)]⟩ : DS) [decide (0 < (n:Int)) = true, _, _, 1 ≤ 1, 0 < 1, 24 ≤ 140737488355328, 1 ≤ 9223372036854775807, U6 (IntKind.wrap .u64 ((0 : Int) + (1 : Int))) = U6 1] (by kernel_rfl) (ac (dT (by omega)) (ac (c1) (ac (c2) (ac (by omega) (ac (by omega) (ac (by omega) (ac (by omega) (ao (cg (w_u64 rfl (by omega) (by omega))))))))))) ?_
    exact hw
def rtxP (b : List Int) : PV := rtxRes (txSalt b) (txOuts b) (txE b)
theorem pc_rParse {N : Nat} {b : List Int} (hl : b.length = N) (hb : Bytes b) (hN : N ≤ 1000000) : PC Tryd.prog G0 51 [] [.str (strOf b)] [] (rtxP b) := by
  refine PC.of (fn := Tryd.f51) (c := bodyOf Tryd.f51) Tryd.func51 (by kernel_rfl) (by kernel_rfl) (by kernel_rfl) (by kernel_rfl) ?_
  have hr : (Rd.mk b 0).In b N := ⟨hl, by show b.length ≤ N; omega, by show b = b.drop (N - b.length); rw [hl, Nat.sub_self]; rfl, hb⟩
  have hsz : (strOf b).size = N := by rw [strOf_size, hl]
  have c1 := pc_rNumber (w := 1) hr hN (by show 0 ≤ 100; omega) (by omega)
  have hr1 : (txR1 b).In b N := hr.tk 1
  have he1 : (txR1 b).e ≤ 100 := Rd.tk_e (by show 0 ≤ 100; omega)
  change PC _ _ _ _ [.st 2 [.str (strOf b), .int .i64 ((0 : Nat) : Int)], _] _ (.tup [.st 2 [.str (strOf (txR1 b).s), .int .i64 (txR1 b).e], _]) at c1
  have hfl : (Rd.mk b 0).nv 1 < 18446744073709551616 := by
    unfold Rd.nv
    split
    · rw [lv_one]; have := at0_lt hb 0; show at0 b 0 < _; omega
    · omega
  unfold rtxP
  by_cases hf : txFirst b
  · have e3 : txE b = 3 := by unfold txE; rw [if_pos hf]
    rw [e3]
    unfold rtxRes
    rw [if_neg (by omega)]
    clear hr hr1 e3
    by_cases h64 : N = 64
    · generalize strOf (txR1 b).s = s1 at *
      generalize strOf b = s at *
      generalize (Rd.mk b 0).nv 1 = v at *
      generalize (txR1 b).e = e1 at *
      unfold rzTx rzOuts at *
      refine W.rt [(4, aT)] [] [((↑(ByteArray.size s) : Int) == 64) = true] (by kernel_rfl) (ao (dT (by omega)))
    · obtain ⟨h0, h1⟩ := hf.resolve_left (by omega)
      have h1' : ¬ (((Rd.mk b 0).nv 1 : Int) = 1) := by omega
      have h64' : ¬ ((N : Int) = 64) := by omega
      rw [h0] at c1
      clear hf
      generalize strOf (txR1 b).s = s1 at *
      generalize strOf b = s at *
      generalize (Rd.mk b 0).nv 1 = v at *
      generalize (txR1 b).e = e1 at *
      unfold rzTx rzOuts at *
      refine W.rt [(4, aF), (7, c9 c1), (15, aV (I6 0)), (19, aT)] [] [((↑(ByteArray.size s) : Int) == 64) = false, _, I6 (↑(0 : Nat) : Int) = I6 0, ((v:Int) != 1) = true] (by kernel_rfl) (ac (dF (by omega)) (ac (c1) (ac (cg (by omega)) (ao (bne_iff_ne.2 (by omega))))))
  · have eE : txE b = endE (outsR (txN b) (txR3 b)) := by unfold txE; rw [if_neg hf]; rfl
    rw [eE]
    have c2 := pc_rNumber (w := 8) hr1 hN he1 (by omega)
    have hr2 : (txR2 b).In b N := hr1.tk 8
    have he2 : (txR2 b).e ≤ 100 := Rd.tk_e he1
    have c3 := pc_rCnt (m := 8) hr2 hN he2 (by omega)
    have hr3 : (txR3 b).In b N := hr2.var 8
    have he3 : (txR3 b).e ≤ 100 := by
      show ((txR2 b).var 8).e ≤ 100
      have := Rd.ve_e (m := 8) he2
      unfold Rd.var
      split
      · exact Nat.zero_le _
      · exact this
    have hw := W_rtx0 (salt := txSalt b) hN (n := txN b) (Rd.vn_le _ _) (txR3 b) hr3 he3
    change W _ _ _ _ _ (rtxRes (txSalt b) (txOuts b) _) _ _ at hw
    change PC _ _ _ _ [.st 2 [.str (strOf (txR1 b).s), .int .i64 (txR1 b).e], _] _ (.tup [.st 2 [.str (strOf (txR2 b).s), .int .i64 (txR2 b).e], .int .u64 ((txSalt b : Nat) : Int)]) at c2
    change PC _ _ _ _ [.st 2 [.str (strOf (txR2 b).s), .int .i64 (txR2 b).e], _] _ (.tup [.st 2 [.str (strOf (txR3 b).s), .int .i64 (txR3 b).e], .int .u64 ((txN b : Nat) : Int)]) at c3
    have hn8 : txN b ≤ 8 := Rd.vn_le _ _
    have hN64 : ¬ ((N : Int) = 64) := by intro e; exact hf (.inl (by omega))
    have hfirst : (txR1 b).e = 0 → ((Rd.mk b 0).nv 1 : Int) = 1 := fun h => by
      by_cases h1 : (Rd.mk b 0).nv 1 = 1
      · rw [h1]; rfl
      · exact absurd (.inr ⟨h, h1⟩) hf
    generalize rtxRes (txSalt b) (txOuts b) (endE (outsR (txN b) (txR3 b))) = res at *
    clear eE hr hr1 hr2 hr3 hf
    generalize strOf (txR3 b).s = s3 at *
    generalize strOf (txR2 b).s = s2 at *
    generalize strOf (txR1 b).s = s1 at *
    generalize strOf b = s at *
    generalize (txR3 b).e = ee3 at *
    generalize (txR2 b).e = ee2 at *
    generalize txN b = n at *
    generalize txSalt b = salt at *
    generalize (Rd.mk b 0).nv 1 = v at *
    by_cases he0 : (txR1 b).e = 0
    · have hv := hfirst he0
      rw [he0] at c1 c2
      clear hfirst
      generalize (txR1 b).e = ee1 at *
      unfold dsTr0 rzTx rzOuts at *
      refine W.sg 0 [(4, aF), (7, c9 c1), (10, aV (U6 1)), (15, aV (I6 0)), (25, c9 c2), (33, c9 c3)] [(64, 1), (240, 2), (416, 3)] (⟨[(2, .at 1 []), (4, .at 2 []), (6, .at 3 []), (7, .int .u64 n), (8, .int .u64 0)], [(1, ⟨.st 2 [.int .u64 0, .vec true (.parr 2 0 rosh [])], false⟩), (2, ⟨.st 2 [.str s3, .int .i64 (ee3 : Int)], false⟩), (3, ⟨.st 2 [.int .u64 salt, .vec true (.parr 2 0 rosh [])], false⟩)]⟩ : DS) [((↑(ByteArray.size s) : Int) == 64) = false, _, U6 (v:Int) = U6 1, I6 (↑(0 : Nat) : Int) = I6 0, _, _] (by kernel_rfl) (ac (dF (by omega)) (ac (c1) (ac (cg (hv)) (ac (cg (by omega)) (ac (c2) (ao (c3))))))) ?_
      exact hw
    · have hne : ¬ (((txR1 b).e : Int) = 0) := by omega
      clear hfirst
      generalize (txR1 b).e = ee1 at *
      unfold dsTr0 rzTx rzOuts at *
      refine W.sg 0 [(4, aF), (7, c9 c1), (16, aF), (25, c9 c2), (33, c9 c3)] [(64, 1), (240, 2), (416, 3)] (⟨[(2, .at 1 []), (4, .at 2 []), (6, .at 3 []), (7, .int .u64 n), (8, .int .u64 0)], [(1, ⟨.st 2 [.int .u64 0, .vec true (.parr 2 0 rosh [])], false⟩), (2, ⟨.st 2 [.str s3, .int .i64 (ee3 : Int)], false⟩), (3, ⟨.st 2 [.int .u64 salt, .vec true (.parr 2 0 rosh [])], false⟩)]⟩ : DS) [((↑(ByteArray.size s) : Int) == 64) = false, _, ((ee1:Int) == 0) = false, _, _] (by kernel_rfl) (ac (dF (by omega)) (ac (c1) (ac (dF (by omega)) (ac (c2) (ao (c3)))))) ?_
      exact hw
end Go.Proofs
