/- Merged texts: the pure machine and what the walks show. Conditions: as each statement says. -/
import Derived.Carry
import Derived.ChangeArms
import Derived.ChangeSame
import Derived.ChangeCalls
import Derived.JoinedOf
import Derived.Handed
import Derived.OpenShut
import Derived.RowKit
import Derived.ProofKit
import Derived.LaidLaws
import Derived.LaidHandle
import Derived.FnData
import GoSem.ClaimSeven
import Derived.Test.YtnjbfdlcefmlmaaGreatDoorQ3
set_option linter.unusedSimpArgs false
set_option linter.unusedVariables false
namespace Go.Proofs
open Go Go.Pe Go.Pm
set_option maxRecDepth 100000
set_option linter.unusedVariables false
def dN0 (bn : Bool) (n : Nat) (B HM : List PV) (q : Nat) (K : List PV) (V : List Int) : DS := ⟨[(6, .at 1 []), (23, .vec bn (.parr 69 n EI B)), (24, .int .i64 n), (25, .int .i64 0)], [(1, ⟨.st 3 [.vec true (.parr 69 0 EI []), .ref 3 [] 32 0 1, .fn 1000000 4], false⟩), (3, ⟨.parr 32 1 hsE (HM), false⟩), (4, ⟨.tup [.tup [.parr 32 (q) hsE (K), .iarr .i64 (q) (V)]], false⟩)]⟩
def dN1 (bn : Bool) (n : Nat) (B HM : List PV) (q : Nat) (K : List PV) (V : List Int) (BM : List PV) (i : Nat) : DS := ⟨[(6, .at 1 []), (23, .vec bn (.parr 69 n EI B)), (24, .int .i64 n), (25, .int .i64 i)], [(1, ⟨.st 3 [.ref 2 [] 69 0 (i), .ref 3 [] 32 0 (i + 1), .fn 1000000 4], false⟩), (2, ⟨.parr 69 (i) EI (BM), false⟩), (3, ⟨.parr 32 (i + 1) hsE (HM), false⟩), (4, ⟨.tup [.tup [.parr 32 (q) hsE (K), .iarr .i64 (q) (V)]], false⟩)]⟩
def dN (bn : Bool) (n : Nat) (B HM : List PV) (q : Nat) (K : List PV) (V : List Int) (BM : List PV) (i : Nat) : DS := match i with
 | 0 => dN0 bn n B HM q K V
 | i + 1 => dN1 bn n B HM q K V BM (i + 1)
theorem PY {hout : Lrz} {res : PV} {bn : Bool} {n : Nat} {B HM : Lpz} {q : Nat} {K : Lpz} {V : Liz} {h : Hd} {tn to : Bool} {m : Nat} {T : Lpz} {x y : Liz} (hi : 0 < n) (g : B.getD 0 .undef = .st 69 [.st 68 [.int .u32 h.ver, .iarr .u8 32 h.prev, .iarr .u8 32 h.root, .int .u32 h.time, .int .u32 h.bits, .int .u32 h.nonce], .vec tn (.parr 1 m bsh T)]) (gH : HM.getD 0 .undef = .iarr .u8 32 x) (hl : HM.length = 1) (hn : n ≤ 100) (c1 : Pt 14 [] [.st 69 [.st 68 [.int .u32 h.ver, .iarr .u8 32 h.prev, .iarr .u8 32 h.root, .int .u32 h.time, .int .u32 h.bits, .int .u32 h.nonce], .vec tn (.parr 1 m bsh T)]] [] (.int .i64 ((0 : Nat) : Int))) (c2 : Pt 15 [] [.st 68 [.int .u32 h.ver, .iarr .u8 32 h.prev, .iarr .u8 32 h.root, .int .u32 h.time, .int .u32 h.bits, .int .u32 h.nonce]] [] (.iarr .u8 32 y)) (c3 : Pt 16 [] [.st 69 [.st 68 [.int .u32 h.ver, .iarr .u8 32 h.prev, .iarr .u8 32 h.root, .int .u32 h.time, .int .u32 h.bits, .int .u32 h.nonce], .vec tn (.parr 1 m bsh T)]] [] (.st 69 [.st 68 [.int .u32 h.ver, .iarr .u8 32 h.prev, .iarr .u8 32 h.root, .int .u32 h.time, .int .u32 h.bits, .int .u32 h.nonce], .vec to (.parr 1 m bsh T)])) (hx : x.length = 32) (hy : y.length = 32) (hp : h.prev = x) (hm : Cv K (.iarr .u8 32 y) = true) (hq : q ≤ 1000) (hw : Wt Tryz.f5 [] hout res (Ad Tryz.f5 0) (dN1 bn n B (HM ++ [.iarr .u8 32 y]) (q) (K) (V) ([.st 69 [.st 68 [.int .u32 h.ver, .iarr .u8 32 h.prev, .iarr .u8 32 h.root, .int .u32 h.time, .int .u32 h.bits, .int .u32 h.nonce], .vec to (.parr 1 m bsh T)]]) (1))) : Wt Tryz.f5 [] hout res (Ad Tryz.f5 0) (dN0 bn n B HM q K V) := by
 unfold dN1 at hw
 unfold dN0
 refine W.sgA 0 [(0, aT), (3, aE g), (8, c9 c1), (9, aV (I6 0)), (21, aE gH), (22, aF), (25, c9 c2), (34, c0 c3), (47, Ans.ups [(3, none), (816, some (Row.mk (PV.parr 32 2 (Sh.iarr .u8 32) (HM ++ [B8 32 y])) false))]), (59, aT), (64, aV (I6 1))] [(1, 1), (640, 2), (816, 3), (4, 4)] (⟨[(6, .at 1 []), (23, .vec bn (.parr 69 n EI B)), (24, .int .i64 n), (25, .int .i64 (1 : Int))], [(1, ⟨.st 3 [.ref 2 [] 69 0 (1), .ref 3 [] 32 0 (1 + 1), .fn 1000000 4], false⟩), (2, ⟨.parr 69 (1) EI ([.st 69 [.st 68 [.int .u32 h.ver, .iarr .u8 32 h.prev, .iarr .u8 32 h.root, .int .u32 h.time, .int .u32 h.bits, .int .u32 h.nonce], .vec to (.parr 1 m bsh T)]]), false⟩), (3, ⟨.parr 32 (1 + 1) hsE (HM ++ [.iarr .u8 32 y]), false⟩), (4, ⟨.tup [.tup [.parr 32 (q) hsE (K), .iarr .i64 (q) (V)]], false⟩)]⟩ : DS) [decide (0 < (n:Int)) = true, (0 : Int) ≤ 0, 0 < (n:Int), _, 0 < n, _, I6 ↑(0 : Nat) = I6 0, (0 : Int) ≤ 0, 0 < (↑(1 : Nat) : Int), _, 0 < 1, (!decide (Hd.prev h = x)) = false, _, _, 1 ≤ 1, 0 < 1, 1 * 104 ≤ 140737488355328, 1 ≤ 9223372036854775807, ([(3, none), (816, some (Row.mk (PV.parr 32 2 (Sh.iarr .u8 32) (List.take 1 HM ++ [B8 32 y])) false))] : List (Nat × Option Row)) = [(3, none), (816, some (Row.mk (PV.parr 32 2 (Sh.iarr .u8 32) (HM ++ [B8 32 y])) false))], 1 ≤ 1, rr (1), (1 + 1) * 32 ≤ 140737488355328, 1 + 1 ≤ 9223372036854775807, Cv K (B8 32 y) = true, I6 (IntKind.wrap .i64 ((0 : Int) + (1 : Int))) = I6 1] (ac (dT (by omega)) (ob2 (by omega) (ac (ex g) (ac (by omega) (ac (c1) (ac (cg (by omega)) (ob2 (by omega) (ac (ex gH) (ac (by omega) (ac (by (simp [*]; done)) (ac (c2) (ac (c3) (ob4 (by omega) (ac (by rw [List.take_of_length_le (show List.length HM ≤ 1 by omega)]) (ac (by omega) (ac rfl (ob2 (by omega) (ac (by assumption) (ao (wj (by omega))))))))))))))))))))) ?_
 exact hw
theorem P7 {hout : Lrz} {res : PV} {bn : Bool} {n : Nat} {B HM : Lpz} {q : Nat} {K : Lpz} {V : Liz} {h : Hd} {tn to : Bool} {m : Nat} {T : Lpz} {x y : Liz} (hi : 0 < n) (g : B.getD 0 .undef = .st 69 [.st 68 [.int .u32 h.ver, .iarr .u8 32 h.prev, .iarr .u8 32 h.root, .int .u32 h.time, .int .u32 h.bits, .int .u32 h.nonce], .vec tn (.parr 1 m bsh T)]) (gH : HM.getD 0 .undef = .iarr .u8 32 x) (hl : HM.length = 1) (hn : n ≤ 100) (c1 : Pt 14 [] [.st 69 [.st 68 [.int .u32 h.ver, .iarr .u8 32 h.prev, .iarr .u8 32 h.root, .int .u32 h.time, .int .u32 h.bits, .int .u32 h.nonce], .vec tn (.parr 1 m bsh T)]] [] (.int .i64 ((0 : Nat) : Int))) (c2 : Pt 15 [] [.st 68 [.int .u32 h.ver, .iarr .u8 32 h.prev, .iarr .u8 32 h.root, .int .u32 h.time, .int .u32 h.bits, .int .u32 h.nonce]] [] (.iarr .u8 32 y)) (c3 : Pt 16 [] [.st 69 [.st 68 [.int .u32 h.ver, .iarr .u8 32 h.prev, .iarr .u8 32 h.root, .int .u32 h.time, .int .u32 h.bits, .int .u32 h.nonce], .vec tn (.parr 1 m bsh T)]] [] (.st 69 [.st 68 [.int .u32 h.ver, .iarr .u8 32 h.prev, .iarr .u8 32 h.root, .int .u32 h.time, .int .u32 h.bits, .int .u32 h.nonce], .vec to (.parr 1 m bsh T)])) (hx : x.length = 32) (hy : y.length = 32) (hp : h.prev = x) (hm : Cv K (.iarr .u8 32 y) = false) (hq : q ≤ 1000) (hw : Wt Tryz.f5 [] hout res (Ad Tryz.f5 0) (dN1 bn n B (HM ++ [.iarr .u8 32 y]) (q + 1) (K ++ [.iarr .u8 32 y]) (V ++ [((0 + 1 : Nat) : Int)]) ([.st 69 [.st 68 [.int .u32 h.ver, .iarr .u8 32 h.prev, .iarr .u8 32 h.root, .int .u32 h.time, .int .u32 h.bits, .int .u32 h.nonce], .vec to (.parr 1 m bsh T)]]) (1))) : Wt Tryz.f5 [] hout res (Ad Tryz.f5 0) (dN0 bn n B HM q K V) := by
 unfold dN1 at hw
 unfold dN0
 refine W.sgA 0 [(0, aT), (3, aE g), (8, c9 c1), (9, aV (I6 0)), (21, aE gH), (22, aF), (25, c9 c2), (34, c0 c3), (47, Ans.ups [(3, none), (816, some (Row.mk (PV.parr 32 2 (Sh.iarr .u8 32) (HM ++ [B8 32 y])) false))]), (59, aF), (70, aV (I6 1)), (72, aV (I6 1))] [(1, 1), (640, 2), (816, 3), (4, 4)] (⟨[(6, .at 1 []), (23, .vec bn (.parr 69 n EI B)), (24, .int .i64 n), (25, .int .i64 (1 : Int))], [(1, ⟨.st 3 [.ref 2 [] 69 0 (1), .ref 3 [] 32 0 (1 + 1), .fn 1000000 4], false⟩), (2, ⟨.parr 69 (1) EI ([.st 69 [.st 68 [.int .u32 h.ver, .iarr .u8 32 h.prev, .iarr .u8 32 h.root, .int .u32 h.time, .int .u32 h.bits, .int .u32 h.nonce], .vec to (.parr 1 m bsh T)]]), false⟩), (3, ⟨.parr 32 (1 + 1) hsE (HM ++ [.iarr .u8 32 y]), false⟩), (4, ⟨.tup [.tup [.parr 32 (q + 1) hsE (K ++ [.iarr .u8 32 y]), .iarr .i64 (q + 1) (V ++ [((0 + 1 : Nat) : Int)])]], false⟩)]⟩ : DS) [decide (0 < (n:Int)) = true, (0 : Int) ≤ 0, 0 < (n:Int), _, 0 < n, _, I6 ↑(0 : Nat) = I6 0, (0 : Int) ≤ 0, 0 < (↑(1 : Nat) : Int), _, 0 < 1, (!decide (Hd.prev h = x)) = false, _, _, 1 ≤ 1, 0 < 1, 1 * 104 ≤ 140737488355328, 1 ≤ 9223372036854775807, ([(3, none), (816, some (Row.mk (PV.parr 32 2 (Sh.iarr .u8 32) (List.take 1 HM ++ [B8 32 y])) false))] : List (Nat × Option Row)) = [(3, none), (816, some (Row.mk (PV.parr 32 2 (Sh.iarr .u8 32) (HM ++ [B8 32 y])) false))], 1 ≤ 1, rr (1), (1 + 1) * 32 ≤ 140737488355328, 1 + 1 ≤ 9223372036854775807, Cv K (B8 32 y) = false, I6 (IntKind.wrap .i64 ((0 : Int) + (1 : Int))) = I6 1, Cv K (B8 32 y) = false, I6 (IntKind.wrap .i64 ((0 : Int) + (1 : Int))) = I6 1] (ac (dT (by omega)) (ob2 (by omega) (ac (ex g) (ac (by omega) (ac (c1) (ac (cg (by omega)) (ob2 (by omega) (ac (ex gH) (ac (by omega) (ac (by (simp [*]; done)) (ac (c2) (ac (c3) (ob4 (by omega) (ac (by rw [List.take_of_length_le (show List.length HM ≤ 1 by omega)]) (ac (by omega) (ac rfl (ob2 (by omega) (ac (by assumption) (ac (wj (by omega)) (ac (by assumption) (ao (wj (by omega))))))))))))))))))))))) ?_
 exact hw
theorem QS {hout : Lrz} {res : PV} {bn : Bool} {n : Nat} {B HM : Lpz} {q : Nat} {K : Lpz} {V : Liz} {h : Hd} {tn to : Bool} {m : Nat} {T : Lpz} {x y : Liz} {BM : Lpz} {i : Nat} (hi : i < n) (g : B.getD i .undef = .st 69 [.st 68 [.int .u32 h.ver, .iarr .u8 32 h.prev, .iarr .u8 32 h.root, .int .u32 h.time, .int .u32 h.bits, .int .u32 h.nonce], .vec tn (.parr 1 m bsh T)]) (gH : HM.getD i .undef = .iarr .u8 32 x) (hl : HM.length = i + 1) (hb : BM.length = i) (hn : n ≤ 100) (c1 : Pt 14 [] [.st 69 [.st 68 [.int .u32 h.ver, .iarr .u8 32 h.prev, .iarr .u8 32 h.root, .int .u32 h.time, .int .u32 h.bits, .int .u32 h.nonce], .vec tn (.parr 1 m bsh T)]] [] (.int .i64 ((0 : Nat) : Int))) (c2 : Pt 15 [] [.st 68 [.int .u32 h.ver, .iarr .u8 32 h.prev, .iarr .u8 32 h.root, .int .u32 h.time, .int .u32 h.bits, .int .u32 h.nonce]] [] (.iarr .u8 32 y)) (c3 : Pt 16 [] [.st 69 [.st 68 [.int .u32 h.ver, .iarr .u8 32 h.prev, .iarr .u8 32 h.root, .int .u32 h.time, .int .u32 h.bits, .int .u32 h.nonce], .vec tn (.parr 1 m bsh T)]] [] (.st 69 [.st 68 [.int .u32 h.ver, .iarr .u8 32 h.prev, .iarr .u8 32 h.root, .int .u32 h.time, .int .u32 h.bits, .int .u32 h.nonce], .vec to (.parr 1 m bsh T)])) (hx : x.length = 32) (hy : y.length = 32) (hp : h.prev = x) (hm : Cv K (.iarr .u8 32 y) = true) (hq : q ≤ 1000) (hw : Wt Tryz.f5 [] hout res (Ad Tryz.f5 0) (dN1 bn n B (HM ++ [.iarr .u8 32 y]) (q) (K) (V) (BM ++ [.st 69 [.st 68 [.int .u32 h.ver, .iarr .u8 32 h.prev, .iarr .u8 32 h.root, .int .u32 h.time, .int .u32 h.bits, .int .u32 h.nonce], .vec to (.parr 1 m bsh T)]]) (i + 1))) : Wt Tryz.f5 [] hout res (Ad Tryz.f5 0) (dN1 bn n B HM q K V BM i) := by
 unfold dN1 at hw
 unfold dN1
 refine W.sgA 0 [(0, aT), (3, aE g), (8, c9 c1), (9, aV (I6 0)), (20, aV (PV.at 3 [Stp.idx i 32])), (21, aE gH), (22, aF), (25, c9 c2), (34, c0 c3), (36, Ans.ups [(2, none), (640, some (Row.mk (PV.parr 69 (i + 1) (Sh.st 69 [hsh, Sh.vec 1 (Sh.vec 1 (Sh.int .u8))]) (BM ++ [PV.st 69 [Hd.pv h, PV.vec to (PV.parr 1 m (Sh.vec 1 (Sh.int .u8)) T)]])) false))]), (47, Ans.ups [(3, none), (816, some (Row.mk (PV.parr 32 (i + 1 + 1) (Sh.iarr .u8 32) (HM ++ [B8 32 y])) false))]), (59, aT), (64, aV (I6 ↑(i + 1)))] [(1, 1), (640, 2), (816, 3), (4, 4)] (⟨[(6, .at 1 []), (23, .vec bn (.parr 69 n EI B)), (24, .int .i64 n), (25, .int .i64 ((i + 1 : Nat) : Int))], [(1, ⟨.st 3 [.ref 2 [] 69 0 (i + 1), .ref 3 [] 32 0 (i + 1 + 1), .fn 1000000 4], false⟩), (2, ⟨.parr 69 (i + 1) EI (BM ++ [.st 69 [.st 68 [.int .u32 h.ver, .iarr .u8 32 h.prev, .iarr .u8 32 h.root, .int .u32 h.time, .int .u32 h.bits, .int .u32 h.nonce], .vec to (.parr 1 m bsh T)]]), false⟩), (3, ⟨.parr 32 (i + 1 + 1) hsE (HM ++ [.iarr .u8 32 y]), false⟩), (4, ⟨.tup [.tup [.parr 32 (q) hsE (K), .iarr .i64 (q) (V)]], false⟩)]⟩ : DS) [decide ((i:Int) < (n:Int)) = true, 0 ≤ (i:Int), (i:Int) < (n:Int), _, i < n, _, I6 ↑(0 : Nat) = I6 0, PV.at 3 [Stp.idx (0 + i) 32] = PV.at 3 [Stp.idx i 32], 0 ≤ (i:Int), (i:Int) < (↑(i + 1) : Int), _, i < i + 1, (!decide (Hd.prev h = x)) = false, _, _, ([(2, none), (640, some (Row.mk (PV.parr 69 (i + 1) (Sh.st 69 [hsh, Sh.vec 1 (Sh.vec 1 (Sh.int .u8))]) (List.take i BM ++ [PV.st 69 [Hd.pv h, PV.vec to (PV.parr 1 m (Sh.vec 1 (Sh.int .u8)) T)]])) false))] : List (Nat × Option Row)) = [(2, none), (640, some (Row.mk (PV.parr 69 (i + 1) (Sh.st 69 [hsh, Sh.vec 1 (Sh.vec 1 (Sh.int .u8))]) (BM ++ [PV.st 69 [Hd.pv h, PV.vec to (PV.parr 1 m (Sh.vec 1 (Sh.int .u8)) T)]])) false))], 1 ≤ 1, 0 + i = i, (i + 1) * 104 ≤ 140737488355328, i + 1 ≤ 9223372036854775807, ([(3, none), (816, some (Row.mk (PV.parr 32 (i + 1 + 1) (Sh.iarr .u8 32) (List.take (i + 1) HM ++ [B8 32 y])) false))] : List (Nat × Option Row)) = [(3, none), (816, some (Row.mk (PV.parr 32 (i + 1 + 1) (Sh.iarr .u8 32) (HM ++ [B8 32 y])) false))], 1 ≤ 1, 0 + (i + 1) = i + 1, (i + 1 + 1) * 32 ≤ 140737488355328, i + 1 + 1 ≤ 9223372036854775807, Cv K (B8 32 y) = true, I6 (IntKind.wrap .i64 ((i:Int) + 1)) = I6 ↑(i + 1)] (ac (dT (by omega)) (ob2 (by omega) (ac (ex g) (ac (by omega) (ac (c1) (ac (cg (by omega)) (ac (by simp only [Nat.zero_add]) (ob2 (by omega) (ac (ex gH) (ac (by omega) (ac (by (simp [*]; done)) (ac (c2) (ac (c3) (ac (by rw [List.take_of_length_le (show List.length BM ≤ i by omega)]) (ac (by omega) (ac (by omega) (ob2 (by omega) (ac (by rw [List.take_of_length_le (show List.length HM ≤ i + 1 by omega)]) (ac (by omega) (ac (by omega) (ob2 (by omega) (ac (by assumption) (ao (wj (by omega))))))))))))))))))))))))) ?_
 exact hw
theorem P9 {hout : Lrz} {res : PV} {bn : Bool} {n : Nat} {B HM : Lpz} {q : Nat} {K : Lpz} {V : Liz} {h : Hd} {tn to : Bool} {m : Nat} {T : Lpz} {x y : Liz} {BM : Lpz} {i : Nat} (hi : i < n) (g : B.getD i .undef = .st 69 [.st 68 [.int .u32 h.ver, .iarr .u8 32 h.prev, .iarr .u8 32 h.root, .int .u32 h.time, .int .u32 h.bits, .int .u32 h.nonce], .vec tn (.parr 1 m bsh T)]) (gH : HM.getD i .undef = .iarr .u8 32 x) (hl : HM.length = i + 1) (hb : BM.length = i) (hn : n ≤ 100) (c1 : Pt 14 [] [.st 69 [.st 68 [.int .u32 h.ver, .iarr .u8 32 h.prev, .iarr .u8 32 h.root, .int .u32 h.time, .int .u32 h.bits, .int .u32 h.nonce], .vec tn (.parr 1 m bsh T)]] [] (.int .i64 ((0 : Nat) : Int))) (c2 : Pt 15 [] [.st 68 [.int .u32 h.ver, .iarr .u8 32 h.prev, .iarr .u8 32 h.root, .int .u32 h.time, .int .u32 h.bits, .int .u32 h.nonce]] [] (.iarr .u8 32 y)) (c3 : Pt 16 [] [.st 69 [.st 68 [.int .u32 h.ver, .iarr .u8 32 h.prev, .iarr .u8 32 h.root, .int .u32 h.time, .int .u32 h.bits, .int .u32 h.nonce], .vec tn (.parr 1 m bsh T)]] [] (.st 69 [.st 68 [.int .u32 h.ver, .iarr .u8 32 h.prev, .iarr .u8 32 h.root, .int .u32 h.time, .int .u32 h.bits, .int .u32 h.nonce], .vec to (.parr 1 m bsh T)])) (hx : x.length = 32) (hy : y.length = 32) (hp : h.prev = x) (hm : Cv K (.iarr .u8 32 y) = false) (hq : q ≤ 1000) (hw : Wt Tryz.f5 [] hout res (Ad Tryz.f5 0) (dN1 bn n B (HM ++ [.iarr .u8 32 y]) (q + 1) (K ++ [.iarr .u8 32 y]) (V ++ [((i + 1 : Nat) : Int)]) (BM ++ [.st 69 [.st 68 [.int .u32 h.ver, .iarr .u8 32 h.prev, .iarr .u8 32 h.root, .int .u32 h.time, .int .u32 h.bits, .int .u32 h.nonce], .vec to (.parr 1 m bsh T)]]) (i + 1))) : Wt Tryz.f5 [] hout res (Ad Tryz.f5 0) (dN1 bn n B HM q K V BM i) := by
 unfold dN1 at hw
 unfold dN1
 refine W.sgA 0 [(0, aT), (3, aE g), (8, c9 c1), (9, aV (I6 0)), (20, aV (PV.at 3 [Stp.idx i 32])), (21, aE gH), (22, aF), (25, c9 c2), (34, c0 c3), (36, Ans.ups [(2, none), (640, some (Row.mk (PV.parr 69 (i + 1) (Sh.st 69 [hsh, Sh.vec 1 (Sh.vec 1 (Sh.int .u8))]) (BM ++ [PV.st 69 [Hd.pv h, PV.vec to (PV.parr 1 m (Sh.vec 1 (Sh.int .u8)) T)]])) false))]), (47, Ans.ups [(3, none), (816, some (Row.mk (PV.parr 32 (i + 1 + 1) (Sh.iarr .u8 32) (HM ++ [B8 32 y])) false))]), (59, aF), (70, aV (I6 ↑(i + 1))), (72, aV (I6 ↑(i + 1)))] [(1, 1), (640, 2), (816, 3), (4, 4)] (⟨[(6, .at 1 []), (23, .vec bn (.parr 69 n EI B)), (24, .int .i64 n), (25, .int .i64 ((i + 1 : Nat) : Int))], [(1, ⟨.st 3 [.ref 2 [] 69 0 (i + 1), .ref 3 [] 32 0 (i + 1 + 1), .fn 1000000 4], false⟩), (2, ⟨.parr 69 (i + 1) EI (BM ++ [.st 69 [.st 68 [.int .u32 h.ver, .iarr .u8 32 h.prev, .iarr .u8 32 h.root, .int .u32 h.time, .int .u32 h.bits, .int .u32 h.nonce], .vec to (.parr 1 m bsh T)]]), false⟩), (3, ⟨.parr 32 (i + 1 + 1) hsE (HM ++ [.iarr .u8 32 y]), false⟩), (4, ⟨.tup [.tup [.parr 32 (q + 1) hsE (K ++ [.iarr .u8 32 y]), .iarr .i64 (q + 1) (V ++ [((i + 1 : Nat) : Int)])]], false⟩)]⟩ : DS) [decide ((i:Int) < (n:Int)) = true, 0 ≤ (i:Int), (i:Int) < (n:Int), _, i < n, _, I6 ↑(0 : Nat) = I6 0, PV.at 3 [Stp.idx (0 + i) 32] = PV.at 3 [Stp.idx i 32], 0 ≤ (i:Int), (i:Int) < (↑(i + 1) : Int), _, i < i + 1, (!decide (Hd.prev h = x)) = false, _, _, ([(2, none), (640, some (Row.mk (PV.parr 69 (i + 1) (Sh.st 69 [hsh, Sh.vec 1 (Sh.vec 1 (Sh.int .u8))]) (List.take i BM ++ [PV.st 69 [Hd.pv h, PV.vec to (PV.parr 1 m (Sh.vec 1 (Sh.int .u8)) T)]])) false))] : List (Nat × Option Row)) = [(2, none), (640, some (Row.mk (PV.parr 69 (i + 1) (Sh.st 69 [hsh, Sh.vec 1 (Sh.vec 1 (Sh.int .u8))]) (BM ++ [PV.st 69 [Hd.pv h, PV.vec to (PV.parr 1 m (Sh.vec 1 (Sh.int .u8)) T)]])) false))], 1 ≤ 1, 0 + i = i, (i + 1) * 104 ≤ 140737488355328, i + 1 ≤ 9223372036854775807, ([(3, none), (816, some (Row.mk (PV.parr 32 (i + 1 + 1) (Sh.iarr .u8 32) (List.take (i + 1) HM ++ [B8 32 y])) false))] : List (Nat × Option Row)) = [(3, none), (816, some (Row.mk (PV.parr 32 (i + 1 + 1) (Sh.iarr .u8 32) (HM ++ [B8 32 y])) false))], 1 ≤ 1, 0 + (i + 1) = i + 1, (i + 1 + 1) * 32 ≤ 140737488355328, i + 1 + 1 ≤ 9223372036854775807, Cv K (B8 32 y) = false, I6 (IntKind.wrap .i64 ((i:Int) + 1)) = I6 ↑(i + 1), Cv K (B8 32 y) = false, I6 (IntKind.wrap .i64 ((i:Int) + 1)) = I6 ↑(i + 1)] (ac (dT (by omega)) (ob2 (by omega) (ac (ex g) (ac (by omega) (ac (c1) (ac (cg (by omega)) (ac (by simp only [Nat.zero_add]) (ob2 (by omega) (ac (ex gH) (ac (by omega) (ac (by (simp [*]; done)) (ac (c2) (ac (c3) (ac (by rw [List.take_of_length_le (show List.length BM ≤ i by omega)]) (ac (by omega) (ac (by omega) (ob2 (by omega) (ac (by rw [List.take_of_length_le (show List.length HM ≤ i + 1 by omega)]) (ac (by omega) (ac (by omega) (ob2 (by omega) (ac (by assumption) (ac (wj (by omega)) (ac (by assumption) (ao (wj (by omega))))))))))))))))))))))))))) ?_
 exact hw
theorem QP {bn : Bool} {n : Nat} {B HM : Lpz} {q : Nat} {K : Lpz} {V : Liz} {h : Hd} {tn to : Bool} {m : Nat} {T : Lpz} {x y : Liz} (hi : 0 < n) (g : B.getD 0 .undef = .st 69 [.st 68 [.int .u32 h.ver, .iarr .u8 32 h.prev, .iarr .u8 32 h.root, .int .u32 h.time, .int .u32 h.bits, .int .u32 h.nonce], .vec tn (.parr 1 m bsh T)]) (gH : HM.getD 0 .undef = .iarr .u8 32 x) (hn : n ≤ 100) {e : Nat} (he : e ≠ 0) (c1 : Pt 14 [] [.st 69 [.st 68 [.int .u32 h.ver, .iarr .u8 32 h.prev, .iarr .u8 32 h.root, .int .u32 h.time, .int .u32 h.bits, .int .u32 h.nonce], .vec tn (.parr 1 m bsh T)]] [] (.int .i64 e)) : Wt Tryz.f5 [] [] (.tup [.nilp, .int .i64 e]) (Ad Tryz.f5 0) (dN0 bn n B HM q K V) := by
 have hne : ¬ ((e : Int) = 0) := by omega
 unfold dN0
 refine W.rtA [(0, aT), (3, aE g), (8, c9 c1), (11, aT)] [] [decide (0 < (n:Int)) = true, (0 : Int) ≤ 0, 0 < (n:Int), _, 0 < n, _, ((e:Int) != 0) = true] (ac (dT (by omega)) (ob2 (by omega) (ac (ex g) (ac (by omega) (ac (c1) (ao (bne_iff_ne.2 (by omega))))))))
theorem P6 {bn : Bool} {n : Nat} {B HM : Lpz} {q : Nat} {K : Lpz} {V : Liz} {h : Hd} {tn to : Bool} {m : Nat} {T : Lpz} {x y : Liz} (hi : 0 < n) (g : B.getD 0 .undef = .st 69 [.st 68 [.int .u32 h.ver, .iarr .u8 32 h.prev, .iarr .u8 32 h.root, .int .u32 h.time, .int .u32 h.bits, .int .u32 h.nonce], .vec tn (.parr 1 m bsh T)]) (gH : HM.getD 0 .undef = .iarr .u8 32 x) (hn : n ≤ 100) (c1 : Pt 14 [] [.st 69 [.st 68 [.int .u32 h.ver, .iarr .u8 32 h.prev, .iarr .u8 32 h.root, .int .u32 h.time, .int .u32 h.bits, .int .u32 h.nonce], .vec tn (.parr 1 m bsh T)]] [] (.int .i64 ((0 : Nat) : Int))) (hx : x.length = 32) (hp : ¬ h.prev = x) : Wt Tryz.f5 [] [] (.tup [.nilp, .int .i64 ((9 : Nat) : Int)]) (Ad Tryz.f5 0) (dN0 bn n B HM q K V) := by
 unfold dN0
 refine W.rtA [(0, aT), (3, aE g), (8, c9 c1), (9, aV (I6 0)), (21, aE gH), (22, aT)] [] [decide (0 < (n:Int)) = true, (0 : Int) ≤ 0, 0 < (n:Int), _, 0 < n, _, I6 ↑(0 : Nat) = I6 0, (0 : Int) ≤ 0, 0 < (↑(1 : Nat) : Int), _, 0 < 1, (!decide (Hd.prev h = x)) = true] (ac (dT (by omega)) (ob2 (by omega) (ac (ex g) (ac (by omega) (ac (c1) (ac (cg (by omega)) (ob2 (by omega) (ac (ex gH) (ac (by omega) (ao (by (simp [*]; done))))))))))))
theorem Qa {bn : Bool} {n : Nat} {B HM : Lpz} {q : Nat} {K : Lpz} {V : Liz} {h : Hd} {tn to : Bool} {m : Nat} {T : Lpz} {x y : Liz} {BM : Lpz} {i : Nat} (hi : i < n) (g : B.getD i .undef = .st 69 [.st 68 [.int .u32 h.ver, .iarr .u8 32 h.prev, .iarr .u8 32 h.root, .int .u32 h.time, .int .u32 h.bits, .int .u32 h.nonce], .vec tn (.parr 1 m bsh T)]) (gH : HM.getD i .undef = .iarr .u8 32 x) (hn : n ≤ 100) {e : Nat} (he : e ≠ 0) (c1 : Pt 14 [] [.st 69 [.st 68 [.int .u32 h.ver, .iarr .u8 32 h.prev, .iarr .u8 32 h.root, .int .u32 h.time, .int .u32 h.bits, .int .u32 h.nonce], .vec tn (.parr 1 m bsh T)]] [] (.int .i64 e)) : Wt Tryz.f5 [] [] (.tup [.nilp, .int .i64 e]) (Ad Tryz.f5 0) (dN1 bn n B HM q K V BM i) := by
 have hne : ¬ ((e : Int) = 0) := by omega
 unfold dN1
 refine W.rtA [(0, aT), (3, aE g), (8, c9 c1), (11, aT)] [] [decide ((i:Int) < (n:Int)) = true, 0 ≤ (i:Int), (i:Int) < (n:Int), _, i < n, _, ((e:Int) != 0) = true] (ac (dT (by omega)) (ob2 (by omega) (ac (ex g) (ac (by omega) (ac (c1) (ao (bne_iff_ne.2 (by omega))))))))
theorem Qt {bn : Bool} {n : Nat} {B HM : Lpz} {q : Nat} {K : Lpz} {V : Liz} {h : Hd} {tn to : Bool} {m : Nat} {T : Lpz} {x y : Liz} {BM : Lpz} {i : Nat} (hi : i < n) (g : B.getD i .undef = .st 69 [.st 68 [.int .u32 h.ver, .iarr .u8 32 h.prev, .iarr .u8 32 h.root, .int .u32 h.time, .int .u32 h.bits, .int .u32 h.nonce], .vec tn (.parr 1 m bsh T)]) (gH : HM.getD i .undef = .iarr .u8 32 x) (hn : n ≤ 100) (c1 : Pt 14 [] [.st 69 [.st 68 [.int .u32 h.ver, .iarr .u8 32 h.prev, .iarr .u8 32 h.root, .int .u32 h.time, .int .u32 h.bits, .int .u32 h.nonce], .vec tn (.parr 1 m bsh T)]] [] (.int .i64 ((0 : Nat) : Int))) (hx : x.length = 32) (hp : ¬ h.prev = x) : Wt Tryz.f5 [] [] (.tup [.nilp, .int .i64 ((9 : Nat) : Int)]) (Ad Tryz.f5 0) (dN1 bn n B HM q K V BM i) := by
 unfold dN1
 refine W.rtA [(0, aT), (3, aE g), (8, c9 c1), (9, aV (I6 0)), (20, aV (PV.at 3 [Stp.idx i 32])), (21, aE gH), (22, aT)] [] [decide ((i:Int) < (n:Int)) = true, 0 ≤ (i:Int), (i:Int) < (n:Int), _, i < n, _, I6 ↑(0 : Nat) = I6 0, PV.at 3 [Stp.idx (0 + i) 32] = PV.at 3 [Stp.idx i 32], 0 ≤ (i:Int), (i:Int) < (↑(i + 1) : Int), _, i < i + 1, (!decide (Hd.prev h = x)) = true] (ac (dT (by omega)) (ob2 (by omega) (ac (ex g) (ac (by omega) (ac (c1) (ac (cg (by omega)) (ac (by simp only [Nat.zero_add]) (ob2 (by omega) (ac (ex gH) (ac (by omega) (ao (by (simp [*]; done)))))))))))))
end Go.Proofs
namespace Go.Proofs
open Go Go.Pe Go.Pm
set_option maxRecDepth 100000
set_option linter.unusedVariables false
def rD0 (HM : List PV) (q : Nat) (K : List PV) (V : List Int) : List (Nat × Row) := [(1, ⟨.st 3 [.vec true (.parr 69 0 EI []), .ref 3 [] 32 0 1, .fn 1000000 4], false⟩), (3, ⟨.parr 32 1 hsE HM, false⟩), (4, ⟨.tup [.tup [.parr 32 (q) hsE (K), .iarr .i64 (q) (V)]], false⟩)]
def rD1 (n : Nat) (BM HM : List PV) (q : Nat) (K : List PV) (V : List Int) : List (Nat × Row) := [(1, ⟨.st 3 [.ref 2 [] 69 0 n, .ref 3 [] 32 0 (n + 1), .fn 1000000 4], false⟩), (2, ⟨.parr 69 n EI BM, false⟩), (3, ⟨.parr 32 (n + 1) hsE HM, false⟩), (4, ⟨.tup [.tup [.parr 32 (q) hsE (K), .iarr .i64 (q) (V)]], false⟩)]
def rD (n : Nat) (BM HM : List PV) (q : Nat) (K : List PV) (V : List Int) : List (Nat × Row) := match n with
 | 0 => rD0 HM q K V
 | n + 1 => rD1 (n + 1) BM HM q K V
theorem QE {bn : Bool} {B HM : Lpz} {q : Nat} {K : Lpz} {V : Liz} : Wt Tryz.f5 [] (rD0 HM q K V) (.tup [.at 1 [], .int .i64 ((0 : Nat) : Int)]) (Ad Tryz.f5 0) (dN0 bn 0 B HM q K V) := by
 unfold dN0 rD0
 refine W.rtA [] [(1, 1), (3, 3), (4, 4)] [] trivial
theorem QD {bn : Bool} {n : Nat} {B HM : Lpz} {q : Nat} {K : Lpz} {V : Liz} {BM : Lpz} : Wt Tryz.f5 [] (rD1 n BM HM q K V) (.tup [.at 1 [], .int .i64 ((0 : Nat) : Int)]) (Ad Tryz.f5 0) (dN1 bn n B HM q K V BM n) := by
 unfold dN1 rD1
 refine W.rtA [(0, aF)] (rI 4) [decide ((n:Int) < (n:Int)) = false] (ao (dF (by omega)))
def ownB (b : Blk) : PV := BX b.h (decide (b.n = 0)) b.n b.L
def Bw (f : List Int) (Bs : List Blk) : List (List Int) := f :: Bs.map fun b => Du b.h
def depE : List Int → List Blk → Nat
 | _, [] => 0
 | x, b :: l => if J5 b.h b.L = 0 then (if b.h.prev = x then depE (Du b.h) l else 9) else J5 b.h b.L
def mapS (KV : List (List Int) × List Int) (i : Nat) (y : List Int) : List (List Int) × List Int := if Cv (KV.1.map hv) (hv y) = true then KV else (KV.1 ++ [y], KV.2 ++ [((i + 1 : Nat) : Int)])
def mapF : Nat → List (List Int) × List Int → List Blk → List (List Int) × List Int
 | _, KV, [] => KV
 | i, KV, b :: l => mapF (i + 1) (mapS KV i (Du b.h)) l
theorem Ci (f : List Int) (Bs : List Blk) : (Bw f Bs).length = Bs.length + 1 := by simp [Bw]
theorem Jz {f : List Int} {Bs : List Blk} {i : Nat} (h : i < Bs.length) : (Bw f Bs).getD (i + 1) [] = Du (Bs.getD i default).h := by
 simp [Bw, List.getD_eq_getElem?_getD, h]
theorem N9 {f : List Int} {Bs : List Blk} {i : Nat} (h : i < Bs.length) : ((Bw f Bs).map hv).take (i + 1 + 1) = ((Bw f Bs).map hv).take (i + 1) ++ [hv (Du (Bs.getD i default).h)] := by
 rw [List.take_add_one]
 congr 1
 simp [Bw, List.getD_eq_getElem?_getD, h]
theorem Pi {f : List Int} {Bs : List Blk} {i : Nat} (h : i < (Bw f Bs).length) : (((Bw f Bs).map hv).take (i + 1)).getD i .undef = hv ((Bw f Bs).getD i []) := by
 simp [List.getD_eq_getElem?_getD, h, List.getElem?_take]
theorem PM {f : List Int} {Bs : List Blk} {i : Nat} (hf : f.length = 32) : ((Bw f Bs).getD i []).length = 32 ∨ (Bw f Bs).length ≤ i := by
 by_cases h : i < (Bw f Bs).length
 ·left
  cases i with
  | zero => simpa [Bw] using hf
  | succ i =>
   rw [Jz (by rw [Ci] at h; omega)]
   exact GQ _
 ·right; omega
theorem Qg {Bs : List Blk} {i : Nat} (h : i < Bs.length) : (Bs.map ownB).take (i + 1) = (Bs.map ownB).take i ++ [ownB (Bs.getD i default)] := by
 rw [List.take_add_one]
 congr 1
 simp [List.getD_eq_getElem?_getD, h]
theorem W_dep {bn : Bool} {n : Nat} {Bs : List Blk} {f : Liz} (hB : Bs.length = n) (hn : n ≤ 100) (hok : ∀ b ∈ Bs, BlkOk b) (hf : f.length = 32) {hout : Lrz} {res : PV} : ∀ (k i : Nat) (KV : List (List Int) × List Int), i + k = n → KV.1.length = KV.2.length → KV.1.length ≤ i + 1 →
  (depE ((Bw f Bs).getD i []) (Bs.drop i) = 0 → hout = rD n (Bs.map ownB) ((Bw f Bs).map hv) (mapF i KV (Bs.drop i)).1.length ((mapF i KV (Bs.drop i)).1.map hv) (mapF i KV (Bs.drop i)).2 ∧ res = .tup [.at 1 [], .int .i64 ((0 : Nat) : Int)]) →
  (∀ e, depE ((Bw f Bs).getD i []) (Bs.drop i) = e → e ≠ 0 → hout = [] ∧ res = .tup [.nilp, .int .i64 e]) →
  Wt Tryz.f5 [] hout res (Ad Tryz.f5 0) (dN bn n (Bs.map Blk.pv) (((Bw f Bs).map hv).take (i + 1)) KV.1.length (KV.1.map hv) KV.2 ((Bs.map ownB).take i) i)
 | 0, i, KV, hk, hl, hq, h1, h2 => by
  have hi : i = n := by omega
  subst hi
  rw [List.drop_of_length_le (by omega)] at h1
  obtain ⟨rfl, rfl⟩ := h1 rfl
  rw [List.take_of_length_le (l := (Bw f Bs).map hv) (by rw [List.length_map, Ci]; omega), List.take_of_length_le (l := Bs.map ownB) (by rw [List.length_map]; omega)]
  rcases i with _ | i
  ·exact QE
  ·exact QD
 | k + 1, i, KV, hk, hl, hq, h1, h2 => by
  have hi : i < n := by omega
  have hlt : i < Bs.length := by omega
  have g := blk_get hlt
  have gH := Pi (f := f) (Bs := Bs) (i := i) (by rw [Ci]; omega)
  have hx : ((Bw f Bs).getD i []).length = 32 := by
   rcases PM (f := f) (Bs := Bs) (i := i) hf with h | h
   ·exact h
   ·rw [Ci] at h; omega
  have hmem : Bs.getD i default ∈ Bs := by
   have : Bs.getD i default = Bs[i] := by simp [List.getD_eq_getElem?_getD, hlt]
   rw [this]; exact List.getElem_mem hlt
  have ob := hok _ hmem
  have hdrop : Bs.drop i = Bs.getD i default :: Bs.drop (i + 1) := by rw [List.drop_eq_getElem_cons hlt]; simp [List.getD_eq_getElem?_getD, hlt]
  have ih := fun KV => W_dep (bn := bn) hB hn hok hf (hout := hout) (res := res) k (i + 1) KV (by omega)
  rw [N9 hlt, Qg hlt, Jz hlt] at ih
  rw [hdrop] at h1 h2
  have c1 := Pv (nl := (Bs.getD i default).nl) ob.h ob.t ob.n
  have c2 := PE ob.h
  have c3 := pc_own (h := (Bs.getD i default).h) (nl := (Bs.getD i default).nl) ob.t ob.n
  have hy := GQ (Bs.getD i default).h
  have hLH : (((Bw f Bs).map hv).take (i + 1)).length = i + 1 := by rw [List.length_take, List.length_map, Ci]; omega
  have hLB : ((Bs.map ownB).take i).length = i := by rw [List.length_take, List.length_map]; omega
  clear hdrop hmem
  generalize Bs.getD i default = b at *
  generalize (Bw f Bs).getD i [] = x at *
  obtain ⟨h, tn, m, L⟩ := b
  dsimp only at *
  unfold depE at h1 h2
  dsimp only at h1 h2
  by_cases hc : J5 h L = 0
  ·rw [if_pos hc] at h1 h2
   rw [hc] at c1
   by_cases hp : h.prev = x
   ·rw [if_pos hp] at h1 h2
    unfold mapF at h1
    dsimp only at h1
    have hS : mapS KV i (Du h) = if Cv (KV.1.map hv) (hv (Du h)) = true then KV else (KV.1 ++ [Du h], KV.2 ++ [((i + 1 : Nat) : Int)]) := rfl
    have ih := ih (mapS KV i (Du h))
    by_cases hm : Cv (KV.1.map hv) (hv (Du h)) = true
    ·rw [if_pos hm] at hS
     rw [hS] at h1 ih
     have ih := ih hl (by omega) h1 h2
     rcases i with _ | i
     ·have hw := ih
      rw [List.take_zero, List.nil_append] at hw
      exact PY hi g gH hLH hn c1 c2 c3 hx hy hp hm (by omega) hw
     ·exact QS hi g gH hLH hLB hn c1 c2 c3 hx hy hp hm (by omega) ih
    ·have hm' : Cv (KV.1.map hv) (hv (Du h)) = false := by simpa using hm
     rw [if_neg hm] at hS
     rw [hS] at h1 ih
     have ih := ih (by simp [hl]) (by simp; omega) h1 h2
     dsimp only at ih
     rw [List.length_append, List.map_append] at ih
     rcases i with _ | i
     ·have hw := ih
      rw [List.take_zero, List.nil_append] at hw
      exact P7 hi g gH hLH hn c1 c2 c3 hx hy hp hm' (by omega) hw
     ·exact P9 hi g gH hLH hLB hn c1 c2 c3 hx hy hp hm' (by omega) ih
   ·rw [if_neg hp] at h1 h2
    obtain ⟨rfl, rfl⟩ := h2 9 rfl (by omega)
    rcases i with _ | i
    ·exact P6 (to := true) (y := x) hi g gH hn c1 hx hp
    ·exact Qt (to := true) (y := x) hi g gH hn c1 hx hp
  ·rw [if_neg hc] at h1 h2
   obtain ⟨rfl, rfl⟩ := h2 _ rfl hc
   rcases i with _ | i
   ·exact QP (to := true) (y := x) hi g gH hn hc c1
   ·exact Qa (to := true) (y := x) hi g gH hn hc c1
def depKV (f : List Int) (Bs : List Blk) : List (List Int) × List Int := mapF 0 ([f], [0]) Bs
def OH (n : Nat) (f : List Int) (Bs : List Blk) : List (Nat × Row) := rD n (Bs.map ownB) ((Bw f Bs).map hv) (depKV f Bs).1.length ((depKV f Bs).1.map hv) (depKV f Bs).2
theorem PK {bn : Bool} {n : Nat} {Bs : List Blk} {f : Liz} (hB : Bs.length = n) (hn : n ≤ 100) (hok : ∀ b ∈ Bs, BlkOk b) (hf : f.length = 32) {hout : Lrz} {res : PV} (h1 : depE f Bs = 0 → hout = OH n f Bs ∧ res = .tup [.at 1 [], .int .i64 ((0 : Nat) : Int)]) (h2 : ∀ e, depE f Bs = e → e ≠ 0 → hout = [] ∧ res = .tup [.nilp, .int .i64 e]) :
  Pt 5 [] [.iarr .u8 32 f, QQ bn n Bs] hout res := by
 refine pO Tryz.func5 (by kernel_rfl) ?_
 have hw := W_dep (bn := bn) hB hn hok hf (hout := hout) (res := res) n 0 ([f], [0]) (by omega) rfl (by simp) (by rw [List.drop_zero]; exact h1) (by rw [List.drop_zero]; exact h2)
 clear h1 h2
 change W _ _ _ _ _ _ _ (dN0 bn n (Bs.map Blk.pv) [.iarr .u8 32 f] 1 [.iarr .u8 32 f] [0]) at hw
 unfold QQ
 generalize Bs.map Blk.pv = B at *
 unfold dN0 at hw
 refine W.sgA 0 [(5, aF)] [(272, 1), (176, 3), (192, 4)] (⟨[(6, .at 1 []), (23, .vec bn (.parr 69 n EI B)), (24, .int .i64 n), (25, .int .i64 0)], [(1, ⟨.st 3 [.vec true (.parr 69 0 EI []), .ref 3 [] 32 0 1, .fn 1000000 4], false⟩), (3, ⟨.parr 32 1 hsE [.iarr .u8 32 f], false⟩), (4, ⟨.tup [.tup [.parr 32 1 hsE [.iarr .u8 32 f], .iarr .i64 1 [0]]], false⟩)]⟩ : DS) [decide ((n:Int) > 512) = false, rr (false)] (ac (dF (by omega)) (ao rfl)) ?_
 exact hw
def f7 : List Int := 7 :: List.replicate 31 0
end Go.Proofs
namespace Go.Proofs
open Go Go.Pe Go.Pm
set_option maxRecDepth 100000
set_option linter.unusedVariables false
set_option linter.unusedSimpArgs false
def srvR (b qu l : Int) : Row := ⟨.st 4 [.at 1 [], .int .i64 b, .int .i64 qu, .int .i64 l], false⟩
abbrev enshS : Sh := .st 4 [.vec 1 (.int .u8), .st 3 [.int .i64, .int .i64, .vec 32 (.iarr .u8 32)]]
def msgPV (kind : Int) (ln : Bool) (lc : Nat) (LM : List PV) (stop : List Int) (hn : Bool) (hc : Nat) (HM : List PV) (block : List Int) (inl : Bool) (im : Nat) (it : List Int) (dnl : Bool) (dm : Nat) (da : List Int) (en : Bool) (ec : Nat) (EM : List PV) (nonce : Int) (off code : Int) : PV :=
 .st 73 [.int .i64 kind, .vec ln (.parr 32 lc hsE LM), .iarr .u8 32 stop, .vec hn (.parr 68 hc hsh HM), .iarr .u8 32 block, .vec inl (.iarr .u8 im it), .vec dnl (.iarr .u8 dm da), .vec en (.parr 4 ec enshS EM), .int .u64 nonce, .int .i64 off, .int .i64 code]
theorem J9 {HM : Lpz} {q : Nat} {K : Lpz} {V : Liz} {b qu : Int} (h1 : ¬ b < 1) (h2 : ¬ b > 2000) (h3 : ¬ qu < 1) (h4 : ¬ qu > 1000) : Pt 6 (rD0 HM q K V) [.at 1 [], .int .i64 b, .int .i64 qu] (rD0 HM q K V ++ [(7, srvR b qu qu)]) (.tup [.at 7 [], .int .i64 0]) := by
 unfold rD0
 refine pO Tryz.func6 (by kernel_rfl) ?_
 refine W.rtA [(3, aF), (6, aF), (10, aF), (14, aF)] [(1, 1), (3, 3), (4, 4), (400, 7)] [decide (b < (1 : Int)) = false, decide (b > (2000 : Int)) = false, decide (qu < (1 : Int)) = false, decide (qu > (1000 : Int)) = false] (ac (dF (by omega)) (ac (dF (by omega)) (ac (dF (by omega)) (ao (dF (by omega))))))
theorem En {HM : Lpz} {q : Nat} {K : Lpz} {V : Liz} {b qu : Int} (h : b < 1 ∨ b > 2000 ∨ qu < 1 ∨ qu > 1000) : Pt 6 (rD0 HM q K V) [.at 1 [], .int .i64 b, .int .i64 qu] (rD0 HM q K V) (.tup [.nilp, .int .i64 1]) := by
 unfold rD0
 refine pO Tryz.func6 (by kernel_rfl) ?_
 by_cases h1 : b < 1
 ·refine W.rt [(3, aT)] [(1, 1), (3, 3), (4, 4)] [decide (b < (1 : Int)) = true] (by kernel_rfl) (ao (dT (by omega)))
 ·by_cases h2 : b > 2000
  ·refine W.rt [(3, aF), (6, aT)] [(1, 1), (3, 3), (4, 4)] [decide (b < (1 : Int)) = false, decide (b > (2000 : Int)) = true] (by kernel_rfl) (ac (dF (by omega)) (ao (dT (by omega))))
  ·by_cases h3 : qu < 1
   ·refine W.rt [(3, aF), (6, aF), (10, aT)] [(1, 1), (3, 3), (4, 4)] [decide (b < (1 : Int)) = false, decide (b > (2000 : Int)) = false, decide (qu < (1 : Int)) = true] (by kernel_rfl) (ac (dF (by omega)) (ac (dF (by omega)) (ao (dT (by omega)))))
   ·have h4 : qu > 1000 := by omega
    refine W.rtA [(3, aF), (6, aF), (10, aF), (14, aT)] [(1, 1), (3, 3), (4, 4)] [decide (b < (1 : Int)) = false, decide (b > (2000 : Int)) = false, decide (qu < (1 : Int)) = false, decide (qu > (1000 : Int)) = true] (ac (dF (by omega)) (ac (dF (by omega)) (ac (dF (by omega)) (ao (dT (by omega))))))
theorem MN {HM : Lpz} {q : Nat} {K : Lpz} {V : Liz} {b qu l : Int} : Pt 8 (rD0 HM q K V ++ [(7, srvR b qu l)]) [.at 7 []] (rD0 HM q K V ++ [(7, srvR b qu l)]) (.int .i64 l) := by
 unfold rD0
 refine pO Tryz.func8 (by kernel_rfl) ?_
 refine W.rtA [] [(1, 1), (3, 3), (4, 4), (7, 7)] [] trivial
theorem QX {HM : Lpz} {q : Nat} {K : Lpz} {V : Liz} {b qu l : Int} : Pt 13 (rD0 HM q K V ++ [(7, srvR b qu l)]) [.at 7 [], msgPV 7 true 0 [] z32 true 0 [] z32 true 0 [] true 0 [] true 0 [] 5 0 0] (rD0 HM q K V ++ [(7, srvR b qu l)]) (.tup [msgPV 8 true 0 [] z32 true 0 [] z32 true 0 [] true 0 [] true 0 [] 5 0 0, .bool true]) := by
 unfold rD0
 refine pO Tryz.func13 (by kernel_rfl) ?_
 refine W.rtA [] [(1, 1), (3, 3), (4, 4), (7, 7)] [] trivial
end Go.Proofs
namespace Go.Proofs
open Go Go.Pe Go.Pm
set_option maxRecDepth 100000
set_option linter.unusedVariables false
set_option linter.unusedSimpArgs false
theorem Kr : Pt 5 [] [.iarr .u8 32 z32, .vec true (.parr 69 0 EI [])] (rD0 [hv z32] 1 [hv z32] [0]) (.tup [.at 1 [], .int .i64 0]) :=
 PK (bn := true) (n := 0) (Bs := []) (f := z32) rfl (by omega) (fun b hb => by cases hb) rfl (hout := OH 0 z32 []) (res := .tup [.at 1 [], .int .i64 ((0 : Nat) : Int)]) (fun _ => ⟨rfl, rfl⟩) (fun e he hne => absurd he.symm hne)
theorem Mm : Pt 7 [] [] [] (.bool true) := by
 refine pO Tryz.func7 (by kernel_rfl) ?_
 have c1 := Kr
 have c2 := J9 (HM := [hv z32]) (q := 1) (K := [hv z32]) (V := [0]) (b := 1) (qu := 1) (by omega) (by omega) (by omega) (by omega)
 have c3 := QX (HM := [hv z32]) (q := 1) (K := [hv z32]) (V := [0]) (b := 1) (qu := 1) (l := 1)
 have c4 := MN (HM := [hv z32]) (q := 1) (K := [hv z32]) (V := [0]) (b := 1) (qu := 1) (l := 1)
 unfold rD0 hv at *
 refine W.rtA [(2, c9 c1), (15, cC true [(97, 1), (99, 3), (100, 4)] c2), (29, cC true [(97, 1), (99, 3), (100, 4), (311, 7)] c3), (49, cC true [(97, 1), (99, 3), (100, 4), (311, 7)] c4)] [] [_, _, _, _] (ac (c1) (ac (c2) (ac (c3) (ao (c4)))))
theorem Q8 {b qu : Int} : Pt 3 [] [.int .i64 b, .int .i64 qu] [] (.bool true) := by
 refine pO Tryz.func3 (by kernel_rfl) ?_
 have c1 := Kr
 have c5 := Mm
 by_cases h1 : b < 1
 ·have c2 := En (HM := [hv z32]) (q := 1) (K := [hv z32]) (V := [0]) (b := b) (qu := qu) (.inl h1)
  unfold rD0 hv at *
  refine W.rtA [(2, c9 c1), (17, cC true [(97, 1), (99, 3), (100, 4)] c2), (24, aT), (44, c9 c5)] [] [_, _, decide (b < (1 : Int)) = true, _] (ac (c1) (ac (c2) (ac (dT (by omega)) (ao (c5)))))
 ·by_cases h2 : b > 2000
  ·have c2 := En (HM := [hv z32]) (q := 1) (K := [hv z32]) (V := [0]) (b := b) (qu := qu) (.inr (.inl h2))
   unfold rD0 hv at *
   refine W.rtA [(2, c9 c1), (17, cC true [(97, 1), (99, 3), (100, 4)] c2), (24, aF), (27, aT), (44, c9 c5)] [] [_, _, decide (b < (1 : Int)) = false, decide (b > (2000 : Int)) = true, _] (ac (c1) (ac (c2) (ac (dF (by omega)) (ac (dT (by omega)) (ao (c5))))))
  ·by_cases h3 : qu < 1
   ·have c2 := En (HM := [hv z32]) (q := 1) (K := [hv z32]) (V := [0]) (b := b) (qu := qu) (.inr (.inr (.inl h3)))
    unfold rD0 hv at *
    refine W.rtA [(2, c9 c1), (17, cC true [(97, 1), (99, 3), (100, 4)] c2), (24, aF), (27, aF), (31, aT), (44, c9 c5)] [] [_, _, decide (b < (1 : Int)) = false, decide (b > (2000 : Int)) = false, decide (qu < (1 : Int)) = true, _] (ac (c1) (ac (c2) (ac (dF (by omega)) (ac (dF (by omega)) (ac (dT (by omega)) (ao (c5)))))))
   ·by_cases h4 : qu > 1000
    ·have c2 := En (HM := [hv z32]) (q := 1) (K := [hv z32]) (V := [0]) (b := b) (qu := qu) (.inr (.inr (.inr h4)))
     unfold rD0 hv at *
     refine W.rtA [(2, c9 c1), (17, cC true [(97, 1), (99, 3), (100, 4)] c2), (24, aF), (27, aF), (31, aF), (35, aT), (44, c9 c5)] [] [_, _, decide (b < (1 : Int)) = false, decide (b > (2000 : Int)) = false, decide (qu < (1 : Int)) = false, decide (qu > (1000 : Int)) = true, _] (ac (c1) (ac (c2) (ac (dF (by omega)) (ac (dF (by omega)) (ac (dF (by omega)) (ac (dT (by omega)) (ao (c5))))))))
    ·have c2 := J9 (HM := [hv z32]) (q := 1) (K := [hv z32]) (V := [0]) h1 h2 h3 h4
     have c4 := MN (HM := [hv z32]) (q := 1) (K := [hv z32]) (V := [0]) (b := b) (qu := qu) (l := qu)
     unfold rD0 hv at *
     refine W.rtA [(2, c9 c1), (17, cC true [(97, 1), (99, 3), (100, 4)] c2), (24, aF), (27, aF), (31, aF), (35, aF), (45, cC true [(97, 1), (99, 3), (100, 4), (343, 7)] c4), (47, aT), (50, c9 c5)] [] [_, _, decide (b < (1 : Int)) = false, decide (b > (2000 : Int)) = false, decide (qu < (1 : Int)) = false, decide (qu > (1000 : Int)) = false, _, (qu == qu) = true, _] (ac (c1) (ac (c2) (ac (dF (by omega)) (ac (dF (by omega)) (ac (dF (by omega)) (ac (dF (by omega)) (ac (c4) (ac (dT (by omega)) (ao (c5))))))))))
end Go.Proofs
namespace Go.Pe
def Mj (P : Program) (tot : Nat) : Nat → List Field → Bool
 | o, [] => Nat.beq o tot
 | o, f :: l => Nat.beq f.offset o && Mj P tot (o + P.cellsOf f.type) l
def okT (P : Program) : Nat → TypeId → Bool
 | 0, _ => false
 | d + 1, t => match P.underlying t with
  | some .bool | some (.int _) | some .string => Nat.beq (P.cellsOf t) 1
  | some (.struct fs) => Mj P (P.cellsOf t) 0 fs.toList && fs.toList.all fun f => okT P d f.type
  | some (.array n e) => Nat.beq (P.cellsOf t) (n * P.cellsOf e) && DN P e && okT P d e
  | some (.slice e) => Nat.beq (P.cellsOf t) 1 && DN P e && okT P d e
  | _ => false
theorem Ce (k : IntKind) : IntKind.same k k = true := by cases k <;> rfl
theorem beq_refl (s : Sh) : Sh.beq s s = true :=
 Sh.rec (motive_1 := fun s => Sh.beq s s = true) (motive_2 := fun l => Sh.LP l l = true) rfl Ce rfl rfl (fun _ _ ih => by simp only [Sh.beq, Bool.and_eq_true]; exact ⟨Nat.beq_refl _, ih⟩)
  (fun k _ => by simp only [Sh.beq, Bool.and_eq_true]; exact ⟨Ce k, Nat.beq_refl _⟩) (fun _ _ _ ih => by simp only [Sh.beq, Bool.and_eq_true]; exact ⟨⟨Nat.beq_refl _, Nat.beq_refl _⟩, ih⟩)
  (fun _ _ ih => by simp only [Sh.beq, Bool.and_eq_true]; exact ⟨Nat.beq_refl _, ih⟩) rfl (fun _ _ h1 h2 => by simp only [Sh.LP, Bool.and_eq_true]; exact ⟨h1, h2⟩) s
structure IJ (P : Program) (w : World) (T : T2) (d : Nat) (t : TypeId) (cs : List Value) (p : PV) : Prop where
 conf : conf (BF P d t) p = true
 wf : WF p
 noref : noref p = true
 untup : untup p = true
 size : size p = P.cellsOf t
 len : cs.length = P.cellsOf t
 agg : Pe.isAgg p = Bn P t
 rel : ∀ (j : Nat) (q : PV) (u : Value), (flat p)[j]? = some q → cs[j]? = some u → RC w T u q
theorem Ja {α β : Type} {g : α → Option β} : ∀ {l : List α} {xs : List β}, l.mapM g = some xs → ∀ i ∈ l, ∃ y, g i = some y
 | [], _, _, i, hi => by cases hi
 | a :: l, xs, h, i, hi => by
  rw [List.mapM_cons] at h
  simp only [Option.bind_eq_bind, Option.bind_eq_some_iff] at h
  obtain ⟨y, hy, ys, hys, _⟩ := h
  rcases List.mem_cons.1 hi with rfl | hi
  ·exact ⟨y, hy⟩
  ·exact Ja hys i hi
theorem Ho {s : Nat} (hs : 0 < s) : ∀ {l : List PV}, WFL l → (∀ q ∈ l, Pe.size q = s) → ∀ {j : Nat} {q : PV}, (Ag l)[j]? = some q → ∃ p, l[j / s]? = some p ∧ (flat p)[j % s]? = some q
 | [], _, _, j, q, h => by simp [Ag] at h
 | p :: l, hw, hz, j, q, h => by
  simp only [WFL] at hw
  have hl : (flat p).length = s := by rw [Ae p hw.1, hz p (by simp)]
  simp only [Ag] at h
  by_cases hj : j < s
  ·rw [List.getElem?_append_left (by omega)] at h
   refine ⟨p, by rw [Nat.div_eq_of_lt hj]; rfl, by rw [Nat.mod_eq_of_lt hj]; exact h⟩
  ·rw [List.getElem?_append_right (by omega), hl] at h
   obtain ⟨p', h1, h2⟩ := Ho hs hw.2 (fun q hq => hz q (by simp [hq])) h
   have e : j = (j - s) + s := by omega
   refine ⟨p', ?_, ?_⟩
   ·rw [e, Nat.add_div_right _ hs]
    simpa using h1
   ·rw [e, Nat.add_mod_right]; exact h2
def BJ (P : Program) (d : Nat) (e : TypeId) (l : List PV) : PV := match P.underlying e with
 | some (.int k) => .iarr k l.length (l.map PV.num)
 | _ => .parr (P.cellsOf e) l.length (BF P d e) l
section
variable {P : Program} {w : World} {T : T2}
theorem ML {d : Nat} {e : TypeId} {k : IntKind} (h : P.underlying e = some (.int k)) : BF P (d + 1) e = .int k := by simp only [BF, h]
theorem Nu {d : Nat} {t e : TypeId} (h : P.underlying t = some (.slice e)) : BF P (d + 1) t = .vec (P.cellsOf e) (BF P d e) := by simp only [BF, h]
theorem Gd {d : Nat} {e : TypeId} {l : List PV} (hok : okT P d e = true) (hl : ∀ q ∈ l, Pe.conf (BF P d e) q = true ∧ WF q ∧ Pe.noref q = true ∧ Pe.untup q = true ∧ Pe.size q = P.cellsOf e) :
  WF (BJ P d e l) ∧ Bb (BJ P d e l) = true ∧ Aa (BJ P d e l) = l.length ∧ Am (BJ P d e l) = P.cellsOf e ∧ Pe.untup (BJ P d e l) = true ∧ flat (BJ P d e l) = Ag l ∧ Pe.size (BJ P d e l) = l.length * P.cellsOf e := by
 have hut : Bg l = true := by
  clear hok
  induction l with
  | nil => rfl
  | cons p l ih =>
   simp only [Bg, Bool.and_eq_true]
   exact ⟨(hl p (by simp)).2.2.2.1, ih fun q hq => hl q (by simp [hq])⟩
 unfold BJ
 split
 ·rename_i k hu
  obtain ⟨d', rfl⟩ : ∃ d', d = d' + 1 := by cases d with
   | zero => simp [okT] at hok
   | succ d => exact ⟨d, rfl⟩
  have h1 : P.cellsOf e = 1 := by
   simp only [okT, hu] at hok
   exact Nat.eq_of_beq_eq_true hok
  have hq : ∀ q ∈ l, ∃ x, q = .int k x ∧ k.wrap x = x := by
   intro q hq
   have := hl q hq
   rw [ML hu] at this
   cases q <;> simp only [Pe.conf, reduceCtorEq, false_and] at this
   rename_i k' x
   have hk := IntKind.same_eq this.1
   subst hk
   exact ⟨x, rfl, by simpa only [WF] using this.2.1⟩
  have hf : (l.map PV.num).map (PV.int k) = l := by
   rw [List.map_map]
   conv => rhs; rw [← List.map_id l]
   refine List.map_congr_left fun q hql => ?_
   obtain ⟨x, rfl, _⟩ := hq q hql
   rfl
  have hfl : Ag l = l := by
   clear hok hf
   induction l with
   | nil => rfl
   | cons p l ih =>
    obtain ⟨x, rfl, _⟩ := hq p (by simp)
    simp only [Ag, flat]
    rw [ih (by simp only [Bg, Bool.and_eq_true] at hut; exact hut.2) (fun q hq' => hl q (by simp [hq'])) (fun q hq' => hq q (by simp [hq']))]
    rfl
  refine ⟨?_, rfl, rfl, by simp only [Am]; omega, rfl, by simp only [flat]; rw [hf, hfl], by simp only [Pe.size]; rw [h1, Nat.mul_one]⟩
  simp only [WF, List.length_map, List.mem_map, true_and]
  rintro x ⟨q, hql, rfl⟩
  obtain ⟨x, rfl, hx⟩ := hq q hql
  exact hx
 ·refine ⟨?_, rfl, rfl, rfl, by simpa only [Pe.untup] using hut, rfl, rfl⟩
  simp only [WF]
  exact ⟨trivial, Bt fun q hq => (hl q hq).2.1, fun q hq => ⟨(hl q hq).2.2.2.2, (hl q hq).1, (hl q hq).2.2.1⟩⟩
theorem MO {d n : Nat} {t e : TypeId} {cs : List Value} (hu : P.underlying t = some (.array n e)) (hc : P.cellsOf t = n * P.cellsOf e) (hok : okT P d e = true) (hs : 0 < P.cellsOf e) (hl : cs.length = P.cellsOf t)
  (h : ∀ i, i < n → ∃ p, IJ P w T d e ((cs.drop (i * P.cellsOf e)).take (P.cellsOf e)) p) : ∃ p, IJ P w T (d + 1) t cs p := by
 have hex : ∀ i, ∃ p, i < n → IJ P w T d e ((cs.drop (i * P.cellsOf e)).take (P.cellsOf e)) p := fun i => by
  by_cases hi : i < n
  ·obtain ⟨p, hp⟩ := h i hi; exact ⟨p, fun _ => hp⟩
  ·exact ⟨.undef, fun h => absurd h hi⟩
 obtain ⟨f, hf⟩ := Classical.axiomOfChoice hex
 have hmem : ∀ q ∈ (List.range n).map f, Pe.conf (BF P d e) q = true ∧ WF q ∧ Pe.noref q = true ∧ Pe.untup q = true ∧ Pe.size q = P.cellsOf e := by
  intro q hq
  obtain ⟨i, hi, rfl⟩ := List.mem_map.1 hq
  have := hf i (by simpa using hi)
  exact ⟨this.conf, this.wf, this.noref, this.untup, this.size⟩
 obtain ⟨a1, a2, a3, a4, a5, a6, a7⟩ := Gd hok hmem
 have hlen : ((List.range n).map f).length = n := by simp
 refine ⟨BJ P d e ((List.range n).map f), ?_, a1, Hu a2, a5, by rw [a7, hlen, hc], hl, ?_, fun j q u hq hu' => ?_⟩
 ·unfold BJ
  simp only [BF, hu]
  cases hk : P.underlying e with
  | none =>
   simp only [Pe.conf, Bool.and_eq_true, hlen]
   exact ⟨⟨Nat.beq_refl _, Nat.beq_refl _⟩, beq_refl _⟩
  | some dsc => cases dsc with
  | int k =>
   simp only [Pe.conf, Bool.and_eq_true, hlen]
   exact ⟨Ce k, Nat.beq_refl _⟩
  | _ =>
   simp only [Pe.conf, Bool.and_eq_true, hlen]
   exact ⟨⟨Nat.beq_refl _, Nat.beq_refl _⟩, beq_refl _⟩
 ·have : Pe.isAgg (BJ P d e ((List.range n).map f)) = true := by unfold BJ; split <;> rfl
  rw [this]
  simp only [Bn, hu]
 ·rw [a6] at hq
  have hwl : WFL ((List.range n).map f) := Bt fun q hq => (hmem q hq).2.1
  obtain ⟨p, h1, h2⟩ := Ho hs hwl (fun q hq => (hmem q hq).2.2.2.2) hq
  have hjn : j / P.cellsOf e < n := by have := (List.getElem?_eq_some_iff.1 h1).1; simpa using this
  have hp : p = f (j / P.cellsOf e) := by simp [hjn] at h1; exact h1.symm
  subst hp
  refine (hf _ hjn).rel (j % P.cellsOf e) q u h2 ?_
  rw [List.getElem?_take, if_pos (Nat.mod_lt _ hs), List.getElem?_drop, ← hu']
  congr 1
  rw [Nat.mul_comm]
  exact Nat.div_add_mod j (P.cellsOf e)
theorem GH {d tot : Nat} {cs : List Value} (hl : cs.length = tot) : ∀ {fs : List Field} {o : Nat}, Mj P tot o fs = true → (∀ f ∈ fs, okT P d f.type = true ∧ ∃ p, IJ P w T d f.type ((cs.drop f.offset).take (P.cellsOf f.type)) p) →
  ∃ ps, EG (fs.map fun f => BF P d f.type) ps = true ∧ WFL ps ∧ BP ps = true ∧ Bg ps = true ∧ o + Ar ps = tot ∧ ∀ (j : Nat) (q : PV) (u : Value), (Ag ps)[j]? = some q → cs[o + j]? = some u → RC w T u q
 | [], o, h, _ => by
  simp only [Mj] at h
  exact ⟨[], rfl, by simp [WFL], rfl, rfl, by simp only [Ar]; exact Nat.eq_of_beq_eq_true h, fun j q u hq => by simp [Ag] at hq⟩
 | f :: fs, o, h, hf => by
  simp only [Mj, Bool.and_eq_true] at h
  obtain ⟨h1, h2⟩ := h
  have ho := Nat.eq_of_beq_eq_true h1
  obtain ⟨_, p, hp⟩ := hf f (by simp)
  obtain ⟨ps, g1, g2, g3, g4, g5, g6⟩ := GH hl h2 fun x hx => hf x (by simp [hx])
  refine ⟨p :: ps, by simp only [List.map_cons, EG, Bool.and_eq_true]; exact ⟨hp.conf, g1⟩, by simp only [WFL]; exact ⟨hp.wf, g2⟩, by simp only [BP, Bool.and_eq_true]; exact ⟨hp.noref, g3⟩, by simp only [Bg, Bool.and_eq_true]; exact ⟨hp.untup, g4⟩, by simp only [Ar, hp.size]; omega, fun j q u hq hu => ?_⟩
  simp only [Ag] at hq
  have hlp : (flat p).length = P.cellsOf f.type := by rw [Ae p hp.wf, hp.size]
  by_cases hj : j < P.cellsOf f.type
  ·rw [List.getElem?_append_left (by omega)] at hq
   refine hp.rel j q u hq ?_
   rw [List.getElem?_take, if_pos hj, List.getElem?_drop, ho]
   exact hu
  ·rw [List.getElem?_append_right (by omega), hlp] at hq
   refine g6 _ q u hq ?_
   rw [← hu]
   congr 1
   omega
end
section
variable {H : Type} {enc : TypeId × Value → H} {P : Program} {w : World} {base : Nat} {spare : Nat → Bool} {held : Bool}
theorem Io {a : Addr} {n : Nat} {cs : List Value} (h : w.cells? base a n = some cs) : cs.length = n ∧ ∀ j u, cs[j]? = some u → w.cell? (a.add j) = some u := by
 unfold World.cells? at h
 split at h
 ·have : ∀ {l : List Nat} {xs : List Value}, l.mapM (fun i => w.cell? (a.add i)) = some xs → xs.length = l.length ∧ ∀ (j : Nat) (i : Nat) (u : Value), l[j]? = some i → xs[j]? = some u → w.cell? (a.add i) = some u := by
   intro l
   induction l with
   | nil => intro xs h; simp at h; subst h; exact ⟨rfl, fun j i u hi => by simp at hi⟩
   | cons b l ih =>
    intro xs h
    rw [List.mapM_cons] at h
    simp only [Option.bind_eq_bind, Option.bind_eq_some_iff, Option.pure_def, Option.some.injEq] at h
    obtain ⟨y, hy, ys, hys, rfl⟩ := h
    obtain ⟨e1, e2⟩ := ih hys
    refine ⟨by simp [e1], fun j i u hi hu => ?_⟩
    cases j with
    | zero => simp at hi hu; subst hi; subst hu; exact hy
    | succ j => simp at hi hu; exact e2 j i u hi hu
  obtain ⟨e1, e2⟩ := this h
  refine ⟨by simpa using e1, fun j u hu => ?_⟩
  have hj : j < n := by have := (List.getElem?_eq_some_iff.1 hu).1; simp at e1; omega
  exact e2 j j u (by simp [hj]) hu
 ·cases h
theorem Eu : ∀ (d : Nat) (t : TypeId) (fuel : Nat) (cs : List Value) (x : DataW H × List MemPlace), okT P d t = true → DataW.trod enc P w base spare held fuel t cs = some x → ∃ p, IJ P w (fun b _ => b < w.heap.size) d t cs p
 | 0, _, _, _, _, h, _ => by simp [okT] at h
 | d + 1, t, 0, cs, x, _, h => by simp [DataW.trod] at h
 | d + 1, t, fuel + 1, cs, x, hok, h => by
  have hsz : ∀ e, DN P e = true → 0 < P.cellsOf e := fun e he => Nat.pos_of_ne_zero (A8 he)
  simp only [okT] at hok
  split at hok
  ·rename_i hu
   have hc := Nat.eq_of_beq_eq_true hok
   obtain ⟨b, rfl, _⟩ := DataW.trod_bool hu h
   refine ⟨.bool b, by simp only [BF, hu]; rfl, trivial, rfl, rfl, hc.symm, by rw [hc]; rfl, by simp only [Bn, hu]; rfl, fun j q u hq hu' => ?_⟩
   cases j with
   | zero => simp [flat] at hq hu'; subst hq; subst hu'; exact .bool b
   | succ j => simp [flat] at hq
  ·rename_i k hu
   have hc := Nat.eq_of_beq_eq_true hok
   obtain ⟨n, rfl, _, hwf⟩ := DataW.trod_int hu h
   have hw : k.wrap n = n := by
    rw [Au]
    simpa [Lit.wf, IntKind.has] using hwf
   refine ⟨.int k n, by simp only [BF, hu, conf]; cases k <;> rfl, by simp only [WF]; exact hw, rfl, rfl, hc.symm, by rw [hc]; rfl, by simp only [Bn, hu]; rfl, fun j q u hq hu' => ?_⟩
   cases j with
   | zero => simp [flat] at hq hu'; subst hq; subst hu'; exact .int k n
   | succ j => simp [flat] at hq
  ·rename_i hu
   have hc := Nat.eq_of_beq_eq_true hok
   obtain ⟨s, rfl, _, hs⟩ := DataW.trod_string hu h
   refine ⟨.str s, by simp only [BF, hu]; rfl, trivial, rfl, rfl, hc.symm, by rw [hc]; rfl, by simp only [Bn, hu]; rfl, fun j q u hq hu' => ?_⟩
   cases j with
   | zero => simp [flat] at hq hu'; subst hq; subst hu'; exact .str s hs
   | succ j => simp [flat] at hq
  ·rename_i fs hu
   simp only [Bool.and_eq_true, List.all_eq_true] at hok
   simp only [DataW.trod, hu] at h
   split at h
   ·rename_i hl
    simp only [Option.map_eq_some_iff] at h
    obtain ⟨xs, hxs, _⟩ := h
    obtain ⟨ps, g1, g2, g3, g4, g5, g6⟩ := GH (P := P) (w := w) (T := fun b _ => b < w.heap.size) (d := d) hl hok.1 (fun f hf => ⟨hok.2 f hf, by
     obtain ⟨y, hy⟩ := Ja hxs f hf
     exact Eu d f.type fuel _ y (hok.2 f hf) hy⟩)
    refine ⟨.st (P.cellsOf t) ps, by simp only [BF, hu, conf, Bool.and_eq_true]; exact ⟨Nat.beq_refl _, g1⟩, by simp only [WF]; exact ⟨by omega, g2⟩, by simp only [noref]; exact g3, by simp only [untup]; exact g4, rfl, hl, by simp only [Bn, hu]; rfl, fun j q u hq hu' => ?_⟩
    simp only [flat] at hq
    exact g6 j q u hq (by rw [Nat.zero_add]; exact hu')
   ·cases h
  ·rename_i n e hu
   simp only [Bool.and_eq_true] at hok
   have hc := Nat.eq_of_beq_eq_true hok.1.1
   simp only [DataW.trod, hu] at h
   split at h
   ·rename_i hl
    simp only [Option.map_eq_some_iff] at h
    obtain ⟨xs, hxs, _⟩ := h
    exact MO hu hc hok.2 (hsz e hok.1.2) hl fun i hi => by
     obtain ⟨y, hy⟩ := Ja hxs i (by simpa using hi)
     exact Eu d e fuel _ y hok.2 hy
   ·cases h
  ·rename_i e hu
   simp only [Bool.and_eq_true] at hok
   have hc := Nat.eq_of_beq_eq_true hok.1.1
   have hpos := hsz e hok.1.2
   have hone : ∀ (v : Value) (c : PV) (nl : Bool), cs = [v] → WF (.vec nl c) → Pe.conf (BF P (d + 1) t) (.vec nl c) = true → RC w (fun b _ => b < w.heap.size) v (.vec nl c) → ∃ p, IJ P w (fun b _ => b < w.heap.size) (d + 1) t cs p := by
    rintro v c nl rfl h1 h2 h3
    refine ⟨.vec nl c, h2, h1, rfl, rfl, hc.symm, by rw [hc]; rfl, by simp only [Bn, hu]; rfl, fun j q u hq hu' => ?_⟩
    cases j with
    | zero => simp [flat] at hq hu'; subst hq; subst hu'; exact h3
    | succ j => simp [flat] at hq
   have hshape : ∀ l : List PV, ∀ nl, Pe.conf (BF P (d + 1) t) (.vec nl (BJ P d e l)) = true := by
    intro l nl
    obtain ⟨d', rfl⟩ : ∃ d', d = d' + 1 := by cases d with
     | zero => simp [okT] at hok
     | succ d => exact ⟨d, rfl⟩
    have hsh : BF P (d' + 1 + 1) t = .vec (P.cellsOf e) (BF P (d' + 1) e) := Nu hu
    rw [hsh]
    by_cases hk : ∃ k, P.underlying e = some (.int k)
    ·obtain ⟨k, hk⟩ := hk
     have : BJ P (d' + 1) e l = .iarr k l.length (l.map PV.num) := by simp only [BJ, hk]
     rw [this, ML hk]
     simp only [Pe.conf]
     exact Ce k
    ·have : BJ P (d' + 1) e l = .parr (P.cellsOf e) l.length (BF P (d' + 1) e) l := by
      unfold BJ
      split
      ·rename_i k hk'; exact absurd ⟨k, hk'⟩ hk
      ·rfl
     rw [this]
     have hni : Sh.isInt (BF P (d' + 1) e) = false := by
      cases he : P.underlying e with
      | none => simp only [BF, he, Sh.isInt]
      | some dsc => cases dsc with
       | int k => exact absurd ⟨k, he⟩ hk
       | array n e' =>
        simp only [BF, he]
        split <;> rfl
       | _ => simp only [BF, he, Sh.isInt]
     cases hs2 : BF P (d' + 1) e with
     | int k => rw [hs2] at hni; simp [Sh.isInt] at hni
     | _ => simp only [Pe.conf, Bool.and_eq_true, Sh.isInt, Bool.not_false, true_and]; exact ⟨Nat.beq_refl _, beq_refl _⟩
   rcases DataW.trod_slice hu h with ⟨hx, _⟩ | ⟨a, len, cap, elems, rest, n, hf, hx, _, _, h1, h2, h3, h4, _⟩
   ·obtain ⟨a1, a2, a3, _⟩ := Gd (P := P) (d := d) (e := e) (l := []) hok.2 (fun q hq => by cases hq)
    exact hone _ (BJ P d e []) true hx (by simp only [WF]; exact ⟨a1, a2, fun _ => a3⟩) (hshape [] true) (.vec0 _ _ _ _ a3 rfl (fun _ => rfl))
   ·have hfu : n = fuel := by omega
    subst hfu
    have hex : ∀ i, ∃ p, i < len → ∃ cs', w.cells? base (a.add (i * P.cellsOf e)) (P.cellsOf e) = some cs' ∧ IJ P w (fun b _ => b < w.heap.size) d e cs' p := fun i => by
     by_cases hi : i < len
     ·have := h4 i hi
      rw [List.getElem?_eq_getElem (by omega), Option.bind_eq_some_iff] at this
      obtain ⟨cs', c1, c2⟩ := this
      obtain ⟨p, hp⟩ := Eu d e n cs' _ hok.2 c2
      exact ⟨p, fun _ => ⟨cs', c1, hp⟩⟩
     ·exact ⟨.undef, fun h => absurd h hi⟩
    obtain ⟨f, hf⟩ := Classical.axiomOfChoice hex
    have hmem : ∀ q ∈ (List.range len).map f, Pe.conf (BF P d e) q = true ∧ WF q ∧ Pe.noref q = true ∧ Pe.untup q = true ∧ Pe.size q = P.cellsOf e := by
     intro q hq
     obtain ⟨i, hi, rfl⟩ := List.mem_map.1 hq
     obtain ⟨cs', _, hp⟩ := hf i (by simpa using hi)
     exact ⟨hp.conf, hp.wf, hp.noref, hp.untup, hp.size⟩
    obtain ⟨a1, a2, a3, a4, a5, a6, a7⟩ := Gd hok.2 hmem
    have hlen : ((List.range len).map f).length = len := by simp
    rw [hlen] at a3
    rcases Nat.eq_zero_or_pos len with h0 | h0
    ·subst h0
     exact hone _ (BJ P d e ((List.range 0).map f)) false hx (by simp only [WF]; exact ⟨a1, a2, fun e => by cases e⟩) (hshape _ false) (.vec0 _ _ _ _ a3 rfl (fun e => by cases e))
    ·have hsp : a.spot = none := by
      obtain ⟨cs', c1, hp⟩ := hf 0 h0
      obtain ⟨e1, e2⟩ := Io c1
      have := e2 0 cs'[0] (List.getElem?_eq_getElem (by omega))
      unfold World.cell? at this
      split at this
      ·split at this
       ·cases this
       ·rename_i hs
        simpa [Addr.add] using hs
      ·cases this
     obtain ⟨bk, o, sp⟩ := a
     simp only at hsp
     subst hsp
     have hcell : ∀ j, ∃ u, ∀ q, (flat (BJ P d e ((List.range len).map f)))[j]? = some q → w.cell? ⟨bk, o + j, none⟩ = some u ∧ RC w (fun b _ => b < w.heap.size) u q := by
      intro j
      cases hj : (flat (BJ P d e ((List.range len).map f)))[j]? with
      | none => exact ⟨Go.undef, fun q hq => by cases hq⟩
      | some q =>
       rw [a6] at hj
       obtain ⟨p, p1, p2⟩ := Ho hpos (Bt fun q hq => (hmem q hq).2.1) (fun q hq => (hmem q hq).2.2.2.2) hj
       have hjn : j / P.cellsOf e < len := by have := (List.getElem?_eq_some_iff.1 p1).1; simpa using this
       have hp : p = f (j / P.cellsOf e) := by simp [hjn] at p1; exact p1.symm
       subst hp
       obtain ⟨cs', c1, hp⟩ := hf _ hjn
       obtain ⟨e1, e2⟩ := Io c1
       have hm : j % P.cellsOf e < cs'.length := by rw [e1]; exact Nat.mod_lt _ hpos
       refine ⟨cs'[j % P.cellsOf e], fun q' hq' => ?_⟩
       cases hq'
       refine ⟨?_, hp.rel _ q _ p2 (List.getElem?_eq_getElem hm)⟩
       have := e2 _ _ (List.getElem?_eq_getElem hm)
       rw [A9, A9] at this
       rw [← this]
       congr 2
       rw [Nat.add_assoc, Nat.mul_comm, Nat.div_add_mod]
     obtain ⟨us, hus⟩ := Classical.axiomOfChoice hcell
     exact hone _ (BJ P d e ((List.range len).map f)) false hx (by simp only [WF]; exact ⟨a1, a2, fun e => by cases e⟩) (hshape _ false)
      (.vec1 _ _ _ _ _ us a3 h1 h2 (fun j q hq => ⟨Dt (hus j q hq).1, (hus j q hq).1⟩) (fun j q hq => (hus j q hq).2))
  ·cases hok
end
end Go.Pe
namespace Go.Pe
open Go.ChangeShapes Go.WideShapes Go.ChangeAt Go.RowKit
section
variable {H : Type} {enc : TypeId × Value → H} {P : Program}
theorem NV {f : Func} {s : ChangeSpec} {apart fresh handsOn again : Bool} {W W' : World} {args : Array Value} {v : Value} {ds gs : List (DataW H)} {before pa pv : List MemPlace}
  (hW : DataW.Whole enc P f.params.toList s.vars apart W args.toList ds gs before)
  (hres : ∀ (b : Nat) (sp : Nat → Bool) (hd : Bool), DataW.TrodAll enc P W' b sp hd f.resultTypes.toList (v.resultList f.resultTypes.size) (s.fn H (ds ++ gs)).results [])
  (hargs : ∀ sp : Nat → Bool, (∀ p ∈ before, sp p.block = true) → DataW.TrodAll enc P W' 0 sp true f.params.toList args.toList (s.fn H (ds ++ gs)).args pa)
  (hvars : ∀ sp : Nat → Bool, (∀ p ∈ before, sp p.block = true) → DataW.TrodVars enc P W' sp s.vars (s.fn H (ds ++ gs)).vars pv)
  (hps : before = pa ++ pv) (hb : Below W.heap.size W W')
  (hok : ∀ (j : Nat) (t : TypeId) (r : Value), f.resultTypes[j]? = some t → (v.resultList f.resultTypes.size)[j]? = some r → Value.okWide P W' .any 0 t r) :
  s.post enc P f apart fresh handsOn again W args v W' := by
 have hlt : ∀ p ∈ before, p.block < W.heap.size := fun p hp => hW.lt p hp
 have hold : ∀ p ∈ before, (fun b => decide (b < W.heap.size)) p.block = true := fun p hp => by simpa using hlt p hp
 refine ⟨ds, gs, before, [], pa, pv, hW, hres _ _ _, hargs _ hold, hvars _ hold, World.keptBut_mono (fun p hp => ⟨hp, ?_⟩) (hb.frame (· ∈ before)), fun _ => ?_⟩
 ·rw [hps, List.mem_append] at hp
  exact Or.inr hp
 ·obtain ⟨_, _, _, _, _, hz, hn⟩ := hW
  refine ⟨hok, _, _, ([] ++ pa) ++ pv, ⟨[] ++ pa, pv, trodAll_append (hargs _ (fun _ _ => rfl)) (hres _ _ _), hvars _ (fun _ _ => rfl), rfl, ?_, ?_⟩, ?_⟩
  ·intro b off hp
   have hin : MemPlace.cell b off ∈ before := by rw [hps]; simpa using hp
   rw [hb.frozen (hlt _ hin)]
   exact hz b off hin
  ·intro ha
   have := hn ha
   rw [hps] at this
   simpa using this
  ·intro p hp _
   rw [hps]
   simpa using hp
theorem FU (hl : laidOutB P = true) {W W' : World} (hb : Below W.heap.size W W') {sp : Nat → Bool} : ∀ {ts : List TypeId} {vs : List Value} {ds : List (DataW H)} {ps : List MemPlace}, (∀ t ∈ ts, P.readableRec t = true ∧ t < P.types.size) →
  DataW.TrodAll enc P W 0 (fun _ => true) true ts vs ds ps → (∀ p ∈ ps, sp p.block = true) → DataW.TrodAll enc P W' 0 sp true ts vs ds ps
 | [], [], [], _, _, h, _ => h
 | t :: ts, v :: vs, d :: ds, ps, ht, h, hs => by
  have hlt := h.lt
  obtain ⟨p, q, h1, h2, rfl⟩ := h
  exact ⟨p, q, WideElems.Trod_stays hl (ht t (by simp)).1 (ht t (by simp)).2 h1 (fun x hx => hb.same (hlt x (by simp [hx]))) (fun x hx => hs x (by simp [hx])),
   FU hl hb (fun t ht' => ht t (by simp [ht'])) h2 (fun x hx => hs x (by simp [hx])), rfl⟩
 | [], _ :: _, _, _, _, h, _ => by simp [DataW.TrodAll] at h
 | [], [], _ :: _, _, _, h, _ => by simp [DataW.TrodAll] at h
 | _ :: _, [], _, _, _, h, _ => by simp [DataW.TrodAll] at h
 | _ :: _, _ :: _, [], _, _, h, _ => by simp [DataW.TrodAll] at h
structure Ins (P : Program) (ts : List TypeId) (ps : List PV) : Prop where
 conf : EG (ts.map (BF P 9)) ps = true
 wf : WFL ps
 untup : Bg ps = true
theorem QN {W : World} {base : Nat} {t : TypeId} {v : Value} {p : PV} (hv : Value.okWide P W .any base t v) (h : IJ P W (fun b _ => b < W.heap.size) 9 t v.cells.toList p) : RV W (fun b _ => b < W.heap.size) (fun _ => none) v p := by
 have hnt : ∀ vs, p ≠ .tup vs := fun vs e => by have := h.untup; subst e; simp [Pe.untup] at this
 cases ha : Pe.isAgg p with
 | true =>
  have hat : Bn P t = true := by rw [← h.agg]; exact ha
  have : ∃ cs, v = .agg cs := by
   unfold Bn at hat
   unfold Value.okWide at hv
   split at hat
   ·rename_i fs hu
    rw [hu] at hv
    obtain ⟨cs, hc, _⟩ := hv
    exact ⟨cs, hc⟩
   ·rename_i n e hu
    rw [hu] at hv
    obtain ⟨cs, hc, _⟩ := hv
    exact ⟨cs, hc⟩
   ·cases hat
  obtain ⟨cs, rfl⟩ := this
  refine RV.Hz ha h.wf ⟨cs, rfl, ?_, fun j q u hq hu => RO.Be (h.rel j q u hq ?_)⟩
  ·have := h.len
   simp only [Value.cells, Array.length_toList] at this
   rw [this, h.size]
  ·simpa [Value.cells] using hu
 | false =>
  have hl : Pe.leaf p = true := by rw [Pe.leaf_agg, ha]; rfl
  have hone : v.cells = #[v] := by
   have hnagg : ∀ cs, v ≠ .agg cs := by
    rintro cs rfl
    have hat : Bn P t = false := by rw [← h.agg]; exact ha
    unfold Value.okWide at hv
    unfold Bn at hat
    split at hv
    ·rename_i fs hu; rw [hu] at hat; cases hat
    ·rename_i n e hu; rw [hu] at hat; cases hat
    ·unfold Cell.okWide at hv
     split at hv <;> simp_all [Cell.ok]
   cases v <;> first | rfl | exact absurd rfl (hnagg _)
  refine RV.Ap hl hnt h.wf (RO.Be (h.rel 0 p v (by rw [Ed hl]; rfl) (by rw [hone]; rfl)))
theorem Qi {W : World} {base : Nat} : ∀ {ts : List TypeId} {vs : List Value} {ds : List (DataW H)} {ps : List MemPlace}, (∀ t ∈ ts, okT P 9 t = true) → (∀ (j : Nat) t v, ts[j]? = some t → vs[j]? = some v → Value.okWide P W .any base t v) →
  DataW.TrodAll enc P W 0 (fun _ => true) true ts vs ds ps → ∃ qs, Ins P ts qs ∧ qs.length = vs.length ∧ ∀ (j : Nat) (p : PV) (v : Value), qs[j]? = some p → vs[j]? = some v → RV W (fun b _ => b < W.heap.size) (fun _ => none) v p
 | [], [], [], _, _, _, _ => ⟨[], ⟨rfl, by simp [WFL], rfl⟩, rfl, fun j p v hp => by simp at hp⟩
 | t :: ts, v :: vs, d :: ds, ps, ht, hv, h => by
  obtain ⟨p, q, ⟨fuel, h1⟩, h2, rfl⟩ := h
  obtain ⟨x, hx⟩ := Eu 9 t fuel _ _ (ht t (by simp)) h1
  obtain ⟨qs, g1, g2, g3⟩ := Qi (fun t' h' => ht t' (by simp [h'])) (fun j t' v' hj hj' => hv (j + 1) t' v' (by simpa using hj) (by simpa using hj')) h2
  refine ⟨x :: qs, ⟨by simp only [List.map_cons, EG, Bool.and_eq_true]; exact ⟨hx.conf, g1.conf⟩, by simp only [WFL]; exact ⟨hx.wf, g1.wf⟩, by simp only [Bg, Bool.and_eq_true]; exact ⟨hx.untup, g1.untup⟩⟩, by simp [g2], fun j p' v' hp hv' => ?_⟩
  cases j with
  | zero =>
   simp at hp hv'
   subst hp; subst hv'
   exact QN (hv 0 t v rfl rfl) hx
  | succ j => simp at hp hv'; exact g3 j p' v' hp hv'
 | [], _ :: _, _, _, _, _, h => by simp [DataW.TrodAll] at h
 | [], [], _ :: _, _, _, _, h => by simp [DataW.TrodAll] at h
 | _ :: _, [], _, _, _, _, h => by simp [DataW.TrodAll] at h
 | _ :: _, _ :: _, [], _, _, _, h => by simp [DataW.TrodAll] at h
theorem Mx {w w' : World} {M : T2} (hM : ∀ b o, ¬ M b o) (h : FR M w w') : Below w.heap.size w w' := by
 refine ⟨h.os, h.tape, h.output, h.size, fun k hk => ?_⟩
 rcases h.block k hk with e | ⟨_, _, _, _, _, _, m3⟩ | ⟨cs, cs', t, fz, e1, e2, e3, e4⟩
 ·exact e.symm
 ·exact absurd m3 (hM k 0)
 ·rw [e1, e2]
  have : cs' = cs := by
   apply Array.ext_getElem?
   intro i
   exact e4 i (hM k i)
  rw [this]
end
end Go.Pe
namespace Go.Pe
open Go.ChangeShapes Go.WideShapes Go.ChangeAt Go.RowKit
section
variable {H : Type} {enc : TypeId × Value → H} {P : Program}
theorem M8 {α β : Type} {g : α → Option β} : ∀ {l : List α} {xs : List β}, l.mapM g = some xs → ∀ (i : Nat) (a : α), l[i]? = some a → ∃ y, xs[i]? = some y ∧ g a = some y
 | [], _, _, i, a, hi => by simp at hi
 | b :: l, xs, h, i, a, hi => by
  rw [List.mapM_cons] at h
  simp only [Option.bind_eq_bind, Option.bind_eq_some_iff] at h
  obtain ⟨y, hy, ys, hys, hx⟩ := h
  obtain rfl := Option.some.inj hx
  cases i with
  | zero => simp at hi; subst hi; exact ⟨y, rfl, hy⟩
  | succ i => exact M8 hys i a (by simpa using hi)
theorem MJ {w : World} : ∀ {l : List (String × DataW Unit)} {ps : List MemPlace}, DataW.LaidVars P w l ps → ∀ x ∈ l, ∃ g t cs fuel p, P.globalNamed x.1 = some g ∧ (P.globals[g]?).map (·.type) = some t ∧ w.var? P x.1 = some cs ∧ DataW.trod (fun _ => ()) P w 0 (fun _ => true) false fuel t cs.toList = some (x.2, p)
 | [], _, _, x, hx => by cases hx
 | (n, d) :: l, ps, h, x, hx => by
  simp only [DataW.LaidVars] at h
  obtain ⟨g, t, cs, fuel, p, q, h1, h2, h3, h4, h5, _⟩ := h
  rcases List.mem_cons.1 hx with rfl | hx
  ·exact ⟨g, t, cs, fuel, p, h1, h2, h3, h4⟩
  ·exact MJ h5 x hx
theorem trod_int {w : World} {base fuel : Nat} {sp : Nat → Bool} {held : Bool} {t : TypeId} {k k' : IntKind} {n : Int} {cs : List Value} {p : List MemPlace} (hu : P.underlying t = some (.int k))
  (h : DataW.trod enc P w base sp held fuel t cs = some (.lit (.int k' n), p)) : cs = [.int k n] := by
 cases fuel with
 | zero => simp [DataW.trod] at h
 | succ fuel =>
  simp only [DataW.trod, hu] at h
  split at h <;> simp_all
theorem glob_ints {W : World} {laid : List (String × DataW Unit)} (h : laidMet P laid W) {name : String} {g t e m : Nat} {k : IntKind} {ls : List Int} (hin : (name, .agg (ls.map fun v => .lit (.int k v))) ∈ laid)
  (hg : P.globalNamed name = some g) (ht : (P.globals[g]?).map (·.type) = some t) (hu : P.underlying t = some (.array m e)) (he : P.underlying e = some (.int k)) (hce : P.cellsOf e = 1) (hct : P.cellsOf t = m) (hm : ls.length = m) :
  RC W (fun b _ => b < W.heap.size) (.pointer (some ⟨g, 0, none⟩)) (.cptr (.iarr k m ls) []) := by
 obtain ⟨ps, hL, _, _⟩ := h
 obtain ⟨g', t', cs, fuel, p, h1, h2, h3, h4⟩ := MJ hL _ hin
 obtain rfl := Option.some.inj (hg.symm.trans h1)
 obtain rfl := Option.some.inj (ht.symm.trans h2)
 have hcell : ∀ (i : Nat) (v : Int), ls[i]? = some v → cs[i]? = some (Value.int k v) := by
  intro i v hv
  cases fuel with
  | zero => simp [DataW.trod] at h4
  | succ fuel =>
   simp only [DataW.trod, hu] at h4
   split at h4
   ·rename_i hl
    simp only [Option.map_eq_some_iff] at h4
    obtain ⟨xs, hxs, hd⟩ := h4
    simp only [Prod.mk.injEq, DataW.agg.injEq] at hd
    have hi : i < ls.length := by
     rw [List.getElem?_eq_some_iff] at hv
     exact hv.1
    obtain ⟨y, hy1, hy2⟩ := M8 hxs i i (by rw [List.getElem?_range (by omega)])
    have hy : (xs.map (·.1))[i]? = some y.1 := by rw [List.getElem?_map, hy1]; rfl
    rw [hd.1, List.getElem?_map, hv] at hy
    obtain ⟨y1, y2⟩ := y
    simp only [Option.map_some, Option.some.injEq] at hy
    subst hy
    have := trod_int he hy2
    rw [hce, Nat.mul_one] at this
    have e : cs.toList[i]? = some (Value.int k v) := by
     have e0 := congrArg (fun l => l[0]?) this
     simpa using e0
    simpa using e
   ·cases h4
 have hcw : ∀ (i : Nat) (v : Int), ls[i]? = some v → W.cell? ⟨g, i, none⟩ = some (Value.int k v) := fun i v hv => by rw [World.var?_cell hg h3, hcell i v hv]
 refine RC.cptr g 0 _ [] (fun j => Value.int k (ls.getD j 0)) ?_ ?_
 ·intro j q hq
  simp only [flat, List.getElem?_map, Option.map_eq_some_iff] at hq
  obtain ⟨v, hv, rfl⟩ := hq
  have hc := hcw j v hv
  rw [Nat.zero_add]
  refine ⟨?_, by rw [hc, List.getD_eq_getElem?_getD, hv]; rfl⟩
  rcases Nat.lt_or_ge g W.heap.size with h | h
  ·exact h
  ·simp [World.cell?, Array.getElem?_eq_none h] at hc
 ·intro j q hq
  simp only [flat, List.getElem?_map, Option.map_eq_some_iff] at hq
  obtain ⟨v, hv, rfl⟩ := hq
  rw [List.getD_eq_getElem?_getD, hv]
  exact .int k v
theorem wants_of {ps : Array TypeId} (h : ps.toList.all (fun t => !P.wantsStandIn t) = true) (j : Nat) (t : TypeId) (ht : ps[j]? = some t) : P.wantsStandIn t = false := by
 have := List.all_eq_true.1 h t (by rw [← Array.getElem?_toList] at ht; exact List.mem_of_getElem? ht)
 simpa using this
noncomputable def laidW (P : Program) (os : Os) (g : Nat) (cs : Array Value) : World :=
 let w0 := World.holding P os ⟨#[], #[], []⟩
 { w0 with heap := w0.heap.modify g fun
   | .cells _ t frozen => .cells cs t frozen
   | o => o }
theorem law_callsG {G : Nat → Option PV} {f : FuncId} {fn : Func} {s : ChangeSpec} {apart fresh handsOn again : Bool} {tb : TypeId} (hl : laidOutB P = true) (hvars : s.vars = []) (hr : fn.resultTypes = #[tb]) (hb : P.underlying tb = some .bool)
  (hbody : LD P f) (hspec : ∀ ds : List (DataW H), ds.length = fn.params.toList.length → s.fn H ds = { results := [.lit (.bool true)], args := ds })
  (ht : fn.params.toList.all (fun t => okT P 9 t && P.readableRec t && Nat.blt t P.types.size) = true)
  (hpc : ∀ ps, Ins P fn.params.toList ps → PC P G f [] ps [] (.bool true))
  {W : World} (hG : ∀ g c, G g = some c → WF c ∧ noref c = true ∧ RC W (fun b _ => b < W.heap.size) (.pointer (some ⟨g, 0, none⟩)) (.cptr c []))
  {base : Nat} {args : Array Value} {ds gs : List (DataW H)} {before : List MemPlace}
  (hval : ∀ (j : Nat) t v, fn.params[j]? = some t → args[j]? = some v → Value.okWide P W .any base t v)
  (hW : DataW.Whole enc P fn.params.toList s.vars apart W args.toList ds gs before) :
  Calls P f args W fun e W' => ∃ v, e = .returned v ∧ s.post enc P fn apart fresh handsOn again W args v W' := by
 have ht' : ∀ t ∈ fn.params.toList, okT P 9 t = true ∧ P.readableRec t = true ∧ t < P.types.size := by
  intro t h
  have := List.all_eq_true.1 ht t h
  simp only [Bool.and_eq_true] at this
  exact ⟨this.1.1, this.1.2, Nat.blt_eq ▸ this.2⟩
 have hW' := hW
 obtain ⟨p, q, hA, hV, rfl, hz, hn⟩ := hW
 rw [hvars] at hV
 obtain ⟨rfl, rfl⟩ := trodVars_none hV
 obtain ⟨l1, l2⟩ := trodAll_length hA
 obtain ⟨qs, g1, g2, g3⟩ := Qi (base := base) (fun t h => (ht' t h).1) (fun j t v h1 h2 => hval j t v (by rw [← Array.getElem?_toList]; exact h1) (by rw [← Array.getElem?_toList]; exact h2)) hA
 have hM : ∀ b o, ¬ Mut (fun _ => none) (Ab ([] : List (Nat × Row))) b o := by
  rintro b o ⟨i, r, pl, h1, _⟩
  simp [Ab] at h1
 have hc := hpc qs g1
 refine Calls.mono (Enters.calls hbody (hc (fun b _ => b < W.heap.size) (fun _ => none) W args (fun b o _ => hM b o) ⟨fun i r hi => by simp [Ab] at hi, fun i i' r r' pl pl' _ h1 => by simp [Ab] at h1⟩ (fun _ _ => rfl) hG
  (by rw [g2]; simp) (fun j p v hp hv _ => g3 j p v hp (by rw [Array.getElem?_toList]; exact hv)))) fun e W' he => ?_
 obtain ⟨v, ρ', rfl, r1, _, _, r4, _⟩ := he
 have hvb : v = .bool true := by
  have := r1.AJ rfl (fun _ e => by cases e)
  simp only [RO] at this
  cases this
  rfl
 subst hvb
 have hbel := Mx hM r4
 have hsp := hspec ds l2
 refine ⟨_, rfl, NV (pa := p) (pv := []) hW' ?_ ?_ ?_ (by simp) hbel ?_⟩
 ·intro b sp hd
  rw [List.append_nil, hsp, hr]
  exact trodAll_mk1 (shut_bool hb true)
 ·intro sp hs
  rw [List.append_nil, hsp]
  exact FU hl hbel (fun t h => (ht' t h).2) hA (fun x hx => hs x (by simp [hx]))
 ·intro sp hs
  rw [List.append_nil, hsp, hvars]
  rfl
 ·rw [hr]
  exact ok_one (f := { fn with resultTypes := #[tb] }) rfl rfl (okWide_bool_mk hb true)
end
end Go.Pe
