/- Merged texts: the pure machine and what the walks show. Conditions: as each statement says. -/
import Derived.RangeFuncIn
import Derived.KernelRfl
import Derived.Laws.BitsAllLaws
import Derived.Test.YtdlipfcaomomfaaDoorChecked
import Derived.Laws.Externs
import Derived.Test.YtdlipfcaomomfaaDoorQ2
namespace Go.Pe
def parF : List (Nat × PV) → List Nat → List PV → List (Nat × PV)
  | fr, t :: ts, p :: ps => parF (setF fr t p) ts ps
  | fr, _, _ => fr
theorem par_rel {w : World} {T : T2} {ρ : Pls} {nt : Nat} : ∀ (ts : List Nat) (ps : List PV) (vs : List Value) (tm : Array Value) (fr : List (Nat × PV)), ts.length = ps.length → vs.length = ps.length → tm.size = nt →
    (∀ i, getF fr i ≠ .undef → i < nt ∧ RV w T ρ (tm.getD i Go.undef) (getF fr i)) → (∀ t ∈ ts, t < nt) → (∀ (j : Nat) (p : PV) (v : Value), ps[j]? = some p → vs[j]? = some v → RV w T ρ v p) →
    ((ts.zip vs).foldl (fun (tmps : Array Value) (x : Nat × Value) => tmps.setIfInBounds x.1 x.2) tm).size = nt ∧
      ∀ i, getF (parF fr ts ps) i ≠ .undef → i < nt ∧ RV w T ρ (((ts.zip vs).foldl (fun (tmps : Array Value) (x : Nat × Value) => tmps.setIfInBounds x.1 x.2) tm).getD i Go.undef) (getF (parF fr ts ps) i)
  | [], ps, vs, tm, fr, h1, h2, h3, h4, _, _ => by
    cases ps with
    | nil =>
      simp only [List.zip_nil_left, List.foldl_nil, parF]
      exact ⟨h3, h4⟩
    | cons p ps => simp at h1
  | t :: ts, [], vs, tm, fr, h1, _, _, _, _, _ => by simp at h1
  | t :: ts, p :: ps, [], tm, fr, _, h2, _, _, _, _ => by simp at h2
  | t :: ts, p :: ps, v :: vs, tm, fr, h1, h2, h3, h4, h5, h6 => by
    simp only [List.zip_cons_cons, List.foldl_cons, parF]
    refine par_rel ts ps vs _ _ (by simpa using h1) (by simpa using h2) (by simp [h3]) (fun i hi => ?_) (fun x hx => h5 x (by simp [hx])) (fun j p v hp hv => h6 (j + 1) p v (by simpa using hp) (by simpa using hv))
    rw [getF_setF] at hi ⊢
    by_cases he : i = t
    · subst he
      have hlt := h5 i (by simp)
      rw [if_pos rfl]
      refine ⟨hlt, ?_⟩
      have : (tm.setIfInBounds i v).getD i Go.undef = v := by simp [Array.getD, h3, hlt]
      rw [this]
      exact h6 0 p v rfl rfl
    · rw [if_neg he] at hi ⊢
      refine ⟨(h4 i hi).1, ?_⟩
      have : (tm.setIfInBounds t v).getD i Go.undef = tm.getD i Go.undef := by
        have hne : t ≠ i := fun e => he e.symm
        simp [Array.getD_eq_getD_getElem?, Array.getElem?_setIfInBounds_ne hne]
      rw [this]
      exact (h4 i hi).2
theorem keepB_spec {pins : List Nat} {fr0 : List (Nat × PV)} (h : keepB pins fr0 = true) {i : Nat} (hi : getF fr0 i ≠ .undef) : pinB pins (getF fr0 i) = true := by
  cases hp : lookR fr0 i with
  | none => exact absurd (by simp only [getF, hp]) hi
  | some p =>
    have : getF fr0 i = p := by simp only [getF, hp]
    rw [this]
    exact List.all_eq_true.1 h _ (lookR_mem hp)
section
variable {P : Program} {G : Nat → Option PV} {fI : Func} {pinsI pinsR : List Nat} {R : RangeP} {Q : RoundP} {d : DS}
/-- A RANGE OVER A FUNCTION IS ENTERED. -/
theorem W.range {cI : Code} {g : Nat} (args : Nat → List PV)
    (hval : ∀ (C : Ctx) (F : Nat → Prop) (ρ : Pls) (a : Act) (w : World), SimAt C F ρ d.st a w → ∃ first caps : Array Value, a.eval (.tmp g) = .func (.func R.fi) first caps ∧ ∀ l, (first ++ #[Value.func (.yield l) #[] #[]] ++ caps).size = (args l).length ∧
      ∀ (j : Nat) (p : PV) (v : Value), (args l)[j]? = some p → (first ++ #[Value.func (.yield l) #[] #[]] ++ caps)[j]? = some v → p ≠ .undef → RV w (Tc C ρ d.st.hp) ρ v p)
    (hf : P.funcs[R.fi]? = some fI) (hb : fI.body = some cI) (hn : (fI.name == "runtime.NumGoroutine") = false) (hlen : ∀ l, (args l).length ≤ fI.ntmps)
    (hpi : subB R.pins pinsI = true) (hkeep : keepB pinsI R.fr0 = true) (hsl : SlotsIn R.fr0 d.fr)
    (hw : ∀ l, WH P G fI pinsI (HIter R l .ready none) [.code cI] ⟨argF 0 (args l), d.hp⟩) :
    W P G R.fn R.pins R.hout R.res (.code (.rangeFunc (.tmp g) R.ps R.asn R.body) :: R.k) d := by
  intro C pin fb cs X hH hX hP hG hN hpin ρ a w hp hs
  subst hP; subst hG
  obtain ⟨first, caps, hev, hargs⟩ := hval C _ ρ a w hs
  obtain ⟨hsz, hrel⟩ := hargs (w.heap.size + 1)
  let D : IterD := ⟨C, pin, fb, cs, a, w, Tc C ρ d.st.hp, w.heap.size, w.heap.size + 1⟩
  let w2 : World := (w.alloc (.deferred (some []))).alloc (.loop (recOf R D .ready none))
  have he : (Instr.enterLoop fb.fn a.tmps R.ps R.asn R.body fb.roundOf).run C.P w = .ok (w.heap.size + 1, [{ target := .collected w.heap.size, args := #[] }]) w2 := by
    rw [hH.1]; exact run_enterLoop_outer fb.fn a.tmps R.ps R.asn R.body
  have hres : (resolve a.eval (rangeCall (.tmp g) (w.heap.size + 1)) 0).run C.P w2 = .ok { target := .fn (.func R.fi) caps, args := first ++ #[Value.func (.yield (w.heap.size + 1)) #[] #[]] } w2 := by
    simp only [resolve, hev, Deferred.ofValue, List.map_toArray, List.map_cons, List.map_nil]
    rfl
  have hn' : fI.name ≠ "runtime.NumGoroutine" := by simpa using hn
  have hinv : ∀ vs0 : Array Value, (invoke (.fn (.func R.fi) caps) vs0).run C.P w2 = .ok (.enter R.fi (vs0 ++ caps)) w2 := by
    intro vs0
    simp [invoke, callFunc, hf, hn', hb]
  have hstep := stepR_rangeFunc (b := fb) (a := a) (k := R.k) (cs := cs) he hres (hinv _)
  generalize hvs : first ++ #[Value.func (.yield (w.heap.size + 1)) #[] #[]] ++ caps = vs at hsz hrel hstep
  let bI : Frame := { (default : Frame) with fn := R.fi, kind := .normal }
  have henter : Frame.enter C.P R.fi vs .normal = bI.atR { tmps := vs ++ Array.replicate (fI.ntmps - vs.size) Go.undef, defers := [] } [.code cI] := by
    simp [Frame.enter, Frame.atR, hf, hb, bI]
    rfl
  rw [henter] at hstep
  have hdef : a.defers = [] := by rw [hs.defers, hH.2.1]
  simp only [hdef, List.append_nil] at hstep
  refine hX _ _ (.one hstep) ?_
  have hC : Cells w w2 := (Cells.alloc _).trans (Cells.alloc _)
  have hlen' : vs.size ≤ fI.ntmps := by rw [hsz]; exact hlen _
  have hsim := hs.swap (w' := w2) hC ((hs.frame.alloc' _).alloc' _) (nt' := fI.ntmps) (D' := []) (X' := XL R D .ready none w (Tc C ρ d.st.hp)) (hX' := XL.keep) (fr' := getF (argF 0 (args (w.heap.size + 1)))) (a' := { tmps := vs ++ Array.replicate (fI.ntmps - vs.size) Go.undef, defers := [] }) rfl (by simp; omega) (fun t ht => by
      have hlook : lookR (argF 0 (args (w.heap.size + 1))) t = (args (w.heap.size + 1))[t]? := by rw [argF_get]; simp
      unfold getF at ht ⊢
      rw [hlook] at ht ⊢
      cases hp : (args (w.heap.size + 1))[t]? with
      | none => rw [hp] at ht; exact absurd rfl ht
      | some p =>
        rw [hp] at ht
        simp only at ht ⊢
        have hlt : t < vs.size := by rw [hsz]; exact (List.getElem?_eq_some_iff.1 hp).1
        refine ⟨by omega, ?_⟩
        have : (vs ++ Array.replicate (fI.ntmps - vs.size) Go.undef).getD t Go.undef = vs[t] := by
          simp [Array.getD, hlt]
          intro hx
          omega
        rw [this]
        exact hrel t p vs[t] hp (Array.getElem?_eq_getElem hlt) ht) ⟨hC.keeps, by
          show w2.heap[w.heap.size]? = _
          rw [alloc_old (w.alloc (.deferred (some []))) _ (by simp)]
          exact alloc_new w _, by
          show w2.heap[w.heap.size + 1]? = _
          have := alloc_new (w.alloc (.deferred (some []))) (.loop (recOf R D .ready none))
          rw [World.size_alloc] at this
          exact this⟩
  refine hw _ (C.re fI.ntmps [] (XL R D .ready none w (Tc C ρ d.st.hp)) XL.keep) (onlyP pinsI ρ) bI _ X ⟨D, rfl, ⟨hH, ⟨rfl, rfl, rfl, rfl, rfl⟩, hpin, fun i pl hi => ?_, hs.size.trans hN, fun i hi => ?_, hs.frame.size, Nat.le_succ_of_le hs.frame.size, rfl, rfl, rfl, rfl, rfl⟩, rfl⟩ hX rfl rfl rfl onlyP_pin ρ _ _ onlyP_ext hsim
  · have hi : pin i = some pl := hi
    simp only [onlyP, memB_iff.2 (subB_spec hpi i (hpin i (by intro e; rw [e] at hi; cases hi))), if_true]
    exact hp i pl hi
  · have h1 := hsl i hi
    have h2 := keepB_spec hkeep hi
    rw [h1] at hi h2 ⊢
    have h3 := hs.fr i hi
    exact ⟨by rw [← hN]; exact h3.1, h3.2.pinned h2⟩
/-- .. over a closure that holds a row -/
theorem W.rangeFn {cI : Code} {g id : Nat} (hg : getF d.fr g = .fn R.fi id)
    (hf : P.funcs[R.fi]? = some fI) (hb : fI.body = some cI) (hn : (fI.name == "runtime.NumGoroutine") = false) (hlen : (Nat.ble 2 fI.ntmps && !Nat.beq R.fi 1000000) = true)
    (hpi : subB R.pins pinsI = true) (hkeep : keepB pinsI R.fr0 = true) (hsl : SlotsIn R.fr0 d.fr)
    (hw : ∀ l, WH P G fI pinsI (HIter R l .ready none) [.code cI] ⟨[(0, .fv (.func (.yield l) #[] #[])), (1, .at id [])], d.hp⟩) :
    W P G R.fn R.pins R.hout R.res (.code (.rangeFunc (.tmp g) R.ps R.asn R.body) :: R.k) d :=
  W.range (fun l => [.fv (.func (.yield l) #[] #[]), .at id []]) (fun C F ρ a w hs => by
    have h1 := hs.fr g (by show getF d.fr g ≠ _; rw [hg]; intro e; cases e)
    have h2 : RV w (Tc C ρ d.st.hp) ρ (a.tmps.getD g Go.undef) (.fn R.fi id) := by rw [← hg]; exact h1.2
    obtain ⟨pl, p1, p2⟩ := h2.to_leaf rfl (fun _ e => by cases e)
    simp only [Bool.and_eq_true, Bool.not_eq_true'] at hlen
    rw [fnVal, if_neg (by rw [hlen.2]; exact Bool.false_ne_true)] at p2
    refine ⟨#[], #[.pointer (some ⟨pl.g, pl.off, none⟩)], p2, fun l => ⟨rfl, fun j p v hp hv _ => ?_⟩⟩
    match j, hp, hv with
    | 0, hp, hv =>
      simp at hp hv
      subst hp; subst hv
      exact RV.of_leaf rfl (fun _ e => by cases e) trivial (by simp only [RO]; exact .fv _ rfl)
    | 1, hp, hv =>
      simp at hp hv
      subst hp; subst hv
      exact RV.of_leaf rfl (fun _ e => by cases e) trivial ⟨pl, p1, by simp [offOf]⟩
    | j + 2, hp, _ => simp at hp) hf hb hn (fun _ => Nat.le_of_ble_eq_true (by simp only [Bool.and_eq_true] at hlen; exact hlen.1)) hpi hkeep hsl hw
/-- THE ITERATOR CALLS YIELD: a round. -/
theorem WH.yield {l : Nat} {o : Oper} {c : Call} {y : Nat} {args : List PV} (ho : Q.ops[Q.j]? = some o) (hop : o.op = .call c) (hcal : c.callee = .value (.tmp y)) (hy : getF d.fr y = .fv (.func (.yield l) #[] #[]))
    (hwant : wantP Q.ops o d.st.fr = some true) (hdB : dstB fI.ntmps Q.ops = true) (hargs : c.args.toList.map (fun x => evO P G 0 d.st.fr x) = args) (hgood : args.all good = true) (hps : R.ps.toList.length = args.length)
    (hpsB : R.ps.toList.all (fun i => Nat.blt i R.fn.ntmps) = true) (hnI : Q.nI = fI.ntmps) (hdst : o.dst = Q.dst) (hpi : subB Q.pinsI pinsR = true) (hkeep : keepB pinsR Q.frI = true) (hsl : SlotsIn Q.frI d.fr)
    (hw : WH P G R.fn pinsR (HRound R Q l .ready none) [.code R.asn, .beginRound, .code R.body] ⟨parF R.fr0 R.ps.toList args, d.hp⟩) :
    WH P G fI Q.pinsI (HIter R l .ready none) (.inRegion Q.ops (Q.j :: Q.rest) :: Q.kI) d := by
  intro C pin fb cs X ⟨D, hl, hc, hXe⟩ hX hP hG hN hpin ρ a w hp hs
  subst hP; subst hG; subst hl
  have amb := hs.amb
  rw [hXe] at amb
  obtain ⟨hk, hr, hlo⟩ := amb
  have hyv : a.eval (.tmp y) = .func (.yield D.l) #[] #[] := by
    have h1 := (hs.fr y (by show getF d.fr y ≠ _; rw [hy]; intro e; cases e)).2
    have h2 : RV w (Tc C ρ d.st.hp) ρ (a.tmps.getD y Go.undef) (.fv (.func (.yield D.l) #[] #[])) := by rw [← hy]; exact h1
    have h3 := h2.to_leaf rfl (fun _ e => by cases e)
    simp only [RO] at h3
    show a.tmps.getD y Go.undef = _
    generalize a.tmps.getD y Go.undef = v0 at h3 ⊢
    cases h3
    rfl
  have hlenA : (c.args.map a.eval).size = args.length := by rw [← hargs]; simp
  have hvals : ∀ (j : Nat) (p : PV) (v : Value), args[j]? = some p → (c.args.toList.map a.eval)[j]? = some v → RV w (Tc C ρ d.st.hp) ρ v p := by
    intro j p v hp' hv
    rw [← hargs, List.getElem?_map] at hp'
    rw [List.getElem?_map] at hv
    cases hx : c.args.toList[j]? with
    | none => rw [hx] at hp'; cases hp'
    | some x =>
      rw [hx] at hp' hv
      simp only [Option.map_some, Option.some.injEq] at hp' hv
      subst hp'; subst hv
      refine evO_rel hs 0 x fun e => ?_
      have hg := List.all_eq_true.1 hgood (evO C.P C.G 0 d.st.fr x) (by rw [← hargs]; exact List.mem_map.2 ⟨x, List.mem_of_getElem? hx, rfl⟩)
      rw [e] at hg
      simp [good, isUndef] at hg
  have hrun : (execOp a.eval o).run C.P w = .ok (.round D.l D.b1.fn ((R.ps.zip (c.args.map a.eval)).foldl (fun tmps (t, a) => tmps.setIfInBounds t a) D.a1.tmps) R.asn R.body) w := by
    have hy1 := run_yield (P := C.P) (args := c.args.map a.eval) hlo (by show _ = R.ps.size; rw [hlenA, ← hps]; simp)
    have h2 : (execOp a.eval o).run C.P w = (Instr.yield D.l (c.args.map a.eval)).run C.P w := by
      simp [execOp, hop, resolve, hcal, Deferred.ofValue, invoke, hyv]
    rw [h2]
    exact hy1
  have hwanted := wantP_spec hs hwant (dstB_spec (by rw [hN]; exact hdB))
  have hg := stepGR_op (P := C.P) (b := fb) (a := a) (k := Q.kI) (cs := cs) (w := w) (rest := Q.rest) ho hwanted
  rw [hc.ro, Oper.semAt_none] at hg
  have hstep : step C.P (lone (fb.atR a (.inRegion Q.ops (Q.j :: Q.rest) :: Q.kI)) cs w) =
      .next (lone (Frame.round D.l D.b1.fn ((R.ps.zip (c.args.map a.eval)).foldl (fun tmps (t, a) => tmps.setIfInBounds t a) D.a1.tmps) R.asn R.body .normal) (fb.atR a (.inRegion Q.ops (Q.j :: Q.rest) :: Q.kI) :: cs) w) :=
    step_lone_go (by rw [hg]; simp [stepG.apply, hrun, Frame.atR])
  refine hX _ _ (.one hstep) ?_
  let bR : Frame := { (default : Frame) with fn := D.b1.fn, kind := .normal, roundOf := some D.l }
  generalize htm : (R.ps.zip (c.args.map a.eval)).foldl (fun tmps (t, a) => tmps.setIfInBounds t a) D.a1.tmps = tm
  have hround : Frame.round D.l D.b1.fn tm R.asn R.body .normal = bR.atR { tmps := tm, defers := [] } [.code R.asn, .beginRound, .code R.body] := by
    simp [Frame.round, Frame.atR, bR]
  rw [hround]
  have htm' : tm = (R.ps.toList.zip (c.args.toList.map a.eval)).foldl (fun (tmps : Array Value) (x : Nat × Value) => tmps.setIfInBounds x.1 x.2) D.a1.tmps := by
    rw [← htm, ← Array.foldl_toList, Array.toList_zip, Array.toList_map]
  have hpar := par_rel (w := w) (T := Tc C ρ d.st.hp) (ρ := ρ) R.ps.toList args (c.args.toList.map a.eval) D.a1.tmps R.fr0 hps (by rw [← hargs]; simp) hc.size (fun i hi => ⟨(hc.fr i hi).1, (hc.fr i hi).2.keep hk hp⟩) (fun t ht => Nat.blt_eq ▸ List.all_eq_true.1 hpsB t ht) hvals
  rw [← htm'] at hpar
  have hCr : Cells w w := fun _ _ h _ => h
  have hsim := hs.swap (w' := w) hCr hs.frame (nt' := R.fn.ntmps) (D' := []) (X' := XL R D .ready none w (Tc C ρ d.st.hp)) (hX' := XL.keep) (fr' := getF (parF R.fr0 R.ps.toList args)) (a' := { tmps := tm, defers := [] }) rfl hpar.1 hpar.2 ⟨Keeps.refl _ _, hr, hlo⟩
  refine hw (C.re R.fn.ntmps [] (XL R D .ready none w (Tc C ρ d.st.hp)) XL.keep) (onlyP pinsR ρ) bR _ X ⟨D, ⟨C, pin, fb, cs, a, w, Tc C ρ d.st.hp⟩, rfl, ⟨hc, hpin, hk, ⟨rfl, rfl, rfl, rfl, rfl⟩, rfl, fun i pl hi => ?_, (hs.size.trans hN).trans hnI.symm, fun i hi => ?_, hs.defers.trans hc.D0, rfl, rfl, rfl, ?_⟩, rfl⟩ hX rfl rfl rfl onlyP_pin ρ _ _ onlyP_ext hsim
  · have hi : pin i = some pl := hi
    simp only [onlyP, memB_iff.2 (subB_spec hpi i (hpin i (by intro e; rw [e] at hi; cases hi))), if_true]
    exact hp i pl hi
  · have h1 := hsl i hi
    have h2 := keepB_spec hkeep hi
    rw [h1] at hi h2 ⊢
    have h3 := hs.fr i hi
    exact ⟨by rw [hnI, ← hN]; exact h3.1, h3.2.pinned h2⟩
  · rw [ho]; exact hdst
/-- An operation that its guard does not let in. -/
theorem WH.skip {fn : Func} {pins : List Nat} {H : Host} {ops : Array Oper} {j : Nat} {rest : List Nat} {k : List Item} {o : Oper} (ho : ops[j]? = some o) (hwant : wantP ops o d.st.fr = some false) (hdB : dstB fn.ntmps ops = true)
    (hw : WH P G fn pins H (.inRegion ops rest :: k) ⟨putF d.fr o.dst (.tup []), d.hp⟩) : WH P G fn pins H (.inRegion ops (j :: rest) :: k) d := by
  intro C pin fb cs X hH hX hP hG hN hpin ρ a w hp hs
  subst hP; subst hG
  have hd := dstB_spec (nt := C.nt) (by rw [hN]; exact hdB)
  have hwanted := wantP_spec hs hwant hd
  have h1 := stepR_op_skip (P := C.P) (b := fb) (a := a) (k := k) (cs := cs) (w := w) (ops := ops) (i := j) (rest := rest) (by simp [ho, hwanted])
  simp only [ho, Option.bind_some] at h1
  refine hX _ _ (.one h1) (hw C pin fb cs X hH hX rfl rfl hN hpin ρ _ _ hp ?_)
  have h2 := SimAt.put hs (dst := o.dst) (v := Go.undef) (p := .tup []) (fun i hi => hd j o i ho hi) fun _ => by
    refine ⟨by simp [WF, WFL], #[], rfl, rfl, fun j q u hq hu => ?_⟩
    simp at hq
  have h3 : (DS.mk (putF d.fr o.dst (.tup [])) d.hp).st = d.st.put o.dst (.tup []) := by
    cases hdst : o.dst with
    | none => rfl
    | some i =>
      simp only [putF, DS.st, St.put, St.mk.injEq, and_true]
      funext j
      simp only [getF_setF]
  rw [h3]
  exact h2
end
end Go.Pe
namespace Go.Pe
def bodyOf (fn : Func) : Code := match fn.body with
  | some c => c
  | none => .skip
/-- The to-do lists behind the loops' heads, in the text's order. -/
def loopsC : Code → List Item → List (List Item)
  | .seq x y, k => loopsC x (.code y :: k) ++ loopsC y k
  | .cond _ x y, k => loopsC x k ++ loopsC y k
  | .block id c, k => loopsC c (.inBlock id :: k)
  | .loop c, k => (.code c :: .inLoop c :: k) :: loopsC c (.inLoop c :: k)
  | _, _ => []
def nthL : Nat → List (List Item) → List Item
  | _, [] => []
  | 0, x :: _ => x
  | n + 1, _ :: l => nthL n l
/-- The to-do lists at ranges over functions, and at calls of yield, in the text's order. -/
def stopsC : Code → List Item → List (List Item)
  | .seq x y, k => stopsC x (.code y :: k) ++ stopsC y k
  | .cond _ x y, k => stopsC x k ++ stopsC y k
  | .block id c, k => stopsC c (.inBlock id :: k)
  | .loop c, k => stopsC c (.inLoop c :: k)
  | .rangeFunc g ps x y, k => [.code (.rangeFunc g ps x y) :: k]
  | .region _ ops draw, k => match stopAt ops draw with
    | some j => [.inRegion ops (List.range' j (ops.size - j)) :: k]
    | none => []
  | _, _ => []
def stopIn (fn : Func) (n : Nat) : List Item := nthL n (stopsC (bodyOf fn) [])
def rgPs : List Item → Array Tmp | .code (.rangeFunc _ ps _ _) :: _ => ps | _ => #[]
def rgAsn : List Item → Code | .code (.rangeFunc _ _ x _) :: _ => x | _ => .skip
def rgBody : List Item → Code | .code (.rangeFunc _ _ _ y) :: _ => y | _ => .skip
def rgK : List Item → List Item | _ :: k => k | _ => []
def rgOps : List Item → Array Oper | .inRegion ops _ :: _ => ops | _ => #[]
def rgJ : List Item → Nat | .inRegion _ (j :: _) :: _ => j | _ => 0
def rgRest : List Item → List Nat | .inRegion _ (_ :: l) :: _ => l | _ => []
def rgDst (t : List Item) : Option Tmp := ((rgOps t)[rgJ t]?).bind (·.dst)
/-- the range at the n-th stop of fn -/
def rangeOf (fn : Func) (n : Nat) (hout : List (Nat × Row)) (res : PV) (pins : List Nat) (fr0 : List (Nat × PV)) (fi : FuncId) : RangeP :=
  ⟨fn, hout, res, pins, fr0, rgPs (stopIn fn n), rgAsn (stopIn fn n), rgBody (stopIn fn n), rgK (stopIn fn n), fi⟩
/-- the call of yield at the n-th stop of the iterator -/
def roundOf (fI : Func) (n : Nat) (pinsI : List Nat) (frI : List (Nat × PV)) : RoundP :=
  ⟨fI.ntmps, pinsI, frI, rgOps (stopIn fI n), rgJ (stopIn fI n), rgRest (stopIn fI n), rgK (stopIn fI n), rgDst (stopIn fI n)⟩
/-- what a call of yield hands over -/
def yieldB (P : Program) (G : Nat → Option PV) (nt : Nat) (t : List Item) (d : DS) : Option (PV × List PV) := match (rgOps t)[rgJ t]? with
  | some o => (match o.op with
    | .call c => (match c.callee with
      | .value (.tmp y) => (match wantP (rgOps t) o d.st.fr with
        | some true => if dstB nt (rgOps t) && (c.args.toList.map (fun x => evO P G 0 d.st.fr x)).all good then some (getF d.fr y, c.args.toList.map (fun x => evO P G 0 d.st.fr x)) else none
        | _ => none)
      | _ => none)
    | _ => none)
  | none => none
def fitB (ps : List Nat) (args : List PV) (nt : Nat) : Bool := Nat.beq ps.length args.length && ps.all fun i => Nat.blt i nt
theorem WH.yieldAt {P : Program} {G : Nat → Option PV} {fI : Func} {n : Nat} {pinsI pinsR : List Nat} {frI : List (Nat × PV)} {R : RangeP} {l : Nat} {d : DS} {args : List PV} (ht : stopIn fI n = .inRegion (rgOps (stopIn fI n)) (rgJ (stopIn fI n) :: rgRest (stopIn fI n)) :: rgK (stopIn fI n))
    (hy : yieldB P G fI.ntmps (stopIn fI n) d = some (.fv (.func (.yield l) #[] #[]), args)) (hfit : fitB R.ps.toList args R.fn.ntmps = true) (hpi : subB pinsI pinsR = true) (hkeep : keepB pinsR frI = true) (hsl : SlotsIn frI d.fr)
    (hw : WH P G R.fn pinsR (HRound R (roundOf fI n pinsI frI) l .ready none) [.code R.asn, .beginRound, .code R.body] ⟨parF R.fr0 R.ps.toList args, d.hp⟩) :
    WH P G fI pinsI (HIter R l .ready none) (stopIn fI n) d := by
  rw [ht]
  unfold yieldB at hy
  simp only [fitB, Bool.and_eq_true] at hfit
  split at hy
  · rename_i o ho
    split at hy
    · rename_i c hc
      split at hy
      · rename_i y hcal
        split at hy
        · rename_i hwant
          split at hy
          · rename_i hb
            simp only [Bool.and_eq_true] at hb
            simp only [Option.some.injEq, Prod.mk.injEq] at hy
            exact WH.yield (Q := roundOf fI n pinsI frI) ho hc hcal hy.1 hwant hb.1 hy.2 (by rw [← hy.2]; exact hb.2) (Nat.eq_of_beq_eq_true hfit.1) hfit.2 rfl (by simp [roundOf, rgDst, ho]) hpi hkeep hsl hw
          · cases hy
        · cases hy
      · cases hy
    · cases hy
  · cases hy
def SlotsL (fr : List (Nat × PV)) : List (Nat × PV) → Prop
  | [] => True
  | x :: l => getF fr x.1 = x.2 ∧ SlotsL fr l
theorem SlotsIn.ofL {fr fr0 : List (Nat × PV)} (h : SlotsL fr fr0) : SlotsIn fr0 fr := by
  intro i hi
  cases hp : lookR fr0 i with
  | none => exact absurd (by simp only [getF, hp]) hi
  | some p =>
    have e : getF fr0 i = p := by simp only [getF, hp]
    have : ∀ l : List (Nat × PV), SlotsL fr l → ∀ x ∈ l, getF fr x.1 = x.2 := by
      intro l
      induction l with
      | nil => intro _ x hx; cases hx
      | cons y l ih =>
        intro hl x hx
        rcases List.mem_cons.1 hx with rfl | hx
        · exact hl.1
        · exact ih hl.2 x hx
    rw [e]
    exact (this fr0 h _ (lookR_mem hp)).symm
theorem SlotsIn.refl (fr : List (Nat × PV)) : SlotsIn fr fr := fun _ _ => rfl
theorem W.rangeFnAt {P : Program} {G : Nat → Option PV} {fn fI : Func} {n : Nat} {pins pinsI : List Nat} {hout : List (Nat × Row)} {res : PV} {fi g id : Nat} {d : DS} (ht : stopIn fn n = .code (.rangeFunc (.tmp g) (rgPs (stopIn fn n)) (rgAsn (stopIn fn n)) (rgBody (stopIn fn n))) :: rgK (stopIn fn n))
    (fr0 : List (Nat × PV)) (hg : getF d.fr g = .fn fi id) (hf : P.funcs[fi]? = some fI) (hb : fI.body.isSome = true) (hn : (fI.name == "runtime.NumGoroutine") = false) (hlen : (Nat.ble 2 fI.ntmps && !Nat.beq fi 1000000) = true)
    (hpi : subB pins pinsI = true) (hkeep : keepB pinsI fr0 = true) (hsl : SlotsIn fr0 d.fr)
    (hw : ∀ l, WH P G fI pinsI (HIter (rangeOf fn n hout res pins fr0 fi) l .ready none) [.code (bodyOf fI)] ⟨[(0, .fv (.func (.yield l) #[] #[])), (1, .at id [])], d.hp⟩) :
    W P G fn pins hout res (stopIn fn n) d := by
  rw [ht]
  obtain ⟨cI, hcI⟩ := Option.isSome_iff_exists.1 hb
  have : bodyOf fI = cI := by simp [bodyOf, hcI]
  rw [this] at hw
  exact W.rangeFn (R := rangeOf fn n hout res pins fr0 fi) hg hf hcI hn hlen hpi hkeep hsl hw
/-- The to-do lists at returns, in the text's order. -/
def retsC : Code → List Item → List (List Item)
  | .seq x y, k => retsC x (.code y :: k) ++ retsC y k
  | .cond _ x y, k => retsC x k ++ retsC y k
  | .block id c, k => retsC c (.inBlock id :: k)
  | .loop c, k => retsC c (.inLoop c :: k)
  | .ret, k => [.code .ret :: k]
  | _, _ => []
def retIn (c : Code) (n : Nat) : List Item := nthL n (retsC c [])
def atRetB : List Item → Bool
  | .code .ret :: _ => true
  | _ => false
def dstIn (d : Option Tmp) (nt : Nat) : Bool := match d with
  | some i => Nat.blt i nt
  | none => true
theorem dstIn_spec {d : Option Tmp} {nt : Nat} (h : dstIn d nt = true) : ∀ i, d = some i → i < nt := by
  intro i hi
  subst hi
  exact Nat.blt_eq ▸ h
section
variable {P : Program} {G : Nat → Option PV} {fn fI : Func} {n l : Nat} {pinsI pinsR : List Nat} {frI : List (Nat × PV)} {R : RangeP} {d : DS}
theorem WH.roundNormal (hdst : dstIn (rgDst (stopIn fI n)) fI.ntmps = true) (hw : WH P G fI pinsI (HIter R l .ready none) (.inRegion (rgOps (stopIn fI n)) (rgRest (stopIn fI n)) :: rgK (stopIn fI n)) ⟨putF frI (rgDst (stopIn fI n)) (.bool true), d.hp⟩) :
    WH P G fn pinsR (HRound R (roundOf fI n pinsI frI) l .busy none) [] d :=
  WH.roundEnd (Q := roundOf fI n pinsI frI) (dstIn_spec hdst) rfl rfl (fun _ => hw) fun h => absurd rfl h
theorem WH.roundRet {k : List Item} (hk : atRetB k = true) (hdst : dstIn (rgDst (stopIn fI n)) fI.ntmps = true) (hw : WH P G fI pinsI (HIter R l .done (some .ret)) (.inRegion (rgOps (stopIn fI n)) (rgRest (stopIn fI n)) :: rgK (stopIn fI n)) ⟨putF frI (rgDst (stopIn fI n)) (.bool false), d.hp⟩) :
    WH P G fn pinsR (HRound R (roundOf fI n pinsI frI) l .busy none) k d := by
  unfold atRetB at hk
  split at hk
  · exact WH.roundEnd (Q := roundOf fI n pinsI frI) (dstIn_spec hdst) rfl rfl (fun h => by cases h) fun _ => hw
  · cases hk
end
def loopAt (fn : Func) (n : Nat) : List Item := nthL n (loopsC (bodyOf fn) [])
def loopIn (c : Code) (n : Nat) : List Item := nthL n (loopsC c [])
theorem w_i64 {e e' : Int} (h : e = e') (h1 : -9223372036854775808 ≤ e') (h2 : e' ≤ 9223372036854775807) : IntKind.i64.wrap e = e' := by subst h; rw [wrap_bounds]; exact ⟨h1, h2⟩
theorem w_u64 {e e' : Int} (h : e = e') (h1 : 0 ≤ e') (h2 : e' ≤ 18446744073709551615) : IntKind.u64.wrap e = e' := by subst h; rw [wrap_bounds]; exact ⟨h1, h2⟩
theorem w_u32 {e e' : Int} (h : e = e') (h1 : 0 ≤ e') (h2 : e' ≤ 4294967295) : IntKind.u32.wrap e = e' := by subst h; rw [wrap_bounds]; exact ⟨h1, h2⟩
theorem pow_min {a s b : Nat} (h : a < 2 ^ b) : a / 2 ^ (min s b) = a / 2 ^ s := by
  by_cases hs : s ≤ b
  · rw [Nat.min_eq_left hs]
  · rw [Nat.min_eq_right (by omega), Nat.div_eq_of_lt h, Nat.div_eq_of_lt (Nat.lt_of_lt_of_le h (Nat.pow_le_pow_right (by omega) (by omega)))]
theorem shr_nat {x y : Int} {a s b : Nat} (hx : x = a) (hy : y = s) (h : a < 2 ^ b) : x.fdiv (2 ^ (min y.toNat b)) = ((a / 2 ^ s : Nat) : Int) := by
  subst hx; subst hy
  rw [Int.toNat_natCast, Int.fdiv_eq_ediv_of_nonneg _ (Int.pow_nonneg (by omega)), ← pow_min h]
  rw [Int.natCast_ediv, Int.natCast_pow]
  rfl
theorem shl_mod (a s b : Nat) : a * 2 ^ (min s b) % 2 ^ b = a * 2 ^ s % 2 ^ b := by
  by_cases hs : s ≤ b
  · rw [Nat.min_eq_left hs]
  · rw [Nat.min_eq_right (by omega), Nat.mul_mod_left]
    obtain ⟨d, rfl⟩ : ∃ d, s = b + d := ⟨s - b, by omega⟩
    rw [Nat.pow_add, ← Nat.mul_assoc, Nat.mul_right_comm, Nat.mul_mod_left]
theorem wm_u8 {e : Int} {n : Nat} (h : e = n) : IntKind.u8.wrap e = ((n % 256 : Nat) : Int) := by subst h; simp [IntKind.wrap, IntKind.bits, IntKind.signed]
theorem wm_u32 {e : Int} {n : Nat} (h : e = n) : IntKind.u32.wrap e = ((n % 4294967296 : Nat) : Int) := by subst h; simp [IntKind.wrap, IntKind.bits, IntKind.signed]
theorem shl_u32 {x y : Int} {a s : Nat} (hx : x = a) (hy : y = s) : IntKind.u32.wrap (x * 2 ^ (min y.toNat 32)) = ((a * 2 ^ s % 4294967296 : Nat) : Int) := by
  subst hx; subst hy
  rw [wm_u32 (n := a * 2 ^ (min s 32)) (by rw [Int.toNat_natCast, Int.natCast_mul, Int.natCast_pow]; rfl)]
  exact congrArg Nat.cast (shl_mod a s 32)
theorem shr_u32 {x y : Int} {a s : Nat} (hx : x = a) (hy : y = s) (h : a < 4294967296) : x.fdiv (2 ^ (min y.toNat 32)) = ((a / 2 ^ s : Nat) : Int) := shr_nat hx hy h
theorem wm_u64 {e : Int} {n : Nat} (h : e = n) : IntKind.u64.wrap e = ((n % 18446744073709551616 : Nat) : Int) := by subst h; simp [IntKind.wrap, IntKind.bits, IntKind.signed]
theorem shl_u64 {x y : Int} {a s : Nat} (hx : x = a) (hy : y = s) : IntKind.u64.wrap (x * 2 ^ (min y.toNat 64)) = ((a * 2 ^ s % 18446744073709551616 : Nat) : Int) := by
  subst hx; subst hy
  rw [wm_u64 (n := a * 2 ^ (min s 64)) (by rw [Int.toNat_natCast, Int.natCast_mul, Int.natCast_pow]; rfl)]
  exact congrArg Nat.cast (shl_mod a s 64)
theorem shr_u64 {x y : Int} {a s : Nat} (hx : x = a) (hy : y = s) (h : a < 18446744073709551616) : x.fdiv (2 ^ (min y.toNat 64)) = ((a / 2 ^ s : Nat) : Int) := shr_nat hx hy h
theorem band_u32 {x y : Int} {a b : Nat} (hx : x = a) (hy : y = b) (ha : a < 4294967296) (hb : b < 4294967296) : bits .and .u32 x y = ((a &&& b : Nat) : Int) := by subst hx; subst hy; exact u32_and_nat a b ha hb
theorem bor_u32 {x y : Int} {a b : Nat} (hx : x = a) (hy : y = b) (ha : a < 4294967296) (hb : b < 4294967296) : bits .or .u32 x y = ((a ||| b : Nat) : Int) := by subst hx; subst hy; exact u32_or_nat a b ha hb
theorem bxor_u32 {x y : Int} {a b : Nat} (hx : x = a) (hy : y = b) (ha : a < 4294967296) (hb : b < 4294967296) : bits .xor .u32 x y = ((a ^^^ b : Nat) : Int) := by subst hx; subst hy; exact u32_xor_nat a b ha hb
theorem bor_u64 {x y : Int} {a b : Nat} (hx : x = a) (hy : y = b) (ha : a < 18446744073709551616) (hb : b < 18446744073709551616) : bits .or .u64 x y = ((a ||| b : Nat) : Int) := by subst hx; subst hy; exact u64_or_nat a b ha hb
theorem shrm_u64 {x y : Int} {a s m : Nat} (hx : x = a) (hy : y = s) (hm : 2 ^ s = m) (h : a < 18446744073709551616) : x.fdiv (2 ^ (min y.toNat 64)) = ((a / m : Nat) : Int) := by rw [← hm]; exact shr_u64 hx hy h
abbrev I6 (n : Int) : PV := .int .i64 n
abbrev U6 (n : Int) : PV := .int .u64 n
abbrev U3 (n : Int) : PV := .int .u32 n
abbrev U8 (n : Int) : PV := .int .u8 n
abbrev B8 (n : Nat) (l : List Int) : PV := .iarr .u8 n l
abbrev B3 (n : Nat) (l : List Int) : PV := .iarr .u32 n l
abbrev aT : Ans := .dec true
abbrev aF : Ans := .dec false
abbrev aV (p : PV) : Ans := .val p
abbrev rr {α : Type} (x : α) : Prop := x = x
theorem cg {k : IntKind} {a b : Int} (h : a = b) : PV.int k a = PV.int k b := congrArg _ h
end Go.Pe
namespace Go.Pe
def castFrV (b : List (Nat × Nat)) (src : DS) : List (Nat × PV) → Option (List Prop × List PV)
  | [] => some ([], [])
  | x :: l => if isUndef x.2 then castFrV b src l else match viewV (lookR b) (lookR src.hp) (getF src.fr x.1), castFrV b src l with
    | some q, some m => if untup (getF src.fr x.1) && !isUndef (getF src.fr x.1) then some (q.2 ++ m.1, q.1 :: m.2) else none
    | _, _ => none
def valsF : List (Nat × PV) → List PV
  | [] => []
  | x :: l => if isUndef x.2 then valsF l else x.2 :: valsF l
def castHpV (b : List (Nat × Nat)) (src : DS) : List (Nat × Row) → Option (List PV)
  | [] => some []
  | x :: l => match lookR (swapL b) x.1 with
    | some i => (match lookR src.hp i with
      | some r => (match ren (lookR b) r.c, castHpV b src l with
        | some c, some m => if Nat.blt x.1 64 && (x.2.frz || !r.frz) then some (c :: m) else none
        | _, _ => none)
      | none => none)
    | none => none
def valsH : List (Nat × Row) → List PV
  | [] => []
  | x :: l => x.2.c :: valsH l
def castV (b : List (Nat × Nat)) (pins : List Nat) (src tgt : DS) : Option (List Prop × List PV × List PV) :=
  if nodupB (keys b) && nodupB (keys (swapL b)) && pins.all (fun i => match lookR b i with
      | some j => Nat.beq i j
      | none => false) && (keys (swapL b)).all (fun j => Nat.blt j 64) then (match castFrV b src tgt.fr, castHpV b src tgt.hp with
    | some m, some m' => some (m.1, m.2, m')
    | _, _ => none) else none
theorem castFrV_spec {b : List (Nat × Nat)} {src : DS} : ∀ {l : List (Nat × PV)} {m : List Prop}, castFrV b src l = some (m, valsF l) → ∃ m', castFr b src l = some m' ∧ (All m → All m')
  | [], m, _ => ⟨[], rfl, fun _ => All.nil⟩
  | x :: l, m, h => by
    unfold castFrV valsF at h
    unfold castFr
    by_cases hu : isUndef x.2 = true
    · rw [if_pos hu] at h ⊢
      rw [if_pos hu] at h
      exact castFrV_spec h
    · rw [if_neg hu] at h ⊢
      rw [if_neg hu] at h
      split at h
      · rename_i q y hq hy
        rw [hq]
        split at h
        · rename_i hc
          simp only [Option.some.injEq, Prod.mk.injEq, List.cons.injEq] at h
          obtain ⟨rfl, e1, e2⟩ := h
          obtain ⟨m', g1, g2⟩ := castFrV_spec (m := y.1) (by rw [hy, ← e2])
          rw [g1]
          dsimp only
          rw [if_pos hc]
          exact ⟨_, rfl, fun ho => All.append ho.left (All.cons e1 (g2 ho.right))⟩
        · cases h
      · cases h
theorem castHpV_spec {b : List (Nat × Nat)} {src : DS} : ∀ {l : List (Nat × Row)}, castHpV b src l = some (valsH l) → ∃ m', castHp b src l = some m' ∧ All m'
  | [], _ => ⟨[], rfl, All.nil⟩
  | x :: l, h => by
    unfold castHpV valsH at h
    unfold castHp
    split at h
    · rename_i i hi
      rw [hi]
      dsimp only
      split at h
      · rename_i r hr
        rw [hr]
        dsimp only
        split at h
        · rename_i c m hc hm
          rw [hc]
          split at h
          · rename_i hk
            simp only [Option.some.injEq, List.cons.injEq] at h
            obtain ⟨e1, e2⟩ := h
            obtain ⟨m', g1, g2⟩ := castHpV_spec (l := l) (by rw [hm, e2])
            rw [g1]
            dsimp only
            rw [if_pos hk]
            exact ⟨_, rfl, All.cons e1 g2⟩
          · cases h
        · cases h
      · cases h
    · cases h
theorem castB_of {b : List (Nat × Nat)} {pins : List Nat} {src tgt : DS} {m m' : List Prop} (hc : (nodupB (keys b) && nodupB (keys (swapL b)) && pins.all (fun i => match lookR b i with
      | some j => Nat.beq i j
      | none => false) && (keys (swapL b)).all (fun j => Nat.blt j 64)) = true) (h1 : castFr b src tgt.fr = some m) (h2 : castHp b src tgt.hp = some m') : castB b pins src tgt = some (m ++ m') := by
  unfold castB
  split
  · rw [h1, h2]
  · rename_i hn
    exact absurd hc hn
theorem castV_spec {b : List (Nat × Nat)} {pins : List Nat} {src tgt : DS} {m : List Prop} (h : castV b pins src tgt = some (m, valsF tgt.fr, valsH tgt.hp)) : ∃ m', castB b pins src tgt = some m' ∧ (All m → All m') := by
  unfold castV at h
  split at h
  · rename_i hc
    split at h
    · rename_i x y hx hy
      simp only [Option.some.injEq, Prod.mk.injEq] at h
      obtain ⟨rfl, e1, rfl⟩ := h
      obtain ⟨m1, g1, g2⟩ := castFrV_spec (m := x.1) (by rw [hx, ← e1])
      obtain ⟨m2, k1, k2⟩ := castHpV_spec hy
      exact ⟨_, castB_of hc g1 k1, fun ho => All.append (g2 ho) k2⟩
    · cases h
  · cases h
def segS (P : Program) (G : Nat → Option PV) (nt : Nat) (pins : List Nat) (todo : List Item) (d : DS) (az : List (Nat × Ans)) (b : List (Nat × Nat)) (tgt : DS) : Option (List Item × List Prop × List PV × List PV) :=
  match runI P G nt 4000 todo 0 d az with
  | some x => (match castV b pins x.2.1 tgt with
    | some y => some (x.1, x.2.2 ++ y.1, y.2)
    | none => none)
  | none => none
theorem segS_spec {P : Program} {G : Nat → Option PV} {nt : Nat} {pins : List Nat} {todo : List Item} {d : DS} {az : List (Nat × Ans)} {b : List (Nat × Nat)} {tgt : DS} {todo' : List Item} {ob : List Prop}
    (h : segS P G nt pins todo d az b tgt = some (todo', ob, valsF tgt.fr, valsH tgt.hp)) : ∃ ob', segB P G nt pins todo d az b tgt = some (todo', ob') ∧ (All ob → All ob') := by
  unfold segS at h
  unfold segB
  split at h
  · rename_i x hx
    split at h
    · rename_i y hy
      simp only [Option.some.injEq, Prod.mk.injEq] at h
      obtain ⟨rfl, rfl, e⟩ := h
      obtain ⟨m', g1, g2⟩ := castV_spec (m := y.1) (by rw [hy, ← e])
      rw [hx]
      dsimp only
      rw [g1]
      exact ⟨_, rfl, fun ho => All.append ho.left (g2 ho.right)⟩
    · cases h
  · cases h
def retS (P : Program) (G : Nat → Option PV) (fn : Func) (pins : List Nat) (todo : List Item) (d : DS) (az : List (Nat × Ans)) (b : List (Nat × Nat)) (hout : List (Nat × Row)) : Option (List Prop × List PV × PV) :=
  match runI P G fn.ntmps 4000 todo 0 d az with
  | some x => if isRet x.1 then (match resAll P x.2.1 fn.results.toList, castV b pins x.2.1 ⟨[], hout⟩ with
      | some r, some y => (match viewR (lookR b) (lookR x.2.1.hp) (tupOf r.1) with
        | some q => some (x.2.2 ++ (r.2 ++ q.2), y.2.2, q.1)
        | none => none)
      | _, _ => none) else none
  | none => none
theorem castV_none {b : List (Nat × Nat)} {pins : List Nat} {src : DS} {hout : List (Nat × Row)} {y : List Prop × List PV × List PV} (h : castV b pins src ⟨[], hout⟩ = some y) : y.1 = [] ∧ y.2.1 = [] := by
  unfold castV at h
  split at h
  · split at h
    · rename_i x z hx hz
      unfold castFrV at hx
      simp only [Option.some.injEq] at hx h
      subst hx; subst h
      exact ⟨rfl, rfl⟩
    · cases h
  · cases h
theorem retS_spec {P : Program} {G : Nat → Option PV} {fn : Func} {pins : List Nat} {todo : List Item} {d : DS} {az : List (Nat × Ans)} {b : List (Nat × Nat)} {hout : List (Nat × Row)} {res : PV} {ob : List Prop}
    (h : retS P G fn pins todo d az b hout = some (ob, valsH hout, res)) : ∃ ob', retB P G fn pins todo d az b hout res = some ob' ∧ (All ob → All ob') := by
  unfold retS at h
  unfold retB
  split at h
  · rename_i x hx
    split at h
    · rename_i hr
      rw [hx]
      dsimp only
      rw [if_pos hr]
      split at h
      · rename_i r y hrr hy
        rw [hrr]
        split at h
        · rename_i q hq
          simp only [Option.some.injEq, Prod.mk.injEq] at h
          obtain ⟨rfl, e1, e2⟩ := h
          obtain ⟨k1, k2⟩ := castV_none hy
          obtain ⟨m', g1, g2⟩ := castV_spec (m := []) (tgt := ⟨[], hout⟩) (by rw [hy]; show some y = some ([], [], valsH hout); rw [← e1, ← k1, ← k2])
          rw [g1]
          dsimp only
          rw [hq]
          dsimp only
          exact ⟨_, rfl, fun ho => All.append ho.left (All.append ho.right.left (All.append (g2 All.nil) (All.append ho.right.right (All.cons e2 All.nil))))⟩
        · cases h
      · cases h
    · cases h
  · cases h
section
variable {P : Program} {G : Nat → Option PV} {fn : Func} {pins : List Nat} {hout : List (Nat × Row)} {res : PV} {todo : List Item} {d : DS} {H : Host}
theorem allC_of : ∀ {l : List Prop}, All l → AllC l
  | [], _ => trivial
  | [_], h => h.head
  | _ :: _ :: _, h => ⟨h.head, allC_of h.tail⟩
theorem WH.sg (az : List (Nat × Ans)) (b : List (Nat × Nat)) (tgt : DS) (todo' : List Item) (ob : List Prop) (h : segS P G fn.ntmps pins todo d az b tgt = some (todo', ob, valsF tgt.fr, valsH tgt.hp)) (ho : AllC ob) (hw : WH P G fn pins H todo' tgt) : WH P G fn pins H todo d := by
  obtain ⟨ob', g1, g2⟩ := segS_spec h
  exact WH.seg az b tgt ob' g1 (allC_of (g2 ho.all)) hw
theorem W.sg (n : Nat) (az : List (Nat × Ans)) (b : List (Nat × Nat)) (tgt : DS) (ob : List Prop) (h : segS P G fn.ntmps pins todo d az b tgt = some (loopAt fn n, ob, valsF tgt.fr, valsH tgt.hp)) (ho : AllC ob) (hw : W P G fn pins hout res (loopAt fn n) tgt) : W P G fn pins hout res todo d :=
  WH.sg az b tgt _ ob h ho hw
theorem W.st (az : List (Nat × Ans)) (b : List (Nat × Nat)) (tgt : DS) (todo' : List Item) (ob : List Prop) (h : segS P G fn.ntmps pins todo d az b tgt = some (todo', ob, valsF tgt.fr, valsH tgt.hp)) (ho : AllC ob) (hw : W P G fn pins hout res todo' tgt) : W P G fn pins hout res todo d :=
  WH.sg az b tgt todo' ob h ho hw
theorem WM.st (az : List (Nat × Ans)) (b : List (Nat × Nat)) (tgt : DS) (todo' : List Item) (ob : List Prop) (h : segS P G fn.ntmps pins todo d az b tgt = some (todo', ob, valsF tgt.fr, valsH tgt.hp)) (ho : AllC ob) (hw : WM P G fn pins hout res todo' tgt) : WM P G fn pins hout res todo d :=
  WH.sg az b tgt todo' ob h ho hw
theorem W.rt (az : List (Nat × Ans)) (b : List (Nat × Nat)) (ob : List Prop) (h : retS P G fn pins todo d az b hout = some (ob, valsH hout, res)) (ho : AllC ob) : W P G fn pins hout res todo d := by
  obtain ⟨ob', g1, g2⟩ := retS_spec h
  exact W.ret az b ob' g1 (allC_of (g2 ho.all))
theorem WM.rt (az : List (Nat × Ans)) (b : List (Nat × Nat)) (ob : List Prop) (h : retS P G fn pins todo d az b hout = some (ob, valsH hout, res)) (ho : AllC ob) : WM P G fn pins hout res todo d := by
  obtain ⟨ob', g1, g2⟩ := retS_spec h
  exact WM.ret az b ob' g1 (allC_of (g2 ho.all))
end
def cC {P : Program} {G : Nat → Option PV} {f : FuncId} {hin : List (Nat × Row)} {args : List PV} {hout : List (Nat × Row)} {res : PV} (keep : Bool) (b : List (Nat × Nat)) (_ : PC P G f hin args hout res) : Ans := .call keep b hout res
def cL {P : Program} {G : Nat → Option PV} {f : FuncId} {hin : List (Nat × Row)} {args : List PV} {hout : List (Nat × Row)} {res : PV} (keep : Bool) (b : List (Nat × Nat)) (_ : PC P G f hin args hout res) : Ans := .calla keep b hin args hout res
def c0 {P : Program} {G : Nat → Option PV} {f : FuncId} {hin : List (Nat × Row)} {args : List PV} {hout : List (Nat × Row)} {res : PV} (_ : PC P G f hin args hout res) : Ans := .call false [] hout res
def c9 {P : Program} {G : Nat → Option PV} {f : FuncId} {hin : List (Nat × Row)} {args : List PV} {hout : List (Nat × Row)} {res : PV} (_ : PC P G f hin args hout res) : Ans := .call true [] hout res
def aE {p q : PV} (_ : p = q) : Ans := .val q
mutual
def shp : PV → Sh
  | .int k _ => .int k
  | .bool _ => .bool
  | .str _ => .str
  | .st n fs => .st n (shpL fs)
  | .iarr k n _ => .iarr k n
  | .parr s n e _ => .parr s n e
  | .vec _ (.iarr k _ _) => .vec 1 (.int k)
  | .vec _ (.parr s _ e _) => if e.isInt then .any else .vec s e
  | _ => .any
termination_by structural p => p
def shpL : List PV → List Sh
  | [] => []
  | p :: l => shp p :: shpL l
termination_by structural l => l
end
theorem IntKind.same_refl (k : IntKind) : IntKind.same k k = true := by cases k <;> rfl
mutual
theorem Sh.beq_refl : ∀ (a : Sh), Sh.beq a a = true
  | .any | .bool | .str => rfl
  | .int k => by simp only [Sh.beq]; exact IntKind.same_refl k
  | .st n fs => by simp only [Sh.beq, Nat.beq_refl, Bool.true_and]; exact Sh.beqL_refl fs
  | .iarr k n => by simp only [Sh.beq, Nat.beq_refl, Bool.and_true]; exact IntKind.same_refl k
  | .parr s n e => by simp only [Sh.beq, Nat.beq_refl, Bool.true_and]; exact Sh.beq_refl e
  | .vec s e => by simp only [Sh.beq, Nat.beq_refl, Bool.true_and]; exact Sh.beq_refl e
theorem Sh.beqL_refl : ∀ (l : List Sh), Sh.beqL l l = true
  | [] => rfl
  | a :: l => by simp only [Sh.beqL, Bool.and_eq_true]; exact ⟨Sh.beq_refl a, Sh.beqL_refl l⟩
end
mutual
theorem expose_shp : ∀ (p : PV), expose (shp p) p = p
  | .int k _ | .bool _ | .str _ => rfl
  | .iarr k n _ => rfl
  | .parr s n e _ => rfl
  | .st n fs => by simp only [shp, expose, PV.fs, exposeL_shp fs]
  | .vec nl c => by
    cases c with
    | iarr k n l => exact expose_conf _ _ (by simp only [shp, conf]; exact IntKind.same_refl k)
    | parr s n e l =>
      by_cases he : e.isInt = true
      · simp only [shp, he, if_true]; rfl
      · have he' : e.isInt = false := by simpa using he
        refine expose_conf _ _ ?_
        simp only [shp, he', Bool.false_eq_true, if_false]
        cases e <;> first | (simp [Sh.isInt] at he'; done) | (simp only [conf, Sh.isInt, Nat.beq_refl, Sh.beq_refl]; rfl)
    | _ => rfl
  | .tup _ | .cptr .. | .at .. | .ref .. | .nilp | .fn .. | .fv _ | .fb .. | .undef => rfl
theorem exposeL_shp : ∀ (l : List PV), exposeL (shpL l) l = l
  | [] => rfl
  | p :: l => by simp only [shpL, exposeL, List.headD_cons, List.tail_cons, expose_shp p, exposeL_shp l]
end
theorem ex {p q : PV} (h : p = q) : expose (shp q) p = q := by rw [h]; exact expose_shp q
def rI : Nat → List (Nat × Nat)
  | 0 => []
  | n + 1 => rI n ++ [(n + 1, n + 1)]
theorem dT {p : Prop} [Decidable p] (h : p) : decide p = true := decide_eq_true h
theorem dF {p : Prop} [Decidable p] (h : ¬ p) : decide p = false := decide_eq_false h
end Go.Pe
namespace Go.Pm
set_option maxRecDepth 100000
/-- x turned by k to the right -/
def rot (x k : Nat) : Nat := x / 2 ^ k ||| x * 2 ^ (32 - k) % 4294967296
theorem rot_lt {x k : Nat} (hx : x < 4294967296) : rot x k < 4294967296 := by
  unfold rot
  exact Nat.or_lt_two_pow (n := 32) (Nat.lt_of_le_of_lt (Nat.div_le_self _ _) hx) (Nat.mod_lt _ (by decide))
def at0 (l : List Int) (i : Nat) : Nat := (l.getD i 0).toNat
def be4 (a b c d : Nat) : Nat := a * 16777216 + b * 65536 + c * 256 + d
def word (b : List Int) (i : Nat) : Nat := be4 (at0 b (4 * i)) (at0 b (4 * i + 1)) (at0 b (4 * i + 2)) (at0 b (4 * i + 3))
def words (b : List Int) : Nat → List Int
  | 0 => []
  | n + 1 => words b n ++ [((word b n : Nat) : Int)]
def sg0 (x : Nat) : Nat := rot x 7 ^^^ rot x 18 ^^^ x / 8
def sg1 (x : Nat) : Nat := rot x 17 ^^^ rot x 19 ^^^ x / 1024
def nextW (w : List Int) (t : Nat) : Nat := (((at0 w (t - 16) + sg0 (at0 w (t - 15))) % 4294967296 + at0 w (t - 7)) % 4294967296 + sg1 (at0 w (t - 2))) % 4294967296
/-- all words, up to a place -/
def sched (b : List Int) : Nat → List Int
  | 0 => words b 16
  | n + 1 => sched b n ++ [((nextW (sched b n) (16 + n) : Nat) : Int)]
theorem words_length (b : List Int) : ∀ n, (words b n).length = n
  | 0 => rfl
  | n + 1 => by simp [words, words_length b n]
theorem sched_length (b : List Int) : ∀ n, (sched b n).length = 16 + n
  | 0 => words_length b 16
  | n + 1 => by simp [sched, sched_length b n]; omega
/-- all are words of 32 bits -/
def W32 (l : List Int) : Prop := ∀ x ∈ l, 0 ≤ x ∧ x < 4294967296
def Bytes (l : List Int) : Prop := ∀ x ∈ l, 0 ≤ x ∧ x ≤ 255
theorem W32.get {l : List Int} (h : W32 l) (i : Nat) : l.getD i 0 = ((at0 l i : Nat) : Int) ∧ at0 l i < 4294967296 := by
  unfold at0
  by_cases hi : i < l.length
  · have := h _ (List.getElem_mem hi)
    rw [List.getD_eq_getElem?_getD, List.getElem?_eq_getElem hi]
    simp only [Option.getD_some]
    omega
  · rw [List.getD_eq_getElem?_getD, List.getElem?_eq_none (by omega)]
    simp
theorem Bytes.get {l : List Int} (h : Bytes l) (i : Nat) : l.getD i 0 = ((at0 l i : Nat) : Int) ∧ at0 l i < 256 := by
  unfold at0
  by_cases hi : i < l.length
  · have := h _ (List.getElem_mem hi)
    rw [List.getD_eq_getElem?_getD, List.getElem?_eq_getElem hi]
    simp only [Option.getD_some]
    omega
  · rw [List.getD_eq_getElem?_getD, List.getElem?_eq_none (by omega)]
    simp
theorem word_lt {b : List Int} (hb : Bytes b) (i : Nat) : word b i < 4294967296 := by
  have h1 := (hb.get (4 * i)).2
  have h2 := (hb.get (4 * i + 1)).2
  have h3 := (hb.get (4 * i + 2)).2
  have h4 := (hb.get (4 * i + 3)).2
  unfold word be4
  omega
theorem W32.snoc {l : List Int} (h : W32 l) {x : Nat} (hx : x < 4294967296) : W32 (l ++ [(x : Int)]) := fun y hy => by
  rcases List.mem_append.1 hy with hy | hy
  · exact h y hy
  · simp at hy; subst hy; omega
theorem words_W32 {b : List Int} (hb : Bytes b) : ∀ n, W32 (words b n)
  | 0 => fun x hx => by cases hx
  | n + 1 => (words_W32 hb n).snoc (word_lt hb n)
theorem sched_W32 {b : List Int} (hb : Bytes b) : ∀ n, W32 (sched b n)
  | 0 => words_W32 hb 16
  | n + 1 => (sched_W32 hb n).snoc (Nat.mod_lt _ (by decide))
structure V8 where
  a : Nat
  b : Nat
  c : Nat
  d : Nat
  e : Nat
  f : Nat
  g : Nat
  h : Nat
def V8.l (v : V8) : List Int := [(v.a : Int), (v.b : Int), (v.c : Int), (v.d : Int), (v.e : Int), (v.f : Int), (v.g : Int), (v.h : Int)]
structure V8.Ok (v : V8) : Prop where
  a : v.a < 4294967296
  b : v.b < 4294967296
  c : v.c < 4294967296
  d : v.d < 4294967296
  e : v.e < 4294967296
  f : v.f < 4294967296
  g : v.g < 4294967296
  h : v.h < 4294967296
def bs1 (x : Nat) : Nat := rot x 6 ^^^ rot x 11 ^^^ rot x 25
def bs0 (x : Nat) : Nat := rot x 2 ^^^ rot x 13 ^^^ rot x 22
def chN (e f g : Nat) : Nat := (e &&& f) ^^^ ((4294967295 - e) &&& g)
def majN (a b c : Nat) : Nat := (a &&& b) ^^^ (a &&& c) ^^^ (b &&& c)
def rp (v : V8) (k w : Nat) : Nat := ((((v.h + bs1 v.e) % 4294967296 + chN v.e v.f v.g) % 4294967296 + k) % 4294967296 + w) % 4294967296
def rq (v : V8) : Nat := (bs0 v.a + majN v.a v.b v.c) % 4294967296
def rd (v : V8) (k w : Nat) : V8 := ⟨(rp v k w + rq v) % 4294967296, v.a, v.b, v.c, (v.d + rp v k w) % 4294967296, v.e, v.f, v.g⟩
theorem rd_ok {v : V8} (h : v.Ok) (k w : Nat) : (rd v k w).Ok := ⟨Nat.mod_lt _ (by decide), h.a, h.b, h.c, Nat.mod_lt _ (by decide), h.e, h.f, h.g⟩
def rounds (ks ws : List Int) : Nat → Nat → V8 → V8
  | 0, _, v => v
  | n + 1, t, v => rounds ks ws n (t + 1) (rd v (at0 ks t) (at0 ws t))
def addV (v w : V8) : V8 := ⟨(v.a + w.a) % 4294967296, (v.b + w.b) % 4294967296, (v.c + w.c) % 4294967296, (v.d + w.d) % 4294967296, (v.e + w.e) % 4294967296, (v.f + w.f) % 4294967296, (v.g + w.g) % 4294967296, (v.h + w.h) % 4294967296⟩
theorem addV_ok (v w : V8) : (addV v w).Ok := ⟨Nat.mod_lt _ (by decide), Nat.mod_lt _ (by decide), Nat.mod_lt _ (by decide), Nat.mod_lt _ (by decide), Nat.mod_lt _ (by decide), Nat.mod_lt _ (by decide), Nat.mod_lt _ (by decide), Nat.mod_lt _ (by decide)⟩
def kS : List Int := [1116352408, 1899447441, 3049323471, 3921009573, 961987163, 1508970993, 2453635748, 2870763221,
    3624381080, 310598401, 607225278, 1426881987, 1925078388, 2162078206, 2614888103, 3248222580,
    3835390401, 4022224774, 264347078, 604807628, 770255983, 1249150122, 1555081692, 1996064986,
    2554220882, 2821834349, 2952996808, 3210313671, 3336571891, 3584528711, 113926993, 338241895,
    666307205, 773529912, 1294757372, 1396182291, 1695183700, 1986661051, 2177026350, 2456956037,
    2730485921, 2820302411, 3259730800, 3345764771, 3516065817, 3600352804, 4094571909, 275423344,
    430227734, 506948616, 659060556, 883997877, 958139571, 1322822218, 1537002063, 1747873779,
    1955562222, 2024104815, 2227730452, 2361852424, 2428436474, 2756734187, 3204031479, 3329325298]
theorem kS_W32 : W32 kS := by unfold W32 kS; decide
/-- what a block makes of a state -/
def blk (v : V8) (b : List Int) : V8 := addV v (rounds kS (sched b 48) 64 0 v)
theorem blk_ok (v : V8) (b : List Int) : (blk v b).Ok := addV_ok _ _
def iv : V8 := ⟨1779033703, 3144134277, 1013904242, 2773480762, 1359893119, 2600822924, 528734635, 1541459225⟩
theorem iv_ok : iv.Ok := ⟨by decide, by decide, by decide, by decide, by decide, by decide, by decide, by decide⟩
def absorb : Nat → V8 → List Int → V8
  | 0, v, _ => v
  | n + 1, v, m => absorb n (blk v (m.take 64)) (m.drop 64)
/-- the state behind all whole blocks of a text -/
def absS (v : V8) (m : List Int) : V8 := absorb (m.length / 64) v m
theorem absorb_ok : ∀ (n : Nat) {v : V8} (m : List Int), v.Ok → (absorb n v m).Ok
  | 0, _, _, h => h
  | n + 1, _, m, _ => absorb_ok n (m.drop 64) (blk_ok _ _)
theorem absorb_append : ∀ (n : Nat) (v : V8) (m l : List Int), 64 * n ≤ m.length → absorb n v (m ++ l) = absorb n v m
  | 0, _, _, _, _ => rfl
  | n + 1, v, m, l, h => by
    rw [absorb, absorb, List.take_append_of_le_length (by omega), List.drop_append_of_le_length (by omega)]
    exact absorb_append n _ _ _ (by rw [List.length_drop]; omega)
theorem absorb_add : ∀ (n k : Nat) (v : V8) (m : List Int), absorb (n + k) v m = absorb k (absorb n v m) (m.drop (64 * n))
  | 0, k, v, m => by simp [absorb]
  | n + 1, k, v, m => by
    rw [show n + 1 + k = (n + k) + 1 by omega, absorb, absorb_add n k, absorb, List.drop_drop]
    congr 2
    omega
/-- with a part more -/
theorem absS_append (v : V8) (m l : List Int) : absS v (m ++ l) = absS (absS v m) (m.drop (64 * (m.length / 64)) ++ l) := by
  unfold absS
  have h : (m ++ l).length / 64 = m.length / 64 + (m.drop (64 * (m.length / 64)) ++ l).length / 64 := by
    simp only [List.length_append, List.length_drop]; omega
  rw [h, absorb_add, absorb_append _ _ _ _ (by omega), List.drop_append_of_le_length (by omega)]
def be (n width : Nat) : List Int := (List.range width).map fun i => ((n / 256 ^ (width - 1 - i) % 256 : Nat) : Int)
def out4 (x : Nat) : List Int := be x 4
def V8.bytes (v : V8) : List Int := out4 v.a ++ out4 v.b ++ out4 v.c ++ out4 v.d ++ out4 v.e ++ out4 v.f ++ out4 v.g ++ out4 v.h
def padTo (n : Nat) : List Int := 128 :: List.replicate ((64 + 64 - 8 - 1 - n % 64) % 64) 0
def padded (m : List Int) : List Int := m ++ padTo m.length ++ be (m.length * 8) 8
def sha (m : List Int) : List Int := (absS iv (padded m)).bytes
def dsha (m : List Int) : List Int := sha (sha m)
theorem be_length (n w : Nat) : (be n w).length = w := by simp [be]
theorem be_bytes (n w : Nat) : Bytes (be n w) := fun x hx => by
  simp only [be, List.mem_map, List.mem_range] at hx
  obtain ⟨i, _, rfl⟩ := hx
  have : n / 256 ^ (w - 1 - i) % 256 < 256 := Nat.mod_lt _ (by omega)
  omega
theorem V8.bytes_length (v : V8) : v.bytes.length = 32 := by simp [V8.bytes, out4, be_length]
theorem Bytes.append {l m : List Int} (h : Bytes l) (h' : Bytes m) : Bytes (l ++ m) := fun x hx => (List.mem_append.1 hx).elim (h x) (h' x)
theorem V8.bytes_bytes (v : V8) : Bytes v.bytes := by
  unfold V8.bytes out4
  exact ((((((((be_bytes _ _).append (be_bytes _ _)).append (be_bytes _ _)).append (be_bytes _ _)).append (be_bytes _ _)).append (be_bytes _ _)).append (be_bytes _ _)).append (be_bytes _ _))
theorem sha_length (m : List Int) : (sha m).length = 32 := V8.bytes_length _
theorem sha_bytes (m : List Int) : Bytes (sha m) := V8.bytes_bytes _
end Go.Pm
namespace Go.Proofs
open Go Go.Pe
/-- the laid variables -/
def G0 : Nat → Option PV := fun g => if Nat.beq g 0 then some (.iarr .u32 64 Go.Pm.kS) else none
end Go.Proofs
namespace Go.Proofs
open Go Go.Pe Go.Pm
set_option maxRecDepth 100000
set_option linter.unusedVariables false
theorem pc_right32 {x k : Nat} (hx : x < 4294967296) (hk0 : 0 < k) (hk : k < 32) : PC Tryd.prog G0 84 [] [.int .u32 x, .int .i64 k] [] (.int .u32 ((rot x k : Nat) : Int)) := by
  refine PC.of (fn := Tryd.f84) (c := bodyOf Tryd.f84) Tryd.func84 (by kernel_rfl) (by kernel_rfl) (by kernel_rfl) (by kernel_rfl) ?_
  have h1 : x / 2 ^ k < 4294967296 := Nat.lt_of_le_of_lt (Nat.div_le_self _ _) hx
  have h2 : x * 2 ^ (32 - k) % 4294967296 < 4294967296 := Nat.mod_lt _ (by decide)
  have h3 : ((k % 32 : Nat) : Int) = (k : Int) := by omega
  have h4 : (32 : Int) - k = ((32 - k : Nat) : Int) := by omega
  unfold rot
  generalize 32 - k = j at *
  refine W.rt [(2, aV (U6 (k:Int))), (3, aV (U6 (k:Int))), (7, aV (U3 (↑(x / 2 ^ k) : Int))), (10, aV (U6 (j:Int))), (11, aV (U3 (↑(x * 2 ^ j % 4294967296) : Int))), (12, aV (U3 (↑(x / 2 ^ k ||| x * 2 ^ j % 4294967296) : Int)))] [] [U6 (IntKind.wrap .u64 (k:Int)) = U6 (k:Int), U6 (Int.tmod (k:Int) (32 : Int)) = U6 (k:Int), (32 : Int) ≠ (0 : Int), U3 (Int.fdiv (x:Int) ((2 : Int) ^ min k 32)) = U3 (↑(x / 2 ^ k) : Int), 0 ≤ (k:Int), U6 (IntKind.wrap .u64 (32 - (k:Int))) = U6 (j:Int), U3 (IntKind.wrap .u32 ((x:Int) * (2 : Int) ^ min j 32)) = U3 (↑(x * 2 ^ j % 4294967296) : Int), 0 ≤ (j:Int), U3 (bits BinOp.or IntKind.u32 (↑(x / 2 ^ k) : Int) (↑(x * 2 ^ j % 4294967296) : Int)) = U3 (↑(x / 2 ^ k ||| x * 2 ^ j % 4294967296) : Int)] (by kernel_rfl) (ac (cg (w_u64 rfl (by omega) (by omega))) (ac (cg (h3)) (ac (by omega) (ac (cg (shr_u32 rfl rfl (by omega))) (ac (by omega) (ac (cg (w_u64 h4 (by omega) (by omega))) (ac (cg (shl_u32 (y := ((j : Nat) : Int)) rfl rfl)) (ac (by omega) (ao (cg (bor_u32 rfl rfl (by omega) (by omega))))))))))))
theorem pc_turned {x a b c : Nat} (hx : x < 4294967296) (ha0 : 0 < a) (ha : a < 32) (hb0 : 0 < b) (hb : b < 32) (hc0 : 0 < c) (hc : c < 32) : PC Tryd.prog G0 76 [] [.int .u32 x, .int .i64 a, .int .i64 b, .int .i64 c] [] (.int .u32 ((rot x a ^^^ rot x b ^^^ rot x c : Nat) : Int)) := by
  refine PC.of (fn := Tryd.f76) (c := bodyOf Tryd.f76) Tryd.func76 (by kernel_rfl) (by kernel_rfl) (by kernel_rfl) (by kernel_rfl) ?_
  have c1 := pc_right32 hx ha0 ha
  have c2 := pc_right32 hx hb0 hb
  have c3 := pc_right32 hx hc0 hc
  have l1 := rot_lt (k := a) hx
  have l2 := rot_lt (k := b) hx
  have l3 := rot_lt (k := c) hx
  generalize rot x a = p at *
  generalize rot x b = q at *
  generalize rot x c = r at *
  have l4 : p ^^^ q < 4294967296 := Nat.xor_lt_two_pow (n := 32) l1 l2
  refine W.rt [(3, c9 c1), (6, c9 c2), (7, aV (U3 (↑(p ^^^ q) : Int))), (10, c9 c3), (11, aV (U3 (↑(p ^^^ q ^^^ r) : Int)))] [] [_, _, U3 (bits BinOp.xor IntKind.u32 (p:Int) (q:Int)) = U3 (↑(p ^^^ q) : Int), _, U3 (bits BinOp.xor IntKind.u32 (↑(p ^^^ q) : Int) (r:Int)) = U3 (↑(p ^^^ q ^^^ r) : Int)] (by kernel_rfl) (ac (c1) (ac (c2) (ac (cg (bxor_u32 rfl rfl (by omega) (by omega))) (ac (c3) (ao (cg (bxor_u32 rfl rfl (by omega) (by omega))))))))
theorem or_byte {n b : Nat} (hn : n < 4294967296) (hb : b < 256) : bits .or .u64 ((n : Int) * 2 ^ 8) (b : Int) = ((256 * n + b : Nat) : Int) := by
  rw [bor_u64 (a := 2 ^ 8 * n) (b := b) (by omega) rfl (by omega) (by omega), ← Nat.two_pow_add_eq_or_of_lt (i := 8) hb n]
def dsBig (l : List Int) (n i : Nat) : DS := ⟨[(0, .vec false (.iarr .u8 4 l)), (3, .int .u64 n), (7, .int .i64 4), (8, .int .i64 i)], []⟩
theorem pc_big4 {l : List Int} (hl : Bytes l) : PC Tryd.prog G0 83 [] [.vec false (.iarr .u8 4 l)] [] (.int .u64 ((word l 0 : Nat) : Int)) := by
  refine PC.of (fn := Tryd.f83) (c := bodyOf Tryd.f83) Tryd.func83 (by kernel_rfl) (by kernel_rfl) (by kernel_rfl) (by kernel_rfl) ?_
  obtain ⟨e0, h0⟩ := hl.get 0
  obtain ⟨e1, h1⟩ := hl.get 1
  obtain ⟨e2, h2⟩ := hl.get 2
  obtain ⟨e3, h3⟩ := hl.get 3
  unfold word be4
  simp only [Nat.mul_zero, Nat.zero_add]
  generalize at0 l 0 = a at *
  generalize at0 l 1 = b at *
  generalize at0 l 2 = c at *
  generalize at0 l 3 = d at *
  have o0 : bits .or .u64 0 (a : Int) = (a : Int) := by
    have := or_byte (n := 0) (b := a) (by omega) h0
    simpa using this
  have o1 := or_byte (n := a) (b := b) (by omega) h1
  have o2 := or_byte (n := 256 * a + b) (b := c) (by omega) h2
  have o3 := or_byte (n := 256 * (256 * a + b) + c) (b := d) (by omega) h3
  generalize hb : 256 * a + b = b' at *
  generalize hc : 256 * b' + c = c' at *
  generalize hd : 256 * c' + d = d' at *
  have hm : mn 4 8 = 4 := by decide
  have z : a * 16777216 + b * 65536 + c * 256 + d = d' := by omega
  rw [z]
  refine W.sg 0 [(3, aV (I6 4)), (4, aV (I6 4))] [] (dsBig l 0 0) [I6 (↑(4 : Nat) : Int) = I6 4, I6 (mn (4 : Int) (8 : Int)) = I6 4] (by kernel_rfl) (ac (cg (by omega)) (ao (cg (hm)))) ?_
  refine W.sg 0 [(1, aV (I6 0)), (3, aV (U6 0)), (4, aV (U6 0)), (8, aV (U8 (a:Int))), (9, aV (U6 (a:Int))), (10, aV (U6 (a:Int))), (12, aV (I6 1))] [] (dsBig l a 1) [I6 (↑(0 : Nat) : Int) = I6 0, U6 (↑(0 : Nat) : Int) = U6 0, U6 (IntKind.wrap .u64 ((0 : Int) * (2 : Int) ^ 8)) = U6 0, (0 : Int) ≤ (8 : Int), (0 : Int) ≤ (0 : Int), 0 < (↑(4 : Nat) : Int), U8 (List.getD l 0 (0 : Int)) = U8 (a:Int), 0 < 4, U6 (IntKind.wrap .u64 (a:Int)) = U6 (a:Int), U6 (bits BinOp.or IntKind.u64 (0 : Int) (a:Int)) = U6 (a:Int), I6 (IntKind.wrap .i64 ((↑(0 : Nat) : Int) + 1)) = I6 1] (by kernel_rfl) (ac (cg (by omega)) (ac (cg (by omega)) (ac (cg (w_u64 rfl (by omega) (by omega))) (ac (by omega) (ac (by omega) (ac (by omega) (ac (cg (e0)) (ac (by omega) (ac (cg (w_u64 rfl (by omega) (by omega))) (ac (cg (o0)) (ao (cg (w_i64 rfl (by omega) (by omega)))))))))))))) ?_
  refine W.sg 0 [(1, aV (I6 1)), (4, aV (U6 ((a:Int) * (2 : Int) ^ 8))), (8, aV (U8 (b:Int))), (9, aV (U6 (b:Int))), (10, aV (U6 (b':Int))), (12, aV (I6 2))] [] (dsBig l b' 2) [I6 (↑(1 : Nat) : Int) = I6 1, U6 (IntKind.wrap .u64 ((a:Int) * (2 : Int) ^ 8)) = U6 ((a:Int) * (2 : Int) ^ 8), (0 : Int) ≤ (8 : Int), (0 : Int) ≤ (1 : Int), 1 < (↑(4 : Nat) : Int), U8 (List.getD l 1 (0 : Int)) = U8 (b:Int), 1 < 4, U6 (IntKind.wrap .u64 (b:Int)) = U6 (b:Int), U6 (bits BinOp.or IntKind.u64 ((a:Int) * (2 : Int) ^ 8) (b:Int)) = U6 (b':Int), I6 (IntKind.wrap .i64 ((↑(1 : Nat) : Int) + 1)) = I6 2] (by kernel_rfl) (ac (cg (by omega)) (ac (cg (w_u64 rfl (by omega) (by omega))) (ac (by omega) (ac (by omega) (ac (by omega) (ac (cg (e1)) (ac (by omega) (ac (cg (w_u64 rfl (by omega) (by omega))) (ac (cg (o1)) (ao (cg (w_i64 rfl (by omega) (by omega))))))))))))) ?_
  refine W.sg 0 [(1, aV (I6 2)), (4, aV (U6 ((b':Int) * (2 : Int) ^ 8))), (8, aV (U8 (c:Int))), (9, aV (U6 (c:Int))), (10, aV (U6 (c':Int))), (12, aV (I6 3))] [] (dsBig l c' 3) [I6 (↑(2 : Nat) : Int) = I6 2, U6 (IntKind.wrap .u64 ((b':Int) * (2 : Int) ^ 8)) = U6 ((b':Int) * (2 : Int) ^ 8), (0 : Int) ≤ (8 : Int), (0 : Int) ≤ (2 : Int), 2 < (↑(4 : Nat) : Int), U8 (List.getD l 2 (0 : Int)) = U8 (c:Int), 2 < 4, U6 (IntKind.wrap .u64 (c:Int)) = U6 (c:Int), U6 (bits BinOp.or IntKind.u64 ((b':Int) * (2 : Int) ^ 8) (c:Int)) = U6 (c':Int), I6 (IntKind.wrap .i64 ((↑(2 : Nat) : Int) + 1)) = I6 3] (by kernel_rfl) (ac (cg (by omega)) (ac (cg (w_u64 rfl (by omega) (by omega))) (ac (by omega) (ac (by omega) (ac (by omega) (ac (cg (e2)) (ac (by omega) (ac (cg (w_u64 rfl (by omega) (by omega))) (ac (cg (o2)) (ao (cg (w_i64 rfl (by omega) (by omega))))))))))))) ?_
  refine W.sg 0 [(1, aV (I6 3)), (4, aV (U6 ((c':Int) * (2 : Int) ^ 8))), (8, aV (U8 (d:Int))), (9, aV (U6 (d:Int))), (10, aV (U6 (d':Int))), (12, aV (I6 4))] [] (dsBig l d' 4) [I6 (↑(3 : Nat) : Int) = I6 3, U6 (IntKind.wrap .u64 ((c':Int) * (2 : Int) ^ 8)) = U6 ((c':Int) * (2 : Int) ^ 8), (0 : Int) ≤ (8 : Int), (0 : Int) ≤ (3 : Int), 3 < (↑(4 : Nat) : Int), U8 (List.getD l 3 (0 : Int)) = U8 (d:Int), 3 < 4, U6 (IntKind.wrap .u64 (d:Int)) = U6 (d:Int), U6 (bits BinOp.or IntKind.u64 ((c':Int) * (2 : Int) ^ 8) (d:Int)) = U6 (d':Int), I6 (IntKind.wrap .i64 ((↑(3 : Nat) : Int) + 1)) = I6 4] (by kernel_rfl) (ac (cg (by omega)) (ac (cg (w_u64 rfl (by omega) (by omega))) (ac (by omega) (ac (by omega) (ac (by omega) (ac (cg (e3)) (ac (by omega) (ac (cg (w_u64 rfl (by omega) (by omega))) (ac (cg (o3)) (ao (cg (w_i64 rfl (by omega) (by omega))))))))))))) ?_
  refine W.rt [] [] [] (by kernel_rfl) trivial
end Go.Proofs
namespace Go.Pm
/-- the first i of s, the others of h -/
def mix (h s : List Int) (i : Nat) : List Int := s.take i ++ h.drop i
theorem mix_length {h s : List Int} {i n : Nat} (hh : h.length = n) (hs : s.length = n) (hi : i ≤ n) : (mix h s i).length = n := by unfold mix; simp; omega
theorem mix_all {h s : List Int} {n : Nat} (hh : h.length = n) (hs : s.length = n) : mix h s n = s := by
  unfold mix
  rw [List.take_of_length_le (by omega), List.drop_of_length_le (by omega), List.append_nil]
theorem mix_get {h s : List Int} {i n : Nat} (hs : s.length = n) (hi : i ≤ n) : (mix h s i).getD i 0 = h.getD i 0 := by
  unfold mix
  rw [List.getD_eq_getElem?_getD, List.getElem?_append_right (by simp; omega), List.length_take, Nat.min_eq_left (by omega), Nat.sub_self, List.getElem?_drop, Nat.add_zero, List.getD_eq_getElem?_getD]
theorem mix_got {h s : List Int} {i j n : Nat} (hs : s.length = n) (hi : i ≤ n) (hj : j < i) : (mix h s i).getD j 0 = s.getD j 0 := by
  unfold mix
  rw [List.getD_eq_getElem?_getD, List.getElem?_append_left (by simp; omega), List.getElem?_take_of_lt hj, List.getD_eq_getElem?_getD]
theorem mix_set {h s : List Int} {i n : Nat} (hh : h.length = n) (hs : s.length = n) (hi : i < n) : (mix h s i).set i (s.getD i 0) = mix h s (i + 1) := by
  unfold mix
  have e : h.drop i = h.getD i 0 :: h.drop (i + 1) := by
    rw [List.drop_eq_getElem_cons (by omega), List.getD_eq_getElem?_getD, List.getElem?_eq_getElem (by omega)]; rfl
  rw [e, List.set_append_right _ _ (by simp; omega), List.length_take, Nat.min_eq_left (by omega), Nat.sub_self, List.set_cons_zero, List.take_add_one, List.getElem?_eq_getElem (by omega), List.append_assoc,
    List.getD_eq_getElem?_getD, List.getElem?_eq_getElem (by omega)]
  rfl
theorem words_get {b : List Int} : ∀ {n i : Nat}, i < n → (words b n).getD i 0 = ((word b i : Nat) : Int)
  | n + 1, i, h => by
    rw [words, List.getD_eq_getElem?_getD]
    by_cases hi : i < n
    · rw [List.getElem?_append_left (by rw [words_length]; exact hi), ← List.getD_eq_getElem?_getD]; exact words_get hi
    · have : i = n := by omega
      subst this
      rw [List.getElem?_append_right (by rw [words_length]; omega), words_length]; simp
theorem sched_prefix {b : List Int} : ∀ {n k i : Nat}, i < 16 + n → (sched b (n + k)).getD i 0 = (sched b n).getD i 0
  | n, 0, i, _ => rfl
  | n, k + 1, i, h => by
    rw [← Nat.add_assoc, sched, List.getD_eq_getElem?_getD, List.getElem?_append_left (by rw [sched_length]; omega), ← List.getD_eq_getElem?_getD]
    exact sched_prefix h
theorem sched_lo {b : List Int} {i : Nat} (hi : i < 16) : (sched b 48).getD i 0 = ((word b i : Nat) : Int) := by
  rw [show 48 = 0 + 48 by rfl, sched_prefix (by omega)]
  exact words_get hi
theorem at0_sched {b : List Int} {n i : Nat} (hi : i < 16 + n) (hn : n ≤ 48) : at0 (sched b 48) i = at0 (sched b n) i := by
  unfold at0
  obtain ⟨k, hk⟩ : ∃ k, 48 = n + k := ⟨48 - n, by omega⟩
  rw [hk, sched_prefix hi]
theorem sched_hi {b : List Int} {i : Nat} (h1 : 16 ≤ i) (h2 : i < 64) : (sched b 48).getD i 0 = ((nextW (sched b 48) i : Nat) : Int) := by
  obtain ⟨n, rfl⟩ : ∃ n, i = 16 + n := ⟨i - 16, by omega⟩
  obtain ⟨k, hk⟩ : ∃ k, 48 = (n + 1) + k := ⟨47 - n, by omega⟩
  have e : (sched b 48).getD (16 + n) 0 = (sched b (n + 1)).getD (16 + n) 0 := by rw [hk, sched_prefix (by omega)]
  rw [e, sched, List.getD_eq_getElem?_getD, List.getElem?_append_right (by rw [sched_length]; omega), sched_length, Nat.sub_self]
  simp only [List.getElem?_cons_zero, Option.getD_some]
  unfold nextW
  rw [at0_sched (n := n) (i := 16 + n - 16) (by omega) (by omega), at0_sched (n := n) (i := 16 + n - 15) (by omega) (by omega), at0_sched (n := n) (i := 16 + n - 7) (by omega) (by omega), at0_sched (n := n) (i := 16 + n - 2) (by omega) (by omega)]
theorem word_sub {b : List Int} {t : Nat} : word ((b.drop (4 * t)).take 4) 0 = word b t := by
  have h : ∀ j, j < 4 → at0 ((b.drop (4 * t)).take 4) j = at0 b (4 * t + j) := fun j hj => by
    unfold at0
    rw [List.getD_eq_getElem?_getD, List.getElem?_take_of_lt hj, List.getElem?_drop, List.getD_eq_getElem?_getD]
  unfold word
  rw [h 0 (by omega), Nat.mul_zero, Nat.zero_add, Nat.zero_add, Nat.zero_add, h 1 (by omega), h 2 (by omega), h 3 (by omega), Nat.add_zero]
theorem Bytes.drop {l : List Int} (h : Bytes l) (n : Nat) : Bytes (l.drop n) := fun x hx => h x (List.mem_of_mem_drop hx)
theorem Bytes.take {l : List Int} (h : Bytes l) (n : Nat) : Bytes (l.take n) := fun x hx => h x (List.mem_of_mem_take hx)
/-- what a schedule is -/
structure SchedOf (b S : List Int) : Prop where
  len : S.length = 64
  w32 : W32 S
  lo : ∀ i, i < 16 → S.getD i 0 = ((word b i : Nat) : Int)
  hi : ∀ i, 16 ≤ i → i < 64 → S.getD i 0 = ((nextW S i : Nat) : Int)
theorem schedOf {b : List Int} (hb : Bytes b) : SchedOf b (sched b 48) := ⟨sched_length b 48, sched_W32 hb 48, fun _ h => sched_lo h, fun _ h1 h2 => sched_hi h1 h2⟩
def schedA (b : List Int) : List Int := sched b 48
theorem schedAOf {b : List Int} (hb : Bytes b) : SchedOf b (schedA b) := schedOf hb
theorem blk_eq (v : V8) (b : List Int) : blk v b = addV v (rounds kS (schedA b) 64 0 v) := rfl
end Go.Pm
namespace Go.Proofs
open Go Go.Pe Go.Pm
set_option maxRecDepth 100000
set_option linter.unusedVariables false
def z64 : List Int := List.replicate 64 0
def rowB (n : Nat) (l : List Int) : Row := ⟨.iarr .u8 n l, false⟩
def row3 (n : Nat) (l : List Int) : Row := ⟨.iarr .u32 n l, false⟩
def dsSpA (b l : List Int) (t : Nat) : DS := ⟨[(0, .at 0 []), (2, .at 1 []), (3, .at 2 []), (10, .int .i64 t)], [(0, rowB 64 b), (1, row3 64 z64), (2, row3 64 l)]⟩
def dsSpB (b l : List Int) (t : Nat) : DS := ⟨[(0, .at 0 []), (2, .at 1 []), (3, .at 2 []), (5, .int .i64 t)], [(0, rowB 64 b), (1, row3 64 z64), (2, row3 64 l)]⟩
set_option maxHeartbeats 4000000 in
theorem W_spB {b S : List Int} (hS : SchedOf b S) (hbl : b.length = 64) : ∀ (k t : Nat) (l : List Int), t + k = 64 → 16 ≤ t → l = mix z64 S t →
    W Tryd.prog G0 Tryd.f75 [0] [(0, rowB 64 b)] (.iarr .u32 64 S) (loopAt Tryd.f75 1) (dsSpB b l t)
  | 0, t, l, hk, h16, hl => by
    have e : l = S := by rw [hl, show t = 64 by omega]; exact mix_all rfl hS.len
    rw [e]
    refine W.rt [(1, aF)] [(0, 0)] [decide ((t:Int) < 64) = false] (by kernel_rfl) (ao (dF (by omega)))
  | k + 1, t, l, hk, h16, hl => by
    have hsl := hS.len
    have hll : l.length = 64 := by rw [hl]; exact mix_length rfl hsl (by omega)
    have hw := hS.w32
    have hx := hS.hi t h16 (by omega)
    obtain ⟨e16, h16'⟩ := hw.get (t - 16)
    obtain ⟨e15, h15⟩ := hw.get (t - 15)
    obtain ⟨e7, h7⟩ := hw.get (t - 7)
    obtain ⟨e2, h2⟩ := hw.get (t - 2)
    rw [← mix_got (h := z64) (i := t) hsl (by omega) (by omega), ← hl] at e16 e15 e7 e2
    have hset := mix_set (h := z64) (s := S) (i := t) (n := 64) rfl hsl (by omega)
    rw [hx, ← hl] at hset
    unfold nextW at hset
    have i16 : (t : Int) - 16 = ((t - 16 : Nat) : Int) := by omega
    have i15 : (t : Int) - 15 = ((t - 15 : Nat) : Int) := by omega
    have i7 : (t : Int) - 7 = ((t - 7 : Nat) : Int) := by omega
    have i2 : (t : Int) - 2 = ((t - 2 : Nat) : Int) := by omega
    have k16 : t - 16 < 64 := by omega
    have k15 : t - 15 < 64 := by omega
    have k7 : t - 7 < 64 := by omega
    have k2 : t - 2 < 64 := by omega
    generalize t - 16 = j16 at *
    generalize t - 15 = j15 at *
    generalize t - 7 = j7 at *
    generalize t - 2 = j2 at *
    generalize at0 S j16 = a at *
    generalize at0 S j15 = x at *
    generalize at0 S j7 = c at *
    generalize at0 S j2 = y at *
    unfold sg0 sg1 at hset
    have c1 := pc_right32 (k := 7) h15 (by omega) (by omega)
    have c2 := pc_right32 (k := 18) h15 (by omega) (by omega)
    have c3 := pc_right32 (k := 17) h2 (by omega) (by omega)
    have c4 := pc_right32 (k := 19) h2 (by omega) (by omega)
    have l1 := rot_lt (k := 7) h15
    have l2 := rot_lt (k := 18) h15
    have l3 := rot_lt (k := 17) h2
    have l4 := rot_lt (k := 19) h2
    generalize rot x 7 = r7 at *
    generalize rot x 18 = r18 at *
    generalize rot y 17 = r17 at *
    generalize rot y 19 = r19 at *
    have m1 : r7 ^^^ r18 < 4294967296 := Nat.xor_lt_two_pow (n := 32) l1 l2
    have m2 : r17 ^^^ r19 < 4294967296 := Nat.xor_lt_two_pow (n := 32) l3 l4
    have m3 : r7 ^^^ r18 ^^^ x / 8 < 4294967296 := Nat.xor_lt_two_pow (n := 32) m1 (by omega)
    have m4 : r17 ^^^ r19 ^^^ y / 1024 < 4294967296 := Nat.xor_lt_two_pow (n := 32) m2 (by omega)
    refine W.sg 1 [(1, aT), (3, aV (I6 (j15:Int))), (5, aV (U3 (x:Int))), (7, aV (I6 (j2:Int))), (9, aV (U3 (y:Int))), (13, c9 c1), (15, c9 c2), (16, aV (U3 (↑(r7 ^^^ r18) : Int))), (18, aV (U3 (↑(x / 8) : Int))), (19, aV (U3 (↑(r7 ^^^ r18 ^^^ x / 8) : Int))), (22, c9 c3), (24, c9 c4), (25, aV (U3 (↑(r17 ^^^ r19) : Int))), (27, aV (U3 (↑(y / 1024) : Int))), (28, aV (U3 (↑(r17 ^^^ r19 ^^^ y / 1024) : Int))), (32, aV (I6 (j16:Int))), (34, aV (U3 (a:Int))), (36, aV (U3 (↑((a + (r7 ^^^ r18 ^^^ x / 8)) % 4294967296) : Int))), (38, aV (I6 (j7:Int))), (40, aV (U3 (c:Int))), (41, aV (U3 (↑(((a + (r7 ^^^ r18 ^^^ x / 8)) % 4294967296 + c) % 4294967296) : Int))), (43, aV (U3 (↑((((a + (r7 ^^^ r18 ^^^ x / 8)) % 4294967296 + c) % 4294967296 + (r17 ^^^ r19 ^^^ y / 1024)) % 4294967296) : Int))), (47, aV (I6 (↑(t + 1) : Int)))] [(0, 0), (1, 1), (2, 2)] (dsSpB b (l.set t ((((((a + (r7 ^^^ r18 ^^^ x / 8)) % 4294967296 + c) % 4294967296 + (r17 ^^^ r19 ^^^ y / 1024)) % 4294967296 : Nat)) : Int)) (t + 1)) [decide ((t:Int) < 64) = true, I6 (IntKind.wrap .i64 ((t:Int) - 15)) = I6 (j15:Int), 0 ≤ (j15:Int), (j15:Int) < (↑(64 : Nat) : Int), U3 (List.getD l j15 (0 : Int)) = U3 (x:Int), j15 < 64, I6 (IntKind.wrap .i64 ((t:Int) - 2)) = I6 (j2:Int), 0 ≤ (j2:Int), (j2:Int) < (↑(64 : Nat) : Int), U3 (List.getD l j2 (0 : Int)) = U3 (y:Int), j2 < 64, _, _, U3 (bits BinOp.xor IntKind.u32 (r7:Int) (r18:Int)) = U3 (↑(r7 ^^^ r18) : Int), U3 (Int.fdiv (x:Int) ((2 : Int) ^ 3)) = U3 (↑(x / 8) : Int), (0 : Int) ≤ (3 : Int), U3 (bits BinOp.xor IntKind.u32 (↑(r7 ^^^ r18) : Int) (↑(x / 8) : Int)) = U3 (↑(r7 ^^^ r18 ^^^ x / 8) : Int), _, _, U3 (bits BinOp.xor IntKind.u32 (r17:Int) (r19:Int)) = U3 (↑(r17 ^^^ r19) : Int), U3 (Int.fdiv (y:Int) ((2 : Int) ^ 10)) = U3 (↑(y / 1024) : Int), (0 : Int) ≤ (10 : Int), U3 (bits BinOp.xor IntKind.u32 (↑(r17 ^^^ r19) : Int) (↑(y / 1024) : Int)) = U3 (↑(r17 ^^^ r19 ^^^ y / 1024) : Int), I6 (IntKind.wrap .i64 ((t:Int) - 16)) = I6 (j16:Int), 0 ≤ (j16:Int), (j16:Int) < (↑(64 : Nat) : Int), U3 (List.getD l j16 (0 : Int)) = U3 (a:Int), j16 < 64, U3 (IntKind.wrap .u32 ((a:Int) + (↑(r7 ^^^ r18 ^^^ x / 8) : Int))) = U3 (↑((a + (r7 ^^^ r18 ^^^ x / 8)) % 4294967296) : Int), I6 (IntKind.wrap .i64 ((t:Int) - 7)) = I6 (j7:Int), 0 ≤ (j7:Int), (j7:Int) < (↑(64 : Nat) : Int), U3 (List.getD l j7 (0 : Int)) = U3 (c:Int), j7 < 64, U3 (IntKind.wrap .u32 ((↑((a + (r7 ^^^ r18 ^^^ x / 8)) % 4294967296) : Int) + (c:Int))) = U3 (↑(((a + (r7 ^^^ r18 ^^^ x / 8)) % 4294967296 + c) % 4294967296) : Int), U3 (IntKind.wrap .u32 ((↑(((a + (r7 ^^^ r18 ^^^ x / 8)) % 4294967296 + c) % 4294967296) : Int) + (↑(r17 ^^^ r19 ^^^ y / 1024) : Int))) = U3 (↑((((a + (r7 ^^^ r18 ^^^ x / 8)) % 4294967296 + c) % 4294967296 + (r17 ^^^ r19 ^^^ y / 1024)) % 4294967296) : Int), 0 ≤ (t:Int), (t:Int) < (↑(64 : Nat) : Int), t < 64, I6 (IntKind.wrap .i64 ((t:Int) + 1)) = I6 (↑(t + 1) : Int)] (by kernel_rfl) (ac (dT (by omega)) (ac (cg (w_i64 i15 (by omega) (by omega))) (ac (by omega) (ac (by omega) (ac (cg (e15)) (ac (by omega) (ac (cg (w_i64 i2 (by omega) (by omega))) (ac (by omega) (ac (by omega) (ac (cg (e2)) (ac (by omega) (ac (c1) (ac (c2) (ac (cg (bxor_u32 rfl rfl (by omega) (by omega))) (ac (cg (shrm_u64 (y := 3) (s := 3) rfl rfl (by decide) (by omega))) (ac (by omega) (ac (cg (bxor_u32 rfl rfl (by omega) (by omega))) (ac (c3) (ac (c4) (ac (cg (bxor_u32 rfl rfl (by omega) (by omega))) (ac (cg (shrm_u64 (y := 10) (s := 10) rfl rfl (by decide) (by omega))) (ac (by omega) (ac (cg (bxor_u32 rfl rfl (by omega) (by omega))) (ac (cg (w_i64 i16 (by omega) (by omega))) (ac (by omega) (ac (by omega) (ac (cg (e16)) (ac (by omega) (ac (cg (wm_u32 rfl)) (ac (cg (w_i64 i7 (by omega) (by omega))) (ac (by omega) (ac (by omega) (ac (cg (e7)) (ac (by omega) (ac (cg (wm_u32 rfl)) (ac (cg (wm_u32 rfl)) (ac (by omega) (ac (by omega) (ac (by omega) (ao (cg (w_i64 rfl (by omega) (by omega))))))))))))))))))))))))))))))))))))))))))) ?_
    exact W_spB hS hbl k (t + 1) _ (by omega) (by omega) hset
set_option maxHeartbeats 4000000 in
theorem W_spA {b S : List Int} (hS : SchedOf b S) (hb : Bytes b) (hbl : b.length = 64) : ∀ (k t : Nat) (l : List Int), t + k = 16 → l = mix z64 S t →
    W Tryd.prog G0 Tryd.f75 [0] [(0, rowB 64 b)] (.iarr .u32 64 S) (loopAt Tryd.f75 0) (dsSpA b l t)
  | 0, t, l, hk, hl => by
    have ht : t = 16 := by omega
    subst ht
    refine W.sg 1 [] [(0, 0), (1, 1), (2, 2)] (dsSpB b l 16) [] (by kernel_rfl) trivial ?_
    exact W_spB hS hbl 48 16 l rfl (by omega) hl
  | k + 1, t, l, hk, hl => by
    have hsl := hS.len
    have hll : l.length = 64 := by rw [hl]; exact mix_length rfl hsl (by omega)
    have hset := mix_set (h := z64) (s := S) (i := t) (n := 64) rfl hsl (by omega)
    rw [hS.lo t (by omega), ← hl] at hset
    have hwl := word_lt hb t
    have c1 := pc_big4 (l := (drop0 b (4 * t)).take 4) (by rw [drop0_eq]; exact (hb.drop _).take _)
    rw [drop0_eq, word_sub, ← drop0_eq] at c1
    generalize word b t = w at *
    have hv : ((4 * t + 4 : Nat) : Int) - ((4 * t : Nat) : Int) = 4 := by omega
    refine W.sg 0 [(0, aT), (7, aV (I6 (↑(4 * t) : Int))), (9, aV (I6 (↑(4 * t) : Int))), (10, aV (I6 (↑(4 * t + 4) : Int))), (11, aV (PV.ref 0 [] 1 (4 * t) 4)), (12, c9 c1), (13, aV (U3 (w:Int))), (16, aV (I6 (↑(t + 1) : Int)))] [(0, 0), (1, 1), (2, 2)] (dsSpA b (l.set t (w : Int)) (t + 1)) [decide ((t:Int) < 16) = true, I6 (IntKind.wrap .i64 (4 * (t:Int))) = I6 (↑(4 * t) : Int), I6 (IntKind.wrap .i64 (4 * (t:Int))) = I6 (↑(4 * t) : Int), I6 (IntKind.wrap .i64 ((↑(4 * t) : Int) + 4)) = I6 (↑(4 * t + 4) : Int), PV.ref 0 [] 1 (Int.toNat (↑(4 * t) : Int)) (Int.toNat ((↑(4 * t + 4) : Int) - (↑(4 * t) : Int))) = PV.ref 0 [] 1 (4 * t) 4, 0 ≤ (↑(4 * t) : Int), (↑(4 * t) : Int) ≤ (↑(4 * t + 4) : Int), (↑(4 * t + 4) : Int) ≤ (↑(64 : Nat) : Int), 4 * t + 4 ≤ 64, _, U3 (IntKind.wrap .u32 (w:Int)) = U3 (w:Int), 0 ≤ (t:Int), (t:Int) < (↑(64 : Nat) : Int), t < 64, I6 (IntKind.wrap .i64 ((t:Int) + 1)) = I6 (↑(t + 1) : Int)] (by kernel_rfl) (ac (dT (by omega)) (ac (cg (w_i64 rfl (by omega) (by omega))) (ac (cg (w_i64 rfl (by omega) (by omega))) (ac (cg (w_i64 rfl (by omega) (by omega))) (ac (by rw [show Int.toNat (↑(4 * t) : Int) = 4 * t by omega, show Int.toNat ((↑(4 * t + 4) : Int) - (↑(4 * t) : Int)) = 4 by omega]) (ac (by omega) (ac (by omega) (ac (by omega) (ac (by omega) (ac (c1) (ac (cg (w_u32 rfl (by omega) (by omega))) (ac (by omega) (ac (by omega) (ac (by omega) (ao (cg (w_i64 rfl (by omega) (by omega)))))))))))))))))) ?_
    exact W_spA hS hb hbl k (t + 1) _ (by omega) hset
set_option maxHeartbeats 4000000 in
theorem pc_spread {b : List Int} (hb : Bytes b) (hbl : b.length = 64) : PC Tryd.prog G0 75 [(0, rowB 64 b)] [.at 0 []] [(0, rowB 64 b)] (.iarr .u32 64 (schedA b)) := by
  refine PC.of (fn := Tryd.f75) (c := bodyOf Tryd.f75) Tryd.func75 (by kernel_rfl) (by kernel_rfl) (by kernel_rfl) (by kernel_rfl) ?_
  refine W.sg 0 [] [(0, 0), (64, 1), (80, 2)] (dsSpA b z64 0) [] (by kernel_rfl) trivial ?_
  exact W_spA (schedAOf hb) hb hbl 16 0 _ rfl rfl
end Go.Proofs
namespace Go.Proofs
open Go Go.Pe Go.Pm
set_option maxRecDepth 100000
set_option linter.unusedVariables false
theorem not32 {e : Nat} (h : e < 4294967296) : 4294967295 ^^^ e = 4294967295 - e := by
  have h1 := BitVec.toNat_not (x := BitVec.ofNat 32 e)
  rw [← BitVec.allOnes_xor, BitVec.toNat_xor, BitVec.toNat_allOnes, BitVec.toNat_ofNat, Nat.mod_eq_of_lt (by simpa using h)] at h1
  simpa using h1
theorem compl32 {e : Nat} (h : e < 4294967296) : bits .xor .u32 (Int.ofNat (2 ^ IntKind.u32.bits - Nat.succ 0)) (e : Int) = ((4294967295 - e : Nat) : Int) := by
  show bits .xor .u32 (Int.ofNat 4294967295) (e : Int) = ((4294967295 - e : Nat) : Int)
  have := bxor_u32 (x := Int.ofNat 4294967295) (y := (e : Int)) (a := 4294967295) (b := e) rfl rfl (by omega) h
  rw [this, not32 h]
def z8 : List Int := [0, 0, 0, 0, 0, 0, 0, 0]
def dsBk (v0 S : List Int) (a b c d e f g h t : Nat) : DS := ⟨[(2, .at 1 []), (4, .at 2 []), (5, .at 3 []), (6, .at 4 []), (13, .int .i64 t)],
  [(1, row3 8 v0), (2, row3 8 z8), (3, row3 64 S), (4, row3 8 [(a : Int), (b : Int), (c : Int), (d : Int), (e : Int), (f : Int), (g : Int), (h : Int)])]⟩
def dsAd (l v : List Int) (i : Nat) : DS := ⟨[(2, .at 1 []), (4, .at 2 []), (6, .at 4 []), (85, .int .i64 i)], [(1, row3 8 l), (2, row3 8 z8), (4, row3 8 v)]⟩
theorem V8.W32 {v : V8} (h : v.Ok) : W32 v.l := fun x hx => by
  have := h.a; have := h.b; have := h.c; have := h.d; have := h.e; have := h.f; have := h.g; have := h.h
  simp only [V8.l, List.mem_cons, List.not_mem_nil, or_false] at hx
  rcases hx with rfl | rfl | rfl | rfl | rfl | rfl | rfl | rfl <;> omega
/-- place by place: the sum -/
theorem addV_get (v w : V8) {i : Nat} (hi : i < 8) : (addV v w).l.getD i 0 = (((at0 v.l i + at0 w.l i) % 4294967296 : Nat) : Int) := by
  unfold at0
  obtain rfl | rfl | rfl | rfl | rfl | rfl | rfl | rfl : i = 0 ∨ i = 1 ∨ i = 2 ∨ i = 3 ∨ i = 4 ∨ i = 5 ∨ i = 6 ∨ i = 7 := by omega
  all_goals rfl
set_option maxHeartbeats 4000000 in
theorem W_ad {v w : V8} (hv : v.Ok) (hw : w.Ok) : ∀ (k i : Nat) (l : List Int), i + k = 8 → l = mix v.l (addV v w).l i →
    W Tryd.prog G0 Tryd.f64 [] [] (.iarr .u32 8 (addV v w).l) (loopAt Tryd.f64 1) (dsAd l w.l i)
  | 0, i, l, hk, hl => by
    have e : l = (addV v w).l := by rw [hl, show i = 8 by omega]; exact mix_all rfl rfl
    rw [← e]
    refine W.rt [(0, aF)] [] [decide ((i:Int) < 8) = false] (by kernel_rfl) (ao (dF (by omega)))
  | k + 1, i, l, hk, hl => by
    have hll : l.length = 8 := by rw [hl]; exact mix_length rfl rfl (by omega)
    have hset := mix_set (h := v.l) (s := (addV v w).l) (i := i) (n := 8) rfl rfl (by omega)
    rw [addV_get v w (by omega), ← hl] at hset
    obtain ⟨e1, h1⟩ := (V8.W32 hv).get i
    obtain ⟨e2, h2⟩ := (V8.W32 hw).get i
    rw [← mix_get (h := v.l) (s := (addV v w).l) (i := i) (n := 8) rfl (by omega), ← hl] at e1
    have hadv := (W_ad hv hw k (i + 1) (l.set i (((at0 v.l i + at0 w.l i) % 4294967296 : Nat) : Int)) (by omega) hset)
    generalize at0 v.l i = x at *
    generalize at0 w.l i = y at *
    generalize w.l = wl at *
    generalize (addV v w).l = sl at *
    refine W.sg 1 [(0, aT), (5, aV (U3 (x:Int))), (8, aV (U3 (y:Int))), (9, aV (U3 (↑((x + y) % 4294967296) : Int))), (12, aV (I6 (↑(i + 1) : Int)))] [(1, 1), (2, 2), (4, 4)] (dsAd (l.set i (((x + y) % 4294967296 : Nat) : Int)) wl (i + 1)) [decide ((i:Int) < 8) = true, 0 ≤ (i:Int), (i:Int) < (↑(8 : Nat) : Int), U3 (List.getD l i (0 : Int)) = U3 (x:Int), i < 8, 0 ≤ (i:Int), (i:Int) < (↑(8 : Nat) : Int), U3 (List.getD wl i (0 : Int)) = U3 (y:Int), i < 8, U3 (IntKind.wrap .u32 ((x:Int) + (y:Int))) = U3 (↑((x + y) % 4294967296) : Int), 0 ≤ (i:Int), (i:Int) < (↑(8 : Nat) : Int), i < 8, I6 (IntKind.wrap .i64 ((i:Int) + 1)) = I6 (↑(i + 1) : Int)] (by kernel_rfl) (ac (dT (by omega)) (ac (by omega) (ac (by omega) (ac (cg (e1)) (ac (by omega) (ac (by omega) (ac (by omega) (ac (cg (e2)) (ac (by omega) (ac (cg (wm_u32 rfl)) (ac (by omega) (ac (by omega) (ac (by omega) (ao (cg (w_i64 rfl (by omega) (by omega))))))))))))))))) ?_
    exact hadv
set_option maxHeartbeats 8000000 in
theorem W_bk {v0 : V8} {S : List Int} (hv0 : v0.Ok) (hS : W32 S) (hSl : S.length = 64) : ∀ (n t a b c d e f g h : Nat), t + n = 64 → (V8.mk a b c d e f g h).Ok →
    W Tryd.prog G0 Tryd.f64 [] [] (.iarr .u32 8 (addV v0 (rounds kS S n t ⟨a, b, c, d, e, f, g, h⟩)).l) (loopAt Tryd.f64 0) (dsBk v0.l S a b c d e f g h t)
  | 0, t, a, b, c, d, e, f, g, h, hn, ho => by
    have hx := W_ad hv0 ho 8 0 v0.l rfl rfl
    rw [rounds]
    generalize (addV v0 ⟨a, b, c, d, e, f, g, h⟩).l = sl at *
    generalize hv0l : v0.l = v0l at *
    refine W.sg 1 [(0, aF)] [(1, 1), (2, 2), (4, 4)] (dsAd v0l [(a : Int), (b : Int), (c : Int), (d : Int), (e : Int), (f : Int), (g : Int), (h : Int)] 0) [decide ((t:Int) < 64) = false] (by kernel_rfl) (ao (dF (by omega))) ?_
    exact hx
  | n + 1, t, a, b, c, d, e, f, g, h, hn, ho => by
    obtain ⟨ek, hk⟩ := kS_W32.get t
    obtain ⟨ew, hw⟩ := hS.get t
    have hkl : kS.length = 64 := rfl
    have ho2 := rd_ok ho (at0 kS t) (at0 S t)
    have hx := W_bk hv0 hS hSl n (t + 1) _ _ _ _ _ _ _ _ (by omega) ho2
    have er : rounds kS S (n + 1) t ⟨a, b, c, d, e, f, g, h⟩ = rounds kS S n (t + 1) (rd ⟨a, b, c, d, e, f, g, h⟩ (at0 kS t) (at0 S t)) := rfl
    rw [er]
    have p1 := ho.a
    have p2 := ho.b
    have p3 := ho.c
    have p4 := ho.d
    have p5 := ho.e
    have p6 := ho.f
    have p7 := ho.g
    have p8 := ho.h
    dsimp only at p1 p2 p3 p4 p5 p6 p7 p8
    unfold rd rp rq bs0 bs1 chN majN at hx ⊢
    dsimp only at hx ⊢
    have c1 := pc_turned (a := 6) (b := 11) (c := 25) p5 (by omega) (by omega) (by omega) (by omega) (by omega) (by omega)
    have c2 := pc_turned (a := 2) (b := 13) (c := 22) p1 (by omega) (by omega) (by omega) (by omega) (by omega) (by omega)
    have q1 : rot e 6 ^^^ rot e 11 ^^^ rot e 25 < 4294967296 := Nat.xor_lt_two_pow (n := 32) (Nat.xor_lt_two_pow (n := 32) (rot_lt p5) (rot_lt p5)) (rot_lt p5)
    have q2 : rot a 2 ^^^ rot a 13 ^^^ rot a 22 < 4294967296 := Nat.xor_lt_two_pow (n := 32) (Nat.xor_lt_two_pow (n := 32) (rot_lt p1) (rot_lt p1)) (rot_lt p1)
    generalize rot e 6 ^^^ rot e 11 ^^^ rot e 25 = s1 at *
    generalize rot a 2 ^^^ rot a 13 ^^^ rot a 22 = s0 at *
    have r1 : e &&& f < 4294967296 := Nat.and_lt_two_pow (n := 32) _ p6
    have r2 : (4294967295 - e) &&& g < 4294967296 := Nat.and_lt_two_pow (n := 32) _ p7
    have r3 : a &&& b < 4294967296 := Nat.and_lt_two_pow (n := 32) _ p2
    have r4 : a &&& c < 4294967296 := Nat.and_lt_two_pow (n := 32) _ p3
    have r5 : b &&& c < 4294967296 := Nat.and_lt_two_pow (n := 32) _ p3
    have r6 : (e &&& f) ^^^ ((4294967295 - e) &&& g) < 4294967296 := Nat.xor_lt_two_pow (n := 32) r1 r2
    have r7 : (a &&& b) ^^^ (a &&& c) < 4294967296 := Nat.xor_lt_two_pow (n := 32) r3 r4
    have r8 : (a &&& b) ^^^ (a &&& c) ^^^ (b &&& c) < 4294967296 := Nat.xor_lt_two_pow (n := 32) r7 r5
    have hcp := compl32 p5
    have r0 : 4294967295 - e < 4294967296 := by omega
    generalize 4294967295 - e = ne at *
    generalize at0 kS t = kk at *
    generalize at0 S t = ww at *
    generalize v0.l = v0l at *
    generalize hres : (addV v0 _).l = sl at hx ⊢
    refine W.sg 0 [(0, aT), (7, c9 c1), (8, aV (U3 (↑((h + s1) % 4294967296) : Int))), (13, aV (U3 (↑(e &&& f) : Int))), (16, aV (U3 (ne:Int))), (19, aV (U3 (↑(ne &&& g) : Int))), (20, aV (U3 (↑(e &&& f ^^^ ne &&& g) : Int))), (21, aV (U3 (↑(((h + s1) % 4294967296 + (e &&& f ^^^ ne &&& g)) % 4294967296) : Int))), (24, aV (U3 (kk:Int))), (25, aV (U3 (↑((((h + s1) % 4294967296 + (e &&& f ^^^ ne &&& g)) % 4294967296 + kk) % 4294967296) : Int))), (28, aV (U3 (ww:Int))), (29, aV (U3 (↑(((((h + s1) % 4294967296 + (e &&& f ^^^ ne &&& g)) % 4294967296 + kk) % 4294967296 + ww) % 4294967296) : Int))), (33, c9 c2), (38, aV (U3 (↑(a &&& b) : Int))), (43, aV (U3 (↑(a &&& c) : Int))), (44, aV (U3 (↑(a &&& b ^^^ a &&& c) : Int))), (49, aV (U3 (↑(b &&& c) : Int))), (50, aV (U3 (↑(a &&& b ^^^ a &&& c ^^^ b &&& c) : Int))), (51, aV (U3 (↑((s0 + (a &&& b ^^^ a &&& c ^^^ b &&& c)) % 4294967296) : Int))), (55, aV (U3 (↑((((((h + s1) % 4294967296 + (e &&& f ^^^ ne &&& g)) % 4294967296 + kk) % 4294967296 + ww) % 4294967296 + (s0 + (a &&& b ^^^ a &&& c ^^^ b &&& c)) % 4294967296) % 4294967296) : Int))), (65, aV (U3 (↑((d + ((((h + s1) % 4294967296 + (e &&& f ^^^ ne &&& g)) % 4294967296 + kk) % 4294967296 + ww) % 4294967296) % 4294967296) : Int))), (74, aV (I6 (↑(t + 1) : Int)))] (rI 4) (dsBk v0l S (((((((h + s1) % 4294967296 + ((e &&& f) ^^^ (ne &&& g))) % 4294967296 + kk) % 4294967296 + ww) % 4294967296) + (s0 + ((a &&& b) ^^^ (a &&& c) ^^^ (b &&& c))) % 4294967296) % 4294967296) a b c ((d + ((((h + s1) % 4294967296 + ((e &&& f) ^^^ (ne &&& g))) % 4294967296 + kk) % 4294967296 + ww) % 4294967296) % 4294967296) e f g (t + 1)) [decide ((t:Int) < 64) = true, (0 : Int) ≤ (7 : Int), 7 < (↑(8 : Nat) : Int), 7 < 8, (0 : Int) ≤ (4 : Int), 4 < (↑(8 : Nat) : Int), 4 < 8, _, U3 (IntKind.wrap .u32 ((h:Int) + (s1:Int))) = U3 (↑((h + s1) % 4294967296) : Int), (0 : Int) ≤ (4 : Int), 4 < (↑(8 : Nat) : Int), 4 < 8, (0 : Int) ≤ (5 : Int), 5 < (↑(8 : Nat) : Int), 5 < 8, U3 (bits BinOp.and IntKind.u32 (e:Int) (f:Int)) = U3 (↑(e &&& f) : Int), (0 : Int) ≤ (4 : Int), 4 < (↑(8 : Nat) : Int), 4 < 8, U3 (bits BinOp.xor IntKind.u32 (Int.ofNat (nat_lit 2 ^ IntKind.bits IntKind.u32 - Nat.succ (nat_lit 0))) (e:Int)) = U3 (ne:Int), (0 : Int) ≤ (6 : Int), 6 < (↑(8 : Nat) : Int), 6 < 8, U3 (bits BinOp.and IntKind.u32 (ne:Int) (g:Int)) = U3 (↑(ne &&& g) : Int), U3 (bits BinOp.xor IntKind.u32 (↑(e &&& f) : Int) (↑(ne &&& g) : Int)) = U3 (↑(e &&& f ^^^ ne &&& g) : Int), U3 (IntKind.wrap .u32 ((↑((h + s1) % 4294967296) : Int) + (↑(e &&& f ^^^ ne &&& g) : Int))) = U3 (↑(((h + s1) % 4294967296 + (e &&& f ^^^ ne &&& g)) % 4294967296) : Int), 0 ≤ (t:Int), (t:Int) < (↑(64 : Nat) : Int), U3 (List.getD kS t (0 : Int)) = U3 (kk:Int), t < 64, U3 (IntKind.wrap .u32 ((↑(((h + s1) % 4294967296 + (e &&& f ^^^ ne &&& g)) % 4294967296) : Int) + (kk:Int))) = U3 (↑((((h + s1) % 4294967296 + (e &&& f ^^^ ne &&& g)) % 4294967296 + kk) % 4294967296) : Int), 0 ≤ (t:Int), (t:Int) < (↑(64 : Nat) : Int), U3 (List.getD S t (0 : Int)) = U3 (ww:Int), t < 64, U3 (IntKind.wrap .u32 ((↑((((h + s1) % 4294967296 + (e &&& f ^^^ ne &&& g)) % 4294967296 + kk) % 4294967296) : Int) + (ww:Int))) = U3 (↑(((((h + s1) % 4294967296 + (e &&& f ^^^ ne &&& g)) % 4294967296 + kk) % 4294967296 + ww) % 4294967296) : Int), (0 : Int) ≤ (0 : Int), 0 < (↑(8 : Nat) : Int), 0 < 8, _, (0 : Int) ≤ (0 : Int), 0 < (↑(8 : Nat) : Int), 0 < 8, (0 : Int) ≤ (1 : Int), 1 < (↑(8 : Nat) : Int), 1 < 8, U3 (bits BinOp.and IntKind.u32 (a:Int) (b:Int)) = U3 (↑(a &&& b) : Int), (0 : Int) ≤ (0 : Int), 0 < (↑(8 : Nat) : Int), 0 < 8, (0 : Int) ≤ (2 : Int), 2 < (↑(8 : Nat) : Int), 2 < 8, U3 (bits BinOp.and IntKind.u32 (a:Int) (c:Int)) = U3 (↑(a &&& c) : Int), U3 (bits BinOp.xor IntKind.u32 (↑(a &&& b) : Int) (↑(a &&& c) : Int)) = U3 (↑(a &&& b ^^^ a &&& c) : Int), (0 : Int) ≤ (1 : Int), 1 < (↑(8 : Nat) : Int), 1 < 8, (0 : Int) ≤ (2 : Int), 2 < (↑(8 : Nat) : Int), 2 < 8, U3 (bits BinOp.and IntKind.u32 (b:Int) (c:Int)) = U3 (↑(b &&& c) : Int), U3 (bits BinOp.xor IntKind.u32 (↑(a &&& b ^^^ a &&& c) : Int) (↑(b &&& c) : Int)) = U3 (↑(a &&& b ^^^ a &&& c ^^^ b &&& c) : Int), U3 (IntKind.wrap .u32 ((s0:Int) + (↑(a &&& b ^^^ a &&& c ^^^ b &&& c) : Int))) = U3 (↑((s0 + (a &&& b ^^^ a &&& c ^^^ b &&& c)) % 4294967296) : Int), U3 (IntKind.wrap .u32 ((↑(((((h + s1) % 4294967296 + (e &&& f ^^^ ne &&& g)) % 4294967296 + kk) % 4294967296 + ww) % 4294967296) : Int) + (↑((s0 + (a &&& b ^^^ a &&& c ^^^ b &&& c)) % 4294967296) : Int))) = U3 (↑((((((h + s1) % 4294967296 + (e &&& f ^^^ ne &&& g)) % 4294967296 + kk) % 4294967296 + ww) % 4294967296 + (s0 + (a &&& b ^^^ a &&& c ^^^ b &&& c)) % 4294967296) % 4294967296) : Int), (0 : Int) ≤ (0 : Int), 0 < (↑(8 : Nat) : Int), 0 < 8, (0 : Int) ≤ (1 : Int), 1 < (↑(8 : Nat) : Int), 1 < 8, (0 : Int) ≤ (2 : Int), 2 < (↑(8 : Nat) : Int), 2 < 8, (0 : Int) ≤ (3 : Int), 3 < (↑(8 : Nat) : Int), 3 < 8, U3 (IntKind.wrap .u32 ((d:Int) + (↑(((((h + s1) % 4294967296 + (e &&& f ^^^ ne &&& g)) % 4294967296 + kk) % 4294967296 + ww) % 4294967296) : Int))) = U3 (↑((d + ((((h + s1) % 4294967296 + (e &&& f ^^^ ne &&& g)) % 4294967296 + kk) % 4294967296 + ww) % 4294967296) % 4294967296) : Int), (0 : Int) ≤ (4 : Int), 4 < (↑(8 : Nat) : Int), 4 < 8, (0 : Int) ≤ (5 : Int), 5 < (↑(8 : Nat) : Int), 5 < 8, (0 : Int) ≤ (6 : Int), 6 < (↑(8 : Nat) : Int), 6 < 8, I6 (IntKind.wrap .i64 ((t:Int) + 1)) = I6 (↑(t + 1) : Int)] (by kernel_rfl) (ac (dT (by omega)) (ac (by omega) (ac (by omega) (ac (by omega) (ac (by omega) (ac (by omega) (ac (by omega) (ac (c1) (ac (cg (wm_u32 rfl)) (ac (by omega) (ac (by omega) (ac (by omega) (ac (by omega) (ac (by omega) (ac (by omega) (ac (cg (band_u32 rfl rfl (by omega) (by omega))) (ac (by omega) (ac (by omega) (ac (by omega) (ac (cg (hcp)) (ac (by omega) (ac (by omega) (ac (by omega) (ac (cg (band_u32 rfl rfl (by omega) (by omega))) (ac (cg (bxor_u32 rfl rfl (by omega) (by omega))) (ac (cg (wm_u32 rfl)) (ac (by omega) (ac (by omega) (ac (cg (ek)) (ac (by omega) (ac (cg (wm_u32 rfl)) (ac (by omega) (ac (by omega) (ac (cg (ew)) (ac (by omega) (ac (cg (wm_u32 rfl)) (ac (by omega) (ac (by omega) (ac (by omega) (ac (c2) (ac (by omega) (ac (by omega) (ac (by omega) (ac (by omega) (ac (by omega) (ac (by omega) (ac (cg (band_u32 rfl rfl (by omega) (by omega))) (ac (by omega) (ac (by omega) (ac (by omega) (ac (by omega) (ac (by omega) (ac (by omega) (ac (cg (band_u32 rfl rfl (by omega) (by omega))) (ac (cg (bxor_u32 rfl rfl (by omega) (by omega))) (ac (by omega) (ac (by omega) (ac (by omega) (ac (by omega) (ac (by omega) (ac (by omega) (ac (cg (band_u32 rfl rfl (by omega) (by omega))) (ac (cg (bxor_u32 rfl rfl (by omega) (by omega))) (ac (cg (wm_u32 rfl)) (ac (cg (wm_u32 rfl)) (ac (by omega) (ac (by omega) (ac (by omega) (ac (by omega) (ac (by omega) (ac (by omega) (ac (by omega) (ac (by omega) (ac (by omega) (ac (by omega) (ac (by omega) (ac (by omega) (ac (cg (wm_u32 rfl)) (ac (by omega) (ac (by omega) (ac (by omega) (ac (by omega) (ac (by omega) (ac (by omega) (ac (by omega) (ac (by omega) (ac (by omega) (ao (cg (w_i64 rfl (by omega) (by omega))))))))))))))))))))))))))))))))))))))))))))))))))))))))))))))))))))))))))))))))))))))))))) ?_
    exact hx
end Go.Proofs
namespace Go.Pm
theorem tail_length (p : List Int) : (p.drop (64 * (p.length / 64))).length = p.length % 64 := by rw [List.length_drop]; omega
theorem absS_part {p l : List Int} (v : V8) (h : p.length % 64 + l.length < 64) : absS v (p ++ l) = absS v p := by
  rw [absS_append]
  have : (p.drop (64 * (p.length / 64)) ++ l).length / 64 = 0 := by rw [List.length_append, tail_length]; omega
  unfold absS at *
  rw [this]
  rfl
theorem absS_full {p l : List Int} (v : V8) (h : p.length % 64 + l.length = 64) : absS v (p ++ l) = blk (absS v p) (p.drop (64 * (p.length / 64)) ++ l) := by
  rw [absS_append]
  have hl : (p.drop (64 * (p.length / 64)) ++ l).length = 64 := by rw [List.length_append, tail_length]; omega
  generalize p.drop (64 * (p.length / 64)) ++ l = x at *
  generalize absS v p = w
  unfold absS
  rw [hl, show 64 / 64 = 0 + 1 by rfl, absorb, absorb, List.take_of_length_le (by omega)]
/-- what a hasher holds behind a text -/
structure HasherOk (s b : List Int) (n : Nat) (p : List Int) : Prop where
  s : s = (absS iv p).l
  bl : b.length = 64
  bb : Bytes b
  hn : n = p.length
  part : b.take (n % 64) = p.drop (64 * (n / 64))
/-- x put over l from off on -/
def put (l : List Int) (off : Nat) (x : List Int) : List Int := l.take off ++ (x ++ l.drop (off + x.length))
theorem put_length {l x : List Int} {off : Nat} (h : off + x.length ≤ l.length) : (put l off x).length = l.length := by unfold put; simp; omega
theorem put_bytes {l x : List Int} {off : Nat} (hl : Bytes l) (hx : Bytes x) : Bytes (put l off x) := (hl.take _).append (hx.append (hl.drop _))
theorem hasher_part {s b p l : List Int} {n : Nat} (ho : HasherOk s b n p) (hl : Bytes l) (h : n % 64 + l.length < 64) : HasherOk s (put b (n % 64) l) (n + l.length) (p ++ l) := by
  have hn := ho.hn
  have e1 : (n + l.length) % 64 = n % 64 + l.length := by omega
  have e2 : (n + l.length) / 64 = n / 64 := by omega
  refine ⟨?_, ?_, put_bytes ho.bb hl, by rw [List.length_append, hn], ?_⟩
  · rw [absS_part _ (by rw [← hn]; exact h)]; exact ho.s
  · rw [put_length (by rw [ho.bl]; omega)]; exact ho.bl
  · rw [e1, e2, List.drop_append_of_le_length (by omega), ← ho.part]
    unfold put
    rw [← List.append_assoc, List.take_append_of_le_length (by rw [List.length_append, List.length_take, ho.bl]; omega), List.take_of_length_le (by rw [List.length_append, List.length_take, ho.bl]; omega)]
theorem hasher_full {s b p l : List Int} {n : Nat} (ho : HasherOk s b n p) (hl : Bytes l) (h : n % 64 + l.length = 64) : HasherOk (blk (absS iv p) (put b (n % 64) l)).l (put b (n % 64) l) (n + l.length) (p ++ l) := by
  have hn := ho.hn
  have e1 : (n + l.length) % 64 = 0 := by omega
  have e2 : 64 * ((n + l.length) / 64) = n + l.length := by omega
  have e3 : put b (n % 64) l = p.drop (64 * (n / 64)) ++ l := by
    unfold put
    rw [List.drop_of_length_le (by rw [ho.bl]; omega), List.append_nil, ho.part]
  refine ⟨?_, ?_, put_bytes ho.bb hl, by rw [List.length_append, hn], ?_⟩
  · rw [absS_full _ (by rw [← hn]; exact h), e3, hn]
  · rw [put_length (by rw [ho.bl]; omega)]; exact ho.bl
  · rw [e1, List.take_zero, e2, List.drop_of_length_le (by rw [List.length_append, hn]; omega)]
theorem hasher_new : HasherOk iv.l (List.replicate 64 0) 0 [] := ⟨rfl, rfl, fun x hx => by have := List.eq_of_mem_replicate hx; subst this; omega, rfl, rfl⟩
end Go.Pm
namespace Go.Proofs
open Go Go.Pe Go.Pm
set_option maxRecDepth 100000
set_option linter.unusedVariables false
set_option maxHeartbeats 4000000 in
theorem pc_block {v : V8} {b : List Int} (hv : v.Ok) (hb : Bytes b) (hbl : b.length = 64) : PC Tryd.prog G0 64 [] [.iarr .u32 8 v.l, .iarr .u8 64 b] [] (.iarr .u32 8 (blk v b).l) := by
  refine PC.of (fn := Tryd.f64) (c := bodyOf Tryd.f64) Tryd.func64 (by kernel_rfl) (by kernel_rfl) (by kernel_rfl) (by kernel_rfl) ?_
  have c1 := pc_spread hb hbl
  obtain ⟨a, b', c, d, e, f, g, h⟩ := v
  have hx := W_bk (v0 := ⟨a, b', c, d, e, f, g, h⟩) hv (schedAOf hb).w32 (schedAOf hb).len 64 0 a b' c d e f g h rfl hv
  rw [← blk_eq] at hx
  generalize (blk ⟨a, b', c, d, e, f, g, h⟩ b).l = res at *
  unfold V8.l at hx ⊢
  dsimp only at hx ⊢
  refine W.sg 0 [(3, cC true [(80, 0)] c1)] [(64, 1), (96, 2), (128, 3), (176, 4)] (dsBk [(a : Int), (b' : Int), (c : Int), (d : Int), (e : Int), (f : Int), (g : Int), (h : Int)] (schedA b) a b' c d e f g h 0) [_] (by kernel_rfl) (ao (c1)) ?_
  exact hx
theorem pc_first : PC Tryd.prog G0 63 [] [] [] (.iarr .u32 8 iv.l) := by
  refine PC.of (fn := Tryd.f63) (c := bodyOf Tryd.f63) Tryd.func63 (by kernel_rfl) (by kernel_rfl) (by kernel_rfl) (by kernel_rfl) ?_
  refine W.rt [] [] [] (by kernel_rfl) trivial
/-- a hasher -/
def hpv (s b : List Int) (n : Nat) : PV := .st 73 [.iarr .u32 8 s, .iarr .u8 64 b, .int .i64 n]
theorem pc_shaNew : PC Tryd.prog G0 47 [] [] [(1, ⟨hpv iv.l z64 0, false⟩)] (.at 1 []) := by
  refine PC.of (fn := Tryd.f47) (c := bodyOf Tryd.f47) Tryd.func47 (by kernel_rfl) (by kernel_rfl) (by kernel_rfl) (by kernel_rfl) ?_
  have c1 := pc_first
  refine W.rt [(1, c9 c1)] [(112, 1)] [_] (by kernel_rfl) (ao (c1))
theorem spl_put (l : List Int) (off : Nat) (x : List Int) : spl l off x = put l off x := rfl
def dsWr (s b : List Int) (n : Nat) (nl : Bool) (m : Nat) (l : List Int) : DS := ⟨[(0, .at 0 []), (1, .vec nl (.iarr .u8 m l))], [(0, ⟨hpv s b n, false⟩)]⟩
set_option maxHeartbeats 4000000 in
theorem W_write {q : List Int} (hq : q.length ≤ 1000000000) : ∀ (k : Nat) (s b : List Int) (n : Nat) (p : List Int) (nl : Bool) (m : Nat) (l : List Int), m ≤ k → l.length = m → Bytes l → HasherOk s b n p → p ++ l = q →
    ∃ s' b', HasherOk s' b' q.length q ∧ W Tryd.prog G0 Tryd.f48 [0] [(0, ⟨hpv s' b' q.length, false⟩)] (.tup []) (loopAt Tryd.f48 0) (dsWr s b n nl m l) := by
  intro k
  induction k with
  | zero =>
    intro s b n p nl m l hm hl hbl ho hpq
    have h0 : m = 0 := by omega
    subst h0
    have : l = [] := List.eq_nil_of_length_eq_zero hl
    subst this
    rw [List.append_nil] at hpq
    subst hpq
    have hn := ho.hn
    subst hn
    refine ⟨s, b, ho, ?_⟩
    refine W.rt [(1, aV (I6 0))] [(0, 0)] [I6 (↑(0 : Nat) : Int) = I6 0] (by kernel_rfl) (ao (cg (by omega)))
  | succ k ih =>
    intro s b n p nl m l hm hl hbl ho hpq
    by_cases h0 : m = 0
    · exact ih s b n p nl m l (by omega) hl hbl ho hpq
    · have hat : n % 64 < 64 := Nat.mod_lt _ (by omega)
      have hbl64 := ho.bl
      have hnq : n + m ≤ 1000000000 := by have := congrArg List.length hpq; rw [List.length_append, hl, ← ho.hn] at this; omega
      generalize hatt : n % 64 = t at *
      obtain ⟨j, hj⟩ : ∃ j, j = 64 - t := ⟨_, rfl⟩
      have hjI : (64 : Int) - (t : Int) = (j : Int) := by omega
      have htI : ((n % 64 : Nat) : Int) = (t : Int) := by rw [hatt]
      by_cases hfull : j ≤ m
      · have hmn : mnN m j = j := by
          unfold mnN
          by_cases e : m = j
          · rw [if_pos (by simp; omega), e]
          · rw [if_neg (by simp; omega)]
        have hmnI : ((mnN m j : Nat) : Int) = (j : Int) := by rw [hmn]
        have htl : (l.take j).length = j := by rw [List.length_take]; omega
        have hst := hasher_full ho (hbl.take j) (by rw [htl]; omega)
        rw [htl, hatt, ← spl_put] at hst
        have hw := ih _ _ _ _ nl (m - j) (l.drop j) (by omega) (by rw [List.length_drop]; omega) (hbl.drop j) hst (by rw [List.append_assoc, List.take_append_drop]; exact hpq)
        obtain ⟨s', b', h1, h2⟩ := hw
        refine ⟨s', b', h1, ?_⟩
        have hvo : (absS iv p).Ok := absorb_ok _ _ iv_ok
        have c1 := pc_block (v := absS iv p) (b := spl b t (l.take j)) hvo hst.bb hst.bl
        have hsp : spl b t (l.take j) = spl b t (l.take (mnN m j)) := by rw [hmn]
        rw [hsp] at h2 c1
        rw [← ho.s] at c1
        have hmj : (m : Int) - (j : Int) = ((m - j : Nat) : Int) := by omega
        generalize (blk (absS iv p) (spl b t (l.take (mnN m j)))).l = s2 at *
        generalize m - j = m2 at *
        have htj : ((t + j : Nat) : Int) = 64 := by omega
        have hdl : (l.drop j).length = m2 := by rw [List.length_drop]; omega
        rw [← drop0_eq] at h2 hdl
        refine W.sg 0 [(2, aT), (7, aV (I6 (t:Int))), (13, aV (PV.ref 0 [Stp.fld 1 8] 1 t j)), (15, aV (I6 (j:Int))), (22, aV (I6 (↑(n + j) : Int))), (28, aV (PV.vec nl (B8 m2 (drop0 l j)))), (32, aV (I6 64)), (43, c9 c1)] [(0, 0)] (dsWr s2 (spl b t (l.take (mnN m j))) (n + j) nl m2 (drop0 l j)) [decide ((m:Int) > 0) = true, I6 (Int.tmod (n:Int) (64 : Int)) = I6 (t:Int), (64 : Int) ≠ (0 : Int), PV.ref 0 [Stp.fld 1 8] 1 t (Int.toNat ((↑(64 : Nat) : Int) - (t:Int))) = PV.ref 0 [Stp.fld 1 8] 1 t j, 0 ≤ (t:Int), (t:Int) ≤ (↑(64 : Nat) : Int), (↑(64 : Nat) : Int) ≤ (↑(64 : Nat) : Int), I6 (↑(mnN m j) : Int) = I6 (j:Int), t + j ≤ 64, I6 (IntKind.wrap .i64 ((n:Int) + (j:Int))) = I6 (↑(n + j) : Int), PV.vec nl (B8 (Int.toNat ((m:Int) - (j:Int))) (List.take (Int.toNat ((m:Int) - (j:Int))) (drop0 l j))) = PV.vec nl (B8 m2 (drop0 l j)), 0 ≤ (j:Int), (j:Int) ≤ (m:Int), (m:Int) ≤ (m:Int), I6 (IntKind.wrap .i64 ((t:Int) + (j:Int))) = I6 64, _] (by kernel_rfl) (ac (dT (by omega)) (ac (cg (htI)) (ac (by omega) (ac (by rw [show Int.toNat ((↑(64 : Nat) : Int) - (t:Int)) = j by omega]) (ac (by omega) (ac (by omega) (ac (by omega) (ac (cg (hmnI)) (ac (by omega) (ac (cg (w_i64 rfl (by omega) (by omega))) (ac (by (rw [show Int.toNat ((m:Int) - (j:Int)) = m2 by omega]; rw [List.take_of_length_le (show List.length (drop0 l j) ≤ m2 by omega)])) (ac (by omega) (ac (by omega) (ac (by omega) (ac (cg (w_i64 htj (by omega) (by omega))) (ao (c1))))))))))))))))) ?_
        exact h2
      · have hmn : ((mnN m j : Nat) : Int) = (m : Int) := by unfold mnN; rw [if_pos (by simp; omega)]
        have hst := hasher_part ho hbl (by omega)
        rw [hl, hatt, hpq, ← spl_put] at hst
        have hw := ih s (spl b t l) (n + m) q nl 0 [] (by omega) rfl (by intro x hx; cases hx) hst (by simp)
        obtain ⟨s', b', h1, h2⟩ := hw
        refine ⟨s', b', h1, ?_⟩
        refine W.sg 0 [(2, aT), (7, aV (I6 (t:Int))), (13, aV (PV.ref 0 [Stp.fld 1 8] 1 t j)), (15, aV (I6 (m:Int))), (22, aV (I6 (↑(n + m) : Int))), (25, Ans.ups [(0, some (Row.mk (PV.st 73 [B3 8 s, B8 64 (spl b t l), I6 (↑(n + m) : Int)]) false))]), (28, aV (PV.vec nl (B8 0 (List.take 0 (drop0 l m))))), (32, aV (I6 (↑(t + m) : Int))), (33, aF)] [(0, 0)] (dsWr s (spl b t l) (n + m) nl 0 []) [decide ((m:Int) > 0) = true, I6 (Int.tmod (n:Int) (64 : Int)) = I6 (t:Int), (64 : Int) ≠ (0 : Int), PV.ref 0 [Stp.fld 1 8] 1 t (Int.toNat ((↑(64 : Nat) : Int) - (t:Int))) = PV.ref 0 [Stp.fld 1 8] 1 t j, 0 ≤ (t:Int), (t:Int) ≤ (↑(64 : Nat) : Int), (↑(64 : Nat) : Int) ≤ (↑(64 : Nat) : Int), I6 (↑(mnN m j) : Int) = I6 (m:Int), t + j ≤ 64, I6 (IntKind.wrap .i64 ((n:Int) + (m:Int))) = I6 (↑(n + m) : Int), ([(0, some (Row.mk (PV.st 73 [B3 8 s, B8 64 (spl b t (List.take (mnN m j) l)), I6 (↑(n + m) : Int)]) false))] : List (Nat × Option Row)) = [(0, some (Row.mk (PV.st 73 [B3 8 s, B8 64 (spl b t l), I6 (↑(n + m) : Int)]) false))], PV.vec nl (B8 (Int.toNat ((m:Int) - (m:Int))) (List.take (Int.toNat ((m:Int) - (m:Int))) (drop0 l m))) = PV.vec nl (B8 0 []), 0 ≤ (m:Int), (m:Int) ≤ (m:Int), (m:Int) ≤ (m:Int), I6 (IntKind.wrap .i64 ((t:Int) + (m:Int))) = I6 (↑(t + m) : Int), ((↑(t + m) : Int) == 64) = false] (by kernel_rfl) (ac (dT (by omega)) (ac (cg (htI)) (ac (by omega) (ac (by rw [show Int.toNat ((↑(64 : Nat) : Int) - (t:Int)) = j by omega]) (ac (by omega) (ac (by omega) (ac (by omega) (ac (cg (hmn)) (ac (by omega) (ac (cg (w_i64 rfl (by omega) (by omega))) (ac (by rw [List.take_of_length_le (show List.length l ≤ mnN m j by omega)]) (ac (by (simp; done)) (ac (by omega) (ac (by omega) (ac (by omega) (ac (cg (w_i64 rfl (by omega) (by omega))) (ao (dF (by omega))))))))))))))))))) ?_
        exact h2
end Go.Proofs
namespace Go.Pm
def tab (n : Nat) (f : Nat → Int) : List Int := (List.range n).map f
theorem tab_length (n : Nat) (f : Nat → Int) : (tab n f).length = n := by simp [tab]
theorem tab_getD {n i : Nat} {f : Nat → Int} (h : i < n) : (tab n f).getD i 0 = f i := by
  simp [tab, List.getD_eq_getElem?_getD, h]
theorem tab_ext {n : Nat} {f g : Nat → Int} (h : ∀ p, p < n → f p = g p) : tab n f = tab n g := List.map_congr_left fun p hp => h p (List.mem_range.1 hp)
theorem tab_set {n i : Nat} {f : Nat → Int} {v : Int} : (tab n f).set i v = tab n (fun p => if p = i then v else f p) := by
  apply List.ext_getElem (by simp [tab])
  intro j h1 h2
  simp only [tab, List.getElem_set, List.getElem_map, List.getElem_range]
  by_cases hj : i = j
  · subst hj; simp
  · rw [if_neg hj, if_neg fun e => hj e.symm]
theorem list_tab (l : List Int) : l = tab l.length fun p => l.getD p 0 := by
  apply List.ext_getElem (by simp [tab])
  intro j h1 h2
  simp [tab, List.getD_eq_getElem?_getD, h1]
theorem reverse_tab (l : List Int) : l.reverse = tab l.length fun p => l.getD (l.length - 1 - p) 0 := by
  apply List.ext_getElem (by simp [tab])
  intro j h1 h2
  simp only [List.length_reverse] at h1
  simp only [tab, List.getElem_reverse, List.getElem_map, List.getElem_range, List.getD_eq_getElem?_getD]
  rw [List.getElem?_eq_getElem (by omega)]
  rfl
theorem tab_replicate (n : Nat) (x : Int) : List.replicate n x = tab n fun _ => x := by
  apply List.ext_getElem (by simp [tab])
  intro j h1 h2
  simp [tab]
/-- the first i and the last i turned about -/
def rvl (l : List Int) (i : Nat) : List Int := tab l.length fun p => if p < i ∨ l.length - i ≤ p then l.getD (l.length - 1 - p) 0 else l.getD p 0
theorem rvl_zero (l : List Int) : rvl l 0 = l := by
  conv => rhs; rw [list_tab l]
  exact tab_ext fun p hp => by rw [if_neg (by omega)]
theorem rvl_end {l : List Int} {i : Nat} (h : l.length ≤ 2 * i + 1) (h2 : i ≤ l.length) : rvl l i = l.reverse := by
  rw [reverse_tab]
  refine tab_ext fun p hp => ?_
  by_cases hc : p < i ∨ l.length - i ≤ p
  · rw [if_pos hc]
  · rw [if_neg hc]; congr 1; omega
theorem rvl_get {l : List Int} {i p : Nat} (hp : p < l.length) (h1 : i ≤ p) (h2 : p < l.length - i) : (rvl l i).getD p 0 = l.getD p 0 := by
  unfold rvl
  rw [tab_getD hp, if_neg (by omega)]
theorem rvl_step {l : List Int} {i : Nat} (h : 2 * i + 1 < l.length) : ((rvl l i).set i (l.getD (l.length - 1 - i) 0)).set (l.length - 1 - i) (l.getD i 0) = rvl l (i + 1) := by
  unfold rvl
  rw [tab_set, tab_set]
  refine tab_ext fun p hp => ?_
  by_cases e1 : p = l.length - 1 - i
  · rw [if_pos e1, if_pos (by omega)]; congr 1; omega
  · rw [if_neg e1]
    by_cases e2 : p = i
    · rw [if_pos e2, if_pos (by omega), e2]
    · rw [if_neg e2]
      by_cases hc : p < i ∨ l.length - i ≤ p
      · rw [if_pos hc, if_pos (by omega)]
      · rw [if_neg hc, if_neg (by omega)]
/-- bytes, the lowest first -/
def le (n w : Nat) : List Int := tab w fun i => ((n / 2 ^ (8 * i) % 256 : Nat) : Int)
def leTo (n w i : Nat) : List Int := tab w fun p => if p < i then ((n / 2 ^ (8 * p) % 256 : Nat) : Int) else 0
theorem le_length (n w : Nat) : (le n w).length = w := tab_length _ _
theorem leTo_length (n w i : Nat) : (leTo n w i).length = w := tab_length _ _
theorem leTo_zero (n w : Nat) : leTo n w 0 = List.replicate w 0 := by
  rw [tab_replicate]
  exact tab_ext fun p _ => by rw [if_neg (by omega)]
theorem leTo_end (n w : Nat) : leTo n w w = le n w := tab_ext fun p hp => by rw [if_pos hp]
theorem leTo_step {n w i : Nat} : (leTo n w i).set i ((n / 2 ^ (8 * i) % 256 : Nat) : Int) = leTo n w (i + 1) := by
  unfold leTo
  rw [tab_set]
  refine tab_ext fun p _ => ?_
  by_cases e : p = i
  · rw [if_pos e, if_pos (by omega), e]
  · rw [if_neg e]
    by_cases h : p < i
    · rw [if_pos h, if_pos (by omega)]
    · rw [if_neg h, if_neg (by omega)]
theorem le_bytes (n w : Nat) : Bytes (le n w) := fun x hx => by
  simp only [le, tab, List.mem_map, List.mem_range] at hx
  obtain ⟨i, _, rfl⟩ := hx
  have : n / 2 ^ (8 * i) % 256 < 256 := Nat.mod_lt _ (by omega)
  omega
theorem le_reverse (n w : Nat) : (le n w).reverse = be n w := by
  rw [reverse_tab, le_length]
  refine tab_ext fun p hp => ?_
  unfold le
  rw [tab_getD (by omega), show (256 : Nat) ^ (w - 1 - p) = 2 ^ (8 * (w - 1 - p)) by rw [Nat.pow_mul]]
theorem bytes_part (v : V8) {i : Nat} (hi : i < 8) : (v.bytes.drop (4 * i)).take 4 = be (at0 v.l i) 4 := by
  obtain rfl | rfl | rfl | rfl | rfl | rfl | rfl | rfl : i = 0 ∨ i = 1 ∨ i = 2 ∨ i = 3 ∨ i = 4 ∨ i = 5 ∨ i = 6 ∨ i = 7 := by omega
  all_goals rfl
theorem mix_put {h s x : List Int} {i k n : Nat} (hs : s.length = n) (hk : i + k ≤ n) (hx : x = (s.drop i).take k) : put (mix h s i) i x = mix h s (i + k) := by
  have hxl : x.length = k := by rw [hx, List.length_take, List.length_drop]; omega
  unfold put mix
  rw [List.take_append_of_le_length (by simp; omega), List.take_of_length_le (by simp; omega), hxl, List.drop_append, List.drop_of_length_le (by simp; omega), List.nil_append, List.drop_drop,
    ← List.append_assoc, List.take_add, hx]
  congr 1
  simp
  congr 1
  omega
end Go.Pm
namespace Go.Proofs
open Go Go.Pe Go.Pm
set_option maxRecDepth 100000
set_option linter.unusedVariables false
def dsLit (n w i : Nat) (l : List Int) : DS := ⟨[(0, .int .u64 n), (5, .ref 1 [] 1 0 w), (12, .int .i64 w), (13, .int .i64 i)], [(1, rowB w l)]⟩
theorem W_little {n w : Nat} (hn : n < 18446744073709551616) (hw : w ≤ 8) : ∀ (k i : Nat) (l : List Int), i + k = w → l = leTo n w i →
    W Tryd.prog G0 Tryd.f50 [] [(1, rowB w (le n w))] (.ref 1 [] 1 0 w) (loopAt Tryd.f50 0) (dsLit n w i l)
  | 0, i, l, hk, hl => by
    have e : l = le n w := by rw [hl, show i = w by omega]; exact leTo_end n w
    rw [← e]
    refine W.rt [(0, aF)] (rI 1) [decide ((i:Int) < (w:Int)) = false] (by kernel_rfl) (ao (dF (by omega)))
  | k + 1, i, l, hk, hl => by
    have hll : l.length = w := by rw [hl]; exact leTo_length n w i
    have hs := leTo_step (n := n) (w := w) (i := i)
    rw [← hl] at hs
    have h1 : n / 2 ^ (8 * i) < 18446744073709551616 := Nat.lt_of_le_of_lt (Nat.div_le_self _ _) hn
    refine W.sg 0 [(0, aT), (7, aV (I6 (↑(8 * i) : Int))), (8, aV (U6 (Int.fdiv (n:Int) ((2 : Int) ^ min (8 * i) 64)))), (9, aV (U8 (↑(n / 2 ^ (8 * i) % 256) : Int))), (10, aV (PV.at 1 [Stp.idx i 1])), (12, aV (I6 (↑(i + 1) : Int)))] (rI 1) (dsLit n w (i + 1) (l.set i ((n / 2 ^ (8 * i) % 256 : Nat) : Int))) [decide ((i:Int) < (w:Int)) = true, I6 (IntKind.wrap .i64 (8 * (i:Int))) = I6 (↑(8 * i) : Int), U6 (Int.fdiv (n:Int) ((2 : Int) ^ min (Int.toNat (↑(8 * i) : Int)) 64)) = U6 (Int.fdiv (n:Int) ((2 : Int) ^ min (8 * i) 64)), 0 ≤ (↑(8 * i) : Int), U8 (IntKind.wrap .u8 (Int.fdiv (n:Int) ((2 : Int) ^ min (8 * i) 64))) = U8 (↑(n / 2 ^ (8 * i) % 256) : Int), PV.at 1 [Stp.idx (0 + i) 1] = PV.at 1 [Stp.idx i 1], 0 ≤ (i:Int), (i:Int) < (w:Int), i < w, I6 (IntKind.wrap .i64 ((i:Int) + 1)) = I6 (↑(i + 1) : Int)] (by kernel_rfl) (ac (dT (by omega)) (ac (cg (w_i64 rfl (by omega) (by omega))) (ac (cg rfl) (ac (by omega) (ac (cg (wm_u8 (shr_u64 rfl rfl (by omega)))) (ac (by simp only [Nat.zero_add]) (ac (by omega) (ac (by omega) (ac (by omega) (ao (cg (w_i64 rfl (by omega) (by omega))))))))))))) ?_
    exact W_little hn hw k (i + 1) _ (by omega) hs
theorem pc_little {n w : Nat} (hn : n < 18446744073709551616) (hw : w ≤ 8) : PC Tryd.prog G0 50 [] [.int .u64 n, .int .i64 w] [(1, rowB w (le n w))] (.ref 1 [] 1 0 w) := by
  refine PC.of (fn := Tryd.f50) (c := bodyOf Tryd.f50) Tryd.func50 (by kernel_rfl) (by kernel_rfl) (by kernel_rfl) (by kernel_rfl) ?_
  have h1 : mx (w : Int) 0 = (w : Int) := by unfold mx; split <;> omega
  have h2 : mn (w : Int) 8 = (w : Int) := by unfold mn; split <;> omega
  refine W.sg 0 [(2, aV (I6 (w:Int))), (3, aV (I6 (w:Int)))] [(128, 1)] (dsLit n w 0 (List.replicate w 0)) [I6 (mx (w:Int) (0 : Int)) = I6 (w:Int), I6 (mn (w:Int) (8 : Int)) = I6 (w:Int), 0 ≤ (w:Int), (w:Int) ≤ (w:Int), (w:Int) ≤ 9223372036854775807, (↑(1 : Nat) : Int) * (w:Int) ≤ 140737488355328] (by kernel_rfl) (ac (cg (h1)) (ac (cg (h2)) (ac (by omega) (ac (by omega) (ac (by omega) (ao (by omega))))))) ?_
  exact W_little hn hw w 0 _ (by omega) (leTo_zero n w).symm
def dsRev (n : Nat) (l : List Int) (i : Nat) (j : Int) : DS := ⟨[(0, .ref 0 [] 1 0 n), (2, .int .i64 i), (3, .int .i64 j)], [(0, rowB n l)]⟩
theorem W_reverse {n : Nat} {l : List Int} (hl : l.length = n) (hn : n ≤ 1000000000) : ∀ (k i : Nat) (m : List Int), n ≤ 2 * i + 2 * k + 1 → 2 * i ≤ n + 1 → m = rvl l i → i ≤ n →
    W Tryd.prog G0 Tryd.f77 [0] [(0, rowB n l.reverse)] (.tup []) (loopAt Tryd.f77 0) (dsRev n m i ((n : Int) - 1 - i))
  | 0, i, m, hk, hi, hm, hin => by
    have e : m = l.reverse := by rw [hm]; exact rvl_end (by omega) (by omega)
    rw [← e]
    refine W.rt [(1, aV (I6 ((n:Int) - (i:Int) - 1))), (2, aF)] [(0, 0)] [I6 ((n:Int) - 1 - (i:Int)) = I6 ((n:Int) - (i:Int) - 1), decide ((i:Int) < (n:Int) - (i:Int) - 1) = false] (by kernel_rfl) (ac (cg (by omega)) (ao (dF (by omega))))
  | k + 1, i, m, hk, hi, hm, hin => by
    by_cases h : 2 * i + 1 < n
    · have hml : m.length = n := by rw [hm]; unfold rvl; rw [tab_length, hl]
      have hs := rvl_step (l := l) (i := i) (by omega)
      have g1 := rvl_get (l := l) (i := i) (p := i) (by omega) (by omega) (by omega)
      have g2 := rvl_get (l := l) (i := i) (p := l.length - 1 - i) (by omega) (by omega) (by omega)
      rw [← g1, ← g2, ← hm, hl] at hs
      have hjI : (n : Int) - 1 - i = ((n - 1 - i : Nat) : Int) := by omega
      have hj2 : ((n - 1 - i : Nat) : Int) - 1 = (n : Int) - 1 - ((i + 1 : Nat) : Int) := by omega
      have hjl : n - 1 - i < n := by omega
      have hij : i < n - 1 - i := by omega
      have hw := W_reverse hl hn k (i + 1) _ (by omega) (by omega) hs.symm.symm (by omega)
      rw [hjI]
      rw [← hj2] at hw
      generalize n - 1 - i = j at *
      refine W.seg [(2, aT), (9, aV (PV.at 0 [Stp.idx j 1])), (13, aV (PV.at 0 [Stp.idx i 1])), (15, aV (PV.at 0 [Stp.idx i 1])), (17, aV (PV.at 0 [Stp.idx j 1])), (20, aV (I6 (↑(i + 1) : Int))), (22, aV (I6 ((n:Int) - 1 - (↑(i + 1) : Int)))), (24, aV (I6 ((n:Int) - (i:Int) - 2)))] [(0, 0)] (dsRev n ((m.set i (m.getD j 0)).set j (m.getD i 0)) (i + 1) ((j : Int) - 1)) (todo' := loopAt Tryd.f77 0) [decide ((i:Int) < (j:Int)) = true, PV.at 0 [Stp.idx (0 + j) 1] = PV.at 0 [Stp.idx j 1], 0 ≤ (j:Int), (j:Int) < (n:Int), j < n, PV.at 0 [Stp.idx (0 + i) 1] = PV.at 0 [Stp.idx i 1], 0 ≤ (i:Int), (i:Int) < (n:Int), i < n, PV.at 0 [Stp.idx (0 + i) 1] = PV.at 0 [Stp.idx i 1], 0 ≤ (i:Int), (i:Int) < (n:Int), i < n, PV.at 0 [Stp.idx (0 + j) 1] = PV.at 0 [Stp.idx j 1], 0 ≤ (j:Int), (j:Int) < (n:Int), j < n, I6 (IntKind.wrap .i64 ((i:Int) + 1)) = I6 (↑(i + 1) : Int), I6 (IntKind.wrap .i64 ((j:Int) - 1)) = I6 ((n:Int) - 1 - (↑(i + 1) : Int)), I6 ((n:Int) - 1 - (↑(i + 1) : Int)) = I6 ((n:Int) - (i:Int) - 2), rr (PV.ref 0 [] 1 0 n), rr (I6 (↑(i + 1) : Int)), I6 ((n:Int) - (i:Int) - 2) = I6 ((j:Int) - 1), rr (B8 n (List.set (List.set m i (List.getD m j (0 : Int))) j (List.getD m i (0 : Int))))] (by kernel_rfl) (ac (dT (by omega)) (ac (by simp only [Nat.zero_add]) (ac (by omega) (ac (by omega) (ac (by omega) (ac (by simp only [Nat.zero_add]) (ac (by omega) (ac (by omega) (ac (by omega) (ac (by simp only [Nat.zero_add]) (ac (by omega) (ac (by omega) (ac (by omega) (ac (by simp only [Nat.zero_add]) (ac (by omega) (ac (by omega) (ac (by omega) (ac (cg (w_i64 rfl (by omega) (by omega))) (ac (cg (w_i64 hj2 (by omega) (by omega))) (ac (cg (by omega)) (ac rfl (ac rfl (ac (cg (by omega)) (ao rfl)))))))))))))))))))))))) ?_
      exact hw
    · have e : m = l.reverse := by rw [hm]; exact rvl_end (by omega) (by omega)
      rw [← e]
      refine W.rt [(1, aV (I6 ((n:Int) - (i:Int) - 1))), (2, aF)] [(0, 0)] [I6 ((n:Int) - 1 - (i:Int)) = I6 ((n:Int) - (i:Int) - 1), decide ((i:Int) < (n:Int) - (i:Int) - 1) = false] (by kernel_rfl) (ac (cg (by omega)) (ao (dF (by omega))))
theorem pc_reverse {n : Nat} {l : List Int} (hl : l.length = n) (hn : n ≤ 1000000000) : PC Tryd.prog G0 77 [(0, rowB n l)] [.ref 0 [] 1 0 n] [(0, rowB n l.reverse)] (.tup []) := by
  refine PC.of (fn := Tryd.f77) (c := bodyOf Tryd.f77) Tryd.func77 (by kernel_rfl) (by kernel_rfl) (by kernel_rfl) (by kernel_rfl) ?_
  refine W.seg [(2, aV (I6 ((n:Int) - 1)))] [(0, 0)] (dsRev n l 0 ((n : Int) - 1 - (0 : Int))) (todo' := loopAt Tryd.f77 0) [I6 (IntKind.wrap .i64 ((n:Int) - 1)) = I6 ((n:Int) - 1), rr (PV.ref 0 [] 1 0 n), I6 0 = I6 (↑(0 : Nat) : Int), I6 ((n:Int) - 1) = I6 ((n:Int) - 1 - (↑(0 : Nat) : Int)), rr (B8 n l)] (by kernel_rfl) (ac (cg (w_i64 rfl (by omega) (by omega))) (ac rfl (ac (cg (by omega)) (ac (cg (by omega)) (ao rfl))))) ?_
  exact W_reverse hl hn n 0 l (by omega) (by omega) (rvl_zero l).symm (by omega)
theorem pc_great {n w : Nat} (hn : n < 18446744073709551616) (hw : w ≤ 8) : PC Tryd.prog G0 65 [] [.int .u64 n, .int .i64 w] [(1, rowB w (be n w))] (.ref 1 [] 1 0 w) := by
  refine PC.of (fn := Tryd.f65) (c := bodyOf Tryd.f65) Tryd.func65 (by kernel_rfl) (by kernel_rfl) (by kernel_rfl) (by kernel_rfl) ?_
  have c1 := pc_little hn hw
  have c2 := pc_reverse (le_length n w) (by omega)
  rw [le_reverse] at c2
  generalize le n w = l1 at *
  generalize be n w = l2 at *
  refine W.rt [(3, c9 c1), (6, cC true [(113, 0)] c2)] [(113, 1)] [_, _] (by kernel_rfl) (ac (c1) (ao (c2)))
theorem pc_write {s b p l : List Int} {n m : Nat} {nl : Bool} (ho : HasherOk s b n p) (hl : l.length = m) (hbl : Bytes l) (hsz : n + m ≤ 1000000000) :
    ∃ s' b', HasherOk s' b' (n + m) (p ++ l) ∧ PC Tryd.prog G0 48 [(0, ⟨hpv s b n, false⟩)] [.at 0 [], .vec nl (.iarr .u8 m l)] [(0, ⟨hpv s' b' (n + m), false⟩)] (.tup []) := by
  have hlen : (p ++ l).length = n + m := by rw [List.length_append, hl, ho.hn]
  obtain ⟨s', b', h1, h2⟩ := W_write (q := p ++ l) (by rw [hlen]; exact hsz) m s b n p nl m l (Nat.le_refl m) hl hbl ho rfl
  rw [hlen] at h1 h2
  refine ⟨s', b', h1, ?_⟩
  refine PC.of (fn := Tryd.f48) (c := bodyOf Tryd.f48) Tryd.func48 (by kernel_rfl) (by kernel_rfl) (by kernel_rfl) (by kernel_rfl) ?_
  refine W.sg 0 [] [(0, 0)] (dsWr s b n nl m l) [] (by kernel_rfl) trivial ?_
  exact h2
end Go.Proofs
namespace Go.Proofs
open Go Go.Pe Go.Pm
set_option maxRecDepth 100000
set_option linter.unusedVariables false
def y32 : List Int := List.replicate 32 0
def dsOut (s b : List Int) (n : Nat) (s' o : List Int) (i : Nat) : DS := ⟨[(2, .at 1 []), (5, .at 2 []), (33, .iarr .u32 8 s'), (34, .int .i64 i)], [(0, ⟨hpv s b n, false⟩), (1, rowB 32 y32), (2, rowB 32 o)]⟩
theorem W_out {s b : List Int} {n : Nat} {v : V8} (hv : v.Ok) : ∀ (k i : Nat) (o : List Int), i + k = 8 → o = mix y32 v.bytes (4 * i) →
    W Tryd.prog G0 Tryd.f49 [0] [(0, ⟨hpv s b n, false⟩)] (.iarr .u8 32 v.bytes) (loopAt Tryd.f49 0) (dsOut s b n v.l o i)
  | 0, i, o, hk, ho => by
    have e : o = v.bytes := by rw [ho, show 4 * i = 32 by omega]; exact mix_all rfl (V8.bytes_length v)
    rw [← e]
    generalize v.l = vl at *
    refine W.rt [(0, aF)] [(0, 0)] [decide ((i:Int) < 8) = false] (by kernel_rfl) (ao (dF (by omega)))
  | k + 1, i, o, hk, ho => by
    have hol : o.length = 32 := by rw [ho]; exact mix_length rfl (V8.bytes_length v) (by omega)
    obtain ⟨e1, h1⟩ := (V8.W32 hv).get i
    have hx := bytes_part v (i := i) (by omega)
    have hp := mix_put (h := y32) (s := v.bytes) (x := be (at0 v.l i) 4) (i := 4 * i) (k := 4) (V8.bytes_length v) (by omega) hx.symm
    rw [← ho, ← spl_put] at hp
    have hw := W_out (s := s) (b := b) (n := n) hv k (i + 1) _ (by omega) (show _ = mix y32 v.bytes (4 * (i + 1)) from hp)
    have c1 := pc_great (n := at0 v.l i) (w := 4) (by omega) (by omega)
    have hbl := be_length (at0 v.l i) 4
    have hj : (32 : Int) - ((4 * i : Nat) : Int) = ((32 - 4 * i : Nat) : Int) := by omega
    have hmn : mnN 4 (32 - 4 * i) = 4 := by unfold mnN; rw [if_pos (by simp; omega)]
    have hj1 : 4 * i + (32 - 4 * i) = 32 := by omega
    generalize 32 - 4 * i = j at *
    have hmnI : ((mnN 4 j : Nat) : Int) = (4 : Int) := by rw [hmn]; rfl
    generalize at0 v.l i = x at *
    generalize be x 4 = y at *
    generalize hvb : v.bytes = vb at *
    generalize v.l = vl at *
    refine W.seg [(0, aT), (2, aV (U3 (x:Int))), (6, aV (I6 (↑(4 * i) : Int))), (7, aV (PV.ref 2 [] 1 (4 * i) (Int.toNat ((↑(32 : Nat) : Int) - (↑(4 * i) : Int))))), (9, aV (U6 (x:Int))), (10, c9 c1), (12, aV (I6 (↑(i + 1) : Int)))] [(0, 0), (1, 1), (2, 2)] (dsOut s b n vl (spl o (4 * i) y) (i + 1)) (todo' := loopAt Tryd.f49 0) [decide ((i:Int) < 8) = true, U3 (List.getD vl i (0 : Int)) = U3 (x:Int), 0 ≤ (i:Int), (i:Int) < (↑(8 : Nat) : Int), I6 (IntKind.wrap .i64 (4 * (i:Int))) = I6 (↑(4 * i) : Int), PV.ref 2 [] 1 (Int.toNat (↑(4 * i) : Int)) (Int.toNat ((↑(32 : Nat) : Int) - (↑(4 * i) : Int))) = PV.ref 2 [] 1 (4 * i) (Int.toNat ((↑(32 : Nat) : Int) - (↑(4 * i) : Int))), 0 ≤ (↑(4 * i) : Int), (↑(4 * i) : Int) ≤ (↑(32 : Nat) : Int), (↑(32 : Nat) : Int) ≤ (↑(32 : Nat) : Int), U6 (IntKind.wrap .u64 (x:Int)) = U6 (x:Int), _, 4 ≤ 4, 4 * i + Int.toNat ((↑(32 : Nat) : Int) - (↑(4 * i) : Int)) ≤ 32, I6 (IntKind.wrap .i64 ((i:Int) + 1)) = I6 (↑(i + 1) : Int), rr (PV.at 1 []), rr (PV.at 2 []), rr (B3 8 vl), rr (I6 (↑(i + 1) : Int)), rr (PV.st 73 [B3 8 s, B8 64 b, I6 (n:Int)]), rr (B8 32 (List.replicate 32 0)), B8 32 (spl o (4 * i) (List.take (mnN 4 (Int.toNat ((↑(32 : Nat) : Int) - (↑(4 * i) : Int)))) (List.take 4 y))) = B8 32 (spl o (4 * i) y)] (by kernel_rfl) (ac (dT (by omega)) (ac (cg (e1)) (ac (by omega) (ac (by omega) (ac (cg (w_i64 rfl (by omega) (by omega))) (ac (by rw [show Int.toNat (↑(4 * i) : Int) = 4 * i by omega]) (ac (by omega) (ac (by omega) (ac (by omega) (ac (cg (w_u64 rfl (by omega) (by omega))) (ac (c1) (ac (by omega) (ac (by omega) (ac (cg (w_i64 rfl (by omega) (by omega))) (ac rfl (ac rfl (ac rfl (ac rfl (ac rfl (ac rfl (ao ?_))))))))))))))))))))) ?_
    · have e : (((32 : Nat) : Int) - ((4 * i : Nat) : Int)).toNat = j := by omega
      rw [e, hmn, List.take_take, Nat.min_self, List.take_of_length_le (by omega)]
    · exact hw
set_option maxHeartbeats 4000000 in
theorem pc_hsum {s b p : List Int} {n : Nat} (ho : HasherOk s b n p) (hn : n ≤ 500000000) : PC Tryd.prog G0 49 [(0, ⟨hpv s b n, false⟩)] [.at 0 []] [(0, ⟨hpv s b n, false⟩)] (.iarr .u8 32 (sha p)) := by
  refine PC.of (fn := Tryd.f49) (c := bodyOf Tryd.f49) Tryd.func49 (by kernel_rfl) (by kernel_rfl) (by kernel_rfl) (by kernel_rfl) ?_
  obtain ⟨a, ha⟩ : ∃ a, a = 119 - n % 64 := ⟨_, rfl⟩
  obtain ⟨m, hm⟩ : ∃ m, m = a % 64 + 1 := ⟨_, rfl⟩
  have haI : (119 : Int) - ((n % 64 : Nat) : Int) = (a : Int) := by omega
  have hmI : ((a % 64 + 1 : Nat) : Int) = (m : Int) := by omega
  have hpad : (List.replicate m 0).set 0 128 = padTo n := by
    rw [hm, List.replicate_succ, List.set_cons_zero, ha]; rfl
  have hpl : ((List.replicate m (0 : Int)).set 0 128).length = m := by simp
  have hpb : Bytes ((List.replicate m (0 : Int)).set 0 128) := by
    rw [hpad]
    intro x hx
    rcases List.mem_cons.1 hx with rfl | hx
    · omega
    · have := List.eq_of_mem_replicate hx; omega
  obtain ⟨s1, b1, ho1, c1⟩ := pc_write (nl := false) ho hpl hpb (by omega)
  have h8 : (n : Int) * 2 ^ 3 = ((n * 8 : Nat) : Int) := by omega
  have c2 := pc_great (n := n * 8) (w := 8) (by omega) (by omega)
  obtain ⟨s2, b2, ho2, c3⟩ := pc_write (nl := false) ho1 (be_length (n * 8) 8) (be_bytes _ _) (by omega)
  have hbl := be_length (n * 8) 8
  rw [hpad, ho.hn] at ho2
  have hsha : sha p = (absS iv (padded p)).bytes := rfl
  have hs2 := ho2.s
  unfold padded at hsha
  rw [hsha]
  have hw := W_out (s := s) (b := b) (n := n) (v := absS iv (p ++ padTo p.length ++ be (p.length * 8) 8)) (absorb_ok _ _ iv_ok) 8 0 y32 rfl rfl
  rw [← hs2] at hw
  generalize be (n * 8) 8 = bb at *
  generalize (absS iv (p ++ padTo p.length ++ be (p.length * 8) 8)).bytes = res at *
  refine W.sg 0 [(10, aV (I6 (↑(n % 64) : Int))), (11, aV (I6 (a:Int))), (12, aV (I6 (↑(a % 64) : Int))), (13, aV (I6 (m:Int))), (20, cL true [(128, 0)] c1), (25, aV (U6 (n:Int))), (26, aV (U6 (↑(n * 8) : Int))), (27, c9 c2), (28, cL true [(128, 0)] c3)] [(0, 0), (64, 1), (528, 2)] (dsOut s b n s2 y32 0) [I6 (Int.tmod (n:Int) (64 : Int)) = I6 (↑(n % 64) : Int), (64 : Int) ≠ (0 : Int), I6 (IntKind.wrap .i64 (119 - (↑(n % 64) : Int))) = I6 (a:Int), I6 (Int.tmod (a:Int) (64 : Int)) = I6 (↑(a % 64) : Int), (64 : Int) ≠ (0 : Int), I6 (IntKind.wrap .i64 (1 + (↑(a % 64) : Int))) = I6 (m:Int), 0 ≤ (m:Int), (m:Int) ≤ (m:Int), (m:Int) ≤ 9223372036854775807, (↑(1 : Nat) : Int) * (m:Int) ≤ 140737488355328, (0 : Int) ≤ (0 : Int), 0 < (m:Int), 0 < m, 0 + m ≤ m, rr ([(0, Row.mk (PV.st 73 [B3 8 s, B8 64 b, I6 (n:Int)]) false)] : List (Nat × Row)), ([PV.at 0 [], PV.vec false (B8 m (List.take m (List.set (List.replicate m (0 : Int)) 0 (128 : Int))))] : List PV) = [PV.at 0 [], PV.vec false (B8 m (List.set (List.replicate m (0 : Int)) 0 (128 : Int)))], _, U6 (IntKind.wrap .u64 (n:Int)) = U6 (n:Int), U6 (IntKind.wrap .u64 ((n:Int) * (2 : Int) ^ 3)) = U6 (↑(n * 8) : Int), (0 : Int) ≤ (3 : Int), _, 8 ≤ 8, rr ([(0, Row.mk (PV.st 73 [B3 8 s1, B8 64 b1, I6 (↑(n + m) : Int)]) false)] : List (Nat × Row)), ([PV.at 0 [], PV.vec false (B8 8 (List.take 8 bb))] : List PV) = [PV.at 0 [], PV.vec false (B8 8 bb)], _] (by kernel_rfl) (ac (cg rfl) (ac (by omega) (ac (cg (w_i64 haI (by omega) (by omega))) (ac (cg rfl) (ac (by omega) (ac (cg (w_i64 (by rw [← hmI]; omega) (by omega) (by omega))) (ac (by omega) (ac (by omega) (ac (by omega) (ac (by omega) (ac (by omega) (ac (by omega) (ac (by omega) (ac (by omega) (ac rfl (ac (by rw [List.take_of_length_le (show List.length (List.set (List.replicate m (0 : Int)) 0 (128 : Int)) ≤ m by omega)]) (ac (c1) (ac (cg (w_u64 rfl (by omega) (by omega))) (ac (cg (w_u64 h8 (by omega) (by omega))) (ac (by omega) (ac (c2) (ac (by omega) (ac rfl (ac (by rw [List.take_of_length_le (show List.length bb ≤ 8 by omega)]) (ao (c3)))))))))))))))))))))))))) ?_
  exact hw
/-- a slice of bytes -/
def bsPV (x : Bool × Nat × List Int) : PV := .vec x.1 (.iarr .u8 x.2.1 x.2.2)
structure BsOk (x : Bool × Nat × List Int) : Prop where
  len : x.2.2.length = x.2.1
  bytes : Bytes x.2.2
def bsh : Sh := .vec 1 (.int .u8)
def cat (l : List (Bool × Nat × List Int)) : List Int := (l.map fun x => x.2.2).flatten
theorem bs_get {l : List (Bool × Nat × List Int)} {i : Nat} (h : i < l.length) : (l.map bsPV).getD i .undef = bsPV (l.getD i default) := by
  simp [List.getD_eq_getElem?_getD, h]
theorem cat_drop {l : List (Bool × Nat × List Int)} {i : Nat} (h : i < l.length) : cat (l.drop i) = (l.getD i default).2.2 ++ cat (l.drop (i + 1)) := by
  unfold cat
  rw [List.drop_eq_getElem_cons h, List.map_cons, List.flatten_cons, List.getD_eq_getElem?_getD, List.getElem?_eq_getElem h]
  rfl
theorem bs_ok {l : List (Bool × Nat × List Int)} (ho : ∀ x ∈ l, BsOk x) {i : Nat} (hi : i < l.length) : BsOk (l.getD i default) := by
  rw [List.getD_eq_getElem?_getD, List.getElem?_eq_getElem hi]
  exact ho _ (List.getElem_mem hi)
def dsSum (nl : Bool) (c : Nat) (l : List PV) (s b : List Int) (n i : Nat) : DS := ⟨[(2, .at 1 []), (3, .at 2 []), (7, .vec nl (.parr 1 c bsh l)), (8, .int .i64 c), (9, .int .i64 i)], [(1, rowB 32 y32), (2, ⟨hpv s b n, false⟩)]⟩
theorem W_sum {nl : Bool} {l : List (Bool × Nat × List Int)} {c : Nat} {q : List Int} (hc : l.length = c) (ho : ∀ x ∈ l, BsOk x) (hq : q.length ≤ 500000000) (hcc : c ≤ 1000000) : ∀ (k i : Nat) (s b p : List Int) (n : Nat), i + k = c → HasherOk s b n p → p ++ cat (l.drop i) = q →
    W Tryd.prog G0 Tryd.f29 [] [] (.iarr .u8 32 (sha q)) (loopAt Tryd.f29 0) (dsSum nl c (l.map bsPV) s b n i)
  | 0, i, s, b, p, n, hk, hs, hpq => by
    have e : p = q := by rw [← hpq, List.drop_of_length_le (by omega)]; simp [cat]
    subst e
    have c1 := pc_hsum hs (by rw [hs.hn]; exact hq)
    generalize sha p = res at *
    refine W.rt [(0, aF), (2, cC true [(2, 0)] c1)] [] [decide ((i:Int) < (c:Int)) = false, _] (by kernel_rfl) (ac (dF (by omega)) (ao (c1)))
  | k + 1, i, s, b, p, n, hk, hs, hpq => by
    have hx := bs_ok ho (i := i) (by omega)
    have g := bs_get (l := l) (i := i) (by omega)
    rw [cat_drop (by omega), ← List.append_assoc] at hpq
    generalize l.getD i default = x at *
    obtain ⟨xn, xm, xl⟩ := x
    have hxl := hx.len
    have hxb := hx.bytes
    dsimp only at hxl hxb hpq
    have hlen := congrArg List.length hpq
    rw [List.length_append, List.length_append, ← hs.hn, hxl] at hlen
    obtain ⟨s', b', h1, c1⟩ := pc_write (nl := xn) hs hxl hxb (by omega)
    have hw := W_sum (nl := nl) hc ho hq hcc k (i + 1) s' b' _ _ (by omega) h1 hpq
    refine W.sg 0 [(0, aT), (2, aV (PV.vec xn (B8 xm xl))), (6, cC true [(2, 0)] c1), (7, aV (I6 (↑(i + 1) : Int)))] (rI 2) (dsSum nl c (l.map bsPV) s' b' (n + xm) (i + 1)) [decide ((i:Int) < (c:Int)) = true, 0 ≤ (i:Int), (i:Int) < (c:Int), PV.vec (PV.nil? (List.getD (List.map bsPV l) i PV.undef)) (B8 (PV.len (PV.els (List.getD (List.map bsPV l) i PV.undef))) (PV.nums (PV.els (List.getD (List.map bsPV l) i PV.undef)))) = PV.vec xn (B8 xm xl), i < c, _, I6 (IntKind.wrap .i64 ((i:Int) + 1)) = I6 (↑(i + 1) : Int)] (by kernel_rfl) (ac (dT (by omega)) (ac (by omega) (ac (by omega) (ac (by (rw [g]; rfl)) (ac (by omega) (ac (c1) (ao (cg (w_i64 rfl (by omega) (by omega)))))))))) ?_
    exact hw
theorem pc_sum {nl : Bool} {l : List (Bool × Nat × List Int)} {c : Nat} (hc : l.length = c) (ho : ∀ x ∈ l, BsOk x) (hq : (cat l).length ≤ 500000000) (hcc : c ≤ 1000000) : PC Tryd.prog G0 29 [] [.vec nl (.parr 1 c bsh (l.map bsPV))] [] (.iarr .u8 32 (sha (cat l))) := by
  refine PC.of (fn := Tryd.f29) (c := bodyOf Tryd.f29) Tryd.func29 (by kernel_rfl) (by kernel_rfl) (by kernel_rfl) (by kernel_rfl) ?_
  have c1 := pc_shaNew
  have hw := W_sum (nl := nl) hc ho hq hcc c 0 iv.l z64 [] 0 (by omega) hasher_new (by simp)
  generalize l.map bsPV = L at *
  generalize sha (cat l) = res at *
  refine W.sg 0 [(1, c9 c1)] [(64, 1), (81, 2)] (dsSum nl c L iv.l z64 0 0) [_] (by kernel_rfl) (ao (c1)) ?_
  exact hw
theorem pc_twice {nl : Bool} {l : List (Bool × Nat × List Int)} {c : Nat} (hc : l.length = c) (ho : ∀ x ∈ l, BsOk x) (hq : (cat l).length ≤ 500000000) (hcc : c ≤ 1000000) : PC Tryd.prog G0 19 [] [.vec nl (.parr 1 c bsh (l.map bsPV))] [] (.iarr .u8 32 (dsha (cat l))) := by
  refine PC.of (fn := Tryd.f19) (c := bodyOf Tryd.f19) Tryd.func19 (by kernel_rfl) (by kernel_rfl) (by kernel_rfl) (by kernel_rfl) ?_
  have c1 := pc_sum (nl := nl) hc ho hq hcc
  have hsl := sha_length (cat l)
  have e : cat [(false, 32, sha (cat l))] = sha (cat l) := by unfold cat; simp
  have c2 := pc_sum (nl := false) (l := [(false, 32, sha (cat l))]) (c := 1) rfl (by intro x hx; simp at hx; subst hx; exact ⟨hsl, sha_bytes _⟩) (by rw [e]; omega) (by omega)
  rw [e] at c2
  unfold dsha
  generalize sha (cat l) = x at *
  generalize sha x = res at *
  generalize l.map bsPV = L at *
  refine W.rt [(2, c9 c1), (6, Ans.frz [112]), (7, cL true [] c2)] [] [_, (0 : Int) ≤ (0 : Int), 0 ≤ (↑(32 : Nat) : Int), (↑(32 : Nat) : Int) ≤ (↑(32 : Nat) : Int), 32 ≤ 32, 1 ≤ 1, rr ([] : List (Nat × Row)), ([PV.vec false (PV.parr 1 1 (Sh.vec 1 (Sh.int IntKind.u8)) [PV.vec false (B8 32 (List.take 32 x))])] : List PV) = [PV.vec false (PV.parr 1 1 (Sh.vec 1 (Sh.int IntKind.u8)) [PV.vec false (B8 32 x)])], _] (by kernel_rfl) (ac (c1) (ac (by omega) (ac (by omega) (ac (by omega) (ac (by omega) (ac (by omega) (ac rfl (ac (by rw [List.take_of_length_le (show List.length x ≤ 32 by omega)]) (ao (c2))))))))))
end Go.Proofs
namespace Go.Proofs
open Go Go.Pe Go.Pm
set_option maxRecDepth 100000
set_option linter.unusedVariables false
theorem pc_cloneB {nl : Bool} {n : Nat} (h0 : 0 < n) (hn : n ≤ 1000000000) {l : List Int} (hl : l.length = n) : PC Tryd.prog G0 21 [] [.vec false (.iarr .u8 n l)] [(1, rowB n l)] (.ref 1 [] 1 0 n) := by
  refine PC.of (fn := Tryd.f21) (c := bodyOf Tryd.f21) Tryd.func21 (by kernel_rfl) (by kernel_rfl) (by kernel_rfl) (by kernel_rfl) ?_
  refine W.rt [(5, Ans.vu (PV.ref 144 [] 1 0 n) [(112, none), (144, some (Row.mk (B8 n l) false))])] [(144, 1)] [([(112, none), (144, some (Row.mk (B8 (0 + n) l) false))] : List (Nat × Option Row)) = [(112, none), (144, some (Row.mk (B8 n l) false))], PV.ref 144 [] 1 0 (0 + n) = PV.ref 144 [] 1 0 n, rr (0), (0 + n) * 1 ≤ 140737488355328, 0 + n ≤ 9223372036854775807] (by kernel_rfl) (ac (by simp only [Nat.zero_add]) (ac (by simp only [Nat.zero_add]) (ac rfl (ac (by omega) (ao (by omega))))))
/-- a writer -/
def wrN : Row := ⟨.st 1 [.vec true (.iarr .u8 0 [])], false⟩
def wrR (i n : Nat) : Row := ⟨.st 1 [.ref i [] 1 0 n], false⟩
theorem pc_wrNew : PC Tryd.prog G0 30 [] [] [(1, wrN)] (.at 1 []) := by
  refine PC.of (fn := Tryd.f30) (c := bodyOf Tryd.f30) Tryd.func30 (by kernel_rfl) (by kernel_rfl) (by kernel_rfl) (by kernel_rfl) ?_
  refine W.rt [] [(96, 1)] [] (by kernel_rfl) trivial
theorem pc_wrNumN {x w : Nat} (hx : x < 18446744073709551616) (hw : w ≤ 8) (hw0 : 0 < w) : PC Tryd.prog G0 31 [(0, wrN)] [.at 0 [], .int .u64 x, .int .i64 w] [(0, wrR 2 w), (2, rowB w (le x w))] (.tup []) := by
  refine PC.of (fn := Tryd.f31) (c := bodyOf Tryd.f31) Tryd.func31 (by kernel_rfl) (by kernel_rfl) (by kernel_rfl) (by kernel_rfl) ?_
  have c1 := pc_little hx hw
  have hl := le_length x w
  generalize le x w = l at *
  refine W.rt [(7, c9 c1), (8, Ans.ups [(192, some (Row.mk (B8 w l) false))])] [(0, 0), (192, 2)] [_, ([(192, some (Row.mk (B8 w (List.take w l)) false))] : List (Nat × Option Row)) = [(192, some (Row.mk (B8 w l) false))], 0 + w ≤ w, 0 < w, w * 1 ≤ 140737488355328, w ≤ 9223372036854775807] (by kernel_rfl) (ac (c1) (ac (by rw [List.take_of_length_le (show List.length l ≤ w by omega)]) (ac (by omega) (ac (by omega) (ac (by omega) (ao (by omega)))))))
theorem pc_wrNum {x w n : Nat} {l : List Int} (hx : x < 18446744073709551616) (hw : w ≤ 8) (hl : l.length = n) (hn : n ≤ 1000000000) : PC Tryd.prog G0 31 [(0, wrR 1 n), (1, rowB n l)] [.at 0 [], .int .u64 x, .int .i64 w] [(0, wrR 2 (n + w)), (2, rowB (n + w) (l ++ le x w))] (.tup []) := by
  refine PC.of (fn := Tryd.f31) (c := bodyOf Tryd.f31) Tryd.func31 (by kernel_rfl) (by kernel_rfl) (by kernel_rfl) (by kernel_rfl) ?_
  have c1 := pc_little hx hw
  have hl2 := le_length x w
  generalize le x w = m at *
  refine W.rt [(7, c9 c1), (8, Ans.ups [(1, none), (192, some (Row.mk (B8 (n + w) (l ++ m)) false))])] [(0, 0), (1, 1), (192, 2)] [_, ([(1, none), (192, some (Row.mk (B8 (n + w) (List.take n l ++ List.take w m)) false))] : List (Nat × Option Row)) = [(1, none), (192, some (Row.mk (B8 (n + w) (l ++ m)) false))], 0 + w ≤ w, 0 + n = n, (n + w) * 1 ≤ 140737488355328, n + w ≤ 9223372036854775807] (by kernel_rfl) (ac (c1) (ac (by rw [List.take_of_length_le (show List.length l ≤ n by omega), List.take_of_length_le (show List.length m ≤ w by omega)]) (ac (by omega) (ac (by omega) (ac (by omega) (ao (by omega)))))))
def dsPut0 (nl : Bool) (c : Nat) (L : List PV) (n : Nat) (b : List Int) : DS := ⟨[(0, .at 0 []), (6, .vec nl (.parr 1 c bsh L)), (7, .int .i64 c), (8, .int .i64 0)], [(0, wrR 1 n), (1, rowB n b)]⟩
def dsPut (nl : Bool) (c : Nat) (L : List PV) (n : Nat) (b : List Int) (i : Nat) : DS := ⟨[(0, .at 0 []), (6, .vec nl (.parr 1 c bsh L)), (7, .int .i64 c), (8, .int .i64 i)], [(0, wrR 2 n), (2, rowB n b)]⟩
theorem W_put {nl : Bool} {l : List (Bool × Nat × List Int)} {c : Nat} {q : List Int} (hc : l.length = c) (ho : ∀ x ∈ l, BsOk x) (hq : q.length ≤ 1000000000) (hcc : c ≤ 1000000) : ∀ (k i n : Nat) (b : List Int), i + k = c → b.length = n → b ++ cat (l.drop i) = q →
    W Tryd.prog G0 Tryd.f32 [0, 1] [(0, wrR 2 q.length), (2, rowB q.length q)] (.tup []) (loopAt Tryd.f32 0) (dsPut nl c (l.map bsPV) n b i)
  | 0, i, n, b, hk, hb, hpq => by
    have e : b = q := by rw [← hpq, List.drop_of_length_le (by omega)]; simp [cat]
    subst e
    subst hb
    refine W.rt [(0, aF)] [(0, 0), (1, 1), (2, 2)] [decide ((i:Int) < (c:Int)) = false] (by kernel_rfl) (ao (dF (by omega)))
  | k + 1, i, n, b, hk, hb, hpq => by
    have hx := bs_ok ho (i := i) (by omega)
    have g := bs_get (l := l) (i := i) (by omega)
    rw [cat_drop (by omega), ← List.append_assoc] at hpq
    generalize l.getD i default = x at *
    obtain ⟨xn, xm, xl⟩ := x
    have hxl := hx.len
    dsimp only at hxl hpq
    have hlen := congrArg List.length hpq
    rw [List.length_append, List.length_append, hb, hxl] at hlen
    have hw := W_put (nl := nl) hc ho hq hcc k (i + 1) (n + xm) (b ++ xl) (by omega) (by rw [List.length_append, hb, hxl]) hpq
    generalize l.map bsPV = L at *
    generalize q.length = ql at *
    refine W.sg 0 [(0, aT), (2, aV (PV.vec xn (B8 xm xl))), (10, Ans.ups [(2, none), (224, some (Row.mk (B8 (n + xm) (b ++ xl)) false))]), (14, aV (I6 (↑(i + 1) : Int)))] [(0, 0), (1, 1), (224, 2)] (dsPut nl c L (n + xm) (b ++ xl) (i + 1)) [decide ((i:Int) < (c:Int)) = true, 0 ≤ (i:Int), (i:Int) < (c:Int), PV.vec (PV.nil? (List.getD L i PV.undef)) (B8 (PV.len (PV.els (List.getD L i PV.undef))) (PV.nums (PV.els (List.getD L i PV.undef)))) = PV.vec xn (B8 xm xl), i < c, ([(2, none), (224, some (Row.mk (B8 (n + xm) (List.take n b ++ xl)) false))] : List (Nat × Option Row)) = [(2, none), (224, some (Row.mk (B8 (n + xm) (b ++ xl)) false))], 0 + n = n, (n + xm) * 1 ≤ 140737488355328, n + xm ≤ 9223372036854775807, I6 (IntKind.wrap .i64 ((i:Int) + 1)) = I6 (↑(i + 1) : Int)] (by kernel_rfl) (ac (dT (by omega)) (ac (by omega) (ac (by omega) (ac (by (rw [g]; rfl)) (ac (by omega) (ac (by rw [List.take_of_length_le (show List.length b ≤ n by omega)]) (ac (by omega) (ac (by omega) (ac (by omega) (ao (cg (w_i64 rfl (by omega) (by omega))))))))))))) ?_
    exact hw
theorem pc_wrPut {nl : Bool} {l : List (Bool × Nat × List Int)} {c n m : Nat} {b q : List Int} (hc : l.length = c) (hc0 : 0 < c) (ho : ∀ x ∈ l, BsOk x) (hm : m ≤ 1000000000) (hcc : c ≤ 1000000) (hb : b.length = n) (hq : b ++ cat l = q) (hql : q.length = m) :
    PC Tryd.prog G0 32 [(0, wrR 1 n), (1, rowB n b)] [.at 0 [], .vec nl (.parr 1 c bsh (l.map bsPV))] [(0, wrR 2 m), (2, rowB m q)] (.tup []) := by
  refine PC.of (fn := Tryd.f32) (c := bodyOf Tryd.f32) Tryd.func32 (by kernel_rfl) (by kernel_rfl) (by kernel_rfl) (by kernel_rfl) ?_
  have hx := bs_ok ho (i := 0) (by omega)
  have g := bs_get (l := l) (i := 0) (by omega)
  have hpq : b ++ cat (l.drop 0) = q := hq
  rw [cat_drop (by omega), ← List.append_assoc] at hpq
  generalize l.getD 0 default = x at *
  obtain ⟨xn, xm, xl⟩ := x
  have hxl := hx.len
  dsimp only at hxl hpq
  have hlen := congrArg List.length hpq
  rw [List.length_append, List.length_append, hb, hxl] at hlen
  have hw := W_put (nl := nl) hc ho (by rw [hql]; exact hm) hcc (c - 1) 1 (n + xm) (b ++ xl) (by omega) (by rw [List.length_append, hb, hxl]) hpq
  rw [hql] at hw hlen
  generalize l.map bsPV = L at *
  refine W.sg 0 [] [(0, 0), (1, 1)] (dsPut0 nl c L n b) [] (by kernel_rfl) trivial ?_
  refine W.sg 0 [(0, aT), (2, aV (PV.vec xn (B8 xm xl))), (10, Ans.ups [(1, none), (224, some (Row.mk (B8 (n + xm) (b ++ xl)) false))]), (14, aV (I6 1))] [(0, 0), (1, 1), (224, 2)] (dsPut nl c L (n + xm) (b ++ xl) 1) [decide (0 < (c:Int)) = true, (0 : Int) ≤ (0 : Int), 0 < (c:Int), PV.vec (PV.nil? (List.getD L 0 PV.undef)) (B8 (PV.len (PV.els (List.getD L 0 PV.undef))) (PV.nums (PV.els (List.getD L 0 PV.undef)))) = PV.vec xn (B8 xm xl), 0 < c, ([(1, none), (224, some (Row.mk (B8 (n + xm) (List.take n b ++ xl)) false))] : List (Nat × Option Row)) = [(1, none), (224, some (Row.mk (B8 (n + xm) (b ++ xl)) false))], 0 + n = n, (n + xm) * 1 ≤ 140737488355328, n + xm ≤ 9223372036854775807, I6 (IntKind.wrap .i64 ((0 : Int) + (1 : Int))) = I6 1] (by kernel_rfl) (ac (dT (by omega)) (ac (by omega) (ac (by omega) (ac (by (rw [g]; rfl)) (ac (by omega) (ac (by rw [List.take_of_length_le (show List.length b ≤ n by omega)]) (ac (by omega) (ac (by omega) (ac (by omega) (ao (cg (w_i64 rfl (by omega) (by omega))))))))))))) ?_
  exact hw
theorem pc_wrBytes {n : Nat} {l : List Int} (h0 : 0 < n) (hn : n ≤ 1000000000) (hl : l.length = n) : PC Tryd.prog G0 33 [(0, wrR 1 n), (1, rowB n l)] [.at 0 []] [(0, wrR 1 n), (1, rowB n l), (2, rowB n l)] (.ref 2 [] 1 0 n) := by
  refine PC.of (fn := Tryd.f33) (c := bodyOf Tryd.f33) Tryd.func33 (by kernel_rfl) (by kernel_rfl) (by kernel_rfl) (by kernel_rfl) ?_
  have c1 := pc_cloneB (nl := false) h0 hn hl
  refine W.rt [(5, cL true [] c1)] [(0, 0), (1, 1), (145, 2)] [0 + n ≤ n, rr ([] : List (Nat × Row)), ([PV.vec false (B8 n (List.take n l))] : List PV) = [PV.vec false (B8 n l)], _] (by kernel_rfl) (ac (by omega) (ac rfl (ac (by rw [List.take_of_length_le (show List.length l ≤ n by omega)]) (ao (c1)))))
end Go.Proofs
namespace Go.Proofs
open Go Go.Pe Go.Pm
set_option maxRecDepth 100000
set_option linter.unusedVariables false
theorem strOf_size (l : List Int) : (strOf l).size = l.length := by show (l.map _).length = _; rw [List.length_map]
end Go.Proofs
namespace Go.Pm
/-- the number of the first k bytes -/
def lv (l : List Int) : Nat → Nat
  | 0 => 0
  | k + 1 => lv l k + at0 l k * 2 ^ (8 * k)
theorem pow8 (k : Nat) : 2 ^ (8 * (k + 1)) = 256 * 2 ^ (8 * k) := by rw [Nat.mul_add, Nat.pow_add, Nat.mul_comm]
theorem lv_lt {l : List Int} (h : Bytes l) : ∀ k, lv l k < 2 ^ (8 * k)
  | 0 => by simp [lv]
  | k + 1 => by
    have h1 := lv_lt h k
    have h2 := (h.get k).2
    have h3 : at0 l k * 2 ^ (8 * k) ≤ 255 * 2 ^ (8 * k) := Nat.mul_le_mul_right _ (by omega)
    rw [lv, pow8]
    omega
theorem lv_or {l : List Int} (h : Bytes l) (k : Nat) : lv l k ||| at0 l k * 2 ^ (8 * k) = lv l (k + 1) := by
  have h1 := lv_lt h k
  rw [lv, Nat.or_comm, Nat.mul_comm (at0 l k), ← Nat.two_pow_add_eq_or_of_lt h1, Nat.add_comm]
theorem at0_take {l : List Int} {a i : Nat} (h : i < a) : at0 (l.take a) i = at0 l i := by
  unfold at0
  rw [List.getD_eq_getElem?_getD, List.getElem?_take_of_lt h, List.getD_eq_getElem?_getD]
theorem lv_take {l : List Int} {a : Nat} : ∀ {k : Nat}, k ≤ a → lv (l.take a) k = lv l k
  | 0, _ => rfl
  | k + 1, h => by rw [lv, lv, lv_take (by omega), at0_take (by omega)]
end Go.Pm
namespace Go.Proofs
open Go Go.Pe Go.Pm
set_option maxRecDepth 100000
set_option linter.unusedVariables false
def dsNum8 (nl : Bool) (n c : Nat) (l : List Int) (x i : Nat) : DS := ⟨[(0, .vec nl (.iarr .u8 n l)), (3, .int .u64 x), (7, .int .i64 c), (8, .int .i64 i)], []⟩
theorem W_num8 {nl : Bool} {n c : Nat} {l : List Int} (hl : l.length = n) (hb : Bytes l) (hc : c ≤ 8) (hcn : c ≤ n) : ∀ (k i x : Nat), i + k = c → x = lv l i →
    W Tryd.prog G0 Tryd.f57 [] [] (.int .u64 ((lv l c : Nat) : Int)) (loopAt Tryd.f57 0) (dsNum8 nl n c l x i)
  | 0, i, x, hk, hx => by
    have hi : i = c := by omega
    subst hi
    rw [← hx]
    refine W.rt [(0, aF)] [] [decide ((i:Int) < (i:Int)) = false] (by kernel_rfl) (ao (dF (by omega)))
  | k + 1, i, x, hk, hx => by
    obtain ⟨e, h1⟩ := hb.get i
    have ho := lv_or hb i
    have hlt := lv_lt hb (i + 1)
    have hle : 2 ^ (8 * (i + 1)) ≤ 2 ^ 64 := Nat.pow_le_pow_right (by omega) (by omega)
    have hxl : lv l (i + 1) < 18446744073709551616 := Nat.lt_of_lt_of_le hlt hle
    have hstep : lv l (i + 1) = lv l i + at0 l i * 2 ^ (8 * i) := rfl
    rw [← hx] at ho hstep
    have hmod : at0 l i * 2 ^ (8 * i) % 18446744073709551616 = at0 l i * 2 ^ (8 * i) := Nat.mod_eq_of_lt (by omega)
    have hw := W_num8 (nl := nl) hl hb hc hcn k (i + 1) (lv l (i + 1)) (by omega) rfl
    have hxlt : x < 18446744073709551616 := by omega
    have hmodl : at0 l i * 2 ^ (8 * i) % 18446744073709551616 < 18446744073709551616 := Nat.mod_lt _ (by decide)
    have hor : ((x ||| at0 l i * 2 ^ (8 * i) % 18446744073709551616 : Nat) : Int) = ((lv l (i + 1) : Nat) : Int) := by rw [hmod, ho]
    generalize lv l (i + 1) = y at *
    generalize lv l c = z at *
    generalize at0 l i = b at *
    refine W.sg 0 [(0, aT), (7, aV (U8 (b:Int))), (8, aV (U6 (b:Int))), (10, aV (I6 (↑(8 * i) : Int))), (11, aV (U6 (↑(b * 2 ^ (8 * i) % 18446744073709551616) : Int))), (12, aV (U6 (↑(x ||| b * 2 ^ (8 * i) % 18446744073709551616) : Int))), (13, aV (U6 (y:Int))), (14, aV (I6 (↑(i + 1) : Int)))] [] (dsNum8 nl n c l y (i + 1)) [decide ((i:Int) < (c:Int)) = true, 0 ≤ (i:Int), (i:Int) < (n:Int), U8 (List.getD l i (0 : Int)) = U8 (b:Int), i < n, U6 (IntKind.wrap .u64 (b:Int)) = U6 (b:Int), I6 (IntKind.wrap .i64 (8 * (i:Int))) = I6 (↑(8 * i) : Int), U6 (IntKind.wrap .u64 ((b:Int) * (2 : Int) ^ min (Int.toNat (↑(8 * i) : Int)) 64)) = U6 (↑(b * 2 ^ (8 * i) % 18446744073709551616) : Int), 0 ≤ (↑(8 * i) : Int), U6 (bits BinOp.or IntKind.u64 (x:Int) (↑(b * 2 ^ (8 * i) % 18446744073709551616) : Int)) = U6 (↑(x ||| b * 2 ^ (8 * i) % 18446744073709551616) : Int), U6 (↑(x ||| b * 2 ^ (8 * i) % 18446744073709551616) : Int) = U6 (y:Int), I6 (IntKind.wrap .i64 ((i:Int) + 1)) = I6 (↑(i + 1) : Int)] (by kernel_rfl) (ac (dT (by omega)) (ac (by omega) (ac (by omega) (ac (cg (e)) (ac (by omega) (ac (cg (w_u64 rfl (by omega) (by omega))) (ac (cg (w_i64 rfl (by omega) (by omega))) (ac (cg (shl_u64 rfl rfl)) (ac (by omega) (ac (cg (bor_u64 rfl rfl (by omega) (by omega))) (ac (cg (hor)) (ao (cg (w_i64 rfl (by omega) (by omega))))))))))))))) ?_
    exact hw
theorem pc_num8 {nl : Bool} {n : Nat} {l : List Int} (hl : l.length = n) (hb : Bytes l) : PC Tryd.prog G0 57 [] [.vec nl (.iarr .u8 n l)] [] (.int .u64 ((lv l (min n 8) : Nat) : Int)) := by
  refine PC.of (fn := Tryd.f57) (c := bodyOf Tryd.f57) Tryd.func57 (by kernel_rfl) (by kernel_rfl) (by kernel_rfl) (by kernel_rfl) ?_
  have hm : mn (n : Int) 8 = ((min n 8 : Nat) : Int) := by unfold mn; split <;> omega
  have hw := W_num8 (nl := nl) hl hb (c := min n 8) (by omega) (by omega) (min n 8) 0 0 (by omega) rfl
  generalize lv l (min n 8) = z at *
  generalize min n 8 = c at *
  refine W.sg 0 [(4, aV (I6 (c:Int)))] [] (dsNum8 nl n c l 0 0) [I6 (mn (n:Int) (8 : Int)) = I6 (c:Int)] (by kernel_rfl) (ao (cg (hm))) ?_
  exact hw
end Go.Proofs
namespace Go.Pm
/-- what is left; the first error's number -/
structure Rd where
  s : List Int
  e : Nat
/-- r behind taking n bytes -/
def Rd.tk (r : Rd) (n : Nat) : Rd := if r.e = 0 then (if n ≤ r.s.length then ⟨r.s.drop n, 0⟩ else ⟨r.s, 2⟩) else r
/-- the number -/
def Rd.nv (r : Rd) (n : Nat) : Nat := if r.e = 0 ∧ n ≤ r.s.length then lv r.s n else 0
/-- how many bytes follow a count's first one; the least such count -/
def wdt (x : Nat) : Nat := if x = 253 then 2 else if x = 254 then 4 else if x = 255 then 8 else 0
def lst (x : Nat) : Nat := if x = 253 then 253 else if x = 254 then 65536 else if x = 255 then 4294967296 else 0
/-- a count as it stands -/
def vraw (s : List Int) : Nat := if wdt (at0 s 0) = 0 then at0 s 0 else lv (s.drop 1) (wdt (at0 s 0))
/-- r behind a count of at most m: the error, or that it is there -/
def Rd.ve (r : Rd) (m : Nat) : Nat := if r.e = 0 then (if r.s.length < 1 + wdt (at0 r.s 0) then 2 else if vraw r.s < lst (at0 r.s 0) then 3 else if m < vraw r.s then 4 else 0) else r.e
def Rd.var (r : Rd) (m : Nat) : Rd := if r.ve m = 0 then ⟨r.s.drop (1 + wdt (at0 r.s 0)), 0⟩ else ⟨r.s, r.ve m⟩
def Rd.vn (r : Rd) (m : Nat) : Nat := if r.ve m = 0 then vraw r.s else 0
/-- r behind a text of at most m bytes -/
def Rd.we (r : Rd) (m : Nat) : Nat := if r.ve m = 0 then (if r.vn m ≤ (r.var m).s.length then 0 else 2) else r.ve m
def Rd.wd (r : Rd) (m : Nat) : Rd := if r.we m = 0 then ⟨(r.var m).s.drop (r.vn m), 0⟩ else ⟨r.s, r.we m⟩
def Rd.wv (r : Rd) (m : Nat) : List Int := if r.we m = 0 then (r.var m).s.take (r.vn m) else []
/-- bs's end -/
structure Rd.In (r : Rd) (bs : List Int) (N : Nat) : Prop where
  len : bs.length = N
  le : r.s.length ≤ N
  eq : r.s = bs.drop (N - r.s.length)
  by' : Bytes bs
theorem drop_in {bs s : List Int} {N n : Nat} (h : s = bs.drop (N - s.length)) (hle : s.length ≤ N) (hn : n ≤ s.length) : s.drop n = bs.drop (N - (s.drop n).length) := by
  rw [List.length_drop]
  conv => lhs; rw [h]
  rw [List.drop_drop]
  congr 1
  omega
theorem Rd.In.drop {r : Rd} {bs : List Int} {N n e : Nat} (h : r.In bs N) (hn : n ≤ r.s.length) : (Rd.mk (r.s.drop n) e).In bs N :=
  ⟨h.len, by simp only [List.length_drop]; have := h.le; omega, drop_in h.eq h.le hn, h.by'⟩
theorem Rd.In.err {r : Rd} {bs : List Int} {N e : Nat} (h : r.In bs N) : (Rd.mk r.s e).In bs N := ⟨h.len, h.le, h.eq, h.by'⟩
theorem Rd.In.tk {r : Rd} {bs : List Int} {N : Nat} (h : r.In bs N) (n : Nat) : (r.tk n).In bs N := by
  unfold Rd.tk
  split
  · split
    · rename_i hn; exact h.drop hn
    · exact h.err
  · exact h
theorem Rd.In.bytes {r : Rd} {bs : List Int} {N : Nat} (h : r.In bs N) : Bytes r.s := by rw [h.eq]; exact h.by'.drop _
theorem Rd.ve_len {r : Rd} {m : Nat} (h : r.ve m = 0) : 1 + wdt (at0 r.s 0) ≤ r.s.length := by
  unfold Rd.ve at h
  split at h
  · split at h
    · cases h
    · omega
  · rename_i hne; exact absurd h hne
theorem Rd.In.var {r : Rd} {bs : List Int} {N : Nat} (h : r.In bs N) (m : Nat) : (r.var m).In bs N := by
  unfold Rd.var
  split
  · rename_i hv; exact h.drop (Rd.ve_len hv)
  · exact h.err
theorem Rd.In.wd {r : Rd} {bs : List Int} {N : Nat} (h : r.In bs N) (m : Nat) : (r.wd m).In bs N := by
  unfold Rd.wd
  split
  · rename_i hw
    refine (h.var m).drop ?_
    unfold Rd.we at hw
    split at hw
    · split at hw
      · assumption
      · cases hw
    · rename_i hne; exact absurd hw hne
  · exact h.err
theorem wdt_le (x : Nat) : wdt x ≤ 8 := by
  unfold wdt
  split; · omega
  split; · omega
  split <;> omega
theorem at0_lt {l : List Int} (h : Bytes l) (i : Nat) : at0 l i < 256 := by
  unfold at0
  rw [List.getD_eq_getElem?_getD]
  cases hx : l[i]? with
  | none => simp
  | some x =>
    have := h x (List.mem_of_getElem? hx)
    simp only [Option.getD_some]
    omega
theorem vraw_lt {s : List Int} (h : Bytes s) : vraw s < 18446744073709551616 := by
  unfold vraw
  have h1 := at0_lt h 0
  have h2 := lv_lt (h.drop 1) (wdt (at0 s 0))
  have h3 := wdt_le (at0 s 0)
  split
  · omega
  · exact Nat.lt_of_lt_of_le h2 (Nat.le_trans (Nat.pow_le_pow_right (by omega) (show 8 * wdt (at0 s 0) ≤ 64 by omega)) (by decide))
theorem Rd.vn_le (r : Rd) (m : Nat) : r.vn m ≤ m := by
  unfold Rd.vn
  split
  · rename_i h
    unfold Rd.ve at h
    split at h
    · split at h
      · cases h
      · split at h
        · cases h
        · split at h
          · cases h
          · omega
    · rename_i hne; exact absurd h hne
  · exact Nat.zero_le _
/-- a transaction of bytes: outputs one by one -/
structure OutM where
  v : Nat
  nl : Bool
  b : List Int
def outR (r : Rd) : Rd := (r.tk 8).wd 64
def outM (r : Rd) : OutM := ⟨r.nv 8, if ((r.tk 8).we 64) = 0 then false else true, (r.tk 8).wv 64⟩
def outsR : Nat → Rd → Rd
  | 0, r => r
  | n + 1, r => outsR n (outR r)
def outsM : Nat → Rd → List OutM
  | 0, _ => []
  | n + 1, r => outM r :: outsM n (outR r)
/-- the salt's, the count's, the end's -/
def txR1 (b : List Int) : Rd := (Rd.mk b 0).tk 1
def txR2 (b : List Int) : Rd := (txR1 b).tk 8
def txR3 (b : List Int) : Rd := (txR2 b).var 8
def txN (b : List Int) : Nat := (txR2 b).vn 8
def txR4 (b : List Int) : Rd := outsR (txN b) (txR3 b)
def txFirst (b : List Int) : Prop := b.length = 64 ∨ ((txR1 b).e = 0 ∧ (Rd.mk b 0).nv 1 ≠ 1)
instance (b : List Int) : Decidable (txFirst b) := by unfold txFirst; infer_instance
/-- what is wrong with a transaction's bytes -/
def txE (b : List Int) : Nat := if txFirst b then 3 else if (txR4 b).e = 0 then (if (txR4 b).s = [] then 0 else 3) else (txR4 b).e
def txSalt (b : List Int) : Nat := (txR1 b).nv 8
def txOuts (b : List Int) : List OutM := outsM (txN b) (txR3 b)
end Go.Pm
namespace Go.Proofs
open Go Go.Pe Go.Pm
set_option maxRecDepth 100000
set_option linter.unusedVariables false
theorem pc_cloneV {nl : Bool} {n : Nat} (hn : n ≤ 1000000000) {l : List Int} (hl : l.length = n) (hnl : nl = true → n = 0) : PC Tryd.prog G0 21 [] [.vec nl (.iarr .u8 n l)] [] (.vec nl (.iarr .u8 n l)) := by
  refine PC.of (fn := Tryd.f21) (c := bodyOf Tryd.f21) Tryd.func21 (by kernel_rfl) (by kernel_rfl) (by kernel_rfl) (by kernel_rfl) ?_
  have hT : l.take n = l := List.take_of_length_le (by omega)
  cases nl with
  | true =>
    have h0 := hnl rfl
    subst h0
    have : l = [] := List.eq_nil_of_length_eq_zero hl
    subst this
    refine W.rt [] [] [] (by kernel_rfl) trivial
  | false => refine W.ret [(5, Ans.vu (PV.ref 144 [] 1 0 n) [(112, none), (144, some (Row.mk (B8 n l) false))])] [] [([(112, none), (144, some (Row.mk (B8 (0 + n) l) false))] : List (Nat × Option Row)) = [(112, none), (144, some (Row.mk (B8 n l) false))], PV.ref 144 [] 1 0 (0 + n) = PV.ref 144 [] 1 0 n, rr (0), (0 + n) * 1 ≤ 140737488355328, 0 + n ≤ 9223372036854775807, 0 + n ≤ n, PV.vec false (B8 n (List.take n l)) = PV.vec false (B8 n l)] (by kernel_rfl) (ac (by simp only [Nat.zero_add]) (ac (by simp only [Nat.zero_add]) (ac rfl (ac (by omega) (ac (by omega) (ac (by omega) (ao (by (simp; omega)))))))))
/-- a reader -/
def rdq (nl : Bool) (N : Nat) (bs : List Int) (a e : Nat) : Row := ⟨.st 3 [.vec nl (.iarr .u8 N bs), .int .i64 a, .int .i64 e], false⟩
theorem pc_rdOf {nl : Bool} {n : Nat} (hn : n ≤ 1000000) {l : List Int} (hl : l.length = n) (hnl : nl = true → n = 0) : PC Tryd.prog G0 39 [] [.vec nl (.iarr .u8 n l)] [(1, rdq nl n l 0 0)] (.at 1 []) := by
  refine PC.of (fn := Tryd.f39) (c := bodyOf Tryd.f39) Tryd.func39 (by kernel_rfl) (by kernel_rfl) (by kernel_rfl) (by kernel_rfl) ?_
  have c1 := pc_cloneV (by omega) hl hnl
  unfold rdq
  refine W.ret [(2, c0 c1)] [(128, 1)] [_, PV.st 3 [PV.vec nl (B8 n l), I6 0, I6 0] = PV.st 3 [PV.vec nl (B8 n l), I6 (↑(0 : Nat) : Int), I6 (↑(0 : Nat) : Int)], rr (PV.at 1 [])] (by kernel_rfl) (ac (c1) (ac rfl (ao rfl)))
theorem pc_rdFail {nl : Bool} {N : Nat} {bs : List Int} {a e a' e' : Nat} (hl : bs.length = N) (ha : a ≤ 1000000) (ha' : a' ≤ 1000000) (he : e ≤ 100) (he' : e' ≤ 100) : PC Tryd.prog G0 59 [(0, rdq nl N bs a e)] [.at 0 [], .int .i64 a', .int .i64 e'] [(0, rdq nl N bs a' (if e = 0 then e' else e))] (.tup []) := by
  refine PC.of (fn := Tryd.f59) (c := bodyOf Tryd.f59) Tryd.func59 (by kernel_rfl) (by kernel_rfl) (by kernel_rfl) (by kernel_rfl) ?_
  unfold rdq
  by_cases h : e = 0
  · rw [if_pos h]
    subst h
    refine W.rt [(3, aV (I6 0))] [(0, 0)] [I6 (↑(0 : Nat) : Int) = I6 0] (by kernel_rfl) (ao (cg (by omega)))
  · rw [if_neg h]
    have h1 : ¬ ((e : Int) = 0) := by omega
    refine W.rt [(4, aF)] [(0, 0)] [((e:Int) == 0) = false] (by kernel_rfl) (ao (dF (by omega)))
def nilB : PV := .vec true (.iarr .u8 0 [])
theorem pc_rdTakeE {nl : Bool} {N : Nat} {bs : List Int} {a e w : Nat} (hl : bs.length = N) (hw : w ≤ 1000000) (he : e ≤ 100) (h0 : e ≠ 0) : PC Tryd.prog G0 58 [(0, rdq nl N bs a e)] [.at 0 [], .int .i64 w] [(0, rdq nl N bs a e)] nilB := by
  refine PC.of (fn := Tryd.f58) (c := bodyOf Tryd.f58) Tryd.func58 (by kernel_rfl) (by kernel_rfl) (by kernel_rfl) (by kernel_rfl) ?_
  unfold rdq nilB
  have h1 : ¬ ((e : Int) = 0) := by omega
  have h2 : mx (w : Int) 0 = (w : Int) := by unfold mx; split <;> omega
  refine W.rt [(2, aV (I6 (w:Int))), (8, aT)] [(0, 0)] [I6 (mx (w:Int) (0 : Int)) = I6 (w:Int), ((e:Int) != 0) = true] (by kernel_rfl) (ac (cg (h2)) (ao (bne_iff_ne.2 (by omega))))
theorem pc_rdTakeS {nl : Bool} {N : Nat} {bs : List Int} {a w : Nat} (hl : bs.length = N) (hN : N ≤ 1000000) (hw : w ≤ 1000000) (ha : a ≤ N) (h0 : N < a + w) : PC Tryd.prog G0 58 [(0, rdq nl N bs a 0)] [.at 0 [], .int .i64 w] [(0, rdq nl N bs a 2)] nilB := by
  refine PC.of (fn := Tryd.f58) (c := bodyOf Tryd.f58) Tryd.func58 (by kernel_rfl) (by kernel_rfl) (by kernel_rfl) (by kernel_rfl) ?_
  have c1 := pc_rdFail (nl := nl) (e := 0) (a := a) (a' := a) (e' := 2) hl (by omega) (by omega) (by omega) (by omega)
  rw [if_pos rfl] at c1
  unfold rdq nilB at *
  have h2 : mx (w : Int) 0 = (w : Int) := by unfold mx; split <;> omega
  refine W.rt [(2, aV (I6 (w:Int))), (7, aV (I6 0)), (19, aV (I6 ((N:Int) - (a:Int)))), (20, aT), (26, cC false [(0, 0)] c1)] [(0, 0)] [I6 (mx (w:Int) (0 : Int)) = I6 (w:Int), I6 (↑(0 : Nat) : Int) = I6 0, I6 (IntKind.wrap .i64 ((N:Int) - (a:Int))) = I6 ((N:Int) - (a:Int)), decide ((w:Int) > (N:Int) - (a:Int)) = true, _] (by kernel_rfl) (ac (cg (h2)) (ac (cg (by omega)) (ac (cg (w_i64 rfl (by omega) (by omega))) (ac (dT (by omega)) (ao (c1))))))
theorem pc_rdTakeY {nl : Bool} {N : Nat} {bs : List Int} {a w : Nat} (hl : bs.length = N) (hN : N ≤ 1000000) (ha : a + w ≤ N) (hnl : nl = true → N = 0) : PC Tryd.prog G0 58 [(0, rdq nl N bs a 0)] [.at 0 [], .int .i64 w] [(0, rdq nl N bs (a + w) 0)] (.vec nl (.iarr .u8 w ((bs.drop a).take w))) := by
  refine PC.of (fn := Tryd.f58) (c := bodyOf Tryd.f58) Tryd.func58 (by kernel_rfl) (by kernel_rfl) (by kernel_rfl) (by kernel_rfl) ?_
  have c1 := pc_cloneV (nl := nl) (n := w) (l := (bs.drop a).take w) (by omega) (by rw [List.length_take, List.length_drop]; omega) (by intro h; have := hnl h; omega)
  unfold rdq at *
  have h2 : mx (w : Int) 0 = (w : Int) := by unfold mx; split <;> omega
  have h3 : ((a : Int) + (w : Int)) - (w : Int) = (a : Int) := by omega
  rw [← drop0_eq] at c1 ⊢
  refine W.rt [(2, aV (I6 (w:Int))), (7, aV (I6 0)), (19, aV (I6 ((N:Int) - (a:Int)))), (20, aF), (26, aV (I6 (↑(a + w) : Int))), (39, aV (I6 (a:Int))), (44, aV (PV.vec nl (B8 w (List.take w (drop0 bs a))))), (45, c0 c1)] [(0, 0)] [I6 (mx (w:Int) (0 : Int)) = I6 (w:Int), I6 (↑(0 : Nat) : Int) = I6 0, I6 (IntKind.wrap .i64 ((N:Int) - (a:Int))) = I6 ((N:Int) - (a:Int)), decide ((w:Int) > (N:Int) - (a:Int)) = false, I6 (IntKind.wrap .i64 ((a:Int) + (w:Int))) = I6 (↑(a + w) : Int), I6 (IntKind.wrap .i64 ((↑(a + w) : Int) - (w:Int))) = I6 (a:Int), PV.vec nl (B8 (Int.toNat ((↑(a + w) : Int) - (a:Int))) (List.take (Int.toNat ((↑(a + w) : Int) - (a:Int))) (drop0 bs a))) = PV.vec nl (B8 w (List.take w (drop0 bs a))), 0 ≤ (a:Int), (a:Int) ≤ (↑(a + w) : Int), (↑(a + w) : Int) ≤ (N:Int), _] (by kernel_rfl) (ac (cg (h2)) (ac (cg (by omega)) (ac (cg (w_i64 rfl (by omega) (by omega))) (ac (dF (by omega)) (ac (cg (w_i64 rfl (by omega) (by omega))) (ac (cg (w_i64 (by omega) (by omega) (by omega))) (ac (by rw [show Int.toNat ((↑(a + w) : Int) - (a:Int)) = w by omega]) (ac (by omega) (ac (by omega) (ac (by omega) (ao (c1))))))))))))
theorem pc_rdNum {nl : Bool} {N : Nat} {bs : List Int} {r : Rd} {w : Nat} (hr : r.In bs N) (hN : N ≤ 1000000) (he : r.e ≤ 100) (hw : w ≤ 8) (hw0 : 0 < w) (hnl : nl = true → N = 0) : PC Tryd.prog G0 40 [(0, rdq nl N bs (N - r.s.length) r.e)] [.at 0 [], .int .i64 w] [(0, rdq nl N bs (N - (r.tk w).s.length) (r.tk w).e)] (.int .u64 ((r.nv w : Nat) : Int)) := by
  refine PC.of (fn := Tryd.f40) (c := bodyOf Tryd.f40) Tryd.func40 (by kernel_rfl) (by kernel_rfl) (by kernel_rfl) (by kernel_rfl) ?_
  have hle := hr.le
  have h2 : mx (w : Int) 0 = (w : Int) := by unfold mx; split <;> omega
  have h3 : mn (w : Int) 8 = (w : Int) := by unfold mn; split <;> omega
  have c0 := pc_num8 (nl := true) (n := 0) (l := []) rfl (by intro x hx; cases hx)
  have e0 : lv [] (min 0 8) = 0 := rfl
  rw [e0] at c0
  by_cases h0 : r.e = 0
  · by_cases hl : w ≤ r.s.length
    · have e1 : (r.tk w).s.length = r.s.length - w := by unfold Rd.tk; rw [if_pos h0, if_pos hl, List.length_drop]
      have e2 : (r.tk w).e = 0 := by unfold Rd.tk; rw [if_pos h0, if_pos hl]
      have e3 : r.nv w = lv r.s w := by unfold Rd.nv; rw [if_pos ⟨h0, hl⟩]
      have c1 := pc_rdTakeY (nl := nl) (a := N - r.s.length) (w := w) hr.len hN (by omega) hnl
      rw [← hr.eq] at c1
      have c2 := pc_num8 (nl := nl) (n := w) (l := r.s.take w) (by rw [List.length_take]; omega) (hr.bytes.take w)
      rw [Nat.min_eq_left hw, lv_take (Nat.le_refl w)] at c2
      have e4 : N - (r.s.length - w) = N - r.s.length + w := by omega
      rw [e1, e2, e3, h0, e4]
      generalize lv r.s w = v at *
      generalize r.s.take w = tk at *
      generalize N - r.s.length = a at *
      unfold rdq at *
      refine W.rt [(3, aV (I6 (w:Int))), (4, aV (I6 (w:Int))), (5, cC false [(0, 0)] c1), (6, c9 c2)] [(0, 0)] [I6 (mx (w:Int) (0 : Int)) = I6 (w:Int), I6 (mn (w:Int) (8 : Int)) = I6 (w:Int), _, _] (by kernel_rfl) (ac (cg (h2)) (ac (cg (h3)) (ac (c1) (ao (c2)))))
    · have e1 : (r.tk w).s = r.s := by unfold Rd.tk; rw [if_pos h0, if_neg hl]
      have e2 : (r.tk w).e = 2 := by unfold Rd.tk; rw [if_pos h0, if_neg hl]
      have e3 : r.nv w = 0 := by unfold Rd.nv; rw [if_neg (fun h => hl h.2)]
      have c1 := pc_rdTakeS (nl := nl) (a := N - r.s.length) (w := w) hr.len hN (by omega) (by omega) (by omega)
      rw [e1, e2, e3, h0]
      generalize N - r.s.length = a at *
      unfold rdq nilB at *
      refine W.ret [(3, aV (I6 (w:Int))), (4, aV (I6 (w:Int))), (5, cC false [(0, 0)] c1), (6, c9 c0), (7, aV (U6 0))] [(0, 0)] [I6 (mx (w:Int) (0 : Int)) = I6 (w:Int), I6 (mn (w:Int) (8 : Int)) = I6 (w:Int), _, _, U6 (↑(0 : Nat) : Int) = U6 0, rr (PV.st 3 [PV.vec nl (B8 N bs), I6 (a:Int), I6 (↑(2 : Nat) : Int)]), U6 0 = U6 (↑(0 : Nat) : Int)] (by kernel_rfl) (ac (cg (h2)) (ac (cg (h3)) (ac (c1) (ac (c0) (ac (cg (by omega)) (ac rfl (ao (cg (by omega)))))))))
  · have e1 : r.tk w = r := by unfold Rd.tk; rw [if_neg h0]
    have e3 : r.nv w = 0 := by unfold Rd.nv; rw [if_neg (fun h => h0 h.1)]
    have c1 := pc_rdTakeE (nl := nl) (a := N - r.s.length) (w := w) hr.len (by omega) he h0
    rw [e1, e3]
    generalize N - r.s.length = a at *
    generalize r.e = e at *
    unfold rdq nilB at *
    refine W.ret [(3, aV (I6 (w:Int))), (4, aV (I6 (w:Int))), (5, cC false [(0, 0)] c1), (6, c9 c0), (7, aV (U6 0))] [(0, 0)] [I6 (mx (w:Int) (0 : Int)) = I6 (w:Int), I6 (mn (w:Int) (8 : Int)) = I6 (w:Int), _, _, U6 (↑(0 : Nat) : Int) = U6 0, rr (PV.st 3 [PV.vec nl (B8 N bs), I6 (a:Int), I6 (e:Int)]), U6 0 = U6 (↑(0 : Nat) : Int)] (by kernel_rfl) (ac (cg (h2)) (ac (cg (h3)) (ac (c1) (ac (c0) (ac (cg (by omega)) (ac rfl (ao (cg (by omega)))))))))
theorem pc_rdErr {nl : Bool} {N a e : Nat} {bs : List Int} (hl : bs.length = N) (he : e ≤ 100) : PC Tryd.prog G0 41 [(0, rdq nl N bs a e)] [.at 0 []] [(0, rdq nl N bs a e)] (.int .i64 e) := by
  refine PC.of (fn := Tryd.f41) (c := bodyOf Tryd.f41) Tryd.func41 (by kernel_rfl) (by kernel_rfl) (by kernel_rfl) (by kernel_rfl) ?_
  unfold rdq at *
  refine W.rt [] [(0, 0)] [] (by kernel_rfl) trivial
theorem pc_rdLeft {nl : Bool} {N a e : Nat} {bs : List Int} (hl : bs.length = N) (hN : N ≤ 1000000) (ha : a ≤ N) : PC Tryd.prog G0 60 [(0, rdq nl N bs a e)] [.at 0 []] [(0, rdq nl N bs a e)] (.int .i64 ((N - a : Nat) : Int)) := by
  refine PC.of (fn := Tryd.f60) (c := bodyOf Tryd.f60) Tryd.func60 (by kernel_rfl) (by kernel_rfl) (by kernel_rfl) (by kernel_rfl) ?_
  have h : (N : Int) - (a : Int) = ((N - a : Nat) : Int) := by omega
  have hb : N - a ≤ 1000000 := by omega
  generalize N - a = m at *
  unfold rdq at *
  refine W.rt [(10, aV (I6 (m:Int)))] [(0, 0)] [I6 (IntKind.wrap .i64 ((N:Int) - (a:Int))) = I6 (m:Int)] (by kernel_rfl) (ao (cg (w_i64 h (by omega) (by omega))))
/-- what End tells -/
def endE (r : Rd) : Nat := if r.e = 0 then (if r.s = [] then 0 else 3) else r.e
theorem pc_rdEnd {nl : Bool} {N : Nat} {bs : List Int} {r : Rd} (hr : r.In bs N) (hN : N ≤ 1000000) (he : r.e ≤ 100) : PC Tryd.prog G0 44 [(0, rdq nl N bs (N - r.s.length) r.e)] [.at 0 []] [(0, rdq nl N bs (N - r.s.length) (endE r))] (.int .i64 (endE r)) := by
  refine PC.of (fn := Tryd.f44) (c := bodyOf Tryd.f44) Tryd.func44 (by kernel_rfl) (by kernel_rfl) (by kernel_rfl) (by kernel_rfl) ?_
  have hle := hr.le
  have hbl := hr.len
  have c1 := pc_rdLeft (nl := nl) (a := N - r.s.length) (e := r.e) hr.len hN (by omega)
  have e1 : N - (N - r.s.length) = r.s.length := by omega
  rw [e1] at c1
  unfold endE
  by_cases h0 : r.e = 0
  · rw [if_pos h0, h0]
    rw [h0] at c1
    by_cases hs : r.s = []
    · rw [if_pos hs]
      have hl : r.s.length = 0 := by rw [hs]; rfl
      rw [hl] at c1 ⊢
      unfold rdq at *
      refine W.ret [(4, aV (I6 0)), (8, cC false [(0, 0)] c1), (14, aV (I6 0))] [(0, 0)] [I6 (↑(0 : Nat) : Int) = I6 0, _, I6 (↑(0 : Nat) : Int) = I6 0, rr (PV.st 3 [PV.vec nl (B8 N bs), I6 (N:Int), I6 (↑(0 : Nat) : Int)]), I6 0 = I6 (↑(0 : Nat) : Int)] (by kernel_rfl) (ac (cg (by omega)) (ac (c1) (ac (cg (by omega)) (ac rfl (ao (cg (by omega)))))))
    · rw [if_neg hs]
      have hl : 0 < r.s.length := List.length_pos_iff.2 hs
      generalize r.s.length = m at *
      generalize N - m = a at *
      unfold rdq at *
      refine W.ret [(4, aV (I6 0)), (8, cC false [(0, 0)] c1), (9, aT)] [(0, 0)] [I6 (↑(0 : Nat) : Int) = I6 0, _, decide ((m:Int) > 0) = true, PV.st 3 [PV.vec nl (B8 N bs), I6 (a:Int), I6 3] = PV.st 3 [PV.vec nl (B8 N bs), I6 (a:Int), I6 (↑(3 : Nat) : Int)], I6 3 = I6 (↑(3 : Nat) : Int)] (by kernel_rfl) (ac (cg (by omega)) (ac (c1) (ac (dT (by omega)) (ac rfl (ao (cg (by omega)))))))
  · rw [if_neg h0]
    have h1 : ¬ ((r.e : Int) = 0) := by omega
    generalize r.s.length = m at *
    generalize N - m = a at *
    generalize r.e = e at *
    unfold rdq at *
    refine W.rt [(5, aF)] [(0, 0)] [((e:Int) == 0) = false] (by kernel_rfl) (ao (dF (by omega)))
end Go.Proofs
namespace Go.Proofs
open Go Go.Pe Go.Pm
set_option maxRecDepth 100000
set_option linter.unusedVariables false
theorem lv_one (s : List Int) : lv s 1 = at0 s 0 := by simp [lv]
theorem Rd.var_of {r : Rd} {m x : Nat} (h : r.ve m = x) (hx : x ≠ 0) : r.var m = ⟨r.s, x⟩ ∧ r.vn m = 0 := by
  unfold Rd.var Rd.vn
  rw [h, if_neg hx, if_neg hx]
  exact ⟨rfl, rfl⟩
theorem Rd.var_ok {r : Rd} {m : Nat} (h : r.ve m = 0) : r.var m = ⟨r.s.drop (1 + wdt (at0 r.s 0)), 0⟩ ∧ r.vn m = vraw r.s := by
  unfold Rd.var Rd.vn
  rw [if_pos h, if_pos h]
  exact ⟨rfl, rfl⟩
theorem pc_rdVarE {nl : Bool} {N m : Nat} {bs : List Int} {r : Rd} (hr : r.In bs N) (hN : N ≤ 1000000) (he : r.e ≤ 100) (hm : m < 18446744073709551616) (hnl : nl = true → N = 0) (h0 : r.e ≠ 0) : PC Tryd.prog G0 42 [(0, rdq nl N bs (N - r.s.length) r.e)] [.at 0 [], .int .u64 m] [(0, rdq nl N bs (N - r.s.length) r.e)] (.int .u64 0) := by
  refine PC.of (fn := Tryd.f42) (c := bodyOf Tryd.f42) Tryd.func42 (by kernel_rfl) (by kernel_rfl) (by kernel_rfl) (by kernel_rfl) ?_
  have hle := hr.le
  have hbl := hr.len
  have c1 := pc_rdNum (nl := nl) (w := 1) hr hN he (by omega) (by omega) hnl
  have e1 : r.tk 1 = r := by unfold Rd.tk; rw [if_neg h0]
  have e3 : r.nv 1 = 0 := by unfold Rd.nv; rw [if_neg (fun h => h0 h.1)]
  rw [e1, e3] at c1
  have h1 : ¬ ((r.e : Int) = 0) := by omega
  have hb : N - r.s.length ≤ 1000000 := by omega
  generalize N - r.s.length = a at *
  generalize r.e = e at *
  unfold rdq at *
  refine W.rt [(7, cC false [(0, 0)] c1), (8, aV (U6 0)), (21, aT)] [(0, 0)] [_, U6 (↑(0 : Nat) : Int) = U6 0, ((e:Int) != 0) = true] (by kernel_rfl) (ac (c1) (ac (cg (by omega)) (ao (bne_iff_ne.2 (by omega)))))
theorem pc_rdVarS {nl : Bool} {N m : Nat} {bs : List Int} {r : Rd} (hr : r.In bs N) (hN : N ≤ 1000000) (hm : m < 18446744073709551616) (hnl : nl = true → N = 0) (h0 : r.e = 0) (hs : r.s.length = 0) : PC Tryd.prog G0 42 [(0, rdq nl N bs (N - r.s.length) 0)] [.at 0 [], .int .u64 m] [(0, rdq nl N bs (N - r.s.length) 2)] (.int .u64 0) := by
  refine PC.of (fn := Tryd.f42) (c := bodyOf Tryd.f42) Tryd.func42 (by kernel_rfl) (by kernel_rfl) (by kernel_rfl) (by kernel_rfl) ?_
  have hle := hr.le
  have hbl := hr.len
  have c1 := pc_rdNum (nl := nl) (w := 1) hr hN (by omega) (by omega) (by omega) hnl
  have e1 : r.tk 1 = ⟨r.s, 2⟩ := by unfold Rd.tk; rw [if_pos h0, if_neg (by omega)]
  have e3 : r.nv 1 = 0 := by unfold Rd.nv; rw [if_neg (fun h => by have := h.2; omega)]
  rw [e1, e3, h0] at c1
  have hb : N - r.s.length ≤ 1000000 := by omega
  generalize N - r.s.length = a at *
  unfold rdq at *
  refine W.rt [(7, cC false [(0, 0)] c1), (8, aV (U6 0)), (20, aV (I6 2))] [(0, 0)] [_, U6 (↑(0 : Nat) : Int) = U6 0, I6 (↑(2 : Nat) : Int) = I6 2] (by kernel_rfl) (ac (c1) (ac (cg (by omega)) (ao (cg (by omega)))))
theorem pc_rdVar0 {nl : Bool} {N m : Nat} {bs : List Int} {r : Rd} (hr : r.In bs N) (hN : N ≤ 1000000) (hm : m < 18446744073709551616) (hnl : nl = true → N = 0) (h0 : r.e = 0) (hs : 0 < r.s.length) (hw : at0 r.s 0 ≠ 253 ∧ at0 r.s 0 ≠ 254 ∧ at0 r.s 0 ≠ 255) :
    PC Tryd.prog G0 42 [(0, rdq nl N bs (N - r.s.length) 0)] [.at 0 [], .int .u64 m] [(0, rdq nl N bs (N - (r.var m).s.length) (r.var m).e)] (.int .u64 ((r.vn m : Nat) : Int)) := by
  refine PC.of (fn := Tryd.f42) (c := bodyOf Tryd.f42) Tryd.func42 (by kernel_rfl) (by kernel_rfl) (by kernel_rfl) (by kernel_rfl) ?_
  have hle := hr.le
  have hbl := hr.len
  have hx := at0_lt hr.bytes 0
  have c1 := pc_rdNum (nl := nl) (w := 1) hr hN (by omega) (by omega) (by omega) hnl
  have e1 : r.tk 1 = ⟨r.s.drop 1, 0⟩ := by unfold Rd.tk; rw [if_pos h0, if_pos (by omega)]
  have e3 : r.nv 1 = at0 r.s 0 := by unfold Rd.nv; rw [if_pos ⟨h0, by omega⟩, lv_one]
  rw [e1, e3, h0] at c1
  have w0 : wdt (at0 r.s 0) = 0 := by unfold wdt; rw [if_neg hw.1, if_neg hw.2.1, if_neg hw.2.2]
  have l0 : lst (at0 r.s 0) = 0 := by unfold lst; rw [if_neg hw.1, if_neg hw.2.1, if_neg hw.2.2]
  have v0 : vraw r.s = at0 r.s 0 := by unfold vraw; rw [if_pos w0]
  have hve : r.ve m = if m < at0 r.s 0 then 4 else 0 := by unfold Rd.ve; rw [if_pos h0, w0, if_neg (by omega), l0, if_neg (by omega), v0]
  obtain ⟨n1, n2, n3⟩ := hw
  have b1 : ¬ ((at0 r.s 0 : Int) = 253) := by omega
  have b2 : ¬ ((at0 r.s 0 : Int) = 254) := by omega
  have b3 : ¬ ((at0 r.s 0 : Int) = 255) := by omega
  by_cases hlt : m < at0 r.s 0
  · rw [if_pos hlt] at hve
    obtain ⟨q1, q2⟩ := Rd.var_of hve (by omega)
    rw [q1, q2]
    have c2 := pc_rdFail (nl := nl) (e := 0) (a := N - (r.s.drop 1).length) (a' := N - r.s.length) (e' := 4) hbl (by omega) (by omega) (by omega) (by omega)
    rw [if_pos rfl] at c2
    dsimp only at *
    have hb : N - r.s.length ≤ 1000000 := by omega
    have hb2 : N - (r.s.drop 1).length ≤ 1000000 := by omega
    clear hve q1 q2 e1 e3 w0 l0 v0 hle
    generalize at0 r.s 0 = x at *
    generalize N - (r.s.drop 1).length = a1 at *
    generalize N - r.s.length = a at *
    unfold rdq at *
    refine W.rt [(7, cC false [(0, 0)] c1), (11, aF), (13, aF), (15, aF), (20, aV (I6 0)), (29, aT), (33, cC false [(0, 0)] c2)] [(0, 0)] [_, ((x:Int) == 253) = false, ((x:Int) == 254) = false, ((x:Int) == 255) = false, I6 (↑(0 : Nat) : Int) = I6 0, decide ((x:Int) > (m:Int)) = true, _] (by kernel_rfl) (ac (c1) (ac (dF (by omega)) (ac (dF (by omega)) (ac (dF (by omega)) (ac (cg (by omega)) (ac (dT (by omega)) (ao (c2))))))))
  · rw [if_neg hlt] at hve
    obtain ⟨q1, q2⟩ := Rd.var_ok hve
    rw [w0] at q1
    rw [q1, q2, v0]
    dsimp only at *
    have hb : N - r.s.length ≤ 1000000 := by omega
    have hb2 : N - (r.s.drop 1).length ≤ 1000000 := by omega
    clear hve q1 q2 e1 e3 w0 l0 v0 hle
    rw [Nat.add_zero] at *
    generalize at0 r.s 0 = x at *
    generalize N - (r.s.drop 1).length = a1 at *
    generalize N - r.s.length = a at *
    unfold rdq at *
    refine W.rt [(7, cC false [(0, 0)] c1), (11, aF), (13, aF), (15, aF), (20, aV (I6 0)), (29, aF)] [(0, 0)] [_, ((x:Int) == 253) = false, ((x:Int) == 254) = false, ((x:Int) == 255) = false, I6 (↑(0 : Nat) : Int) = I6 0, decide ((x:Int) > (m:Int)) = false] (by kernel_rfl) (ac (c1) (ac (dF (by omega)) (ac (dF (by omega)) (ac (dF (by omega)) (ac (cg (by omega)) (ao (dF (by omega))))))))
set_option maxHeartbeats 4000000 in
theorem pc_rdVar2 {nl : Bool} {N m : Nat} {bs : List Int} {r : Rd} (hr : r.In bs N) (hN : N ≤ 1000000) (hm : m < 18446744073709551616) (hnl : nl = true → N = 0) (h0 : r.e = 0) (hs : 0 < r.s.length) (hw : at0 r.s 0 = 253) :
    PC Tryd.prog G0 42 [(0, rdq nl N bs (N - r.s.length) 0)] [.at 0 [], .int .u64 m] [(0, rdq nl N bs (N - (r.var m).s.length) (r.var m).e)] (.int .u64 ((r.vn m : Nat) : Int)) := by
  refine PC.of (fn := Tryd.f42) (c := bodyOf Tryd.f42) Tryd.func42 (by kernel_rfl) (by kernel_rfl) (by kernel_rfl) (by kernel_rfl) ?_
  have hle := hr.le
  have hbl := hr.len
  have c1 := pc_rdNum (nl := nl) (w := 1) hr hN (by omega) (by omega) (by omega) hnl
  have e1 : r.tk 1 = ⟨r.s.drop 1, 0⟩ := by unfold Rd.tk; rw [if_pos h0, if_pos (by omega)]
  have e3 : r.nv 1 = 253 := by unfold Rd.nv; rw [if_pos ⟨h0, by omega⟩, lv_one, hw]
  rw [e1, e3, h0] at c1
  have hr1 : (Rd.mk (r.s.drop 1) 0).In bs N := by rw [← e1]; exact hr.tk 1
  have c2 := pc_rdNum (nl := nl) (w := 2) hr1 hN (by show 0 ≤ 100; omega) (by omega) (by omega) hnl
  have w0 : wdt (at0 r.s 0) = 2 := by rw [hw]; rfl
  have l0 : lst (at0 r.s 0) = 253 := by rw [hw]; rfl
  have v0 : vraw r.s = lv (r.s.drop 1) 2 := by unfold vraw; rw [w0, if_neg (by omega)]
  have hl1 : (r.s.drop 1).length = r.s.length - 1 := List.length_drop
  by_cases hsh : r.s.length < 1 + 2
  · have hve : r.ve m = 2 := by unfold Rd.ve; rw [if_pos h0, w0, if_pos hsh]
    obtain ⟨q1, q2⟩ := Rd.var_of hve (by omega)
    have t1 : (Rd.mk (r.s.drop 1) 0).tk 2 = ⟨r.s.drop 1, 2⟩ := by unfold Rd.tk; rw [if_pos rfl, if_neg (by show ¬ _ ≤ (r.s.drop 1).length; omega)]
    have t2 : (Rd.mk (r.s.drop 1) 0).nv 2 = 0 := by unfold Rd.nv; rw [if_neg (fun h => by have := h.2; simp only at this; omega)]
    rw [t1, t2] at c2
    rw [q1, q2]
    dsimp only at *
    have hb : N - r.s.length ≤ 1000000 := by omega
    have hb2 : N - (r.s.drop 1).length ≤ 1000000 := by omega
    clear hve q1 q2 e1 e3 w0 l0 v0 hle t1 t2 hl1
    generalize N - (r.s.drop 1).length = a1 at *
    generalize N - r.s.length = a at *
    unfold rdq at *
    refine W.rt [(7, cC false [(0, 0)] c1), (8, aV (U6 253)), (14, cC false [(0, 0)] c2), (15, aV (U6 0)), (20, aV (I6 2))] [(0, 0)] [_, U6 (↑(253 : Nat) : Int) = U6 253, _, U6 (↑(0 : Nat) : Int) = U6 0, I6 (↑(2 : Nat) : Int) = I6 2] (by kernel_rfl) (ac (c1) (ac (cg (by omega)) (ac (c2) (ac (cg (by omega)) (ao (cg (by omega)))))))
  · have t1 : (Rd.mk (r.s.drop 1) 0).tk 2 = ⟨r.s.drop (1 + 2), 0⟩ := by unfold Rd.tk; rw [if_pos rfl, if_pos (by show _ ≤ (r.s.drop 1).length; omega), List.drop_drop]
    have t2 : (Rd.mk (r.s.drop 1) 0).nv 2 = lv (r.s.drop 1) 2 := by unfold Rd.nv; rw [if_pos ⟨rfl, by show _ ≤ (r.s.drop 1).length; omega⟩]
    rw [t1, t2] at c2
    have hvl := vraw_lt hr.bytes
    rw [v0] at hvl
    have hve : r.ve m = if lv (r.s.drop 1) 2 < 253 then 3 else if m < lv (r.s.drop 1) 2 then 4 else 0 := by unfold Rd.ve; rw [if_pos h0, w0, if_neg hsh, l0, v0]
    have hb : N - r.s.length ≤ 1000000 := by omega
    have hb2 : N - (r.s.drop 1).length ≤ 1000000 := by omega
    have hb3 : N - (r.s.drop (1 + 2)).length ≤ 1000000 := by omega
    by_cases hlt : lv (r.s.drop 1) 2 < 253
    · rw [if_pos hlt] at hve
      obtain ⟨q1, q2⟩ := Rd.var_of hve (by omega)
      rw [q1, q2]
      have c3 := pc_rdFail (nl := nl) (e := 0) (a := N - (r.s.drop (1 + 2)).length) (a' := N - r.s.length) (e' := 3) hbl (by omega) (by omega) (by omega) (by omega)
      rw [if_pos rfl] at c3
      dsimp only at *
      clear hve q1 q2 e1 e3 w0 l0 v0 hle t1 t2 hl1
      generalize lv (r.s.drop 1) 2 = v at *
      generalize N - (r.s.drop (1 + 2)).length = a2 at *
      generalize N - (r.s.drop 1).length = a1 at *
      generalize N - r.s.length = a at *
      unfold rdq at *
      refine W.rt [(7, cC false [(0, 0)] c1), (8, aV (U6 253)), (14, cC false [(0, 0)] c2), (20, aV (I6 0)), (25, aT), (29, cC false [(0, 0)] c3)] [(0, 0)] [_, U6 (↑(253 : Nat) : Int) = U6 253, _, I6 (↑(0 : Nat) : Int) = I6 0, decide ((v:Int) < 253) = true, _] (by kernel_rfl) (ac (c1) (ac (cg (by omega)) (ac (c2) (ac (cg (by omega)) (ac (dT (by omega)) (ao (c3)))))))
    · rw [if_neg hlt] at hve
      by_cases hgt : m < lv (r.s.drop 1) 2
      · rw [if_pos hgt] at hve
        obtain ⟨q1, q2⟩ := Rd.var_of hve (by omega)
        rw [q1, q2]
        have c3 := pc_rdFail (nl := nl) (e := 0) (a := N - (r.s.drop (1 + 2)).length) (a' := N - r.s.length) (e' := 4) hbl (by omega) (by omega) (by omega) (by omega)
        rw [if_pos rfl] at c3
        dsimp only at *
        clear hve q1 q2 e1 e3 w0 l0 v0 hle t1 t2 hl1
        generalize lv (r.s.drop 1) 2 = v at *
        generalize N - (r.s.drop (1 + 2)).length = a2 at *
        generalize N - (r.s.drop 1).length = a1 at *
        generalize N - r.s.length = a at *
        unfold rdq at *
        refine W.rt [(7, cC false [(0, 0)] c1), (8, aV (U6 253)), (14, cC false [(0, 0)] c2), (20, aV (I6 0)), (25, aF), (29, aT), (33, cC false [(0, 0)] c3)] [(0, 0)] [_, U6 (↑(253 : Nat) : Int) = U6 253, _, I6 (↑(0 : Nat) : Int) = I6 0, decide ((v:Int) < 253) = false, decide ((v:Int) > (m:Int)) = true, _] (by kernel_rfl) (ac (c1) (ac (cg (by omega)) (ac (c2) (ac (cg (by omega)) (ac (dF (by omega)) (ac (dT (by omega)) (ao (c3))))))))
      · rw [if_neg hgt] at hve
        obtain ⟨q1, q2⟩ := Rd.var_ok hve
        rw [w0] at q1
        rw [q1, q2, v0]
        dsimp only at *
        clear hve q1 q2 e1 e3 w0 l0 v0 hle t1 t2 hl1
        generalize lv (r.s.drop 1) 2 = v at *
        generalize N - (r.s.drop (1 + 2)).length = a2 at *
        generalize N - (r.s.drop 1).length = a1 at *
        generalize N - r.s.length = a at *
        unfold rdq at *
        refine W.rt [(7, cC false [(0, 0)] c1), (8, aV (U6 253)), (14, cC false [(0, 0)] c2), (20, aV (I6 0)), (25, aF), (29, aF)] [(0, 0)] [_, U6 (↑(253 : Nat) : Int) = U6 253, _, I6 (↑(0 : Nat) : Int) = I6 0, decide ((v:Int) < 253) = false, decide ((v:Int) > (m:Int)) = false] (by kernel_rfl) (ac (c1) (ac (cg (by omega)) (ac (c2) (ac (cg (by omega)) (ac (dF (by omega)) (ao (dF (by omega))))))))
set_option maxHeartbeats 4000000 in
theorem pc_rdVar4 {nl : Bool} {N m : Nat} {bs : List Int} {r : Rd} (hr : r.In bs N) (hN : N ≤ 1000000) (hm : m < 18446744073709551616) (hnl : nl = true → N = 0) (h0 : r.e = 0) (hs : 0 < r.s.length) (hw : at0 r.s 0 = 254) :
    PC Tryd.prog G0 42 [(0, rdq nl N bs (N - r.s.length) 0)] [.at 0 [], .int .u64 m] [(0, rdq nl N bs (N - (r.var m).s.length) (r.var m).e)] (.int .u64 ((r.vn m : Nat) : Int)) := by
  refine PC.of (fn := Tryd.f42) (c := bodyOf Tryd.f42) Tryd.func42 (by kernel_rfl) (by kernel_rfl) (by kernel_rfl) (by kernel_rfl) ?_
  have hle := hr.le
  have hbl := hr.len
  have c1 := pc_rdNum (nl := nl) (w := 1) hr hN (by omega) (by omega) (by omega) hnl
  have e1 : r.tk 1 = ⟨r.s.drop 1, 0⟩ := by unfold Rd.tk; rw [if_pos h0, if_pos (by omega)]
  have e3 : r.nv 1 = 254 := by unfold Rd.nv; rw [if_pos ⟨h0, by omega⟩, lv_one, hw]
  rw [e1, e3, h0] at c1
  have hr1 : (Rd.mk (r.s.drop 1) 0).In bs N := by rw [← e1]; exact hr.tk 1
  have c2 := pc_rdNum (nl := nl) (w := 4) hr1 hN (by show 0 ≤ 100; omega) (by omega) (by omega) hnl
  have w0 : wdt (at0 r.s 0) = 4 := by rw [hw]; rfl
  have l0 : lst (at0 r.s 0) = 65536 := by rw [hw]; rfl
  have v0 : vraw r.s = lv (r.s.drop 1) 4 := by unfold vraw; rw [w0, if_neg (by omega)]
  have hl1 : (r.s.drop 1).length = r.s.length - 1 := List.length_drop
  by_cases hsh : r.s.length < 1 + 4
  · have hve : r.ve m = 2 := by unfold Rd.ve; rw [if_pos h0, w0, if_pos hsh]
    obtain ⟨q1, q2⟩ := Rd.var_of hve (by omega)
    have t1 : (Rd.mk (r.s.drop 1) 0).tk 4 = ⟨r.s.drop 1, 2⟩ := by unfold Rd.tk; rw [if_pos rfl, if_neg (by show ¬ _ ≤ (r.s.drop 1).length; omega)]
    have t2 : (Rd.mk (r.s.drop 1) 0).nv 4 = 0 := by unfold Rd.nv; rw [if_neg (fun h => by have := h.2; simp only at this; omega)]
    rw [t1, t2] at c2
    rw [q1, q2]
    dsimp only at *
    have hb : N - r.s.length ≤ 1000000 := by omega
    have hb2 : N - (r.s.drop 1).length ≤ 1000000 := by omega
    clear hve q1 q2 e1 e3 w0 l0 v0 hle t1 t2 hl1
    generalize N - (r.s.drop 1).length = a1 at *
    generalize N - r.s.length = a at *
    unfold rdq at *
    refine W.rt [(7, cC false [(0, 0)] c1), (8, aV (U6 254)), (16, cC false [(0, 0)] c2), (17, aV (U6 0)), (22, aV (I6 2))] [(0, 0)] [_, U6 (↑(254 : Nat) : Int) = U6 254, _, U6 (↑(0 : Nat) : Int) = U6 0, I6 (↑(2 : Nat) : Int) = I6 2] (by kernel_rfl) (ac (c1) (ac (cg (by omega)) (ac (c2) (ac (cg (by omega)) (ao (cg (by omega)))))))
  · have t1 : (Rd.mk (r.s.drop 1) 0).tk 4 = ⟨r.s.drop (1 + 4), 0⟩ := by unfold Rd.tk; rw [if_pos rfl, if_pos (by show _ ≤ (r.s.drop 1).length; omega), List.drop_drop]
    have t2 : (Rd.mk (r.s.drop 1) 0).nv 4 = lv (r.s.drop 1) 4 := by unfold Rd.nv; rw [if_pos ⟨rfl, by show _ ≤ (r.s.drop 1).length; omega⟩]
    rw [t1, t2] at c2
    have hvl := vraw_lt hr.bytes
    rw [v0] at hvl
    have hve : r.ve m = if lv (r.s.drop 1) 4 < 65536 then 3 else if m < lv (r.s.drop 1) 4 then 4 else 0 := by unfold Rd.ve; rw [if_pos h0, w0, if_neg hsh, l0, v0]
    have hb : N - r.s.length ≤ 1000000 := by omega
    have hb2 : N - (r.s.drop 1).length ≤ 1000000 := by omega
    have hb3 : N - (r.s.drop (1 + 4)).length ≤ 1000000 := by omega
    by_cases hlt : lv (r.s.drop 1) 4 < 65536
    · rw [if_pos hlt] at hve
      obtain ⟨q1, q2⟩ := Rd.var_of hve (by omega)
      rw [q1, q2]
      have c3 := pc_rdFail (nl := nl) (e := 0) (a := N - (r.s.drop (1 + 4)).length) (a' := N - r.s.length) (e' := 3) hbl (by omega) (by omega) (by omega) (by omega)
      rw [if_pos rfl] at c3
      dsimp only at *
      clear hve q1 q2 e1 e3 w0 l0 v0 hle t1 t2 hl1
      generalize lv (r.s.drop 1) 4 = v at *
      generalize N - (r.s.drop (1 + 4)).length = a2 at *
      generalize N - (r.s.drop 1).length = a1 at *
      generalize N - r.s.length = a at *
      unfold rdq at *
      refine W.rt [(7, cC false [(0, 0)] c1), (8, aV (U6 254)), (16, cC false [(0, 0)] c2), (22, aV (I6 0)), (27, aT), (31, cC false [(0, 0)] c3)] [(0, 0)] [_, U6 (↑(254 : Nat) : Int) = U6 254, _, I6 (↑(0 : Nat) : Int) = I6 0, decide ((v:Int) < 65536) = true, _] (by kernel_rfl) (ac (c1) (ac (cg (by omega)) (ac (c2) (ac (cg (by omega)) (ac (dT (by omega)) (ao (c3)))))))
    · rw [if_neg hlt] at hve
      by_cases hgt : m < lv (r.s.drop 1) 4
      · rw [if_pos hgt] at hve
        obtain ⟨q1, q2⟩ := Rd.var_of hve (by omega)
        rw [q1, q2]
        have c3 := pc_rdFail (nl := nl) (e := 0) (a := N - (r.s.drop (1 + 4)).length) (a' := N - r.s.length) (e' := 4) hbl (by omega) (by omega) (by omega) (by omega)
        rw [if_pos rfl] at c3
        dsimp only at *
        clear hve q1 q2 e1 e3 w0 l0 v0 hle t1 t2 hl1
        generalize lv (r.s.drop 1) 4 = v at *
        generalize N - (r.s.drop (1 + 4)).length = a2 at *
        generalize N - (r.s.drop 1).length = a1 at *
        generalize N - r.s.length = a at *
        unfold rdq at *
        refine W.rt [(7, cC false [(0, 0)] c1), (8, aV (U6 254)), (16, cC false [(0, 0)] c2), (22, aV (I6 0)), (27, aF), (31, aT), (35, cC false [(0, 0)] c3)] [(0, 0)] [_, U6 (↑(254 : Nat) : Int) = U6 254, _, I6 (↑(0 : Nat) : Int) = I6 0, decide ((v:Int) < 65536) = false, decide ((v:Int) > (m:Int)) = true, _] (by kernel_rfl) (ac (c1) (ac (cg (by omega)) (ac (c2) (ac (cg (by omega)) (ac (dF (by omega)) (ac (dT (by omega)) (ao (c3))))))))
      · rw [if_neg hgt] at hve
        obtain ⟨q1, q2⟩ := Rd.var_ok hve
        rw [w0] at q1
        rw [q1, q2, v0]
        dsimp only at *
        clear hve q1 q2 e1 e3 w0 l0 v0 hle t1 t2 hl1
        generalize lv (r.s.drop 1) 4 = v at *
        generalize N - (r.s.drop (1 + 4)).length = a2 at *
        generalize N - (r.s.drop 1).length = a1 at *
        generalize N - r.s.length = a at *
        unfold rdq at *
        refine W.rt [(7, cC false [(0, 0)] c1), (8, aV (U6 254)), (16, cC false [(0, 0)] c2), (22, aV (I6 0)), (27, aF), (31, aF)] [(0, 0)] [_, U6 (↑(254 : Nat) : Int) = U6 254, _, I6 (↑(0 : Nat) : Int) = I6 0, decide ((v:Int) < 65536) = false, decide ((v:Int) > (m:Int)) = false] (by kernel_rfl) (ac (c1) (ac (cg (by omega)) (ac (c2) (ac (cg (by omega)) (ac (dF (by omega)) (ao (dF (by omega))))))))
set_option maxHeartbeats 4000000 in
theorem pc_rdVar8 {nl : Bool} {N m : Nat} {bs : List Int} {r : Rd} (hr : r.In bs N) (hN : N ≤ 1000000) (hm : m < 18446744073709551616) (hnl : nl = true → N = 0) (h0 : r.e = 0) (hs : 0 < r.s.length) (hw : at0 r.s 0 = 255) :
    PC Tryd.prog G0 42 [(0, rdq nl N bs (N - r.s.length) 0)] [.at 0 [], .int .u64 m] [(0, rdq nl N bs (N - (r.var m).s.length) (r.var m).e)] (.int .u64 ((r.vn m : Nat) : Int)) := by
  refine PC.of (fn := Tryd.f42) (c := bodyOf Tryd.f42) Tryd.func42 (by kernel_rfl) (by kernel_rfl) (by kernel_rfl) (by kernel_rfl) ?_
  have hle := hr.le
  have hbl := hr.len
  have c1 := pc_rdNum (nl := nl) (w := 1) hr hN (by omega) (by omega) (by omega) hnl
  have e1 : r.tk 1 = ⟨r.s.drop 1, 0⟩ := by unfold Rd.tk; rw [if_pos h0, if_pos (by omega)]
  have e3 : r.nv 1 = 255 := by unfold Rd.nv; rw [if_pos ⟨h0, by omega⟩, lv_one, hw]
  rw [e1, e3, h0] at c1
  have hr1 : (Rd.mk (r.s.drop 1) 0).In bs N := by rw [← e1]; exact hr.tk 1
  have c2 := pc_rdNum (nl := nl) (w := 8) hr1 hN (by show 0 ≤ 100; omega) (by omega) (by omega) hnl
  have w0 : wdt (at0 r.s 0) = 8 := by rw [hw]; rfl
  have l0 : lst (at0 r.s 0) = 4294967296 := by rw [hw]; rfl
  have v0 : vraw r.s = lv (r.s.drop 1) 8 := by unfold vraw; rw [w0, if_neg (by omega)]
  have hl1 : (r.s.drop 1).length = r.s.length - 1 := List.length_drop
  by_cases hsh : r.s.length < 1 + 8
  · have hve : r.ve m = 2 := by unfold Rd.ve; rw [if_pos h0, w0, if_pos hsh]
    obtain ⟨q1, q2⟩ := Rd.var_of hve (by omega)
    have t1 : (Rd.mk (r.s.drop 1) 0).tk 8 = ⟨r.s.drop 1, 2⟩ := by unfold Rd.tk; rw [if_pos rfl, if_neg (by show ¬ _ ≤ (r.s.drop 1).length; omega)]
    have t2 : (Rd.mk (r.s.drop 1) 0).nv 8 = 0 := by unfold Rd.nv; rw [if_neg (fun h => by have := h.2; simp only at this; omega)]
    rw [t1, t2] at c2
    rw [q1, q2]
    dsimp only at *
    have hb : N - r.s.length ≤ 1000000 := by omega
    have hb2 : N - (r.s.drop 1).length ≤ 1000000 := by omega
    clear hve q1 q2 e1 e3 w0 l0 v0 hle t1 t2 hl1
    generalize N - (r.s.drop 1).length = a1 at *
    generalize N - r.s.length = a at *
    unfold rdq at *
    refine W.rt [(7, cC false [(0, 0)] c1), (8, aV (U6 255)), (18, cC false [(0, 0)] c2), (19, aV (U6 0)), (24, aV (I6 2))] [(0, 0)] [_, U6 (↑(255 : Nat) : Int) = U6 255, _, U6 (↑(0 : Nat) : Int) = U6 0, I6 (↑(2 : Nat) : Int) = I6 2] (by kernel_rfl) (ac (c1) (ac (cg (by omega)) (ac (c2) (ac (cg (by omega)) (ao (cg (by omega)))))))
  · have t1 : (Rd.mk (r.s.drop 1) 0).tk 8 = ⟨r.s.drop (1 + 8), 0⟩ := by unfold Rd.tk; rw [if_pos rfl, if_pos (by show _ ≤ (r.s.drop 1).length; omega), List.drop_drop]
    have t2 : (Rd.mk (r.s.drop 1) 0).nv 8 = lv (r.s.drop 1) 8 := by unfold Rd.nv; rw [if_pos ⟨rfl, by show _ ≤ (r.s.drop 1).length; omega⟩]
    rw [t1, t2] at c2
    have hvl := vraw_lt hr.bytes
    rw [v0] at hvl
    have hve : r.ve m = if lv (r.s.drop 1) 8 < 4294967296 then 3 else if m < lv (r.s.drop 1) 8 then 4 else 0 := by unfold Rd.ve; rw [if_pos h0, w0, if_neg hsh, l0, v0]
    have hb : N - r.s.length ≤ 1000000 := by omega
    have hb2 : N - (r.s.drop 1).length ≤ 1000000 := by omega
    have hb3 : N - (r.s.drop (1 + 8)).length ≤ 1000000 := by omega
    by_cases hlt : lv (r.s.drop 1) 8 < 4294967296
    · rw [if_pos hlt] at hve
      obtain ⟨q1, q2⟩ := Rd.var_of hve (by omega)
      rw [q1, q2]
      have c3 := pc_rdFail (nl := nl) (e := 0) (a := N - (r.s.drop (1 + 8)).length) (a' := N - r.s.length) (e' := 3) hbl (by omega) (by omega) (by omega) (by omega)
      rw [if_pos rfl] at c3
      dsimp only at *
      clear hve q1 q2 e1 e3 w0 l0 v0 hle t1 t2 hl1
      generalize lv (r.s.drop 1) 8 = v at *
      generalize N - (r.s.drop (1 + 8)).length = a2 at *
      generalize N - (r.s.drop 1).length = a1 at *
      generalize N - r.s.length = a at *
      unfold rdq at *
      refine W.rt [(7, cC false [(0, 0)] c1), (8, aV (U6 255)), (18, cC false [(0, 0)] c2), (24, aV (I6 0)), (29, aT), (33, cC false [(0, 0)] c3)] [(0, 0)] [_, U6 (↑(255 : Nat) : Int) = U6 255, _, I6 (↑(0 : Nat) : Int) = I6 0, decide ((v:Int) < 4294967296) = true, _] (by kernel_rfl) (ac (c1) (ac (cg (by omega)) (ac (c2) (ac (cg (by omega)) (ac (dT (by omega)) (ao (c3)))))))
    · rw [if_neg hlt] at hve
      by_cases hgt : m < lv (r.s.drop 1) 8
      · rw [if_pos hgt] at hve
        obtain ⟨q1, q2⟩ := Rd.var_of hve (by omega)
        rw [q1, q2]
        have c3 := pc_rdFail (nl := nl) (e := 0) (a := N - (r.s.drop (1 + 8)).length) (a' := N - r.s.length) (e' := 4) hbl (by omega) (by omega) (by omega) (by omega)
        rw [if_pos rfl] at c3
        dsimp only at *
        clear hve q1 q2 e1 e3 w0 l0 v0 hle t1 t2 hl1
        generalize lv (r.s.drop 1) 8 = v at *
        generalize N - (r.s.drop (1 + 8)).length = a2 at *
        generalize N - (r.s.drop 1).length = a1 at *
        generalize N - r.s.length = a at *
        unfold rdq at *
        refine W.rt [(7, cC false [(0, 0)] c1), (8, aV (U6 255)), (18, cC false [(0, 0)] c2), (24, aV (I6 0)), (29, aF), (33, aT), (37, cC false [(0, 0)] c3)] [(0, 0)] [_, U6 (↑(255 : Nat) : Int) = U6 255, _, I6 (↑(0 : Nat) : Int) = I6 0, decide ((v:Int) < 4294967296) = false, decide ((v:Int) > (m:Int)) = true, _] (by kernel_rfl) (ac (c1) (ac (cg (by omega)) (ac (c2) (ac (cg (by omega)) (ac (dF (by omega)) (ac (dT (by omega)) (ao (c3))))))))
      · rw [if_neg hgt] at hve
        obtain ⟨q1, q2⟩ := Rd.var_ok hve
        rw [w0] at q1
        rw [q1, q2, v0]
        dsimp only at *
        clear hve q1 q2 e1 e3 w0 l0 v0 hle t1 t2 hl1
        generalize lv (r.s.drop 1) 8 = v at *
        generalize N - (r.s.drop (1 + 8)).length = a2 at *
        generalize N - (r.s.drop 1).length = a1 at *
        generalize N - r.s.length = a at *
        unfold rdq at *
        refine W.rt [(7, cC false [(0, 0)] c1), (8, aV (U6 255)), (18, cC false [(0, 0)] c2), (24, aV (I6 0)), (29, aF), (33, aF)] [(0, 0)] [_, U6 (↑(255 : Nat) : Int) = U6 255, _, I6 (↑(0 : Nat) : Int) = I6 0, decide ((v:Int) < 4294967296) = false, decide ((v:Int) > (m:Int)) = false] (by kernel_rfl) (ac (c1) (ac (cg (by omega)) (ac (c2) (ac (cg (by omega)) (ac (dF (by omega)) (ao (dF (by omega))))))))
theorem pc_rdVar {nl : Bool} {N m : Nat} {bs : List Int} {r : Rd} (hr : r.In bs N) (hN : N ≤ 1000000) (he : r.e ≤ 100) (hm : m < 18446744073709551616) (hnl : nl = true → N = 0) :
    PC Tryd.prog G0 42 [(0, rdq nl N bs (N - r.s.length) r.e)] [.at 0 [], .int .u64 m] [(0, rdq nl N bs (N - (r.var m).s.length) (r.var m).e)] (.int .u64 ((r.vn m : Nat) : Int)) := by
  by_cases h0 : r.e = 0
  · rw [h0]
    by_cases hs : r.s.length = 0
    · have a0 : at0 r.s 0 = 0 := by rw [List.eq_nil_of_length_eq_zero hs]; rfl
      have hve : r.ve m = 2 := by unfold Rd.ve; rw [if_pos h0, a0]; exact if_pos (by show r.s.length < 1 + 0; omega)
      obtain ⟨q1, q2⟩ := Rd.var_of hve (by omega)
      rw [q1, q2]
      exact pc_rdVarS hr hN hm hnl h0 hs
    · by_cases h2 : at0 r.s 0 = 253
      · exact pc_rdVar2 hr hN hm hnl h0 (by omega) h2
      · by_cases h4 : at0 r.s 0 = 254
        · exact pc_rdVar4 hr hN hm hnl h0 (by omega) h4
        · by_cases h8 : at0 r.s 0 = 255
          · exact pc_rdVar8 hr hN hm hnl h0 (by omega) h8
          · exact pc_rdVar0 hr hN hm hnl h0 (by omega) ⟨h2, h4, h8⟩
  · have hve : r.ve m = r.e := by unfold Rd.ve; rw [if_neg h0]
    obtain ⟨q1, q2⟩ := Rd.var_of hve h0
    rw [q1, q2]
    exact pc_rdVarE hr hN he hm hnl h0
end Go.Proofs
namespace Go.Proofs
open Go Go.Pe Go.Pm
set_option maxRecDepth 100000
set_option linter.unusedVariables false
/-- a text as the reader hands it over: none, where there is an error -/
def wPV (r : Rd) (m : Nat) : PV := .vec (if r.we m = 0 then false else true) (.iarr .u8 (r.wv m).length (r.wv m))
theorem pc_rdText {nl : Bool} {N m : Nat} {bs : List Int} {r : Rd} (hr : r.In bs N) (hN : N ≤ 1000000) (he : r.e ≤ 100) (hm : m ≤ 1000000) (hnl : nl = true → N = 0) :
    PC Tryd.prog G0 43 [(0, rdq nl N bs (N - r.s.length) r.e)] [.at 0 [], .int .i64 m] [(0, rdq nl N bs (N - (r.wd m).s.length) (r.wd m).e)] (wPV r m) := by
  refine PC.of (fn := Tryd.f43) (c := bodyOf Tryd.f43) Tryd.func43 (by kernel_rfl) (by kernel_rfl) (by kernel_rfl) (by kernel_rfl) ?_
  have hle := hr.le
  have hbl := hr.len
  have h2 : mx (m : Int) 0 = (m : Int) := by unfold mx; split <;> omega
  have c1 := pc_rdVar (nl := nl) (m := m) hr hN he (by omega) hnl
  have hv := hr.var m
  have hvle := hv.le
  have hvn := Rd.vn_le r m
  unfold wPV
  by_cases h0 : r.ve m = 0
  · obtain ⟨q1, q2⟩ := Rd.var_ok h0
    have hve : (r.var m).e = 0 := by rw [q1]
    by_cases hl : r.vn m ≤ (r.var m).s.length
    · have hwe : r.we m = 0 := by unfold Rd.we; rw [if_pos h0, if_pos hl]
      have hwd : r.wd m = ⟨(r.var m).s.drop (r.vn m), 0⟩ := by unfold Rd.wd; rw [if_pos hwe]
      have hwv : r.wv m = (r.var m).s.take (r.vn m) := by unfold Rd.wv; rw [if_pos hwe]
      have hlen : ((r.var m).s.take (r.vn m)).length = r.vn m := by rw [List.length_take]; omega
      have hnl' : nl = false := by
        cases nl with
        | false => rfl
        | true =>
          have := hnl rfl
          have := Rd.ve_len h0
          omega
      have c2 := pc_rdTakeY (nl := nl) (a := N - (r.var m).s.length) (w := r.vn m) hbl hN (by omega) hnl
      rw [← hv.eq] at c2
      rw [hwd, hwe, hwv, if_pos rfl, hlen]
      rw [hve] at c1
      have e4 : N - ((r.var m).s.drop (r.vn m)).length = N - (r.var m).s.length + r.vn m := by rw [List.length_drop]; omega
      dsimp only
      rw [e4]
      subst hnl'
      have hb : N - r.s.length ≤ 1000000 := by omega
      have hb2 : N - (r.var m).s.length ≤ 1000000 := by omega
      generalize (r.var m).s.take (r.vn m) = tk at *
      generalize r.vn m = v at *
      clear q1 q2 hwe hwd hwv hve hl e4
      generalize N - (r.var m).s.length = a1 at *
      generalize N - r.s.length = a at *
      generalize r.e = e at *
      unfold rdq at *
      refine W.rt [(8, aV (I6 (m:Int))), (9, aV (U6 (m:Int))), (10, cC false [(0, 0)] c1), (14, aV (I6 (v:Int))), (15, cC false [(0, 0)] c2), (20, aV (I6 0))] [(0, 0)] [I6 (mx (m:Int) (0 : Int)) = I6 (m:Int), U6 (IntKind.wrap .u64 (m:Int)) = U6 (m:Int), _, I6 (IntKind.wrap .i64 (v:Int)) = I6 (v:Int), _, I6 (↑(0 : Nat) : Int) = I6 0] (by kernel_rfl) (ac (cg (h2)) (ac (cg (w_u64 rfl (by omega) (by omega))) (ac (c1) (ac (cg (w_i64 rfl (by omega) (by omega))) (ac (c2) (ao (cg (by omega))))))))
    · have hwe : r.we m = 2 := by unfold Rd.we; rw [if_pos h0, if_neg hl]
      have hwd : r.wd m = ⟨r.s, 2⟩ := by unfold Rd.wd; rw [hwe, if_neg (by omega)]
      have hwv : r.wv m = [] := by unfold Rd.wv; rw [hwe, if_neg (by omega)]
      have c2 := pc_rdTakeS (nl := nl) (a := N - (r.var m).s.length) (w := r.vn m) hbl hN (by omega) (by omega) (by omega)
      rw [hwd, hwe, hwv, if_neg (by omega)]
      rw [hve] at c1
      dsimp only [List.length_nil]
      have hb : N - r.s.length ≤ 1000000 := by omega
      have hb2 : N - (r.var m).s.length ≤ 1000000 := by omega
      generalize r.vn m = v at *
      clear q1 q2 hwe hwd hwv hve hl
      generalize N - (r.var m).s.length = a1 at *
      generalize N - r.s.length = a at *
      generalize r.e = e at *
      unfold rdq nilB at *
      refine W.rt [(8, aV (I6 (m:Int))), (9, aV (U6 (m:Int))), (10, cC false [(0, 0)] c1), (14, aV (I6 (v:Int))), (15, cC false [(0, 0)] c2), (20, aV (I6 2))] [(0, 0)] [I6 (mx (m:Int) (0 : Int)) = I6 (m:Int), U6 (IntKind.wrap .u64 (m:Int)) = U6 (m:Int), _, I6 (IntKind.wrap .i64 (v:Int)) = I6 (v:Int), _, I6 (↑(2 : Nat) : Int) = I6 2] (by kernel_rfl) (ac (cg (h2)) (ac (cg (w_u64 rfl (by omega) (by omega))) (ac (c1) (ac (cg (w_i64 rfl (by omega) (by omega))) (ac (c2) (ao (cg (by omega))))))))
  · obtain ⟨q1, q2⟩ := Rd.var_of (r := r) (m := m) rfl h0
    have hwe : r.we m = r.ve m := by unfold Rd.we; rw [if_neg h0]
    have hwd : r.wd m = ⟨r.s, r.ve m⟩ := by unfold Rd.wd; rw [hwe, if_neg h0]
    have hwv : r.wv m = [] := by unfold Rd.wv; rw [hwe, if_neg h0]
    have hvb : r.ve m ≤ 100 := by
      unfold Rd.ve
      repeat' split
      all_goals omega
    have c2 := pc_rdTakeE (nl := nl) (a := N - r.s.length) (e := r.ve m) (w := 0) hbl (by omega) hvb h0
    rw [q1, q2] at c1
    rw [hwd, hwe, hwv, if_neg h0]
    dsimp only [List.length_nil] at *
    have hb : N - r.s.length ≤ 1000000 := by omega
    have hne : ¬ ((r.ve m : Int) = 0) := by omega
    clear q1 q2 hwe hwd hwv
    generalize r.ve m = ve at *
    generalize N - r.s.length = a at *
    generalize r.e = e at *
    unfold rdq nilB at *
    refine W.rt [(8, aV (I6 (m:Int))), (9, aV (U6 (m:Int))), (10, cC false [(0, 0)] c1), (11, aV (U6 0)), (14, aV (I6 0)), (15, cC false [(0, 0)] c2), (21, aT)] [(0, 0)] [I6 (mx (m:Int) (0 : Int)) = I6 (m:Int), U6 (IntKind.wrap .u64 (m:Int)) = U6 (m:Int), _, U6 (↑(0 : Nat) : Int) = U6 0, I6 (IntKind.wrap .i64 (0 : Int)) = I6 0, _, ((ve:Int) != 0) = true] (by kernel_rfl) (ac (cg (h2)) (ac (cg (w_u64 rfl (by omega) (by omega))) (ac (c1) (ac (cg (by omega)) (ac (cg (w_i64 rfl (by omega) (by omega))) (ac (c2) (ao (bne_iff_ne.2 (by omega)))))))))
end Go.Proofs
namespace Go.Proofs
open Go Go.Pe Go.Pm
set_option maxRecDepth 100000
set_option linter.unusedVariables false
def osh : Sh := .st 2 [.int .u64, .vec 1 (.int .u8)]
def outPV (o : OutM) : PV := .st 2 [.int .u64 ((o.v : Nat) : Int), .vec o.nl (.iarr .u8 o.b.length o.b)]
def zOuts : PV := .vec true (.parr 2 0 osh [])
def zTx : PV := .st 2 [.int .u64 0, zOuts]
def outsPV (L : List OutM) : PV := if L = [] then zOuts else .vec false (.parr 2 L.length osh (L.map outPV))
theorem Rd.tk_e {r : Rd} {n : Nat} (h : r.e ≤ 100) : (r.tk n).e ≤ 100 := by
  unfold Rd.tk
  split
  · split
    · exact Nat.zero_le _
    · show 2 ≤ 100; omega
  · exact h
theorem Rd.ve_e {r : Rd} {m : Nat} (h : r.e ≤ 100) : r.ve m ≤ 100 := by unfold Rd.ve; repeat' split
                                                                        all_goals omega
theorem Rd.we_e {r : Rd} {m : Nat} (h : r.e ≤ 100) : r.we m ≤ 100 := by
  have := Rd.ve_e (m := m) h
  unfold Rd.we; repeat' split
  all_goals omega
theorem Rd.wd_e {r : Rd} {m : Nat} (h : r.e ≤ 100) : (r.wd m).e ≤ 100 := by
  have := Rd.we_e (m := m) h
  unfold Rd.wd; split
  · exact Nat.zero_le _
  · exact this
def dsTx (nl : Bool) (N : Nat) (b : List Int) (salt n i a e : Nat) (M : List PV) : DS := ⟨[(2, .at 1 []), (4, .at 2 []), (6, .at 3 []), (30, .int .u64 n), (31, .int .u64 i)],
  [(1, ⟨zTx, false⟩), (2, rdq nl N b a e), (3, ⟨.st 2 [.int .u64 salt, .ref 4 [] 2 0 i], false⟩), (4, ⟨.parr 2 i osh M, false⟩)]⟩
def dsTx0 (nl : Bool) (N : Nat) (b : List Int) (salt n a e : Nat) : DS := ⟨[(2, .at 1 []), (4, .at 2 []), (6, .at 3 []), (30, .int .u64 n), (31, .int .u64 0)],
  [(1, ⟨zTx, false⟩), (2, rdq nl N b a e), (3, ⟨.st 2 [.int .u64 salt, zOuts], false⟩)]⟩
/-- what Parse tells, of the salt and the outputs, where e is the end's error -/
def txRes (salt : Nat) (L : List OutM) (e : Nat) : PV := .tup [if e = 0 then .st 2 [.int .u64 salt, outsPV L] else zTx, .int .i64 e]
theorem endE_e {r : Rd} (h : r.e ≤ 100) : endE r ≤ 100 := by unfold endE; repeat' split
                                                             all_goals omega
theorem outsR_e : ∀ {n : Nat} {r : Rd}, r.e ≤ 100 → (outsR n r).e ≤ 100
  | 0, _, h => h
  | n + 1, r, h => outsR_e (n := n) (Rd.wd_e (Rd.tk_e h))
theorem W_tx {nl : Bool} {N : Nat} {b : List Int} {salt n : Nat} (hN : N ≤ 1000000) (hnl : nl = true → N = 0) (hn : n ≤ 8) : ∀ (k i : Nat) (r : Rd) (L : List OutM), L.length = i → 0 < i → i + k = n → r.In b N → r.e ≤ 100 →
    W Tryd.prog G0 Tryd.f25 [] [] (txRes salt (L ++ outsM k r) (endE (outsR k r))) (loopAt Tryd.f25 0) (dsTx nl N b salt n i (N - r.s.length) r.e (L.map outPV))
  | 0, i, r, L, hL, hi, hk, hr, he => by
    have hc := pc_rdEnd (nl := nl) hr hN he
    have hbl := hr.len
    have hle := hr.le
    have heb := endE_e he
    have hMl : (L.map outPV).length = i := by rw [List.length_map, hL]
    have hLne : L ≠ [] := by intro e; rw [e] at hL; simp at hL; omega
    have hin : i = n := by omega
    show W _ _ _ _ _ (txRes salt (L ++ []) (endE r)) _ _
    rw [List.append_nil]
    unfold txRes outsPV
    rw [if_neg hLne, hL]
    have hT : (L.map outPV).take i = L.map outPV := List.take_of_length_le (by omega)
    subst hin
    by_cases h0 : endE r = 0
    · rw [if_pos h0]
      rw [h0] at hc ⊢
      generalize L.map outPV = M at *
      generalize N - r.s.length = a at *
      generalize r.e = e at *
      unfold dsTx rdq zTx zOuts at *
      refine W.ret [(0, aF), (2, cC false [(2, 0)] hc), (3, aV (I6 0))] [] [decide ((i:Int) < (i:Int)) = false, _, I6 (↑(0 : Nat) : Int) = I6 0, 0 + i ≤ i, PV.tup [PV.st 2 [U6 (salt:Int), PV.vec false (PV.parr 2 i (Sh.st 2 [Sh.int IntKind.u64, Sh.vec 1 (Sh.int IntKind.u8)]) (List.take i M))], I6 0] = PV.tup [PV.st 2 [U6 (salt:Int), PV.vec false (PV.parr 2 i (Sh.st 2 [Sh.int IntKind.u64, Sh.vec 1 (Sh.int IntKind.u8)]) M)], I6 (↑(0 : Nat) : Int)]] (by kernel_rfl) (ac (dF (by omega)) (ac (hc) (ac (cg (by omega)) (ac (by omega) (ao (by (simp; omega)))))))
    · rw [if_neg h0]
      have hne : ¬ ((endE r : Int) = 0) := by omega
      generalize L.map outPV = M at *
      generalize endE r = ee at *
      generalize N - r.s.length = a at *
      generalize r.e = e at *
      unfold dsTx rdq zTx zOuts at *
      refine W.rt [(0, aF), (2, cC false [(2, 0)] hc), (5, aT)] [] [decide ((i:Int) < (i:Int)) = false, _, ((ee:Int) != 0) = true] (by kernel_rfl) (ac (dF (by omega)) (ac (hc) (ao (bne_iff_ne.2 (by omega)))))
  | k + 1, i, r, L, hL, hi, hk, hr, he => by
    have hbl := hr.len
    have hle := hr.le
    have he1 := Rd.tk_e (n := 8) he
    have hr1 := hr.tk 8
    have hle1 := hr1.le
    have hr2 : (outR r).In b N := hr1.wd 64
    have hle2 := hr2.le
    have c1 := pc_rdNum (nl := nl) (w := 8) hr hN he (by omega) (by omega) hnl
    have c2 := pc_rdText (nl := nl) (m := 64) hr1 hN he1 (by omega) hnl
    have hw := W_tx (nl := nl) (salt := salt) hN hnl hn k (i + 1) (outR r) (L ++ [outM r]) (by rw [List.length_append, hL]; rfl) (by omega) (by omega) hr2 (Rd.wd_e he1)
    rw [List.append_assoc, List.map_append] at hw
    have hq1 : [outM r].map outPV = [.st 2 [.int .u64 ((r.nv 8 : Nat) : Int), wPV (r.tk 8) 64]] := rfl
    rw [hq1] at hw
    clear hq1
    show W _ _ _ _ _ (txRes salt (L ++ ([outM r] ++ outsM k (outR r))) (endE (outsR k (outR r)))) _ _
    have hMl : (L.map outPV).length = i := by rw [List.length_map, hL]
    unfold outR at *
    unfold wPV at *
    generalize txRes salt (L ++ ([outM r] ++ outsM k ((r.tk 8).wd 64))) (endE (outsR k ((r.tk 8).wd 64))) = res at *
    generalize L.map outPV = M at *
    have hb0 : N - r.s.length ≤ 1000000 := by omega
    have hb1 : N - (r.tk 8).s.length ≤ 1000000 := by omega
    have hb2 : N - ((r.tk 8).wd 64).s.length ≤ 1000000 := by omega
    generalize N - ((r.tk 8).wd 64).s.length = a2 at *
    generalize N - (r.tk 8).s.length = a1 at *
    generalize N - r.s.length = a at *
    generalize ((r.tk 8).wd 64).e = ee2 at *
    generalize (r.tk 8).e = ee1 at *
    generalize r.nv 8 = v at *
    generalize (r.tk 8).wv 64 = tx at *
    generalize (if (r.tk 8).we 64 = 0 then false else true) = nq at *
    generalize r.e = e at *
    unfold dsTx rdq zTx zOuts at *
    refine W.sg 0 [(0, aT), (2, cC false [(2, 0)] c1), (7, cC false [(2, 0)] c2), (14, Ans.ups [(4, none), (288, some (Row.mk (PV.parr 2 (i + 1) (Sh.st 2 [Sh.int IntKind.u64, Sh.vec 1 (Sh.int IntKind.u8)]) (M ++ [PV.st 2 [U6 (v:Int), PV.vec nq (B8 (List.length tx) tx)]])) false))]), (17, aV (U6 (↑(i + 1) : Int)))] [(1, 1), (2, 2), (3, 3), (288, 4)] (⟨[(2, .at 1 []), (4, .at 2 []), (6, .at 3 []), (30, .int .u64 n), (31, .int .u64 ((i + 1 : Nat) : Int))], [(1, ⟨.st 2 [.int .u64 0, .vec true (.parr 2 0 osh [])], false⟩), (2, ⟨.st 3 [.vec nl (.iarr .u8 N b), .int .i64 (a2 : Int), .int .i64 (ee2 : Int)], false⟩), (3, ⟨.st 2 [.int .u64 salt, .ref 4 [] 2 0 (i + 1)], false⟩), (4, ⟨.parr 2 (i + 1) osh (M ++ [.st 2 [.int .u64 (v : Int), .vec nq (.iarr .u8 tx.length tx)]]), false⟩)]⟩ : DS) [decide ((i:Int) < (n:Int)) = true, _, _, ([(4, none), (288, some (Row.mk (PV.parr 2 (i + 1) (Sh.st 2 [Sh.int IntKind.u64, Sh.vec 1 (Sh.int IntKind.u8)]) (List.take i M ++ [PV.st 2 [U6 (v:Int), PV.vec nq (B8 (List.length tx) tx)]])) false))] : List (Nat × Option Row)) = [(4, none), (288, some (Row.mk (PV.parr 2 (i + 1) (Sh.st 2 [Sh.int IntKind.u64, Sh.vec 1 (Sh.int IntKind.u8)]) (M ++ [PV.st 2 [U6 (v:Int), PV.vec nq (B8 (List.length tx) tx)]])) false))], 1 ≤ 1, 0 + i = i, (i + 1) * 32 ≤ 140737488355328, i + 1 ≤ 9223372036854775807, U6 (IntKind.wrap .u64 ((i:Int) + 1)) = U6 (↑(i + 1) : Int)] (by kernel_rfl) (ac (dT (by omega)) (ac (c1) (ac (c2) (ac (by rw [List.take_of_length_le (show List.length M ≤ i by omega)]) (ac (by omega) (ac (by omega) (ac (by omega) (ac (by omega) (ao (cg (w_u64 rfl (by omega) (by omega)))))))))))) ?_
    exact hw
theorem W_tx0 {nl : Bool} {N : Nat} {b : List Int} {salt n : Nat} (hN : N ≤ 1000000) (hnl : nl = true → N = 0) (hn : n ≤ 8) (r : Rd) (hr : r.In b N) (he : r.e ≤ 100) :
    W Tryd.prog G0 Tryd.f25 [] [] (txRes salt (outsM n r) (endE (outsR n r))) (loopAt Tryd.f25 0) (dsTx0 nl N b salt n (N - r.s.length) r.e) := by
  have hbl := hr.len
  have hle := hr.le
  cases n with
  | zero =>
    have hc := pc_rdEnd (nl := nl) hr hN he
    have heb := endE_e he
    show W _ _ _ _ _ (txRes salt [] (endE r)) _ _
    unfold txRes outsPV
    rw [if_pos rfl]
    by_cases h0 : endE r = 0
    · rw [if_pos h0]
      rw [h0] at hc ⊢
      generalize N - r.s.length = a at *
      generalize r.e = e at *
      unfold dsTx0 rdq zTx zOuts at *
      refine W.ret [(2, cC false [(2, 0)] hc), (3, aV (I6 0))] [] [_, I6 (↑(0 : Nat) : Int) = I6 0, PV.tup [PV.st 2 [U6 (salt:Int), PV.vec true (PV.parr 2 0 (Sh.st 2 [Sh.int IntKind.u64, Sh.vec 1 (Sh.int IntKind.u8)]) [])], I6 0] = PV.tup [PV.st 2 [U6 (salt:Int), PV.vec true (PV.parr 2 0 (Sh.st 2 [Sh.int IntKind.u64, Sh.vec 1 (Sh.int IntKind.u8)]) [])], I6 (↑(0 : Nat) : Int)]] (by kernel_rfl) (ac (hc) (ac (cg (by omega)) (ao rfl)))
    · rw [if_neg h0]
      have hne : ¬ ((endE r : Int) = 0) := by omega
      generalize endE r = ee at *
      generalize N - r.s.length = a at *
      generalize r.e = e at *
      unfold dsTx0 rdq zTx zOuts at *
      refine W.rt [(2, cC false [(2, 0)] hc), (5, aT)] [] [_, ((ee:Int) != 0) = true] (by kernel_rfl) (ac (hc) (ao (bne_iff_ne.2 (by omega))))
  | succ k =>
    have he1 := Rd.tk_e (n := 8) he
    have hr1 := hr.tk 8
    have hle1 := hr1.le
    have hr2 : (outR r).In b N := hr1.wd 64
    have hle2 := hr2.le
    have c1 := pc_rdNum (nl := nl) (w := 8) hr hN he (by omega) (by omega) hnl
    have c2 := pc_rdText (nl := nl) (m := 64) hr1 hN he1 (by omega) hnl
    have hw := W_tx (nl := nl) (salt := salt) hN hnl hn k 1 (outR r) [outM r] rfl (by omega) (by omega) hr2 (Rd.wd_e he1)
    have hq1 : [outM r].map outPV = [.st 2 [.int .u64 ((r.nv 8 : Nat) : Int), wPV (r.tk 8) 64]] := rfl
    rw [hq1] at hw
    clear hq1
    show W _ _ _ _ _ (txRes salt ([outM r] ++ outsM k (outR r)) (endE (outsR k (outR r)))) _ _
    unfold outR at *
    unfold wPV at *
    generalize txRes salt ([outM r] ++ outsM k ((r.tk 8).wd 64)) (endE (outsR k ((r.tk 8).wd 64))) = res at *
    have hb0 : N - r.s.length ≤ 1000000 := by omega
    have hb1 : N - (r.tk 8).s.length ≤ 1000000 := by omega
    have hb2 : N - ((r.tk 8).wd 64).s.length ≤ 1000000 := by omega
    generalize N - ((r.tk 8).wd 64).s.length = a2 at *
    generalize N - (r.tk 8).s.length = a1 at *
    generalize N - r.s.length = a at *
    generalize ((r.tk 8).wd 64).e = ee2 at *
    generalize (r.tk 8).e = ee1 at *
    generalize r.nv 8 = v at *
    generalize (r.tk 8).wv 64 = tx at *
    generalize (if (r.tk 8).we 64 = 0 then false else true) = nq at *
    generalize r.e = e at *
    have hk1 : k + 1 ≤ 8 := hn
    have hn0 : 0 < k + 1 := Nat.succ_pos k
    generalize k + 1 = n at *
    unfold dsTx dsTx0 rdq zTx zOuts at *
    refine W.seg [(0, aT), (2, cC false [(2, 0)] c1), (7, cC false [(2, 0)] c2), (17, aV (U6 1))] [(1, 1), (2, 2), (3, 3), (288, 4)] (⟨[(2, .at 1 []), (4, .at 2 []), (6, .at 3 []), (30, .int .u64 n), (31, .int .u64 (1 : Int))], [(1, ⟨.st 2 [.int .u64 0, .vec true (.parr 2 0 osh [])], false⟩), (2, ⟨.st 3 [.vec nl (.iarr .u8 N b), .int .i64 (a2 : Int), .int .i64 (ee2 : Int)], false⟩), (3, ⟨.st 2 [.int .u64 salt, .ref 4 [] 2 0 1], false⟩), (4, ⟨.parr 2 1 osh [.st 2 [.int .u64 (v : Int), .vec nq (.iarr .u8 tx.length tx)]], false⟩)]⟩ : DS) (todo' := loopAt Tryd.f25 0) [decide (0 < (n:Int)) = true, _, _, 1 ≤ 1, 0 < 1, 32 ≤ 140737488355328, 1 ≤ 9223372036854775807, U6 (IntKind.wrap .u64 ((0 : Int) + (1 : Int))) = U6 1, rr (PV.at 1 []), rr (PV.at 2 []), rr (PV.at 3 []), rr (U6 (n:Int)), U6 1 = U6 (↑(1 : Nat) : Int), rr (PV.st 2 [U6 0, PV.vec true (PV.parr 2 0 (Sh.st 2 [Sh.int IntKind.u64, Sh.vec 1 (Sh.int IntKind.u8)]) [])]), rr (PV.st 3 [PV.vec nl (B8 N b), I6 (a2:Int), I6 (ee2:Int)]), rr (PV.st 2 [U6 (salt:Int), PV.ref 4 [] 2 0 1]), rr (PV.parr 2 1 (Sh.st 2 [Sh.int IntKind.u64, Sh.vec 1 (Sh.int IntKind.u8)]) [PV.st 2 [U6 (v:Int), PV.vec nq (B8 (List.length tx) tx)]])] (by kernel_rfl) (ac (dT (by omega)) (ac (c1) (ac (c2) (ac (by omega) (ac (by omega) (ac (by omega) (ac (by omega) (ac (cg (w_u64 rfl (by omega) (by omega))) (ac rfl (ac rfl (ac rfl (ac rfl (ac (cg (by omega)) (ac rfl (ac rfl (ac rfl (ao rfl))))))))))))))))) ?_
    exact hw
/-- what Parse tells of bytes -/
def txP (b : List Int) : PV := txRes (txSalt b) (txOuts b) (txE b)
theorem pc_parse {nl : Bool} {N : Nat} {b : List Int} (hl : b.length = N) (hb : Bytes b) (hN : N ≤ 1000000) (hnl : nl = true → N = 0) : PC Tryd.prog G0 25 [] [.vec nl (.iarr .u8 N b)] [] (txP b) := by
  refine PC.of (fn := Tryd.f25) (c := bodyOf Tryd.f25) Tryd.func25 (by kernel_rfl) (by kernel_rfl) (by kernel_rfl) (by kernel_rfl) ?_
  have hr : (Rd.mk b 0).In b N := ⟨hl, by show b.length ≤ N; omega, by show b = b.drop (N - b.length); rw [hl, Nat.sub_self]; rfl, hb⟩
  have c0 := pc_rdOf (nl := nl) hN hl hnl
  have c1 := pc_rdNum (nl := nl) (w := 1) hr hN (by show 0 ≤ 100; omega) (by omega) (by omega) hnl
  have hr1 : (txR1 b).In b N := hr.tk 1
  have he1 : (txR1 b).e ≤ 100 := Rd.tk_e (by show 0 ≤ 100; omega)
  have cE := pc_rdErr (nl := nl) (N := N) (a := N - (txR1 b).s.length) (e := (txR1 b).e) hl he1
  have z0 : N - (Rd.mk b 0).s.length = 0 := by show N - b.length = 0; omega
  rw [z0] at c1
  change PC _ _ _ [(0, rdq nl N b 0 0)] _ [(0, rdq nl N b (N - (txR1 b).s.length) (txR1 b).e)] _ at c1
  have hfl : (Rd.mk b 0).nv 1 < 18446744073709551616 := by
    unfold Rd.nv
    split
    · rw [lv_one]; have := at0_lt hb 0; show at0 b 0 < _; omega
    · omega
  have hb1 : N - (txR1 b).s.length ≤ 1000000 := by omega
  unfold txP
  by_cases hf : txFirst b
  · have e3 : txE b = 3 := by unfold txE; rw [if_pos hf]
    rw [e3]
    unfold txRes
    rw [if_neg (by omega)]
    clear hr hr1 z0 e3
    rcases hf with h64 | ⟨h0, h1⟩
    · have hN64 : N = 64 := by omega
      generalize N - (txR1 b).s.length = a1 at *
      generalize (Rd.mk b 0).nv 1 = v at *
      generalize (txR1 b).e = e1 at *
      unfold rdq zTx zOuts at *
      refine W.ret [((3 : Nat), Ans.call false [] [((1 : Nat), Row.mk (PV.st (3 : Nat) [PV.vec nl (PV.iarr IntKind.u8 N b), PV.int IntKind.i64 (↑(0 : Nat) : Int), PV.int IntKind.i64 (↑(0 : Nat) : Int)]) false)] (PV.at (1 : Nat) [])), ((6 : Nat), Ans.call false [((113 : Nat), (0 : Nat))] [((0 : Nat), Row.mk (PV.st (3 : Nat) [PV.vec nl (PV.iarr IntKind.u8 N b), PV.int IntKind.i64 (↑a1 : Int), PV.int IntKind.i64 (↑e1 : Int)]) false)] (PV.int IntKind.u64 (↑v : Int))), ((10 : Nat), Ans.dec true)] [] [PC Tryd.prog G0 (39 : Nat) [] [PV.vec nl (PV.iarr IntKind.u8 N b)] [((1 : Nat), Row.mk (PV.st (3 : Nat) [PV.vec nl (PV.iarr IntKind.u8 N b), PV.int IntKind.i64 (↑(0 : Nat) : Int), PV.int IntKind.i64 (↑(0 : Nat) : Int)]) false)] (PV.at (1 : Nat) []), PC Tryd.prog G0 (40 : Nat) [((0 : Nat), Row.mk (PV.st (3 : Nat) [PV.vec nl (PV.iarr IntKind.u8 N b), PV.int IntKind.i64 (↑(0 : Nat) : Int), PV.int IntKind.i64 (↑(0 : Nat) : Int)]) false)] [PV.at (0 : Nat) [], PV.int IntKind.i64 (1 : Int)] [((0 : Nat), Row.mk (PV.st (3 : Nat) [PV.vec nl (PV.iarr IntKind.u8 N b), PV.int IntKind.i64 (↑a1 : Int), PV.int IntKind.i64 (↑e1 : Int)]) false)] (PV.int IntKind.u64 (↑v : Int)), ((↑N : Int) == (64 : Int)) = true, PV.tup [PV.st (2 : Nat) [PV.int IntKind.u64 (0 : Int), PV.vec true (PV.parr (2 : Nat) (0 : Nat) (Sh.st (2 : Nat) [Sh.int IntKind.u64, Sh.vec (1 : Nat) (Sh.int IntKind.u8)]) [])], PV.int IntKind.i64 (3 : Int)] = PV.tup [PV.st (2 : Nat) [PV.int IntKind.u64 (0 : Int), PV.vec true (PV.parr (2 : Nat) (0 : Nat) (Sh.st (2 : Nat) [Sh.int IntKind.u64, Sh.vec (1 : Nat) (Sh.int IntKind.u8)]) [])], PV.int IntKind.i64 (↑(3 : Nat) : Int)]] (by kernel_rfl) (ac (by exact c0) (ac (by exact c1) (ac (by exact decide_eq_true (by omega)) (ao (by rfl)))))
    · have h1' : ¬ (((Rd.mk b 0).nv 1 : Int) = 1) := by omega
      rw [h0] at c1 cE
      generalize N - (txR1 b).s.length = a1 at *
      generalize (Rd.mk b 0).nv 1 = v at *
      generalize (txR1 b).e = e1 at *
      unfold rdq zTx zOuts at *
      by_cases hN64 : N = 64
      · refine W.ret [((3 : Nat), Ans.call false [] [((1 : Nat), Row.mk (PV.st (3 : Nat) [PV.vec nl (PV.iarr IntKind.u8 N b), PV.int IntKind.i64 (↑(0 : Nat) : Int), PV.int IntKind.i64 (↑(0 : Nat) : Int)]) false)] (PV.at (1 : Nat) [])), ((6 : Nat), Ans.call false [((113 : Nat), (0 : Nat))] [((0 : Nat), Row.mk (PV.st (3 : Nat) [PV.vec nl (PV.iarr IntKind.u8 N b), PV.int IntKind.i64 (↑a1 : Int), PV.int IntKind.i64 (↑(0 : Nat) : Int)]) false)] (PV.int IntKind.u64 (↑v : Int))), ((10 : Nat), Ans.dec true)] [] [PC Tryd.prog G0 (39 : Nat) [] [PV.vec nl (PV.iarr IntKind.u8 N b)] [((1 : Nat), Row.mk (PV.st (3 : Nat) [PV.vec nl (PV.iarr IntKind.u8 N b), PV.int IntKind.i64 (↑(0 : Nat) : Int), PV.int IntKind.i64 (↑(0 : Nat) : Int)]) false)] (PV.at (1 : Nat) []), PC Tryd.prog G0 (40 : Nat) [((0 : Nat), Row.mk (PV.st (3 : Nat) [PV.vec nl (PV.iarr IntKind.u8 N b), PV.int IntKind.i64 (↑(0 : Nat) : Int), PV.int IntKind.i64 (↑(0 : Nat) : Int)]) false)] [PV.at (0 : Nat) [], PV.int IntKind.i64 (1 : Int)] [((0 : Nat), Row.mk (PV.st (3 : Nat) [PV.vec nl (PV.iarr IntKind.u8 N b), PV.int IntKind.i64 (↑a1 : Int), PV.int IntKind.i64 (↑(0 : Nat) : Int)]) false)] (PV.int IntKind.u64 (↑v : Int)), ((↑N : Int) == (64 : Int)) = true, PV.tup [PV.st (2 : Nat) [PV.int IntKind.u64 (0 : Int), PV.vec true (PV.parr (2 : Nat) (0 : Nat) (Sh.st (2 : Nat) [Sh.int IntKind.u64, Sh.vec (1 : Nat) (Sh.int IntKind.u8)]) [])], PV.int IntKind.i64 (3 : Int)] = PV.tup [PV.st (2 : Nat) [PV.int IntKind.u64 (0 : Int), PV.vec true (PV.parr (2 : Nat) (0 : Nat) (Sh.st (2 : Nat) [Sh.int IntKind.u64, Sh.vec (1 : Nat) (Sh.int IntKind.u8)]) [])], PV.int IntKind.i64 (↑(3 : Nat) : Int)]] (by kernel_rfl) (ac (by exact c0) (ac (by exact c1) (ac (by exact decide_eq_true (by omega)) (ao (by rfl)))))
      · refine W.ret [((3 : Nat), Ans.call false [] [((1 : Nat), Row.mk (PV.st (3 : Nat) [PV.vec nl (PV.iarr IntKind.u8 N b), PV.int IntKind.i64 (↑(0 : Nat) : Int), PV.int IntKind.i64 (↑(0 : Nat) : Int)]) false)] (PV.at (1 : Nat) [])), ((6 : Nat), Ans.call false [((113 : Nat), (0 : Nat))] [((0 : Nat), Row.mk (PV.st (3 : Nat) [PV.vec nl (PV.iarr IntKind.u8 N b), PV.int IntKind.i64 (↑a1 : Int), PV.int IntKind.i64 (↑(0 : Nat) : Int)]) false)] (PV.int IntKind.u64 (↑v : Int))), ((10 : Nat), Ans.dec false), ((13 : Nat), Ans.call false [((113 : Nat), (0 : Nat))] [((0 : Nat), Row.mk (PV.st (3 : Nat) [PV.vec nl (PV.iarr IntKind.u8 N b), PV.int IntKind.i64 (↑a1 : Int), PV.int IntKind.i64 (↑(0 : Nat) : Int)]) false)] (PV.int IntKind.i64 (↑(0 : Nat) : Int))), ((17 : Nat), Ans.dec true)] [] [PC Tryd.prog G0 (39 : Nat) [] [PV.vec nl (PV.iarr IntKind.u8 N b)] [((1 : Nat), Row.mk (PV.st (3 : Nat) [PV.vec nl (PV.iarr IntKind.u8 N b), PV.int IntKind.i64 (↑(0 : Nat) : Int), PV.int IntKind.i64 (↑(0 : Nat) : Int)]) false)] (PV.at (1 : Nat) []), PC Tryd.prog G0 (40 : Nat) [((0 : Nat), Row.mk (PV.st (3 : Nat) [PV.vec nl (PV.iarr IntKind.u8 N b), PV.int IntKind.i64 (↑(0 : Nat) : Int), PV.int IntKind.i64 (↑(0 : Nat) : Int)]) false)] [PV.at (0 : Nat) [], PV.int IntKind.i64 (1 : Int)] [((0 : Nat), Row.mk (PV.st (3 : Nat) [PV.vec nl (PV.iarr IntKind.u8 N b), PV.int IntKind.i64 (↑a1 : Int), PV.int IntKind.i64 (↑(0 : Nat) : Int)]) false)] (PV.int IntKind.u64 (↑v : Int)), ((↑N : Int) == (64 : Int)) = false, PC Tryd.prog G0 (41 : Nat) [((0 : Nat), Row.mk (PV.st (3 : Nat) [PV.vec nl (PV.iarr IntKind.u8 N b), PV.int IntKind.i64 (↑a1 : Int), PV.int IntKind.i64 (↑(0 : Nat) : Int)]) false)] [PV.at (0 : Nat) []] [((0 : Nat), Row.mk (PV.st (3 : Nat) [PV.vec nl (PV.iarr IntKind.u8 N b), PV.int IntKind.i64 (↑a1 : Int), PV.int IntKind.i64 (↑(0 : Nat) : Int)]) false)] (PV.int IntKind.i64 (↑(0 : Nat) : Int)), ((↑v : Int) != (1 : Int)) = true, PV.tup [PV.st (2 : Nat) [PV.int IntKind.u64 (0 : Int), PV.vec true (PV.parr (2 : Nat) (0 : Nat) (Sh.st (2 : Nat) [Sh.int IntKind.u64, Sh.vec (1 : Nat) (Sh.int IntKind.u8)]) [])], PV.int IntKind.i64 (3 : Int)] = PV.tup [PV.st (2 : Nat) [PV.int IntKind.u64 (0 : Int), PV.vec true (PV.parr (2 : Nat) (0 : Nat) (Sh.st (2 : Nat) [Sh.int IntKind.u64, Sh.vec (1 : Nat) (Sh.int IntKind.u8)]) [])], PV.int IntKind.i64 (↑(3 : Nat) : Int)]] (by kernel_rfl) (ac (by exact c0) (ac (by exact c1) (ac (by exact decide_eq_false (by omega)) (ac (by exact cE) (ac (by exact bne_iff_ne.2 (by omega)) (ao (by rfl)))))))
  · have eE : txE b = endE (outsR (txN b) (txR3 b)) := by unfold txE; rw [if_neg hf]; rfl
    rw [eE]
    have c2 := pc_rdNum (nl := nl) (w := 8) hr1 hN he1 (by omega) (by omega) hnl
    have hr2 : (txR2 b).In b N := hr1.tk 8
    have he2 : (txR2 b).e ≤ 100 := Rd.tk_e he1
    have c3 := pc_rdVar (nl := nl) (m := 8) hr2 hN he2 (by omega) hnl
    have hr3 : (txR3 b).In b N := hr2.var 8
    have he3 : (txR3 b).e ≤ 100 := by
      show ((txR2 b).var 8).e ≤ 100
      have := Rd.ve_e (m := 8) he2
      unfold Rd.var
      split
      · exact Nat.zero_le _
      · exact this
    have hw := W_tx0 (nl := nl) (salt := txSalt b) hN hnl (n := txN b) (Rd.vn_le _ _) (txR3 b) hr3 he3
    change W _ _ _ _ _ (txRes (txSalt b) (txOuts b) _) _ _ at hw
    change PC _ _ _ _ _ [(0, rdq nl N b (N - (txR2 b).s.length) (txR2 b).e)] (.int .u64 ((txSalt b : Nat) : Int)) at c2
    change PC _ _ _ _ _ [(0, rdq nl N b (N - (txR3 b).s.length) (txR3 b).e)] (.int .u64 ((txN b : Nat) : Int)) at c3
    have hn8 : txN b ≤ 8 := Rd.vn_le _ _
    have hb2 : N - (txR2 b).s.length ≤ 1000000 := by omega
    have hb3 : N - (txR3 b).s.length ≤ 1000000 := by omega
    have hN64 : ¬ ((N : Int) = 64) := by intro e; exact hf (.inl (by omega))
    have hfirst : (txR1 b).e = 0 → ((Rd.mk b 0).nv 1 : Int) = 1 := fun h => by
      by_cases h1 : (Rd.mk b 0).nv 1 = 1
      · rw [h1]; rfl
      · exact absurd (.inr ⟨h, h1⟩) hf
    generalize txRes (txSalt b) (txOuts b) (endE (outsR (txN b) (txR3 b))) = res at *
    clear eE hr hr1 hr2 hr3 z0 hf
    generalize N - (txR3 b).s.length = a3 at *
    generalize N - (txR2 b).s.length = a2 at *
    generalize N - (txR1 b).s.length = a1 at *
    generalize (txR3 b).e = ee3 at *
    generalize (txR2 b).e = ee2 at *
    generalize txN b = n at *
    generalize txSalt b = salt at *
    generalize (Rd.mk b 0).nv 1 = v at *
    by_cases he0 : (txR1 b).e = 0
    · have hv := hfirst he0
      rw [he0] at c1 c2 cE
      generalize (txR1 b).e = ee1 at *
      unfold dsTx0 rdq zTx zOuts at *
      refine W.sg 0 [(3, Ans.call false [] [((1 : Nat), Row.mk (PV.st (3 : Nat) [PV.vec nl (PV.iarr IntKind.u8 N b), PV.int IntKind.i64 (↑(0 : Nat) : Int), PV.int IntKind.i64 (↑(0 : Nat) : Int)]) false)] (PV.at (1 : Nat) [])), (6, Ans.call false [((113 : Nat), (0 : Nat))] [((0 : Nat), Row.mk (PV.st (3 : Nat) [PV.vec nl (PV.iarr IntKind.u8 N b), PV.int IntKind.i64 (↑a1 : Int), PV.int IntKind.i64 (↑(0 : Nat) : Int)]) false)] (PV.int IntKind.u64 (↑v : Int))), (7, Ans.val (PV.int IntKind.u64 (1 : Int))), (10, Ans.dec false), (13, Ans.call false [((113 : Nat), (0 : Nat))] [((0 : Nat), Row.mk (PV.st (3 : Nat) [PV.vec nl (PV.iarr IntKind.u8 N b), PV.int IntKind.i64 (↑a1 : Int), PV.int IntKind.i64 (↑(0 : Nat) : Int)]) false)] (PV.int IntKind.i64 (↑(0 : Nat) : Int))), (21, Ans.call false [((113 : Nat), (0 : Nat))] [((0 : Nat), Row.mk (PV.st (3 : Nat) [PV.vec nl (PV.iarr IntKind.u8 N b), PV.int IntKind.i64 (↑a2 : Int), PV.int IntKind.i64 (↑ee2 : Int)]) false)] (PV.int IntKind.u64 (↑salt : Int))), (26, Ans.call false [((113 : Nat), (0 : Nat))] [((0 : Nat), Row.mk (PV.st (3 : Nat) [PV.vec nl (PV.iarr IntKind.u8 N b), PV.int IntKind.i64 (↑a3 : Int), PV.int IntKind.i64 (↑ee3 : Int)]) false)] (PV.int IntKind.u64 (↑n : Int)))] [((64 : Nat), (1 : Nat)), ((113 : Nat), (2 : Nat)), ((432 : Nat), (3 : Nat))] (DS.mk [((2 : Nat), PV.at (1 : Nat) []), ((4 : Nat), PV.at (2 : Nat) []), ((6 : Nat), PV.at (3 : Nat) []), ((30 : Nat), PV.int IntKind.u64 (↑n : Int)), ((31 : Nat), PV.int IntKind.u64 (0 : Int))] [((1 : Nat), Row.mk (PV.st (2 : Nat) [PV.int IntKind.u64 (0 : Int), PV.vec true (PV.parr (2 : Nat) (0 : Nat) osh [])]) false), ((2 : Nat), Row.mk (PV.st (3 : Nat) [PV.vec nl (PV.iarr IntKind.u8 N b), PV.int IntKind.i64 (↑a3 : Int), PV.int IntKind.i64 (↑ee3 : Int)]) false), ((3 : Nat), Row.mk (PV.st (2 : Nat) [PV.int IntKind.u64 (↑salt : Int), PV.vec true (PV.parr (2 : Nat) (0 : Nat) osh [])]) false)]) [PC Tryd.prog G0 (39 : Nat) [] [PV.vec nl (PV.iarr IntKind.u8 N b)] [((1 : Nat), Row.mk (PV.st (3 : Nat) [PV.vec nl (PV.iarr IntKind.u8 N b), PV.int IntKind.i64 (↑(0 : Nat) : Int), PV.int IntKind.i64 (↑(0 : Nat) : Int)]) false)] (PV.at (1 : Nat) []), PC Tryd.prog G0 (40 : Nat) [((0 : Nat), Row.mk (PV.st (3 : Nat) [PV.vec nl (PV.iarr IntKind.u8 N b), PV.int IntKind.i64 (↑(0 : Nat) : Int), PV.int IntKind.i64 (↑(0 : Nat) : Int)]) false)] [PV.at (0 : Nat) [], PV.int IntKind.i64 (1 : Int)] [((0 : Nat), Row.mk (PV.st (3 : Nat) [PV.vec nl (PV.iarr IntKind.u8 N b), PV.int IntKind.i64 (↑a1 : Int), PV.int IntKind.i64 (↑(0 : Nat) : Int)]) false)] (PV.int IntKind.u64 (↑v : Int)), PV.int IntKind.u64 (↑v : Int) = PV.int IntKind.u64 (1 : Int), ((↑N : Int) == (64 : Int)) = false, PC Tryd.prog G0 (41 : Nat) [((0 : Nat), Row.mk (PV.st (3 : Nat) [PV.vec nl (PV.iarr IntKind.u8 N b), PV.int IntKind.i64 (↑a1 : Int), PV.int IntKind.i64 (↑(0 : Nat) : Int)]) false)] [PV.at (0 : Nat) []] [((0 : Nat), Row.mk (PV.st (3 : Nat) [PV.vec nl (PV.iarr IntKind.u8 N b), PV.int IntKind.i64 (↑a1 : Int), PV.int IntKind.i64 (↑(0 : Nat) : Int)]) false)] (PV.int IntKind.i64 (↑(0 : Nat) : Int)), PC Tryd.prog G0 (40 : Nat) [((0 : Nat), Row.mk (PV.st (3 : Nat) [PV.vec nl (PV.iarr IntKind.u8 N b), PV.int IntKind.i64 (↑a1 : Int), PV.int IntKind.i64 (↑(0 : Nat) : Int)]) false)] [PV.at (0 : Nat) [], PV.int IntKind.i64 (8 : Int)] [((0 : Nat), Row.mk (PV.st (3 : Nat) [PV.vec nl (PV.iarr IntKind.u8 N b), PV.int IntKind.i64 (↑a2 : Int), PV.int IntKind.i64 (↑ee2 : Int)]) false)] (PV.int IntKind.u64 (↑salt : Int)), PC Tryd.prog G0 (42 : Nat) [((0 : Nat), Row.mk (PV.st (3 : Nat) [PV.vec nl (PV.iarr IntKind.u8 N b), PV.int IntKind.i64 (↑a2 : Int), PV.int IntKind.i64 (↑ee2 : Int)]) false)] [PV.at (0 : Nat) [], PV.int IntKind.u64 (8 : Int)] [((0 : Nat), Row.mk (PV.st (3 : Nat) [PV.vec nl (PV.iarr IntKind.u8 N b), PV.int IntKind.i64 (↑a3 : Int), PV.int IntKind.i64 (↑ee3 : Int)]) false)] (PV.int IntKind.u64 (↑n : Int))] (by kernel_rfl) (ac (by exact c0) (ac (by exact c1) (ac (by exact congrArg (PV.int _) (hv)) (ac (by exact decide_eq_false (by omega)) (ac (by exact cE) (ac (by exact c2) (ao (by exact c3)))))))) ?_
      exact hw
    · have hne : ¬ (((txR1 b).e : Int) = 0) := by omega
      clear hfirst
      generalize (txR1 b).e = ee1 at *
      unfold dsTx0 rdq zTx zOuts at *
      refine W.sg 0 [(3, Ans.call false [] [((1 : Nat), Row.mk (PV.st (3 : Nat) [PV.vec nl (PV.iarr IntKind.u8 N b), PV.int IntKind.i64 (↑(0 : Nat) : Int), PV.int IntKind.i64 (↑(0 : Nat) : Int)]) false)] (PV.at (1 : Nat) [])), (6, Ans.call false [((113 : Nat), (0 : Nat))] [((0 : Nat), Row.mk (PV.st (3 : Nat) [PV.vec nl (PV.iarr IntKind.u8 N b), PV.int IntKind.i64 (↑a1 : Int), PV.int IntKind.i64 (↑ee1 : Int)]) false)] (PV.int IntKind.u64 (↑v : Int))), (10, Ans.dec false), (13, Ans.call false [((113 : Nat), (0 : Nat))] [((0 : Nat), Row.mk (PV.st (3 : Nat) [PV.vec nl (PV.iarr IntKind.u8 N b), PV.int IntKind.i64 (↑a1 : Int), PV.int IntKind.i64 (↑ee1 : Int)]) false)] (PV.int IntKind.i64 (↑ee1 : Int))), (14, Ans.dec false), (21, Ans.call false [((113 : Nat), (0 : Nat))] [((0 : Nat), Row.mk (PV.st (3 : Nat) [PV.vec nl (PV.iarr IntKind.u8 N b), PV.int IntKind.i64 (↑a2 : Int), PV.int IntKind.i64 (↑ee2 : Int)]) false)] (PV.int IntKind.u64 (↑salt : Int))), (26, Ans.call false [((113 : Nat), (0 : Nat))] [((0 : Nat), Row.mk (PV.st (3 : Nat) [PV.vec nl (PV.iarr IntKind.u8 N b), PV.int IntKind.i64 (↑a3 : Int), PV.int IntKind.i64 (↑ee3 : Int)]) false)] (PV.int IntKind.u64 (↑n : Int)))] [((64 : Nat), (1 : Nat)), ((113 : Nat), (2 : Nat)), ((432 : Nat), (3 : Nat))] (DS.mk [((2 : Nat), PV.at (1 : Nat) []), ((4 : Nat), PV.at (2 : Nat) []), ((6 : Nat), PV.at (3 : Nat) []), ((30 : Nat), PV.int IntKind.u64 (↑n : Int)), ((31 : Nat), PV.int IntKind.u64 (0 : Int))] [((1 : Nat), Row.mk (PV.st (2 : Nat) [PV.int IntKind.u64 (0 : Int), PV.vec true (PV.parr (2 : Nat) (0 : Nat) osh [])]) false), ((2 : Nat), Row.mk (PV.st (3 : Nat) [PV.vec nl (PV.iarr IntKind.u8 N b), PV.int IntKind.i64 (↑a3 : Int), PV.int IntKind.i64 (↑ee3 : Int)]) false), ((3 : Nat), Row.mk (PV.st (2 : Nat) [PV.int IntKind.u64 (↑salt : Int), PV.vec true (PV.parr (2 : Nat) (0 : Nat) osh [])]) false)]) [PC Tryd.prog G0 (39 : Nat) [] [PV.vec nl (PV.iarr IntKind.u8 N b)] [((1 : Nat), Row.mk (PV.st (3 : Nat) [PV.vec nl (PV.iarr IntKind.u8 N b), PV.int IntKind.i64 (↑(0 : Nat) : Int), PV.int IntKind.i64 (↑(0 : Nat) : Int)]) false)] (PV.at (1 : Nat) []), PC Tryd.prog G0 (40 : Nat) [((0 : Nat), Row.mk (PV.st (3 : Nat) [PV.vec nl (PV.iarr IntKind.u8 N b), PV.int IntKind.i64 (↑(0 : Nat) : Int), PV.int IntKind.i64 (↑(0 : Nat) : Int)]) false)] [PV.at (0 : Nat) [], PV.int IntKind.i64 (1 : Int)] [((0 : Nat), Row.mk (PV.st (3 : Nat) [PV.vec nl (PV.iarr IntKind.u8 N b), PV.int IntKind.i64 (↑a1 : Int), PV.int IntKind.i64 (↑ee1 : Int)]) false)] (PV.int IntKind.u64 (↑v : Int)), ((↑N : Int) == (64 : Int)) = false, PC Tryd.prog G0 (41 : Nat) [((0 : Nat), Row.mk (PV.st (3 : Nat) [PV.vec nl (PV.iarr IntKind.u8 N b), PV.int IntKind.i64 (↑a1 : Int), PV.int IntKind.i64 (↑ee1 : Int)]) false)] [PV.at (0 : Nat) []] [((0 : Nat), Row.mk (PV.st (3 : Nat) [PV.vec nl (PV.iarr IntKind.u8 N b), PV.int IntKind.i64 (↑a1 : Int), PV.int IntKind.i64 (↑ee1 : Int)]) false)] (PV.int IntKind.i64 (↑ee1 : Int)), ((↑ee1 : Int) == (0 : Int)) = false, PC Tryd.prog G0 (40 : Nat) [((0 : Nat), Row.mk (PV.st (3 : Nat) [PV.vec nl (PV.iarr IntKind.u8 N b), PV.int IntKind.i64 (↑a1 : Int), PV.int IntKind.i64 (↑ee1 : Int)]) false)] [PV.at (0 : Nat) [], PV.int IntKind.i64 (8 : Int)] [((0 : Nat), Row.mk (PV.st (3 : Nat) [PV.vec nl (PV.iarr IntKind.u8 N b), PV.int IntKind.i64 (↑a2 : Int), PV.int IntKind.i64 (↑ee2 : Int)]) false)] (PV.int IntKind.u64 (↑salt : Int)), PC Tryd.prog G0 (42 : Nat) [((0 : Nat), Row.mk (PV.st (3 : Nat) [PV.vec nl (PV.iarr IntKind.u8 N b), PV.int IntKind.i64 (↑a2 : Int), PV.int IntKind.i64 (↑ee2 : Int)]) false)] [PV.at (0 : Nat) [], PV.int IntKind.u64 (8 : Int)] [((0 : Nat), Row.mk (PV.st (3 : Nat) [PV.vec nl (PV.iarr IntKind.u8 N b), PV.int IntKind.i64 (↑a3 : Int), PV.int IntKind.i64 (↑ee3 : Int)]) false)] (PV.int IntKind.u64 (↑n : Int))] (by kernel_rfl) (ac (by exact c0) (ac (by exact c1) (ac (by exact decide_eq_false (by omega)) (ac (by exact cE) (ac (by exact decide_eq_false (by omega)) (ac (by exact c2) (ao (by exact c3)))))))) ?_
      exact hw
end Go.Proofs
namespace Go.Pm
/-- the level above -/
def above (l : List (List Int)) : List (List Int) := (List.range ((l.length + 1) / 2)).map fun i => dsha (l.getD (2 * i) [] ++ l.getD (min (2 * i + 1) (l.length - 1)) [])
/-- the k-th level -/
def lvl (l : List (List Int)) : Nat → List (List Int)
  | 0 => l
  | k + 1 => above (lvl l k)
/-- how wide it is -/
def wid (n : Nat) : Nat → Nat
  | 0 => n
  | k + 1 => (wid n k + 1) / 2
theorem above_length (l : List (List Int)) : (above l).length = (l.length + 1) / 2 := by unfold above; rw [List.length_map, List.length_range]
theorem above_get {l : List (List Int)} {i : Nat} (h : i < (l.length + 1) / 2) : (above l).getD i [] = dsha (l.getD (2 * i) [] ++ l.getD (min (2 * i + 1) (l.length - 1)) []) := by
  unfold above
  rw [List.getD_eq_getElem?_getD, List.getElem?_map, List.getElem?_range h]
  rfl
theorem lvl_length (l : List (List Int)) : ∀ k, (lvl l k).length = wid l.length k
  | 0 => rfl
  | k + 1 => by rw [lvl, above_length, lvl_length l k, wid]
theorem wid_le (n : Nat) : ∀ k, wid n k ≤ 2 ^ 0 * 1 ↔ n ≤ 2 ^ k
  | 0 => by simp [wid]
  | k + 1 => by
    have h : ∀ k c, wid n k ≤ c ↔ n ≤ c * 2 ^ k := by
      intro k
      induction k with
      | zero => intro c; simp [wid]
      | succ k ih =>
        intro c
        rw [wid, show ((wid n k + 1) / 2 ≤ c ↔ wid n k ≤ 2 * c) by omega, ih (2 * c), Nat.pow_succ]
        rw [show 2 * c * 2 ^ k = c * (2 ^ k * 2) by rw [Nat.mul_comm (2 ^ k) 2, ← Nat.mul_assoc, Nat.mul_comm c 2]]
    have := h (k + 1) 1
    simpa using this
theorem wid_one (n k : Nat) : wid n k ≤ 1 ↔ n ≤ 2 ^ k := by have := wid_le n k; simpa using this
/-- the root -/
def depM : Nat → Nat := fun n => if n ≤ 1 then 0 else Nat.log2 (n - 1) + 1
def rootM (l : List (List Int)) : List Int := if l = [] then List.replicate 32 0 else (lvl l (depM l.length)).getD 0 []
theorem depM_le (n k : Nat) : depM n ≤ k ↔ n ≤ 2 ^ k := by
  unfold depM
  have hp := Nat.two_pow_pos k
  split
  · omega
  · rw [Nat.succ_le_iff, Nat.log2_lt (by omega)]
    omega
/-- is there a pair of two that are alike? -/
def dblM (l : List (List Int)) : Prop := ∃ k i, 2 * i + 1 < wid l.length k ∧ (lvl l k).getD (2 * i) [] = (lvl l k).getD (2 * i + 1) []
theorem depM_half {n : Nat} (h : 1 < n) : depM n = depM ((n + 1) / 2) + 1 := by
  have e : ∀ k, depM n ≤ k + 1 ↔ depM ((n + 1) / 2) ≤ k := by
    intro k
    rw [depM_le, depM_le, Nat.pow_succ]
    omega
  have h0 : depM n ≠ 0 := by
    intro h0
    have := (depM_le n 0).1 (by omega)
    simp at this
    omega
  have h1 := (e (depM ((n + 1) / 2))).2 (Nat.le_refl _)
  have h2 := (e (depM n - 1)).1 (by omega)
  omega
theorem lvl_above (l : List (List Int)) : ∀ k, lvl (above l) k = lvl l (k + 1)
  | 0 => rfl
  | k + 1 => by rw [lvl, lvl_above l k]; rfl
theorem above_nil {l : List (List Int)} (h : 0 < l.length) : above l ≠ [] := by
  intro e
  have := above_length l
  rw [e] at this
  simp at this
  omega
theorem rootM_above {l : List (List Int)} (h : 1 < l.length) : rootM (above l) = rootM l := by
  unfold rootM
  rw [if_neg (above_nil (by omega)), if_neg (by intro e; rw [e] at h; simp at h), lvl_above, above_length, depM_half h]
theorem rootM_one {l : List (List Int)} (h : l.length = 1) : rootM l = l.getD 0 [] := by
  unfold rootM
  rw [if_neg (by intro e; rw [e] at h; simp at h), h]
  rfl
theorem wid_half (n : Nat) : ∀ k, wid ((n + 1) / 2) k = wid n (k + 1)
  | 0 => rfl
  | k + 1 => by rw [wid, wid_half n k]; rfl
/-- a pair of two that are alike, at this level -/
def dbl1 (l : List (List Int)) : Prop := ∃ i, 2 * i + 1 < l.length ∧ l.getD (2 * i) [] = l.getD (2 * i + 1) []
theorem dblM_step (l : List (List Int)) : dblM l ↔ dbl1 l ∨ dblM (above l) := by
  constructor
  · rintro ⟨k, i, h1, h2⟩
    cases k with
    | zero => exact .inl ⟨i, h1, h2⟩
    | succ k => exact .inr ⟨k, i, by rw [above_length, wid_half]; exact h1, by rw [lvl_above]; exact h2⟩
  · rintro (⟨i, h1, h2⟩ | ⟨k, i, h1, h2⟩)
    · exact ⟨0, i, h1, h2⟩
    · exact ⟨k + 1, i, by rw [above_length, wid_half] at h1; exact h1, by rw [lvl_above] at h2; exact h2⟩
theorem dblM_short {l : List (List Int)} (h : l.length ≤ 1) : ¬ dblM l := by
  rintro ⟨k, i, h1, _⟩
  have := (wid_one l.length k).2 (Nat.le_trans h (Nat.two_pow_pos k))
  omega
/-- .. computed -/
def dblB (l : List (List Int)) : Bool := (List.range (depM l.length)).any fun k => (List.range ((lvl l k).length / 2)).any fun i => decide ((lvl l k).getD (2 * i) [] = (lvl l k).getD (2 * i + 1) [])
theorem dblB_iff (l : List (List Int)) : dblB l = true ↔ dblM l := by
  unfold dblB dblM
  simp only [List.any_eq_true, List.mem_range, decide_eq_true_eq]
  constructor
  · rintro ⟨k, hk, i, hi, h⟩
    rw [lvl_length] at hi
    exact ⟨k, i, by omega, h⟩
  · rintro ⟨k, i, h1, h2⟩
    refine ⟨k, ?_, i, by rw [lvl_length]; omega, h2⟩
    rcases Nat.lt_or_ge k (depM l.length) with g | g
    · exact g
    · have := (wid_one l.length k).2 ((depM_le l.length k).1 g)
      omega
end Go.Pm
namespace Go.Proofs
open Go Go.Pe Go.Pm
set_option maxRecDepth 100000
set_option linter.unusedVariables false
def hv (x : List Int) : PV := .iarr .u8 32 x
def hsE : Sh := .iarr .u8 32
def hL (n : Nat) (l : List (List Int)) : PV := .parr 32 n (.iarr .u8 32) (l.map hv)
/-- hashes -/
structure HsOk (l : List (List Int)) (n : Nat) : Prop where
  len : l.length = n
  el : ∀ x ∈ l, x.length = 32 ∧ Bytes x
theorem hv_get {l : List (List Int)} {i : Nat} (h : i < l.length) : (l.map hv).getD i .undef = hv (l.getD i []) := by
  simp [List.getD_eq_getElem?_getD, h]
theorem HsOk.get {l : List (List Int)} {n i : Nat} (h : HsOk l n) (hi : i < n) : (l.getD i []).length = 32 ∧ Bytes (l.getD i []) := by
  have hi' : i < l.length := by rw [h.len]; exact hi
  have : l.getD i [] = l[i] := by simp [List.getD_eq_getElem?_getD, hi']
  rw [this]
  exact h.el _ (List.getElem_mem hi')
theorem HsOk.above {l : List (List Int)} {n : Nat} (h : HsOk l n) : HsOk (above l) ((n + 1) / 2) := by
  refine ⟨by rw [above_length, h.len], fun x hx => ?_⟩
  unfold Pm.above at hx
  obtain ⟨i, _, rfl⟩ := List.mem_map.1 hx
  exact ⟨sha_length _, sha_bytes _⟩
theorem pc_pair {a b : List Int} (ha : a.length = 32 ∧ Bytes a) (hb : b.length = 32 ∧ Bytes b) : PC Tryd.prog G0 19 [] [.vec false (.parr 1 2 bsh [.vec false (.iarr .u8 32 a), .vec false (.iarr .u8 32 b)])] [] (.iarr .u8 32 (dsha (a ++ b))) := by
  have e : cat [(false, 32, a), (false, 32, b)] = a ++ b := by simp [cat]
  have c := pc_twice (nl := false) (l := [(false, 32, a), (false, 32, b)]) (c := 2) rfl (by intro x hx; simp at hx; rcases hx with rfl | rfl; exact ⟨ha.1, ha.2⟩; exact ⟨hb.1, hb.2⟩) (by rw [e, List.length_append]; omega) (by omega)
  rw [e] at c
  exact c
def dsAb (nl : Bool) (n : Nat) (L M : List PV) (j : Nat) : DS := ⟨[(0, .vec nl (.parr 32 n hsE L)), (3, .ref 1 [] 32 0 j), (4, .int .i64 ((2 * j : Nat) : Int))], [(1, ⟨.parr 32 j hsE M, false⟩)]⟩
theorem W_above {nl : Bool} {l : List (List Int)} {n : Nat} (ho : HsOk l n) (hn : n ≤ 100000) : ∀ (k j : Nat), k + j = (n + 1) / 2 →
    W Tryd.prog G0 Tryd.f62 [] [(1, ⟨hL ((n + 1) / 2) (above l), false⟩)] (.ref 1 [] 32 0 ((n + 1) / 2)) (loopAt Tryd.f62 0) (dsAb nl n (l.map hv) (((above l).take j).map hv) j)
  | 0, j, hk => by
    have e : (above l).take j = above l := List.take_of_length_le (by rw [above_length, ho.len]; omega)
    rw [e]
    have hj : j = (n + 1) / 2 := by omega
    rw [← hj]
    have hge : ¬ (((2 * j : Nat) : Int) < (n : Int)) := by omega
    generalize above l = M at *
    generalize l.map hv = L at *
    unfold hL
    refine W.rt [(3, aF)] (rI 1) [decide ((↑(2 * j) : Int) < (n:Int)) = false] (by kernel_rfl) (ao (dF (by omega)))
  | k + 1, j, hk => by
    have h1 : 2 * j < n := by omega
    obtain ⟨m, hm⟩ : ∃ m, m = min (2 * j + 1) (n - 1) := ⟨_, rfl⟩
    have hmI : mn (((2 * j + 1 : Nat)) : Int) ((n : Int) - 1) = (m : Int) := by unfold mn; split <;> omega
    have g1 := hv_get (l := l) (i := 2 * j) (by rw [ho.len]; omega)
    have g2 := hv_get (l := l) (i := m) (by rw [ho.len]; omega)
    have o1 := ho.get (i := 2 * j) (by omega)
    have o2 := ho.get (i := m) (by omega)
    have c1 := pc_pair o1 o2
    have hab := above_get (l := l) (i := j) (by rw [ho.len]; omega)
    rw [ho.len, ← hm] at hab
    have hsucc : (above l).take (j + 1) = (above l).take j ++ [(above l).getD j []] := by
      rw [List.take_add_one]
      congr 1
      rw [List.getD_eq_getElem?_getD, List.getElem?_eq_getElem (by rw [above_length, ho.len]; omega)]
      rfl
    have hw := W_above (nl := nl) ho hn k (j + 1) (by omega)
    rw [hsucc, hab, List.map_append] at hw
    have hMl : (((above l).take j).map hv).length = j := by rw [List.length_map, List.length_take, above_length, ho.len]; omega
    generalize dsha (l.getD (2 * j) [] ++ l.getD m []) = res at *
    generalize l.getD (2 * j) [] = x at *
    generalize l.getD m [] = y at *
    generalize ((above l).take j).map hv = M at *
    generalize l.map hv = L at *
    generalize above l = A at *
    generalize hres : (n + 1) / 2 = N at *
    unfold hv at *
    refine W.sg 0 [(3, aT), (6, aV (PV.cptr (PV.parr 32 n (Sh.iarr IntKind.u8 32) L) [Stp.idx (2 * j) 32])), (7, aE g1), (10, aV (I6 (↑(2 * j + 1) : Int))), (13, aV (I6 ((n:Int) - 1))), (14, aV (I6 (m:Int))), (16, aE g2), (24, Ans.frz [336, 352]), (25, cL true [] c1), (27, Ans.ups [(1, none), (496, some (Row.mk (PV.parr 32 (j + 1) (Sh.iarr IntKind.u8 32) (M ++ [B8 32 res])) false))]), (30, aV (I6 (↑(2 * j + 2) : Int)))] [(496, 1)] (dsAb nl n L (M ++ [res].map (PV.iarr .u8 32)) (j + 1)) [decide ((↑(2 * j) : Int) < (n:Int)) = true, PV.cptr (PV.parr 32 n (Sh.iarr IntKind.u8 32) L) [Stp.idx (Int.toNat (↑(2 * j) : Int)) 32] = PV.cptr (PV.parr 32 n (Sh.iarr IntKind.u8 32) L) [Stp.idx (2 * j) 32], 0 ≤ (↑(2 * j) : Int), (↑(2 * j) : Int) < (n:Int), _, 2 * j < n, I6 (IntKind.wrap .i64 ((↑(2 * j) : Int) + 1)) = I6 (↑(2 * j + 1) : Int), I6 (IntKind.wrap .i64 ((n:Int) - 1)) = I6 ((n:Int) - 1), I6 (mn (↑(2 * j + 1) : Int) ((n:Int) - 1)) = I6 (m:Int), 0 ≤ (m:Int), (m:Int) < (n:Int), _, m < n, (0 : Int) ≤ (0 : Int), 0 ≤ (↑(32 : Nat) : Int), (↑(32 : Nat) : Int) ≤ (↑(32 : Nat) : Int), (0 : Int) ≤ (0 : Int), 0 ≤ (↑(32 : Nat) : Int), (↑(32 : Nat) : Int) ≤ (↑(32 : Nat) : Int), 32 ≤ 32, 32 ≤ 32, 2 ≤ 2, rr ([] : List (Nat × Row)), ([PV.vec false (PV.parr 1 2 (Sh.vec 1 (Sh.int IntKind.u8)) [PV.vec false (B8 32 (List.take 32 x)), PV.vec false (B8 32 (List.take 32 y))])] : List PV) = [PV.vec false (PV.parr 1 2 (Sh.vec 1 (Sh.int IntKind.u8)) [PV.vec false (B8 32 x), PV.vec false (B8 32 y)])], _, ([(1, none), (496, some (Row.mk (PV.parr 32 (j + 1) (Sh.iarr IntKind.u8 32) (List.take j M ++ [B8 32 res])) false))] : List (Nat × Option Row)) = [(1, none), (496, some (Row.mk (PV.parr 32 (j + 1) (Sh.iarr IntKind.u8 32) (M ++ [B8 32 res])) false))], 1 ≤ 1, 0 + j = j, (j + 1) * 32 ≤ 140737488355328, j + 1 ≤ 9223372036854775807, I6 (IntKind.wrap .i64 ((↑(2 * j) : Int) + 2)) = I6 (↑(2 * j + 2) : Int)] (by kernel_rfl) (ac (dT (by omega)) (ac (by rw [show Int.toNat (↑(2 * j) : Int) = 2 * j by omega]) (ac (by omega) (ac (by omega) (ac (ex g1) (ac (by omega) (ac (cg (w_i64 rfl (by omega) (by omega))) (ac (cg (w_i64 rfl (by omega) (by omega))) (ac (cg (hmI)) (ac (by omega) (ac (by omega) (ac (ex g2) (ac (by omega) (ac (by omega) (ac (by omega) (ac (by omega) (ac (by omega) (ac (by omega) (ac (by omega) (ac (by omega) (ac (by omega) (ac (by omega) (ac rfl (ac (by rw [List.take_of_length_le (show List.length x ≤ 32 by omega), List.take_of_length_le (show List.length y ≤ 32 by omega)]) (ac (c1) (ac (by rw [List.take_of_length_le (show List.length M ≤ j by omega)]) (ac (by omega) (ac (by omega) (ac (by omega) (ac (by omega) (ao (cg (w_i64 rfl (by omega) (by omega)))))))))))))))))))))))))))))))))) ?_
    exact hw
end Go.Proofs
namespace Go.Proofs
open Go Go.Pe Go.Pm
set_option maxRecDepth 100000
set_option linter.unusedVariables false
theorem pc_above {nl : Bool} {l : List (List Int)} {n : Nat} (ho : HsOk l n) (hn : n ≤ 100000) : PC Tryd.prog G0 62 [] [.vec nl (hL n l)] [(1, ⟨hL ((n + 1) / 2) (above l), false⟩)] (.ref 1 [] 32 0 ((n + 1) / 2)) := by
  refine PC.of (fn := Tryd.f62) (c := bodyOf Tryd.f62) Tryd.func62 (by kernel_rfl) (by kernel_rfl) (by kernel_rfl) (by kernel_rfl) ?_
  have hw := W_above (nl := nl) ho hn ((n + 1) / 2) 0 (by omega)
  have e : ((above l).take 0).map hv = [] := rfl
  rw [e] at hw
  generalize above l = A at *
  unfold hL at *
  have hN : ((n : Int) + 1).tdiv 2 = (((n + 1) / 2 : Nat) : Int) := by rw [Int.tdiv_eq_ediv_of_nonneg (by omega)]; omega
  generalize (n + 1) / 2 = N at *
  generalize l.map hv = L at *
  refine W.sg 0 [(3, aV (I6 (↑(n + 1) : Int))), (4, aV (I6 (↑((n + 1) / 2) : Int)))] [(144, 1)] (dsAb nl n L [] 0) [I6 (IntKind.wrap .i64 ((n:Int) + 1)) = I6 (↑(n + 1) : Int), I6 (IntKind.wrap .i64 (Int.tdiv (↑(n + 1) : Int) (2 : Int))) = I6 (↑((n + 1) / 2) : Int), (2 : Int) ≠ (0 : Int), (0 : Int) ≤ (0 : Int), 0 ≤ (↑((n + 1) / 2) : Int), (↑((n + 1) / 2) : Int) ≤ (9223372036854775807 : Int), (↑(32 : Nat) : Int) * (↑((n + 1) / 2) : Int) ≤ (140737488355328 : Int)] (by kernel_rfl) (ac (cg (w_i64 rfl (by omega) (by omega))) (ac (cg (w_i64 rfl (by omega) (by omega))) (ac (by omega) (ac (by omega) (ac (by omega) (ac (by omega) (ao (by omega)))))))) ?_
  exact hw
theorem pc_levels {nl : Bool} {c : PV} (hc : good (.vec nl c) = true) : PC Tryd.prog G0 46 [] [.vec nl c] [(1, ⟨.vec nl c, false⟩)] (.fn 61 1) := by
  refine PC.of (fn := Tryd.f46) (c := bodyOf Tryd.f46) Tryd.func46 (by kernel_rfl) (by kernel_rfl) (by kernel_rfl) (by kernel_rfl) ?_
  refine W.rt [] [(64, 1)] [] (by kernel_rfl) trivial
end Go.Proofs
namespace Go.Proofs
open Go Go.Pe Go.Pm
set_option maxRecDepth 100000
set_option linter.unusedVariables false
def z32 : List Int := List.replicate 32 0
def yv (l : Nat) : PV := .fv (.func (.yield l) #[] #[])
def rows3 (rt : List Int) (nl : Bool) (c : PV) : List (Nat × Row) := [(1, ⟨.iarr .u8 32 z32, false⟩), (2, ⟨.iarr .u8 32 rt, false⟩), (3, ⟨.vec nl c, false⟩)]
def dRootR (rt : List Int) (nl : Bool) (c : PV) : DS := ⟨[(2, .at 1 []), (3, .at 2 []), (6, .fn 61 3)], rows3 rt nl c⟩
def frRoot : List (Nat × PV) := [(2, .at 1 []), (3, .at 2 [])]
def dLev (y : Nat) (rt : List Int) (nl : Bool) (c : PV) : DS := ⟨[(0, yv y), (1, .at 3 [])], rows3 rt nl c⟩
def dLevY (y : Nat) (rt : List Int) (nl : Bool) (c : PV) : DS := ⟨[(0, yv y), (1, .at 3 []), (3, yv y), (4, .vec nl c)], rows3 rt nl c⟩
/-- what the loop over the levels leaves in the root's place -/
def rootW (l : List (List Int)) (rt : List Int) : List Int := if l.length = 1 then l.getD 0 [] else rt
theorem W_rootEnd {rt : List Int} : WM Tryd.prog G0 Tryd.f28 [] [] (.iarr .u8 32 rt) (rgK (stopIn Tryd.f28 0)) ⟨frRoot, [(1, ⟨.iarr .u8 32 z32, false⟩), (2, ⟨.iarr .u8 32 rt, false⟩)]⟩ := by
  unfold frRoot
  refine WM.rt [] [] [] (by kernel_rfl) trivial
def dRnd (rt : List Int) (nl : Bool) (c : PV) : DS := ⟨[(2, .at 1 []), (3, .at 2 []), (4, .vec nl c)], rows3 rt nl c⟩
theorem W_rootRound {y : Nat} {rt res : List Int} {nl : Bool} {l : List (List Int)} {n : Nat} (ho : HsOk l n) (hn : n ≤ 100000)
    (hw : WH Tryd.prog G0 Tryd.f61 [1, 2] (HIter (rangeOf Tryd.f28 0 [] (.iarr .u8 32 res) [] frRoot 61) y .ready none) (.inRegion (rgOps (stopIn Tryd.f61 0)) (rgRest (stopIn Tryd.f61 0)) :: rgK (stopIn Tryd.f61 0))
      ⟨[(0, yv y), (1, .at 3 []), (5, .bool true)], rows3 (rootW l rt) nl (hL n l)⟩) :
    WH Tryd.prog G0 Tryd.f61 [1, 2] (HIter (rangeOf Tryd.f28 0 [] (.iarr .u8 32 res) [] frRoot 61) y .ready none) (stopIn Tryd.f61 0) (dLevY y rt nl (hL n l)) := by
  refine WH.yieldAt (args := [.vec nl (hL n l)]) (pinsR := [1, 2, 3]) (frI := [(0, yv y), (1, .at 3 [])]) (by kernel_rfl) (by kernel_rfl) (by kernel_rfl) (by kernel_rfl) (by kernel_rfl) (SlotsIn.ofL ⟨rfl, rfl, trivial⟩) ?_
  show WH _ _ Tryd.f28 [1, 2, 3] _ _ (⟨[(2, .at 1 []), (3, .at 2 []), (7, .vec nl (hL n l))], rows3 rt nl (hL n l)⟩)
  have hll := ho.len
  have g0 : 0 < n → (l.map hv).getD 0 .undef = hv (l.getD 0 []) := fun h => hv_get (by omega)
  have o0 : 0 < n → (l.getD 0 []).length = 32 := fun h => (ho.get h).1
  have hr : rootW l rt = if n = 1 then l.getD 0 [] else rt := by unfold rootW; rw [hll]
  rw [hr] at hw
  unfold hL at *
  generalize l.getD 0 [] = x at *
  generalize l.map hv = L at *
  unfold rows3 hv at *
  refine WH.sg [] (rI 3) (dRnd rt nl (.parr 32 n hsE L)) ([Item.beginRound, Item.code (rgBody (stopIn Tryd.f28 0))]) [] (by kernel_rfl) trivial ?_
  refine WH.begin ?_
  by_cases h1 : n = 1
  · rw [if_pos h1] at hw
    have g := g0 (by omega)
    have o := o0 (by omega)
    refine WH.sg [(2, aT), (5, aE g)] (rI 3) (⟨[], [(1, ⟨.iarr .u8 32 z32, false⟩), (2, ⟨.iarr .u8 32 x, false⟩), (3, ⟨.vec nl (.parr 32 n hsE L), false⟩)]⟩ : DS) ([]) [((n:Int) == 1) = true, (0 : Int) ≤ (0 : Int), 0 < (n:Int), _, 0 < n] (by kernel_rfl) (ac (dT (by omega)) (ac (by omega) (ac (by omega) (ac (ex g) (ao (by omega)))))) ?_
    exact WH.roundNormal (by kernel_rfl) hw
  · rw [if_neg h1] at hw
    refine WH.sg [(2, aF)] (rI 3) (⟨[], [(1, ⟨.iarr .u8 32 z32, false⟩), (2, ⟨.iarr .u8 32 rt, false⟩), (3, ⟨.vec nl (.parr 32 n hsE L), false⟩)]⟩ : DS) ([]) [((n:Int) == 1) = false] (by kernel_rfl) (ao (dF (by omega))) ?_
    exact WH.roundNormal (by kernel_rfl) hw
theorem W_rootIter {y : Nat} {res : List Int} : ∀ (n : Nat) (l : List (List Int)) (rt : List Int) (nl : Bool), HsOk l n → n ≤ 100000 → (n = 0 → res = rt) → (0 < n → res = rootM l) →
    WH Tryd.prog G0 Tryd.f61 [1, 2] (HIter (rangeOf Tryd.f28 0 [] (.iarr .u8 32 res) [] frRoot 61) y .ready none) (loopAt Tryd.f61 0) (dLev y rt nl (hL n l)) := by
  intro n
  induction n using Nat.strongRecOn with
  | _ n ih =>
    intro l rt nl ho hn h0 h1
    unfold dLev rows3
    generalize hc : hL n l = c
    refine WH.sg [] (rI 3) (⟨[(0, yv y), (1, .at 3 []), (3, yv y), (4, .vec nl c)], [(1, ⟨.iarr .u8 32 z32, false⟩), (2, ⟨.iarr .u8 32 rt, false⟩), (3, ⟨.vec nl c, false⟩)]⟩ : DS) (stopIn Tryd.f61 0) [] (by kernel_rfl) trivial ?_
    rw [← hc]
    refine W_rootRound ho hn ?_
    by_cases hgt : 1 < n
    · have c1 := pc_above (nl := nl) ho hn
      have hw := ih ((n + 1) / 2) (by omega) (above l) (rootW l rt) false ho.above (by omega) (by omega) (fun _ => by rw [h1 (by omega), rootM_above (by rw [ho.len]; exact hgt)])
      clear hc
      have hln := ho.len
      unfold hL at *
      have hT : ((above l).map hv).take ((n + 1) / 2) = (above l).map hv := List.take_of_length_le (by rw [List.length_map, above_length, hln]; omega)
      generalize rootW l rt = rw at *
      generalize (above l).map hv = M at *
      generalize (n + 1) / 2 = m at *
      generalize l.map hv = L at *
      unfold dLev at *
      unfold rows3 at *
      refine WH.seg [(6, aT), (12, c9 c1), (13, Ans.frz [257])] (rI 3) (⟨[(0, yv y), (1, .at 3 [])], [(1, ⟨.iarr .u8 32 z32, false⟩), (2, ⟨.iarr .u8 32 rw, false⟩), (3, ⟨.vec false (.parr 32 m hsE M), false⟩)]⟩ : DS) (todo' := loopAt Tryd.f61 0) [decide ((n:Int) > 1) = true, _, 0 + m ≤ m, rr (PV.fv (Value.func (Fn.yield y) #[] #[])), rr (PV.at 3 []), rr (B8 32 (List.replicate 32 0)), rr (B8 32 rw), PV.vec false (PV.parr 32 m (Sh.iarr IntKind.u8 32) (List.take m M)) = PV.vec false (PV.parr 32 m (Sh.iarr IntKind.u8 32) M)] (by kernel_rfl) (ac (dT (by omega)) (ac (c1) (ac (by omega) (ac rfl (ac rfl (ac rfl (ac rfl (ao (by (simp; omega)))))))))) ?_
      exact hw
    · have hres : res = rootW l rt := by
        unfold rootW
        rw [ho.len]
        by_cases hn1 : n = 1
        · rw [if_pos hn1, h1 (by omega), rootM_one (by rw [ho.len, hn1])]
        · rw [if_neg hn1, h0 (by omega)]
      rw [← hres]
      have hle : ¬ ((n : Int) > 1) := by omega
      clear hc
      unfold hL rows3 at *
      generalize l.map hv = L at *
      refine WH.sg [(6, aF)] (rI 2) (⟨[], [(1, ⟨.iarr .u8 32 z32, false⟩), (2, ⟨.iarr .u8 32 res, false⟩)]⟩ : DS) ([]) [decide ((n:Int) > 1) = false] (by kernel_rfl) (ao (dF (by omega))) ?_
      exact WH.iterRet Tryd.func61 (by kernel_rfl) (by intro e; cases e) rfl W_rootEnd
theorem pc_root {nl : Bool} {l : List (List Int)} {n : Nat} (ho : HsOk l n) (hn : n ≤ 100000) : PC Tryd.prog G0 28 [] [.vec nl (hL n l)] [] (hv (rootM l)) := by
  refine PC.of (fn := Tryd.f28) (c := bodyOf Tryd.f28) Tryd.func28 (by kernel_rfl) (by kernel_rfl) (by kernel_rfl) (by kernel_rfl) ?_
  have hw := fun y => W_rootIter (y := y) (res := rootM l) n l z32 nl ho hn (fun h => by
    have : l = [] := List.eq_nil_of_length_eq_zero (by rw [ho.len, h])
    rw [this]; rfl) (fun _ => rfl)
  have c1 := pc_levels (nl := nl) (c := hL n l) rfl
  generalize rootM l = res at *
  unfold dLev at hw
  generalize hL n l = c at *
  refine W.st [(3, c0 c1)] [(64, 1), (80, 2), (113, 3)] (dRootR z32 nl c) (stopIn Tryd.f28 0) [_] (by kernel_rfl) (ao (c1)) ?_
  refine W.rangeFnAt (g := 6) (fi := 61) (fI := Tryd.f61) (id := 3) (pinsI := [1, 2]) (by kernel_rfl) frRoot rfl Tryd.func61 (by kernel_rfl) (by kernel_rfl) (by kernel_rfl) (by kernel_rfl) (by kernel_rfl) (SlotsIn.ofL ⟨rfl, rfl, trivial⟩) fun y => ?_
  have hw := hw y
  unfold dRootR rows3 at *
  dsimp only
  unfold yv at *
  refine WH.sg [] (rI 3) (⟨[(0, yv y), (1, .at 3 [])], [(1, ⟨.iarr .u8 32 z32, false⟩), (2, ⟨.iarr .u8 32 z32, false⟩), (3, ⟨.vec nl c, false⟩)]⟩ : DS) (loopAt Tryd.f61 0) [] (by kernel_rfl) trivial ?_
  exact hw
end Go.Proofs
namespace Go.Proofs
open Go Go.Pe Go.Pm
set_option maxRecDepth 100000
set_option linter.unusedVariables false
def frDbl : List (Nat × PV) := [(2, .at 1 [])]
theorem W_dblEnd {b : Bool} {k : List Item} (hk : k = rgK (stopIn Tryd.f27 0)) (hb : b = false) : WM Tryd.prog G0 Tryd.f27 [] [] (.bool false) k ⟨frDbl, [(1, ⟨.bool b, false⟩)]⟩ := by
  subst hk; subst hb
  unfold frDbl
  refine WM.rt [] [] [] (by kernel_rfl) trivial
theorem W_dblRet {b : Bool} {k : List Item} : WM Tryd.prog G0 Tryd.f27 [] [] (.bool b) (.code .ret :: k) ⟨frDbl, [(1, ⟨.bool b, false⟩)]⟩ := by
  unfold frDbl
  refine WM.rt [] [] [] (by kernel_rfl) trivial
def dDbl (nl : Bool) (n : Nat) (L : List PV) (j : Nat) : DS := ⟨[(2, .at 1 []), (3, .vec nl (.parr 32 n hsE L)), (4, .int .i64 ((2 * j + 1 : Nat) : Int))], [(1, ⟨.bool false, false⟩), (2, ⟨.vec nl (.parr 32 n hsE L), false⟩)]⟩
theorem W_dblRound {y : Nat} {res nl : Bool} {l : List (List Int)} {n : Nat} (ho : HsOk l n) (hn : n ≤ 100000)
    (hw1 : (∀ i, 2 * i + 1 < n → l.getD (2 * i) [] ≠ l.getD (2 * i + 1) []) → WH Tryd.prog G0 Tryd.f61 [1] (HIter (rangeOf Tryd.f27 0 [] (.bool res) [] frDbl 61) y .ready none) (.inRegion (rgOps (stopIn Tryd.f61 0)) (rgRest (stopIn Tryd.f61 0)) :: rgK (stopIn Tryd.f61 0))
      ⟨[(0, yv y), (1, .at 2 []), (5, .bool true)], [(1, ⟨.bool false, false⟩), (2, ⟨.vec nl (.parr 32 n hsE (l.map hv)), false⟩)]⟩)
    (hw2 : (∃ i, 2 * i + 1 < n ∧ l.getD (2 * i) [] = l.getD (2 * i + 1) []) → WH Tryd.prog G0 Tryd.f61 [1] (HIter (rangeOf Tryd.f27 0 [] (.bool res) [] frDbl 61) y .done (some .ret)) (.inRegion (rgOps (stopIn Tryd.f61 0)) (rgRest (stopIn Tryd.f61 0)) :: rgK (stopIn Tryd.f61 0))
      ⟨[(0, yv y), (1, .at 2 []), (5, .bool false)], [(1, ⟨.bool true, false⟩), (2, ⟨.vec nl (.parr 32 n hsE (l.map hv)), false⟩)]⟩) : ∀ (k j : Nat), n ≤ 2 * (k + j) + 1 → 2 * j ≤ n + 1 → (∀ i, i < j → l.getD (2 * i) [] ≠ l.getD (2 * i + 1) []) →
    WH Tryd.prog G0 Tryd.f27 [1, 2] (HRound (rangeOf Tryd.f27 0 [] (.bool res) [] frDbl 61) (roundOf Tryd.f61 0 [1] [(0, yv y), (1, .at 2 [])]) y .busy none) (loopIn (rgBody (stopIn Tryd.f27 0)) 0) (dDbl nl n (l.map hv) j)
  | 0, j, hk, hj, hne => by
    have hw1 := hw1 fun i hi => hne i (by omega)
    have hge : ¬ (((2 * j + 1 : Nat) : Int) < (n : Int)) := by omega
    generalize l.map hv = L at *
    unfold dDbl
    refine WH.sg [(3, aF)] (rI 2) (⟨[], [(1, ⟨.bool false, false⟩), (2, ⟨.vec nl (.parr 32 n hsE L), false⟩)]⟩ : DS) ([]) [decide ((↑(2 * j + 1) : Int) < (n:Int)) = false] (by kernel_rfl) (ao (dF (by omega))) ?_
    exact WH.roundNormal (by kernel_rfl) hw1
  | k + 1, j, hk, hj, hne => by
    by_cases hlt : 2 * j + 1 < n
    · have g1 := hv_get (l := l) (i := 2 * j) (by rw [ho.len]; omega)
      have g2 := hv_get (l := l) (i := 2 * j + 1) (by rw [ho.len]; omega)
      have o1 := (ho.get (i := 2 * j) (by omega)).1
      have o2 := (ho.get (i := 2 * j + 1) (by omega)).1
      have e1 : ((2 * j + 1 : Nat) : Int) - 1 = ((2 * j : Nat) : Int) := by omega
      by_cases heq : l.getD (2 * j) [] = l.getD (2 * j + 1) []
      · have hw2 := hw2 ⟨j, hlt, heq⟩
        generalize l.getD (2 * j) [] = x at *
        generalize l.getD (2 * j + 1) [] = z at *
        subst heq
        generalize l.map hv = L at *
        unfold hv at *
        unfold dDbl
        refine WH.sg [(3, aT), (6, aV (PV.cptr (PV.parr 32 n (Sh.iarr IntKind.u8 32) L) [Stp.idx (2 * j + 1) 32])), (7, aE g2), (10, aV (I6 (↑(2 * j) : Int))), (11, aV (PV.cptr (PV.parr 32 n (Sh.iarr IntKind.u8 32) L) [Stp.idx (2 * j) 32])), (12, aE g1), (13, aT)] (rI 2) (⟨[], [(1, ⟨.bool true, false⟩), (2, ⟨.vec nl (.parr 32 n hsE L), false⟩)]⟩ : DS) (retIn (rgBody (stopIn Tryd.f27 0)) 0) [decide ((↑(2 * j + 1) : Int) < (n:Int)) = true, PV.cptr (PV.parr 32 n (Sh.iarr IntKind.u8 32) L) [Stp.idx (Int.toNat (↑(2 * j + 1) : Int)) 32] = PV.cptr (PV.parr 32 n (Sh.iarr IntKind.u8 32) L) [Stp.idx (2 * j + 1) 32], 0 ≤ (↑(2 * j + 1) : Int), (↑(2 * j + 1) : Int) < (n:Int), _, 2 * j + 1 < n, I6 (IntKind.wrap .i64 ((↑(2 * j + 1) : Int) - 1)) = I6 (↑(2 * j) : Int), PV.cptr (PV.parr 32 n (Sh.iarr IntKind.u8 32) L) [Stp.idx (Int.toNat (↑(2 * j) : Int)) 32] = PV.cptr (PV.parr 32 n (Sh.iarr IntKind.u8 32) L) [Stp.idx (2 * j) 32], 0 ≤ (↑(2 * j) : Int), (↑(2 * j) : Int) < (n:Int), _, 2 * j < n, decide (x = x) = true] (by kernel_rfl) (ac (dT (by omega)) (ac (by rw [show Int.toNat (↑(2 * j + 1) : Int) = 2 * j + 1 by omega]) (ac (by omega) (ac (by omega) (ac (ex g2) (ac (by omega) (ac (cg (w_i64 e1 (by omega) (by omega))) (ac (by rw [show Int.toNat (↑(2 * j) : Int) = 2 * j by omega]) (ac (by omega) (ac (by omega) (ac (ex g1) (ac (by omega) (ao (by (simp [*]; done))))))))))))))) ?_
        exact WH.roundRet (by kernel_rfl) (by kernel_rfl) hw2
      · have hw := W_dblRound ho hn hw1 hw2 k (j + 1) (by omega) (by omega) (fun i hi => by
          rcases Nat.lt_or_eq_of_le (Nat.le_of_lt_succ hi) with h | rfl
          · exact hne i h
          · exact heq)
        have hne' := fun h => heq (Eq.symm h)
        have e2 : ((2 * j + 1 : Nat) : Int) + 2 = ((2 * (j + 1) + 1 : Nat) : Int) := by omega
        have b2 : 2 * (j + 1) + 1 ≤ 100010 := by omega
        generalize l.getD (2 * j) [] = x at *
        generalize l.getD (2 * j + 1) [] = z at *
        generalize l.map hv = L at *
        clear hw1 hw2 hne
        unfold hv at *
        unfold dDbl at *
        generalize 2 * (j + 1) + 1 = i2 at *
        refine WH.sg [(3, aT), (6, aV (PV.cptr (PV.parr 32 n (Sh.iarr IntKind.u8 32) L) [Stp.idx (2 * j + 1) 32])), (7, aE g2), (10, aV (I6 (↑(2 * j) : Int))), (11, aV (PV.cptr (PV.parr 32 n (Sh.iarr IntKind.u8 32) L) [Stp.idx (2 * j) 32])), (12, aE g1), (13, aF), (15, aV (I6 (i2:Int)))] (rI 2) (⟨[(2, .at 1 []), (3, .vec nl (.parr 32 n hsE L)), (4, .int .i64 ((i2 : Nat) : Int))], [(1, ⟨.bool false, false⟩), (2, ⟨.vec nl (.parr 32 n hsE L), false⟩)]⟩ : DS) (loopIn (rgBody (stopIn Tryd.f27 0)) 0) [decide ((↑(2 * j + 1) : Int) < (n:Int)) = true, PV.cptr (PV.parr 32 n (Sh.iarr IntKind.u8 32) L) [Stp.idx (Int.toNat (↑(2 * j + 1) : Int)) 32] = PV.cptr (PV.parr 32 n (Sh.iarr IntKind.u8 32) L) [Stp.idx (2 * j + 1) 32], 0 ≤ (↑(2 * j + 1) : Int), (↑(2 * j + 1) : Int) < (n:Int), _, 2 * j + 1 < n, I6 (IntKind.wrap .i64 ((↑(2 * j + 1) : Int) - 1)) = I6 (↑(2 * j) : Int), PV.cptr (PV.parr 32 n (Sh.iarr IntKind.u8 32) L) [Stp.idx (Int.toNat (↑(2 * j) : Int)) 32] = PV.cptr (PV.parr 32 n (Sh.iarr IntKind.u8 32) L) [Stp.idx (2 * j) 32], 0 ≤ (↑(2 * j) : Int), (↑(2 * j) : Int) < (n:Int), _, 2 * j < n, decide (z = x) = false, I6 (IntKind.wrap .i64 ((↑(2 * j + 1) : Int) + 2)) = I6 (i2:Int)] (by kernel_rfl) (ac (dT (by omega)) (ac (by rw [show Int.toNat (↑(2 * j + 1) : Int) = 2 * j + 1 by omega]) (ac (by omega) (ac (by omega) (ac (ex g2) (ac (by omega) (ac (cg (w_i64 e1 (by omega) (by omega))) (ac (by rw [show Int.toNat (↑(2 * j) : Int) = 2 * j by omega]) (ac (by omega) (ac (by omega) (ac (ex g1) (ac (by omega) (ac (dF (by omega)) (ao (cg (w_i64 e2 (by omega) (by omega))))))))))))))))) ?_
        exact hw
    · have hw1 := hw1 fun i hi => hne i (by omega)
      have hge : ¬ (((2 * j + 1 : Nat) : Int) < (n : Int)) := by omega
      generalize l.map hv = L at *
      unfold dDbl
      refine WH.sg [(3, aF)] (rI 2) (⟨[], [(1, ⟨.bool false, false⟩), (2, ⟨.vec nl (.parr 32 n hsE L), false⟩)]⟩ : DS) ([]) [decide ((↑(2 * j + 1) : Int) < (n:Int)) = false] (by kernel_rfl) (ao (dF (by omega))) ?_
      exact WH.roundNormal (by kernel_rfl) hw1
theorem W_dblIter {y : Nat} {res : Bool} : ∀ (n : Nat) (l : List (List Int)) (nl : Bool), HsOk l n → n ≤ 100000 → (res = true ↔ dblM l) →
    WH Tryd.prog G0 Tryd.f61 [1] (HIter (rangeOf Tryd.f27 0 [] (.bool res) [] frDbl 61) y .ready none) (loopAt Tryd.f61 0) ⟨[(0, yv y), (1, .at 2 [])], [(1, ⟨.bool false, false⟩), (2, ⟨.vec nl (hL n l), false⟩)]⟩ := by
  intro n
  induction n using Nat.strongRecOn with
  | _ n ih =>
    intro l nl ho hn hres
    have hln := ho.len
    unfold hL
    generalize hLe : l.map hv = L
    refine WH.sg [] (rI 2) (⟨[(0, yv y), (1, .at 2 []), (3, yv y), (4, .vec nl (.parr 32 n hsE L))], [(1, ⟨.bool false, false⟩), (2, ⟨.vec nl (.parr 32 n hsE L), false⟩)]⟩ : DS) (stopIn Tryd.f61 0) [] (by kernel_rfl) trivial ?_
    refine WH.yieldAt (args := [.vec nl (.parr 32 n hsE L)]) (pinsR := [1, 2]) (frI := [(0, yv y), (1, .at 2 [])]) (by kernel_rfl) (by kernel_rfl) (by kernel_rfl) (by kernel_rfl) (by kernel_rfl) (SlotsIn.ofL ⟨rfl, rfl, trivial⟩) ?_
    show WH _ _ Tryd.f27 [1, 2] _ _ (⟨[(2, .at 1 []), (7, .vec nl (.parr 32 n hsE L))], [(1, ⟨.bool false, false⟩), (2, ⟨.vec nl (.parr 32 n hsE L), false⟩)]⟩)
    refine WH.sg [] (rI 2) (⟨[(2, .at 1 []), (3, .vec nl (.parr 32 n hsE L))], [(1, ⟨.bool false, false⟩), (2, ⟨.vec nl (.parr 32 n hsE L), false⟩)]⟩ : DS) ([Item.beginRound, Item.code (rgBody (stopIn Tryd.f27 0))]) [] (by kernel_rfl) trivial ?_
    refine WH.begin ?_
    refine WH.sg [] (rI 2) (⟨[(2, .at 1 []), (3, .vec nl (.parr 32 n hsE L)), (4, .int .i64 1)], [(1, ⟨.bool false, false⟩), (2, ⟨.vec nl (.parr 32 n hsE L), false⟩)]⟩ : DS) (loopIn (rgBody (stopIn Tryd.f27 0)) 0) [] (by kernel_rfl) trivial ?_
    rw [← hLe]
    refine W_dblRound (l := l) ho hn (fun hno => ?_) (fun hyes => ?_) n 0 (by omega) (by omega) (fun i hi => by omega)
    · rw [hLe]
      have hd1 : ¬ dbl1 l := by rintro ⟨i, h1, h2⟩; rw [hln] at h1; exact hno i h1 h2
      by_cases hgt : 1 < n
      · have c1 := pc_above (nl := nl) ho hn
        have hw := ih ((n + 1) / 2) (by omega) (above l) false ho.above (by omega) (by rw [hres, dblM_step]; simp [hd1])
        have hT : ((above l).map hv).take ((n + 1) / 2) = (above l).map hv := List.take_of_length_le (by rw [List.length_map, above_length, hln]; omega)
        unfold hL at *
        rw [hLe] at c1
        generalize (above l).map hv = M at *
        generalize (n + 1) / 2 = m at *
        clear hno hd1 hres hLe hln
        refine WH.seg [(6, aT), (12, c9 c1), (13, Ans.frz [257])] (rI 2) (⟨[(0, yv y), (1, .at 2 [])], [(1, ⟨.bool false, false⟩), (2, ⟨.vec false (.parr 32 m hsE M), false⟩)]⟩ : DS) (todo' := loopAt Tryd.f61 0) [decide ((n:Int) > 1) = true, _, 0 + m ≤ m, rr (PV.fv (Value.func (Fn.yield y) #[] #[])), rr (PV.at 2 []), rr (PV.bool false), PV.vec false (PV.parr 32 m (Sh.iarr IntKind.u8 32) (List.take m M)) = PV.vec false (PV.parr 32 m (Sh.iarr IntKind.u8 32) M)] (by kernel_rfl) (ac (dT (by omega)) (ac (c1) (ac (by omega) (ac rfl (ac rfl (ac rfl (ao (by (simp; omega))))))))) ?_
        exact hw
      · have hr : res = false := by
          have := dblM_short (l := l) (by omega)
          rw [← hres] at this
          simpa using this
        have hle : ¬ ((n : Int) > 1) := by omega
        subst hr
        clear hno hd1 hres
        refine WH.sg [(6, aF)] (rI 1) (⟨[], [(1, ⟨.bool false, false⟩)]⟩ : DS) ([]) [decide ((n:Int) > 1) = false] (by kernel_rfl) (ao (dF (by omega))) ?_
        exact WH.iterRet Tryd.func61 (by kernel_rfl) (by intro e; cases e) rfl (W_dblEnd rfl rfl)
    · rw [hLe]
      have hr : res = true := by
        rw [hres, dblM_step]
        obtain ⟨i, h1, h2⟩ := hyes
        exact .inl ⟨i, by rw [hln]; exact h1, h2⟩
      subst hr
      clear hyes hres
      refine WH.sg [] (rI 1) (⟨[], [(1, ⟨.bool true, false⟩)]⟩ : DS) ([]) [] (by kernel_rfl) trivial ?_
      exact WH.iterRet Tryd.func61 (by kernel_rfl) (by intro e; cases e) rfl W_dblRet
def dDblR (nl : Bool) (c : PV) : DS := ⟨[(2, .at 1 []), (6, .fn 61 2)], [(1, ⟨.bool false, false⟩), (2, ⟨.vec nl c, false⟩)]⟩
theorem pc_doubled {nl : Bool} {l : List (List Int)} {n : Nat} {res : Bool} (ho : HsOk l n) (hn : n ≤ 100000) (hres : res = true ↔ dblM l) : PC Tryd.prog G0 27 [] [.vec nl (hL n l)] [] (.bool res) := by
  refine PC.of (fn := Tryd.f27) (c := bodyOf Tryd.f27) Tryd.func27 (by kernel_rfl) (by kernel_rfl) (by kernel_rfl) (by kernel_rfl) ?_
  have hw := fun y => W_dblIter (y := y) (res := res) n l nl ho hn hres
  have c1 := pc_levels (nl := nl) (c := hL n l) rfl
  generalize hL n l = c at *
  refine W.st [(2, c0 c1)] [(64, 1), (97, 2)] (dDblR nl c) (stopIn Tryd.f27 0) [_] (by kernel_rfl) (ao (c1)) ?_
  refine W.rangeFnAt (g := 6) (fi := 61) (fI := Tryd.f61) (id := 2) (pinsI := [1]) (by kernel_rfl) frDbl rfl Tryd.func61 (by kernel_rfl) (by kernel_rfl) (by kernel_rfl) (by kernel_rfl) (by kernel_rfl) (SlotsIn.ofL ⟨rfl, trivial⟩) fun y => ?_
  have hw := hw y
  unfold dDblR at *
  dsimp only
  unfold yv at *
  refine WH.sg [] (rI 2) (⟨[(0, yv y), (1, .at 2 [])], [(1, ⟨.bool false, false⟩), (2, ⟨.vec nl c, false⟩)]⟩ : DS) (loopAt Tryd.f61 0) [] (by kernel_rfl) trivial ?_
  exact hw
end Go.Proofs
namespace Go.Proofs
open Go Go.Pe Go.Pm
/-- a header -/
structure Hd where
  ver : Nat
  prev : List Int
  root : List Int
  time : Nat
  bits : Nat
  nonce : Nat
def Hd.pv (h : Hd) : PV := .st 68 [.int .u32 h.ver, .iarr .u8 32 h.prev, .iarr .u8 32 h.root, .int .u32 h.time, .int .u32 h.bits, .int .u32 h.nonce]
structure Hd.Ok (h : Hd) : Prop where
  ver : h.ver < 4294967296
  time : h.time < 4294967296
  bits : h.bits < 4294967296
  nonce : h.nonce < 4294967296
  prev : h.prev.length = 32
  root : h.root.length = 32
  prevB : ∀ x ∈ h.prev, 0 ≤ x ∧ x ≤ 255
  rootB : ∀ x ∈ h.root, 0 ≤ x ∧ x ≤ 255
def hsh : Sh := .st 68 [.int .u32, .iarr .u8 32, .iarr .u8 32, .int .u32, .int .u32, .int .u32]
theorem u32_nat {n : Int} (h : IntKind.u32.wrap n = n) : ∃ m : Nat, n = m ∧ m < 4294967296 := by
  rw [wrap_bounds] at h
  obtain ⟨h1, h2⟩ := h
  have e1 : IntKind.u32.min = 0 := rfl
  have e2 : IntKind.u32.max = 4294967295 := rfl
  exact ⟨n.toNat, by omega, by omega⟩
theorem u8_bytes {l : List Int} (h : ∀ x ∈ l, IntKind.u8.wrap x = x) : ∀ x ∈ l, 0 ≤ x ∧ x ≤ 255 := fun x hx => by
  have := h x hx
  rw [wrap_bounds] at this
  exact this
theorem hd_of {p : PV} (hc : conf hsh p = true) (hw : WF p) : ∃ h : Hd, p = h.pv ∧ h.Ok := by
  have e := expose_conf hsh p hc
  obtain ⟨a, b, c, d, x, y, rfl⟩ : ∃ a b c d x y, p = .st 68 [.int .u32 a, .iarr .u8 32 b, .iarr .u8 32 c, .int .u32 d, .int .u32 x, .int .u32 y] := ⟨_, _, _, _, _, _, e.symm⟩
  simp only [WF, WFL] at hw
  obtain ⟨_, ha, ⟨hb1, hb2⟩, ⟨hc1, hc2⟩, hd, hx, hy, _⟩ := hw
  obtain ⟨a, rfl, ka⟩ := u32_nat ha
  obtain ⟨d, rfl, kd⟩ := u32_nat hd
  obtain ⟨x, rfl, kx⟩ := u32_nat hx
  obtain ⟨y, rfl, ky⟩ := u32_nat hy
  exact ⟨⟨a, b, c, d, x, y⟩, rfl, ⟨ka, kd, kx, ky, hb1, hc1, u8_bytes hb2, u8_bytes hc2⟩⟩
end Go.Proofs
namespace Go.Proofs
open Go Go.Pe Go.Pm
set_option maxRecDepth 100000
set_option linter.unusedVariables false
abbrev TxM := Bool × Nat × List Int
/-- transactions' bytes -/
structure TxsOk (L : List TxM) (n : Nat) : Prop where
  len : L.length = n
  el : ∀ x ∈ L, BsOk x ∧ (x.1 = true → x.2.1 = 0) ∧ x.2.1 ≤ 1000000
def txsPV (nl : Bool) (n : Nat) (L : List TxM) : PV := .vec nl (.parr 1 n bsh (L.map bsPV))
def blkPV (h : Hd) (nl : Bool) (n : Nat) (L : List TxM) : PV := .st 69 [h.pv, txsPV nl n L]
def bksh : Sh := .st 69 [hsh, .vec 1 (.vec 1 (.int .u8))]
def idsM (L : List TxM) : List (List Int) := L.map fun x => dsha x.2.2
theorem TxsOk.get {L : List TxM} {n i : Nat} (h : TxsOk L n) (hi : i < n) : BsOk (L.getD i default) ∧ ((L.getD i default).1 = true → (L.getD i default).2.1 = 0) ∧ (L.getD i default).2.1 ≤ 1000000 := by
  have hi' : i < L.length := by rw [h.len]; exact hi
  have : L.getD i default = L[i] := by simp [List.getD_eq_getElem?_getD, hi']
  rw [this]
  exact h.el _ (List.getElem_mem hi')
theorem idsM_ok {L : List TxM} {n : Nat} (h : TxsOk L n) : HsOk (idsM L) n := ⟨by unfold idsM; rw [List.length_map, h.len], fun x hx => by
  unfold idsM at hx
  obtain ⟨y, _, rfl⟩ := List.mem_map.1 hx
  exact ⟨sha_length _, sha_bytes _⟩⟩
theorem pc_txId {nl : Bool} {N : Nat} {b : List Int} (hb : BsOk (nl, N, b)) (hN : N ≤ 1000000) : PC Tryd.prog G0 45 [] [.vec nl (.iarr .u8 N b)] [] (.iarr .u8 32 (dsha b)) := by
  refine PC.of (fn := Tryd.f45) (c := bodyOf Tryd.f45) Tryd.func45 (by kernel_rfl) (by kernel_rfl) (by kernel_rfl) (by kernel_rfl) ?_
  have e : cat [(nl, N, b)] = b := by simp [cat]
  have hl : b.length = N := hb.len
  have c1 := pc_twice (nl := false) (l := [(nl, N, b)]) (c := 1) rfl (by intro x hx; simp at hx; subst hx; exact hb) (by rw [e]; omega) (by omega)
  rw [e] at c1
  unfold bsPV at c1
  dsimp only [List.map] at c1
  generalize dsha b = r at *
  refine W.rt [(3, c9 c1)] [] [1 ≤ 1, _] (by kernel_rfl) (ac (by omega) (ao (c1)))
def dsIds (nl : Bool) (n : Nat) (T I : List PV) (j : Nat) : DS := ⟨[(3, .ref 1 [] 32 0 j), (11, .vec nl (.parr 1 n bsh T)), (12, .int .i64 n), (13, .int .i64 j)], [(1, ⟨.parr 32 j hsE I, false⟩)]⟩
theorem W_ids {nl : Bool} {n : Nat} {L : List TxM} (ho : TxsOk L n) (hn : n ≤ 100000) : ∀ (k j : Nat), k + j = n →
    W Tryd.prog G0 Tryd.f26 [] [(1, ⟨hL n (idsM L), false⟩)] (.ref 1 [] 32 0 n) (loopAt Tryd.f26 0) (dsIds nl n (L.map bsPV) (((idsM L).take j).map hv) j)
  | 0, j, hk => by
    have hj : j = n := by omega
    subst hj
    have e : (idsM L).take j = idsM L := List.take_of_length_le (by rw [(idsM_ok ho).len]; omega)
    rw [e]
    unfold hL
    generalize (idsM L).map hv = I at *
    generalize L.map bsPV = T at *
    unfold dsIds
    refine W.rt [(0, aF)] (rI 1) [decide ((j:Int) < (j:Int)) = false] (by kernel_rfl) (ao (dF (by omega)))
  | k + 1, j, hk => by
    have hj : j < n := by omega
    have hlt : j < L.length := by rw [ho.len]; exact hj
    have g := bs_get (l := L) (i := j) hlt
    obtain ⟨hb, hnl, hN⟩ := ho.get hj
    have hs : (idsM L).take (j + 1) = (idsM L).take j ++ [dsha (L.getD j default).2.2] := by
      rw [List.take_add_one]
      congr 1
      unfold idsM
      simp [List.getD_eq_getElem?_getD, hlt]
    have hw := W_ids (nl := nl) ho hn k (j + 1) (by omega)
    rw [hs, List.map_append] at hw
    have hIl : (((idsM L).take j).map hv).length = j := by rw [List.length_map, List.length_take, (idsM_ok ho).len]; omega
    generalize L.getD j default = x at *
    obtain ⟨xnl, xN, xb⟩ := x
    dsimp only at *
    have c1 := pc_txId hb hN
    change _ = PV.vec xnl (.iarr .u8 xN xb) at g
    generalize dsha xb = r at *
    generalize ((idsM L).take j).map hv = I at *
    generalize L.map bsPV = T at *
    have hr : [r].map hv = [PV.iarr .u8 32 r] := rfl
    rw [hr] at hw
    unfold dsIds at *
    refine W.sg 0 [(0, aT), (2, aE g), (6, c9 c1), (8, Ans.ups [(1, none), (192, some (Row.mk (PV.parr 32 (j + 1) (Sh.iarr IntKind.u8 32) (I ++ [B8 32 r])) false))]), (10, aV (I6 (↑(j + 1) : Int)))] [(192, 1)] (⟨[(3, .ref 1 [] 32 0 (j + 1)), (11, .vec nl (.parr 1 n bsh T)), (12, .int .i64 n), (13, .int .i64 ((j + 1 : Nat) : Int))], [(1, ⟨.parr 32 (j + 1) hsE (I ++ [.iarr .u8 32 r]), false⟩)]⟩ : DS) [decide ((j:Int) < (n:Int)) = true, 0 ≤ (j:Int), (j:Int) < (n:Int), _, j < n, _, ([(1, none), (192, some (Row.mk (PV.parr 32 (j + 1) (Sh.iarr IntKind.u8 32) (List.take j I ++ [B8 32 r])) false))] : List (Nat × Option Row)) = [(1, none), (192, some (Row.mk (PV.parr 32 (j + 1) (Sh.iarr IntKind.u8 32) (I ++ [B8 32 r])) false))], 1 ≤ 1, 0 + j = j, (j + 1) * 32 ≤ 140737488355328, j + 1 ≤ 9223372036854775807, I6 (IntKind.wrap .i64 ((j:Int) + 1)) = I6 (↑(j + 1) : Int)] (by kernel_rfl) (ac (dT (by omega)) (ac (by omega) (ac (by omega) (ac (ex g) (ac (by omega) (ac (c1) (ac (by rw [List.take_of_length_le (show List.length I ≤ j by omega)]) (ac (by omega) (ac (by omega) (ac (by omega) (ac (by omega) (ao (cg (w_i64 rfl (by omega) (by omega))))))))))))))) ?_
    exact hw
theorem pc_ids {h : Hd} {nl : Bool} {n : Nat} {L : List TxM} (ho : TxsOk L n) (hn : n ≤ 100000) : PC Tryd.prog G0 26 [] [blkPV h nl n L] [(1, ⟨hL n (idsM L), false⟩)] (.ref 1 [] 32 0 n) := by
  refine PC.of (fn := Tryd.f26) (c := bodyOf Tryd.f26) Tryd.func26 (by kernel_rfl) (by kernel_rfl) (by kernel_rfl) (by kernel_rfl) ?_
  have hw := W_ids (nl := nl) ho hn n 0 (by omega)
  have e : ((idsM L).take 0).map hv = [] := rfl
  rw [e] at hw
  unfold hL at *
  generalize (idsM L).map hv = I at *
  unfold blkPV txsPV Hd.pv
  generalize L.map bsPV = T at *
  unfold dsIds at *
  refine W.sg 0 [] [(144, 1)] (⟨[(3, .ref 1 [] 32 0 0), (11, .vec nl (.parr 1 n bsh T)), (12, .int .i64 n), (13, .int .i64 (0 : Int))], [(1, ⟨.parr 32 0 hsE [], false⟩)]⟩ : DS) [(0 : Int) ≤ (0 : Int), 0 ≤ (n:Int), (n:Int) ≤ 9223372036854775807, (↑(32 : Nat) : Int) * (n:Int) ≤ 140737488355328] (by kernel_rfl) (ac (by omega) (ac (by omega) (ac (by omega) (ao (by omega))))) ?_
  exact hw
end Go.Proofs
namespace Go.Proofs
open Go Go.Pe Go.Pm
set_option maxRecDepth 100000
set_option linter.unusedVariables false
theorem txP_form (b : List Int) : ∃ (s : Nat) (o : Bool) (m : Nat) (M : List PV), txP b = .tup [.st 2 [.int .u64 s, .vec o (.parr 2 m osh M)], .int .i64 (txE b)] := by
  unfold txP txRes outsPV
  by_cases h : txE b = 0
  · rw [if_pos h]
    by_cases g : txOuts b = []
    · rw [if_pos g]; exact ⟨_, _, _, _, rfl⟩
    · rw [if_neg g]; exact ⟨_, _, _, _, rfl⟩
  · rw [if_neg h]; exact ⟨0, true, 0, [], rfl⟩
theorem txE_le (b : List Int) : txE b ≤ 100 := by
  have h1 : (txR4 b).e ≤ 100 := outsR_e (by
    show ((txR2 b).var 8).e ≤ 100
    have he : (txR2 b).e ≤ 100 := Rd.tk_e (Rd.tk_e (Nat.zero_le _))
    have := Rd.ve_e (m := 8) he
    unfold Rd.var
    split
    · exact Nat.zero_le _
    · exact this)
  unfold txE
  repeat' split
  all_goals omega
/-- the first error of transactions -/
def parseE : List TxM → Nat
  | [] => 0
  | x :: l => if txE x.2.2 = 0 then parseE l else txE x.2.2
def soundE (L : List TxM) : Nat := if L.length < 1 ∨ 16 < L.length then 5 else if parseE L = 0 then (if dblB (idsM L) = true then 7 else 0) else parseE L
def soundPV (L : List TxM) : PV := .tup [hv (if soundE L = 0 then rootM (idsM L) else z32), .int .i64 (soundE L)]
theorem rootM_length {l : List (List Int)} {n : Nat} (h : HsOk l n) : (rootM l).length = 32 := by
  unfold rootM
  split
  · rfl
  · rename_i hne
    have hk : ∀ k (l : List (List Int)), (∀ x ∈ l, x.length = 32) → ∀ x ∈ lvl l k, x.length = 32 := by
      intro k
      induction k with
      | zero => intro l hl; exact hl
      | succ k ih =>
        intro l hl x hx
        rw [lvl] at hx
        unfold above at hx
        obtain ⟨i, _, rfl⟩ := List.mem_map.1 hx
        exact sha_length _
    have hpos : 0 < (lvl l (depM l.length)).length := by
      rw [lvl_length]
      have : ∀ k n, 0 < n → 0 < wid n k := by
        intro k
        induction k with
        | zero => intro n h; exact h
        | succ k ih => intro n h; have := ih n h; rw [wid]; omega
      exact this _ _ (List.length_pos_iff.2 hne)
    have : (lvl l (depM l.length)).getD 0 [] = (lvl l (depM l.length))[0] := by simp [List.getD_eq_getElem?_getD, hpos]
    rw [this]
    exact hk _ l (fun x hx => (h.el x hx).1) _ (List.getElem_mem hpos)
def dsSd (h : Hd) (nl : Bool) (n : Nat) (T : List PV) (i : Nat) : DS := ⟨[(1, .at 1 []), (2, .at 2 []), (21, .vec nl (.parr 1 n bsh T)), (22, .int .i64 n), (23, .int .i64 i)], [(1, ⟨.st 69 [h.pv, .vec nl (.parr 1 n bsh T)], false⟩), (2, ⟨.iarr .u8 32 z32, false⟩)]⟩
theorem W_sound {h : Hd} {nl : Bool} {n : Nat} {L : List TxM} (ho : TxsOk L n) (hn : n ≤ 16) (hn0 : 0 < n) : ∀ (k i : Nat), i + k = n → parseE L = parseE (L.drop i) →
    W Tryd.prog G0 Tryd.f18 [] [] (soundPV L) (loopAt Tryd.f18 0) (dsSd h nl n (L.map bsPV) i)
  | 0, i, hk, hp => by
    have hi : i = n := by omega
    subst hi
    have hp0 : parseE L = 0 := by rw [hp, List.drop_of_length_le (by rw [ho.len]; omega)]; rfl
    have hse : soundE L = if dblB (idsM L) = true then 7 else 0 := by unfold soundE; rw [ho.len, if_neg (by omega), if_pos hp0]
    have c1 := pc_ids (h := h) (nl := nl) ho (by omega)
    have c2 := pc_doubled (nl := false) (idsM_ok ho) (by omega) (dblB_iff (idsM L))
    have c3 := pc_root (nl := false) (idsM_ok ho) (by omega)
    have hrl := rootM_length (idsM_ok ho)
    have hT : ((idsM L).map hv).take i = (idsM L).map hv := List.take_of_length_le (by rw [List.length_map, (idsM_ok ho).len]; omega)
    unfold soundPV
    by_cases hd : dblB (idsM L) = true
    · rw [hse, if_pos hd, if_neg (by omega)]
      rw [hd] at c2
      clear hse hp0 hp
      unfold blkPV txsPV hL hv at *
      generalize (idsM L).map (PV.iarr .u8 32) = I at *
      generalize L.map bsPV = T at *
      have hT' := Eq.symm hT
      rw [hT'] at c2 c3
      unfold dsSd Hd.pv at *
      refine W.ret [(0, aF), (2, c9 c1), (5, c9 c2)] [] [decide ((i:Int) < (i:Int)) = false, _, 0 + i ≤ i, _, PV.tup [B8 32 (List.replicate 32 0), I6 7] = PV.tup [B8 32 (List.replicate 32 0), I6 (↑(7 : Nat) : Int)]] (by kernel_rfl) (ac (dF (by omega)) (ac (c1) (ac (by omega) (ac (c2) (ao rfl)))))
    · rw [hse, if_neg hd, if_pos rfl]
      have hd' : dblB (idsM L) = false := by simpa using hd
      rw [hd'] at c2
      clear hse hp0 hp hd hd'
      unfold blkPV txsPV hL hv at *
      generalize rootM (idsM L) = rt at *
      generalize (idsM L).map (PV.iarr .u8 32) = I at *
      generalize L.map bsPV = T at *
      have hT' := Eq.symm hT
      rw [hT'] at c2 c3
      unfold dsSd Hd.pv at *
      refine W.ret [(0, aF), (2, c9 c1), (5, c9 c2), (7, c9 c3)] [] [decide ((i:Int) < (i:Int)) = false, _, 0 + i ≤ i, _, 0 + i ≤ i, _, PV.tup [B8 32 rt, I6 0] = PV.tup [B8 32 rt, I6 (↑(0 : Nat) : Int)]] (by kernel_rfl) (ac (dF (by omega)) (ac (c1) (ac (by omega) (ac (c2) (ac (by omega) (ac (c3) (ao rfl)))))))
  | k + 1, i, hk, hp => by
    have hi : i < n := by omega
    have hlt : i < L.length := by rw [ho.len]; exact hi
    have g := bs_get (l := L) (i := i) hlt
    obtain ⟨hb, hnl, hN⟩ := ho.get hi
    have hdrop : L.drop i = L.getD i default :: L.drop (i + 1) := by rw [List.drop_eq_getElem_cons hlt]; simp [List.getD_eq_getElem?_getD, hlt]
    rw [hdrop] at hp
    have hw := W_sound (h := h) (nl := nl) ho hn hn0 k (i + 1) (by omega)
    generalize L.getD i default = x at *
    obtain ⟨xnl, xN, xb⟩ := x
    dsimp only [parseE] at *
    have c1 := pc_parse hb.len hb.bytes hN hnl
    change _ = PV.vec xnl (.iarr .u8 xN xb) at g
    dsimp only at c1
    obtain ⟨s, o, m, M, hf⟩ := txP_form xb
    rw [hf] at c1
    have hle := txE_le xb
    by_cases h0 : txE xb = 0
    · rw [if_pos h0] at hp
      have hw := hw hp
      rw [h0] at c1
      clear hdrop hf hp h0
      generalize soundPV L = res at *
      generalize L.map bsPV = T at *
      unfold dsSd Hd.pv at *
      refine W.sg 0 [(0, aT), (2, aE g), (5, c0 c1), (8, aV (I6 0)), (14, aV (I6 (↑(i + 1) : Int)))] (rI 2) (⟨[(1, .at 1 []), (2, .at 2 []), (21, .vec nl (.parr 1 n bsh T)), (22, .int .i64 n), (23, .int .i64 ((i + 1 : Nat) : Int))], [(1, ⟨.st 69 [.st 68 [.int .u32 h.ver, .iarr .u8 32 h.prev, .iarr .u8 32 h.root, .int .u32 h.time, .int .u32 h.bits, .int .u32 h.nonce], .vec nl (.parr 1 n bsh T)], false⟩), (2, ⟨.iarr .u8 32 z32, false⟩)]⟩ : DS) [decide ((i:Int) < (n:Int)) = true, 0 ≤ (i:Int), (i:Int) < (n:Int), _, i < n, _, I6 (↑(0 : Nat) : Int) = I6 0, I6 (IntKind.wrap .i64 ((i:Int) + 1)) = I6 (↑(i + 1) : Int)] (by kernel_rfl) (ac (dT (by omega)) (ac (by omega) (ac (by omega) (ac (ex g) (ac (by omega) (ac (c1) (ac (cg (by omega)) (ao (cg (w_i64 rfl (by omega) (by omega))))))))))) ?_
      exact hw
    · rw [if_neg h0] at hp
      have hse : soundE L = txE xb := by unfold soundE; rw [ho.len, if_neg (by omega), hp, if_neg h0]
      have hne : ¬ ((txE xb : Int) = 0) := by omega
      unfold soundPV
      rw [hse, if_neg h0]
      clear hdrop hf hp hw hse
      generalize txE xb = e at *
      generalize L.map bsPV = T at *
      unfold dsSd Hd.pv hv at *
      refine W.rt [(0, aT), (2, aE g), (5, c0 c1), (13, aT)] [] [decide ((i:Int) < (n:Int)) = true, 0 ≤ (i:Int), (i:Int) < (n:Int), _, i < n, _, ((e:Int) != 0) = true] (by kernel_rfl) (ac (dT (by omega)) (ac (by omega) (ac (by omega) (ac (ex g) (ac (by omega) (ac (c1) (ao (bne_iff_ne.2 (by omega)))))))))
theorem pc_sound {h : Hd} {nl : Bool} {n : Nat} {L : List TxM} (ho : TxsOk L n) (hn : n ≤ 100000) : PC Tryd.prog G0 18 [] [blkPV h nl n L] [] (soundPV L) := by
  refine PC.of (fn := Tryd.f18) (c := bodyOf Tryd.f18) Tryd.func18 (by kernel_rfl) (by kernel_rfl) (by kernel_rfl) (by kernel_rfl) ?_
  by_cases hr : n < 1 ∨ 16 < n
  · have hse : soundE L = 5 := by unfold soundE; rw [ho.len, if_pos hr]
    unfold soundPV
    rw [hse, if_neg (by omega)]
    unfold blkPV txsPV Hd.pv hv
    clear hse
    generalize L.map bsPV = T at *
    rcases hr with h1 | h1
    · refine W.ret [(6, aT)] [] [decide ((n:Int) < 1) = true, PV.tup [B8 32 (List.replicate 32 0), I6 5] = PV.tup [B8 32 (List.replicate 32 0), I6 (↑(5 : Nat) : Int)]] (by kernel_rfl) (ac (dT (by omega)) (ao rfl))
    · have h2 : ¬ ((n : Int) < 1) := by omega
      refine W.ret [(6, aF), (11, aT)] [] [decide ((n:Int) < 1) = false, decide ((n:Int) > 16) = true, PV.tup [B8 32 (List.replicate 32 0), I6 5] = PV.tup [B8 32 (List.replicate 32 0), I6 (↑(5 : Nat) : Int)]] (by kernel_rfl) (ac (dF (by omega)) (ac (dT (by omega)) (ao rfl)))
  · have hw := W_sound (h := h) (nl := nl) ho (by omega) (by omega) n 0 (by omega) rfl
    generalize soundPV L = res at *
    unfold blkPV txsPV Hd.pv
    generalize L.map bsPV = T at *
    unfold dsSd Hd.pv at *
    refine W.seg [(6, aF), (11, aF)] [(64, 1), (80, 2)] (⟨[(1, .at 1 []), (2, .at 2 []), (21, .vec nl (.parr 1 n bsh T)), (22, .int .i64 n), (23, .int .i64 (0 : Int))], [(1, ⟨.st 69 [.st 68 [.int .u32 h.ver, .iarr .u8 32 h.prev, .iarr .u8 32 h.root, .int .u32 h.time, .int .u32 h.bits, .int .u32 h.nonce], .vec nl (.parr 1 n bsh T)], false⟩), (2, ⟨.iarr .u8 32 z32, false⟩)]⟩ : DS) (todo' := loopAt Tryd.f18 0) [decide ((n:Int) < 1) = false, decide ((n:Int) > 16) = false, rr (PV.at 1 []), rr (PV.at 2 []), rr (PV.vec nl (PV.parr 1 n (Sh.vec 1 (Sh.int IntKind.u8)) T)), rr (I6 (n:Int)), I6 0 = I6 (↑(0 : Nat) : Int), rr (PV.st 69 [Hd.pv h, PV.vec nl (PV.parr 1 n (Sh.vec 1 (Sh.int IntKind.u8)) T)]), rr (B8 32 (List.replicate 32 0))] (by kernel_rfl) (ac (dF (by omega)) (ac (dF (by omega)) (ac rfl (ac rfl (ac rfl (ac rfl (ac (cg (by omega)) (ac rfl (ao rfl))))))))) ?_
    exact hw
end Go.Proofs
namespace Go.Proofs
open Go Go.Pe Go.Pm
set_option maxRecDepth 100000
set_option linter.unusedVariables false
def checkE (h : Hd) (L : List TxM) : Nat := if soundE L = 0 then (if rootM (idsM L) = h.root then 0 else 15) else soundE L
theorem soundE_le (L : List TxM) : soundE L ≤ 100 := by
  have h : parseE L ≤ 100 := by
    induction L with
    | nil => exact Nat.zero_le _
    | cons x l ih =>
      rw [parseE]
      have := txE_le x.2.2
      split <;> assumption
  unfold soundE
  repeat' split
  all_goals omega
theorem pc_bCheck {h : Hd} {nl : Bool} {n : Nat} {L : List TxM} (hh : h.Ok) (ho : TxsOk L n) (hn : n ≤ 100000) : PC Tryd.prog G0 12 [] [blkPV h nl n L] [] (.int .i64 (checkE h L)) := by
  refine PC.of (fn := Tryd.f12) (c := bodyOf Tryd.f12) Tryd.func12 (by kernel_rfl) (by kernel_rfl) (by kernel_rfl) (by kernel_rfl) ?_
  have c1 := pc_sound (h := h) (nl := nl) ho hn
  have hl := soundE_le L
  have hrl := rootM_length (idsM_ok ho)
  have hroot := hh.root
  unfold soundPV at c1
  unfold checkE
  by_cases h0 : soundE L = 0
  · rw [h0, if_pos rfl] at c1
    rw [if_pos h0]
    unfold blkPV txsPV Hd.pv hv at *
    by_cases hr : rootM (idsM L) = h.root
    · rw [if_pos hr]
      generalize rootM (idsM L) = rt at *
      subst hr
      generalize L.map bsPV = T at *
      refine W.ret [(3, c9 c1), (6, aV (I6 0)), (17, aF)] [] [_, I6 (↑(0 : Nat) : Int) = I6 0, (!decide (Hd.root h = Hd.root h)) = false, I6 0 = I6 (↑(0 : Nat) : Int)] (by kernel_rfl) (ac (c1) (ac (cg (by omega)) (ac (by (simp [*]; done)) (ao (cg (by omega))))))
    · rw [if_neg hr]
      generalize rootM (idsM L) = rt at *
      generalize L.map bsPV = T at *
      generalize h.root = hr0 at *
      refine W.ret [(3, c9 c1), (6, aV (I6 0)), (17, aT)] [] [_, I6 (↑(0 : Nat) : Int) = I6 0, (!decide (rt = hr0)) = true, I6 15 = I6 (↑(15 : Nat) : Int)] (by kernel_rfl) (ac (c1) (ac (cg (by omega)) (ac (by (simp [*]; done)) (ao (cg (by omega))))))
  · rw [if_neg h0] at c1 ⊢
    have hne : ¬ ((soundE L : Int) = 0) := by omega
    unfold blkPV txsPV Hd.pv hv at *
    generalize soundE L = e at *
    generalize L.map bsPV = T at *
    refine W.rt [(3, c9 c1), (11, aF)] [] [_, ((e:Int) == 0) = false] (by kernel_rfl) (ac (c1) (ao (dF (by omega))))
end Go.Proofs
namespace Go.Proofs
open Go Go.Pe Go.Pm
set_option maxRecDepth 100000
set_option linter.unusedVariables false
theorem bsl_get {L : List TxM} {i : Nat} (h : i < L.length) : (L.map bsPV).take (i + 1) = (L.map bsPV).take i ++ [bsPV (L.getD i default)] := by
  rw [List.take_add_one]
  congr 1
  simp [List.getD_eq_getElem?_getD, h]
end Go.Proofs
