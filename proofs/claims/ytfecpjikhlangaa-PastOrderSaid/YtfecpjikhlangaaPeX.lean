/- The walk of a function over plain states: from loop head to loop head, and to the return. No condition. -/
import Derived.Test.YtfecpjikhlangaaPeW
namespace Go.Pe

/- Results. -/
def resOne (P : Program) (d : DS) : ResultVar → Option (PV × List Prop)
  | .tmp t => if good (getF d.fr t) then some (getF d.fr t, []) else none
  | .cell x ty => match getF d.fr x with
    | .at id path => (match lookR d.hp id with
      | some r => (match loadP P ty r.c path with
        | .ret v _ ob => some (v, ob)
        | _ => none)
      | none => none)
    | _ => none
def resAll (P : Program) (d : DS) : List ResultVar → Option (List PV × List Prop)
  | [] => some ([], [])
  | x :: l => match resOne P d x, resAll P d l with
    | some y, some m => some (y.1 :: m.1, y.2 ++ m.2)
    | _, _ => none
def resM (tmps : Array Value) : ResultVar → Sem Value
  | .tmp t => pure (tmps.getD t Go.undef)
  | .cell y t => do loadVar t (← asAddr (tmps.getD y Go.undef))
def tupOf : List PV → PV
  | [p] => p
  | l => .tup l

section
variable {C : Ctx} {F : Nat → Prop} {ρ : Pls} {d : DS} {a : Act} {w : World}

theorem resOne_run (h : SimAt C F ρ d.st a w) {x : ResultVar} {p : PV} {ob : List Prop} (hx : resOne C.P d x = some (p, ob)) (ho : All ob) :
    ∃ v, (resM a.tmps x).run C.P w = .ok v w ∧ RV w (Tc C ρ d.st.hp) ρ v p ∧ ∀ l, p ≠ .tup l := by
  cases x with
  | tmp t =>
    simp only [resOne] at hx
    split at hx
    · rename_i hg
      simp only [Option.some.injEq, Prod.mk.injEq] at hx
      obtain ⟨rfl, rfl⟩ := hx
      obtain ⟨g1, g2⟩ := good_spec hg
      exact ⟨_, rfl, (h.fr t g2).2, g1⟩
    · cases hx
  | cell y ty =>
    simp only [resOne] at hx
    split at hx
    · rename_i id path hA
      split at hx
      · rename_i r hr
        split at hx
        · rename_i v ups ob' hl
          simp only [Option.some.injEq, Prod.mk.injEq] at hx
          obtain ⟨rfl, rfl⟩ := hx
          have hy : a.tmps.getD y Go.undef = a.eval (.tmp y) := rfl
          have hA' : evO C.P C.G 0 d.st.fr (.tmp y) = .at id path := hA
          obtain ⟨pl, p1, p2⟩ := evO_at h hA'
          obtain ⟨pl', p1', hrel⟩ := h.heap.row id r hr
          rw [p1] at p1'
          cases p1'
          unfold loadP at hl
          split at hl
          · rename_i q hq
            split at hl
            · rename_i hb
              simp only [Pr.ret.injEq] at hl
              obtain ⟨rfl, _, rfl⟩ := hl
              simp only [Bool.and_eq_true, Bool.not_eq_true', beq_iff_eq] at hb
              obtain ⟨c1, _, _, c4⟩ := hrel.cellsAt hq ho
              obtain ⟨v, e1, e2⟩ := loadVar_run (P := C.P) (t := ty) c1 (Nat.eq_of_beq_eq_true hb.1.1.1) hb.1.1.2 hb.1.2 hb.2 c4
              refine ⟨v, ?_, e2, fun l e => by subst e; simp [isTup] at hb⟩
              simp only [resM, hy, p2, asAddr, Sem.run_bind, Sem.run_pure, Result.andThen_ok]
              exact e1
            · cases hl
          · cases hl
        · cases hx
      · cases hx
    · cases hx

theorem resAll_run (h : SimAt C F ρ d.st a w) : ∀ {l : List ResultVar} {ps : List PV} {ob : List Prop}, resAll C.P d l = some (ps, ob) → All ob →
    ∃ vs : List Value, (l.mapM (resM a.tmps)).run C.P w = .ok vs w ∧ vs.length = ps.length ∧ ∀ (j : Nat) (p : PV) (v : Value), ps[j]? = some p → vs[j]? = some v → RV w (Tc C ρ d.st.hp) ρ v p ∧ ∀ l, p ≠ .tup l
  | [], ps, ob, hx, _ => by
    simp only [resAll, Option.some.injEq, Prod.mk.injEq] at hx
    obtain ⟨rfl, rfl⟩ := hx
    exact ⟨[], rfl, rfl, fun j p v hp => by simp at hp⟩
  | x :: l, ps, ob, hx, ho => by
    simp only [resAll] at hx
    split at hx
    · rename_i y m hy hm
      simp only [Option.some.injEq, Prod.mk.injEq] at hx
      obtain ⟨rfl, rfl⟩ := hx
      obtain ⟨v, e1, e2, e3⟩ := resOne_run h hy ho.left
      obtain ⟨vs, g1, g2, g3⟩ := resAll_run h hm ho.right
      refine ⟨v :: vs, ?_, by simp [g2], fun j p u hp hu => ?_⟩
      · rw [List.mapM_cons]
        simp only [Sem.run_bind, Sem.run_pure, e1, Result.andThen_ok, g1]
      · cases j with
        | zero => simp at hp hu; subst hp; subst hu; exact ⟨e2, e3⟩
        | succ j => simp at hp hu; exact g3 j p u hp hu
    · cases hx

theorem results_run (h : SimAt C F ρ d.st a w) {fn : Func} {ps : List PV} {ob : List Prop} (hx : resAll C.P d fn.results.toList = some (ps, ob)) (ho : All ob) :
    ∃ v, (results fn a.tmps).run C.P w = .ok v w ∧ RV w (Tc C ρ d.st.hp) ρ v (tupOf ps) := by
  obtain ⟨vs, g1, g2, g3⟩ := resAll_run h hx ho
  have hrun : (results fn a.tmps).run C.P w = .ok (if h : vs.toArray.size = 1 then vs.toArray[0] else .tuple vs.toArray) w := by
    have : results fn a.tmps = (do
        let vs ← fn.results.mapM (resM a.tmps)
        pure (if h : vs.size = 1 then vs[0] else .tuple vs)) := by
      unfold results
      congr 1
    rw [this]
    simp only [Array.mapM_eq_mapM_toList, Sem.run_bind, Sem.run_map, g1]
    rfl
  by_cases h1 : vs.length = 1
  · obtain ⟨v, rfl⟩ := List.length_eq_one_iff.1 h1
    obtain ⟨p, rfl⟩ := List.length_eq_one_iff.1 (g2.symm.trans h1)
    exact ⟨v, by rw [hrun]; rfl, (g3 0 p v rfl rfl).1⟩
  · refine ⟨.tuple vs.toArray, by rw [hrun, dif_neg (by simpa using h1)], ?_⟩
    have ht : tupOf ps = .tup ps := by
      cases ps with
      | nil => rfl
      | cons p l => cases l with
        | nil => exact absurd g2 h1
        | cons q l => rfl
    rw [ht]
    refine ⟨?_, vs.toArray, rfl, by simpa using g2, fun j q u hq hu => ?_⟩
    · simp only [WF]
      refine WFL_of fun q hq => ?_
      obtain ⟨j, hj, rfl⟩ := List.getElem_of_mem hq
      exact (g3 j _ (vs[j]'(by omega)) (List.getElem?_eq_getElem hj) (List.getElem?_eq_getElem (by omega))).1.1
    · rw [List.getElem?_toArray] at hu
      exact (g3 j q u hq hu).1.to_RN (g3 j q u hq hu).2
end

/- The run. -/
def runI (P : Program) (G : Nat → Option PV) (nt : Nat) : Nat → List Item → Nat → DS → List (Nat × Ans) → Option (Option (List Item) × DS × List Prop)
  | 0, _, _, _, _ => none
  | f + 1, todo, n, d, as => match todo with
    | [] => some (none, d, [])
    | .code c :: k => (match c with
      | .skip => runI P G nt f k n d as
      | .label _ => runI P G nt f k n d as
      | .seq x y => runI P G nt f (.code x :: .code y :: k) n d as
      | .cond c x y => (match evO P G 0 d.st.fr c with
        | .bool true => runI P G nt f (.code x :: k) n d as
        | .bool false => runI P G nt f (.code y :: k) n d as
        | _ => none)
      | .block id c => runI P G nt f (.code c :: .inBlock id :: k) n d as
      | .loop c => some (some (.code c :: .inLoop c :: k), d, [])
      | .exit id => (match exitTo id k with
        | some k' => runI P G nt f k' n d as
        | none => none)
      | .ret => some (none, d, [])
      | .region _ ops draw => (match runOps P G ops ops.toList 0 n d as with
        | some y => if regionB P nt ops draw y.1 then (match runI P G nt f k (n + ops.size) y.2.1 y.2.2 with
          | some z => some (z.1, z.2.1, obsOf y.1 ++ z.2.2)
          | none => none) else none
        | none => none)
      | _ => none)
    | .inBlock _ :: k => runI P G nt f k n d as
    | .inLoop c :: k => some (some (.code c :: .inLoop c :: k), d, [])
    | _ => none

/-- Where a run ends. -/
def Ends (P : Program) (C : Ctx) (ρ : Pls) (b : Frame) (cs : List Frame) (m : Machine) (t : Option (List Item)) (d : DS) : Prop :=
  ∃ M ρ' a' w', Ext ρ ρ' ∧ SimAt C (fun id => M ≤ id) ρ' d.st a' w' ∧ match t with
    | some todo => Steps P m (lone (b.at a' todo) cs w')
    | none => ∃ td, Steps P m (lone { b.at a' td with mode := .returning } cs w')
theorem Ends.of_steps {P : Program} {C : Ctx} {ρ : Pls} {b : Frame} {cs : List Frame} {m m' : Machine} {t : Option (List Item)} {d : DS} (hs : Steps P m m') (h : Ends P C ρ b cs m' t d) : Ends P C ρ b cs m t d := by
  obtain ⟨M, ρ', a', w', h1, h2, h3⟩ := h
  refine ⟨M, ρ', a', w', h1, h2, ?_⟩
  cases t with
  | some todo => exact hs.trans h3
  | none => obtain ⟨td, h3⟩ := h3; exact ⟨td, hs.trans h3⟩

theorem runI_run {C : Ctx} : ∀ {f : Nat} {todo : List Item} {n : Nat} {d : DS} {as : List (Nat × Ans)} {t : Option (List Item)} {d' : DS} {ob : List Prop}, runI C.P C.G C.nt f todo n d as = some (t, d', ob) → All ob →
    ∀ (ρ : Pls) (a : Act) (w : World), SimAt C (fun id => 64 + 16 * n ≤ id) ρ d.st a w → ∀ (b : Frame) (cs : List Frame), Ends C.P C ρ b cs (lone (b.at a todo) cs w) t d'
  | 0, _, _, _, _, _, _, _, h, _ => by simp [runI] at h
  | f + 1, todo, n, d, as, t, d', ob, h, ho => by
    intro ρ a w hs b cs
    simp only [runI] at h
    split at h
    · simp only [Option.some.injEq, Prod.mk.injEq] at h
      obtain ⟨rfl, rfl, rfl⟩ := h
      exact ⟨_, ρ, a, w, Ext.refl _, hs, _, .one step_end⟩
    · rename_i c k
      split at h
      · exact .of_steps (.one step_skip) (runI_run h ho ρ a w hs b cs)
      · exact .of_steps (.one step_label) (runI_run h ho ρ a w hs b cs)
      · exact .of_steps (.one step_seq) (runI_run h ho ρ a w hs b cs)
      · split at h
        · rename_i hc
          have := evO_bool hs hc
          exact .of_steps (.one (step_cond this)) (runI_run h ho ρ a w hs b cs)
        · rename_i hc
          have := evO_bool hs hc
          exact .of_steps (.one (step_cond this)) (runI_run h ho ρ a w hs b cs)
        · cases h
      · exact .of_steps (.one step_block) (runI_run h ho ρ a w hs b cs)
      · simp only [Option.some.injEq, Prod.mk.injEq] at h
        obtain ⟨rfl, rfl, rfl⟩ := h
        exact ⟨_, ρ, a, w, Ext.refl _, hs, .one step_loop⟩
      · split at h
        · rename_i k' hk
          exact .of_steps (.one (step_exit hk)) (runI_run h ho ρ a w hs b cs)
        · cases h
      · simp only [Option.some.injEq, Prod.mk.injEq] at h
        obtain ⟨rfl, rfl, rfl⟩ := h
        exact ⟨_, ρ, a, w, Ext.refl _, hs, _, .one step_ret⟩
      · rename_i id ops draw
        split at h
        · rename_i y hy
          split at h
          · rename_i hb
            split at h
            · rename_i z hz
              simp only [Option.some.injEq, Prod.mk.injEq] at h
              obtain ⟨rfl, rfl, rfl⟩ := h
              have hreg := region_run (id := id) hs (d' := y.2.1) (as' := y.2.2) (its := y.1) hy ho.left hb
              obtain ⟨e, a', w', ⟨rfl, ρ', hx, hs'⟩, harr⟩ := hreg b k cs
              obtain ⟨M, ρ2, a2, w2, h1, h2, h3⟩ := runI_run (t := z.1) (d' := z.2.1) (ob := z.2.2) hz ho.right ρ' a' w' hs' b cs
              exact .of_steps harr ⟨M, ρ2, a2, w2, fun i pl hi => h1 i pl (hx i pl hi), h2, h3⟩
            · cases h
          · cases h
        · cases h
      · cases h
    · exact .of_steps (.one step_inBlock) (runI_run h ho ρ a w hs b cs)
    · simp only [Option.some.injEq, Prod.mk.injEq] at h
      obtain ⟨rfl, rfl, rfl⟩ := h
      exact ⟨_, ρ, a, w, Ext.refl _, hs, .one step_inLoop⟩
    · cases h

/- What holds at the return. -/
def Rt (C : Ctx) (pin : Pls) (fn : Func) (hout : List (Nat × Row)) (res : PV) (a : Act) (w : World) : Prop :=
  a.defers = [] ∧ ∃ v ρ', (results fn a.tmps).run C.P w = .ok v w ∧ RV w (Tc C ρ' (lookR hout)) ρ' v res ∧ HR w (Tc C ρ' (lookR hout)) ρ' (lookR hout) ∧ (∀ i pl, pin i = some pl → ρ' i = some pl) ∧ FR C.M0 C.w0 w ∧
    (∀ i row pl, lookR hout i = some row → ρ' i = some pl → ∀ j, j < pl.ext → C.w0.heap.size ≤ pl.g ∨ C.M0 pl.g (pl.off + j))

/-- THE WALK from a plain state: it comes to the return, with these rows and that result. -/
def W (P : Program) (G : Nat → Option PV) (fn : Func) (pins : List Nat) (hout : List (Nat × Row)) (res : PV) (todo : List Item) (d : DS) : Prop :=
  ∀ (C : Ctx) (pin : Pls), C.P = P → C.G = G → C.nt = fn.ntmps → (∀ i, pin i ≠ none → i ∈ pins) → ∀ (ρ : Pls) (a : Act) (w : World), (∀ i pl, pin i = some pl → ρ i = some pl) → SimAt C (fun id => 64 ≤ id) ρ d.st a w →
    ∀ (b : Frame) (cs : List Frame), ∃ a' w' td, Steps P (lone (b.at a todo) cs w) (lone { b.at a' td with mode := .returning } cs w') ∧ Rt C pin fn hout res a' w'

def segB (P : Program) (G : Nat → Option PV) (nt : Nat) (pins : List Nat) (todo : List Item) (d : DS) (as : List (Nat × Ans)) (b : List (Nat × Nat)) (tgt : DS) : Option (List Item × List Prop) :=
  match runI P G nt 4000 todo 0 d as with
  | some x => (match x.1, castB b pins x.2.1 tgt with
    | some td, some ob => some (td, x.2.2 ++ ob)
    | _, _ => none)
  | none => none
def retB (P : Program) (G : Nat → Option PV) (fn : Func) (pins : List Nat) (todo : List Item) (d : DS) (as : List (Nat × Ans)) (b : List (Nat × Nat)) (hout : List (Nat × Row)) (res : PV) : Option (List Prop) :=
  match runI P G fn.ntmps 4000 todo 0 d as with
  | some x => (match x.1 with
    | some _ => none
    | none => (match resAll P x.2.1 fn.results.toList, castB b pins x.2.1 ⟨[], hout⟩ with
      | some r, some ob => (match viewR (lookR b) (lookR x.2.1.hp) (tupOf r.1) with
        | some q => some (x.2.2 ++ (r.2 ++ (ob ++ (q.2 ++ [q.1 = res]))))
        | none => none)
      | _, _ => none))
  | none => none

section
variable {P : Program} {G : Nat → Option PV} {fn : Func} {pins : List Nat} {hout : List (Nat × Row)} {res : PV} {todo : List Item} {d : DS}
theorem W.seg (as : List (Nat × Ans)) (b : List (Nat × Nat)) (tgt : DS) {todo' : List Item} (ob : List Prop) (h : segB P G fn.ntmps pins todo d as b tgt = some (todo', ob)) (ho : AllC ob) (hw : W P G fn pins hout res todo' tgt) : W P G fn pins hout res todo d := by
  have ho := ho.all
  intro C pin hP hG hN hpin ρ a w hp hs fb cs
  subst hP; subst hG
  unfold segB at h
  split at h
  · rename_i x hx
    split at h
    · rename_i td ob' htd hob'
      simp only [Option.some.injEq, Prod.mk.injEq] at h
      obtain ⟨rfl, rfl⟩ := h
      obtain ⟨M, ρ', a', w', h1, h2, h3⟩ := runI_run (C := C) (t := x.1) (d' := x.2.1) (ob := x.2.2) (by rw [hN]; exact hx) ho.left ρ a w hs fb cs
      rw [htd] at h3
      obtain ⟨c1, c2⟩ := h2.cast hob' ho.right
      obtain ⟨a2, w2, td2, g1, g2⟩ := hw C pin rfl rfl hN hpin (castPls b ρ') a' w' (fun i pl hi => by rw [c2 i (hpin i (by rw [hi]; intro e; cases e))]; exact h1 i pl (hp i pl hi)) c1 fb cs
      exact ⟨a2, w2, td2, h3.trans g1, g2⟩
    · cases h
  · cases h
theorem W.ret (as : List (Nat × Ans)) (b : List (Nat × Nat)) (ob : List Prop) (h : retB P G fn pins todo d as b hout res = some ob) (ho : AllC ob) : W P G fn pins hout res todo d := by
  have ho := ho.all
  intro C pin hP hG hN hpin ρ a w hp hs fb cs
  subst hP; subst hG
  unfold retB at h
  split at h
  · rename_i x hx
    split at h
    · cases h
    · rename_i hnone
      split at h
      · rename_i r ob' hr hob'
        split at h
        · rename_i q hq
          simp only [Option.some.injEq] at h
          subst h
          obtain ⟨M, ρ', a', w', h1, h2, h3⟩ := runI_run (C := C) (t := x.1) (d' := x.2.1) (ob := x.2.2) (by rw [hN]; exact hx) ho.left ρ a w hs fb cs
          rw [hnone] at h3
          obtain ⟨td, h3⟩ := h3
          have ho1 := ho.right
          have ho2 := ho1.right
          have ho3 := ho2.right
          obtain ⟨hk, _, m', hm', hmo'⟩ := castB_spec hob' ho2.left
          obtain ⟨hc, hhr, hinn⟩ := casts_of h2 hk hm' hmo'
          obtain ⟨v, e1, e2⟩ := results_run h2 (fn := fn) (ps := r.1) (ob := r.2) hr ho1.left
          have he : q.1 = res := ho3.right.head
          refine ⟨a', w', td, h3, h2.defers, v, castPls b ρ', e1, ?_, hhr, fun i pl hi => ?_, h2.frame, hinn⟩
          · rw [← he]
            exact hc.rr h2 e2 (q := q.1) (ob := q.2) hq ho3.left
          · have hpi := hk.pin i (hpin i (by rw [hi]; intro e; cases e))
            have : lookR (swapL b) i = some i := lookR_of hk.k2 (swapL_mem.2 (lookR_mem hpi))
            simp only [castPls, this, Option.bind_some]
            exact h1 i pl (hp i pl hi)
        · cases h
      · cases h
  · cases h

def argF : Nat → List PV → List (Nat × PV)
  | _, [] => []
  | i, p :: l => (i, p) :: argF (i + 1) l
theorem argF_get : ∀ {l : List PV} {i t : Nat}, lookR (argF i l) t = if i ≤ t then l[t - i]? else none
  | [], i, t => by simp [argF, lookR]
  | p :: l, i, t => by
    simp only [argF, lookR, argF_get (l := l)]
    by_cases h : i = t
    · subst h; simp
    · rw [if_neg (fun e => h (Nat.eq_of_beq_eq_true e))]
      by_cases hle : i ≤ t
      · rw [if_pos (by omega), if_pos hle, show t - i = (t - (i + 1)) + 1 by omega]
        simp
      · rw [if_neg (by omega), if_neg hle]

/-- FROM THE WALK TO THE CONTRACT. -/
theorem PC.of {f : FuncId} {c : Code} {hin : List (Nat × Row)} {args : List PV} (hf : P.funcs[f]? = some fn) (hb : fn.body = some c) (hn : (fn.name == "runtime.NumGoroutine") = false) (hl : Nat.ble args.length fn.ntmps = true) (hid : hin.all (fun x => Nat.blt x.1 64 && !x.2.frz) = true)
    (hw : W P G fn (keys hin) hout res [.code c] ⟨argF 0 args, hin⟩) : PC P G f hin args hout res := by
  intro T0 ρ w vs h1 h2 h3 h4 h5 h6
  refine .inl ⟨⟨fn, hf, by rw [hb]; rfl, hn⟩, ?_⟩
  let C : Ctx := ⟨P, G, w, T0, Mut ρ (lookR hin), fn.ntmps⟩
  have hid' : ∀ i r, lookR hin i = some r → i < 64 ∧ r.frz = false := by
    intro i r hi
    have := List.all_eq_true.1 hid _ (lookR_mem hi)
    simp only [Bool.and_eq_true, Bool.not_eq_true'] at this
    exact ⟨Nat.blt_eq ▸ this.1, this.2⟩
  have hl' : vs.size ≤ fn.ntmps := by rw [h5]; exact Nat.le_of_ble_eq_true hl
  have hk : Keeps w T0 w (Tc C ρ (lookR hin)) := fun b o u hT hc => ⟨⟨.inl hT, h1 b o hT⟩, hc⟩
  have hsim : SimAt C (fun id => 64 ≤ id) ρ (DS.st ⟨argF 0 args, hin⟩) { tmps := vs ++ Array.replicate (fn.ntmps - vs.size) Go.undef, defers := [] } w := by
    refine ⟨rfl, by show _ = fn.ntmps; simp; omega, fun t ht => ?_, ⟨fun i r hi => ?_, h2.sep⟩, fun i hi => ?_, fun i r pl hi hp j hj => ?_, FR.refl _ _, fun g c hg => ⟨(h4 g c hg).1, (h4 g c hg).2.1, (h4 g c hg).2.2.keep hk⟩⟩
    · have ht' : getF (argF 0 args) t ≠ .undef := ht
      have hg : (DS.st ⟨argF 0 args, hin⟩).fr t = getF (argF 0 args) t := rfl
      rw [hg]
      have hlook : lookR (argF 0 args) t = args[t]? := by rw [argF_get]; simp
      unfold getF at ht' ⊢
      rw [hlook] at ht' ⊢
      cases hp : args[t]? with
      | none => rw [hp] at ht'; exact absurd rfl ht'
      | some p =>
        rw [hp] at ht'
        simp only at ht' ⊢
        have hlt : t < vs.size := by rw [h5]; exact (List.getElem?_eq_some_iff.1 hp).1
        refine ⟨by show t < fn.ntmps; omega, ?_⟩
        have : (vs ++ Array.replicate (fn.ntmps - vs.size) Go.undef).getD t Go.undef = vs[t] := by
          simp [Array.getD, hlt]
          intro hx
          omega
        rw [this]
        exact (h6 t p vs[t] hp (Array.getElem?_eq_getElem hlt) ht').keep hk (Ext.refl _)
    · obtain ⟨pl, p1, p2⟩ := h2.row i r hi
      exact ⟨pl, p1, p2.keep hk (Ext.refl _) rfl⟩
    · have : lookR hin i = none := by
        cases hr : lookR hin i with
        | none => rfl
        | some r =>
          have := hid' i r hr
          omega
      exact ⟨h3 i this, this⟩
    · exact .inr ⟨i, r, pl, hi, (hid' i r hi).2, hp, rfl, by omega, by omega⟩
  intro cs
  let b : Frame := { (default : Frame) with fn := f, kind := .normal }
  have henter : Frame.enter P f vs .normal = b.at { tmps := vs ++ Array.replicate (fn.ntmps - vs.size) Go.undef, defers := [] } [.code c] := by
    simp [Frame.enter, Frame.at, hf, hb, b]
  obtain ⟨a', w', td, hsteps, hd, v, ρ', r1, r2, r3, r4, r5, r6⟩ := hw C (fun i => match lookR hin i with
    | some _ => ρ i
    | none => none) rfl rfl rfl (fun i hi => lookR_in fun e => by rw [e] at hi; exact hi rfl) ρ _ w (fun i pl hi => by
      cases hr : lookR hin i with
      | none => rw [hr] at hi; cases hi
      | some r => rw [hr] at hi; exact hi) hsim b cs
  rw [← henter] at hsteps
  exact ⟨.returned v, w', _, ⟨v, ρ', rfl, r2, r3, fun i pl hi hp => r4 i pl (by
    cases hr : lookR hin i with
    | none => exact absurd hr hi
    | some r => simp only [hr]; exact hp), r5, r6⟩, hsteps, rfl, rfl, hd, rfl, fn, hf, r1⟩
end
end Go.Pe
