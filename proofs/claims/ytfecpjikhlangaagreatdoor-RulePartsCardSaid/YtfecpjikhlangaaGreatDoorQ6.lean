/- Merged texts: the pure machine and what the walks show. Conditions: as each statement says. -/
import Derived.LaidLaws
import Derived.LaidHandle
import Derived.FnData
import GoSem.ClaimSeven
import Derived.Test.YtfecpjikhlangaaGreatDoorQ5
namespace Go.Pe
open Go.ChangeShapes Go.WideShapes Go.ChangeAt Go.RowKit
section
variable {H : Type} {enc : TypeId × Value → H} {P : Program}
theorem mapM_idx {α β : Type} {g : α → Option β} : ∀ {l : List α} {xs : List β}, l.mapM g = some xs → ∀ (i : Nat) (a : α), l[i]? = some a → ∃ y, xs[i]? = some y ∧ g a = some y
  | [], _, _, i, a, hi => by simp at hi
  | b :: l, xs, h, i, a, hi => by
    rw [List.mapM_cons] at h
    simp only [Option.bind_eq_bind, Option.bind_eq_some_iff] at h
    obtain ⟨y, hy, ys, hys, hx⟩ := h
    obtain rfl := Option.some.inj hx
    cases i with
    | zero => simp at hi; subst hi; exact ⟨y, rfl, hy⟩
    | succ i => exact mapM_idx hys i a (by simpa using hi)
theorem laid_mem {w : World} : ∀ {l : List (String × DataW Unit)} {ps : List MemPlace}, DataW.LaidVars P w l ps → ∀ x ∈ l, ∃ g t cs fuel p, P.globalNamed x.1 = some g ∧ (P.globals[g]?).map (·.type) = some t ∧ w.var? P x.1 = some cs ∧ DataW.trod (fun _ => ()) P w 0 (fun _ => true) false fuel t cs.toList = some (x.2, p)
  | [], _, _, x, hx => by cases hx
  | (n, d) :: l, ps, h, x, hx => by
    simp only [DataW.LaidVars] at h
    obtain ⟨g, t, cs, fuel, p, q, h1, h2, h3, h4, h5, _⟩ := h
    rcases List.mem_cons.1 hx with rfl | hx
    · exact ⟨g, t, cs, fuel, p, h1, h2, h3, h4⟩
    · exact laid_mem h5 x hx
theorem trod_int {w : World} {base fuel : Nat} {sp : Nat → Bool} {held : Bool} {t : TypeId} {k k' : IntKind} {n : Int} {cs : List Value} {p : List MemPlace} (hu : P.underlying t = some (.int k))
    (h : DataW.trod enc P w base sp held fuel t cs = some (.lit (.int k' n), p)) : cs = [.int k n] := by
  cases fuel with
  | zero => simp [DataW.trod] at h
  | succ fuel =>
    simp only [DataW.trod, hu] at h
    split at h <;> simp_all
/-- a variable that holds an array of integers -/
theorem glob_ints {W : World} {laid : List (String × DataW Unit)} (h : laidMet P laid W) {name : String} {g t e m : Nat} {k : IntKind} {ls : List Int} (hin : (name, .agg (ls.map fun v => .lit (.int k v))) ∈ laid)
    (hg : P.globalNamed name = some g) (ht : (P.globals[g]?).map (·.type) = some t) (hu : P.underlying t = some (.array m e)) (he : P.underlying e = some (.int k)) (hce : P.cellsOf e = 1) (hct : P.cellsOf t = m) (hm : ls.length = m) :
    RC W (fun b _ => b < W.heap.size) (.pointer (some ⟨g, 0, none⟩)) (.cptr (.iarr k m ls) []) := by
  obtain ⟨ps, hL, _, _⟩ := h
  obtain ⟨g', t', cs, fuel, p, h1, h2, h3, h4⟩ := laid_mem hL _ hin
  obtain rfl := Option.some.inj (hg.symm.trans h1)
  obtain rfl := Option.some.inj (ht.symm.trans h2)
  have hcell : ∀ (i : Nat) (v : Int), ls[i]? = some v → cs[i]? = some (Value.int k v) := by
    intro i v hv
    cases fuel with
    | zero => simp [DataW.trod] at h4
    | succ fuel =>
      simp only [DataW.trod, hu] at h4
      split at h4
      · rename_i hl
        simp only [Option.map_eq_some_iff] at h4
        obtain ⟨xs, hxs, hd⟩ := h4
        simp only [Prod.mk.injEq, DataW.agg.injEq] at hd
        have hi : i < ls.length := by
          rw [List.getElem?_eq_some_iff] at hv
          exact hv.1
        obtain ⟨y, hy1, hy2⟩ := mapM_idx hxs i i (by rw [List.getElem?_range (by omega)])
        have hy : (xs.map (·.1))[i]? = some y.1 := by rw [List.getElem?_map, hy1]; rfl
        rw [hd.1, List.getElem?_map, hv] at hy
        obtain ⟨y1, y2⟩ := y
        simp only [Option.map_some, Option.some.injEq] at hy
        subst hy
        have := trod_int he hy2
        rw [hce, Nat.mul_one] at this
        have e : cs.toList[i]? = some (Value.int k v) := by
          have e0 := congrArg (fun l => l[0]?) this
          simpa using e0
        simpa using e
      · cases h4
  have hcw : ∀ (i : Nat) (v : Int), ls[i]? = some v → W.cell? ⟨g, i, none⟩ = some (Value.int k v) := fun i v hv => by rw [World.var?_cell hg h3, hcell i v hv]
  refine RC.cptr g 0 _ [] (fun j => Value.int k (ls.getD j 0)) ?_ ?_
  · intro j q hq
    simp only [flat, List.getElem?_map, Option.map_eq_some_iff] at hq
    obtain ⟨v, hv, rfl⟩ := hq
    have hc := hcw j v hv
    rw [Nat.zero_add]
    refine ⟨?_, by rw [hc, List.getD_eq_getElem?_getD, hv]; rfl⟩
    rcases Nat.lt_or_ge g W.heap.size with h | h
    · exact h
    · simp [World.cell?, Array.getElem?_eq_none h] at hc
  · intro j q hq
    simp only [flat, List.getElem?_map, Option.map_eq_some_iff] at hq
    obtain ⟨v, hv, rfl⟩ := hq
    rw [List.getD_eq_getElem?_getD, hv]
    exact .int k v
theorem wants_of {ps : Array TypeId} (h : ps.toList.all (fun t => !P.wantsStandIn t) = true) (j : Nat) (t : TypeId) (ht : ps[j]? = some t) : P.wantsStandIn t = false := by
  have := List.all_eq_true.1 h t (by rw [← Array.getElem?_toList] at ht; exact List.mem_of_getElem? ht)
  simpa using this
/-- a world with a variable laid -/
noncomputable def laidW (P : Program) (os : Os) (g : Nat) (cs : Array Value) : World :=
  let w0 := World.holding P os ⟨#[], #[], []⟩
  { w0 with heap := w0.heap.modify g fun
      | .cells _ t frozen => .cells cs t frozen
      | o => o }
/-- THE LAW's STEP over laid variables. -/
theorem law_callsG {G : Nat → Option PV} {f : FuncId} {fn : Func} {s : ChangeSpec} {apart fresh handsOn again : Bool} {tb : TypeId} (hl : laidOutB P = true) (hvars : s.vars = []) (hr : fn.resultTypes = #[tb]) (hb : P.underlying tb = some .bool)
    (hbody : hasBody P f) (hspec : ∀ ds : List (DataW H), ds.length = fn.params.toList.length → s.fn H ds = { results := [.lit (.bool true)], args := ds })
    (ht : fn.params.toList.all (fun t => okT P 9 t && P.readableRec t && Nat.blt t P.types.size) = true)
    (hpc : ∀ ps, Ins P fn.params.toList ps → PC P G f [] ps [] (.bool true))
    {W : World} (hG : ∀ g c, G g = some c → WF c ∧ noref c = true ∧ RC W (fun b _ => b < W.heap.size) (.pointer (some ⟨g, 0, none⟩)) (.cptr c []))
    {base : Nat} {args : Array Value} {ds gs : List (DataW H)} {before : List MemPlace}
    (hval : ∀ (j : Nat) t v, fn.params[j]? = some t → args[j]? = some v → Value.okWide P W .any base t v)
    (hW : DataW.Whole enc P fn.params.toList s.vars apart W args.toList ds gs before) :
    Calls P f args W fun e W' => ∃ v, e = .returned v ∧ s.post enc P fn apart fresh handsOn again W args v W' := by
  have ht' : ∀ t ∈ fn.params.toList, okT P 9 t = true ∧ P.readableRec t = true ∧ t < P.types.size := by
    intro t h
    have := List.all_eq_true.1 ht t h
    simp only [Bool.and_eq_true] at this
    exact ⟨this.1.1, this.1.2, Nat.blt_eq ▸ this.2⟩
  have hW' := hW
  obtain ⟨p, q, hA, hV, rfl, hz, hn⟩ := hW
  rw [hvars] at hV
  obtain ⟨rfl, rfl⟩ := trodVars_none hV
  obtain ⟨l1, l2⟩ := trodAll_length hA
  obtain ⟨qs, g1, g2, g3⟩ := ins_of (base := base) (fun t h => (ht' t h).1) (fun j t v h1 h2 => hval j t v (by rw [← Array.getElem?_toList]; exact h1) (by rw [← Array.getElem?_toList]; exact h2)) hA
  have hM : ∀ b o, ¬ Mut (fun _ => none) (lookR ([] : List (Nat × Row))) b o := by
    rintro b o ⟨i, r, pl, h1, _⟩
    simp [lookR] at h1
  have hc := hpc qs g1
  refine Calls.mono (Enters.calls hbody (hc (fun b _ => b < W.heap.size) (fun _ => none) W args (fun b o _ => hM b o) ⟨fun i r hi => by simp [lookR] at hi, fun i i' r r' pl pl' _ h1 => by simp [lookR] at h1⟩ (fun _ _ => rfl) hG
    (by rw [g2]; simp) (fun j p v hp hv _ => g3 j p v hp (by rw [Array.getElem?_toList]; exact hv)))) fun e W' he => ?_
  obtain ⟨v, ρ', rfl, r1, _, _, r4, _⟩ := he
  have hvb : v = .bool true := by
    have := r1.to_leaf rfl (fun _ e => by cases e)
    simp only [RO] at this
    cases this
    rfl
  subst hvb
  have hbel := below_of_FR hM r4
  have hsp := hspec ds l2
  refine ⟨_, rfl, post_below (pa := p) (pv := []) hW' ?_ ?_ ?_ (by simp) hbel ?_⟩
  · intro b sp hd
    rw [List.append_nil, hsp, hr]
    exact trodAll_mk1 (shut_bool hb true)
  · intro sp hs
    rw [List.append_nil, hsp]
    exact trodAll_stays hl hbel (fun t h => (ht' t h).2) hA (fun x hx => hs x (by simp [hx]))
  · intro sp hs
    rw [List.append_nil, hsp, hvars]
    rfl
  · rw [hr]
    exact ok_one (f := { fn with resultTypes := #[tb] }) rfl rfl (okWide_bool_mk hb true)
end
end Go.Pe
