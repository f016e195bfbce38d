/- What an operation leans on, what it turns; operations that are apart may trade places. No condition. -/
import Derived.Test.YtfecpjikhlangaaPeT
namespace Go.Pe

theorem Pr.run_congr {hp hp' : Hp} : ∀ {pr : Pr} {v : PV} {ups : List (Nat × Option Row)} {ob : List Prop} {rd : List Nat}, pr.run hp = some (v, ups, ob, rd) → (∀ i ∈ rd, hp' i = hp i) → pr.run hp' = some (v, ups, ob, rd)
  | .ret v0 u o, v, ups, ob, rd, h, _ => h
  | .fail, _, _, _, _, h, _ => by simp [Pr.run] at h
  | .read id k, v, ups, ob, rd, h, hr => by
    simp only [Pr.run] at h ⊢
    split at h
    · rename_i r hid
      simp only [Option.map_eq_some_iff, Prod.mk.injEq] at h
      obtain ⟨⟨a1, a2, a3, a4⟩, h1, h2, h3, h4, h5⟩ := h
      simp only at h2 h3 h4 h5
      subst h2; subst h3; subst h4; subst h5
      rw [hr id (by simp), hid]
      simp only [Pr.run_congr h1 fun i hi => hr i (by simp [hi]), Option.map_some]
    · cases h

section
variable {P : Program} {G : Nat → Option PV} {fr fr' : Nat → PV}
def SameOn (fr fr' : Nat → PV) (o : Oper) : Prop := ∀ x ∈ o.op.operands, ∀ t, x = .tmp t → fr' t = fr t
theorem evO_congr {x : Operand} (h : ∀ t, x = .tmp t → fr' t = fr t) (t : TypeId) : evO P G t fr' x = evO P G t fr x := by
  cases x with
  | tmp i => exact h i rfl
  | _ => rfl
theorem evParts_congr {t : TypeId} : ∀ {l : List (Nat × Operand)}, (∀ x ∈ l, ∀ t, x.2 = .tmp t → fr' t = fr t) → evParts (evO P G t fr') l = evParts (evO P G t fr) l
  | [], _ => rfl
  | x :: l, h => by
    simp only [evParts, evO_congr (h x (by simp)), evParts_congr (l := l) fun y hy => h y (by simp [hy])]
theorem evArgs_congr : ∀ {l : List Operand} {ts : List TypeId}, (∀ x ∈ l, ∀ t, x = .tmp t → fr' t = fr t) → evArgs P G fr' l ts = evArgs P G fr l ts
  | [], _, _ => rfl
  | x :: l, [], h => by simp only [evArgs, evO_congr (h x (by simp)), evArgs_congr (l := l) fun y hy => h y (by simp [hy])]
  | x :: l, t :: ts, h => by simp only [evArgs, evO_congr (h x (by simp)), evArgs_congr (l := l) fun y hy => h y (by simp [hy])]

theorem exec_congr {o : Oper} (k : Nat) (emp : Bool) (h : SameOn fr fr' o) : exec P G o fr' k emp = exec P G o fr k emp := by
  have e : ∀ x ∈ o.op.operands, ∀ t, evO P G t fr' x = evO P G t fr x := fun x hx t => evO_congr (h x hx) t
  obtain ⟨dst, op, type, pos, after, guard⟩ := o
  simp only [SameOn] at h
  cases op <;> simp only [Op.operands] at e h <;> simp only [exec]
  case call c =>
    have e' : ∀ x ∈ c.args, ∀ t, evO P G t fr' x = evO P G t fr x := fun x hx t => e x (by simp [Call.operands, hx]) t
    have g : ∀ i t, evO P G t fr' (c.args.getD i (.func 0)) = evO P G t fr (c.args.getD i (.func 0)) := by
      intro i t
      by_cases hi : i < c.args.size
      · have : c.args.getD i (.func 0) = c.args[i] := by simp [Array.getD, hi]
        rw [this]
        exact e' _ (Array.getElem_mem hi) t
      · have : c.args.getD i (.func 0) = .func 0 := by simp [Array.getD, hi]
        rw [this]
        rfl
    have m : (c.args.toList.map fun x => evO P G 0 fr' x) = c.args.toList.map fun x => evO P G 0 fr x := List.map_congr_left fun x hx => e' x (Array.mem_toList_iff.1 hx) 0
    split <;> first
      | rfl
      | (rw [m])
      | (simp only [g])
  case build t ps => rw [evParts_congr fun x hx t ht => h x.2 (by simp; exact ⟨x.1, by simpa using hx⟩) t ht]
  case buildSlice t n ps => rw [evParts_congr fun x hx t ht => h x.2 (by simp; exact ⟨x.1, by simpa using hx⟩) t ht]
  case slice t x lo hi mx => cases lo <;> cases hi <;> cases mx <;> simp_all
  all_goals first
    | rfl
    | (simp_all; done)
    | (simp only [e _ (by simp)])

theorem callA_congr {o : Oper} (k : Nat) (keep : Bool) (inv : List (Nat × Nat)) (hout : List (Nat × Row)) (res : PV) (told : Option (List (Nat × Row) × List PV)) (h : SameOn fr fr' o) : callA P G o fr' k keep inv hout res told = callA P G o fr k keep inv hout res told := by
  unfold callA
  split
  · rename_i c ho
    rw [evArgs_congr fun x hx t ht => h x (by rw [ho]; simp [Op.operands, Call.operands]; exact .inr (by simpa using hx)) t ht]
  · rfl
theorem execA_congr {o : Oper} (k : Nat) (ans : Ans) (h : SameOn fr fr' o) : execA P G o fr' k ans = execA P G o fr k ans := by
  cases ans <;> simp only [execA, exec_congr k _ h, callA_congr k _ _ _ _ _ h]
end

structure Eff where
  v : PV
  ups : List (Nat × Option Row)
  ob : List Prop
  rd : List Nat
def wantP (ops : Array Oper) (o : Oper) (fr : Nat → PV) : Option Bool := match o.guard with
  | none => some true
  | some g => match (ops[g.1]?).bind (·.dst) with
    | none => some false
    | some t => match fr t with
      | .bool b => some (b == g.2)
      | .tup _ => some false
      | _ => none
def effOf (P : Program) (G : Nat → Option PV) (ops : Array Oper) (o : Oper) (s : St) (k : Nat) (ans : Ans) : Option Eff := match wantP ops o s.fr with
  | some true => (match (execA P G o s.fr k ans).run s.hp with
    | some x => some ⟨x.1, x.2.1, x.2.2.1, x.2.2.2⟩
    | none => none)
  | some false => some ⟨.tup [], [], [], []⟩
  | none => none
def applyE (s : St) (o : Oper) (e : Eff) : St := St.put { s with hp := applyUps s.hp e.ups } o.dst e.v

section
variable {C : Ctx} {F : Nat → Prop} {ρ : Pls} {s : St} {a : Act} {w : World} {k : Nat}

theorem wantP_spec (h : SimAt C F ρ s a w) {ops : Array Oper} {o : Oper} {b : Bool} (hw : wantP ops o s.fr = some b) (hdst : ∀ (i : Nat) (x : Oper) (d : Nat), ops[i]? = some x → x.dst = some d → d < C.nt) : Region.wanted o (yielded ops a.tmps) = b := by
  unfold wantP at hw
  unfold Region.wanted yielded
  split at hw
  · rename_i hg
    simp only [Option.some.injEq] at hw
    subst hw
    rw [hg]
  · rename_i g hg
    rw [hg]
    obtain ⟨j, want⟩ := g
    simp only at hw ⊢
    split at hw
    · rename_i hn
      simp only [Option.some.injEq] at hw
      subst hw
      rw [hn]
      rfl
    · rename_i t ht
      rw [ht]
      have htn : t < C.nt := by
        rw [Option.bind_eq_some_iff] at ht
        obtain ⟨x, hx, hd⟩ := ht
        exact hdst j x t hx hd
      have hget : a.tmps[t]? = some (a.tmps.getD t Go.undef) := by
        have := h.size
        simp [Array.getD, this, htn]
      simp only [Option.bind_some, hget]
      split at hw
      · rename_i b' hb
        have := (h.fr t (by rw [hb]; intro e; cases e)).2
        rw [hb] at this
        have h2 := this.to_leaf rfl (fun _ e => by cases e)
        simp only [RO] at h2
        generalize a.tmps.getD t Go.undef = v at h2
        cases h2
        simp only [Option.some.injEq] at hw ⊢
        rw [← hw]
        simp
      · rename_i l hb
        have := (h.fr t (by rw [hb]; intro e; cases e)).2
        rw [hb] at this
        obtain ⟨_, vs, e1, _⟩ := this
        rw [e1]
        simp only [Option.some.injEq] at hw ⊢
        subst hw
        simp
      · cases hw

/-- ONE OPERATION OF A REGION. -/
theorem eff_wp (h : SimAt C F ρ s a w) (hF : ∀ j, j < 16 → F (k + j)) {ops : Array Oper} {i : Nat} {o : Oper} (ho : ops[i]? = some o) {ans : Ans} {e : Eff} (he : effOf C.P C.G ops o s k ans = some e) (hob : All e.ob)
    (hdst : ∀ (i : Nat) (x : Oper) (d : Nat), ops[i]? = some x → x.dst = some d → d < C.nt) {K : Act → World → Prop} {Q : Exit → Act → World → Prop}
    (hK : ∀ ρ' a' w', Ext ρ ρ' → SimAt C (fun id => F id ∧ (id < k ∨ k + 16 ≤ id)) ρ' (applyE s o e) a' w' → K a' w') : wpOp C.P ops Q i K a w := by
  unfold wpOp
  rw [ho]
  simp only
  unfold effOf at he
  split at he
  · rename_i hw
    rw [wantP_spec h hw hdst, if_pos rfl]
    split at he
    · rename_i x hx
      simp only [Option.some.injEq] at he
      subst he
      left
      refine goes_execA (v := x.1) (ups := x.2.1) (ob := x.2.2.1) (rd := x.2.2.2) h hF hx hob K Q fun u w' ρ' hx hs hv => hK ρ' _ w' hx ?_
      exact hs.put (fun d hd => hdst i o d ho hd) hv
    · cases he
  · rename_i hw
    rw [wantP_spec h hw hdst, if_neg (by simp)]
    simp only [Option.some.injEq] at he
    subst he
    refine hK ρ _ w (Ext.refl _) ?_
    refine SimAt.put (h.less fun _ hi => hi.1) (fun d hd => hdst i o d ho hd) fun _ => ?_
    refine ⟨by simp [WF, WFL], #[], rfl, rfl, fun j q u hq hu => ?_⟩
    simp at hq
  · cases he
end

/- Orders. -/
structure It where
  i : Nat
  o : Oper
  ans : Ans
  e : Eff

def slotB (d : Option Nat) (l : List Nat) : Bool := match d with
  | some x => memB x l
  | none => false
def sameB (d d' : Option Nat) : Bool := match d, d' with
  | some x, some y => Nat.beq x y
  | _, _ => false
def meetB : List Nat → List Nat → Bool
  | [], _ => false
  | x :: l, m => memB x m || meetB l m
def apartB (ops : Array Oper) (x y : It) : Bool :=
  !slotB x.o.dst (y.o.looksAt ops) && !slotB y.o.dst (x.o.looksAt ops) && !sameB x.o.dst y.o.dst && !meetB (keys x.e.ups) y.e.rd && !meetB (keys y.e.ups) x.e.rd && !meetB (keys x.e.ups) (keys y.e.ups)
theorem meetB_spec : ∀ {l m : List Nat}, meetB l m = false → ∀ x ∈ l, x ∉ m
  | [], _, _, x, hx => by cases hx
  | y :: l, m, h, x, hx => by
    simp only [meetB, Bool.or_eq_false_iff] at h
    rcases List.mem_cons.1 hx with rfl | hx
    · intro hm; rw [memB_iff.2 hm] at h; exact absurd h.1 (by simp)
    · exact meetB_spec h.2 x hx
theorem slotB_spec {d : Option Nat} {l : List Nat} (h : slotB d l = false) : ∀ x, d = some x → x ∉ l := by
  rintro x rfl hm
  simp only [slotB, memB_iff.2 hm] at h
  cases h
theorem sameB_spec {d d' : Option Nat} (h : sameB d d' = false) : ∀ x, d = some x → d' ≠ some x := by
  rintro x rfl e
  subst e
  simp [sameB] at h
structure Apart (ops : Array Oper) (x y : It) : Prop where
  s1 : ∀ d, x.o.dst = some d → d ∉ y.o.looksAt ops
  s2 : ∀ d, y.o.dst = some d → d ∉ x.o.looksAt ops
  s3 : ∀ d, x.o.dst = some d → y.o.dst ≠ some d
  r1 : ∀ i ∈ keys x.e.ups, i ∉ y.e.rd
  r2 : ∀ i ∈ keys y.e.ups, i ∉ x.e.rd
  r3 : ∀ i ∈ keys x.e.ups, i ∉ keys y.e.ups
theorem apartB_spec {ops : Array Oper} {x y : It} (h : apartB ops x y = true) : Apart ops x y := by
  simp only [apartB, Bool.and_eq_true, Bool.not_eq_true'] at h
  obtain ⟨⟨⟨⟨⟨h1, h2⟩, h3⟩, h4⟩, h5⟩, h6⟩ := h
  exact ⟨slotB_spec h1, slotB_spec h2, sameB_spec h3, meetB_spec h4, meetB_spec h5, meetB_spec h6⟩

theorem looksAt_operand {ops : Array Oper} {o : Oper} {t : Nat} (h : .tmp t ∈ o.op.operands) : t ∈ o.looksAt ops :=
  List.mem_append_left _ (List.mem_filterMap.2 ⟨.tmp t, by simpa using h, rfl⟩)
theorem looksAt_guard {ops : Array Oper} {o : Oper} {g : Nat × Bool} {t : Nat} (hg : o.guard = some g) (ht : (ops[g.1]?).bind (·.dst) = some t) : t ∈ o.looksAt ops := by
  refine List.mem_append_right _ ?_
  obtain ⟨j, want⟩ := g
  simp only [hg] at ht ⊢
  simp [ht]

theorem effOf_congr {P : Program} {G : Nat → Option PV} {ops : Array Oper} {o : Oper} {s s' : St} {k : Nat} {ans : Ans} {e : Eff} (h : effOf P G ops o s k ans = some e) (h1 : ∀ t ∈ o.looksAt ops, s'.fr t = s.fr t) (h2 : ∀ i ∈ e.rd, s'.hp i = s.hp i) :
    effOf P G ops o s' k ans = some e := by
  have hw : wantP ops o s'.fr = wantP ops o s.fr := by
    unfold wantP
    cases hg : o.guard with
    | none => rfl
    | some g =>
      simp only
      cases ht : (ops[g.1]?).bind (·.dst) with
      | none => rfl
      | some t => simp only [h1 t (looksAt_guard hg ht)]
  have hc : execA P G o s'.fr k ans = execA P G o s.fr k ans := execA_congr k ans fun x hx t ht => h1 t (looksAt_operand (by rw [← ht]; exact hx))
  unfold effOf at h ⊢
  rw [hw]
  split at h
  · rename_i hw'
    split at h
    · rename_i x hx
      simp only [Option.some.injEq] at h
      subst h
      rw [hc, Pr.run_congr (v := x.1) (ups := x.2.1) (ob := x.2.2.1) (rd := x.2.2.2) hx h2]
    · cases h
  · exact h
  · cases h

theorem put_get {s : St} {dst : Option Tmp} {p : PV} {t : Nat} (h : ∀ d, dst = some d → d ≠ t) : (s.put dst p).fr t = s.fr t := by
  cases dst with
  | none => rfl
  | some d => simp only [St.put]; rw [if_neg (fun e => h d rfl e.symm)]
theorem put_hp {s : St} {dst : Option Tmp} {p : PV} : (s.put dst p).hp = s.hp := by cases dst <;> rfl

theorem applyUps_comm {u v : List (Nat × Option Row)} (h : ∀ i ∈ keys u, i ∉ keys v) (hp : Hp) : applyUps (applyUps hp u) v = applyUps (applyUps hp v) u := by
  funext c
  have look : ∀ (u : List (Nat × Option Row)) (hp hp' : Hp) (c : Nat), c ∈ keys u → applyUps hp u c = applyUps hp' u c := by
    intro u
    induction u with
    | nil => intro _ _ c hc; simp [keys] at hc
    | cons x u ih =>
      intro hp hp' c hc
      simp only [applyUps]
      by_cases hm : c ∈ keys u
      · exact ih _ _ c hm
      · rw [applyUps_none hm, applyUps_none hm]
        simp only [keys, List.map_cons, List.mem_cons] at hc hm
        rcases hc with rfl | hc
        · rw [upd_same, upd_same]
        · exact absurd hc hm
  by_cases hu : c ∈ keys u
  · rw [applyUps_none (h c hu)]
    exact look u _ _ c hu
  · rw [applyUps_none (ups := u) hu]
    by_cases hv : c ∈ keys v
    · exact look v _ _ c hv
    · rw [applyUps_none hv, applyUps_none hv, applyUps_none hu]

section
variable {P : Program} {G : Nat → Option PV} {ops : Array Oper} {kf : Nat → Nat}
/-- The items one after the other. -/
def Ex (P : Program) (G : Nat → Option PV) (ops : Array Oper) (kf : Nat → Nat) : St → List It → St → Prop
  | s, [], t => s = t
  | s, x :: l, t => (effOf P G ops x.o s (kf x.i) x.ans = some x.e ∧ All x.e.ob) ∧ Ex P G ops kf (applyE s x.o x.e) l t

theorem applyE_fr {s : St} {o : Oper} {e : Eff} {t : Nat} (h : ∀ d, o.dst = some d → d ≠ t) : (applyE s o e).fr t = s.fr t := put_get h
theorem applyE_hp {s : St} {o : Oper} {e : Eff} : (applyE s o e).hp = applyUps s.hp e.ups := put_hp
theorem applyE_comm {s : St} {x y : It} (h : Apart ops x y) : applyE (applyE s x.o x.e) y.o y.e = applyE (applyE s y.o y.e) x.o x.e := by
  have h1 : (applyE (applyE s x.o x.e) y.o y.e).hp = (applyE (applyE s y.o y.e) x.o x.e).hp := by
    rw [applyE_hp, applyE_hp, applyE_hp, applyE_hp]
    exact applyUps_comm h.r3 _
  have h2 : (applyE (applyE s x.o x.e) y.o y.e).fr = (applyE (applyE s y.o y.e) x.o x.e).fr := by
    funext t
    by_cases hx : x.o.dst = some t
    · have hy : ∀ d, y.o.dst = some d → d ≠ t := fun d hd e => h.s3 t hx (by rw [hd, e])
      rw [applyE_fr hy]
      simp only [applyE, hx, St.put, if_true]
    · have hx' : ∀ d, x.o.dst = some d → d ≠ t := fun d hd e => hx (by rw [hd, e])
      rw [applyE_fr (s := applyE s y.o y.e) hx']
      by_cases hy : y.o.dst = some t
      · simp only [applyE, hy, St.put, if_true]
      · have hy' : ∀ d, y.o.dst = some d → d ≠ t := fun d hd e => hy (by rw [hd, e])
        rw [applyE_fr hy', applyE_fr hx', applyE_fr hy']
  generalize applyE (applyE s x.o x.e) y.o y.e = A at h1 h2 ⊢
  generalize applyE (applyE s y.o y.e) x.o x.e = B at h1 h2 ⊢
  cases A; cases B
  simp only at h1 h2
  subst h1; subst h2
  rfl

theorem Ex.front : ∀ {A : List It} {x : It} {B : List It} {s t : St}, Ex P G ops kf s (A ++ x :: B) t → (∀ y ∈ A, Apart ops y x) → Ex P G ops kf s (x :: (A ++ B)) t
  | [], _, _, _, _, h, _ => h
  | y :: A, x, B, s, t, h, ha => by
    obtain ⟨⟨h1, h2⟩, h3⟩ := h
    obtain ⟨⟨g1, g2⟩, g3⟩ := Ex.front (A := A) h3 fun z hz => ha z (by simp [hz])
    have hap := ha y (by simp)
    refine ⟨⟨effOf_congr (s := applyE s y.o y.e) g1 (fun t ht => (applyE_fr fun d hd e => hap.s1 d hd (by rw [e]; exact ht)).symm) (fun i hi => ?_), g2⟩, ⟨effOf_congr h1 (fun t ht => applyE_fr fun d hd e => hap.s2 d hd (by rw [e]; exact ht)) (fun i hi => ?_), h2⟩, ?_⟩
    · rw [applyE_hp, applyUps_none]
      exact fun hm => hap.r1 i hm hi
    · rw [applyE_hp, applyUps_none]
      exact fun hm => hap.r2 i hm hi
    · rw [← applyE_comm hap]
      exact g3

def preB (md : Region.Mode) (ops : Array Oper) : Nat → Nat → Nat → Bool
  | 0, _, _ => false
  | f + 1, y, i => match ops[i]? with
    | some o => o.after.toList.any fun e => Region.binds md e && (Nat.beq e.on y || preB md ops f y e.on)
    | none => false
/-- The list is in the text's order, and what may come before another is apart from it. -/
def orderB (md : Region.Mode) (ops : Array Oper) : List It → Bool
  | [] => true
  | x :: l => (l.all fun y => Nat.blt x.i y.i && (apartB ops x y || preB md ops 9 x.i y.i)) && orderB md ops l
/-- No edge from later on. -/
def topoB (md : Region.Mode) (l : List It) : Bool := l.all fun x => x.o.after.toList.all fun e => !Region.binds md e || Nat.blt e.on x.i

structure Inv (md : Region.Mode) (ops : Array Oper) (listed : Array Bool) (L : List It) : Prop where
  size : listed.size = ops.size
  mem : ∀ i, listed.getD i true = false → ∃ x ∈ L, x.i = i
  un : ∀ x ∈ L, listed.getD x.i true = false ∧ ops[x.i]? = some x.o
  ord : orderB md ops L = true
  topo : topoB md L = true
  down : ∀ i o, ops[i]? = some o → listed.getD i false = true → ∀ e ∈ o.after, Region.binds md e = true → listed.getD e.on false = true

theorem orderB_mid {md : Region.Mode} : ∀ {A : List It} {x : It} {B : List It}, orderB md ops (A ++ x :: B) = true → (∀ y ∈ A, y.i < x.i ∧ (apartB ops y x = true ∨ preB md ops 9 y.i x.i = true)) ∧ orderB md ops (A ++ B) = true ∧ (∀ y ∈ B, x.i < y.i)
  | [], x, B, h => by
    simp only [List.nil_append, orderB, Bool.and_eq_true, List.all_eq_true] at h
    exact ⟨(fun y hy => by cases hy), h.2, fun y hy => Nat.blt_eq ▸ (h.1 y hy).1⟩
  | z :: A, x, B, h => by
    simp only [List.cons_append, orderB, Bool.and_eq_true, List.all_eq_true] at h
    obtain ⟨a1, a2, a3⟩ := orderB_mid (A := A) h.2
    refine ⟨fun y hy => ?_, ?_, a3⟩
    · rcases List.mem_cons.1 hy with rfl | hy
      · have := h.1 x (by simp)
        exact ⟨Nat.blt_eq ▸ this.1, by simpa using this.2⟩
      · exact a1 y hy
    · simp only [List.cons_append, orderB, Bool.and_eq_true, List.all_eq_true]
      exact ⟨fun y hy => h.1 y (by rcases List.mem_append.1 hy with hy | hy <;> simp [hy]), a2⟩
theorem preB_spec {md : Region.Mode} {listed : Array Bool} (down : ∀ i o, ops[i]? = some o → listed.getD i false = true → ∀ e ∈ o.after, Region.binds md e = true → listed.getD e.on false = true) :
    ∀ (f y i : Nat), (∀ o, ops[i]? = some o → ∀ e ∈ o.after, Region.binds md e = true → listed.getD e.on false = true) → preB md ops f y i = true → listed.getD y false = true
  | 0, _, _, _, h => by simp [preB] at h
  | f + 1, y, i, hi, h => by
    simp only [preB] at h
    split at h
    · rename_i o ho
      simp only [List.any_eq_true, Bool.and_eq_true, Bool.or_eq_true] at h
      obtain ⟨e, he, hb, h⟩ := h
      have hl := hi o ho e (by simpa using he) hb
      rcases h with h | h
      · rw [← Nat.eq_of_beq_eq_true h]; exact hl
      · exact preB_spec down f y e.on (fun o' ho' => down e.on o' ho' hl) h
    · cases h
theorem getD_both {listed : Array Bool} {i : Nat} (h : listed.getD i true = false) : listed.getD i false = true → False := by
  intro h'
  by_cases hi : i < listed.size
  · simp [Array.getD, hi] at h h'
    rw [h] at h'; cases h'
  · simp [Array.getD, hi] at h
theorem getD_dich {listed : Array Bool} {i : Nat} (hi : i < listed.size) (h : ¬ listed.getD i true = false) : listed.getD i false = true := by
  simp [Array.getD, hi] at h ⊢
  exact h
end

section
variable {C : Ctx} {ops : Array Oper} {kf : Nat → Nat} {Q : Exit → Act → World → Prop}
/-- ANY ORDER that the rules allow ends in the same plain state. -/
theorem wpAny_of {md : Region.Mode} (hdst : ∀ (i : Nat) (x : Oper) (d : Nat), ops[i]? = some x → x.dst = some d → d < C.nt) (hkf : ∀ i j, i ≠ j → kf i + 16 ≤ kf j ∨ kf j + 16 ≤ kf i) {N : Nat} {t : St} (hN : ∀ i, i < ops.size → kf i + 16 ≤ N)
    {ρ0 : Pls} (hQ : ∀ ρ a w, Ext ρ0 ρ → SimAt C (fun id => N ≤ id) ρ t a w → Q .normal a w) :
    ∀ (fuel : Nat) (listed : Array Bool) (L : List It) (F : Nat → Prop) (ρ : Pls) (s : St) (a : Act) (w : World), Inv md ops listed L → L.length ≤ fuel → Ex C.P C.G ops kf s L t → (∀ x ∈ L, ∀ j, j < 16 → F (kf x.i + j)) → (∀ id, N ≤ id → F id) → Ext ρ0 ρ → SimAt C F ρ s a w → wpAny C.P md ops Q fuel listed a w := by
  intro fuel
  have hnil : ∀ {listed : Array Bool} {L : List It}, Inv md ops listed L → L ≠ [] → Region.ready md ops listed ≠ [] := by
    intro listed L hI hL hr
    cases L with
    | nil => exact hL rfl
    | cons x L =>
      have hun := hI.un x (by simp)
      have hlt : x.i < ops.size := (Array.getElem?_eq_some_iff.1 hun.2).1
      have : x.i ∈ Region.ready md ops listed := by
        rw [mem_ready]
        refine ⟨hun.1, x.o, hun.2, fun e he hb => ?_⟩
        have ht := hI.topo
        simp only [topoB, List.all_eq_true] at ht
        have := ht x (by simp) e (by simpa using he)
        simp only [hb, Bool.not_true, Bool.false_or] at this
        have hlt' : e.on < x.i := Nat.blt_eq ▸ this
        refine getD_dich (by rw [hI.size]; omega) fun hun' => ?_
        obtain ⟨y, hy, hyi⟩ := hI.mem e.on hun'
        have ho := orderB_mid (A := []) hI.ord
        rcases List.mem_cons.1 hy with rfl | hy
        · omega
        · have := ho.2.2 y hy
          omega
      rw [hr] at this
      cases this
  induction fuel with
  | zero =>
    intro listed L F ρ s a w hI hl hE hF hFN hx0 hs
    have hL : L = [] := List.eq_nil_of_length_eq_zero (by omega)
    subst hL
    simp only [Ex] at hE
    subst hE
    refine ⟨?_, hQ ρ a w hx0 (hs.less hFN)⟩
    apply List.eq_nil_iff_forall_not_mem.2
    intro j hj
    rw [mem_ready] at hj
    obtain ⟨x, hx, _⟩ := hI.mem j hj.1
    cases hx
  | succ fuel ih =>
    intro listed L F ρ s a w hI hl hE hF hFN hx0 hs
    refine ⟨fun hr => ?_, fun i hi => ?_⟩
    · cases L with
      | nil =>
        simp only [Ex] at hE
        subst hE
        exact hQ ρ a w hx0 (hs.less hFN)
      | cons x L => exact absurd hr (hnil hI (by simp))
    · rw [mem_ready] at hi
      obtain ⟨hun, o, ho, hpre⟩ := hi
      obtain ⟨x, hx, rfl⟩ := hI.mem i hun
      obtain ⟨A, B, rfl⟩ := List.append_of_mem hx
      obtain ⟨o1, o2, o3⟩ := orderB_mid hI.ord
      have hxo : ops[x.i]? = some x.o := (hI.un x (by simp)).2
      have hap : ∀ y ∈ A, Apart ops y x := fun y hy => by
        rcases (o1 y hy).2 with h | h
        · exact apartB_spec h
        · exfalso
          have hly := preB_spec hI.down 9 y.i x.i (fun o' ho' e he hb => by
            rw [ho] at ho'
            simp only [Option.some.injEq] at ho'
            subst ho'
            exact hpre e he hb) h
          exact getD_both (hI.un y (by simp [hy])).1 hly
      obtain ⟨⟨e1, e2⟩, e3⟩ := Ex.front hE hap
      have hxlt : x.i < listed.size := by rw [hI.size]; exact (Array.getElem?_eq_some_iff.1 hxo).1
      have hne : ∀ y ∈ A ++ B, y.i ≠ x.i := fun y hy => by
        rcases List.mem_append.1 hy with hy | hy
        · have := (o1 y hy).1; omega
        · have := o3 y hy; omega
      refine eff_wp hs (hF x (by simp)) hxo e1 e2 hdst fun ρ' a' w' hx' hs' => ih _ (A ++ B) _ ρ' _ a' w' ?_ (by simp at hl ⊢; omega) e3 (fun y hy j hj => ⟨hF y (by rcases List.mem_append.1 hy with hy | hy <;> simp [hy]) j hj, ?_⟩) (fun id hid => ⟨hFN id hid, ?_⟩) (fun i pl hi => hx' i pl (hx0 i pl hi)) hs'
      · refine ⟨by simp [hI.size], fun j hj => ?_, fun y hy => ?_, o2, ?_, fun j oj hoj hj e he hb => ?_⟩
        · by_cases hji : x.i = j
          · subst hji
            simp [Array.getD, hxlt] at hj
          · rw [getD_set_ne true hji] at hj
            obtain ⟨y, hy, hyj⟩ := hI.mem j hj
            refine ⟨y, ?_, hyj⟩
            simp only [List.mem_append, List.mem_cons] at hy ⊢
            rcases hy with hy | rfl | hy
            · exact .inl hy
            · exact absurd hyj hji
            · exact .inr hy
        · have hy' : y ∈ A ++ x :: B := by rcases List.mem_append.1 hy with hy | hy <;> simp [hy]
          exact ⟨by rw [getD_set_ne true (Ne.symm (hne y hy))]; exact (hI.un y hy').1, (hI.un y hy').2⟩
        · have := hI.topo
          simp only [topoB, List.all_eq_true] at this ⊢
          exact fun y hy => this y (by rcases List.mem_append.1 hy with hy | hy <;> simp [hy])
        · by_cases hji : x.i = j
          · subst hji
            rw [ho] at hoj
            simp only [Option.some.injEq] at hoj
            subst hoj
            exact getD_set_true (hpre e he hb)
          · rw [getD_set_ne false hji] at hj
            exact getD_set_true (hI.down j oj hoj hj e he hb)
      · rcases hkf y.i x.i (hne y hy) with h | h <;> omega
      · have := hN x.i (by rw [← hI.size]; exact hxlt)
        omega
end
end Go.Pe
