/- A call over plain values. No condition. -/
import Derived.Test.YtfecpjikhlangaaPeR
namespace Go.Pe

def readAll : List Nat → (List (Nat × Row) → Pr) → Pr
  | [], K => K []
  | i :: l, K => .read i fun r => readAll l fun rs => K ((i, r) :: rs)
theorem readAll_run {hp : Hp} {v : PV} {ups : List (Nat × Option Row)} {ob : List Prop} : ∀ {ids : List Nat} {K : List (Nat × Row) → Pr} {rd : List Nat}, (readAll ids K).run hp = some (v, ups, ob, rd) →
    ∃ rs rd', (K rs).run hp = some (v, ups, ob, rd') ∧ keys rs = ids ∧ ∀ x ∈ rs, hp x.1 = some x.2
  | [], K, rd, h => ⟨[], rd, h, rfl, fun x hx => by cases hx⟩
  | i :: l, K, rd, h => by
    simp only [readAll, Pr.run] at h
    split at h
    · rename_i r hr
      simp only [Option.map_eq_some_iff, Prod.mk.injEq] at h
      obtain ⟨⟨v', u', o', r'⟩, h1, rfl, rfl, rfl, _⟩ := h
      obtain ⟨rs, rd', g1, g2, g3⟩ := readAll_run h1
      refine ⟨(i, r) :: rs, rd', g1, by simp only [keys, List.map_cons] at g2 ⊢; rw [g2], fun x hx => ?_⟩
      rcases List.mem_cons.1 hx with rfl | hx
      · exact hr
      · exact g3 x hx
    · cases h

def swapL (l : List (Nat × Nat)) : List (Nat × Nat) := l.map fun x => (x.2, x.1)
theorem swapL_mem {l : List (Nat × Nat)} {i c : Nat} : (i, c) ∈ swapL l ↔ (c, i) ∈ l := by
  simp only [swapL, List.mem_map, Prod.mk.injEq]
  constructor
  · rintro ⟨x, hx, rfl, rfl⟩; exact hx
  · intro h; exact ⟨_, h, rfl, rfl⟩

def givenRows (b : Nat → Option Nat) (rs : Nat → Option Row) : List (Nat × Nat) → Option (List (Nat × Row))
  | [] => some []
  | x :: l => match rs x.1 with
    | some r => if r.frz then none else match ren b r.c, givenRows b rs l with
      | some c, some m => some ((x.2, ⟨c, false⟩) :: m)
      | _, _ => none
    | none => none
theorem givenRows_spec {b : Nat → Option Nat} {rs : Nat → Option Row} : ∀ {l : List (Nat × Nat)} {m : List (Nat × Row)}, givenRows b rs l = some m →
    keys m = keys (swapL l) ∧ ∀ c i, (c, i) ∈ l → ∃ r c', rs c = some r ∧ r.frz = false ∧ ren b r.c = some c' ∧ (i, (⟨c', false⟩ : Row)) ∈ m
  | [], m, h => by simp only [givenRows, Option.some.injEq] at h; subst h; exact ⟨rfl, fun c i hi => by cases hi⟩
  | x :: l, m, h => by
    simp only [givenRows] at h
    split at h
    · rename_i r hr
      split at h
      · cases h
      · rename_i hf
        split at h
        · rename_i c m' hc hm
          simp only [Option.some.injEq] at h
          subst h
          obtain ⟨e1, e2⟩ := givenRows_spec hm
          refine ⟨by simp only [keys, swapL, List.map_cons] at e1 ⊢; rw [e1], fun c0 i hi => ?_⟩
          rcases List.mem_cons.1 hi with rfl | hi
          · exact ⟨r, c, hr, by simpa using hf, hc, by simp⟩
          · obtain ⟨r', c', g1, g2, g3, g4⟩ := e2 c0 i hi
            exact ⟨r', c', g1, g2, g3, List.mem_cons_of_mem _ g4⟩
        · cases h
    · cases h

def fwdOf (inv : List (Nat × Nat)) (hout : List (Nat × Row)) (k : Nat) (i : Nat) : Option Nat :=
  match lookR (swapL inv) i with
  | some c => some c
  | none => match lookR hout i with
    | some _ => if Nat.blt i 16 then some (k + i) else none
    | none => none
def backRow (fwd : Nat → Option Nat) (r : Option Row) : Option (Option Row) := match r with
  | some r => (match ren fwd r.c with
    | some c => some (some ⟨c, r.frz⟩)
    | none => none)
  | none => some none
def backRows (fwd : Nat → Option Nat) (hout : List (Nat × Row)) : List (Nat × Nat) → Option (List (Nat × Option Row))
  | [] => some []
  | x :: l => match backRow fwd (lookR hout x.2), backRows fwd hout l with
    | some r, some m => some ((x.1, r) :: m)
    | _, _ => none
theorem backRows_spec {fwd : Nat → Option Nat} {hout : List (Nat × Row)} : ∀ {l : List (Nat × Nat)} {m : List (Nat × Option Row)}, backRows fwd hout l = some m →
    keys m = keys l ∧ ∀ c i, (c, i) ∈ l → ∃ r, backRow fwd (lookR hout i) = some r ∧ (c, r) ∈ m
  | [], m, h => by simp only [backRows, Option.some.injEq] at h; subst h; exact ⟨rfl, fun c i hi => by cases hi⟩
  | x :: l, m, h => by
    simp only [backRows] at h
    split at h
    · rename_i r m' hr hm
      simp only [Option.some.injEq] at h
      subst h
      obtain ⟨e1, e2⟩ := backRows_spec hm
      refine ⟨by simp only [keys, List.map_cons] at e1 ⊢; rw [e1], fun c0 i hi => ?_⟩
      rcases List.mem_cons.1 hi with rfl | hi
      · exact ⟨r, hr, by simp⟩
      · obtain ⟨r', g1, g2⟩ := e2 c0 i hi
        exact ⟨r', g1, List.mem_cons_of_mem _ g2⟩
    · cases h
def newRows (fwd : Nat → Option Nat) (k : Nat) (inv : List (Nat × Nat)) : List (Nat × Row) → Option (List (Nat × Option Row))
  | [] => some []
  | x :: l => match lookR (swapL inv) x.1 with
    | some _ => newRows fwd k inv l
    | none => if Nat.blt x.1 16 then (match ren fwd x.2.c, newRows fwd k inv l with
        | some c, some m => some ((k + x.1, some ⟨c, x.2.frz⟩) :: m)
        | _, _ => none) else none
theorem newRows_spec {fwd : Nat → Option Nat} {k : Nat} {inv : List (Nat × Nat)} : ∀ {l : List (Nat × Row)} {m : List (Nat × Option Row)}, newRows fwd k inv l = some m →
    (∀ c ∈ keys m, ∃ i r, c = k + i ∧ i < 16 ∧ (i, r) ∈ l ∧ lookR (swapL inv) i = none) ∧ ∀ i r, (i, r) ∈ l → lookR (swapL inv) i = none → i < 16 ∧ ∃ c, ren fwd r.c = some c ∧ (k + i, some (⟨c, r.frz⟩ : Row)) ∈ m
  | [], m, h => by simp only [newRows, Option.some.injEq] at h; subst h; exact ⟨fun c hc => by simp [keys] at hc, fun i r hi => by cases hi⟩
  | x :: l, m, h => by
    simp only [newRows] at h
    split at h
    · rename_i c0 hc0
      obtain ⟨e1, e2⟩ := newRows_spec h
      refine ⟨fun c hc => ?_, fun i r hi hn => ?_⟩
      · obtain ⟨i, r, g1, g2, g3, g4⟩ := e1 c hc
        exact ⟨i, r, g1, g2, List.mem_cons_of_mem _ g3, g4⟩
      · rcases List.mem_cons.1 hi with rfl | hi
        · rw [hc0] at hn; cases hn
        · exact e2 i r hi hn
    · rename_i hn0
      split at h
      · rename_i hb
        split at h
        · rename_i c m' hc hm
          simp only [Option.some.injEq] at h
          subst h
          obtain ⟨e1, e2⟩ := newRows_spec hm
          have hlt : x.1 < 16 := Nat.blt_eq ▸ hb
          refine ⟨fun c' hc' => ?_, fun i r hi hn => ?_⟩
          · simp only [keys, List.map_cons, List.mem_cons] at hc'
            rcases hc' with rfl | hc'
            · exact ⟨x.1, x.2, rfl, hlt, by simp, hn0⟩
            · obtain ⟨i, r, g1, g2, g3, g4⟩ := e1 c' hc'
              exact ⟨i, r, g1, g2, List.mem_cons_of_mem _ g3, g4⟩
          · rcases List.mem_cons.1 hi with rfl | hi
            · exact ⟨hlt, c, hc, by simp⟩
            · obtain ⟨g1, c', g2, g3⟩ := e2 i r hi hn
              exact ⟨g1, c', g2, List.mem_cons_of_mem _ g3⟩
        · cases h
      · cases h
def viewRows (rs : Nat → Option Row) : List Nat → Option (List (Nat × Option Row))
  | [] => some []
  | i :: l => match rs i, viewRows rs l with
    | some r, some m => some ((i, some ⟨r.c, true⟩) :: m)
    | _, _ => none
theorem viewRows_spec {rs : Nat → Option Row} : ∀ {l : List Nat} {m : List (Nat × Option Row)}, viewRows rs l = some m → keys m = l ∧ ∀ i ∈ l, ∃ r, rs i = some r ∧ (i, some (⟨r.c, true⟩ : Row)) ∈ m
  | [], m, h => by simp only [viewRows, Option.some.injEq] at h; subst h; exact ⟨rfl, fun i hi => by cases hi⟩
  | i :: l, m, h => by
    simp only [viewRows] at h
    split at h
    · rename_i r m' hr hm
      simp only [Option.some.injEq] at h
      subst h
      obtain ⟨e1, e2⟩ := viewRows_spec hm
      refine ⟨by simp only [keys, List.map_cons] at e1 ⊢; rw [e1], fun j hj => ?_⟩
      rcases List.mem_cons.1 hj with rfl | hj
      · exact ⟨r, hr, by simp⟩
      · obtain ⟨r', g1, g2⟩ := e2 j hj
        exact ⟨r', g1, List.mem_cons_of_mem _ g2⟩
    · cases h
def dedup : List Nat → List Nat
  | [] => []
  | i :: l => if memB i l then dedup l else i :: dedup l
def viewed (inv : List (Nat × Nat)) (vals : List PV) : List Nat := (dedup (refsOfL vals)).filter fun i => !memB i (keys inv)

/-- What is asked of a call: the contract, at the very rows and arguments, or at such as are told to be these. -/
def tellC (P : Program) (G : Nat → Option PV) (f : FuncId) (hout : List (Nat × Row)) (res : PV) (hin : List (Nat × Row)) (args : List PV) : Option (List (Nat × Row) × List PV) → List Prop
  | none => [PC P G f hin args hout res]
  | some t => [hin = t.1, args = t.2, PC P G f t.1 t.2 hout res]
theorem tellC_spec {P : Program} {G : Nat → Option PV} {f : FuncId} {hout : List (Nat × Row)} {res : PV} {hin : List (Nat × Row)} {args : List PV} : ∀ {t : Option (List (Nat × Row) × List PV)}, All (tellC P G f hout res hin args t) → PC P G f hin args hout res
  | none, h => h.head
  | some t, h => by
    have h1 : hin = t.1 := h.head
    have h2 : args = t.2 := h.tail.head
    rw [h1, h2]
    exact h.tail.tail.head
def callP (P : Program) (G : Nat → Option PV) (f : FuncId) (vals : List PV) (k : Nat) (keep : Bool) (inv : List (Nat × Nat)) (hout : List (Nat × Row)) (res : PV) (told : Option (List (Nat × Row) × List PV)) : Pr :=
  if untupL vals && nodupB (keys inv) && nodupB (keys (swapL inv)) then
    readAll (keys inv ++ viewed inv vals) fun rl => match givenRows (lookR inv) (lookR rl) inv, viewL (lookR inv) (lookR rl) vals with
      | some hin, some ao => (match backRows (fwdOf inv hout k) hout inv, newRows (fwdOf inv hout k) k inv hout, (if keep then some [] else viewRows (lookR rl) (viewed inv vals)), ren (fwdOf inv hout k) res with
        | some u1, some u2, some u3, some v => if nodupB (keys (u1 ++ (u2 ++ u3))) && (!keep || (cellfree res && hout.all fun x => cellfree x.2.c)) then .ret v (u1 ++ (u2 ++ u3)) (ao.2 ++ tellC P G f hout res hin ao.1 told) else .fail
        | _, _, _, _ => .fail)
      | _, _ => .fail
  else .fail
def evArgs (P : Program) (G : Nat → Option PV) (fr : Nat → PV) : List Operand → List TypeId → List PV
  | [], _ => []
  | x :: l, [] => evO P G 0 fr x :: evArgs P G fr l []
  | x :: l, t :: ts => evO P G t fr x :: evArgs P G fr l ts
theorem evArgs_get {P : Program} {G : Nat → Option PV} {fr : Nat → PV} : ∀ {l : List Operand} {ts : List TypeId}, (evArgs P G fr l ts).length = l.length ∧ ∀ (j : Nat) (p : PV), (evArgs P G fr l ts)[j]? = some p → ∃ x t, l[j]? = some x ∧ p = evO P G t fr x
  | [], ts => by simp [evArgs]
  | x :: l, [] => by
    obtain ⟨h1, h2⟩ := evArgs_get (P := P) (G := G) (fr := fr) (l := l) (ts := [])
    refine ⟨by simp [evArgs, h1], fun j p hp => ?_⟩
    cases j with
    | zero => simp [evArgs] at hp; exact ⟨x, 0, rfl, hp.symm⟩
    | succ j => simp [evArgs] at hp; simpa using h2 j p hp
  | x :: l, t :: ts => by
    obtain ⟨h1, h2⟩ := evArgs_get (P := P) (G := G) (fr := fr) (l := l) (ts := ts)
    refine ⟨by simp [evArgs, h1], fun j p hp => ?_⟩
    cases j with
    | zero => simp [evArgs] at hp; exact ⟨x, t, rfl, hp.symm⟩
    | succ j => simp [evArgs] at hp; simpa using h2 j p hp

theorem lookR_in {α : Type} {i : Nat} {l : List (Nat × α)} (h : lookR l i ≠ none) : i ∈ keys l := Classical.byContradiction fun hn => h (lookR_none hn)
theorem fwdOf_swap {inv : List (Nat × Nat)} {hout : List (Nat × Row)} {k i c : Nat} (h : lookR (swapL inv) i = some c) : fwdOf inv hout k i = some c := by simp only [fwdOf, h]
theorem fwdOf_cases {inv : List (Nat × Nat)} {hout : List (Nat × Row)} {k i c : Nat} (h : fwdOf inv hout k i = some c) :
    lookR (swapL inv) i = some c ∨ (lookR (swapL inv) i = none ∧ (∃ r, lookR hout i = some r) ∧ i < 16 ∧ c = k + i) := by
  unfold fwdOf at h
  split at h
  · rename_i c' hc
    simp only [Option.some.injEq] at h
    subst h
    exact .inl hc
  · rename_i hn
    split at h
    · rename_i r hr
      split at h
      · rename_i hb
        simp only [Option.some.injEq] at h
        exact .inr ⟨hn, ⟨r, hr⟩, Nat.blt_eq ▸ hb, h.symm⟩
      · cases h
    · cases h

section
variable {C : Ctx} {F : Nat → Prop} {ρ : Pls} {s : St} {a : Act} {w : World} {o : Oper} {k : Nat}

theorem enters_wp {P : Program} {c : Call} (ho : o.op = .call c) {f : FuncId} (hc : c.callee = .value (.func f)) {K : Act → World → Prop} {Q : Exit → Act → World → Prop}
    (h : Enters P f (c.args.map a.eval) w fun
      | .returned v, w'' => K (a.put o.dst v) w''
      | .panicked chain, w'' => Q (.panic chain) a w''
      | .outgrown, _ => LetsOut Q) : o.wp P a w K Q := by
  rcases h with ⟨⟨fn, hfn, hbody, hname⟩, h⟩ | ⟨v, w', h1, h2⟩
  · have hrun : (execOp a.eval o).run P w = .ok (.enter f (c.args.map a.eval)) w := by
      have hb : fn.body ≠ none := by intro hb; simp [hb] at hbody
      have hname' : fn.name ≠ "runtime.NumGoroutine" := by simpa using hname
      simp [execOp, ho, resolve, hc, Deferred.ofValue, invoke, callFunc, hfn, hname', hb, Act.eval]
    unfold Oper.wp
    rw [hrun, Oper.upon_enter]
    exact h
  · refine wp_value (u := v) (w' := w') ?_ h2
    have : (execOp a.eval o).run P w = (callFunc f (c.args.map a.eval)).run P w := by
      simp [execOp, ho, resolve, hc, Deferred.ofValue, invoke, Act.eval]
    rw [this, h1]

theorem goes_call (h : SimAt C F ρ s a w) (hF : ∀ j, j < 16 → F (k + j)) {c : Call} (ho : o.op = .call c) {f : FuncId} (hc : c.callee = .value (.func f)) {keep : Bool} {inv : List (Nat × Nat)} {hout : List (Nat × Row)} {res : PV} {told : Option (List (Nat × Row) × List PV)}
    {v : PV} {ups : List (Nat × Option Row)} {ob : List Prop} {rd : List Nat} (hx : (callP C.P C.G f (evArgs C.P C.G s.fr c.args.toList c.argTypes.toList) k keep inv hout res told).run s.hp = some (v, ups, ob, rd)) (hob : All ob) : Goes C F ρ s a w o k v ups := by
  unfold callP at hx
  split at hx
  · rename_i hcond
    simp only [Bool.and_eq_true] at hcond
    obtain ⟨⟨hun, hn1⟩, hn2⟩ := hcond
    obtain ⟨rl, rd', hx, hkeys, hrl⟩ := readAll_run hx
    split at hx
    · rename_i hin ao hgiven hview
      split at hx
      · rename_i u1 u2 u3 v' h1 h2 h3 h4
        split at hx
        · rename_i hlast
          simp only [Bool.and_eq_true, Bool.or_eq_true, Bool.not_eq_true'] at hlast
          obtain ⟨hnd, hkp⟩ := hlast
          simp only [Pr.run, Option.some.injEq, Prod.mk.injEq] at hx
          obtain ⟨rfl, rfl, rfl, _⟩ := hx
          have hob1 : All ao.2 := hob.left
          have hpc : PC C.P C.G f hin ao.1 hout res := tellC_spec hob.right
          have hrow : ∀ i r, lookR rl i = some r → s.hp i = some r := fun i r e => hrl _ (lookR_mem e)
          obtain ⟨k1, k2⟩ := givenRows_spec hgiven
          obtain ⟨b1, b2⟩ := backRows_spec h1
          obtain ⟨n1, n2⟩ := newRows_spec h2
          have hinv : ∀ c i, lookR inv c = some i → lookR (swapL inv) i = some c := fun c i e => lookR_of hn2 (swapL_mem.2 (lookR_mem e))
          have hinv' : ∀ c i, lookR (swapL inv) i = some c → lookR inv c = some i := fun c i e => lookR_of hn1 (swapL_mem.1 (lookR_mem e))
          have hsn : ∀ i, lookR hin i = none ↔ lookR (swapL inv) i = none := by
            intro i
            constructor
            · intro e
              cases hs : lookR (swapL inv) i with
              | none => rfl
              | some c =>
                have : i ∈ keys hin := by rw [k1]; exact keys_mem (lookR_mem hs)
                obtain ⟨x, hx⟩ := lookR_key this
                rw [e] at hx; cases hx
            · intro e
              refine lookR_none ?_
              rw [k1]
              intro hm
              obtain ⟨x, hx⟩ := lookR_key hm
              rw [e] at hx; cases hx
          have hinvrow : ∀ c i, lookR inv c = some i → ∃ r, s.hp c = some r := fun c i e => by
            obtain ⟨r, c', g1, _⟩ := k2 c i (lookR_mem e)
            exact ⟨r, hrow c r g1⟩
          have hnofree : ∀ c i, lookR inv c = some i → ∀ j, j < 16 → c ≠ k + j := by
            intro c i e j hj he
            obtain ⟨r, hr⟩ := hinvrow c i e
            have := (h.free _ (hF j hj)).2
            rw [← he, hr] at this
            cases this
          generalize hvw : viewed inv (evArgs C.P C.G s.fr c.args.toList c.argTypes.toList) = vw at *
          have hvinv : ∀ c, c ∈ vw → c ∉ keys inv := by
            intro c hc hm
            rw [← hvw] at hc
            simp only [viewed, List.mem_filter, Bool.not_eq_true'] at hc
            rw [memB_iff.2 hm] at hc
            exact absurd hc.2 (by simp)
          have hvs : ∀ c, c ∈ vw → ∃ r, lookR rl c = some r ∧ s.hp c = some r := by
            intro c hc
            have : c ∈ keys rl := by rw [hkeys]; exact List.mem_append_right _ hc
            obtain ⟨r, hr⟩ := lookR_key this
            exact ⟨r, hr, hrow c r hr⟩
          have hcr : CallRows s F (lookR inv) (fwdOf inv hout k) (lookR hin) (lookR hout) (applyUps s.hp (u1 ++ (u2 ++ u3))) (fun c => c ∈ vw) keep := by
            refine ⟨fun c i e => ?_, fun i e => ?_, fun i c e => ?_, fun i e1 e2 => ?_, fun i j c e1 e2 => ?_, fun i c e => ?_, fun c e => ?_, fun c e => ?_, fun e i row hi => ?_⟩
            · obtain ⟨r, c', g1, g2, g3, g4⟩ := k2 c i (lookR_mem e)
              exact ⟨fwdOf_swap (hinv c i e), r, c', hrow c r g1, g2, g3, lookR_of (by rw [k1]; exact hn2) g4⟩
            · cases hs : lookR (swapL inv) i with
              | none => exact absurd ((hsn i).2 hs) e
              | some c => exact ⟨c, fwdOf_swap hs, hinv' c i hs⟩
            · rcases fwdOf_cases e with e | ⟨_, ⟨r, e⟩, _⟩
              · left; intro e'; rw [(hsn i).1 e'] at e; cases e
              · right; rw [e]; intro e'; cases e'
            · have hs := (hsn i).1 e2
              cases hr : lookR hout i with
              | none => exact absurd hr e1
              | some r =>
                obtain ⟨g1, _⟩ := n2 i r (lookR_mem hr) hs
                refine ⟨k + i, ?_, hF i g1⟩
                simp only [fwdOf, hs, hr]
                rw [if_pos (by rw [Nat.blt_eq]; exact g1)]
            · rcases fwdOf_cases e1 with e1 | ⟨_, _, l1, e1⟩
              · rcases fwdOf_cases e2 with e2 | ⟨_, _, l2, e2⟩
                · have := hinv' c i e1
                  rw [hinv' c j e2] at this
                  simp only [Option.some.injEq] at this
                  exact this.symm
                · exact absurd e2 (hnofree c i (hinv' c i e1) j l2)
              · rcases fwdOf_cases e2 with e2 | ⟨_, _, l2, e2⟩
                · exact absurd e1 (hnofree c j (hinv' c j e2) i l1)
                · omega
            · rcases fwdOf_cases e with e | ⟨e0, ⟨r, e⟩, l1, e1⟩
              · obtain ⟨r, g1, g2⟩ := b2 c i (lookR_mem (hinv' c i e))
                have hr : applyUps s.hp (u1 ++ (u2 ++ u3)) c = r := applyUps_of hnd (List.mem_append_left _ g2)
                rw [hr]
                unfold backRow at g1
                split at g1
                · rename_i row hrow
                  split at g1
                  · rename_i c' hc'
                    simp only [Option.some.injEq] at g1
                    exact .inr ⟨row, c', hrow, hc', g1.symm⟩
                  · cases g1
                · rename_i hrow
                  simp only [Option.some.injEq] at g1
                  exact .inl ⟨hrow, g1.symm⟩
              · obtain ⟨_, c', g1, g2⟩ := n2 i r (lookR_mem e) e0
                rw [← e1] at g2
                exact .inr ⟨r, c', e, g1, applyUps_of hnd (List.mem_append_right _ (List.mem_append_left _ g2))⟩
            · by_cases hm : c ∈ keys (u1 ++ (u2 ++ u3))
              · simp only [keys, List.map_append, List.mem_append] at hm
                rcases hm with hm | hm | hm
                · exfalso
                  have : c ∈ keys inv := by rw [← b1]; exact hm
                  obtain ⟨i, hi⟩ := lookR_key this
                  exact e i (fwdOf_swap (hinv c i hi))
                · exfalso
                  obtain ⟨i, r, g1, g2, g3, g4⟩ := n1 c hm
                  obtain ⟨r', hr'⟩ := lookR_key (keys_mem g3)
                  refine e i ?_
                  simp only [fwdOf, g4, hr']
                  rw [if_pos (by rw [Nat.blt_eq]; exact g2), g1]
                · right
                  split at h3
                  · simp only [Option.some.injEq] at h3
                    subst h3
                    simp at hm
                  · obtain ⟨v1, v2⟩ := viewRows_spec h3
                    have hcv : c ∈ vw := by rw [← v1]; exact hm
                    obtain ⟨r, g1, g2⟩ := v2 c hcv
                    exact ⟨hcv, r, hrow c r g1, applyUps_of hnd (List.mem_append_right _ (List.mem_append_right _ g2))⟩
              · exact .inl (applyUps_none hm)
            · refine ⟨fun i hi => ?_, fun hk row hr => ?_⟩
              · rcases fwdOf_cases hi with hi | ⟨_, _, l1, hi⟩
                · exact hvinv c e (keys_mem (lookR_mem (hinv' c i hi)))
                · obtain ⟨r, _, hr⟩ := hvs c e
                  have := (h.free _ (hF i l1)).2
                  rw [← hi, hr] at this
                  cases this
              · rw [hk] at h3
                simp only [Bool.false_eq_true, if_false] at h3
                obtain ⟨v1, v2⟩ := viewRows_spec h3
                obtain ⟨r, g1, g2⟩ := v2 c e
                have := applyUps_of (hp := s.hp) hnd (List.mem_append_right _ (List.mem_append_right _ g2))
                rw [this] at hr
                simp only [Option.some.injEq] at hr
                rw [← hr]
            · rcases hkp with hkp | hkp
              · rw [e] at hkp; cases hkp
              · have := List.all_eq_true.1 hkp.2 _ (lookR_mem hi)
                exact this
          obtain ⟨p1, p2, p3, p4, p5, p6⟩ := call_pre h hcr
          intro K Q hK
          obtain ⟨z1, z2⟩ := evArgs_get (P := C.P) (G := C.G) (fr := s.fr) (l := c.args.toList) (ts := c.argTypes.toList)
          obtain ⟨y1, y2⟩ := viewL_get hview hob1
          refine enters_wp ho hc (Enters.mono (hpc (callT C ρ s fun c => c ∈ vw) (inPls ρ (fwdOf inv hout k) (lookR hin)) w (c.args.map a.eval) p1 p2 p3 p4 (by rw [y1, z1]; simp) fun j p x hp hv hne => ?_) fun e w' he => ?_)
          · obtain ⟨q, oq, hq, hvq, hoq⟩ := y2 j p hp
            obtain ⟨xo, t, hxo, rfl⟩ := z2 j q hq
            have hx' : x = a.eval xo := by
              rw [Array.getElem?_map] at hv
              rw [Array.getElem?_toList] at hxo
              rw [hxo] at hv
              simpa using hv.symm
            have hune : evO C.P C.G t s.fr xo ≠ .undef := by
              intro e
              rw [e] at hvq
              simp only [viewV, Option.some.injEq, Prod.mk.injEq] at hvq
              exact hne hvq.1.symm
            have hut : untup (evO C.P C.G t s.fr xo) = true := by
              have : ∀ (l : List PV), untupL l = true → ∀ q ∈ l, untup q = true := by
                intro l
                induction l with
                | nil => intro _ q hq; cases hq
                | cons p l ih =>
                  intro hl q hq
                  simp only [untupL, Bool.and_eq_true] at hl
                  rcases List.mem_cons.1 hq with rfl | hq
                  · exact hl.1
                  · exact ih hl.2 q hq
              exact this _ hun _ (List.mem_of_getElem? hq)
            rw [hx']
            refine view_rel p6 p5 (fun i r hi hr => ?_) (fun i r hr => ?_) hut (evO_rel h t xo hune) hvq hoq
            · obtain ⟨pl, e1, e2⟩ := h.heap.row i r (hrow i r hr)
              refine ⟨pl, e1, e2, fun x x1 x2 => .inr ⟨i, r, pl, ?_, hrow i r hr, e1, rfl, x1, x2⟩⟩
              have : i ∈ keys rl := keys_mem (lookR_mem hr)
              rw [hkeys] at this
              rcases List.mem_append.1 this with hm | hm
              · obtain ⟨y, hy⟩ := lookR_key hm
                rw [hi] at hy; cases hy
              · exact hm
            · obtain ⟨pl, _, cs, t', fz, _, _, _, hwf, _⟩ := h.heap.row i r (hrow i r hr)
              exact hwf
          · obtain ⟨u, ρ', rfl, q1, q2, q3, q4, q5⟩ := he
            have hnew : NewOf (fwdOf inv hout k) (lookR hin) (fun c => if k ≤ c ∧ c < k + 16 ∧ lookR hout (c - k) ≠ none ∧ lookR (swapL inv) (c - k) = none then some (c - k) else none) := by
              intro c i
              simp only [Option.ite_none_right_eq_some, Option.some.injEq]
              constructor
              · rintro ⟨⟨c1, c2, c3, c4⟩, rfl⟩
                refine ⟨?_, (hsn _).2 c4⟩
                cases hr : lookR hout (c - k) with
                | none => exact absurd hr c3
                | some r =>
                  simp only [fwdOf, c4, hr]
                  rw [if_pos (by rw [Nat.blt_eq]; omega)]
                  congr 1
                  omega
              · rintro ⟨e1, e2⟩
                have hs := (hsn i).1 e2
                rcases fwdOf_cases e1 with e | ⟨_, ⟨r, e⟩, l1, e3⟩
                · rw [hs] at e; cases e
                · subst e3
                  rw [show k + i - k = i by omega]
                  exact ⟨⟨by omega, by omega, (by rw [e]; intro e'; cases e'), hs⟩, rfl⟩
            obtain ⟨f0, f1, f2⟩ := call_post h hcr hnew (F' := fun id => F id ∧ (id < k ∨ k + 16 ≤ id)) (fun c hc => ⟨hc.1, by
              rw [if_neg]
              rintro ⟨c1, c2, _⟩
              rcases hc.2 with e | e <;> omega⟩) (res' := v') (fun e => by
                rcases hkp with hkp | hkp
                · rw [e] at hkp; cases hkp
                · exact hkp.1) h4 q1 q2 q3 q4 q5
            exact hK u w' _ f0 f1 fun _ => f2
        · simp [Pr.run] at hx
      · simp [Pr.run] at hx
    · simp [Pr.run] at hx
  · simp [Pr.run] at hx
end
end Go.Pe
