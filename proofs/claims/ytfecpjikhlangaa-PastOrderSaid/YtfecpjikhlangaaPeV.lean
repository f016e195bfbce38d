/- Plain states as lists; the run of a region over them. No condition. -/
import Derived.Test.YtfecpjikhlangaaPeU
namespace Go.Pe

structure DS where
  fr : List (Nat × PV)
  hp : List (Nat × Row)
def getF (l : List (Nat × PV)) (i : Nat) : PV := match lookR l i with
  | some p => p
  | none => .undef
def DS.st (d : DS) : St := ⟨getF d.fr, lookR d.hp⟩
def setF : List (Nat × PV) → Nat → PV → List (Nat × PV)
  | [], i, p => [(i, p)]
  | x :: l, i, p => if Nat.beq x.1 i then (i, p) :: l else x :: setF l i p
def setH : List (Nat × Row) → Nat → Option Row → List (Nat × Row)
  | [], i, o => match o with
    | some r => [(i, r)]
    | none => []
  | x :: l, i, o => if Nat.beq x.1 i then (match o with
      | some r => (i, r) :: l
      | none => setH l i none) else x :: setH l i o
theorem look_setF {i j : Nat} {p : PV} : ∀ {l : List (Nat × PV)}, lookR (setF l i p) j = if j = i then some p else lookR l j
  | [] => by
    simp only [setF, lookR]
    by_cases h : j = i
    · subst h; simp
    · rw [if_neg h, if_neg (fun e => h (Nat.eq_of_beq_eq_true e).symm)]
  | x :: l => by
    simp only [setF]
    by_cases hx : Nat.beq x.1 i = true
    · rw [if_pos hx]
      have hxi := Nat.eq_of_beq_eq_true hx
      simp only [lookR]
      by_cases h : j = i
      · subst h; simp
      · rw [if_neg h, if_neg (fun e => h (Nat.eq_of_beq_eq_true e).symm), if_neg (fun e => h (by have := Nat.eq_of_beq_eq_true e; omega))]
    · rw [if_neg hx]
      simp only [lookR, look_setF (l := l)]
      by_cases hj : Nat.beq x.1 j = true
      · rw [if_pos hj, if_pos hj, if_neg]
        intro e
        subst e
        exact hx hj
      · rw [if_neg hj, if_neg hj]
theorem look_setH {i j : Nat} : ∀ {l : List (Nat × Row)} {o : Option Row}, lookR (setH l i o) j = if j = i then o else lookR l j
  | [], o => by
    cases o with
    | none => simp [setH, lookR]
    | some r =>
      simp only [setH, lookR]
      by_cases h : j = i
      · subst h; simp
      · rw [if_neg h, if_neg (fun e => h (Nat.eq_of_beq_eq_true e).symm)]
  | x :: l, o => by
    simp only [setH]
    by_cases hx : Nat.beq x.1 i = true
    · rw [if_pos hx]
      have hxi := Nat.eq_of_beq_eq_true hx
      cases o with
      | none =>
        simp only [look_setH (l := l), lookR]
        by_cases h : j = i
        · rw [if_pos h, if_pos h]
        · rw [if_neg h, if_neg h, if_neg (fun e => h (by have := Nat.eq_of_beq_eq_true e; omega))]
      | some r =>
        simp only [lookR]
        by_cases h : j = i
        · subst h; simp
        · rw [if_neg h, if_neg (fun e => h (Nat.eq_of_beq_eq_true e).symm), if_neg (fun e => h (by have := Nat.eq_of_beq_eq_true e; omega))]
    · rw [if_neg hx]
      simp only [lookR, look_setH (l := l)]
      by_cases hj : Nat.beq x.1 j = true
      · rw [if_pos hj, if_pos hj, if_neg]
        intro e
        subst e
        exact hx hj
      · rw [if_neg hj, if_neg hj]

def forceL {α β : Type} : List α → (List α → β) → β
  | [], K => K []
  | x :: l, K => forceL l fun m => K (x :: m)
theorem forceL_eq {α β : Type} : ∀ (l : List α) (K : List α → β), forceL l K = K l
  | [], _ => rfl
  | x :: l, K => by simp only [forceL]; exact forceL_eq l _

def upsH : List (Nat × Row) → List (Nat × Option Row) → List (Nat × Row)
  | l, [] => l
  | l, u :: r => upsH (setH l u.1 u.2) r
theorem upsH_look : ∀ {u : List (Nat × Option Row)} {l : List (Nat × Row)}, lookR (upsH l u) = applyUps (lookR l) u
  | [], _ => rfl
  | x :: u, l => by
    simp only [upsH, applyUps]
    rw [upsH_look (u := u)]
    congr 1
    funext j
    rw [look_setH]
    rfl
def putF (l : List (Nat × PV)) (dst : Option Nat) (p : PV) : List (Nat × PV) := match dst with
  | some i => setF l i p
  | none => l
def stepD (d : DS) (o : Oper) (e : Eff) : DS := forceL (putF d.fr o.dst e.v) fun f => forceL (upsH d.hp e.ups) fun h => ⟨f, h⟩
theorem stepD_st (d : DS) (o : Oper) (e : Eff) : (stepD d o e).st = applyE d.st o e := by
  simp only [stepD, forceL_eq, DS.st, applyE, upsH_look]
  cases hd : o.dst with
  | none => rfl
  | some i =>
    simp only [putF, St.put, St.mk.injEq, and_true]
    funext j
    simp only [getF, look_setF]
    by_cases h : j = i
    · rw [if_pos h, if_pos h]
    · rw [if_neg h, if_neg h]

def popA (n : Nat) (as : List (Nat × Ans)) : Ans × List (Nat × Ans) := match as with
  | [] => (.none, [])
  | x :: r => if Nat.beq x.1 n then (x.2, r) else (.none, x :: r)
def runOps (P : Program) (G : Nat → Option PV) (ops : Array Oper) : List Oper → Nat → Nat → DS → List (Nat × Ans) → Option (List It × DS × List (Nat × Ans))
  | [], _, _, d, as => some ([], d, as)
  | o :: l, i, n, d, as => match popA n as with
    | (x, as') => match effOf P G ops o d.st (64 + 16 * n) x with
      | some e => match runOps P G ops l (i + 1) (n + 1) (stepD d o e) as' with
        | some y => some (⟨i, o, x, e⟩ :: y.1, y.2.1, y.2.2)
        | none => none
      | none => none
def obsOf : List It → List Prop
  | [] => []
  | x :: l => x.e.ob ++ obsOf l

theorem runOps_spec {P : Program} {G : Nat → Option PV} {ops : Array Oper} {kf : Nat → Nat} {n0 : Nat} (hkf : ∀ i, kf i = 64 + 16 * (n0 + i)) : ∀ {l : List Oper} {i : Nat} {d : DS} {as : List (Nat × Ans)} {its : List It} {d' : DS} {as' : List (Nat × Ans)},
    runOps P G ops l i (n0 + i) d as = some (its, d', as') → All (obsOf its) → (∀ j o, l[j]? = some o → ops[i + j]? = some o) → its.map (·.i) = List.range' i l.length ∧ (∀ x ∈ its, ops[x.i]? = some x.o) ∧ Ex P G ops kf d.st its d'.st
  | [], i, d, as, its, d', as', h, _, _ => by
    simp only [runOps, Option.some.injEq, Prod.mk.injEq] at h
    obtain ⟨rfl, rfl, rfl⟩ := h
    exact ⟨rfl, (fun x hx => by cases hx), rfl⟩
  | o :: l, i, d, as, its, d', as', h, hob, ho => by
    simp only [runOps] at h
    split at h
    · rename_i e he
      split at h
      · rename_i y hy
        simp only [Option.some.injEq, Prod.mk.injEq] at h
        obtain ⟨rfl, rfl, rfl⟩ := h
        simp only [obsOf] at hob
        obtain ⟨h1, h2, h3⟩ := runOps_spec hkf (l := l) (i := i + 1) (its := y.1) (d' := y.2.1) (as' := y.2.2) (by rw [show n0 + (i + 1) = n0 + i + 1 by omega]; exact hy) hob.right (fun j o' hj => by
          have := ho (j + 1) o' (by simpa using hj)
          rwa [show i + (j + 1) = i + 1 + j by omega] at this)
        refine ⟨by simp only [List.map_cons, h1, List.length_cons, List.range'_succ], fun z hz => ?_, ⟨by rw [hkf]; exact he, hob.left⟩, ?_⟩
        · rcases List.mem_cons.1 hz with rfl | hz
          · exact ho 0 o rfl
          · exact h2 z hz
        · rw [← stepD_st]; exact h3
      · cases h
    · cases h

section
variable {C : Ctx} {ops : Array Oper} {kf : Nat → Nat} {Q : Exit → Act → World → Prop}
theorem wpOps_of (hdst : ∀ (i : Nat) (x : Oper) (d : Nat), ops[i]? = some x → x.dst = some d → d < C.nt) {N : Nat} {t : St} {ρ0 : Pls}
    (hQ : ∀ ρ a w, Ext ρ0 ρ → SimAt C (fun id => N ≤ id) ρ t a w → Q .normal a w) (hkf : ∀ i j, i ≠ j → kf i + 16 ≤ kf j ∨ kf j + 16 ≤ kf i) (hN : ∀ i, i < ops.size → kf i + 16 ≤ N) :
    ∀ (L : List It) (F : Nat → Prop) (ρ : Pls) (s : St) (a : Act) (w : World), (∀ x ∈ L, ops[x.i]? = some x.o) → (L.map (·.i)).Nodup → Ex C.P C.G ops kf s L t → (∀ x ∈ L, ∀ j, j < 16 → F (kf x.i + j)) → (∀ id, N ≤ id → F id) → Ext ρ0 ρ → SimAt C F ρ s a w → wpOps C.P ops Q (L.map (·.i)) a w
  | [], F, ρ, s, a, w, _, _, hE, _, hFN, hx, hs => by
    simp only [Ex] at hE
    subst hE
    exact hQ ρ a w hx (hs.less hFN)
  | x :: L, F, ρ, s, a, w, hm, hnd, hE, hF, hFN, hx, hs => by
    obtain ⟨⟨e1, e2⟩, e3⟩ := hE
    simp only [List.map_cons, List.nodup_cons] at hnd
    rw [List.map_cons, wpOps_cons]
    refine eff_wp hs (hF x (by simp)) (hm x (by simp)) e1 e2 hdst fun ρ' a' w' hx' hs' => wpOps_of hdst hQ hkf hN L _ ρ' _ a' w' (fun y hy => hm y (by simp [hy])) hnd.2 e3 (fun y hy j hj => ⟨hF y (by simp [hy]) j hj, ?_⟩) (fun id hid => ⟨hFN id hid, ?_⟩) (fun i pl hi => hx' i pl (hx i pl hi)) hs'
    · have hne : y.i ≠ x.i := fun e => hnd.1 (by rw [← e]; exact List.mem_map.2 ⟨y, hy, rfl⟩)
      rcases hkf y.i x.i hne with h | h <;> omega
    · have := hN x.i (Array.getElem?_eq_some_iff.1 (hm x (by simp))).1
      omega

def dstB (nt : Nat) (ops : Array Oper) : Bool := ops.toList.all fun o => match o.dst with
  | some d => Nat.blt d nt
  | none => true
theorem dstB_spec {nt : Nat} (h : dstB nt ops = true) : ∀ (i : Nat) (x : Oper) (d : Nat), ops[i]? = some x → x.dst = some d → d < nt := by
  intro i x d hi hd
  simp only [dstB, List.all_eq_true] at h
  have := h x (by rw [← Array.getElem?_toList] at hi; exact List.mem_of_getElem? hi)
  rw [hd] at this
  exact Nat.blt_eq ▸ this

def regionB (P : Program) (nt : Nat) (ops : Array Oper) (draw : Bool) (its : List It) : Bool := dstB nt ops && (if draw then P.follows .mixedOrders && (orderB .any ops its && topoB .any its) else true)

/-- A REGION. -/
theorem region_run {n : Nat} {ρ : Pls} {a : Act} {w : World} {d d' : DS} {as as' : List (Nat × Ans)} {its : List It} {id : Nat} {draw : Bool} (h : SimAt C (fun id => 64 + 16 * n ≤ id) ρ d.st a w)
    (hr : runOps C.P C.G ops ops.toList 0 n d as = some (its, d', as')) (hob : All (obsOf its)) (hb : regionB C.P C.nt ops draw its = true) :
    (Code.region id ops draw).wp C.P (fun e a w => e = .normal ∧ ∃ ρ', Ext ρ ρ' ∧ SimAt C (fun id => 64 + 16 * (n + ops.size) ≤ id) ρ' d'.st a w) a w := by
  simp only [regionB, Bool.and_eq_true] at hb
  obtain ⟨hd, hb⟩ := hb
  have hdst := dstB_spec hd
  obtain ⟨h1, h2, h3⟩ := runOps_spec (kf := fun i => 64 + 16 * (n + i)) (n0 := n) (fun _ => rfl) (i := 0) hr hob (fun j o hj => by rw [Nat.zero_add]; rw [Array.getElem?_toList] at hj; exact hj)
  have hmem : ∀ x ∈ its, x.i < ops.size := fun x hx => (Array.getElem?_eq_some_iff.1 (h2 x hx)).1
  have hkf : ∀ i j : Nat, i ≠ j → 64 + 16 * (n + i) + 16 ≤ 64 + 16 * (n + j) ∨ 64 + 16 * (n + j) + 16 ≤ 64 + 16 * (n + i) := fun i j hij => by omega
  have hN : ∀ i, i < ops.size → 64 + 16 * (n + i) + 16 ≤ 64 + 16 * (n + ops.size) := fun i hi => by omega
  have hlen : ops.toList.length = ops.size := Array.length_toList
  cases draw with
  | false =>
    refine wp_region ?_
    have : List.range ops.size = its.map (·.i) := by rw [h1, hlen, List.range_eq_range']
    rw [this]
    refine wpOps_of (ρ0 := ρ) (kf := fun i => 64 + 16 * (n + i)) hdst (fun ρ' a' w' hx hs => ⟨rfl, ρ', hx, hs⟩) hkf hN its _ ρ d.st a w h2 (by rw [h1]; exact List.nodup_range') h3 (fun x hx j hj => by show 64 + 16 * n ≤ _; omega) (fun id hid => by show 64 + 16 * n ≤ _; omega) (Ext.refl _) h
  | true =>
    simp only [if_true, Bool.and_eq_true] at hb
    refine wp_region_any hb.1 ?_
    refine wpAny_of (ρ0 := ρ) (kf := fun i => 64 + 16 * (n + i)) hdst hkf hN (fun ρ' a' w' hx hs => ⟨rfl, ρ', hx, hs⟩) ops.size _ its _ ρ d.st a _ ⟨by simp, fun i hi => ?_, fun x hx => ⟨?_, h2 x hx⟩, hb.2.1, hb.2.2, fun i o hi hl => ?_⟩ ?_ h3 (fun x hx j hj => by show 64 + 16 * n ≤ _; omega) (fun id hid => by show 64 + 16 * n ≤ _; omega) (Ext.refl _) (h.drew _)
    · have hi' : i < ops.size := by
        by_cases hi' : i < ops.size
        · exact hi'
        · simp [Array.getD, hi'] at hi
      have : i ∈ its.map (·.i) := by rw [h1, hlen, List.mem_range']; exact ⟨i, hi', by omega⟩
      obtain ⟨x, hx, hxi⟩ := List.mem_map.1 this
      exact ⟨x, hx, hxi⟩
    · simp [Array.getD, hmem x hx]
    · exfalso
      have hi' : i < ops.size := (Array.getElem?_eq_some_iff.1 hi).1
      simp [Array.getD, hi'] at hl
    · have : (its.map (·.i)).length = ops.toList.length := by rw [h1, List.length_range']
      rw [List.length_map, hlen] at this
      omega
end
end Go.Pe
