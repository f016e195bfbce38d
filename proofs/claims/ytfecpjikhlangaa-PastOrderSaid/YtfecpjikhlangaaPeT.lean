/- Every plain operation is right. No condition. -/
import Derived.Test.YtfecpjikhlangaaPeS
namespace Go.Pe

section
variable {C : Ctx} {F : Nat → Prop} {ρ : Pls} {s : St} {a : Act} {w : World} {o : Oper} {k : Nat}

theorem conv_bytes (h : SimAt C F ρ s a w) {sT dT e : TypeId} {x : Operand} (ho : o.op = .convert sT dT x) (hs : C.P.underlying sT = some (.slice e)) (he : C.P.underlying e = some (.int .u8)) (hd : C.P.underlying dT = some .string)
    {v : PV} {ups : List (Nat × Option Row)} {ob : List Prop} {rd : List Nat} (hx : (elemsOf (evO C.P C.G sT s.fr x) bytesP).run s.hp = some (v, ups, ob, rd)) (hob : All ob) (hne : ∀ b, evO C.P C.G sT s.fr x ≠ .str b) : Goes C F ρ s a w o k v ups := by
  have hval : ∀ d, (∃ l n, d = PV.iarr .u8 n l) → WF d → ∀ (A : Option Addr) (n c : Nat), a.eval x = .slice A n c → arrLen d = n → n ≤ maxLen →
      (0 < n → ∃ b o', A = some ⟨b, o', none⟩ ∧ ∀ (j : Nat) (q : PV), (flat d)[j]? = some q → ∃ u, w.cell? ⟨b, o' + j, none⟩ = some u ∧ RO w (Tc C ρ s.hp) ρ u q) →
      ∀ {v ups ob rd}, (bytesP d).run s.hp = some (v, ups, ob, rd) → Goes C F ρ s a w o k v ups := by
    rintro _ ⟨l, m, rfl⟩ hw A n c hv hn hm hc v ups ob rd hr
    simp only [WF] at hw
    simp only [arrLen] at hn
    simp only [bytesP, Pr.run, Option.some.injEq, Prod.mk.injEq] at hr
    obtain ⟨rfl, rfl, _, _⟩ := hr
    refine goes_bytes h ho hs he hd hv (by omega) hm fun h0 => ?_
    obtain ⟨b, o', hA, hcell⟩ := hc h0
    refine ⟨b, o', hA, fun j hj => ?_⟩
    obtain ⟨u, g1, g2⟩ := hcell j (.int .u8 l[j]) (by simp [flat, hj])
    simp only [RO] at g2
    cases g2
    exact g1
  have hbytes : ∀ {d v ups ob rd}, (bytesP d).run s.hp = some (v, ups, ob, rd) → ∃ l n, d = PV.iarr .u8 n l := by
    intro d v ups ob rd hr
    unfold bytesP at hr
    split at hr
    · exact ⟨_, _, rfl⟩
    · simp [Pr.run] at hr
  unfold elemsOf at hx
  split at hx
  · rename_i nl c hA
    obtain ⟨w1, w2, w3⟩ := evO_vec h hA
    obtain ⟨l, n, rfl⟩ := hbytes hx
    have hv := rfl (a := a.eval x)
    generalize hvx : a.eval x = vx at w3 hv
    cases w3 with
    | vec0 A cc _ _ hl hn _ => exact hval _ ⟨l, n, rfl⟩ w1 A 0 cc hvx hl (by simp [maxLen]) (fun h0 => absurd h0 (by omega)) hx
    | vec1 b o' n' c _ us hn hc hm g1 g2 => exact hval _ ⟨l, n, rfl⟩ w1 _ n' c hvx hn (by omega) (fun _ => ⟨b, o', rfl, fun j q hq => ⟨us j, (g1 j q hq).2, RO.of_closed (g2 j q hq)⟩⟩) hx
  · rename_i id path sz off n hA
    simp only [Pr.run] at hx
    split at hx
    · rename_i row hr
      split at hx
      · rename_i q hq
        split at hx
        · rename_i hb
          simp only [Bool.and_eq_true] at hb
          simp only [Option.map_eq_some_iff, Prod.mk.injEq] at hx
          obtain ⟨⟨v', u', o', r'⟩, h1, rfl, rfl, rfl, _⟩ := hx
          obtain ⟨ob', g1, g2⟩ := Pr.need_run h1
          subst g2
          have hle : off + n ≤ arrLen q := hob.head
          have hpo : All (pathOb row.c path) := (All.tail hob).left
          have hsz := Nat.eq_of_beq_eq_true hb.2
          obtain ⟨pl, A, c, p1, p2, p3, p5, p4⟩ := evO_ref h hA
          obtain ⟨pl', p1', hrel⟩ := h.heap.row id row hr
          rw [p1] at p1'
          cases p1'
          obtain ⟨c1, _, _, c3⟩ := hrel.cellsAt hq hpo
          obtain ⟨s1, s2, s3, s4, s5⟩ := sub_spec c1 hb.1 hle
          obtain ⟨l, m, hlm⟩ := hbytes g1
          refine hval (sub q off n) ⟨l, m, hlm⟩ s1 _ n c p2 s3 (by omega) (fun h0 => ?_) g1
          obtain ⟨rfl, _⟩ := p4 (by omega)
          refine ⟨_, _, rfl, fun j y hy => ?_⟩
          obtain ⟨u, e1, e2⟩ := c3 _ y (s5 j y hy)
          refine ⟨u, ?_, e2⟩
          rw [← e1, ← hsz]
          congr 2
          omega
        · simp [Pr.run] at hx
      · simp [Pr.run] at hx
    · cases hx
  · rename_i b hA
    exact absurd hA (hne b)
  · simp [Pr.run] at hx

theorem Pr.run_fail {hp : Hp} {x : PV × List (Nat × Option Row) × List Prop × List Nat} (h : Pr.fail.run hp = some x) : False := by simp [Pr.run] at h

theorem goes_exec (h : SimAt C F ρ s a w) (hF : F k) {emp : Bool} {v : PV} {ups : List (Nat × Option Row)} {ob : List Prop} {rd : List Nat} (hx : (exec C.P C.G o s.fr k emp).run s.hp = some (v, ups, ob, rd)) (hob : All ob) : Goes C F ρ s a w o k v ups := by
  unfold exec at hx
  split at hx
  · rename_i x ho
    simp only [Pr.run, Option.some.injEq, Prod.mk.injEq] at hx
    obtain ⟨rfl, rfl, _, _⟩ := hx
    exact goes_move h (.inl ho)
  · rename_i x ho
    simp only [Pr.run, Option.some.injEq, Prod.mk.injEq] at hx
    obtain ⟨rfl, rfl, _, _⟩ := hx
    exact goes_move h (.inr ho)
  · rename_i c x y ho
    split at hx
    · rename_i hc
      simp only [Pr.run, Option.some.injEq, Prod.mk.injEq] at hx
      obtain ⟨rfl, rfl, _, _⟩ := hx
      exact goes_pick h ho hc
    · rename_i hc
      simp only [Pr.run, Option.some.injEq, Prod.mk.injEq] at hx
      obtain ⟨rfl, rfl, _, _⟩ := hx
      exact goes_pick h ho hc
    · exact (Pr.run_fail hx).elim
  · rename_i e ho
    split at hx
    · rename_i z hz
      simp only [Pr.run, Option.some.injEq, Prod.mk.injEq] at hx
      obtain ⟨rfl, rfl, _, _⟩ := hx
      exact goes_alloc h hF ho hz
    · exact (Pr.run_fail hx).elim
  · rename_i e x ho
    dsimp only at hx
    split at hx
    · rename_i hg
      simp only [Pr.run, Option.some.injEq, Prod.mk.injEq] at hx
      obtain ⟨rfl, rfl, _, _⟩ := hx
      exact goes_box h hF ho hg
    · exact (Pr.run_fail hx).elim
  · rename_i t parts ho
    split at hx
    · rename_i c hc
      simp only [Pr.run, Option.some.injEq, Prod.mk.injEq] at hx
      obtain ⟨rfl, rfl, _, _⟩ := hx
      exact goes_build h ho hc
    · exact (Pr.run_fail hx).elim
  · rename_i t n parts ho
    exact goes_buildSlice h hF ho hx
  · rename_i t x ho
    split at hx
    · rename_i id path hA
      simp only [Pr.run] at hx
      split at hx
      · rename_i r hr
        simp only [Option.map_eq_some_iff, Prod.mk.injEq] at hx
        obtain ⟨⟨v', u', o', r'⟩, h1, rfl, rfl, rfl, _⟩ := hx
        exact goes_load_at h ho hA hr h1 hob
      · cases hx
    · rename_i c path hA
      exact goes_load_cptr h ho hA hx hob
    · exact (Pr.run_fail hx).elim
  · rename_i t x y ho
    split at hx
    · rename_i id path hA
      exact goes_store h ho hA hx hob
    · exact (Pr.run_fail hx).elim
  · rename_i x ho
    split at hx
    · rename_i id path hA
      simp only [Pr.run, Option.some.injEq, Prod.mk.injEq] at hx
      obtain ⟨rfl, rfl, _, _⟩ := hx
      exact goes_nilCheck h ho hA (.inl ⟨_, _, rfl⟩)
    · rename_i c path hA
      simp only [Pr.run, Option.some.injEq, Prod.mk.injEq] at hx
      obtain ⟨rfl, rfl, _, _⟩ := hx
      exact goes_nilCheck h ho hA (.inr ⟨_, _, rfl⟩)
    · exact (Pr.run_fail hx).elim
  · rename_i op xT x y yT ho
    split at hx
    · rename_i b hb
      split at hx
      · rename_i hT
        simp only [Pr.run, Option.some.injEq, Prod.mk.injEq] at hx
        obtain ⟨rfl, rfl, _, _⟩ := hx
        exact goes_nilCmp h ho hb hT
      · exact (Pr.run_fail hx).elim
    · unfold binQ at hx
      split at hx
      · rename_i hag
        simp only [Bool.and_eq_true] at hag
        exact goes_eqAgg h ho hag.1 hag.2 hx
      · exact goes_binOp h ho hx hob
  · rename_i op xT x ho
    exact goes_unOp h ho hx
  · rename_i sT dT x ho
    split at hx
    · rename_i nl c hd hA
      split at hx
      · rename_i e hs
        split at hx
        · rename_i he
          exact conv_bytes h ho hs he hd (by rw [hA]; exact hx) hob (fun b hb => by rw [hA] at hb; cases hb)
        · exact (Pr.run_fail hx).elim
      · exact (Pr.run_fail hx).elim
    · rename_i id path s0 off n hd hA
      split at hx
      · rename_i e hs
        split at hx
        · rename_i he
          exact conv_bytes h ho hs he hd (by rw [hA]; exact hx) hob (fun b hb => by rw [hA] at hb; cases hb)
        · exact (Pr.run_fail hx).elim
      · exact (Pr.run_fail hx).elim
    · split at hx
      · rename_i hs
        exact goes_conv h ho hF hs hx
      · exact (Pr.run_fail hx).elim
  · rename_i t x y ho
    exact goes_make h hF ho hx hob
  · rename_i t x lo hi ho
    exact goes_slice h ho hx hob
  · rename_i t x i ho
    exact goes_fieldAddr h ho hx
  · rename_i t x i ho
    exact goes_field h ho hx
  · rename_i t x ix ho
    exact goes_indexAddr h ho hx hob
  · rename_i t x ix ho
    exact goes_index h ho hx hob
  · rename_i x i ho
    split at hx
    · rename_i ps hA
      split at hx
      · rename_i p hp
        simp only [Pr.run, Option.some.injEq, Prod.mk.injEq] at hx
        obtain ⟨rfl, rfl, _, _⟩ := hx
        exact goes_extract h ho hA hp
      · exact (Pr.run_fail hx).elim
    · exact (Pr.run_fail hx).elim
  · rename_i c ho
    split at hx
    · rename_i hc
      split at hx
      · exact (Pr.run_fail hx).elim
      · rename_i hs
        simp only [sizes, Bool.not_eq_true', Bool.not_eq_false, Bool.and_eq_true] at hs
        exact goes_len h ho hc (Nat.eq_of_beq_eq_true hs.2) (Nat.eq_of_beq_eq_true hs.1) hx
    · rename_i hc
      exact goes_maxmin h ho (.inl ⟨hc, hx⟩)
    · rename_i hc
      exact goes_maxmin h ho (.inr ⟨hc, hx⟩)
    · rename_i hc
      split at hx
      · exact (Pr.run_fail hx).elim
      · rename_i hs
        exact goes_copy h ho hc (by simpa using hs) hx hob
    · rename_i hc
      split at hx
      · exact (Pr.run_fail hx).elim
      · rename_i hs
        exact goes_append h hF ho hc (by simpa using hs) hx hob
    · exact (Pr.run_fail hx).elim
  · exact (Pr.run_fail hx).elim

/- Answers: what the walk says where the code asks. -/
def Pr.setV (p : PV) : Pr → Pr
  | .ret v u o => .ret p u ((v = p) :: o)
  | .fail => .fail
  | .read id k => .read id fun r => (k r).setV p
def Pr.setU (x : List (Nat × Option Row)) : Pr → Pr
  | .ret v u o => .ret v x ((u = x) :: o)
  | .fail => .fail
  | .read id k => .read id fun r => (k r).setU x
theorem Pr.setV_run {hp : Hp} {p : PV} : ∀ {pr : Pr} {v : PV} {ups : List (Nat × Option Row)} {ob : List Prop} {rd : List Nat}, (pr.setV p).run hp = some (v, ups, ob, rd) → ∃ v' ob', pr.run hp = some (v', ups, ob', rd) ∧ v = p ∧ ob = (v' = p) :: ob'
  | .ret v0 u o, v, ups, ob, rd, h => by
    simp only [Pr.setV, Pr.run, Option.some.injEq, Prod.mk.injEq] at h
    obtain ⟨rfl, rfl, rfl, rfl⟩ := h
    exact ⟨v0, o, rfl, rfl, rfl⟩
  | .fail, _, _, _, _, h => by simp [Pr.setV, Pr.run] at h
  | .read id k, v, ups, ob, rd, h => by
    simp only [Pr.setV, Pr.run] at h
    split at h
    · rename_i r hr
      simp only [Option.map_eq_some_iff, Prod.mk.injEq] at h
      obtain ⟨⟨a1, a2, a3, a4⟩, h1, h2, h3, h4, h5⟩ := h
      simp only at h2 h3 h4 h5
      subst h2; subst h3; subst h4; subst h5
      obtain ⟨v', ob', g1, g2, g3⟩ := Pr.setV_run h1
      exact ⟨v', ob', by simp only [Pr.run, hr, g1, Option.map_some], g2, g3⟩
    · cases h
theorem Pr.setU_run {hp : Hp} {x : List (Nat × Option Row)} : ∀ {pr : Pr} {v : PV} {ups : List (Nat × Option Row)} {ob : List Prop} {rd : List Nat}, (pr.setU x).run hp = some (v, ups, ob, rd) → ∃ u' ob', pr.run hp = some (v, u', ob', rd) ∧ ups = x ∧ ob = (u' = x) :: ob'
  | .ret v0 u o, v, ups, ob, rd, h => by
    simp only [Pr.setU, Pr.run, Option.some.injEq, Prod.mk.injEq] at h
    obtain ⟨rfl, rfl, rfl, rfl⟩ := h
    exact ⟨u, o, rfl, rfl, rfl⟩
  | .fail, _, _, _, _, h => by simp [Pr.setU, Pr.run] at h
  | .read id k, v, ups, ob, rd, h => by
    simp only [Pr.setU, Pr.run] at h
    split at h
    · rename_i r hr
      simp only [Option.map_eq_some_iff, Prod.mk.injEq] at h
      obtain ⟨⟨a1, a2, a3, a4⟩, h1, h2, h3, h4, h5⟩ := h
      simp only at h2 h3 h4 h5
      subst h2; subst h3; subst h4; subst h5
      obtain ⟨v', ob', g1, g2, g3⟩ := Pr.setU_run h1
      exact ⟨v', ob', by simp only [Pr.run, hr, g1, Option.map_some], g2, g3⟩
    · cases h
theorem Pr.dec_run {hp : Hp} {d : Bool} : ∀ {pr : Pr} {v : PV} {ups : List (Nat × Option Row)} {ob : List Prop} {rd : List Nat}, (pr.dec d).run hp = some (v, ups, ob, rd) → ∃ b ob', pr.run hp = some (.bool b, ups, ob', rd) ∧ v = .bool d ∧ ob = (b = d) :: ob'
  | .ret v0 u o, v, ups, ob, rd, h => by
    cases v0 <;> simp only [Pr.dec, Pr.run, Option.some.injEq, Prod.mk.injEq, reduceCtorEq] at h
    obtain ⟨rfl, rfl, rfl, rfl⟩ := h
    exact ⟨_, o, rfl, rfl, rfl⟩
  | .fail, _, _, _, _, h => by simp [Pr.dec, Pr.run] at h
  | .read id k, v, ups, ob, rd, h => by
    simp only [Pr.dec, Pr.run] at h
    split at h
    · rename_i r hr
      simp only [Option.map_eq_some_iff, Prod.mk.injEq] at h
      obtain ⟨⟨a1, a2, a3, a4⟩, h1, h2, h3, h4, h5⟩ := h
      simp only at h2 h3 h4 h5
      subst h2; subst h3; subst h4; subst h5
      obtain ⟨v', ob', g1, g2, g3⟩ := Pr.dec_run h1
      exact ⟨v', ob', by simp only [Pr.run, hr, g1, Option.map_some], g2, g3⟩
    · cases h

def callA (P : Program) (G : Nat → Option PV) (o : Oper) (fr : Nat → PV) (k : Nat) (keep : Bool) (inv : List (Nat × Nat)) (hout : List (Nat × Row)) (res : PV) (told : Option (List (Nat × Row) × List PV)) : Pr := match o.op with
  | .call c => (match c.callee with
    | .value (.func f) => callP P G f (evArgs P G fr c.args.toList c.argTypes.toList) k keep inv hout res told
    | _ => .fail)
  | _ => .fail
def execA (P : Program) (G : Nat → Option PV) (o : Oper) (fr : Nat → PV) (k : Nat) (ans : Ans) : Pr := match ans with
  | .none => exec P G o fr k false
  | .emp => exec P G o fr k true
  | .dec b => (exec P G o fr k false).dec b
  | .val p => (exec P G o fr k false).setV p
  | .ups u => (exec P G o fr k false).setU u
  | .vu p u => ((exec P G o fr k false).setV p).setU u
  | .call keep inv hout res => callA P G o fr k keep inv hout res none
  | .calla keep inv hin args hout res => callA P G o fr k keep inv hout res (some (hin, args))

theorem goes_execA (h : SimAt C F ρ s a w) (hF : ∀ j, j < 16 → F (k + j)) {ans : Ans} {v : PV} {ups : List (Nat × Option Row)} {ob : List Prop} {rd : List Nat} (hx : (execA C.P C.G o s.fr k ans).run s.hp = some (v, ups, ob, rd)) (hob : All ob) : Goes C F ρ s a w o k v ups := by
  have hF0 : F k := hF 0 (by omega)
  cases ans with
  | none => exact goes_exec h hF0 hx hob
  | emp => exact goes_exec h hF0 hx hob
  | dec b =>
    obtain ⟨b', ob', h1, rfl, rfl⟩ := Pr.dec_run hx
    have hb : b' = b := hob.head
    subst hb
    exact goes_exec h hF0 h1 hob.tail
  | val p =>
    obtain ⟨v', ob', h1, rfl, rfl⟩ := Pr.setV_run hx
    have hb : v' = v := hob.head
    subst hb
    exact goes_exec h hF0 h1 hob.tail
  | ups u =>
    obtain ⟨u', ob', h1, rfl, rfl⟩ := Pr.setU_run hx
    have hb : u' = ups := hob.head
    subst hb
    exact goes_exec h hF0 h1 hob.tail
  | vu p u =>
    obtain ⟨u', ob', h1, rfl, rfl⟩ := Pr.setU_run hx
    have hb : u' = ups := hob.head
    subst hb
    obtain ⟨v', ob2, h2, rfl, rfl⟩ := Pr.setV_run h1
    have hb : v' = v := hob.tail.head
    subst hb
    exact goes_exec h hF0 h2 hob.tail.tail
  | call keep inv hout res =>
    simp only [execA, callA] at hx
    split at hx
    · rename_i c ho
      split at hx
      · rename_i f hc
        exact goes_call h hF ho hc hx hob
      · exact (Pr.run_fail hx).elim
    · exact (Pr.run_fail hx).elim
  | calla keep inv hin args hout res =>
    simp only [execA, callA] at hx
    split at hx
    · rename_i c ho
      split at hx
      · rename_i f hc
        exact goes_call h hF ho hc hx hob
      · exact (Pr.run_fail hx).elim
    · exact (Pr.run_fail hx).elim
end
end Go.Pe
