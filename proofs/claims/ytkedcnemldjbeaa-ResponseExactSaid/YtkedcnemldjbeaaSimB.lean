/- Blocking in the simulation: at most one section, only before the start. Conditions: the environment's. -/
import Derived.Test.YtkedcnemldjbeaaSimI
namespace Go.Proofs.Ytkedcnemldjbeaa

structure BlkEnv (E : Env) (L : Nat → Int) (rem : Nat → Int → Int) : Prop where
  pos : ∀ (k : Nat) (d : Int), k < E.n → (E.act k d).2 = true → 1 ≤ rem k d
  bd : ∀ (i k : Nat) (d : Int), i < k → k < E.n → (E.act k d).2 = true → (E.act k d).1 ≤ i → rem k d ≤ L i
  dec : ∀ (k : Nat) (d : Int), k < E.n → (E.act k d).2 = true → (E.act k (d + 1)).2 = true → rem k (d + 1) ≤ rem k d - 1
  nonneg : ∀ i, 0 ≤ L i

/-- The head q of task k blocks level i. -/
def isB (E : Env) (s : Sim) (i k : Nat) (q : Pd) : Prop := i < k ∧ k < E.n ∧ (∃ u, s.wt k = q :: u) ∧ q.ho = true ∧ q.ac ≤ i

structure BInv (E : Env) (L : Nat → Int) (rem : Nat → Int → Int) (s : Sim) : Prop where
  uniq : ∀ i k1 q1 k2 q2, isB E s i k1 q1 → isB E s i k2 q2 → k1 = k2
  lowB : ∀ i p, i < E.n → p ∈ s.wt i → s.lo i - p.lo ≤ L i ∧ ∀ k q, isB E s i k q → s.lo i - p.lo + rem k q.dn ≤ L i
  start : ∀ i p r, i < E.n → s.wt i = p :: r → 0 < p.dn → (∀ k q, ¬ isB E s i k q) ∧ s.lo i - p.lo ≤ p.st - p.rel
  jobs : ∀ j ∈ s.en, j.bl ≤ L j.tk ∧ j.bl ≤ j.st - j.rel

section
variable {E : Env} {L : Nat → Int} {rem : Nat → Int → Int} {now : Int} {s : Sim}

theorem binv0 : BInv E L rem sim0 where
  uniq := fun i k1 q1 k2 q2 h => by obtain ⟨_, _, ⟨u, h⟩, _⟩ := h; simp [sim0] at h
  lowB := fun i p _ h => by simp [sim0] at h
  start := fun i p r _ h => by simp [sim0] at h
  jobs := fun j h => by simp [sim0] at h

theorem isB_rel {i k : Nat} {q : Pd} (h : isB E (relK E now s E.n) i k q) : isB E s i k q := by
  obtain ⟨h1, h2, ⟨u, h3⟩, h4, h5⟩ := h
  rw [relK_wt h2] at h3
  cases hq : s.wt k with
  | nil =>
    rw [hq] at h3
    split at h3
    · simp at h3
      obtain ⟨rfl, _⟩ := h3
      simp [newPd] at h4
    · simp at h3
  | cons q' u' =>
    rw [hq] at h3
    simp only [List.cons_append, List.cons.injEq] at h3
    obtain ⟨rfl, _⟩ := h3
    exact ⟨h1, h2, ⟨u', hq⟩, h4, h5⟩
/-- What a blocker's head says of its place. -/
theorem isB_act (hh : ∀ i p r, i < E.n → s.wt i = p :: r → hdOK E i p ∧ ∀ q ∈ r, fresh i q) {i k : Nat} {q : Pd} (h : isB E s i k q) : (E.act k q.dn).2 = true ∧ (E.act k q.dn).1 ≤ i := by
  obtain ⟨h1, h2, ⟨u, h3⟩, h4, h5⟩ := h
  obtain ⟨⟨a, b, c, d⟩, _⟩ := hh k q u h2 h3
  have hd : 0 < q.dn := by
    by_cases e : q.dn = 0
    · rw [(c e).2] at h4; cases h4
    · omega
  obtain ⟨e1, e2⟩ := d hd
  rw [← e1, ← e2]; exact ⟨h4, h5⟩

theorem binv_rel (hE : EnvOK E) (hB : BlkEnv E L rem) (h : Inv E now s) (b : BInv E L rem s) : BInv E L rem (relK E now s E.n) where
  uniq := fun i k1 q1 k2 q2 h1 h2 => b.uniq i k1 q1 k2 q2 (isB_rel h1) (isB_rel h2)
  lowB := fun i p hi hp => by
    rw [relK_wt hi] at hp
    show s.lo i - p.lo ≤ L i ∧ ∀ (k : Nat) (q : Pd), _ → s.lo i - p.lo + rem k q.dn ≤ L i
    rcases List.mem_append.1 hp with hp | hp
    · obtain ⟨h1, h2⟩ := b.lowB i p hi hp
      exact ⟨h1, fun k q hq => h2 k q (isB_rel hq)⟩
    · split at hp
      · simp at hp; subst hp
        have e : s.lo i - (newPd s now i).lo = 0 := by show s.lo i - s.lo i = 0; omega
        rw [e]
        refine ⟨hB.nonneg i, fun k q hq => ?_⟩
        obtain ⟨a1, a2⟩ := isB_act h.head (isB_rel hq)
        have := hB.bd i k q.dn hq.1 hq.2.1 a1 a2
        omega
      · cases hp
  start := fun i p r hi hw hd => by
    rw [relK_wt hi] at hw
    cases hq : s.wt i with
    | nil =>
      rw [hq] at hw
      split at hw
      · simp at hw
        obtain ⟨rfl, _⟩ := hw
        exact absurd hd (by show ¬ (0 : Int) < 0; omega)
      · simp at hw
    | cons q' u' =>
      rw [hq] at hw
      simp only [List.cons_append, List.cons.injEq] at hw
      obtain ⟨rfl, _⟩ := hw
      obtain ⟨h1, h2⟩ := b.start i q' u' hi hq hd
      exact ⟨fun k q hk => h1 k q (isB_rel hk), h2⟩
  jobs := b.jobs

/-- The chosen one blocks each level above it at which a job is pending. -/
theorem chosen_blocks (hE : EnvOK E) (hh : ∀ i p r, i < E.n → s.wt i = p :: r → hdOK E i p ∧ ∀ q ∈ r, fresh i q) {t i : Nat} {p : Pd} {r : List Pd} (ht : t < E.n) (hw : s.wt t = p :: r)
    (hb : ∀ i, i < E.n → i ≠ t → ∀ q u, s.wt i = q :: u → bef t p i q = true) (hit : i < t) (hi : s.wt i ≠ []) : isB E s i t p := by
  cases hq : s.wt i with
  | nil => exact absurd hq hi
  | cons q u =>
    have hin : i < E.n := by omega
    have h1 := hb i hin (by omega) q u hq
    obtain ⟨a1, a2⟩ := head_ac hE hin (hh i q u hin hq).1
    obtain ⟨b1, b2⟩ := head_ac hE ht (hh t p r ht hw).1
    refine ⟨hit, ht, ⟨r, hw⟩, ?_, ?_⟩
    · cases ho : p.ho
      · have := b2 ho
        unfold bef at h1
        rw [if_pos (by omega)] at h1
        simp at h1; omega
      · rfl
    · unfold bef at h1
      by_cases e : p.ac = q.ac
      · omega
      · rw [if_pos e] at h1
        simp at h1; omega
/-- A fresh chosen job is not blocked. -/
theorem chosen_free {t : Nat} {p : Pd} (hp : fresh t p)
    (hb : ∀ i, i < E.n → i ≠ t → ∀ q u, s.wt i = q :: u → bef t p i q = true) (k : Nat) (q : Pd) : ¬ isB E s t k q := by
  rintro ⟨h1, h2, ⟨u, h3⟩, h4, h5⟩
  have := hb k h2 (by omega) q u h3
  obtain ⟨f1, f2, f3⟩ := hp
  unfold bef at this
  rw [f2, f3, h4] at this
  by_cases e : (t : Int) = q.ac
  · rw [if_neg (by simpa using e)] at this
    simp at this
  · rw [if_pos e] at this
    simp at this; omega

/-- The blockers behind a step of the chosen one were blockers before, or the head of the task itself. -/
theorem binv_exec (hE : EnvOK E) (hB : BlkEnv E L rem) (h : Mid E now s) (b : BInv E L rem s) {t : Nat} {p : Pd} {r : List Pd} (ht : t < E.n) (hw : s.wt t = p :: r)
    (hb : ∀ i, i < E.n → i ≠ t → ∀ q u, s.wt i = q :: u → bef t p i q = true) : BInv E L rem (exec E now t s) := by
  obtain ⟨hhd, hr⟩ := h.head t p r ht hw
  obtain ⟨p0, p1, p2, p3⟩ := hhd
  have hpm : p ∈ s.wt t := by rw [hw]; exact List.mem_cons_self ..
  have hlo : ∀ i, bump s.lo t i = s.lo i + if i < t then 1 else 0 := fun i => by unfold bump; split <;> simp
  -- what the step leaves of blockers, for a new row of t whose head blocks only if it holds
  have key : ∀ (row : List Pd) (en' : List Jb), (∀ q u, row = q :: u → q.ho = true → 0 < q.dn ∧ q = stepPd E now t p) →
      (∀ q, q ∈ row → q ∈ s.wt t ∨ q = stepPd E now t p) → (∀ j ∈ en', j ∈ s.en ∨ j = jobOf now t s p) →
      (∀ q u, row = q :: u → 0 < q.dn → q = stepPd E now t p) →
      BInv E L rem ⟨upd s.wt t row, s.nx, bump s.lo t, en'⟩ := by
    intro row en' hrow hmem hjobs hhead
    have old : ∀ i k q, isB E ⟨upd s.wt t row, s.nx, bump s.lo t, en'⟩ i k q → k ≠ t → isB E s i k q := by
      rintro i k q ⟨h1, h2, ⟨u, h3⟩, h4, h5⟩ hne
      refine ⟨h1, h2, ⟨u, ?_⟩, h4, h5⟩
      simpa [upd, hne] using h3
    have own : ∀ i q, isB E ⟨upd s.wt t row, s.nx, bump s.lo t, en'⟩ i t q → i < t ∧ q = stepPd E now t p ∧ (E.act t (p.dn + 1)).2 = true ∧ (E.act t (p.dn + 1)).1 ≤ i := by
      rintro i q ⟨h1, h2, ⟨u, h3⟩, h4, h5⟩
      have h3' : row = q :: u := by simpa [upd] using h3
      obtain ⟨_, rfl⟩ := hrow q u h3' h4
      exact ⟨h1, rfl, h4, h5⟩
    -- a level above t at which another task blocks: t was a blocker too, or is none now
    have none2 : ∀ i k q q', isB E s i k q → k ≠ t → ¬ isB E ⟨upd s.wt t row, s.nx, bump s.lo t, en'⟩ i t q' := by
      intro i k q q' hk hne hq'
      obtain ⟨g1, g2, g3, g4⟩ := own i q' hq'
      obtain ⟨k1, k2, ⟨u, k3⟩, k4, k5⟩ := hk
      have hbb := hb k k2 hne q u k3
      obtain ⟨b1, b2⟩ := head_ac hE ht ⟨p0, p1, p2, p3⟩
      have hpb : isB E s i t p := by
        refine ⟨g1, ht, ⟨r, hw⟩, ?_, ?_⟩
        · cases ho : p.ho
          · have := b2 ho
            unfold bef at hbb
            rw [if_pos (by omega)] at hbb
            simp at hbb; omega
          · rfl
        · unfold bef at hbb
          by_cases e : p.ac = q.ac
          · omega
          · rw [if_pos e] at hbb
            simp at hbb; omega
      exact hne (b.uniq i k q t p ⟨k1, k2, ⟨u, k3⟩, k4, k5⟩ hpb)
    refine ⟨?_, ?_, ?_, ?_⟩
    · intro i k1 q1 k2 q2 h1 h2
      by_cases e1 : k1 = t
      · by_cases e2 : k2 = t
        · rw [e1, e2]
        · subst e1
          exact absurd h1 (none2 i k2 q2 q1 (old i k2 q2 h2 e2) e2)
      · by_cases e2 : k2 = t
        · subst e2
          exact absurd h2 (none2 i k1 q1 q2 (old i k1 q1 h1 e1) e1)
        · exact b.uniq i k1 q1 k2 q2 (old i k1 q1 h1 e1) (old i k2 q2 h2 e2)
    · intro i x hi hx
      replace hx : x ∈ upd s.wt t row i := hx
      show bump s.lo t i - x.lo ≤ L i ∧ ∀ (k : Nat) (q : Pd), _ → bump s.lo t i - x.lo + rem k q.dn ≤ L i
      have hx2 : ∃ y ∈ s.wt i, y.lo = x.lo := by
        unfold upd at hx
        split at hx
        · rename_i e; subst e
          rcases hmem x hx with h1 | h1
          · exact ⟨x, h1, rfl⟩
          · subst h1; exact ⟨p, hpm, rfl⟩
        · exact ⟨x, hx, rfl⟩
      obtain ⟨y, hy, ey⟩ := hx2
      obtain ⟨c1, c2⟩ := b.lowB i y hi hy
      rw [ey] at c1 c2
      rw [hlo]
      by_cases hit : i < t
      · rw [if_pos hit]
        have hib := chosen_blocks hE h.head ht hw hb hit (by intro e; rw [e] at hy; cases hy)
        have d1 := c2 t p hib
        obtain ⟨a1, a2⟩ := isB_act h.head hib
        have d2 := hB.pos t p.dn ht a1
        refine ⟨by omega, fun k q hk => ?_⟩
        by_cases e : k = t
        · subst e
          obtain ⟨g1, rfl, g3, g4⟩ := own i q hk
          have := hB.dec k p.dn ht a1 g3
          show s.lo i + 1 - x.lo + rem k (p.dn + 1) ≤ L i
          omega
        · exact absurd (b.uniq i k q t p (old i k q hk e) hib) e
      · rw [if_neg hit]
        refine ⟨by omega, fun k q hk => ?_⟩
        by_cases e : k = t
        · subst e; exact absurd hk.1 hit
        · have := c2 k q (old i k q hk e)
          omega
    · intro i x u hi hx hd
      replace hx : upd s.wt t row i = x :: u := hx
      show (∀ k q, ¬ isB _ _ i k q) ∧ bump s.lo t i - x.lo ≤ x.st - x.rel
      rw [hlo]
      by_cases e : i = t
      · subst e
        have hx : row = x :: u := by simpa [upd] using hx
        have := hhead x u hx hd
        subst this
        rw [if_neg (by omega)]
        have hnb : ∀ k q, ¬ isB E s i k q := by
          by_cases e0 : p.dn = 0
          · exact chosen_free ⟨e0, (p2 e0).1, (p2 e0).2⟩ hb
          · exact (b.start i p r hi hw (by omega)).1
        refine ⟨fun k q hk => ?_, ?_⟩
        · have hne : k ≠ i := fun e => by have := hk.1; omega
          exact hnb k q (old i k q hk hne)
        · show s.lo i + 0 - p.lo ≤ (if p.dn = 0 then now else p.st) - p.rel
          obtain ⟨t1, t2, t3⟩ := h.time i p hi hpm
          split
          · omega
          · have := (b.start i p r hi hw (by omega)).2; omega
      · have hx : s.wt i = x :: u := by simpa [upd, e] using hx
        obtain ⟨c1, c2⟩ := b.start i x u hi hx hd
        have hit : ¬ i < t := fun hit => c1 t p (chosen_blocks hE h.head ht hw hb hit (by rw [hx]; simp))
        rw [if_neg hit]
        refine ⟨fun k q hk => ?_, by omega⟩
        by_cases e2 : k = t
        · subst e2; exact absurd hk.1 hit
        · exact c1 k q (old i k q hk e2)
    · intro j hj
      rcases hjobs j hj with hj | hj
      · exact b.jobs j hj
      · subst hj
        show s.lo t - p.lo ≤ L t ∧ s.lo t - p.lo ≤ (if p.dn = 0 then now else p.st) - p.rel
        refine ⟨(b.lowB t p ht hpm).1, ?_⟩
        obtain ⟨t1, t2, t3⟩ := h.time t p ht hpm
        split
        · omega
        · exact (b.start t p r ht hw (by omega)).2
  unfold exec
  rw [hw]
  simp only
  split
  · refine key _ _ ?_ ?_ ?_ ?_
    · intro q u e ho
      simp only [List.cons.injEq] at e
      obtain ⟨rfl, _⟩ := e
      exact ⟨by show 0 < p.dn + 1; omega, rfl⟩
    · intro q hq
      rcases List.mem_cons.1 hq with rfl | hq
      · exact .inr rfl
      · exact .inl (by rw [hw]; exact List.mem_cons_of_mem _ hq)
    · exact fun j hj => .inl hj
    · intro q u e _
      simp only [List.cons.injEq] at e
      exact e.1.symm
  · refine key _ _ ?_ ?_ ?_ ?_
    · intro q u e ho
      obtain ⟨f1, f2, f3⟩ := hr q (by rw [e]; exact List.mem_cons_self ..)
      rw [f3] at ho; cases ho
    · exact fun q hq => .inl (by rw [hw]; exact List.mem_cons_of_mem _ hq)
    · intro j hj
      rcases List.mem_append.1 hj with hj | hj
      · exact .inl hj
      · exact .inr (by simpa using hj)
    · intro q u e hd
      obtain ⟨f1, f2, f3⟩ := hr q (by rw [e]; exact List.mem_cons_self ..)
      omega
theorem binv_step (hE : EnvOK E) (hB : BlkEnv E L rem) (h : Inv E now s) (hf : futOK E now s) (b : BInv E L rem s) : BInv E L rem (step E now s) := by
  have hm := mid_rel hE h hf
  have hb := binv_rel (now := now) hE hB h b
  unfold step
  split
  · exact hb
  · rename_i t ht
    obtain ⟨h1, h2⟩ := chooseK_lt ht
    obtain ⟨p, r, h3, h4⟩ := chooseK_best ht
    exact binv_exec hE hB hm hb h1 h3 h4
end
theorem binv_run {E : Env} {L : Nat → Int} {rem : Nat → Int → Int} (hE : EnvOK E) (hB : BlkEnv E L rem) : ∀ k : Nat, BInv E L rem (run E k)
  | 0 => binv0
  | k + 1 => binv_step hE hB (inv_run hE k).1 (inv_run hE k).2 (binv_run hE hB k)
end Go.Proofs.Ytkedcnemldjbeaa
