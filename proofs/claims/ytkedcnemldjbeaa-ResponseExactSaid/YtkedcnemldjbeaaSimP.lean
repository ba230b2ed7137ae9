/- The simulation of the priority ceiling protocol as data, and its first laws. Conditions: each theorem's own. -/
namespace Go.Proofs.Ytkedcnemldjbeaa

/-- A pending job: release, start, units done, the count of lower units at its release, active priority, holding. -/
structure Pd where
  rel : Int
  st : Int
  dn : Int
  lo : Int
  ac : Int
  ho : Bool
/-- A finished job. -/
structure Jb where
  tk : Nat
  rel : Int
  st : Int
  en : Int
  bl : Int
  deriving DecidableEq
structure Sim where
  wt : Nat → List Pd
  nx : Nat → Nat
  lo : Nat → Int
  en : List Jb
structure Env where
  n : Nat
  cost : Nat → Int
  act : Nat → Int → Int × Bool
  rel : Nat → List Int

def due (E : Env) (s : Sim) (now : Int) (i : Nat) : Bool := (E.rel i)[s.nx i]? == some now
def newPd (s : Sim) (now : Int) (i : Nat) : Pd := ⟨now, 0, 0, s.lo i, i, false⟩
/-- The releases of the tasks below k. -/
def relK (E : Env) (now : Int) (s : Sim) (k : Nat) : Sim :=
  ⟨fun i => if i < k ∧ due E s now i = true then s.wt i ++ [newPd s now i] else s.wt i, fun i => if i < k ∧ due E s now i = true then s.nx i + 1 else s.nx i, s.lo, s.en⟩
def bef (i : Nat) (p : Pd) (j : Nat) (q : Pd) : Bool :=
  if p.ac ≠ q.ac then decide (p.ac < q.ac) else if p.ho ≠ q.ho then p.ho else if i ≠ j then decide (i < j) else decide (p.rel < q.rel)
/-- The task chosen among those below k. -/
def chooseK (wt : Nat → List Pd) : Nat → Option Nat
  | 0 => none
  | k + 1 => match wt k with
    | [] => chooseK wt k
    | p :: _ => match chooseK wt k with
      | none => some k
      | some j => match wt j with
        | [] => some k
        | q :: _ => if bef k p j q then some k else some j
def upd {α : Type} (f : Nat → α) (i : Nat) (x : α) : Nat → α := fun j => if j = i then x else f j
def bump (f : Nat → Int) (t : Nat) : Nat → Int := fun i => if i < t then f i + 1 else f i
def stepPd (E : Env) (now : Int) (t : Nat) (p : Pd) : Pd := ⟨p.rel, if p.dn = 0 then now else p.st, p.dn + 1, p.lo, (E.act t (p.dn + 1)).1, (E.act t (p.dn + 1)).2⟩
def jobOf (now : Int) (t : Nat) (s : Sim) (p : Pd) : Jb := ⟨t, p.rel, if p.dn = 0 then now else p.st, now + 1, s.lo t - p.lo⟩
def exec (E : Env) (now : Int) (t : Nat) (s : Sim) : Sim :=
  match s.wt t with
  | [] => s
  | p :: r => if p.dn + 1 < E.cost t then ⟨upd s.wt t (stepPd E now t p :: r), s.nx, bump s.lo t, s.en⟩
    else ⟨upd s.wt t r, s.nx, bump s.lo t, s.en ++ [jobOf now t s p]⟩
def step (E : Env) (now : Int) (s : Sim) : Sim :=
  match chooseK (relK E now s E.n).wt E.n with
  | none => relK E now s E.n
  | some t => exec E now t (relK E now s E.n)
def sim0 : Sim := ⟨fun _ => [], fun _ => 0, fun _ => 0, []⟩
def run (E : Env) : Nat → Sim
  | 0 => sim0
  | k + 1 => step E k (run E k)

/-! ### The choice -/
theorem bef_irrefl (i : Nat) (p : Pd) : bef i p i p = false := by simp [bef]
theorem bef_asymm {i j : Nat} {p q : Pd} (h : bef i p j q = true) : bef j q i p = false := by
  unfold bef at *
  by_cases h1 : p.ac = q.ac
  · rw [if_neg (by simpa using h1)] at h
    rw [if_neg (by simpa using h1.symm)]
    by_cases h2 : p.ho = q.ho
    · rw [if_neg (by simpa using h2)] at h
      rw [if_neg (by simpa using h2.symm)]
      by_cases h3 : i = j
      · rw [if_neg (by simpa using h3)] at h
        rw [if_neg (by simpa using h3.symm)]
        simp at h ⊢; omega
      · rw [if_pos h3] at h
        rw [if_pos (Ne.symm h3)]
        simp at h ⊢; omega
    · rw [if_pos h2] at h
      rw [if_pos (Ne.symm h2)]
      rw [h] at h2
      cases hq : q.ho
      · rfl
      · exact absurd hq.symm h2
  · rw [if_pos h1] at h
    rw [if_pos (Ne.symm h1)]
    simp at h ⊢; omega
theorem bef_total {i j : Nat} {p q : Pd} (hne : i ≠ j) (h : bef i p j q = false) : bef j q i p = true := by
  unfold bef at *
  by_cases h1 : p.ac = q.ac
  · rw [if_neg (by simpa using h1)] at h
    rw [if_neg (by simpa using h1.symm)]
    by_cases h2 : p.ho = q.ho
    · rw [if_neg (by simpa using h2)] at h
      rw [if_neg (by simpa using h2.symm)]
      rw [if_pos hne] at h
      rw [if_pos hne.symm]
      simp at h ⊢; omega
    · rw [if_pos h2] at h
      rw [if_pos (Ne.symm h2)]
      rw [h] at h2
      cases hq : q.ho
      · exact absurd hq.symm h2
      · rfl
  · rw [if_pos h1] at h
    rw [if_pos (Ne.symm h1)]
    simp at h ⊢; omega
theorem bef_trans {i j k : Nat} {p q r : Pd} (hjk : j ≠ k) (hij : i ≠ j) (hik : i ≠ k) (h : bef i p j q = true) (h' : bef j q k r = true) : bef i p k r = true := by
  unfold bef at *
  by_cases h1 : p.ac = q.ac
  · rw [if_neg (by simpa using h1)] at h
    by_cases h2 : q.ac = r.ac
    · rw [if_neg (by simpa using h2)] at h'
      rw [if_neg (by simpa using h1.trans h2)]
      by_cases h3 : p.ho = q.ho
      · rw [if_neg (by simpa using h3)] at h
        by_cases h4 : q.ho = r.ho
        · rw [if_neg (by simpa using h4)] at h'
          rw [if_neg (by simpa using h3.trans h4)]
          rw [if_pos hij] at h
          rw [if_pos hjk] at h'
          rw [if_pos hik]
          simp at h h' ⊢; omega
        · rw [if_pos h4] at h'
          rw [if_pos (by rw [h3]; exact h4), h3]; exact h'
      · rw [if_pos h3] at h
        by_cases h4 : q.ho = r.ho
        · rw [if_pos (by rw [← h4]; exact h3)]; exact h
        · rw [if_pos h4] at h'
          rw [h, h'] at h3
          exact absurd rfl h3
    · rw [if_pos h2] at h'
      rw [if_pos (by rw [h1]; exact h2), h1]; exact h'
  · rw [if_pos h1] at h
    simp at h
    by_cases h2 : q.ac = r.ac
    · rw [if_pos (by omega)]; simp; omega
    · rw [if_pos h2] at h'
      simp at h'
      rw [if_pos (by omega)]; simp; omega

theorem chooseK_lt {wt : Nat → List Pd} : ∀ {k t : Nat}, chooseK wt k = some t → t < k ∧ wt t ≠ []
  | 0, t, h => by simp [chooseK] at h
  | k + 1, t, h => by
    rw [chooseK] at h
    split at h
    · obtain ⟨h1, h2⟩ := chooseK_lt h; exact ⟨by omega, h2⟩
    · rename_i p r hw
      split at h
      · simp at h; subst h; exact ⟨by omega, by simp [hw]⟩
      · rename_i j hj
        split at h
        · simp at h; subst h; exact ⟨by omega, by simp [hw]⟩
        · split at h
          · simp at h; subst h; exact ⟨by omega, by simp [hw]⟩
          · simp at h; subst h
            obtain ⟨h1, h2⟩ := chooseK_lt hj; exact ⟨by omega, h2⟩
theorem chooseK_none {wt : Nat → List Pd} : ∀ {k : Nat}, chooseK wt k = none → ∀ i, i < k → wt i = []
  | 0, _, i, hi => by omega
  | k + 1, h, i, hi => by
    rw [chooseK] at h
    split at h
    · rename_i hw
      by_cases e : i = k
      · rw [e]; exact hw
      · exact chooseK_none h i (by omega)
    · split at h
      · simp at h
      · split at h
        · simp at h
        · split at h <;> simp at h
/-- The chosen one is before every other. -/
theorem chooseK_best {wt : Nat → List Pd} : ∀ {k t : Nat}, chooseK wt k = some t → ∃ p r, wt t = p :: r ∧ ∀ i, i < k → i ≠ t → ∀ q u, wt i = q :: u → bef t p i q = true
  | 0, t, h => by simp [chooseK] at h
  | k + 1, t, h => by
    rw [chooseK] at h
    split at h
    · rename_i hw
      obtain ⟨p, r, h1, h2⟩ := chooseK_best h
      refine ⟨p, r, h1, fun i hi hne q u hq => ?_⟩
      by_cases e : i = k
      · rw [e, hw] at hq; cases hq
      · exact h2 i (by omega) hne q u hq
    · rename_i p r hw
      split at h
      · rename_i hn
        simp at h; subst h
        refine ⟨p, r, hw, fun i hi hne q u hq => ?_⟩
        rw [chooseK_none hn i (by omega)] at hq; cases hq
      · rename_i j hj
        obtain ⟨hjk, hjw⟩ := chooseK_lt hj
        obtain ⟨p', r', h1, h2⟩ := chooseK_best hj
        rw [h1] at h
        simp only at h
        split at h
        · rename_i hb
          simp at h; subst h
          refine ⟨p, r, hw, fun i hi hne q u hq => ?_⟩
          by_cases e : i = j
          · subst e
            rw [h1] at hq; cases hq; exact hb
          · exact bef_trans (Ne.symm e) (by omega) (by omega) hb (h2 i (by omega) e q u hq)
        · rename_i hb
          simp at h; subst h
          refine ⟨p', r', h1, fun i hi hne q u hq => ?_⟩
          by_cases e : i = k
          · subst e
            rw [hw] at hq; cases hq
            exact bef_total (by omega) (by simpa using hb)
          · exact h2 i (by omega) hne q u hq
theorem chooseK_some {wt : Nat → List Pd} {k i : Nat} (hi : i < k) (h : wt i ≠ []) : ∃ t, chooseK wt k = some t := by
  cases hc : chooseK wt k with
  | none => exact absurd (chooseK_none hc i hi) h
  | some t => exact ⟨t, rfl⟩
/-- A job before every other is the chosen one. -/
theorem chooseK_uniq {wt : Nat → List Pd} {k t : Nat} {p : Pd} {r : List Pd} (ht : t < k) (hw : wt t = p :: r) (hb : ∀ i, i < k → i ≠ t → ∀ q u, wt i = q :: u → bef t p i q = true) : chooseK wt k = some t := by
  obtain ⟨t', h⟩ := chooseK_some (wt := wt) ht (by rw [hw]; simp)
  by_cases e : t' = t
  · rw [h, e]
  · obtain ⟨p', r', h1, h2⟩ := chooseK_best h
    have a := h2 t ht (Ne.symm e) p r hw
    have b := hb t' (chooseK_lt h).1 e p' r' h1
    rw [bef_asymm a] at b
    cases b
end Go.Proofs.Ytkedcnemldjbeaa
