/- Invariants of the simulation: order, time, work, blocking. Conditions: costs of at least 1, releases in order. -/
import Derived.Test.YtkedcnemldjbeaaSimP
namespace Go.Proofs.Ytkedcnemldjbeaa

def sumN (n : Nat) (f : Nat → Int) : Int := match n with
  | 0 => 0
  | k + 1 => sumN k f + f k
theorem sumN_congr {f g : Nat → Int} : ∀ {n : Nat}, (∀ i, i < n → f i = g i) → sumN n f = sumN n g
  | 0, _ => rfl
  | k + 1, h => by rw [sumN, sumN, sumN_congr (fun i hi => h i (by omega)), h k (by omega)]
theorem sumN_le {f g : Nat → Int} : ∀ {n : Nat}, (∀ i, i < n → f i ≤ g i) → sumN n f ≤ sumN n g
  | 0, _ => Int.le_refl _
  | k + 1, h => by
    have := sumN_le (f := f) (g := g) (n := k) (fun i hi => h i (by omega))
    have := h k (by omega)
    rw [sumN, sumN]; omega
theorem sumN_upd {f g : Nat → Int} {t : Nat} {d : Int} : ∀ {n : Nat}, t < n → (∀ i, i < n → i ≠ t → g i = f i) → g t = f t + d → sumN n g = sumN n f + d
  | 0, h, _, _ => by omega
  | k + 1, h, h1, h2 => by
    rw [sumN, sumN]
    by_cases e : t = k
    · subst e
      rw [sumN_congr (f := g) (g := f) (fun i hi => h1 i (by omega) (by omega)), h2]; omega
    · rw [sumN_upd (by omega) (fun i hi hne => h1 i (by omega) hne) h2, h1 k (by omega) (Ne.symm e)]; omega
theorem sumN_nonneg {f : Nat → Int} {n : Nat} (h : ∀ i, i < n → 0 ≤ f i) : 0 ≤ sumN n f := by
  have := sumN_le (f := fun _ => 0) (g := f) h
  have e : ∀ n, sumN n (fun _ => (0 : Int)) = 0 := fun n => by induction n with
    | zero => rfl
    | succ k ih => rw [sumN, ih]; rfl
  rw [e] at this; exact this
def sumL (f : Pd → Int) : List Pd → Int
  | [] => 0
  | p :: r => f p + sumL f r
theorem sumL_app (f : Pd → Int) : ∀ (a b : List Pd), sumL f (a ++ b) = sumL f a + sumL f b
  | [], b => by simp [sumL]
  | p :: r, b => by rw [List.cons_append, sumL, sumL, sumL_app f r b]; omega
theorem sumL_nonneg {f : Pd → Int} : ∀ {l : List Pd}, (∀ p ∈ l, 0 ≤ f p) → 0 ≤ sumL f l
  | [], _ => Int.le_refl _
  | p :: r, h => by
    have := sumL_nonneg (f := f) (l := r) (fun q hq => h q (List.mem_cons_of_mem _ hq))
    have := h p (List.mem_cons_self ..)
    rw [sumL]; omega

def cnt (i : Nat) (en : List Jb) : Nat := en.countP fun j => j.tk == i
def work (E : Env) : List Jb → Int
  | [] => 0
  | j :: r => E.cost j.tk + work E r
theorem work_app (E : Env) : ∀ (a b : List Jb), work E (a ++ b) = work E a + work E b
  | [], b => by simp [work]
  | j :: r, b => by rw [List.cons_append, work, work, work_app E r b]; omega
theorem cnt_snoc (i : Nat) (en : List Jb) (j : Jb) : cnt i (en ++ [j]) = cnt i en + if j.tk = i then 1 else 0 := by
  unfold cnt
  rw [List.countP_append, List.countP_singleton]
  simp

structure EnvOK (E : Env) : Prop where
  cost : ∀ i, i < E.n → 1 ≤ E.cost i
  act_le : ∀ (i : Nat) (d : Int), i < E.n → (E.act i d).1 ≤ i
  act_no : ∀ (i : Nat) (d : Int), i < E.n → (E.act i d).2 = false → (E.act i d).1 = i
  mono : ∀ (i k : Nat) (x y : Int), i < E.n → (E.rel i)[k]? = some x → (E.rel i)[k + 1]? = some y → x < y
  nonneg : ∀ (i k : Nat) (x : Int), i < E.n → (E.rel i)[k]? = some x → 0 ≤ x

theorem rel_lt {E : Env} (h : EnvOK E) {i k d : Nat} {x y : Int} (hi : i < E.n) (hx : (E.rel i)[k]? = some x) (hy : (E.rel i)[k + d + 1]? = some y) : x < y := by
  induction d generalizing y with
  | zero => exact h.mono i k x y hi hx hy
  | succ d ih =>
    have : k + d + 1 < (E.rel i).length := by
      have := (List.getElem?_eq_some_iff.1 hy).1
      omega
    have hz := List.getElem?_eq_getElem this
    have h1 := ih hz
    have h2 := h.mono i _ _ _ hi hz hy
    omega

def fresh (i : Nat) (p : Pd) : Prop := p.dn = 0 ∧ p.ac = i ∧ p.ho = false
def hdOK (E : Env) (i : Nat) (p : Pd) : Prop := 0 ≤ p.dn ∧ p.dn < E.cost i ∧ (p.dn = 0 → p.ac = i ∧ p.ho = false) ∧ (0 < p.dn → p.ac = (E.act i p.dn).1 ∧ p.ho = (E.act i p.dn).2)
def jobOK (E : Env) (now : Int) (en : List Jb) (k : Nat) (j : Jb) : Prop :=
  j.tk < E.n ∧ (E.rel j.tk)[cnt j.tk (en.take k)]? = some j.rel ∧ j.rel ≤ j.st ∧ j.st + E.cost j.tk ≤ j.en ∧ j.rel + E.cost j.tk + j.bl ≤ j.en ∧ 0 ≤ j.bl ∧ 1 ≤ j.en ∧ j.en ≤ now ∧
  (∀ k' j', k' < k → en[k']? = some j' → j'.en < j.en) ∧ work E (en.take (k + 1)) ≤ j.en

structure Inv (E : Env) (now : Int) (s : Sim) : Prop where
  idx : ∀ i, i < E.n → cnt i s.en + (s.wt i).length = s.nx i ∧ s.nx i ≤ (E.rel i).length
  rels : ∀ i j p, i < E.n → (s.wt i)[j]? = some p → (E.rel i)[cnt i s.en + j]? = some p.rel
  past : ∀ i k x, i < E.n → k < s.nx i → (E.rel i)[k]? = some x → x < now
  head : ∀ i p r, i < E.n → s.wt i = p :: r → hdOK E i p ∧ ∀ q ∈ r, fresh i q
  jobs : ∀ k j, s.en[k]? = some j → jobOK E now s.en k j
  time : ∀ i p, i < E.n → p ∈ s.wt i → p.dn + (s.lo i - p.lo) ≤ now - p.rel ∧ 0 ≤ s.lo i - p.lo ∧ (0 < p.dn → p.rel ≤ p.st ∧ p.dn ≤ now - p.st)
  work : work E s.en + sumN E.n (fun i => sumL Pd.dn (s.wt i)) ≤ now
def futOK (E : Env) (now : Int) (s : Sim) : Prop := ∀ i k x, i < E.n → s.nx i ≤ k → (E.rel i)[k]? = some x → now ≤ x

theorem head_ac {E : Env} (hE : EnvOK E) {i : Nat} {p : Pd} (hi : i < E.n) (h : hdOK E i p) : p.ac ≤ i ∧ (p.ho = false → p.ac = i) := by
  obtain ⟨h0, h1, h2, h3⟩ := h
  by_cases e : p.dn = 0
  · obtain ⟨a, b⟩ := h2 e
    exact ⟨by omega, fun _ => a⟩
  · obtain ⟨a, b⟩ := h3 (by omega)
    rw [a, b]
    exact ⟨hE.act_le i _ hi, hE.act_no i _ hi⟩

theorem inv0 (E : Env) : Inv E 0 sim0 where
  idx := fun i _ => ⟨by simp [cnt, sim0], by simp [sim0]⟩
  rels := fun i j p _ h => by simp [sim0] at h
  past := fun i k x _ h => by simp [sim0] at h
  head := fun i p r _ h => by simp [sim0] at h
  jobs := fun k j h => by simp [sim0] at h
  time := fun i p _ h => by simp [sim0] at h
  work := by
    have e : ∀ n, sumN n (fun i => sumL Pd.dn (sim0.wt i)) = 0 := fun n => by induction n with
      | zero => rfl
      | succ k ih => rw [sumN, ih]; rfl
    rw [e]; simp [sim0, Go.Proofs.Ytkedcnemldjbeaa.work]
theorem fut0 {E : Env} (h : EnvOK E) : futOK E 0 sim0 := fun i k x hi _ hx => h.nonneg i k x hi hx

/-- Behind the releases: the same at now, where what is released may be released now. -/
structure Mid (E : Env) (now : Int) (s : Sim) : Prop where
  idx : ∀ i, i < E.n → cnt i s.en + (s.wt i).length = s.nx i ∧ s.nx i ≤ (E.rel i).length
  rels : ∀ i j p, i < E.n → (s.wt i)[j]? = some p → (E.rel i)[cnt i s.en + j]? = some p.rel
  past : ∀ i k x, i < E.n → k < s.nx i → (E.rel i)[k]? = some x → x < now + 1
  head : ∀ i p r, i < E.n → s.wt i = p :: r → hdOK E i p ∧ ∀ q ∈ r, fresh i q
  jobs : ∀ k j, s.en[k]? = some j → jobOK E now s.en k j
  time : ∀ i p, i < E.n → p ∈ s.wt i → p.dn + (s.lo i - p.lo) ≤ now - p.rel ∧ 0 ≤ s.lo i - p.lo ∧ (0 < p.dn → p.rel ≤ p.st ∧ p.dn ≤ now - p.st)
  work : work E s.en + sumN E.n (fun i => sumL Pd.dn (s.wt i)) ≤ now
  fut : futOK E (now + 1) s

theorem relK_wt {E : Env} {now : Int} {s : Sim} {i : Nat} (hi : i < E.n) : (relK E now s E.n).wt i = s.wt i ++ if due E s now i = true then [newPd s now i] else [] := by
  simp only [relK, hi, true_and]
  split <;> simp
theorem relK_nx {E : Env} {now : Int} {s : Sim} {i : Nat} (hi : i < E.n) : (relK E now s E.n).nx i = s.nx i + if due E s now i = true then 1 else 0 := by
  simp only [relK, hi, true_and]
  split <;> rfl
theorem due_iff {E : Env} {now : Int} {s : Sim} {i : Nat} : due E s now i = true ↔ (E.rel i)[s.nx i]? = some now := by simp [due]

theorem mid_rel {E : Env} (hE : EnvOK E) {now : Int} {s : Sim} (h : Inv E now s) (hf : futOK E now s) : Mid E now (relK E now s E.n) where
  idx := fun i hi => by
    obtain ⟨h1, h2⟩ := h.idx i hi
    rw [relK_wt hi, relK_nx hi]
    show cnt i s.en + _ = _ ∧ _
    by_cases hd : due E s now i = true
    · have := (List.getElem?_eq_some_iff.1 (due_iff.1 hd)).1
      simp only [hd, if_true, List.length_append, List.length_singleton]
      exact ⟨by omega, by omega⟩
    · simp only [hd]
      simp; omega
  rels := fun i j p hi hp => by
    rw [relK_wt hi] at hp
    show (E.rel i)[cnt i s.en + j]? = _
    by_cases hj : j < (s.wt i).length
    · rw [List.getElem?_append_left hj] at hp
      exact h.rels i j p hi hp
    · rw [List.getElem?_append_right (by omega)] at hp
      by_cases hd : due E s now i = true
      · rw [if_pos hd] at hp
        have hj0 : j - (s.wt i).length = 0 := by
          have := (List.getElem?_eq_some_iff.1 hp).1
          simpa using this
        rw [hj0] at hp
        obtain rfl : newPd s now i = p := by simpa using hp
        obtain ⟨h1, h2⟩ := h.idx i hi
        rw [show cnt i s.en + j = s.nx i by omega, due_iff.1 hd]; rfl
      · rw [if_neg hd] at hp; simp at hp
  past := fun i k x hi hk hx => by
    rw [relK_nx hi] at hk
    by_cases hk2 : k < s.nx i
    · have := h.past i k x hi hk2 hx; omega
    · by_cases hd : due E s now i = true
      · rw [if_pos hd] at hk
        obtain rfl : k = s.nx i := by omega
        rw [due_iff.1 hd] at hx
        simp at hx; omega
      · rw [if_neg hd] at hk; omega
  head := fun i p r hi hw => by
    rw [relK_wt hi] at hw
    cases hq : s.wt i with
    | nil =>
      rw [hq] at hw
      by_cases hd : due E s now i = true
      · rw [if_pos hd] at hw
        simp at hw
        obtain ⟨rfl, rfl⟩ := hw
        exact ⟨⟨Int.le_refl _, by have := hE.cost i hi; show (0 : Int) < E.cost i; omega, fun _ => ⟨rfl, rfl⟩, fun h => absurd h (by show ¬ (0 : Int) < 0; omega)⟩, fun q hq => by cases hq⟩
      · rw [if_neg hd] at hw; simp at hw
    | cons p' r' =>
      rw [hq] at hw
      obtain ⟨g1, g2⟩ := h.head i p' r' hi hq
      simp only [List.cons_append, List.cons.injEq] at hw
      obtain ⟨rfl, rfl⟩ := hw
      refine ⟨g1, fun q hq => ?_⟩
      rcases List.mem_append.1 hq with hq | hq
      · exact g2 q hq
      · split at hq
        · simp at hq; subst hq; exact ⟨rfl, rfl, rfl⟩
        · cases hq
  jobs := h.jobs
  time := fun i p hi hp => by
    rw [relK_wt hi] at hp
    rcases List.mem_append.1 hp with hp | hp
    · exact h.time i p hi hp
    · split at hp
      · simp at hp; subst hp
        refine ⟨?_, ?_, ?_⟩
        · show (0 : Int) + (s.lo i - s.lo i) ≤ now - now; omega
        · show 0 ≤ s.lo i - s.lo i; omega
        · intro hc; exact absurd hc (by show ¬ (0 : Int) < 0; omega)
      · cases hp
  work := by
    have e : sumN E.n (fun i => sumL Pd.dn ((relK E now s E.n).wt i)) = sumN E.n (fun i => sumL Pd.dn (s.wt i)) := sumN_congr fun i hi => by
      rw [relK_wt hi, sumL_app]
      split <;> simp [sumL, newPd]
    rw [e]; exact h.work
  fut := fun i k x hi hk hx => by
    rw [relK_nx hi] at hk
    by_cases hd : due E s now i = true
    · rw [if_pos hd] at hk
      have h1 := due_iff.1 hd
      obtain ⟨d, rfl⟩ : ∃ d, k = s.nx i + d + 1 := ⟨k - s.nx i - 1, by omega⟩
      have := rel_lt hE hi h1 hx
      omega
    · rw [if_neg hd] at hk
      have h1 := hf i k x hi (by omega) hx
      by_cases e : x = now
      · exfalso
        subst e
        by_cases e2 : k = s.nx i
        · subst e2; exact hd (due_iff.2 hx)
        · have hlt : s.nx i < (E.rel i).length := by
            have := (List.getElem?_eq_some_iff.1 hx).1
            omega
          have hz := List.getElem?_eq_getElem hlt
          obtain ⟨d, rfl⟩ : ∃ d, k = s.nx i + d + 1 := ⟨k - s.nx i - 1, by omega⟩
          have a := rel_lt hE hi hz hx
          have b := hf i _ _ hi (Nat.le_refl _) hz
          omega
      · omega

theorem work_take_le {E : Env} {en : List Jb} {x : Jb} {k : Nat} (hk : k < en.length) : work E ((en ++ [x]).take (k + 1)) = work E (en.take (k + 1)) := by
  rw [List.take_append_of_le_length (by omega)]

theorem inv_exec {E : Env} (hE : EnvOK E) {now : Int} {s : Sim} (h : Mid E now s) {t : Nat} (ht : t < E.n) (h0 : s.wt t ≠ []) : Inv E (now + 1) (exec E now t s) ∧ futOK E (now + 1) (exec E now t s) := by
  cases hw : s.wt t with
  | nil => exact absurd hw h0
  | cons p r =>
    obtain ⟨⟨p0, p1, p2, p3⟩, hr⟩ := h.head t p r ht hw
    have hpm : p ∈ s.wt t := by rw [hw]; exact List.mem_cons_self ..
    obtain ⟨q1, q2, q3⟩ := h.time t p ht hpm
    unfold exec
    rw [hw]
    simp only
    have hlo : ∀ i, bump s.lo t i = s.lo i + if i < t then 1 else 0 := fun i => by unfold bump; split <;> simp
    have hjb : ∀ en' k j, (∀ k' j', k' ≤ k → s.en[k']? = some j' → en'[k']? = some j') → jobOK E now s.en k j → s.en[k]? = some j → (∀ m, m ≤ s.en.length → en'.take m = s.en.take m) → jobOK E (now + 1) en' k j := by
      intro en' k j _ hj hk hm
      have hkl := (List.getElem?_eq_some_iff.1 hk).1
      obtain ⟨j1, j2, j3, j4, j5, j6, j7, j8, j9, j10⟩ := hj
      refine ⟨j1, by rw [hm k (by omega)]; exact j2, j3, j4, j5, j6, j7, by omega, fun k' j' hk' hj' => ?_, by rw [hm (k + 1) (by omega)]; exact j10⟩
      refine j9 k' j' hk' ?_
      have : (en'.take (k' + 1))[k']? = (s.en.take (k' + 1))[k']? := by rw [hm (k' + 1) (by omega)]
      rw [List.getElem?_take, List.getElem?_take, if_pos (by omega), if_pos (by omega)] at this
      rw [← this]; exact hj'
    split
    · rename_i hc
      refine ⟨⟨?_, ?_, ?_, ?_, ?_, ?_, ?_⟩, h.fut⟩
      · intro i hi
        obtain ⟨h1, h2⟩ := h.idx i hi
        refine ⟨?_, h2⟩
        show cnt i s.en + (upd s.wt t (stepPd E now t p :: r) i).length = s.nx i
        unfold upd
        split
        · rename_i e; subst e; rw [hw] at h1; simpa using h1
        · exact h1
      · intro i j q hi hq
        show (E.rel i)[cnt i s.en + j]? = _
        replace hq : (upd s.wt t (stepPd E now t p :: r) i)[j]? = some q := hq
        unfold upd at hq
        split at hq
        · rename_i e; subst e
          cases j with
          | zero =>
            obtain rfl : stepPd E now i p = q := by simpa using hq
            exact h.rels i 0 p hi (by rw [hw]; rfl)
          | succ j => exact h.rels i (j + 1) q hi (by rw [hw]; simpa using hq)
        · exact h.rels i j q hi hq
      · intro i k x hi hk hx
        exact h.past i k x hi hk hx
      · intro i q u hi hq
        replace hq : upd s.wt t (stepPd E now t p :: r) i = q :: u := hq
        unfold upd at hq
        split at hq
        · rename_i e; subst e
          simp only [List.cons.injEq] at hq
          obtain ⟨rfl, rfl⟩ := hq
          exact ⟨⟨by show 0 ≤ p.dn + 1; omega, hc, fun e => by have : p.dn + 1 = 0 := e; omega, fun _ => ⟨rfl, rfl⟩⟩, hr⟩
        · exact h.head i q u hi hq
      · intro k j hj
        exact hjb s.en k j (fun _ _ _ h => h) (h.jobs k j hj) hj (fun _ _ => rfl)
      · intro i q hi hq
        replace hq : q ∈ upd s.wt t (stepPd E now t p :: r) i := hq
        show q.dn + (bump s.lo t i - q.lo) ≤ now + 1 - q.rel ∧ 0 ≤ bump s.lo t i - q.lo ∧ _
        rw [hlo]
        unfold upd at hq
        split at hq
        · rename_i e; subst e
          rw [if_neg (by omega)]
          rcases List.mem_cons.1 hq with rfl | hq
          · refine ⟨by show p.dn + 1 + (s.lo i + 0 - p.lo) ≤ now + 1 - p.rel; omega, by show 0 ≤ s.lo i + 0 - p.lo; omega, fun _ => ?_⟩
            show p.rel ≤ (if p.dn = 0 then now else p.st) ∧ p.dn + 1 ≤ now + 1 - (if p.dn = 0 then now else p.st)
            split
            · omega
            · have := q3 (by omega); omega
          · obtain ⟨a, b, c⟩ := h.time i q hi (by rw [hw]; exact List.mem_cons_of_mem _ hq)
            exact ⟨by omega, by omega, fun hd => by have := c hd; omega⟩
        · obtain ⟨a, b, c⟩ := h.time i q hi hq
          refine ⟨?_, ?_, fun hd => by have := c hd; omega⟩
          · split <;> omega
          · split <;> omega
      · have e : sumN E.n (fun i => sumL Pd.dn (upd s.wt t (stepPd E now t p :: r) i)) = sumN E.n (fun i => sumL Pd.dn (s.wt i)) + 1 := sumN_upd ht (fun i _ hne => by simp [upd, hne]) (by simp only [upd, if_true, hw, sumL]; show p.dn + 1 + _ = _; omega)
        show work E s.en + sumN E.n (fun i => sumL Pd.dn (upd s.wt t (stepPd E now t p :: r) i)) ≤ now + 1
        rw [e]
        have := h.work
        omega
    · rename_i hc
      have hcd : p.dn + 1 = E.cost t := by omega
      have hcn : ∀ i, cnt i (s.en ++ [jobOf now t s p]) = cnt i s.en + if t = i then 1 else 0 := fun i => cnt_snoc i s.en _
      have e : sumN E.n (fun i => sumL Pd.dn (upd s.wt t r i)) = sumN E.n (fun i => sumL Pd.dn (s.wt i)) + (- p.dn) := sumN_upd ht (fun i _ hne => by simp [upd, hne]) (by simp only [upd, if_true, hw, sumL]; omega)
      have hwk := h.work
      have hpos : 0 ≤ sumN E.n (fun i => sumL Pd.dn (upd s.wt t r i)) := sumN_nonneg fun i hi => by
        refine sumL_nonneg fun q hq => ?_
        unfold upd at hq
        split at hq
        · rename_i e; subst e; have := (hr q hq).1; omega
        · cases hz : s.wt i with
          | nil => rw [hz] at hq; cases hq
          | cons q' u =>
            obtain ⟨g1, g2⟩ := h.head i q' u hi hz
            rw [hz] at hq
            rcases List.mem_cons.1 hq with rfl | hq
            · exact g1.1
            · have := (g2 q hq).1; omega
      refine ⟨⟨?_, ?_, ?_, ?_, ?_, ?_, ?_⟩, h.fut⟩
      · intro i hi
        obtain ⟨h1, h2⟩ := h.idx i hi
        refine ⟨?_, h2⟩
        show cnt i (s.en ++ [jobOf now t s p]) + (upd s.wt t r i).length = s.nx i
        rw [hcn]
        unfold upd
        by_cases e : i = t
        · subst e
          rw [hw] at h1
          simp at h1 ⊢; omega
        · rw [if_neg (Ne.symm e), if_neg e]; exact h1
      · intro i j q hi hq
        show (E.rel i)[cnt i (s.en ++ [jobOf now t s p]) + j]? = _
        rw [hcn]
        replace hq : (upd s.wt t r i)[j]? = some q := hq
        unfold upd at hq
        by_cases e : i = t
        · subst e
          rw [if_pos rfl] at hq
          rw [if_pos rfl]
          have := h.rels i (j + 1) q hi (by rw [hw]; simpa using hq)
          rw [show cnt i s.en + 1 + j = cnt i s.en + (j + 1) by omega]; exact this
        · rw [if_neg e] at hq
          rw [if_neg (Ne.symm e)]
          exact h.rels i j q hi hq
      · intro i k x hi hk hx
        exact h.past i k x hi hk hx
      · intro i q u hi hq
        replace hq : upd s.wt t r i = q :: u := hq
        unfold upd at hq
        split at hq
        · rename_i e; subst e
          subst hq
          obtain ⟨f1, f2, f3⟩ := hr q (List.mem_cons_self ..)
          refine ⟨⟨by omega, by have := hE.cost i hi; omega, fun _ => ⟨f2, f3⟩, fun h => by omega⟩, fun x hx => hr x (List.mem_cons_of_mem _ hx)⟩
        · exact h.head i q u hi hq
      · intro k j hj
        replace hj : (s.en ++ [jobOf now t s p])[k]? = some j := hj
        by_cases hk : k < s.en.length
        · rw [List.getElem?_append_left hk] at hj
          refine hjb _ k j (fun k' j' hk' hj' => by rw [List.getElem?_append_left (by omega)]; exact hj') (h.jobs k j hj) hj (fun m hm => List.take_append_of_le_length hm)
        · rw [List.getElem?_append_right (by omega)] at hj
          have hk0 : k - s.en.length = 0 := by
            have := (List.getElem?_eq_some_iff.1 hj).1
            simpa using this
          rw [hk0] at hj
          obtain rfl : jobOf now t s p = j := by simpa using hj
          obtain rfl : k = s.en.length := by omega
          have hst : p.rel ≤ (if p.dn = 0 then now else p.st) ∧ (if p.dn = 0 then now else p.st) + E.cost t ≤ now + 1 := by
            split
            · omega
            · have := q3 (by omega); omega
          refine ⟨ht, ?_, hst.1, hst.2, ?_, q2, ?_, Int.le_refl _, ?_, ?_⟩
          · show (E.rel t)[cnt t ((s.en ++ [jobOf now t s p]).take s.en.length)]? = some p.rel
            rw [List.take_append_of_le_length (Nat.le_refl _), List.take_of_length_le (Nat.le_refl _)]
            exact h.rels t 0 p ht (by rw [hw]; rfl)
          · show p.rel + E.cost t + (s.lo t - p.lo) ≤ now + 1; omega
          · show 1 ≤ now + 1
            have hcnt : (E.rel t)[cnt t s.en]? = some p.rel := h.rels t 0 p ht (by rw [hw]; rfl)
            have := hE.nonneg t _ _ ht hcnt
            omega
          · intro k' j' hk' hj'
            rw [List.getElem?_append_left hk'] at hj'
            have := (h.jobs k' j' hj').2.2.2.2.2.2.2.1
            show j'.en < now + 1; omega
          · rw [List.take_of_length_le (by simp), work_app]
            show work E s.en + (E.cost t + 0) ≤ now + 1
            omega
      · intro i q hi hq
        replace hq : q ∈ upd s.wt t r i := hq
        show q.dn + (bump s.lo t i - q.lo) ≤ now + 1 - q.rel ∧ 0 ≤ bump s.lo t i - q.lo ∧ _
        rw [hlo]
        unfold upd at hq
        have hq' : q ∈ s.wt i := by
          split at hq
          · rename_i e; subst e; rw [hw]; exact List.mem_cons_of_mem _ hq
          · exact hq
        obtain ⟨a, b, c⟩ := h.time i q hi hq'
        refine ⟨?_, ?_, fun hd => by have := c hd; omega⟩
        · split <;> omega
        · split <;> omega
      · show work E (s.en ++ [jobOf now t s p]) + sumN E.n (fun i => sumL Pd.dn (upd s.wt t r i)) ≤ now + 1
        rw [work_app, e]
        show work E s.en + (E.cost t + 0) + _ ≤ _
        omega

theorem inv_idle {E : Env} {now : Int} {s : Sim} (h : Mid E now s) : Inv E (now + 1) s where
  idx := h.idx
  rels := h.rels
  past := h.past
  head := h.head
  jobs := fun k j hj => by
    obtain ⟨j1, j2, j3, j4, j5, j6, j7, j8, j9, j10⟩ := h.jobs k j hj
    exact ⟨j1, j2, j3, j4, j5, j6, j7, by omega, j9, j10⟩
  time := fun i p hi hp => by
    obtain ⟨a, b, c⟩ := h.time i p hi hp
    exact ⟨by omega, b, fun hd => by have := c hd; omega⟩
  work := by have := h.work; omega

theorem inv_step {E : Env} (hE : EnvOK E) {now : Int} {s : Sim} (h : Inv E now s) (hf : futOK E now s) : Inv E (now + 1) (step E now s) ∧ futOK E (now + 1) (step E now s) := by
  have hm := mid_rel hE h hf
  unfold step
  split
  · exact ⟨inv_idle hm, hm.fut⟩
  · rename_i t ht
    obtain ⟨h1, h2⟩ := chooseK_lt ht
    exact inv_exec hE hm h1 h2
theorem inv_run {E : Env} (hE : EnvOK E) : ∀ k : Nat, Inv E k (run E k) ∧ futOK E k (run E k)
  | 0 => ⟨inv0 E, fut0 hE⟩
  | k + 1 => by
    obtain ⟨h1, h2⟩ := inv_run hE k
    have := inv_step hE h1 h2
    rw [run]
    simpa using this
end Go.Proofs.Ytkedcnemldjbeaa
