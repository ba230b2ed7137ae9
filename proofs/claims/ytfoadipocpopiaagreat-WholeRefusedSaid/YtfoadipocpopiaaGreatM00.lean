/- Several texts in one: Sums, cuts, residual capacities, and flow that is pushed along shortest paths: plain Lean. Conditions: each theorem's own. The network of jobs and slots: plain Lean. Conditions: each theorem's own. Choosing the first m of a set by keys, and what changes when an element is taken out: plain Lean. Conditions: each theorem's own. Runs of a scheduler by static priorities over subtasks, and what changes when a subtask is taken out: plain Lean. Conditions: each theorem's own. The fluid schedule of subtasks: plain Lean. Conditions: each theorem's own. PD2 misses no deadline: plain Lean. Conditions: each theorem's own. Windows, group deadlines and priorities of subtasks: plain Lean. Conditions: each theorem's own. The priorities of PD2, as keys of subtasks: plain Lean. Conditions: each theorem's own. The simulation of slots: what a set that is released together comes to. Plain Lean. Conditions: each theorem's own. Digits to the base 2^32: plain Lean. Conditions: each theorem's own. Jobs that a fluid schedule serves have no narrow cut: plain Lean. Conditions: each theorem's own. A search for shortest paths, step by step: plain Lean. Conditions: each theorem's own. -/

namespace Go.Proofs.YtfoadipocpopiaaGreat
section
def sm (n : Nat) (f : Nat → Int) : Int := match n with
  | 0 => 0
  | n + 1 => sm n f + f n
theorem sm_congr {f g : Nat → Int} : ∀ {n : Nat}, (∀ i, i < n → f i = g i) → sm n f = sm n g
  | 0, _ => rfl
  | n + 1, h => by rw [sm, sm, sm_congr (fun i hi => h i (by omega)), h n (by omega)]
theorem sm_le {f g : Nat → Int} : ∀ {n : Nat}, (∀ i, i < n → f i ≤ g i) → sm n f ≤ sm n g
  | 0, _ => Int.le_refl _
  | n + 1, h => by
    have := sm_le (n := n) (fun i hi => h i (by omega))
    have := h n (by omega)
    rw [sm, sm]; omega
theorem sm_zero (n : Nat) : sm n (fun _ => 0) = 0 := by
  induction n with
  | zero => rfl
  | succ n ih => rw [sm, ih]; rfl
theorem sm_nonneg {f : Nat → Int} {n : Nat} (h : ∀ i, i < n → 0 ≤ f i) : 0 ≤ sm n f := by
  have := sm_le (f := fun _ => 0) h
  rw [sm_zero] at this; exact this
theorem sm_add (f g : Nat → Int) : ∀ n, sm n (fun i => f i + g i) = sm n f + sm n g
  | 0 => rfl
  | n + 1 => by rw [sm, sm, sm, sm_add f g n]; omega
theorem sm_sub (f g : Nat → Int) : ∀ n, sm n (fun i => f i - g i) = sm n f - sm n g
  | 0 => rfl
  | n + 1 => by rw [sm, sm, sm, sm_sub f g n]; omega
theorem sm_neg (f : Nat → Int) : ∀ n, sm n (fun i => - f i) = - sm n f
  | 0 => rfl
  | n + 1 => by rw [sm, sm, sm_neg f n]; omega
theorem sm_mul (c : Int) (f : Nat → Int) : ∀ n, sm n (fun i => c * f i) = c * sm n f
  | 0 => by simp [sm]
  | n + 1 => by rw [sm, sm, sm_mul c f n, Int.mul_add]
theorem sm_swap (f : Nat → Nat → Int) (m : Nat) : ∀ n, sm n (fun i => sm m (fun j => f i j)) = sm m (fun j => sm n (fun i => f i j))
  | 0 => by simp [sm, sm_zero]
  | n + 1 => by
    rw [sm, sm_swap f m n, ← sm_add]; rfl
theorem sm_upd {f g : Nat → Int} {t : Nat} : ∀ {n : Nat}, t < n → (∀ i, i < n → i ≠ t → g i = f i) → sm n g = sm n f + (g t - f t)
  | 0, h, _ => by omega
  | n + 1, ht, h => by
    rw [sm, sm]
    by_cases e : t = n
    · subst e
      rw [sm_congr (f := g) (g := f) (fun i hi => h i (by omega) (by omega))]; omega
    · rw [sm_upd (t := t) (by omega) (fun i hi hne => h i (by omega) hne), h n (by omega) (Ne.symm e)]; omega
theorem sm_one {f : Nat → Int} {t n : Nat} (ht : t < n) (h : ∀ i, i < n → i ≠ t → f i = 0) : sm n f = f t := by
  have := sm_upd (f := fun _ => 0) (g := f) ht h
  rw [sm_zero] at this; omega
theorem sm_term {f : Nat → Int} {n i : Nat} (h : ∀ j, j < n → 0 ≤ f j) (hi : i < n) : f i ≤ sm n f := by
  have h1 := sm_le (f := fun j => if j = i then f i else 0) (g := f) (n := n) (fun j hj => by
    show (if j = i then f i else 0) ≤ f j
    split
    · rename_i e; rw [e]; exact Int.le_refl _
    · exact h j hj)
  have h2 := sm_one (f := fun j => if j = i then f i else 0) hi (fun j _ hne => if_neg hne)
  have h3 : (if i = i then f i else 0) = f i := if_pos rfl
  rw [h2] at h1
  simpa using h1
theorem sm_const (c : Int) : ∀ n : Nat, sm n (fun _ => c) = c * n
  | 0 => by simp [sm]
  | n + 1 => by rw [sm, sm_const c n]; rw [Int.natCast_add, Int.mul_add]; simp
theorem sm_ext {f : Nat → Int} {m : Nat} : ∀ {n : Nat}, m ≤ n → (∀ i, m ≤ i → i < n → f i = 0) → sm n f = sm m f
  | 0, h, _ => by rw [show m = 0 by omega]
  | n + 1, h, hz => by
    by_cases e : m = n + 1
    · rw [e]
    · rw [sm, sm_ext (by omega) (fun i h1 h2 => hz i h1 (by omega)), hz n (by omega) (by omega)]; omega
theorem sm_split (f : Nat → Int) (m : Nat) : ∀ n, sm (m + n) f = sm m f + sm n (fun i => f (m + i))
  | 0 => by simp [sm]
  | n + 1 => by rw [← Nat.add_assoc, sm, sm_split f m n, sm]; omega
/-! ### Cuts, and residual capacities -/
def cutV (n : Nat) (c : Nat → Nat → Int) (S : Nat → Bool) : Int := sm n fun u => sm n fun v => if S u = true ∧ S v = false then c u v else 0

/-- r is what is left of the capacities c by a flow of the value val from s to t. -/
structure Res (n : Nat) (c : Nat → Nat → Int) (r : Nat → Nat → Int) (ex : Nat → Int) : Prop where
  nonneg : ∀ u v, u < n → v < n → 0 ≤ r u v
  pair : ∀ u v, u < n → v < n → r u v + r v u = c u v + c v u
  net : ∀ u, u < n → sm n (fun v => c u v - r u v) = ex u

section
variable {n : Nat} {c r : Nat → Nat → Int} {ex : Nat → Int} {S : Nat → Bool}

/-- What leaves S is the sum of the excesses in S. -/
theorem Res.leave (h : Res n c r ex) (S : Nat → Bool) : sm n (fun u => if S u = true then ex u else 0) = sm n (fun u => sm n fun v => if S u = true ∧ S v = false then c u v - r u v else 0) := by
  have e1 : sm n (fun u => if S u = true then ex u else 0) = sm n (fun u => sm n fun v => if S u = true then c u v - r u v else 0) := by
    refine sm_congr fun u hu => ?_
    by_cases hs : S u = true
    · rw [if_pos hs, ← h.net u hu]
      exact sm_congr fun v _ => (if_pos hs).symm
    · rw [if_neg hs]
      have e0 : sm n (fun v => if S u = true then c u v - r u v else 0) = sm n (fun _ => 0) := sm_congr fun v _ => if_neg hs
      rw [sm_zero] at e0
      exact e0.symm
  have e2 : sm n (fun u => sm n fun v => if S u = true then c u v - r u v else 0) =
      sm n (fun u => sm n fun v => if S u = true ∧ S v = false then c u v - r u v else 0) + sm n (fun u => sm n fun v => if S u = true ∧ S v = true then c u v - r u v else 0) := by
    rw [← sm_add]
    refine sm_congr fun u hu => ?_
    rw [← sm_add]
    refine sm_congr fun v hv => ?_
    cases S u <;> cases S v <;> simp
  have e3 : sm n (fun u => sm n fun v => if S u = true ∧ S v = true then c u v - r u v else 0) = - sm n (fun u => sm n fun v => if S u = true ∧ S v = true then c u v - r u v else 0) := by
    conv => lhs; rw [sm_swap]
    rw [← sm_neg]
    refine sm_congr fun v hv => ?_
    rw [← sm_neg]
    refine sm_congr fun u hu => ?_
    have := h.pair u v hu hv
    cases S u <;> cases S v <;> simp; omega
  rw [e1, e2]; omega
/-- The excess of a flow of the value val. -/
def exOf (s t : Nat) (val : Int) (u : Nat) : Int := (if u = s then val else 0) - (if u = t then val else 0)
theorem ex_sum {s t : Nat} {val : Int} (hs : s < n) (ht : t < n) (hS : S s = true) (hT : S t = false) : sm n (fun u => if S u = true then exOf s t val u else 0) = val := by
  have hst : s ≠ t := by intro e; rw [e, hT] at hS; cases hS
  rw [sm_one hs (fun i _ hne => by
    by_cases e : i = t
    · subst e; simp [hT]
    · simp [exOf, hne, e])]
  simp [hS, exOf, hst]
theorem Res.cut_le {s t : Nat} {val : Int} (h : Res n c r (exOf s t val)) (hs : s < n) (ht : t < n) (hS : S s = true) (hT : S t = false) : val ≤ cutV n c S := by
  have e := h.leave S
  rw [ex_sum hs ht hS hT] at e
  rw [e]
  refine sm_le fun u hu => sm_le fun v hv => ?_
  have := h.nonneg u v hu hv
  split <;> omega
theorem Res.cut_eq {s t : Nat} {val : Int} (h : Res n c r (exOf s t val)) (hs : s < n) (ht : t < n) (hS : S s = true) (hT : S t = false) (hc : ∀ u v, u < n → v < n → S u = true → S v = false → r u v = 0) : val = cutV n c S := by
  have e := h.leave S
  rw [ex_sum hs ht hS hT] at e
  rw [e]
  refine sm_congr fun u hu => sm_congr fun v hv => ?_
  split
  · rename_i hh; rw [hc u v hu hv hh.1 hh.2]; omega
  · rfl
/-- val is the least capacity of a cut between s and t. -/
def IsCut (n : Nat) (c : Nat → Nat → Int) (s t : Nat) (val : Int) : Prop := (∃ S : Nat → Bool, S s = true ∧ S t = false ∧ cutV n c S = val) ∧ ∀ S : Nat → Bool, S s = true → S t = false → val ≤ cutV n c S
theorem IsCut.uniq {s t : Nat} {a b : Int} (h : IsCut n c s t a) (h' : IsCut n c s t b) : a = b := by
  obtain ⟨⟨S, s1, s2, s3⟩, s4⟩ := h
  obtain ⟨⟨T, t1, t2, t3⟩, t4⟩ := h'
  have := s4 T t1 t2
  have := t4 S s1 s2
  omega
theorem cut_congr {c c' : Nat → Nat → Int} (h : ∀ u v, u < n → v < n → c u v = c' u v) (S : Nat → Bool) : cutV n c S = cutV n c' S :=
  sm_congr fun u hu => sm_congr fun v hv => by rw [h u v hu hv]
theorem cut_nonneg {c : Nat → Nat → Int} (h : ∀ u v, u < n → v < n → 0 ≤ c u v) (S : Nat → Bool) : 0 ≤ cutV n c S :=
  sm_nonneg fun u hu => sm_nonneg fun v hv => by
    have := h u v hu hv
    split <;> omega
/-- All edges reversed, source and sink exchanged. -/
theorem cut_rev (c : Nat → Nat → Int) (S : Nat → Bool) : cutV n (fun u v => c v u) S = cutV n c (fun u => !S u) := by
  unfold cutV
  rw [sm_swap]
  refine sm_congr fun u _ => sm_congr fun v _ => ?_
  show (if S v = true ∧ S u = false then c u v else 0) = if (!S u) = true ∧ (!S v) = false then c u v else 0
  generalize S u = x
  generalize S v = y
  cases x <;> cases y <;> simp
theorem IsCut.rev {s t : Nat} {val : Int} (h : IsCut n c s t val) : IsCut n (fun u v => c v u) t s val := by
  obtain ⟨⟨S, s1, s2, s3⟩, s4⟩ := h
  refine ⟨⟨fun u => !S u, by simp [s2], by simp [s1], ?_⟩, fun T t1 t2 => ?_⟩
  · rw [cut_rev]
    simpa using s3
  · rw [cut_rev]
    exact s4 _ (by simp [t2]) (by simp [t1])
theorem cut_mul (c : Nat → Nat → Int) (k : Int) (S : Nat → Bool) : cutV n (fun u v => c u v * k) S = cutV n c S * k := by
  unfold cutV
  rw [Int.mul_comm, ← sm_mul]
  refine sm_congr fun u _ => ?_
  rw [← sm_mul]
  refine sm_congr fun v _ => ?_
  split
  · exact Int.mul_comm _ _
  · simp
theorem IsCut.mul {s t : Nat} {val k : Int} (hk : 0 ≤ k) (h : IsCut n c s t val) : IsCut n (fun u v => c u v * k) s t (val * k) := by
  obtain ⟨⟨S, s1, s2, s3⟩, s4⟩ := h
  refine ⟨⟨S, s1, s2, by rw [cut_mul, s3]⟩, fun T t1 t2 => ?_⟩
  rw [cut_mul]
  exact Int.mul_le_mul_of_nonneg_right (s4 T t1 t2) hk
/-- One edge made greater by k. -/
theorem cut_more {c c' : Nat → Nat → Int} {a b : Nat} {k : Int} (ha : a < n) (hb : b < n) (hk : 0 ≤ k) (hab : c' a b = c a b + k) (he : ∀ u v, u < n → v < n → ¬ (u = a ∧ v = b) → c' u v = c u v) (S : Nat → Bool) :
    cutV n c S ≤ cutV n c' S ∧ cutV n c' S ≤ cutV n c S + k := by
  have h1 : cutV n c' S = cutV n c S + if S a = true ∧ S b = false then k else 0 := by
    have e1 := sm_upd (t := a) (f := fun u => sm n fun v => if S u = true ∧ S v = false then c u v else 0) (g := fun u => sm n fun v => if S u = true ∧ S v = false then c' u v else 0) ha (fun u hu hne => sm_congr fun v hv => by rw [he u v hu hv (fun e => hne e.1)])
    have e2 := sm_upd (t := b) (f := fun v => if S a = true ∧ S v = false then c a v else 0) (g := fun v => if S a = true ∧ S v = false then c' a v else 0) hb (fun v hv hne => by
      show (if _ then c' a v else 0) = if _ then c a v else 0
      rw [he a v ha hv (fun e => hne e.2)])
    show sm n (fun u => sm n fun v => if S u = true ∧ S v = false then c' u v else 0) = sm n (fun u => sm n fun v => if S u = true ∧ S v = false then c u v else 0) + _
    rw [e1]
    rw [e2, hab]
    split <;> omega
  rw [h1]
  split <;> omega
theorem IsCut.more {s t : Nat} {val val' k : Int} {c' : Nat → Nat → Int} {a b : Nat} (h : IsCut n c s t val) (h' : IsCut n c' s t val') (ha : a < n) (hb : b < n) (hk : 0 ≤ k) (hab : c' a b = c a b + k) (he : ∀ u v, u < n → v < n → ¬ (u = a ∧ v = b) → c' u v = c u v) : val ≤ val' ∧ val' ≤ val + k := by
  obtain ⟨⟨S, s1, s2, s3⟩, s4⟩ := h
  obtain ⟨⟨T, t1, t2, t3⟩, t4⟩ := h'
  have a1 := (cut_more ha hb hk hab he T).1
  have a2 := s4 T t1 t2
  have b1 := (cut_more ha hb hk hab he S).2
  have b2 := t4 S s1 s2
  omega
end

/-! ### Pushing flow along shortest paths -/
def push1 (r : Nat → Nat → Int) (u v : Nat) (x : Int) : Nat → Nat → Int := fun a b => r a b - (if a = u ∧ b = v then x else 0) + (if a = v ∧ b = u then x else 0)
structure St where
  r : Nat → Nat → Int
  nx : Nat → Nat
/-- Edges that were left behind bear no more. -/
structure Blk (n : Nat) (lv : Nat → Int) (t : Nat) (s : St) : Prop where
  nn : ∀ a b, a < n → b < n → 0 ≤ s.r a b
  le : ∀ w, w < n → s.nx w ≤ n
  dead : ∀ w, w < n → ∀ j, j < s.nx w → s.r w j = 0 ∨ lv j ≠ lv w + 1 ∨ (j ≠ t ∧ n ≤ s.nx j)
structure PR (n : Nat) (c : Nat → Nat → Int) (lv : Nat → Int) (t u : Nat) (x : Int) (s s' : St) : Prop where
  pos : 0 ≤ x
  res : ∀ ex, Res n c s.r ex → Res n c s'.r (fun w => ex w + (if w = u then x else 0) - (if w = t then x else 0))
  fr : ∀ a b, a < n → b < n → (lv a < lv u ∨ lv b < lv u) → s'.r a b = s.r a b
  fn : ∀ w, w < n → lv w < lv u → s'.nx w = s.nx w
  mono : ∀ w, s.nx w ≤ s'.nx w
  dec : ∀ a b, a < n → b < n → lv b = lv a + 1 → s'.r a b ≤ s.r a b
  blk : Blk n lv t s → Blk n lv t s'
  zero : x = 0 → ∀ a b, s'.r a b = s.r a b

section
variable {n : Nat} {c : Nat → Nat → Int} {lv : Nat → Int} {t u v : Nat} {x a b : Int} {s s1 s2 : St}

theorem PR.refl (n : Nat) (c : Nat → Nat → Int) (lv : Nat → Int) (t u : Nat) (s : St) : PR n c lv t u 0 s s where
  pos := Int.le_refl _
  res := fun ex h => by
    have e : (fun w => ex w + (if w = u then 0 else 0) - (if w = t then 0 else 0)) = ex := funext fun w => by simp
    rw [e]; exact h
  fr := fun _ _ _ _ _ => rfl
  fn := fun _ _ _ => rfl
  mono := fun _ => Nat.le_refl _
  dec := fun _ _ _ _ _ => Int.le_refl _
  blk := fun h => h
  zero := fun _ _ _ => rfl
/-- The sink takes what comes. -/
theorem PR.sink (n : Nat) (c : Nat → Nat → Int) (lv : Nat → Int) (t : Nat) {x : Int} (hx : 0 ≤ x) (s : St) : PR n c lv t t x s s where
  pos := hx
  res := fun ex h => by
    have e : (fun w => ex w + (if w = t then x else 0) - (if w = t then x else 0)) = ex := funext fun w => by omega
    rw [e]; exact h
  fr := fun _ _ _ _ _ => rfl
  fn := fun _ _ _ => rfl
  mono := fun _ => Nat.le_refl _
  dec := fun _ _ _ _ _ => Int.le_refl _
  blk := fun h => h
  zero := fun _ _ _ => rfl
theorem push1_same (r : Nat → Nat → Int) (u v : Nat) : push1 r u v 0 = r := by
  funext a b
  simp [push1]
theorem res_push1 {r : Nat → Nat → Int} {ex : Nat → Int} (h : Res n c r ex) (hu : u < n) (hv : v < n) (hne : u ≠ v) (h0 : 0 ≤ b) (hb : b ≤ r u v) : Res n c (push1 r u v b) (fun w => ex w + (if w = u then b else 0) - (if w = v then b else 0)) where
  nonneg := fun p q hp hq => by
    have := h.nonneg p q hp hq
    unfold push1
    by_cases e : p = u ∧ q = v
    · obtain ⟨rfl, rfl⟩ := e
      simp [hne]; omega
    · rw [if_neg e]
      split <;> omega
  pair := fun p q hp hq => by
    have := h.pair p q hp hq
    unfold push1
    by_cases e : p = u ∧ q = v
    · obtain ⟨rfl, rfl⟩ := e
      simp [hne, Ne.symm hne]; omega
    · by_cases e2 : p = v ∧ q = u
      · obtain ⟨rfl, rfl⟩ := e2
        simp [hne, Ne.symm hne]; omega
      · rw [if_neg e, if_neg e2, if_neg (fun h => e2 ⟨h.2, h.1⟩), if_neg (fun h => e ⟨h.2, h.1⟩)]; omega
  net := fun p hp => by
    have hn := h.net p hp
    by_cases e1 : p = u
    · subst e1
      have := sm_upd (t := v) (f := fun q => c p q - r p q) (g := fun q => c p q - push1 r p v b p q) hv (fun q hq hne2 => by simp [push1, hne2, hne])
      rw [this, hn]
      simp [push1, hne]; omega
    · by_cases e2 : p = v
      · subst e2
        have := sm_upd (t := u) (f := fun q => c p q - r p q) (g := fun q => c p q - push1 r u p b p q) hu (fun q hq hne2 => by simp [push1, hne2, e1])
        rw [this, hn]
        simp [push1, e1]; omega
      · rw [sm_congr (f := fun q => c p q - push1 r u v b p q) (g := fun q => c p q - r p q) (fun q _ => by simp [push1, e1, e2]), hn]
        simp [e1, e2]
theorem Blk.push1 (h : Blk n lv t s) (hv : v < n) (hl : lv v = lv u + 1) (h0 : 0 ≤ b) (hb : b ≤ s.r u v) : Blk n lv t ⟨push1 s.r u v b, s.nx⟩ := by
  have hne : u ≠ v := by intro e; rw [e] at hl; omega
  have nn : ∀ p q, p < n → q < n → 0 ≤ Go.Proofs.YtfoadipocpopiaaGreat.push1 s.r u v b p q := fun p q hp hq => by
    have := h.nn p q hp hq
    unfold Go.Proofs.YtfoadipocpopiaaGreat.push1
    by_cases e : p = u ∧ q = v
    · obtain ⟨rfl, rfl⟩ := e
      simp [hne]; omega
    · rw [if_neg e]
      split <;> omega
  refine ⟨nn, h.le, fun w hw j hj => ?_⟩
  rcases h.dead w hw j hj with e | e | e
  · by_cases hlj : lv j = lv w + 1
    · left
      have h1 := nn w j hw (Nat.lt_of_lt_of_le hj (h.le w hw))
      have h2 : Go.Proofs.YtfoadipocpopiaaGreat.push1 s.r u v b w j ≤ s.r w j := by
        unfold Go.Proofs.YtfoadipocpopiaaGreat.push1
        rw [if_neg (show ¬ (w = v ∧ j = u) from fun h => by rw [h.1, h.2] at hlj; omega)]
        split <;> omega
      show Go.Proofs.YtfoadipocpopiaaGreat.push1 s.r u v b w j = 0
      omega
    · exact .inr (.inl hlj)
  · exact .inr (.inl e)
  · exact .inr (.inr e)
/-- One more edge: what v took goes from u to v. -/
theorem PR.edge (h : PR n c lv t u a s s1) (hu : u < n) (hv : v < n) (hl : lv v = lv u + 1) (h' : PR n c lv t v b s1 s2) (hb : b ≤ s1.r u v) : PR n c lv t u (a + b) s ⟨push1 s2.r u v b, s2.nx⟩ := by
  have hne : u ≠ v := by intro e; rw [e] at hl; omega
  have h0 := h'.pos
  have huv : s2.r u v = s1.r u v := h'.fr u v hu hv (.inl (by omega))
  refine ⟨by have := h.pos; omega, fun ex hr => ?_, fun p q hp hq hlt => ?_, fun w hw hlt => ?_, fun w => Nat.le_trans (h.mono w) (h'.mono w), fun p q hp hq hlq => ?_, fun hb0 => ?_, fun hz p q => ?_⟩
  · have := res_push1 (h'.res _ (h.res ex hr)) hu hv hne h0 (by omega)
    have e : (fun w => ex w + (if w = u then a + b else 0) - (if w = t then a + b else 0)) = (fun w => ex w + (if w = u then a else 0) - (if w = t then a else 0) + (if w = v then b else 0) - (if w = t then b else 0) + (if w = u then b else 0) - (if w = v then b else 0)) := funext fun w => by
      split <;> split <;> omega
    rw [e]; exact this
  · show push1 s2.r u v b p q = s.r p q
    rw [← h.fr p q hp hq hlt, ← h'.fr p q hp hq (by omega)]
    unfold push1
    rw [if_neg (show ¬ (p = u ∧ q = v) from fun e => by rw [e.1, e.2] at hlt; omega), if_neg (show ¬ (p = v ∧ q = u) from fun e => by rw [e.1, e.2] at hlt; omega)]
    omega
  · exact (h'.fn w hw (by omega)).trans (h.fn w hw hlt)
  · have d1 := h.dec p q hp hq hlq
    have d2 := h'.dec p q hp hq hlq
    show push1 s2.r u v b p q ≤ s.r p q
    unfold push1
    rw [if_neg (show ¬ (p = v ∧ q = u) from fun e => by rw [e.1, e.2] at hlq; omega)]
    split <;> omega
  · exact (h'.blk (h.blk hb0)).push1 hv hl h0 (by omega)
  · have := h.pos
    have e1 : a = 0 := by omega
    have e2 : b = 0 := by omega
    show push1 s2.r u v b p q = s.r p q
    rw [e2, push1_same, h'.zero e2, h.zero e1]
def updN (f : Nat → Nat) (u k : Nat) : Nat → Nat := fun w => if w = u then k else f w
/-- An edge that bears no more is left behind. -/
theorem PR.skip (h : PR n c lv t u a s s1) (hu : s1.nx u < n) (hd : s1.r u (s1.nx u) = 0 ∨ lv (s1.nx u) ≠ lv u + 1 ∨ (s1.nx u ≠ t ∧ n ≤ s1.nx (s1.nx u))) : PR n c lv t u a s ⟨s1.r, updN s1.nx u (s1.nx u + 1)⟩ := by
  refine ⟨h.pos, h.res, h.fr, fun w hw hlt => ?_, fun w => ?_, h.dec, fun hb0 => ?_, h.zero⟩
  · show updN s1.nx u (s1.nx u + 1) w = s.nx w
    unfold updN
    rw [if_neg (fun e => by rw [e] at hlt; omega)]
    exact h.fn w hw hlt
  · show s.nx w ≤ updN s1.nx u (s1.nx u + 1) w
    have := h.mono w
    unfold updN
    split
    · rename_i e; subst e; omega
    · exact this
  · have hb := h.blk hb0
    have up : ∀ j, n ≤ s1.nx j → n ≤ updN s1.nx u (s1.nx u + 1) j := fun j hj => by
      unfold updN; split
      · rename_i e; subst e; omega
      · exact hj
    refine ⟨hb.nn, fun w hw => ?_, fun w hw j hj => ?_⟩
    · show updN s1.nx u (s1.nx u + 1) w ≤ n
      unfold updN
      split
      · omega
      · exact hb.le w hw
    · have hj : j < updN s1.nx u (s1.nx u + 1) w := hj
      have hold : j < s1.nx w ∨ (w = u ∧ j = s1.nx u) := by
        unfold updN at hj
        split at hj
        · rename_i e; subst e; omega
        · exact .inl hj
      rcases hold with hold | ⟨rfl, rfl⟩
      · rcases hb.dead w hw j hold with e | e | ⟨e, e2⟩
        · exact .inl e
        · exact .inr (.inl e)
        · exact .inr (.inr ⟨e, up j e2⟩)
      · rcases hd with e | e | ⟨e, e2⟩
        · exact .inl e
        · exact .inr (.inl e)
        · exact .inr (.inr ⟨e, up _ e2⟩)
/-- What a search for shortest paths from src has found. -/
structure Lev (n : Nat) (r : Nat → Nat → Int) (src : Nat) (lv : Nat → Int) : Prop where
  low : ∀ v, v < n → -1 ≤ lv v
  top : ∀ v, v < n → lv v < n
  src0 : lv src = 0
  par : ∀ v, v < n → 0 ≤ lv v → v = src ∨ ∃ u, u < n ∧ 0 ≤ lv u ∧ lv v = lv u + 1 ∧ 0 < r u v
  cls : ∀ u v, u < n → v < n → 0 ≤ lv u → 0 < r u v → 0 ≤ lv v
/-- If the sink is reached, something is sent. -/
theorem sent_pos {r0 : Nat → Nat → Int} {src : Nat} {lim : Int} (hL : Lev n r0 src lv) (hnn : ∀ a b, a < n → b < n → 0 ≤ r0 a b) (ht : t < n) (hr : 0 ≤ lv t) (h : PR n c lv t src x ⟨r0, fun _ => 0⟩ s1) (hlim : 0 < lim) (hfull : x < lim → src ≠ t ∧ n ≤ s1.nx src) : 0 < x := by
  have hpos := h.pos
  by_cases hx : x = 0
  · exfalso
    have hz := h.zero hx
    have hb := h.blk ⟨hnn, fun _ _ => Nat.zero_le _, fun _ _ j hj => absurd hj (Nat.not_lt_zero _)⟩
    obtain ⟨hst, hsn⟩ := hfull (by omega)
    have key : ∀ k v, v < n → 0 ≤ lv v → (lv v).toNat = k → (v = t ∨ ¬ n ≤ s1.nx v) → False := by
      intro k
      induction k with
      | zero =>
        intro v hv h0 hk hd
        rcases hL.par v hv h0 with rfl | ⟨u, hu, hu0, hl, _⟩
        · rcases hd with e | e
          · exact hst e
          · exact e hsn
        · omega
      | succ k ih =>
        intro v hv h0 hk hd
        rcases hL.par v hv h0 with rfl | ⟨u, hu, hu0, hl, hp⟩
        · rcases hd with e | e
          · exact hst e
          · exact e hsn
        · refine ih u hu hu0 (by omega) (.inr fun hdead => ?_)
          rcases hb.dead u hu v (by omega) with e | e | ⟨e1, e2⟩
          · have := hz u v
            simp only at this
            omega
          · exact e hl
          · rcases hd with e | e
            · exact e1 e
            · exact e e2
    exact key _ t ht hr rfl (.inl rfl)
  · omega
end
end

section
/-! ### The network of jobs and slots -/
structure FJ where
  r : Int
  d : Int
  c : Int
def fjAt (l : List FJ) (j : Nat) : FJ := l.getD j ⟨0, 0, 0⟩
def winB (l : List FJ) (j s : Nat) : Bool := decide ((fjAt l j).r ≤ s ∧ (s : Int) < (fjAt l j).d)
/-- The capacities of which J, W, Q tell whether they are laid. -/
def netC (l : List FJ) (S : Nat) (cores : Int) (J : Nat → Bool) (W : Nat → Nat → Bool) (Q : Nat → Bool) : Nat → Nat → Int := fun u v =>
  if u = 0 then (if 1 ≤ v ∧ v ≤ l.length ∧ J (v - 1) = true then (fjAt l (v - 1)).c else 0)
  else if u ≤ l.length then (if l.length < v ∧ v ≤ l.length + S ∧ W (u - 1) (v - 1 - l.length) = true then 1 else 0)
  else if u ≤ l.length + S then (if v = l.length + S + 1 ∧ Q (u - 1 - l.length) = true then cores else 0)
  else 0
def netF (l : List FJ) (S : Nat) (cores : Int) : Nat → Nat → Int := netC l S cores (fun _ => true) (winB l) (fun _ => true)
def netN (l : List FJ) (S : Nat) : Nat := 2 + l.length + S
section
variable {l : List FJ} {S : Nat} {cores : Int}
theorem net_0j {j : Nat} (hj : j < l.length) : netF l S cores 0 (1 + j) = (fjAt l j).c := by
  unfold netF netC
  rw [if_pos rfl, if_pos ⟨by omega, by omega, rfl⟩, show 1 + j - 1 = j by omega]
theorem net_0 {v : Nat} (h : v = 0 ∨ l.length < v) : netF l S cores 0 v = 0 := by
  unfold netF netC
  rw [if_pos rfl, if_neg (by omega)]
theorem net_js {j s : Nat} (hj : j < l.length) (hs : s < S) : netF l S cores (1 + j) (1 + l.length + s) = if winB l j s = true then 1 else 0 := by
  unfold netF netC
  rw [if_neg (by omega), if_pos (by omega), show 1 + j - 1 = j by omega, show 1 + l.length + s - 1 - l.length = s by omega]
  by_cases h : winB l j s = true
  · rw [if_pos h, if_pos ⟨by omega, by omega, h⟩]
  · rw [if_neg h, if_neg (fun x => h x.2.2)]
theorem net_j {j v : Nat} (hj : j < l.length) (h : v ≤ l.length ∨ l.length + S < v) : netF l S cores (1 + j) v = 0 := by
  unfold netF netC
  rw [if_neg (by omega), if_pos (by omega), if_neg (by omega)]
theorem net_st {s : Nat} (hs : s < S) : netF l S cores (1 + l.length + s) (1 + l.length + S) = cores := by
  unfold netF netC
  rw [if_neg (by omega), if_neg (by omega), if_pos (by omega), if_pos ⟨by omega, rfl⟩]
theorem net_s {s v : Nat} (hs : s < S) (h : v ≠ 1 + l.length + S) : netF l S cores (1 + l.length + s) v = 0 := by
  unfold netF netC
  rw [if_neg (by omega), if_neg (by omega), if_pos (by omega), if_neg (by omega)]
theorem net_t {v : Nat} : netF l S cores (1 + l.length + S) v = 0 := by
  unfold netF netC
  rw [if_neg (by omega), if_neg (by omega), if_neg (by omega)]
/-- A sum over all vertices, by kinds. -/
theorem sm_net (f : Nat → Int) : sm (netN l S) f = f 0 + sm l.length (fun j => f (1 + j)) + sm S (fun s => f (1 + l.length + s)) + f (1 + l.length + S) := by
  unfold netN
  rw [show 2 + l.length + S = (1 + l.length + S) + 1 by omega, sm, sm_split f (1 + l.length) S, sm_split f 1 l.length]
  simp [sm]
/-- The capacity of a cut between the first and the last vertex. -/
theorem cut_net (T : Nat → Bool) (h0 : T 0 = true) (ht : T (1 + l.length + S) = false) : cutV (netN l S) (netF l S cores) T =
    sm l.length (fun j => if T (1 + j) = true then 0 else (fjAt l j).c) + sm l.length (fun j => if T (1 + j) = true then sm S (fun s => if T (1 + l.length + s) = false ∧ winB l j s = true then 1 else 0) else 0) +
    sm S (fun s => if T (1 + l.length + s) = true then cores else 0) := by
  have e0 : ∀ u, (∀ v, v < netN l S → netF l S cores u v = 0 ∨ T u = false ∨ T v = true) → sm (netN l S) (fun v => if T u = true ∧ T v = false then netF l S cores u v else 0) = 0 := fun u h => by
    have e : sm (netN l S) (fun v => if T u = true ∧ T v = false then netF l S cores u v else 0) = sm (netN l S) (fun _ => 0) := sm_congr fun v hv => by
      rcases h v hv with h | h | h <;> simp [h]
    rw [e, sm_zero]
  have r0 : sm (netN l S) (fun v => if T 0 = true ∧ T v = false then netF l S cores 0 v else 0) = sm l.length (fun j => if T (1 + j) = true then 0 else (fjAt l j).c) := by
    rw [sm_net]
    have a1 : sm S (fun s => if T 0 = true ∧ T (1 + l.length + s) = false then netF l S cores 0 (1 + l.length + s) else 0) = sm S (fun _ => 0) := sm_congr fun s _ => by
      rw [net_0 (.inr (by omega))]; simp
    rw [a1, sm_zero, net_0 (.inl rfl), net_0 (.inr (by omega))]
    have a2 : sm l.length (fun j => if T 0 = true ∧ T (1 + j) = false then netF l S cores 0 (1 + j) else 0) = sm l.length (fun j => if T (1 + j) = true then 0 else (fjAt l j).c) := sm_congr fun j hj => by
      rw [net_0j hj]
      cases T (1 + j) <;> simp [h0]
    rw [a2]; simp
  have rj : ∀ j, j < l.length → sm (netN l S) (fun v => if T (1 + j) = true ∧ T v = false then netF l S cores (1 + j) v else 0) = if T (1 + j) = true then sm S (fun s => if T (1 + l.length + s) = false ∧ winB l j s = true then 1 else 0) else 0 := fun j hj => by
    rw [sm_net]
    have a1 : sm l.length (fun i => if T (1 + j) = true ∧ T (1 + i) = false then netF l S cores (1 + j) (1 + i) else 0) = sm l.length (fun _ => 0) := sm_congr fun i hi => by
      rw [net_j hj (.inl (by omega))]; simp
    rw [a1, sm_zero, net_j hj (.inl (by omega)), net_j hj (.inr (by omega))]
    by_cases h : T (1 + j) = true
    · rw [if_pos h]
      have a2 : sm S (fun s => if T (1 + j) = true ∧ T (1 + l.length + s) = false then netF l S cores (1 + j) (1 + l.length + s) else 0) = sm S (fun s => if T (1 + l.length + s) = false ∧ winB l j s = true then 1 else 0) := sm_congr fun s hs => by
        rw [net_js hj hs]
        cases T (1 + l.length + s) <;> cases winB l j s <;> simp [h]
      rw [a2]; simp
    · rw [if_neg h]
      have a2 : sm S (fun s => if T (1 + j) = true ∧ T (1 + l.length + s) = false then netF l S cores (1 + j) (1 + l.length + s) else 0) = sm S (fun _ => 0) := sm_congr fun s hs => by simp [h]
      rw [a2, sm_zero]; simp
  have rs : ∀ s, s < S → sm (netN l S) (fun v => if T (1 + l.length + s) = true ∧ T v = false then netF l S cores (1 + l.length + s) v else 0) = if T (1 + l.length + s) = true then cores else 0 := fun s hs => by
    have hlt : 1 + l.length + S < netN l S := by unfold netN; omega
    rw [sm_one hlt (fun v _ hne => by rw [net_s hs hne]; simp), net_st hs, ht]
    simp
  have rt : sm (netN l S) (fun v => if T (1 + l.length + S) = true ∧ T v = false then netF l S cores (1 + l.length + S) v else 0) = 0 := e0 _ fun v _ => .inl net_t
  unfold cutV
  rw [sm_net (f := fun u => sm (netN l S) fun v => if T u = true ∧ T v = false then netF l S cores u v else 0), r0, rt, sm_congr rj, sm_congr rs]
  omega
def totalC (l : List FJ) : Int := sm l.length fun j => (fjAt l j).c
/-- A schedule: who runs when. -/
structure Sched (l : List FJ) (S : Nat) (cores : Int) (σ : Nat → Nat → Bool) : Prop where
  win : ∀ j s, j < l.length → s < S → σ j s = true → winB l j s = true
  room : ∀ s, s < S → sm l.length (fun j => if σ j s = true then 1 else 0) ≤ cores
  cost : ∀ j, j < l.length → sm S (fun s => if σ j s = true then 1 else 0) = (fjAt l j).c
theorem Sched.le_cut {σ : Nat → Nat → Bool} (h : Sched l S cores σ) (T : Nat → Bool) (h0 : T 0 = true) (ht : T (1 + l.length + S) = false) : totalC l ≤ cutV (netN l S) (netF l S cores) T := by
  rw [cut_net T h0 ht]
  have e1 : totalC l = sm l.length (fun j => if T (1 + j) = true then 0 else (fjAt l j).c) + sm l.length (fun j => if T (1 + j) = true then sm S (fun s => if σ j s = true then 1 else 0) else 0) := by
    unfold totalC
    rw [← sm_add]
    exact sm_congr fun j hj => by
      by_cases e : T (1 + j) = true
      · rw [if_pos e, if_pos e, h.cost j hj]; omega
      · rw [if_neg e, if_neg e]; omega
  have e2 : sm l.length (fun j => if T (1 + j) = true then sm S (fun s => if σ j s = true then 1 else 0) else 0) ≤
      sm l.length (fun j => if T (1 + j) = true then sm S (fun s => if T (1 + l.length + s) = false ∧ winB l j s = true then 1 else 0) else 0) + sm l.length (fun j => sm S (fun s => if T (1 + l.length + s) = true ∧ σ j s = true then 1 else 0)) := by
    rw [← sm_add]
    refine sm_le fun j hj => ?_
    by_cases e : T (1 + j) = true
    · rw [if_pos e, if_pos e, ← sm_add]
      refine sm_le fun s hs => ?_
      have := h.win j s hj hs
      cases hσ : σ j s <;> cases hT : T (1 + l.length + s) <;> simp [hσ] at this ⊢
      · split <;> omega
      · rw [this]; simp
    · rw [if_neg e, if_neg e]
      have := sm_nonneg (n := S) (f := fun s => if T (1 + l.length + s) = true ∧ σ j s = true then 1 else 0) (fun s _ => by show 0 ≤ (if _ then (1 : Int) else 0); split <;> omega)
      omega
  have e3 : sm l.length (fun j => sm S (fun s => if T (1 + l.length + s) = true ∧ σ j s = true then 1 else 0)) ≤ sm S (fun s => if T (1 + l.length + s) = true then cores else 0) := by
    rw [sm_swap]
    refine sm_le fun s hs => ?_
    by_cases e : T (1 + l.length + s) = true
    · rw [if_pos e]
      have := h.room s hs
      rw [sm_congr (g := fun j => if σ j s = true then (1 : Int) else 0) (fun j _ => by simp [e])]
      exact this
    · rw [if_neg e, sm_congr (g := fun _ => (0 : Int)) (fun j _ => by simp [e]), sm_zero]
      exact Int.le_refl _
  omega
end
section
variable {l : List FJ} {S : Nat} {cores : Int} {r : Nat → Nat → Int} {val : Int}
theorem pair_zero {n : Nat} {c r : Nat → Nat → Int} {ex : Nat → Int} (h : Res n c r ex) {u v : Nat} (hu : u < n) (hv : v < n) (h1 : c u v = 0) (h2 : c v u = 0) : r u v = 0 := by
  have := h.nonneg u v hu hv
  have := h.nonneg v u hv hu
  have := h.pair u v hu hv
  omega
/-- What runs when, in a flow. -/
theorem net_unit (h : Res (netN l S) (netF l S cores) r (exOf 0 (1 + l.length + S) val)) {j s : Nat} (hj : j < l.length) (hs : s < S) :
    0 ≤ r (1 + l.length + s) (1 + j) ∧ r (1 + l.length + s) (1 + j) ≤ (if winB l j s = true then 1 else 0) ∧ netF l S cores (1 + j) (1 + l.length + s) - r (1 + j) (1 + l.length + s) = r (1 + l.length + s) (1 + j) := by
  have hu : 1 + j < netN l S := by unfold netN; omega
  have hv : 1 + l.length + s < netN l S := by unfold netN; omega
  have a := h.nonneg _ _ hu hv
  have b := h.nonneg _ _ hv hu
  have p := h.pair _ _ hu hv
  rw [net_js hj hs, net_s hs (show 1 + j ≠ 1 + l.length + S by omega)] at p
  rw [net_js hj hs]
  omega
theorem net_job (h : Res (netN l S) (netF l S cores) r (exOf 0 (1 + l.length + S) val)) {j : Nat} (hj : j < l.length) :
    sm S (fun s => r (1 + l.length + s) (1 + j)) = netF l S cores 0 (1 + j) - r 0 (1 + j) ∧ sm S (fun s => r (1 + l.length + s) (1 + j)) ≤ (fjAt l j).c := by
  have hu : 1 + j < netN l S := by unfold netN; omega
  have h0 : 0 < netN l S := by unfold netN; omega
  have hn := h.net _ hu
  rw [sm_net] at hn
  have a1 : sm l.length (fun i => netF l S cores (1 + j) (1 + i) - r (1 + j) (1 + i)) = sm l.length (fun _ => 0) := sm_congr fun i hi => by
    have z1 := net_j (cores := cores) (S := S) hj (v := 1 + i) (.inl (by omega))
    have z2 := net_j (cores := cores) (S := S) hi (v := 1 + j) (.inl (by omega))
    rw [z1, pair_zero h hu (by unfold netN; omega) z1 z2]; rfl
  have a2 : sm S (fun s => netF l S cores (1 + j) (1 + l.length + s) - r (1 + j) (1 + l.length + s)) = sm S (fun s => r (1 + l.length + s) (1 + j)) := sm_congr fun s hs => (net_unit h hj hs).2.2
  have z1 := net_j (cores := cores) (S := S) hj (v := 1 + l.length + S) (.inr (by omega))
  have a3 := pair_zero h hu (show 1 + l.length + S < netN l S by unfold netN; omega) z1 net_t
  have a4 : exOf 0 (1 + l.length + S) val (1 + j) = 0 := by unfold exOf; rw [if_neg (by omega), if_neg (by omega)]; rfl
  have p := h.pair 0 (1 + j) h0 hu
  have z2 := net_j (cores := cores) (S := S) hj (v := 0) (.inl (by omega))
  have b := h.nonneg 0 (1 + j) h0 hu
  rw [net_0j hj, z2] at p
  rw [a1, sm_zero, a2, a3, z1, z2, a4] at hn
  rw [net_0j hj]
  omega
theorem net_val (h : Res (netN l S) (netF l S cores) r (exOf 0 (1 + l.length + S) val)) : val = sm l.length (fun j => sm S (fun s => r (1 + l.length + s) (1 + j))) := by
  have h0 : 0 < netN l S := by unfold netN; omega
  have hn := h.net 0 h0
  rw [sm_net] at hn
  have a1 : sm l.length (fun j => netF l S cores 0 (1 + j) - r 0 (1 + j)) = sm l.length (fun j => sm S (fun s => r (1 + l.length + s) (1 + j))) := sm_congr fun j hj => ((net_job h hj).1).symm
  have a2 : sm S (fun s => netF l S cores 0 (1 + l.length + s) - r 0 (1 + l.length + s)) = sm S (fun _ => 0) := sm_congr fun s hs => by
    have z1 := net_0 (l := l) (S := S) (cores := cores) (v := 1 + l.length + s) (.inr (by omega))
    rw [z1, pair_zero h h0 (by unfold netN; omega) z1 (net_s hs (by omega))]; rfl
  have z1 := net_0 (l := l) (S := S) (cores := cores) (v := 1 + l.length + S) (.inr (by omega))
  have a3 := pair_zero h h0 (show 1 + l.length + S < netN l S by unfold netN; omega) z1 net_t
  have z0 := net_0 (l := l) (S := S) (cores := cores) (v := 0) (.inl rfl)
  have a4 := pair_zero h h0 h0 z0 z0
  have a5 : exOf 0 (1 + l.length + S) val 0 = val := by unfold exOf; rw [if_pos rfl, if_neg (by omega)]; omega
  rw [a1, a2, sm_zero, z1, a3, z0, a4, a5] at hn
  omega
theorem net_slot (h : Res (netN l S) (netF l S cores) r (exOf 0 (1 + l.length + S) val)) {s : Nat} (hs : s < S) : sm l.length (fun j => r (1 + l.length + s) (1 + j)) ≤ cores := by
  have hu : 1 + l.length + s < netN l S := by unfold netN; omega
  have ht : 1 + l.length + S < netN l S := by unfold netN; omega
  have hn := h.net _ hu
  rw [sm_net] at hn
  have a1 : sm l.length (fun j => netF l S cores (1 + l.length + s) (1 + j) - r (1 + l.length + s) (1 + j)) = - sm l.length (fun j => r (1 + l.length + s) (1 + j)) := by
    rw [← sm_neg]
    exact sm_congr fun j hj => by rw [net_s hs (by omega)]; omega
  have a2 : sm S (fun i => netF l S cores (1 + l.length + s) (1 + l.length + i) - r (1 + l.length + s) (1 + l.length + i)) = sm S (fun _ => 0) := sm_congr fun i hi => by
    have z1 := net_s (l := l) (cores := cores) hs (v := 1 + l.length + i) (by omega)
    have z2 := net_s (l := l) (cores := cores) hi (v := 1 + l.length + s) (by omega)
    rw [z1, pair_zero h hu (by unfold netN; omega) z1 z2]; rfl
  have z0 := net_s (l := l) (cores := cores) hs (v := 0) (by omega)
  have z1 := net_0 (l := l) (S := S) (cores := cores) (v := 1 + l.length + s) (.inr (by omega))
  have a3 := pair_zero h hu (show 0 < netN l S by unfold netN; omega) z0 z1
  have a4 : exOf 0 (1 + l.length + S) val (1 + l.length + s) = 0 := by unfold exOf; rw [if_neg (by omega), if_neg (by omega)]; rfl
  have b := h.nonneg _ _ hu ht
  rw [a1, a2, sm_zero, z0, a3, net_st hs, a4] at hn
  omega
theorem sm_eq {n : Nat} {f g : Nat → Int} (hle : ∀ i, i < n → f i ≤ g i) (he : sm n f = sm n g) : ∀ i, i < n → f i = g i := by
  induction n with
  | zero => intro i hi; omega
  | succ n ih =>
    rw [sm, sm] at he
    have h1 := sm_le (n := n) (f := f) (g := g) (fun i hi => hle i (by omega))
    have h2 := hle n (by omega)
    intro i hi
    by_cases e : i = n
    · subst e; omega
    · exact ih (fun i hi => hle i (by omega)) (by omega) i (by omega)
theorem net_le (h : Res (netN l S) (netF l S cores) r (exOf 0 (1 + l.length + S) val)) : val ≤ totalC l := by
  rw [net_val h]
  exact sm_le fun j hj => (net_job h hj).2
/-- A flow that gives every job its slots is a schedule. -/
theorem sched_of (h : Res (netN l S) (netF l S cores) r (exOf 0 (1 + l.length + S) val)) (hv : val = totalC l) : Sched l S cores (fun j s => decide (0 < r (1 + l.length + s) (1 + j))) := by
  have unit : ∀ j s, j < l.length → s < S → (if decide (0 < r (1 + l.length + s) (1 + j)) = true then (1 : Int) else 0) = r (1 + l.length + s) (1 + j) := fun j s hj hs => by
    obtain ⟨h1, h2, _⟩ := net_unit h hj hs
    by_cases e : 0 < r (1 + l.length + s) (1 + j)
    · rw [if_pos (by simpa using e)]
      split at h2 <;> omega
    · rw [if_neg (by simpa using e)]; omega
  refine ⟨fun j s hj hs hσ => ?_, fun s hs => ?_, fun j hj => ?_⟩
  · obtain ⟨h1, h2, _⟩ := net_unit h hj hs
    have : 0 < r (1 + l.length + s) (1 + j) := by simpa using hσ
    by_cases e : winB l j s = true
    · exact e
    · rw [if_neg e] at h2; omega
  · rw [sm_congr (g := fun j => r (1 + l.length + s) (1 + j)) (fun j hj => unit j s hj hs)]
    exact net_slot h hs
  · rw [sm_congr (g := fun s => r (1 + l.length + s) (1 + j)) (fun s hs => unit j s hj hs)]
    have := net_val h
    rw [hv] at this
    exact (sm_eq (f := fun j => sm S (fun s => r (1 + l.length + s) (1 + j))) (g := fun j => (fjAt l j).c) (fun j hj => (net_job h hj).2) this.symm) j hj
theorem full_of {σ : Nat → Nat → Bool} (hσ : Sched l S cores σ) (hc : IsCut (netN l S) (netF l S cores) 0 (1 + l.length + S) val) : totalC l ≤ val := by
  obtain ⟨⟨T, h1, h2, h3⟩, _⟩ := hc
  rw [← h3]
  exact hσ.le_cut T h1 h2
end
end

section
/-! ### Counting pairs -/
def cntP (n K : Nat) (p : Nat × Nat → Bool) : Int := sm n fun i => sm K fun k => if p (i, k) = true then 1 else 0
section
variable {n K : Nat}
theorem cnt_le {p q : Nat × Nat → Bool} (h : ∀ x, p x = true → q x = true) : cntP n K p ≤ cntP n K q :=
  sm_le fun i _ => sm_le fun k _ => by
    by_cases e : p (i, k) = true
    · simp [e, h _ e]
    · by_cases e2 : q (i, k) = true <;> simp [e, e2]
theorem cnt_upd {p q : Nat × Nat → Bool} {x : Nat × Nat} (h1 : x.1 < n) (h2 : x.2 < K) (h : ∀ y, y ≠ x → q y = p y) (hp : p x = false) (hq : q x = true) : cntP n K q = cntP n K p + 1 := by
  obtain ⟨a, b⟩ := x
  unfold cntP
  rw [sm_upd (f := fun i => sm K fun k => if p (i, k) = true then 1 else 0) (g := fun i => sm K fun k => if q (i, k) = true then 1 else 0) (t := a) h1 (fun i _ hi => sm_congr fun k _ => by
    rw [h (i, k) (fun e => hi (congrArg Prod.fst e))])]
  rw [sm_upd (f := fun k => if p (a, k) = true then 1 else 0) (g := fun k => if q (a, k) = true then 1 else 0) (t := b) h2 (fun k _ hk => by
    rw [h (a, k) (fun e => hk (congrArg Prod.snd e))])]
  rw [hp, hq]
  simp
  omega
def addX (p : Nat × Nat → Bool) (x : Nat × Nat) : Nat × Nat → Bool := fun y => p y || decide (y = x)
theorem addX_iff {p : Nat × Nat → Bool} {x y : Nat × Nat} : addX p x y = true ↔ p y = true ∨ y = x := by simp [addX]
theorem cnt_add {p : Nat × Nat → Bool} {x : Nat × Nat} (h1 : x.1 < n) (h2 : x.2 < K) (hp : p x = false) : cntP n K (addX p x) = cntP n K p + 1 :=
  cnt_upd h1 h2 (fun y hy => by simp [addX, hy]) hp (by simp [addX])
theorem cnt_lt {p q : Nat × Nat → Bool} {x : Nat × Nat} (h1 : x.1 < n) (h2 : x.2 < K) (h : ∀ y, p y = true → q y = true) (hp : p x = false) (hq : q x = true) : cntP n K p + 1 ≤ cntP n K q := by
  rw [← cnt_add h1 h2 hp]
  refine cnt_le fun y hy => ?_
  rcases addX_iff.1 hy with e | rfl
  · exact h _ e
  · exact hq
theorem cnt_zero : cntP n K (fun _ => false) = 0 := by
  unfold cntP
  rw [sm_congr (g := fun _ => 0) (fun i _ => by simp [sm_zero]), sm_zero]
theorem cnt_nonneg (p : Nat × Nat → Bool) : 0 ≤ cntP n K p := by
  rw [← cnt_zero (n := n) (K := K)]; exact cnt_le (by simp)
theorem cnt_disj {p q r : Nat × Nat → Bool} (h : ∀ x, r x = (p x || q x)) (hd : ∀ x, p x = true → q x = true → False) : cntP n K r = cntP n K p + cntP n K q := by
  unfold cntP
  rw [← sm_add]
  refine sm_congr fun i _ => ?_
  rw [← sm_add]
  refine sm_congr fun k _ => ?_
  rw [h]
  have := hd (i, k)
  cases e1 : p (i, k) <;> cases e2 : q (i, k) <;> simp [e1, e2] at this ⊢
/-! ### The first m of a set -/
/-- C is the set of the first m of E by keys. -/
structure Pick (n K : Nat) (key : Nat × Nat → Nat) (m : Nat) (E : Nat × Nat → Prop) (C : Nat × Nat → Bool) : Prop where
  sub : ∀ x, C x = true → E x
  le : cntP n K C ≤ m
  full : ∀ x, E x → C x = false → cntP n K C = m ∧ ∀ y, C y = true → key y < key x
variable {key : Nat × Nat → Nat} {m : Nat} {E E' : Nat × Nat → Prop} {C C' : Nat × Nat → Bool}
theorem min_of (P : Nat × Nat → Prop) (h : ∃ x, P x) : ∃ x, P x ∧ ∀ y, P y → key x ≤ key y := by
  obtain ⟨x, hx⟩ := h
  generalize hN : key x = N
  induction N using Nat.strongRecOn generalizing x with
  | _ N ih =>
    by_cases hy : ∃ y, P y ∧ key y < N
    · obtain ⟨y, hy, hlt⟩ := hy
      exact ih _ hlt y hy rfl
    · exact ⟨x, hx, fun y hy' => by
        rw [hN]
        exact Nat.le_of_not_lt fun h => hy ⟨y, hy', h⟩⟩
theorem pick_ex (hr : ∀ x, E x → x.1 < n ∧ x.2 < K) (hinj : ∀ x y, E x → E y → key x = key y → x = y) : ∀ m, ∃ C, Pick n K key m E C
  | 0 => ⟨fun _ => false, fun _ h => by simp at h, by rw [cnt_zero]; exact Int.le_refl _, fun _ _ _ => ⟨cnt_zero, fun _ h => by simp at h⟩⟩
  | m + 1 => by
    obtain ⟨C, h1, h2, h3⟩ := pick_ex hr hinj m
    by_cases h : ∃ x, E x ∧ C x = false
    · obtain ⟨x, ⟨hx, hc⟩, hmin⟩ := min_of (key := key) _ h
      obtain ⟨r1, r2⟩ := hr x hx
      obtain ⟨q1, q2⟩ := h3 x hx hc
      have hadd := cnt_add (p := C) r1 r2 hc
      refine ⟨addX C x, fun y hy => ?_, by omega, fun z hz hcz => ⟨by omega, fun y hy => ?_⟩⟩
      · rcases addX_iff.1 hy with e | rfl
        · exact h1 _ e
        · exact hx
      · have hz2 : C z = false := by
          cases e : C z
          · rfl
          · have := addX_iff (x := x).2 (.inl e); rw [hcz] at this; cases this
        have hzx : z ≠ x := fun e => by
          have := (addX_iff (p := C)).2 (.inr e); rw [hcz] at this; cases this
        rcases addX_iff.1 hy with e | rfl
        · exact (h3 z hz hz2).2 y e
        · have a1 := hmin z ⟨hz, hz2⟩
          have a2 : key y ≠ key z := fun e => hzx (hinj z y hz hx e.symm)
          omega
    · refine ⟨C, h1, by omega, fun x hx hc => absurd ⟨x, hx, hc⟩ h⟩
/-- An element that isn't chosen is taken out: the choice stays. -/
theorem Pick.stay (h : Pick n K key m E C) (h' : Pick n K key m E' C') (hr : ∀ x, E x → x.1 < n ∧ x.2 < K) (hr' : ∀ x, E' x → x.1 < n ∧ x.2 < K) {z : Nat × Nat} (hz : C z = false)
    (hsub : ∀ x, E x → x ≠ z → E' x) (hnew : ∀ x, E' x → ¬ E x → E z ∧ key z < key x) : ∀ x, C' x = C x := by
  have s1 : ∀ x, C' x = true → C x = true := fun x hx => by
    cases hc : C x with
    | true => rfl
    | false =>
      exfalso
      have hxE' := h'.sub x hx
      have hall : cntP n K C = m ∧ ∀ y, C y = true → key y < key x := by
        by_cases hxE : E x
        · exact h.full x hxE hc
        · obtain ⟨a, b⟩ := hnew x hxE' hxE
          have := h.full z a hz
          exact ⟨this.1, fun y hy => Nat.lt_trans (this.2 y hy) b⟩
      have hin : ∀ y, C y = true → C' y = true := fun y hy => by
        cases hc' : C' y with
        | true => rfl
        | false =>
          have hyE' := hsub y (h.sub y hy) (fun e => by rw [e, hz] at hy; cases hy)
          have a1 := (h'.full y hyE' hc').2 x hx
          have a2 := hall.2 y hy
          omega
      have r := hr' x hxE'
      have := cnt_lt r.1 r.2 hin hc hx
      have := h'.le
      omega
  intro x
  cases hc : C x with
  | false =>
    cases hc' : C' x with
    | false => rfl
    | true => rw [s1 x hc'] at hc; cases hc
  | true =>
    cases hc' : C' x with
    | true => rfl
    | false =>
      exfalso
      have hxE' := hsub x (h.sub x hc) (fun e => by rw [e, hz] at hc; cases hc)
      have a1 := (h'.full x hxE' hc').1
      have r := hr' x hxE'
      have := cnt_lt r.1 r.2 s1 hc' hc
      have := h.le
      omega
/-- A chosen element is taken out: at most one is chosen in its place. -/
theorem Pick.shift (h : Pick n K key m E C) (h' : Pick n K key m E' C') (hr : ∀ x, E x → x.1 < n ∧ x.2 < K) (hr' : ∀ x, E' x → x.1 < n ∧ x.2 < K) {z : Nat × Nat} (hz : C z = true) (hz' : ¬ E' z)
    (hsub : ∀ x, E x → x ≠ z → E' x) (hnew : ∀ x, E' x → ¬ E x → key z < key x) (hone : ∀ x y, E' x → ¬ E x → E' y → ¬ E y → x = y) :
    (∀ x, C x = true → x ≠ z → C' x = true) ∧ (∀ x y, C' x = true → C x = false → C' y = true → C y = false → x = y) ∧ (∀ x, C' x = true → C x = false → key z < key x) ∧
    (cntP n K C < m → ∀ x, C' x = true → C x = false → ¬ E x) := by
  have hole : cntP n K C < m → ∀ x, C' x = true → C x = false → ¬ E x := fun hlt x _ hc hE => by
    have := (h.full x hE hc).1; omega
  have big : ∀ x, C' x = true → C x = false → key z < key x := fun x hx hc => by
    by_cases hE : E x
    · exact (h.full x hE hc).2 z hz
    · exact hnew x (h'.sub x hx) hE
  have rz := hr z (h.sub z hz)
  have hC'z : C' z = false := by
    cases e : C' z with
    | false => rfl
    | true => exact absurd (h'.sub z e) hz'
  -- C without z
  let D : Nat × Nat → Bool := fun x => C x && !decide (x = z)
  have hD : ∀ x, D x = true ↔ C x = true ∧ x ≠ z := fun x => by simp [D]
  have hDz : D z = false := by simp [D]
  have hCD : cntP n K C = cntP n K D + 1 := cnt_upd rz.1 rz.2 (fun y hy => by simp [D, hy]) hDz hz
  have keep : ∀ x, C x = true → x ≠ z → C' x = true := fun c hc hcz => by
    cases hc' : C' c with
    | true => rfl
    | false =>
      exfalso
      have rc := hr c (h.sub c hc)
      have hcE' := hsub c (h.sub c hc) hcz
      obtain ⟨f1, f2⟩ := h'.full c hcE' hc'
      have hcl : ∀ x, C' x = true → C x = false → ¬ E x := fun x hx hcx hE => by
        have a1 := (h.full x hE hcx).2 c hc
        have a2 := f2 x hx
        omega
      -- D without c
      let D2 : Nat × Nat → Bool := fun x => D x && !decide (x = c)
      have hD2c : D2 c = false := by simp [D2]
      have hDc : D c = true := (hD c).2 ⟨hc, hcz⟩
      have hDD2 : cntP n K D = cntP n K D2 + 1 := cnt_upd rc.1 rc.2 (fun y hy => by simp [D2, hy]) hD2c hDc
      have hD2 : ∀ x, D2 x = true ↔ C x = true ∧ x ≠ z ∧ x ≠ c := fun x => by simp [D2, D, and_assoc]
      have hle := h.le
      by_cases hx : ∃ x, C' x = true ∧ C x = false
      · obtain ⟨x, hx, hcx⟩ := hx
        have rx := hr' x (h'.sub x hx)
        have hD2x : D2 x = false := by
          cases e : D2 x with
          | false => rfl
          | true => rw [((hD2 x).1 e).1] at hcx; cases hcx
        have a1 : cntP n K C' ≤ cntP n K (addX D2 x) := cnt_le fun y hy => addX_iff.2 <| by
          by_cases hcy : C y = true
          · exact .inl ((hD2 y).2 ⟨hcy, (fun e => by rw [e, hC'z] at hy; cases hy), (fun e => by rw [e, hc'] at hy; cases hy)⟩)
          · have hcy : C y = false := by simpa using hcy
            exact .inr (hone y x (h'.sub y hy) (hcl y hy hcy) (h'.sub x hx) (hcl x hx hcx))
        rw [cnt_add rx.1 rx.2 hD2x] at a1
        omega
      · have a1 : cntP n K C' ≤ cntP n K D2 := cnt_le fun y hy => by
          have hcy : C y = true := by
            cases e : C y with
            | true => rfl
            | false => exact absurd ⟨y, hy, e⟩ hx
          exact (hD2 y).2 ⟨hcy, (fun e => by rw [e, hC'z] at hy; cases hy), (fun e => by rw [e, hc'] at hy; cases hy)⟩
        omega
  refine ⟨keep, fun x y hx hcx hy hcy => ?_, big, hole⟩
  by_cases e : x = y
  · exact e
  · exfalso
    have rx := hr' x (h'.sub x hx)
    have ry := hr' y (h'.sub y hy)
    have hDx : D x = false := by simp [D, hcx]
    have hDy : addX D x y = false := by
      have : D y = false := by simp [D, hcy]
      simp [addX, this, Ne.symm e]
    have a1 : cntP n K (addX (addX D x) y) ≤ cntP n K C' := cnt_le fun u hu => by
      rcases addX_iff.1 hu with hu | rfl
      · rcases addX_iff.1 hu with hu | rfl
        · exact keep u ((hD u).1 hu).1 ((hD u).1 hu).2
        · exact hx
      · exact hy
    rw [cnt_add ry.1 ry.2 hDy, cnt_add rx.1 rx.2 hDx] at a1
    have hlt : cntP n K C < m := by have := h'.le; omega
    exact e (hone x y (h'.sub x hx) (hole hlt x hx hcx) (h'.sub y hy) (hole hlt y hy hcy))
end
end

section
/-- Subtasks (task, index): n tasks of the weights W i / H, indexes below K, M processors, priorities by keys. -/
structure Pd (n K M : Nat) (H : Int) (W : Nat → Int) (key : Nat × Nat → Nat) : Prop where
  h0 : 0 < H
  w0 : ∀ i, i < n → 0 ≤ W i
  w1 : ∀ i, i < n → W i ≤ H
  load : sm n W ≤ (M : Int) * H
  inj : ∀ x y : Nat × Nat, x.1 < n → x.2 < K → y.1 < n → y.2 < K → key x = key y → x = y
  own : ∀ i k k', i < n → k < k' → k' < K → key (i, k) < key (i, k')
def relP (H : Int) (W : Nat → Int) (s : Nat) (x : Nat × Nat) : Prop := (x.2 : Int) * H < W x.1 * ((s : Int) + 1)
/-- The subtasks of J that may run. -/
structure ElP (H : Int) (W : Nat → Int) (J : Nat × Nat → Bool) (D : Nat × Nat → Bool) (s : Nat) (x : Nat × Nat) : Prop where
  mem : J x = true
  new : D x = false
  rel : relP H W s x
  eld : ∀ k, k < x.2 → J (x.1, k) = true → D (x.1, k) = true
def newP (D D' : Nat × Nat → Bool) : Nat × Nat → Bool := fun x => D' x && !D x
theorem newP_iff {D D' : Nat × Nat → Bool} {x : Nat × Nat} : newP D D' x = true ↔ D' x = true ∧ D x = false := by simp [newP]
/-- D s: what has run before the slot s. -/
structure Run (n K M : Nat) (H : Int) (W : Nat → Int) (key : Nat × Nat → Nat) (J : Nat × Nat → Bool) (D : Nat → Nat × Nat → Bool) : Prop where
  zero : ∀ x, D 0 x = false
  mono : ∀ s x, D s x = true → D (s + 1) x = true
  pick : ∀ s, Pick n K key M (ElP H W J (D s) s) (newP (D s) (D (s + 1)))
def inP (n K : Nat) (J : Nat × Nat → Bool) : Prop := ∀ x, J x = true → x.1 < n ∧ x.2 < K
section
variable {n K M : Nat} {H : Int} {W : Nat → Int} {key : Nat × Nat → Nat} {J : Nat × Nat → Bool}
theorem run_ex (hS : Pd n K M H W key) (hJ : inP n K J) : ∃ D, Run n K M H W key J D := by
  have hp : ∀ (d : Nat × Nat → Bool) (s : Nat), ∃ C, Pick n K key M (ElP H W J d s) C := fun d s =>
    pick_ex (fun x hx => hJ x hx.mem) (fun x y hx hy e => hS.inj x y (hJ x hx.mem).1 (hJ x hx.mem).2 (hJ y hy.mem).1 (hJ y hy.mem).2 e) M
  let ch : (Nat × Nat → Bool) → Nat → Nat × Nat → Bool := fun d s => Classical.choose (hp d s)
  have hch : ∀ d s, Pick n K key M (ElP H W J d s) (ch d s) := fun d s => Classical.choose_spec (hp d s)
  let D : Nat → Nat × Nat → Bool := fun s => Nat.rec (fun _ => false) (fun s d x => d x || ch d s x) s
  have hD : ∀ s, D (s + 1) = fun x => D s x || ch (D s) s x := fun s => rfl
  refine ⟨D, fun _ => rfl, fun s x h => by rw [hD]; simp [h], fun s => ?_⟩
  have e : newP (D s) (D (s + 1)) = ch (D s) s := by
    funext x
    rw [hD]
    have : ch (D s) s x = true → D s x = false := fun h => ((hch (D s) s).sub x h).new
    unfold newP
    cases h2 : ch (D s) s x with
    | false => show ((D s x || ch (D s) s x) && !D s x) = false; rw [h2]; cases D s x <;> rfl
    | true => show ((D s x || ch (D s) s x) && !D s x) = true; rw [this h2, h2]; rfl
  rw [e]; exact hch _ _
variable {D : Nat → Nat × Nat → Bool}
theorem Run.le (h : Run n K M H W key J D) {s s' : Nat} (hs : s ≤ s') {x : Nat × Nat} (hx : D s x = true) : D s' x = true := by
  induction hs with
  | refl => exact hx
  | step _ ih => exact h.mono _ _ ih
theorem Run.sub (h : Run n K M H W key J D) : ∀ {s : Nat} {x : Nat × Nat}, D s x = true → J x = true
  | 0, x, hx => by rw [h.zero] at hx; cases hx
  | s + 1, x, hx => by
    cases e : D s x with
    | true => exact Run.sub h e
    | false => exact ((h.pick s).sub x (newP_iff.2 ⟨hx, e⟩)).mem
/-- The slot in which a subtask ran. -/
theorem Run.slot (h : Run n K M H W key J D) {x : Nat × Nat} : ∀ {s : Nat}, D s x = true → ∃ u, u < s ∧ newP (D u) (D (u + 1)) x = true
  | 0, hx => by rw [h.zero] at hx; cases hx
  | s + 1, hx => by
    cases e : D s x with
    | true => obtain ⟨u, h1, h2⟩ := Run.slot h e; exact ⟨u, by omega, h2⟩
    | false => exact ⟨s, by omega, newP_iff.2 ⟨hx, e⟩⟩
theorem Run.elder (h : Run n K M H W key J D) {s : Nat} {i k k' : Nat} (hx : D s (i, k') = true) (hk : k < k') (hJ : J (i, k) = true) : D s (i, k) = true := by
  obtain ⟨u, h1, h2⟩ := h.slot hx
  exact h.le (Nat.le_of_lt h1) (((h.pick u).sub _ h2).eld k hk hJ)
theorem rel_mono {s s' : Nat} {x : Nat × Nat} (hS : Pd n K M H W key) (hx : x.1 < n) (h : relP H W s x) (hs : s ≤ s') : relP H W s' x := by
  unfold relP at *
  have := Int.mul_le_mul_of_nonneg_left (show ((s : Int) + 1) ≤ (s' : Int) + 1 by omega) (hS.w0 _ hx)
  omega
theorem rel_eld {s : Nat} {i k k' : Nat} (hS : Pd n K M H W key) (h : relP H W s (i, k')) (hk : k ≤ k') : relP H W s (i, k) := by
  unfold relP at *
  have := Int.mul_le_mul_of_nonneg_right (show (k : Int) ≤ (k' : Int) by omega) (Int.le_of_lt hS.h0)
  simp only at *
  omega
/-! ### A subtask is taken out -/
def outX (J : Nat × Nat → Bool) (y : Nat × Nat) : Nat × Nat → Bool := fun x => J x && !decide (x = y)
theorem outX_iff {y x : Nat × Nat} : outX J y x = true ↔ J x = true ∧ x ≠ y := by simp [outX]
/-- Nothing is displaced any more. -/
def NoneP (D D' : Nat → Nat × Nat → Bool) (y : Nat × Nat) (s : Nat) : Prop := D s y = true ∧ ∀ x, x ≠ y → (D' s x = true ↔ D s x = true)
/-- z has run in D' alone. -/
structure SomeP (H : Int) (W : Nat → Int) (key : Nat × Nat → Nat) (J : Nat × Nat → Bool) (D D' : Nat → Nat × Nat → Bool) (y z : Nat × Nat) (s : Nat) : Prop where
  mem : J z = true
  new : D s z = false
  key : key y ≤ key z
  iff : ∀ x, x ≠ y → (D' s x = true ↔ D s x = true ∨ x = z)
  was : z = y ∨ D s y = true ∧ ElP H W J (D s) s z
variable {D' : Nat → Nat × Nat → Bool} {y z : Nat × Nat} {s : Nat}
theorem some_init (h : Run n K M H W key J D) (h' : Run n K M H W key (outX J y) D') (hy : J y = true) : SomeP H W key J D D' y y 0 :=
  ⟨hy, h.zero _, Nat.le_refl _, fun x hx => by rw [h.zero, h'.zero]; simp [hx], .inl rfl⟩
theorem Run.not_out (h' : Run n K M H W key (outX J y) D') : D' s y = false := by
  cases e : D' s y with
  | false => rfl
  | true => exact absurd rfl (outX_iff.1 (h'.sub e)).2
theorem none_step (hS : Pd n K M H W key) (hJ : inP n K J) (h : Run n K M H W key J D) (h' : Run n K M H W key (outX J y) D') (hn : NoneP D D' y s) : NoneP D D' y (s + 1) := by
  have hE : ∀ x, ElP H W J (D s) s x → x ≠ y → ElP H W (outX J y) (D' s) s x := fun x hx hne =>
    ⟨outX_iff.2 ⟨hx.mem, hne⟩, by
      cases e : D' s x with
      | false => rfl
      | true => have := (hn.2 x hne).1 e; exact absurd (hx.new.symm.trans this) (by decide), hx.rel, fun k hk hk' => by
        obtain ⟨a, b⟩ := outX_iff.1 hk'
        exact (hn.2 _ b).2 (hx.eld k hk a)⟩
  have hE' : ∀ x, ElP H W (outX J y) (D' s) s x → ElP H W J (D s) s x := fun x hx => by
    obtain ⟨a, b⟩ := outX_iff.1 hx.mem
    refine ⟨a, ?_, hx.rel, fun k hk hk' => ?_⟩
    · cases e : D s x with
      | false => rfl
      | true => have := (hn.2 x b).2 e; rw [hx.new] at this; cases this
    · by_cases e : (x.1, k) = y
      · rw [e]; exact hn.1
      · exact (hn.2 _ e).1 (hx.eld k hk (outX_iff.2 ⟨hk', e⟩))
  have hz : newP (D s) (D (s + 1)) y = false := by simp [newP, hn.1]
  have hc := Pick.stay (h.pick s) (h'.pick s) (fun x hx => hJ x hx.mem) (fun x hx => hJ x (outX_iff.1 hx.mem).1) hz hE (fun x h1 h2 => absurd (hE' x h1) h2)
  refine ⟨h.mono _ _ hn.1, fun x hx => ?_⟩
  have e1 := hn.2 x hx
  have e2 := hc x
  unfold newP at e2
  constructor
  · intro a
    cases e : D s x with
    | true => exact h.mono _ _ e
    | false =>
      have : D' s x = false := by
        cases e3 : D' s x with
        | false => rfl
        | true => rw [e1.1 e3] at e; cases e
      simpa [a, e, this] using e2
  · intro a
    cases e : D s x with
    | true => exact h'.mono _ _ (e1.2 e)
    | false =>
      have : D' s x = false := by
        cases e3 : D' s x with
        | false => rfl
        | true => rw [e1.1 e3] at e; cases e
      simpa [a, e, this] using e2
/-- One slot, while z is displaced. -/
theorem some_step (hS : Pd n K M H W key) (hJ : inP n K J) (h : Run n K M H W key J D) (h' : Run n K M H W key (outX J y) D') (hz : SomeP H W key J D D' y z s) :
    (newP (D s) (D (s + 1)) z = false ∧ SomeP H W key J D D' y z (s + 1)) ∨
    (newP (D s) (D (s + 1)) z = true ∧ (NoneP D D' y (s + 1) ∨ ∃ x, SomeP H W key J D D' y x (s + 1) ∧ (cntP n K (newP (D s) (D (s + 1))) < M → x.1 = z.1 ∧ z.2 < x.2 ∧ relP H W s x))) := by
  have ysome : z ≠ y → D s y = true := fun e => by
    rcases hz.was with e2 | e2
    · exact absurd e2 e
    · exact e2.1
  have hE : ∀ x, ElP H W J (D s) s x → x ≠ z → ElP H W (outX J y) (D' s) s x := fun x hx hne => by
    have hxy : x ≠ y := fun e => by
      by_cases e2 : z = y
      · exact hne (e.trans e2.symm)
      · have := ysome e2; rw [← e, hx.new] at this; cases this
    refine ⟨outX_iff.2 ⟨hx.mem, hxy⟩, ?_, hx.rel, fun k hk hk' => ?_⟩
    · cases e : D' s x with
      | false => rfl
      | true =>
        rcases (hz.iff x hxy).1 e with e2 | e2
        · rw [hx.new] at e2; cases e2
        · exact absurd e2 hne
    · obtain ⟨a, b⟩ := outX_iff.1 hk'
      exact (hz.iff _ b).2 (.inl (hx.eld k hk a))
  have hnz : ¬ ElP H W (outX J y) (D' s) s z := fun hx => by
    by_cases e : z = y
    · exact (outX_iff.1 hx.mem).2 e
    · have := (hz.iff z e).2 (.inr rfl); rw [hx.new] at this; cases this
  -- what may run in D' alone: the successor of z
  have hnew : ∀ x, ElP H W (outX J y) (D' s) s x → ¬ ElP H W J (D s) s x → x.1 = z.1 ∧ z.2 < x.2 ∧ ElP H W J (D s) s z := fun x hx hne => by
    obtain ⟨a, b⟩ := outX_iff.1 hx.mem
    have hDx : D s x = false := by
      cases e : D s x with
      | false => rfl
      | true => have := (hz.iff x b).2 (.inl e); rw [hx.new] at this; cases this
    by_cases hel : ∃ k, k < x.2 ∧ J (x.1, k) = true ∧ D s (x.1, k) = false
    · obtain ⟨k, k1, k2, k3⟩ := hel
      have hkz : (x.1, k) = z := by
        by_cases e : (x.1, k) = y
        · by_cases e2 : z = y
          · rw [e, e2]
          · have := ysome e2; rw [← e, k3] at this; cases this
        · rcases (hz.iff _ e).1 (hx.eld k k1 (outX_iff.2 ⟨k2, e⟩)) with e2 | e2
          · rw [k3] at e2; cases e2
          · exact e2
      have hz1 : z.1 = x.1 := by rw [← hkz]
      have hz2 : z.2 = k := by rw [← hkz]
      refine ⟨hz1.symm, by omega, hz.mem, hz.new, ?_, fun q hq hq' => ?_⟩
      · rw [← hkz]; exact rel_eld hS hx.rel (Nat.le_of_lt k1)
      · rw [hz1] at hq' ⊢
        by_cases e : (x.1, q) = y
        · rw [e]
          exact ysome fun e2 => by
            have := congrArg Prod.snd (e.trans (e2.symm.trans hkz.symm)); simp only at this; omega
        · rcases (hz.iff _ e).1 (hx.eld q (by omega) (outX_iff.2 ⟨hq', e⟩)) with e2 | e2
          · exact e2
          · have := congrArg Prod.snd e2; simp only at this; omega
    · exact absurd ⟨a, hDx, hx.rel, fun k k1 k2 => by
        cases e : D s (x.1, k) with
        | true => rfl
        | false => exact absurd ⟨k, k1, k2, e⟩ hel⟩ hne
  have hr : ∀ x, ElP H W J (D s) s x → x.1 < n ∧ x.2 < K := fun x hx => hJ x hx.mem
  have hr' : ∀ x, ElP H W (outX J y) (D' s) s x → x.1 < n ∧ x.2 < K := fun x hx => hJ x (outX_iff.1 hx.mem).1
  have hlt : ∀ x, ElP H W (outX J y) (D' s) s x → x.1 = z.1 → z.2 < x.2 → key z < key x := fun x hx e1 e2 => by
    have := hS.own z.1 z.2 x.2 (by rw [← e1]; exact (hr' x hx).1) e2 (hr' x hx).2
    rw [show x = (z.1, x.2) from Prod.ext e1 rfl]
    exact this
  cases hcz : newP (D s) (D (s + 1)) z with
  | false =>
    refine .inl ⟨rfl, ?_⟩
    have hc := Pick.stay (h.pick s) (h'.pick s) hr hr' hcz hE (fun x h1 h2 => by
      obtain ⟨a, b, c⟩ := hnew x h1 h2
      exact ⟨c, hlt x h1 a b⟩)
    have hz1 : D (s + 1) z = false := by
      cases e : D (s + 1) z with
      | false => rfl
      | true => rw [newP_iff.2 ⟨e, hz.new⟩] at hcz; cases hcz
    refine ⟨hz.mem, hz1, hz.key, fun x hx => ?_, ?_⟩
    · have e1 := hz.iff x hx
      have e2 := hc x
      constructor
      · intro a
        cases e : D' s x with
        | true =>
          rcases e1.1 e with e3 | e3
          · exact .inl (h.mono _ _ e3)
          · exact .inr e3
        | false =>
          rw [newP_iff.2 ⟨a, e⟩] at e2
          exact .inl (newP_iff.1 e2.symm).1
      · rintro (a | a)
        · cases e : D s x with
          | true => exact h'.mono _ _ (e1.2 (.inl e))
          | false =>
            rw [newP_iff.2 ⟨a, e⟩] at e2
            exact (newP_iff.1 e2).1
        · exact h'.mono _ _ (e1.2 (.inr a))
    · rcases hz.was with e | ⟨e1, e2⟩
      · exact .inl e
      · exact .inr ⟨h.mono _ _ e1, e2.mem, hz1, rel_mono hS (hr z e2).1 e2.rel (by omega), fun k hk hk' => h.mono _ _ (e2.eld k hk hk')⟩
  | true =>
    refine .inr ⟨rfl, ?_⟩
    obtain ⟨c1, c2, c3, c4⟩ := Pick.shift (h.pick s) (h'.pick s) hr hr' hcz hnz hE (fun x h1 h2 => by
        obtain ⟨a, b, _⟩ := hnew x h1 h2
        exact hlt x h1 a b) (fun x x' h1 h2 h3 h4 => by
        obtain ⟨a, b, _⟩ := hnew x h1 h2
        obtain ⟨a', b', _⟩ := hnew x' h3 h4
        rcases Nat.lt_trichotomy x.2 x'.2 with e | e | e
        · have := h3.eld x.2 e (by rw [a', ← a]; exact h1.mem)
          rw [a', ← a] at this
          have h5 : D' s x = true := this
          rw [h1.new] at h5; cases h5
        · exact Prod.ext (a.trans a'.symm) e
        · have := h1.eld x'.2 e (by rw [a, ← a']; exact h3.mem)
          rw [a, ← a'] at this
          have h5 : D' s x' = true := this
          rw [h3.new] at h5; cases h5)
    have hz1 : D (s + 1) z = true := (newP_iff.1 hcz).1
    have hy1 : D (s + 1) y = true := by
      by_cases e : z = y
      · rw [← e]; exact hz1
      · exact h.mono _ _ (ysome e)
    by_cases hx : ∃ x, newP (D' s) (D' (s + 1)) x = true ∧ newP (D s) (D (s + 1)) x = false
    · obtain ⟨x, hx, hcx⟩ := hx
      have hxE := (h'.pick s).sub x hx
      obtain ⟨a, b⟩ := outX_iff.1 hxE.mem
      have hDx : D s x = false := by
        cases e : D s x with
        | false => rfl
        | true => have := (hz.iff x b).2 (.inl e); rw [hxE.new] at this; cases this
      have hDx1 : D (s + 1) x = false := by
        cases e : D (s + 1) x with
        | false => rfl
        | true => rw [newP_iff.2 ⟨e, hDx⟩] at hcx; cases hcx
      refine .inr ⟨x, ⟨a, hDx1, by have := c3 x hx hcx; have := hz.key; omega, fun w hw => ?_, .inr ⟨hy1, a, hDx1, rel_mono hS (hr' x hxE).1 hxE.rel (by omega), fun k hk hk' => ?_⟩⟩, fun hlt2 => ?_⟩
      · have e1 := hz.iff w hw
        constructor
        · intro q
          cases e : D' s w with
          | true =>
            rcases e1.1 e with e3 | e3
            · exact .inl (h.mono _ _ e3)
            · rw [e3]; exact .inl hz1
          | false =>
            have q2 := newP_iff.2 ⟨q, e⟩
            cases e4 : newP (D s) (D (s + 1)) w with
            | true => exact .inl (newP_iff.1 e4).1
            | false => exact .inr (c2 w x q2 e4 hx hcx)
        · rintro (q | q)
          · cases e : D s w with
            | true => exact h'.mono _ _ (e1.2 (.inl e))
            | false =>
              by_cases e3 : w = z
              · exact h'.mono _ _ (e1.2 (.inr e3))
              · exact (newP_iff.1 (c1 w (newP_iff.2 ⟨q, e⟩) e3)).1
          · rw [q]; exact (newP_iff.1 hx).1
      · by_cases e : (x.1, k) = y
        · rw [e]; exact hy1
        · rcases (hz.iff _ e).1 (hxE.eld k hk (outX_iff.2 ⟨hk', e⟩)) with e2 | e2
          · exact h.mono _ _ e2
          · rw [e2]; exact hz1
      · obtain ⟨q1, q2, _⟩ := hnew x hxE (c4 hlt2 x hx hcx)
        exact ⟨q1, q2, hxE.rel⟩
    · refine .inl ⟨hy1, fun w hw => ?_⟩
      have e1 := hz.iff w hw
      constructor
      · intro q
        cases e : D' s w with
        | true =>
          rcases e1.1 e with e3 | e3
          · exact h.mono _ _ e3
          · rw [e3]; exact hz1
        | false =>
          have q2 := newP_iff.2 ⟨q, e⟩
          cases e4 : newP (D s) (D (s + 1)) w with
          | true => exact (newP_iff.1 e4).1
          | false => exact absurd ⟨w, q2, e4⟩ hx
      · intro q
        cases e : D s w with
        | true => exact h'.mono _ _ (e1.2 (.inl e))
        | false =>
          by_cases e3 : w = z
          · exact h'.mono _ _ (e1.2 (.inr e3))
          · exact (newP_iff.1 (c1 w (newP_iff.2 ⟨q, e⟩) e3)).1
theorem none_later (hS : Pd n K M H W key) (hJ : inP n K J) (h : Run n K M H W key J D) (h' : Run n K M H W key (outX J y) D') {s s' : Nat} (hs : s ≤ s') (hn : NoneP D D' y s) : NoneP D D' y s' := by
  induction hs with
  | refl => exact hn
  | step _ ih => exact none_step hS hJ h h' ih
theorem state_any (hS : Pd n K M H W key) (hJ : inP n K J) (h : Run n K M H W key J D) (h' : Run n K M H W key (outX J y) D') (hy : J y = true) : ∀ s, NoneP D D' y s ∨ ∃ z, SomeP H W key J D D' y z s
  | 0 => .inr ⟨_, some_init h h' hy⟩
  | s + 1 => by
    rcases state_any hS hJ h h' hy s with e | ⟨z, e⟩
    · exact .inl (none_step hS hJ h h' e)
    · rcases some_step hS hJ h h' e with ⟨_, e2⟩ | ⟨_, e2 | ⟨x, e2, _⟩⟩
      · exact .inr ⟨_, e2⟩
      · exact .inl e2
      · exact .inr ⟨_, e2⟩
end
end

section
def gP (H x : Int) : Int := if x ≤ 0 then 0 else if x ≤ H then x else H
theorem gP_cases {H : Int} (h : 0 < H) (x : Int) : (x ≤ 0 ∧ gP H x = 0) ∨ (0 < x ∧ x ≤ H ∧ gP H x = x) ∨ (H < x ∧ gP H x = H) := by
  unfold gP
  by_cases h1 : x ≤ 0
  · rw [if_pos h1]; omega
  · rw [if_neg h1]
    by_cases h2 : x ≤ H
    · rw [if_pos h2]; omega
    · rw [if_neg h2]; omega
theorem gP_sum {H x : Int} (h : 0 < H) (hx : 0 ≤ x) : ∀ K : Nat, sm K (fun k => gP H (x - (k : Int) * H)) = min x ((K : Int) * H)
  | 0 => by simp [sm]; omega
  | K + 1 => by
    rw [sm, gP_sum h hx K, Int.natCast_add, Int.add_mul]
    have := gP_cases h (x - (K : Int) * H)
    generalize (K : Int) * H = a at *
    simp only [Int.natCast_one, Int.one_mul]
    omega
theorem gP_tail {H x : Int} (h : 0 < H) (k0 : Nat) : ∀ K : Nat, sm K (fun k => if k0 ≤ k then gP H (x - (k : Int) * H) else 0) ≤ max 0 (min x ((K : Int) * H) - (k0 : Int) * H)
  | 0 => by simp [sm]; omega
  | K + 1 => by
    have ih := gP_tail (x := x) h k0 K
    rw [sm]
    have hc := gP_cases h (x - (K : Int) * H)
    have e : ((K + 1 : Nat) : Int) * H = (K : Int) * H + H := by rw [Int.natCast_add, Int.add_mul]; simp
    rw [e]
    by_cases hk : k0 ≤ K
    · rw [if_pos hk]
      have h3 := Int.mul_le_mul_of_nonneg_right (show (k0 : Int) ≤ (K : Int) by omega) (Int.le_of_lt h)
      generalize (K : Int) * H = a at *
      generalize (k0 : Int) * H = b at *
      omega
    · rw [if_neg hk]
      generalize (K : Int) * H = a at *
      generalize (k0 : Int) * H = b at *
      omega
theorem gP_diff {H x y : Int} (h : 0 < H) (hx : 0 ≤ x) (hxy : x ≤ y) (K : Nat) : sm K (fun k => gP H (y - (k : Int) * H) - gP H (x - (k : Int) * H)) ≤ y - x := by
  rw [sm_sub, gP_sum h hx, gP_sum h (by omega)]
  omega
theorem gP_mono {H x y : Int} (h : 0 < H) (hxy : x ≤ y) : gP H x ≤ gP H y := by
  have := gP_cases h x
  have := gP_cases h y
  omega
theorem sq_mul {w H : Int} (m q : Nat) (hq : q ≤ m) (h0 : 0 ≤ w) (h1 : w ≤ H) : w * ((m : Int) - q) ≤ H * ((m : Int) - q) :=
  Int.mul_le_mul_of_nonneg_right h1 (by omega)
/-- What a task's subtasks in J get in the slots from t to t + m of the fluid schedule. -/
theorem task_fl {K : Nat} {H w : Int} (jv : Nat → Bool) (t m q : Nat) (h0 : 0 < H) (hw0 : 0 ≤ w) (hw1 : w ≤ H) (hq : q ≤ m)
    (hd : 0 < q → ∀ k : Nat, jv k = true → (k : Int) * H < w * ((t : Int) + q) → ((k : Int) + 1) * H ≤ w * ((t : Int) + 1) ∧
      (w * (t : Int) < ((k : Int) + 1) * H → ∀ p : Nat, p < m → ((k : Int) + p + 1) * H < w * ((t : Int) + p + 1))) :
    sm K (fun k => if jv k = true then gP H (w * ((t : Int) + m + 1) - (k : Int) * H) - gP H (w * (t : Int) - (k : Int) * H) else 0) ≤ w + H * ((m : Int) - q) := by
  have et : 0 ≤ w * (t : Int) := Int.mul_nonneg hw0 (by omega)
  have em : 0 ≤ w * (m : Int) := Int.mul_nonneg hw0 (by omega)
  have ee : w * ((t : Int) + m + 1) = w * t + w * m + w := by rw [Int.mul_add, Int.mul_add, Int.mul_one]
  have hmq := sq_mul m q hq hw0 hw1
  have hm0 := sq_mul m 0 (Nat.zero_le _) hw0 hw1
  rcases Nat.eq_zero_or_pos q with rfl | hq0
  · have h1 : sm K (fun k => if jv k = true then gP H (w * ((t : Int) + m + 1) - (k : Int) * H) - gP H (w * (t : Int) - (k : Int) * H) else 0) ≤ sm K (fun k => gP H (w * ((t : Int) + m + 1) - (k : Int) * H) - gP H (w * (t : Int) - (k : Int) * H)) :=
      sm_le fun k _ => by
        have := gP_mono h0 (show w * (t : Int) - (k : Int) * H ≤ w * ((t : Int) + m + 1) - (k : Int) * H by omega)
        by_cases e : jv k = true
        · rw [if_pos e]; exact Int.le_refl _
        · rw [if_neg e]; omega
    have h2 := gP_diff h0 et (show w * (t : Int) ≤ w * ((t : Int) + m + 1) by omega) K
    simp only [Int.natCast_zero, Int.sub_zero] at hm0 ⊢
    omega
  · have hd := hd hq0
    have eq1 : w * ((t : Int) + q) = w * t + w * q := Int.mul_add ..
    have et1 : w * ((t : Int) + 1) = w * t + w := by rw [Int.mul_add, Int.mul_one]
    have emq : w * ((m : Int) - q) = w * m - w * q := Int.mul_sub ..
    by_cases hj : ∃ j : Nat, jv j = true ∧ (j : Int) * H < w * ((t : Int) + q) ∧ w * (t : Int) < ((j : Int) + 1) * H
    · obtain ⟨j, j1, j2, j3⟩ := hj
      obtain ⟨d1, d2⟩ := hd j j1 j2
      have d2 := d2 j3 (q - 1) (by omega)
      have e1 : ((q - 1 : Nat) : Int) + 1 = q := by omega
      have e2 : ((j : Int) + (q - 1 : Nat) + 1) * H = (j : Int) * H + q * H := by rw [Int.add_assoc, e1, Int.add_mul]
      have e3 : w * ((t : Int) + (q - 1 : Nat) + 1) = w * t + w * q := by rw [Int.add_assoc, e1, Int.mul_add]
      rw [e2, e3] at d2
      have e4 : ((j : Int) + 1) * H = (j : Int) * H + H := by rw [Int.add_mul, Int.one_mul]
      rw [e4] at d1 j3
      have hsum := gP_tail (x := w * ((t : Int) + m + 1)) h0 (j + q + 1) K
      have e5 : ((j + q + 1 : Nat) : Int) * H = (j : Int) * H + q * H + H := by
        rw [Int.natCast_add, Int.natCast_add, Int.add_mul, Int.add_mul]; simp
      rw [e5] at hsum
      have hone : sm K (fun k => if k = j then (j : Int) * H + H - w * t else 0) ≤ (j : Int) * H + H - w * t := by
        by_cases hjK : j < K
        · rw [sm_one (t := j) hjK (fun i _ hi => if_neg hi), if_pos rfl]; exact Int.le_refl _
        · rw [sm_congr (g := fun _ => 0) (fun k hk => if_neg (by omega)), sm_zero]; omega
      have hall : sm K (fun k => if jv k = true then gP H (w * ((t : Int) + m + 1) - (k : Int) * H) - gP H (w * (t : Int) - (k : Int) * H) else 0) ≤
          sm K (fun k => (if k = j then (j : Int) * H + H - w * t else 0) + (if j + q + 1 ≤ k then gP H (w * ((t : Int) + m + 1) - (k : Int) * H) else 0)) := sm_le fun k _ => by
        have g1 := gP_cases h0 (w * ((t : Int) + m + 1) - (k : Int) * H)
        have g2 := gP_cases h0 (w * (t : Int) - (k : Int) * H)
        rcases Nat.lt_trichotomy k j with hk | rfl | hk
        · rw [if_neg (show ¬ k = j by omega), if_neg (show ¬ j + q + 1 ≤ k by omega)]
          have h4 := Int.mul_le_mul_of_nonneg_right (show (k : Int) + 1 ≤ (j : Int) by omega) (Int.le_of_lt h0)
          rw [Int.add_mul, Int.one_mul] at h4
          split <;> omega
        · rw [if_pos rfl, if_neg (show ¬ k + q + 1 ≤ k by omega)]
          split <;> omega
        · rw [if_neg (show ¬ k = j by omega)]
          by_cases hk2 : jv k = true
          · rw [if_pos hk2]
            have h5 : ¬ (k : Int) * H < w * ((t : Int) + q) := fun hh => by
              have h6 := (hd k hk2 hh).1
              have h7 := Int.mul_le_mul_of_nonneg_right (show (j : Int) + 1 + 1 ≤ (k : Int) + 1 by omega) (Int.le_of_lt h0)
              rw [Int.add_mul ((j : Int) + 1), Int.add_mul, Int.one_mul] at h7
              omega
            have h8 : j + q + 1 ≤ k := by
              apply Nat.lt_of_not_le
              intro hle
              have h7 := Int.mul_le_mul_of_nonneg_right (show (k : Int) ≤ (j : Int) + (q : Int) by omega) (Int.le_of_lt h0)
              rw [Int.add_mul] at h7
              omega
            rw [if_pos h8]; omega
          · rw [if_neg hk2]
            split <;> omega
      rw [sm_add] at hall
      have eHq : H * ((m : Int) - q) = H * m - q * H := by rw [Int.mul_sub, Int.mul_comm H (q : Int)]
      have hHm : w * (m : Int) ≤ H * m := Int.mul_le_mul_of_nonneg_right hw1 (by omega)
      have hnn : 0 ≤ H * ((m : Int) - q) := Int.mul_nonneg (Int.le_of_lt h0) (by omega)
      have hqH : 0 ≤ (q : Int) * H := Int.mul_nonneg (by omega) (Int.le_of_lt h0)
      have hmin : min (w * ((t : Int) + m + 1)) ((K : Int) * H) ≤ w * ((t : Int) + m + 1) := Int.min_le_left ..
      omega
    · have h1 : sm K (fun k => if jv k = true then gP H (w * ((t : Int) + m + 1) - (k : Int) * H) - gP H (w * (t : Int) - (k : Int) * H) else 0) ≤
          sm K (fun k => gP H (w * ((t : Int) + m + 1) - (k : Int) * H) - gP H (w * ((t : Int) + q) - (k : Int) * H)) := sm_le fun k _ => by
        have g0 := gP_mono h0 (show w * ((t : Int) + q) - (k : Int) * H ≤ w * ((t : Int) + m + 1) - (k : Int) * H by
          have : w * (q : Int) ≤ w * m := Int.mul_le_mul_of_nonneg_left (by omega) hw0
          omega)
        by_cases e : jv k = true
        · rw [if_pos e]
          have g1 := gP_cases h0 (w * ((t : Int) + m + 1) - (k : Int) * H)
          have g2 := gP_cases h0 (w * (t : Int) - (k : Int) * H)
          have g3 := gP_cases h0 (w * ((t : Int) + q) - (k : Int) * H)
          by_cases e2 : (k : Int) * H < w * ((t : Int) + q)
          · have e3 : ¬ w * (t : Int) < ((k : Int) + 1) * H := fun x => hj ⟨k, e, e2, x⟩
            rw [Int.add_mul, Int.one_mul] at e3
            omega
          · omega
        · rw [if_neg e]; omega
      have hq1 : w * (q : Int) ≤ w * m := Int.mul_le_mul_of_nonneg_left (by omega) hw0
      have hq2 : 0 ≤ w * (q : Int) := Int.mul_nonneg hw0 (by omega)
      have h2 := gP_diff h0 (show 0 ≤ w * ((t : Int) + q) by omega) (show w * ((t : Int) + q) ≤ w * ((t : Int) + m + 1) by omega) K
      omega
end

section
/-- From the slot t on, m subtasks from k on have each its deadline one slot later, and their windows overlap. -/
def cascP (H w : Int) (k t m : Nat) : Prop := ∀ p : Nat, p < m → w * ((t : Int) + p) < ((k : Int) + p + 1) * H ∧ ((k : Int) + p + 1) * H < w * ((t : Int) + p + 1)
def dueP (H : Int) (W : Nat → Int) (x : Nat × Nat) (s : Nat) : Prop := ((x.2 : Int) + 1) * H ≤ W x.1 * (s : Int)
/-- What the keys must respect: deadlines, and cascades. -/
structure KeyP (n K : Nat) (H : Int) (W : Nat → Int) (key : Nat × Nat → Nat) : Prop where
  dead : ∀ x y : Nat × Nat, x.1 < n → x.2 < K → y.1 < n → y.2 < K → key x ≤ key y → ∀ s : Nat, dueP H W y s → dueP H W x s
  casc : ∀ x y : Nat × Nat, x.1 < n → x.2 < K → y.1 < n → y.2 < K → key x ≤ key y → ∀ t m : Nat, 0 < m → cascP H (W y.1) y.2 t m → W x.1 * (t : Int) < ((x.2 : Int) + 1) * H → ∀ p : Nat, p < m → ((x.2 : Int) + p + 1) * H < W x.1 * ((t : Int) + p + 1)
theorem last_of {P : Nat → Prop} : ∀ {N : Nat}, P 0 → ¬ P N → ∃ t, t < N ∧ P t ∧ ∀ s, t < s → s ≤ N → ¬ P s
  | 0, h0, hN => absurd h0 hN
  | N + 1, h0, hN => by
    by_cases h : P N
    · exact ⟨N, by omega, h, fun s h1 h2 => by rw [show s = N + 1 by omega]; exact hN⟩
    · obtain ⟨t, h1, h2, h3⟩ := last_of h0 h
      refine ⟨t, by omega, h2, fun s a b => ?_⟩
      by_cases e : s ≤ N
      · exact h3 s a e
      · rw [show s = N + 1 by omega]; exact hN
theorem first_of {P : Nat → Prop} {N : Nat} (hN : ¬ P N) : ∃ m, m ≤ N ∧ ¬ P m ∧ ∀ p, p < m → P p := by
  induction N using Nat.strongRecOn with
  | _ N ih =>
    by_cases h : ∃ q, q < N ∧ ¬ P q
    · obtain ⟨q, h1, h2⟩ := h
      obtain ⟨m, a, b, c⟩ := ih q h1 h2
      exact ⟨m, by omega, b, c⟩
    · exact ⟨N, Nat.le_refl _, hN, fun p hp => Classical.byContradiction fun hh => h ⟨p, hp, hh⟩⟩
section
variable {n K M : Nat} {H : Int} {W : Nat → Int} {key : Nat × Nat → Nat} {J : Nat × Nat → Bool} {D : Nat → Nat × Nat → Bool}
def fluP (n K : Nat) (H : Int) (W : Nat → Int) (J : Nat × Nat → Bool) (x : Nat → Int) : Int := sm n fun i => sm K fun k => if J (i, k) = true then gP H (x i - (k : Int) * H) else 0
theorem due_mono (hS : Pd n K M H W key) {x : Nat × Nat} (hx : x.1 < n) {s s' : Nat} (h : dueP H W x s) (hs : s ≤ s') : dueP H W x s' := by
  unfold dueP at *
  have := Int.mul_le_mul_of_nonneg_left (show (s : Int) ≤ s' by omega) (hS.w0 _ hx)
  omega
theorem hole_runs (h : Run n K M H W key J D) {s : Nat} (hh : cntP n K (newP (D s) (D (s + 1))) < M) {x : Nat × Nat} (hx : ElP H W J (D s) s x) : newP (D s) (D (s + 1)) x = true := by
  cases e : newP (D s) (D (s + 1)) x with
  | true => rfl
  | false => have := ((h.pick s).full x hx e).1; omega
/-- What makes a subtask that is late the only one, and the last. -/
structure Late (n K M : Nat) (H : Int) (W : Nat → Int) (key : Nat × Nat → Nat) (J : Nat × Nat → Bool) (D : Nat → Nat × Nat → Bool) (x : Nat × Nat) (s0 : Nat) : Prop where
  mem : J x = true
  due : dueP H W x s0
  late : D s0 x = false
  others : ∀ y, J y = true → y ≠ x → ∀ s, dueP H W y s → D s y = true
  low : ∀ y, J y = true → key y ≤ key x
  drop : ∀ y, J y = true → y ≠ x → ∃ D', Run n K M H W key (outX J y) D' ∧ D' s0 x = true
/-- A hole is passed by a subtask and its successor alone. -/
theorem late_hole (hS : Pd n K M H W key) (hJ : inP n K J) (h : Run n K M H W key J D) {x : Nat × Nat} {s0 : Nat} (hL : Late n K M H W key J D x s0) {y : Nat × Nat} {t : Nat} (hy : J y = true) (hyx : y ≠ x) (ht : t < s0)
    (hdy : D (t + 1) y = true) (hh : cntP n K (newP (D t) (D (t + 1))) < M) :
    ∃ a : Nat × Nat, newP (D t) (D (t + 1)) a = true ∧ J (a.1, a.2 + 1) = true ∧ W a.1 * (t : Int) < ((a.2 : Int) + 1) * H ∧ ((a.2 : Int) + 1) * H < W a.1 * ((t : Int) + 1) ∧ key y ≤ key a ∧ (D t y = false → a = y) := by
  obtain ⟨D', h', hx'⟩ := hL.drop y hy hyx
  have hend : ¬ NoneP D D' y s0 := fun e => by
    have := (e.2 x (Ne.symm hyx)).1 hx'; rw [hL.late] at this; cases this
  rcases state_any hS hJ h h' hy t with e | ⟨z, hz⟩
  · exact absurd (none_later hS hJ h h' (Nat.le_of_lt ht) e) hend
  · rcases some_step hS hJ h h' hz with ⟨hc, hz1⟩ | ⟨hc, e⟩
    · exfalso
      rcases hz.was with e | ⟨_, e2⟩
      · rw [← e, hz1.new] at hdy; cases hdy
      · have := hole_runs h hh e2; rw [hc] at this; cases this
    · rcases e with e | ⟨a, ha, hspec⟩
      · exact absurd (none_later hS hJ h h' ht e) hend
      · obtain ⟨s1, s2, s3⟩ := hspec hh
        have hzx : z ≠ x := fun e => by
          have := h.le ht (newP_iff.1 hc).1
          rw [e, hL.late] at this; cases this
        have rz := hJ z hz.mem
        have w0 := hS.w0 _ rz.1
        have w1 := hS.w1 _ rz.1
        have hdue : W z.1 * (t : Int) < ((z.2 : Int) + 1) * H := by
          apply Int.lt_of_not_ge
          intro hge
          have := hL.others z hz.mem hzx t hge
          rw [hz.new] at this; cases this
        unfold relP at s3
        rw [s1] at s3
        have m1 := Int.mul_le_mul_of_nonneg_right (show (z.2 : Int) + 1 ≤ (a.2 : Int) by omega) (Int.le_of_lt hS.h0)
        have e1 : W z.1 * ((t : Int) + 1) = W z.1 * t + W z.1 := by rw [Int.mul_add, Int.mul_one]
        have hsuc : a.2 = z.2 + 1 := by
          apply Nat.le_antisymm _ (by omega)
          apply Nat.le_of_not_lt
          intro hlt
          have m2 := Int.mul_le_mul_of_nonneg_right (show (z.2 : Int) + 1 + 1 ≤ (a.2 : Int) by omega) (Int.le_of_lt hS.h0)
          rw [Int.add_mul ((z.2 : Int) + 1), Int.one_mul] at m2
          omega
        refine ⟨z, hc, ?_, hdue, by omega, hz.key, fun e => ?_⟩
        · rw [← s1, ← hsuc]; exact ha.mem
        · rcases hz.was with e2 | ⟨e2, _⟩
          · exact e2
          · rw [e] at e2; cases e2
/-- A task that runs in a hole runs in all holes that follow at once. -/
theorem late_chain (hS : Pd n K M H W key) (hJ : inP n K J) (h : Run n K M H W key J D) {x : Nat × Nat} {s0 : Nat} (hL : Late n K M H W key J D x s0) {i k s : Nat} (hs : s < s0) (hr : newP (D s) (D (s + 1)) (i, k) = true)
    (hh : cntP n K (newP (D s) (D (s + 1))) < M) :
    (W i * (s : Int) < ((k : Int) + 1) * H ∧ ((k : Int) + 1) * H < W i * ((s : Int) + 1)) ∧ (cntP n K (newP (D (s + 1)) (D (s + 1 + 1))) < M → newP (D (s + 1)) (D (s + 1 + 1)) (i, k + 1) = true) := by
  obtain ⟨r1, r2⟩ := newP_iff.1 hr
  have hE := (h.pick s).sub _ hr
  have hne : (i, k) ≠ x := fun e => by
    have := h.le hs r1
    rw [e, hL.late] at this; cases this
  obtain ⟨a, a1, a2, a3, a4, _, a6⟩ := late_hole hS hJ h hL hE.mem hne hs r1 hh
  have ha := a6 r2
  subst ha
  refine ⟨⟨a3, a4⟩, fun hh2 => hole_runs h hh2 ⟨a2, ?_, ?_, fun q hq hq' => ?_⟩⟩
  · cases e : D (s + 1) (i, k + 1) with
    | false => rfl
    | true =>
      obtain ⟨u, u1, u2⟩ := h.slot e
      have := ((h.pick u).sub _ u2).eld k (Nat.lt_succ_self _) hE.mem
      have := h.le (show u ≤ s by omega) this
      rw [r2] at this; cases this
  · unfold relP
    have w0 := hS.w0 i (hJ _ hE.mem).1
    have e1 : W i * (((s + 1 : Nat) : Int) + 1) = W i * ((s : Int) + 1) + W i := by rw [Int.mul_add, Int.mul_one]; simp
    simp only at a4 ⊢
    rw [e1]
    have : ((k + 1 : Nat) : Int) = (k : Int) + 1 := by omega
    rw [this]
    omega
  · by_cases e : q = k
    · subst e; exact r1
    · exact h.mono _ _ (hE.eld q (by simp only at hq ⊢; omega) hq')
theorem sm_ge (q : Nat) : ∀ m : Nat, q ≤ m → sm m (fun p => if q ≤ p then (1 : Int) else 0) = (m : Int) - q
  | 0, h => by simp [sm]; omega
  | m + 1, h => by
    rw [sm]
    by_cases e : q ≤ m
    · rw [sm_ge q m e, if_pos e]; omega
    · rw [if_neg e, sm_congr (g := fun _ => 0) (fun p hp => if_neg (by omega)), sm_zero]; omega
theorem cnt_run (h : Run n K M H W key J D) (s : Nat) : cntP n K (D (s + 1)) = cntP n K (D s) + cntP n K (newP (D s) (D (s + 1))) :=
  cnt_disj (fun x => by
    have := h.mono s x
    unfold newP
    cases e1 : D s x <;> cases e2 : D (s + 1) x <;> simp [e1, e2] at this ⊢) (fun x e1 e2 => by rw [(newP_iff.1 e2).2] at e1; cases e1)
theorem cnt_runs (h : Run n K M H W key J D) (t : Nat) : ∀ m : Nat, cntP n K (D (t + m)) = cntP n K (D t) + sm m (fun p => cntP n K (newP (D (t + p)) (D (t + p + 1))))
  | 0 => by simp [sm]
  | m + 1 => by rw [sm, ← Nat.add_assoc, cnt_run h, cnt_runs h t m]; omega
theorem not_late (hS : Pd n K M H W key) (hK : KeyP n K H W key) (hJ : inP n K J) (h : Run n K M H W key J D) {x : Nat × Nat} {s0 : Nat} (hL : Late n K M H W key J D x s0) : False := by
  have hH := hS.h0
  have rx := hJ x hL.mem
  let L : Nat → Int := fun s => fluP n K H W J (fun i => W i * (s : Int)) - H * cntP n K (D s)
  have hL0 : L 0 < H := by
    have e1 : cntP n K (D 0) = 0 := by
      rw [show D 0 = fun _ => false from funext h.zero]; exact cnt_zero
    have e2 : fluP n K H W J (fun i => W i * ((0 : Nat) : Int)) = 0 := by
      unfold fluP
      rw [sm_congr (g := fun _ => 0) (fun i _ => by
        rw [sm_congr (g := fun _ => 0) (fun k _ => by
          have := gP_cases hH (W i * ((0 : Nat) : Int) - (k : Int) * H)
          have h2 : 0 ≤ (k : Int) * H := Int.mul_nonneg (by omega) (Int.le_of_lt hH)
          simp only [Int.natCast_zero, Int.mul_zero] at this ⊢
          split <;> omega), sm_zero]), sm_zero]
    show fluP n K H W J (fun i => W i * ((0 : Nat) : Int)) - H * cntP n K (D 0) < H
    rw [e1, e2]; omega
  have hL1 : ¬ L s0 < H := by
    have e1 : fluP n K H W J (fun i => W i * (s0 : Int)) = H * cntP n K J := by
      unfold fluP cntP
      rw [← sm_mul]
      refine sm_congr fun i hi => ?_
      rw [← sm_mul]
      refine sm_congr fun k hk => ?_
      show (if J (i, k) = true then gP H (W i * (s0 : Int) - (k : Int) * H) else 0) = H * (if J (i, k) = true then 1 else 0)
      by_cases e : J (i, k) = true
      · rw [if_pos e, if_pos e]
        have hdue := hK.dead (i, k) x hi hk rx.1 rx.2 (hL.low _ e) s0 hL.due
        unfold dueP at hdue
        simp only [Int.add_mul, Int.one_mul] at hdue
        have := gP_cases hH (W i * (s0 : Int) - (k : Int) * H)
        omega
      · rw [if_neg e, if_neg e]; omega
    have e2 : cntP n K (D s0) + 1 ≤ cntP n K J := cnt_lt rx.1 rx.2 (fun y hy => h.sub hy) hL.late hL.mem
    have e3 : H * (cntP n K (D s0) + 1) ≤ H * cntP n K J := Int.mul_le_mul_of_nonneg_left e2 (Int.le_of_lt hH)
    rw [Int.mul_add, Int.mul_one] at e3
    show ¬ (fluP n K H W J (fun i => W i * (s0 : Int)) - H * cntP n K (D s0) < H)
    rw [e1]; omega
  obtain ⟨t, ht, hLt, hLs⟩ := last_of (P := fun s => L s < H) hL0 hL1
  -- the slot before s0 is full
  have hful : ∀ u, u + 1 = s0 → ¬ cntP n K (newP (D u) (D (u + 1))) < M := fun u hu hh => by
    subst hu
    have hnew : D u x = false := by
      cases e : D u x with
      | false => rfl
      | true => have := h.mono _ _ e; rw [hL.late] at this; cases this
    have w0 := hS.w0 _ rx.1
    have w1 := hS.w1 _ rx.1
    have hdue := hL.due
    unfold dueP at hdue
    simp only [Int.natCast_add, Int.natCast_one, Int.mul_add, Int.mul_one, Int.add_mul, Int.one_mul] at hdue
    have hE : ElP H W J (D u) u x := ⟨hL.mem, hnew, by
      unfold relP
      rw [Int.mul_add, Int.mul_one]; omega, fun k hk hk' => hL.others _ hk' (fun e => by rw [← e] at hk; exact Nat.lt_irrefl _ hk) u (by
        unfold dueP
        have := Int.mul_le_mul_of_nonneg_right (show (k : Int) + 1 ≤ (x.2 : Int) by omega) (Int.le_of_lt hH)
        simp only
        omega)⟩
    have := (newP_iff.1 (hole_runs h hh hE)).1
    rw [hL.late] at this; cases this
  have hMH : ∀ s, fluP n K H W J (fun i => W i * ((s + 1 : Nat) : Int)) - fluP n K H W J (fun i => W i * (s : Int)) ≤ (M : Int) * H := fun s => by
    refine Int.le_trans ?_ hS.load
    unfold fluP
    rw [← sm_sub]
    refine sm_le fun i hi => ?_
    have w0 := hS.w0 i hi
    rw [← sm_sub]
    have e1 : W i * ((s + 1 : Nat) : Int) = W i * s + W i := by rw [Int.natCast_add, Int.mul_add]; simp
    have a1 : sm K (fun k => (if J (i, k) = true then gP H (W i * ((s + 1 : Nat) : Int) - (k : Int) * H) else 0) - (if J (i, k) = true then gP H (W i * (s : Int) - (k : Int) * H) else 0)) ≤
        sm K (fun k => gP H (W i * ((s + 1 : Nat) : Int) - (k : Int) * H) - gP H (W i * (s : Int) - (k : Int) * H)) := sm_le fun k _ => by
      have := gP_mono hH (show W i * (s : Int) - (k : Int) * H ≤ W i * ((s + 1 : Nat) : Int) - (k : Int) * H by omega)
      split <;> omega
    have a2 := gP_diff hH (show 0 ≤ W i * (s : Int) from Int.mul_nonneg w0 (by omega)) (show W i * (s : Int) ≤ W i * ((s + 1 : Nat) : Int) by omega) K
    exact Int.le_trans a1 (Int.le_trans a2 (by omega))
  -- holes from t on
  have hhole : cntP n K (newP (D t) (D (t + 1))) < M := by
    apply Int.lt_of_not_ge
    intro hge
    have a1 : ¬ L (t + 1) < H := hLs (t + 1) (by omega) (by omega)
    have a2 := hMH t
    have a3 := cnt_run h t
    have a4 : (M : Int) * H ≤ H * cntP n K (newP (D t) (D (t + 1))) := by
      rw [Int.mul_comm]; exact Int.mul_le_mul_of_nonneg_left hge (Int.le_of_lt hH)
    have a5 : fluP n K H W J (fun i => W i * (t : Int)) - H * cntP n K (D t) < H := hLt
    have a6 : ¬ (fluP n K H W J (fun i => W i * ((t + 1 : Nat) : Int)) - H * cntP n K (D (t + 1)) < H) := a1
    rw [a3, Int.mul_add] at a6
    omega
  obtain ⟨m, hm, hmf, hmh⟩ := first_of (P := fun p => cntP n K (newP (D (t + p)) (D (t + p + 1))) < M) (N := s0 - 1 - t) (by
    have := hful (t + (s0 - 1 - t)) (by omega)
    exact this)
  have hm0 : 0 < m := by
    rcases Nat.eq_zero_or_pos m with e | e
    · subst e; exact absurd hhole hmf
    · exact e
  -- chains
  have hchain : ∀ (i q k : Nat), newP (D (t + q)) (D (t + q + 1)) (i, k) = true → ∀ p, q + p < m → newP (D (t + (q + p))) (D (t + (q + p) + 1)) (i, k + p) = true := fun i q k h1 p => by
    induction p with
    | zero => intro _; exact h1
    | succ p ih =>
      intro hp
      have a := ih (by omega)
      have := (late_chain hS hJ h hL (by omega) a (hmh _ (by omega))).2 (hmh (q + p + 1) (by omega))
      exact this
  have hcasc : ∀ i k, newP (D t) (D (t + 1)) (i, k) = true → cascP H (W i) k t m := fun i k h1 p hp => by
    have a := hchain i 0 k h1 p (by omega)
    rw [Nat.zero_add] at a
    have b := (late_chain hS hJ h hL (by omega) a (hmh p hp)).1
    have e1 : ((t + p : Nat) : Int) = (t : Int) + p := by omega
    have e2 : ((k + p : Nat) : Int) = (k : Int) + p := by omega
    rw [e1, e2] at b
    exact b
  -- the first hole in which a task runs
  have hq : ∀ i, ∃ q, q ≤ m ∧ (q < m → ∃ k, newP (D (t + q)) (D (t + q + 1)) (i, k) = true) ∧ ∀ p, p < q → ∀ k, newP (D (t + p)) (D (t + p + 1)) (i, k) = false := fun i => by
    obtain ⟨q, q1, q2, q3⟩ := first_of (P := fun p => p < m ∧ ∀ k, newP (D (t + p)) (D (t + p + 1)) (i, k) = false) (N := m) (fun hh => Nat.lt_irrefl _ hh.1)
    refine ⟨q, q1, fun hlt => ?_, fun p hp => (q3 p hp).2⟩
    refine Classical.byContradiction fun hh => q2 ⟨hlt, fun k => ?_⟩
    cases e : newP (D (t + q)) (D (t + q + 1)) (i, k) with
    | false => rfl
    | true => exact absurd ⟨k, e⟩ hh
  let Q : Nat → Nat := fun i => Classical.choose (hq i)
  have hQ : ∀ i, Q i ≤ m ∧ (Q i < m → ∃ k, newP (D (t + Q i)) (D (t + Q i + 1)) (i, k) = true) ∧ ∀ p, p < Q i → ∀ k, newP (D (t + p)) (D (t + p + 1)) (i, k) = false := fun i => Classical.choose_spec (hq i)
  -- what runs in the holes
  have hran : sm n (fun i => (m : Int) - Q i) ≤ sm m (fun p => cntP n K (newP (D (t + p)) (D (t + p + 1)))) := by
    have e1 : sm n (fun i => (m : Int) - Q i) = sm m (fun p => sm n (fun i => if Q i ≤ p then (1 : Int) else 0)) := by
      rw [← sm_swap]
      exact sm_congr fun i _ => (sm_ge (Q i) m (hQ i).1).symm
    rw [e1]
    refine sm_le fun p hp => sm_le fun i hi => ?_
    have hnn : ∀ k, k < K → 0 ≤ (if newP (D (t + p)) (D (t + p + 1)) (i, k) = true then (1 : Int) else 0) := fun k _ => by split <;> omega
    by_cases e : Q i ≤ p
    · rw [if_pos e]
      obtain ⟨k, hk⟩ := (hQ i).2.1 (by omega)
      have hk2 := hchain i (Q i) k hk (p - Q i) (by omega)
      rw [show Q i + (p - Q i) = p by omega] at hk2
      have hkK : k + (p - Q i) < K := (hJ _ ((h.pick _).sub _ hk2).mem).2
      have := sm_term hnn hkK
      simp only [hk2, if_true] at this
      exact this
    · rw [if_neg e]; exact sm_nonneg hnn
  -- what the tasks get in the fluid schedule
  have hget : fluP n K H W J (fun i => W i * ((t : Int) + m + 1)) - fluP n K H W J (fun i => W i * (t : Int)) ≤ sm n (fun i => W i + H * ((m : Int) - Q i)) := by
    unfold fluP
    rw [← sm_sub]
    refine sm_le fun i hi => ?_
    rw [← sm_sub]
    have hbase := task_fl (K := K) (fun k => J (i, k)) t m (Q i) hH (hS.w0 i hi) (hS.w1 i hi) (hQ i).1 (fun hq0 k hk hrel => by
      have hQm := (hQ i).1
      -- it has run before t
      have hnot : D t (i, k) = true := by
        cases hDt : D t (i, k) with
        | true => rfl
        | false =>
          exfalso
          have hno : ∀ p, p < Q i → D (t + p) (i, k) = false := fun p => by
            induction p with
            | zero => intro _; exact hDt
            | succ p ih =>
              intro hp
              have a := ih (by omega)
              have b := (hQ i).2.2 p (by omega) k
              cases e : D (t + (p + 1)) (i, k) with
              | false => rfl
              | true =>
                have e' : newP (D (t + p)) (D (t + p + 1)) (i, k) = true := newP_iff.2 ⟨e, a⟩
                rw [e'] at b; cases b
          have hk1 := hno (Q i - 1) (by omega)
          obtain ⟨k0, ⟨c1, c2, c3⟩, c4⟩ := min_of (key := fun x : Nat × Nat => x.2) (fun x => x.1 = i ∧ J (i, x.2) = true ∧ D (t + (Q i - 1)) (i, x.2) = false) ⟨(i, k), rfl, hk, hk1⟩
          have hle : k0.2 ≤ k := c4 (i, k) ⟨rfl, hk, hk1⟩
          have hE : ElP H W J (D (t + (Q i - 1))) (t + (Q i - 1)) (i, k0.2) := ⟨c2, c3, by
            unfold relP
            have m1 := Int.mul_le_mul_of_nonneg_right (show (k0.2 : Int) ≤ (k : Int) by omega) (Int.le_of_lt hH)
            have e1 : ((t + (Q i - 1) : Nat) : Int) + 1 = (t : Int) + Q i := by omega
            simp only [e1]
            omega, fun p hp hp' => by
              cases e : D (t + (Q i - 1)) (i, p) with
              | true => rfl
              | false =>
                have := c4 (i, p) ⟨rfl, hp', e⟩
                simp only at this hp; omega⟩
          have := hole_runs h (hmh (Q i - 1) (by omega)) hE
          rw [(hQ i).2.2 (Q i - 1) (by omega) k0.2] at this; cases this
      have hne : (i, k) ≠ x := fun e => by
        have := h.le (Nat.le_of_lt ht) hnot
        rw [e, hL.late] at this; cases this
      obtain ⟨a, a1, a2, a3, a4, a5, _⟩ := late_hole hS hJ h hL hk hne ht (h.mono _ _ hnot) hhole
      have ra := hJ a ((h.pick t).sub _ a1).mem
      have rk := hJ _ hk
      have hd := hK.dead (i, k) a rk.1 rk.2 ra.1 ra.2 a5 (t + 1) (by unfold dueP; rw [Int.natCast_add]; exact Int.le_of_lt a4)
      unfold dueP at hd
      rw [Int.natCast_add] at hd
      refine ⟨hd, fun hlt => ?_⟩
      exact hK.casc (i, k) a rk.1 rk.2 ra.1 ra.2 a5 t m hm0 (hcasc a.1 a.2 a1) hlt)
    refine Int.le_trans (Int.le_of_eq (sm_congr fun k _ => ?_)) hbase
    by_cases e : J (i, k) = true
    · rw [if_pos e, if_pos e, if_pos e]
    · rw [if_neg e, if_neg e, if_neg e]; omega
  -- the sum
  have hfin : ¬ L (t + m + 1) < H := hLs (t + m + 1) (by omega) (by omega)
  have hc := cnt_runs h t (m + 1)
  rw [sm] at hc
  have hM : (M : Int) ≤ cntP n K (newP (D (t + m)) (D (t + m + 1))) := Int.not_lt.1 hmf
  rw [sm_add, sm_mul] at hget
  have hload := hS.load
  have b1 : H * sm n (fun i => (m : Int) - Q i) + (M : Int) * H ≤ H * (sm m (fun p => cntP n K (newP (D (t + p)) (D (t + p + 1)))) + cntP n K (newP (D (t + m)) (D (t + m + 1)))) := by
    rw [Int.mul_comm (M : Int) H, ← Int.mul_add]
    exact Int.mul_le_mul_of_nonneg_left (by omega) (Int.le_of_lt hH)
  have b2 : fluP n K H W J (fun i => W i * (t : Int)) - H * cntP n K (D t) < H := hLt
  have b3 : ¬ (fluP n K H W J (fun i => W i * ((t + m + 1 : Nat) : Int)) - H * cntP n K (D (t + m + 1)) < H) := hfin
  have e1 : ((t + m + 1 : Nat) : Int) = (t : Int) + m + 1 := by omega
  rw [e1, show t + m + 1 = t + (m + 1) from rfl, hc, Int.mul_add H (cntP n K (D t))] at b3
  omega
/-- Every subtask runs before its deadline. -/
theorem pd_main (hS : Pd n K M H W key) (hK : KeyP n K H W key) : ∀ (N : Nat) (J : Nat × Nat → Bool) (D : Nat → Nat × Nat → Bool), inP n K J → cntP n K J ≤ N → Run n K M H W key J D → ∀ x, J x = true → ∀ s, dueP H W x s → D s x = true
  | 0, J, D, hJ, hN, _, x, hx, _, _ => by
    have := cnt_lt (n := n) (K := K) (p := fun _ => false) (q := J) (hJ x hx).1 (hJ x hx).2 (fun _ h => by cases h) rfl hx
    rw [cnt_zero] at this
    omega
  | N + 1, J, D, hJ, hN, h, x, hx, s, hs => by
    cases hmiss : D s x with
    | true => rfl
    | false =>
      exfalso
      have hdrop : ∀ y, J y = true → ∀ x, J x = true → x ≠ y → ∀ s, dueP H W x s → ∃ D', Run n K M H W key (outX J y) D' ∧ D' s x = true := fun y hy x hx hne s hs => by
        have hJ' : inP n K (outX J y) := fun w hw => hJ w (outX_iff.1 hw).1
        obtain ⟨D', h'⟩ := run_ex hS hJ'
        have hlt := cnt_lt (n := n) (K := K) (p := outX J y) (q := J) (hJ y hy).1 (hJ y hy).2 (fun w hw => (outX_iff.1 hw).1) (by simp [outX]) hy
        exact ⟨D', h', pd_main hS hK N (outX J y) D' hJ' (by omega) h' x (outX_iff.2 ⟨hx, hne⟩) s hs⟩
      have hlow : ∀ x s, J x = true → dueP H W x s → D s x = false → ∀ y, J y = true → y ≠ x → key y < key x := fun x s hx hs hm y hy hne => by
        apply Nat.lt_of_not_le
        intro hle
        obtain ⟨D', h', hx'⟩ := hdrop y hy x hx (Ne.symm hne) s hs
        rcases state_any hS hJ h h' hy s with e | ⟨z, hz⟩
        · have := (e.2 x (Ne.symm hne)).1 hx'; rw [hm] at this; cases this
        · rcases (hz.iff x (Ne.symm hne)).1 hx' with e | e
          · rw [hm] at e; cases e
          · have h1 := hz.key
            rw [← e] at h1
            have := hS.inj x y (hJ x hx).1 (hJ x hx).2 (hJ y hy).1 (hJ y hy).2 (by omega)
            exact hne this.symm
      refine not_late hS hK hJ h (x := x) (s0 := s) ⟨hx, hs, hmiss, fun y hy hne s' hs' => ?_, fun y hy => ?_, fun y hy hne => hdrop y hy x hx (Ne.symm hne) s hs⟩
      · cases e : D s' y with
        | true => rfl
        | false =>
          have a := hlow y s' hy hs' e x hx (Ne.symm hne)
          have b := hlow x s hx hs hmiss y hy hne
          omega
      · by_cases e : y = x
        · rw [e]; exact Nat.le_refl _
        · exact Nat.le_of_lt (hlow x s hx hs hmiss y hy e)
end
end

section
def vtB (c p : Int) : Bool := decide (1 ≤ c ∧ c ≤ p ∧ p ≤ 1000)
theorem vtB_true {c p : Int} (h : vtB c p = true) : 1 ≤ c ∧ c ≤ p ∧ p ≤ 1000 := by simpa [vtB] using h
theorem vtB_false {c p : Int} (h : vtB c p = false) : ¬ (1 ≤ c ∧ c ≤ p ∧ p ≤ 1000) := by simpa [vtB] using h


def wE (c p i : Int) : Int := if vtB c p then (if 1 ≤ i ∧ i ≤ c then 0 else 2) else 1
def wI (c p i : Int) : Int := if wE c p i = 0 then i else 0
def wR (c p i : Int) : Int := if wE c p i = 0 then (i - 1) * p / c else 0
def wD (c p i : Int) : Int := if wE c p i = 0 then (i * p + c - 1) / c else 0
theorem wE_inv {c p i : Int} (h : vtB c p = false) : wE c p i = 1 := by simp [wE, h]
theorem wE_out {c p i : Int} (h : vtB c p = true) (hi : ¬ (1 ≤ i ∧ i ≤ c)) : wE c p i = 2 := by simp [wE, h, hi]
theorem wE_ok {c p i : Int} (h : vtB c p = true) (hi : 1 ≤ i) (hj : i ≤ c) : wE c p i = 0 := by simp [wE, h, hi, hj]
theorem wE_cases (c p i : Int) : (wE c p i = 1 ∧ vtB c p = false) ∨ (wE c p i = 2 ∧ vtB c p = true ∧ ¬ (1 ≤ i ∧ i ≤ c)) ∨ (wE c p i = 0 ∧ vtB c p = true ∧ 1 ≤ i ∧ i ≤ c) := by
  by_cases hv : vtB c p = true
  · by_cases hi : 1 ≤ i ∧ i ≤ c
    · exact .inr (.inr ⟨wE_ok hv hi.1 hi.2, hv, hi⟩)
    · exact .inr (.inl ⟨wE_out hv hi, hv, hi⟩)
  · have hv : vtB c p = false := by simpa using hv
    exact .inl ⟨wE_inv hv, hv⟩
theorem mul_bd {i p : Int} (h1 : 0 ≤ i) (h2 : i ≤ 1000) (h3 : 0 ≤ p) (h4 : p ≤ 1000) : 0 ≤ i * p ∧ i * p ≤ 1000000 := by
  refine ⟨Int.mul_nonneg h1 h3, ?_⟩
  calc i * p ≤ 1000 * 1000 := Int.mul_le_mul h2 h4 h3 (by decide)
    _ = 1000000 := by decide


def ovB (c p i : Int) : Bool := decide (wE c p i = 0) && (i * p % c != 0)
theorem wE0 {c p i : Int} (hE : wE c p i = 0) : 1 ≤ c ∧ c ≤ p ∧ p ≤ 1000 ∧ 1 ≤ i ∧ i ≤ c := by
  rcases wE_cases c p i with ⟨h, _⟩ | ⟨h, _⟩ | ⟨_, hv, hi, hj⟩
  · omega
  · omega
  · obtain ⟨a1, a2, a3⟩ := vtB_true hv
    exact ⟨a1, a2, a3, hi, hj⟩
def hvB (c p : Int) : Bool := vtB c p && decide (c < p) && decide (p ≤ 2 * c)

def endN (p g m : Int) : Int := (m * p + g - 1) / g


def grp (c p i : Int) : Int := if wE c p i = 0 ∧ hvB c p = true then endN p (p - c) ((wD c p i - 1) * (p - c) / p + 1) else 0
theorem grp_err {c p i : Int} (h : ¬ wE c p i = 0) : grp c p i = 0 := by simp [grp, h]
theorem grp_light {c p i : Int} (h : hvB c p = false) : grp c p i = 0 := by simp [grp, h]
theorem hv_bd {c p : Int} (h : hvB c p = true) : 1 ≤ c ∧ c < p ∧ p ≤ 1000 ∧ p ≤ 2 * c := by
  simp only [hvB, Bool.and_eq_true, decide_eq_true_eq] at h
  obtain ⟨⟨h1, h2⟩, h3⟩ := h
  obtain ⟨a, b, c⟩ := vtB_true h1
  exact ⟨a, h2, c, h3⟩

theorem wD_bd {c p i : Int} (h : wE c p i = 0) : 1 ≤ wD c p i ∧ wD c p i ≤ p := by
  obtain ⟨v1, v2, v3, hi, hj⟩ := wE0 h
  have e : wD c p i = (i * p + c - 1) / c := by simp [wD, h]
  rw [e]
  have h1 : p ≤ i * p := by
    calc p = 1 * p := by omega
      _ ≤ i * p := Int.mul_le_mul_of_nonneg_right hi (by omega)
  have h2 : i * p ≤ c * p := Int.mul_le_mul_of_nonneg_right hj (by omega)
  constructor
  · rw [Int.le_ediv_iff_mul_le (by omega)]; omega
  · have : (i * p + c - 1) / c ≤ (p * c + (c - 1)) / c := Int.ediv_le_ediv (by omega) (by rw [Int.mul_comm p c]; omega)
    have e2 : (p * c + (c - 1)) / c = p := by
      rw [Int.add_comm, Int.add_mul_ediv_right _ _ (by omega), Int.ediv_eq_zero_of_lt (by omega) (by omega)]; omega
    omega

theorem search_is {p g d r : Int} (hp : 1 ≤ p) (hg : 1 ≤ g) (hgp : g ≤ p) (hd : 1 ≤ d) (hdp : d ≤ p) (h0 : 0 ≤ r) (hN : r ≤ g - 1) (hlo : r = 0 ∨ endN p g r < d) (hhi : r = g - 1 ∨ d ≤ endN p g (r + 1)) :
    r = (d - 1) * g / p := by
  have key : ∀ m : Int, d ≤ endN p g m ↔ (d - 1) * g < m * p := by
    intro m
    unfold endN
    rw [Int.le_ediv_iff_mul_le (by omega)]
    have : (d - 1) * g = d * g - g := by rw [Int.sub_mul]; omega
    omega
  have h1 : r * p ≤ (d - 1) * g := by
    rcases hlo with rfl | h
    · have : 0 ≤ (d - 1) * g := Int.mul_nonneg (by omega) (by omega)
      omega
    · have := key r
      omega
  have h2 : (d - 1) * g < (r + 1) * p := by
    rcases hhi with rfl | h
    · have e : (g - 1 + 1) * p = g * p := by congr 1; omega
      rw [e, Int.mul_comm g p]
      exact Int.mul_lt_mul_of_pos_right (by omega) (by omega)
    · exact (key (r + 1)).1 h
  have h3 : r ≤ (d - 1) * g / p := (Int.le_ediv_iff_mul_le (by omega)).2 h1
  have h4 : (d - 1) * g / p < r + 1 := (Int.ediv_lt_iff_lt_mul (by omega)).2 h2
  omega


def endsV (c p r i : Int) : Int := if hvB c p then r + grp c p i else 0
def o01 (b : Bool) : Int := if b then 1 else 0
def bfP (n1 c1 p1 r1 i1 n2 c2 p2 r2 i2 : Int) : Prop :=
  r1 + wD c1 p1 i1 < r2 + wD c2 p2 i2 ∨ (r1 + wD c1 p1 i1 = r2 + wD c2 p2 i2 ∧
    (o01 (ovB c2 p2 i2) < o01 (ovB c1 p1 i1) ∨ (o01 (ovB c1 p1 i1) = o01 (ovB c2 p2 i2) ∧
      ((o01 (ovB c1 p1 i1) = 1 ∧ endsV c2 p2 r2 i2 < endsV c1 p1 r1 i1) ∨ ((o01 (ovB c1 p1 i1) = 0 ∨ endsV c1 p1 r1 i1 = endsV c2 p2 r2 i2) ∧ n1 < n2)))))
instance (n1 c1 p1 r1 i1 n2 c2 p2 r2 i2 : Int) : Decidable (bfP n1 c1 p1 r1 i1 n2 c2 p2 r2 i2) := by unfold bfP; infer_instance
def bfB (n1 c1 p1 r1 i1 n2 c2 p2 r2 i2 : Int) : Bool := decide (bfP n1 c1 p1 r1 i1 n2 c2 p2 r2 i2)



def hitB (c p t k : Int) : Bool := (decide (t = wD c p k) && !ovB c p k) || (decide (t + 1 = wD c p k) && decide (wD c p k - wR c p k = 3))

theorem ceil_iff {K c t : Int} (hc : 1 ≤ c) : (K + c - 1) / c = t ↔ t * c - c < K ∧ K ≤ t * c := by
  constructor
  · intro h
    have h1 := (Int.le_ediv_iff_mul_le (a := t) (b := K + c - 1) (c := c) (by omega)).1 (by omega)
    have h2 := (Int.ediv_lt_iff_lt_mul (a := K + c - 1) (b := t + 1) (c := c) (by omega)).1 (by omega)
    rw [Int.add_mul] at h2
    omega
  · rintro ⟨h1, h2⟩
    have h3 := (Int.le_ediv_iff_mul_le (a := t) (b := K + c - 1) (c := c) (by omega)).2 (by omega)
    have h4 := (Int.ediv_lt_iff_lt_mul (a := K + c - 1) (b := t + 1) (c := c) (by omega)).2 (by rw [Int.add_mul]; omega)
    omega
theorem floor_iff {K c t : Int} (hc : 1 ≤ c) : K / c = t ↔ t * c ≤ K ∧ K < t * c + c := by
  constructor
  · intro h
    have h1 := (Int.le_ediv_iff_mul_le (a := t) (b := K) (c := c) (by omega)).1 (by omega)
    have h2 := (Int.ediv_lt_iff_lt_mul (a := K) (b := t + 1) (c := c) (by omega)).1 (by omega)
    rw [Int.add_mul] at h2
    omega
  · rintro ⟨h1, h2⟩
    have h3 := (Int.le_ediv_iff_mul_le (a := t) (b := K) (c := c) (by omega)).2 (by omega)
    have h4 := (Int.ediv_lt_iff_lt_mul (a := K) (b := t + 1) (c := c) (by omega)).2 (by rw [Int.add_mul]; omega)
    omega

section
variable {c p : Int}
theorem wD_eq {k : Int} (h : wE c p k = 0) : wD c p k = (k * p + c - 1) / c := by simp [wD, h]
theorem wR_eq {k : Int} (h : wE c p k = 0) : wR c p k = (k * p - p) / c := by simp [wR, h, Int.sub_mul]
theorem ov_false {k : Int} (h : wE c p k = 0) (hc : 1 ≤ c) : ovB c p k = false ↔ ∃ t, k * p = t * c := by
  simp only [ovB, h, decide_true, Bool.true_and, bne_eq_false_iff_eq]
  constructor
  · intro hm
    exact ⟨k * p / c, (Int.ediv_mul_cancel (Int.dvd_of_emod_eq_zero hm)).symm⟩
  · rintro ⟨t, ht⟩
    rw [ht]; exact Int.mul_emod_left _ _

theorem hit_iff (hv : hvB c p = true) {t : Int} (ht1 : 1 ≤ t) (ht2 : t ≤ p) :
    (∃ k, 1 ≤ k ∧ k ≤ c ∧ hitB c p t k = true) ↔ ∃ m, t * (p - c) - (p - c) < m * p ∧ m * p ≤ t * (p - c) := by
  obtain ⟨v1, v2, v3, v4⟩ := hv_bd hv
  have hvt : vtB c p = true := by simp [vtB]; omega
  have eg : t * (p - c) = t * p - t * c := Int.mul_sub _ _ _
  constructor
  · rintro ⟨k, k1, k2, hk⟩
    have hE : wE c p k = 0 := wE_ok hvt k1 k2
    refine ⟨t - k, ?_⟩
    have em : (t - k) * p = t * p - k * p := Int.sub_mul _ _ _
    rw [eg, em]
    simp only [hitB, Bool.or_eq_true, Bool.and_eq_true, decide_eq_true_eq, Bool.not_eq_true'] at hk
    rcases hk with ⟨h1, h2⟩ | ⟨h1, h2⟩
    · obtain ⟨s, hs⟩ := (ov_false hE v1).1 h2
      have h3 := (ceil_iff v1).1 ((wD_eq hE).symm.trans h1.symm)
      have : s = t := by
        have a1 : t * c - c < s * c := by omega
        have a2 : s * c ≤ t * c := by omega
        have b1 : s ≤ t := Int.le_of_mul_le_mul_right a2 (by omega)
        have b2 : t - 1 < s := by
          refine Int.lt_of_mul_lt_mul_right (a := c) ?_ (by omega)
          rw [Int.sub_mul]; omega
        omega
      subst this
      omega
    · have h3 := (ceil_iff v1).1 ((wD_eq hE).symm.trans h1.symm)
      have h4 := (floor_iff v1).1 ((wR_eq hE).symm.trans (show wR c p k = t - 2 by omega))
      rw [Int.add_mul] at h3
      rw [Int.sub_mul] at h4
      omega
  · rintro ⟨m, hm1, hm2⟩
    have em : (t - m) * p = t * p - m * p := Int.sub_mul _ _ _
    rw [eg] at hm1 hm2
    generalize hk : t - m = k at em
    have hTp : t * c ≤ p * c := Int.mul_le_mul_of_nonneg_right ht2 (by omega)
    have hT0 : c ≤ t * c := by
      calc c = 1 * c := by omega
        _ ≤ t * c := Int.mul_le_mul_of_nonneg_right ht1 (by omega)
    have k1 : 1 ≤ k := by
      have : 0 * p < k * p := by omega
      have := Int.lt_of_mul_lt_mul_right this (by omega)
      omega
    have k2 : k ≤ c := by
      have : (k - 1) * p < c * p := by rw [Int.sub_mul, Int.mul_comm c p]; omega
      have := Int.lt_of_mul_lt_mul_right this (by omega)
      omega
    have hE : wE c p k = 0 := wE_ok hvt k1 k2
    refine ⟨k, k1, k2, ?_⟩
    simp only [hitB, Bool.or_eq_true, Bool.and_eq_true, decide_eq_true_eq, Bool.not_eq_true']
    by_cases hK : k * p = t * c
    · left
      refine ⟨?_, (ov_false hE v1).2 ⟨t, hK⟩⟩
      rw [wD_eq hE]; exact ((ceil_iff v1).2 (by omega)).symm
    · right
      have e1 : wD c p k = t + 1 := by rw [wD_eq hE]; exact (ceil_iff v1).2 (by rw [Int.add_mul]; omega)
      have e2 : wR c p k = t - 2 := by rw [wR_eq hE]; exact (floor_iff v1).2 (by rw [Int.sub_mul]; omega)
      omega

theorem grp_spec {i : Int} (hv : hvB c p = true) (hE : wE c p i = 0) :
    wD c p i ≤ grp c p i ∧ grp c p i ≤ p ∧ (∃ m, grp c p i * (p - c) - (p - c) < m * p ∧ m * p ≤ grp c p i * (p - c)) ∧
      ∀ t, wD c p i ≤ t → t < grp c p i → ¬ ∃ m, t * (p - c) - (p - c) < m * p ∧ m * p ≤ t * (p - c) := by
  obtain ⟨v1, v2, v3, v4⟩ := hv_bd hv
  obtain ⟨d1, d2⟩ := wD_bd hE
  have e : grp c p i = endN p (p - c) ((wD c p i - 1) * (p - c) / p + 1) := by simp [grp, hE, hv]
  generalize wD c p i = d at *
  generalize hg : p - c = g at *
  have hg1 : 1 ≤ g := by omega
  generalize hm : (d - 1) * g / p + 1 = m at *
  have f1 := (floor_iff (K := (d - 1) * g) (c := p) (t := m - 1) (by omega)).1 (by omega)
  rw [Int.sub_mul m 1 p] at f1
  have f2 := (ceil_iff (K := m * p) (c := g) (t := grp c p i) hg1).1 (by rw [e]; rfl)
  generalize grp c p i = t0 at *
  have hd : (d - 1) * g = d * g - g := by rw [Int.sub_mul]; omega
  have h1 : d ≤ t0 := by
    have : (d - 1) * g < t0 * g := by omega
    have := Int.lt_of_mul_lt_mul_right this (by omega)
    omega
  have h2 : t0 ≤ p := by
    have a : (d - 1) * g ≤ (p - 1) * g := Int.mul_le_mul_of_nonneg_right (by omega) (by omega)
    have b : (m - 1) * p < g * p := by
      rw [Int.sub_mul]
      have : (p - 1) * g = g * p - g := by rw [Int.sub_mul, Int.mul_comm]; omega
      omega
    have b' := Int.lt_of_mul_lt_mul_right b (by omega)
    have c1 : m * p ≤ g * p := Int.mul_le_mul_of_nonneg_right (by omega) (by omega)
    have c2 : (t0 - 1) * g < p * g := by rw [Int.sub_mul, Int.mul_comm p g]; omega
    have := Int.lt_of_mul_lt_mul_right c2 (by omega)
    omega
  refine ⟨h1, h2, ⟨m, by omega⟩, ?_⟩
  rintro t ht1 ht2 ⟨m', hm1, hm2⟩
  have a1 : t * g ≤ (t0 - 1) * g := Int.mul_le_mul_of_nonneg_right (by omega) (by omega)
  rw [Int.sub_mul] at a1
  have a2 : m' * p < m * p := by omega
  have a3 := Int.lt_of_mul_lt_mul_right a2 (by omega)
  have a4 : m' * p ≤ (m - 1) * p := Int.mul_le_mul_of_nonneg_right (by omega) (by omega)
  rw [Int.sub_mul] at a4
  have a5 : d * g ≤ t * g := Int.mul_le_mul_of_nonneg_right ht1 (by omega)
  omega

theorem grp_first {i t k : Int} (hv : hvB c p = true) (hE : wE c p i = 0) (h1 : wD c p i ≤ t) (h2 : t ≤ p) (hk1 : 1 ≤ k) (hk2 : k ≤ c) (hh : hitB c p t k = true)
    (hno : ∀ t', wD c p i ≤ t' → t' < t → ∀ k, 1 ≤ k → k ≤ c → hitB c p t' k = false) : grp c p i = t := by
  obtain ⟨d1, d2⟩ := wD_bd hE
  obtain ⟨g1, g2, g3, g4⟩ := grp_spec hv hE
  have a := (hit_iff hv (by omega) h2).1 ⟨k, hk1, hk2, hh⟩
  rcases Int.lt_trichotomy (grp c p i) t with h | h | h
  · obtain ⟨k', x1, x2, x3⟩ := (hit_iff hv (by omega) g2).2 g3
    rw [hno _ g1 h k' x1 x2] at x3
    cases x3
  · exact h
  · exact absurd a (g4 t h1 h)
theorem grp_none {i : Int} (hv : hvB c p = true) (hE : wE c p i = 0)
    (hno : ∀ t', wD c p i ≤ t' → t' ≤ p → ∀ k, 1 ≤ k → k ≤ c → hitB c p t' k = false) : False := by
  obtain ⟨d1, d2⟩ := wD_bd hE
  obtain ⟨g1, g2, g3, g4⟩ := grp_spec hv hE
  obtain ⟨k', x1, x2, x3⟩ := (hit_iff hv (by omega) g2).2 g3
  rw [hno _ g1 g2 k' x1 x2] at x3
  cases x3
end

theorem grp_bd {c p i : Int} : 0 ≤ grp c p i ∧ grp c p i ≤ 1000 := by
  by_cases h : wE c p i = 0 ∧ hvB c p = true
  · obtain ⟨a1, a2, _, _⟩ := grp_spec h.2 h.1
    obtain ⟨b1, b2, b3, b4⟩ := hv_bd h.2
    have := (wD_bd h.1).1
    omega
  · simp [grp, h]



section
variable {c p : Int}

def lastV (c p j : Int) : Int := if j = 0 then 0 else wD c p j - (if ovB c p j then 1 else 0)

theorem floor_ceil {K c : Int} (hc : 1 ≤ c) : K / c = (K + c - 1) / c - (if K % c = 0 then 0 else 1) := by
  by_cases h : K % c = 0
  · rw [if_pos h]
    have e : K = K / c * c := (Int.ediv_mul_cancel (Int.dvd_of_emod_eq_zero h)).symm
    have := (ceil_iff (K := K) (c := c) (t := K / c) hc).2 (by omega)
    omega
  · rw [if_neg h]
    have f := (floor_iff (K := K) (c := c) (t := K / c) hc).1 rfl
    have g : K ≠ K / c * c := fun e => h (by rw [e]; exact Int.mul_emod_left _ _)
    have := (ceil_iff (K := K) (c := c) (t := K / c + 1) hc).2 (by rw [Int.add_mul]; omega)
    omega

theorem wR_last {i : Int} (h : wE c p i = 0) : wR c p i = lastV c p (i - 1) := by
  obtain ⟨v1, v2, v3, hi, hj⟩ := wE0 h
  by_cases h1 : i = 1
  · subst h1; simp [wR, h, lastV]
  · have hvt : vtB c p = true := by simp [vtB]; omega
    have hE : wE c p (i - 1) = 0 := wE_ok hvt (by omega) (by omega)
    have e1 : wR c p i = (i - 1) * p / c := by simp [wR, h]
    have e2 : ovB c p (i - 1) = !decide ((i - 1) * p % c = 0) := by
      simp only [ovB, hE, decide_true, Bool.true_and]
      by_cases h0 : (i - 1) * p % c = 0 <;> simp [h0]
    rw [lastV, if_neg (by omega), wD_eq hE, e1, e2, floor_ceil v1]
    by_cases h0 : (i - 1) * p % c = 0 <;> simp [h0]

theorem last_end (h : wE c p c = 0) : lastV c p c = p := by
  obtain ⟨v1, v2, v3, hi, hj⟩ := wE0 h
  have e0 : c * p = p * c := Int.mul_comm _ _
  have e1 : ovB c p c = false := (ov_false h v1).2 ⟨p, e0⟩
  have e2 : wD c p c = p := by rw [wD_eq h]; exact (ceil_iff v1).2 (by omega)
  rw [lastV, if_neg (by omega), e1, e2]; simp

theorem len_pos {i : Int} (h : wE c p i = 0) : wR c p i < wD c p i := by
  obtain ⟨v1, v2, v3, hi, hj⟩ := wE0 h
  have f := (floor_iff (K := i * p - p) (c := c) (t := wR c p i) v1).1 (wR_eq h).symm
  have g := (ceil_iff (K := i * p) (c := c) (t := wD c p i) v1).1 (wD_eq h).symm
  have : wR c p i * c < wD c p i * c := by omega
  exact Int.lt_of_mul_lt_mul_right this (by omega)

theorem len_heavy {i : Int} (h : wE c p i = 0) (hv : hvB c p = true) : wD c p i = wR c p i + 2 ∨ wD c p i = wR c p i + 3 := by
  obtain ⟨v1, v2, v3, v4⟩ := hv_bd hv
  have f := (floor_iff (K := i * p - p) (c := c) (t := wR c p i) v1).1 (wR_eq h).symm
  have g := (ceil_iff (K := i * p) (c := c) (t := wD c p i) v1).1 (wD_eq h).symm
  generalize wR c p i = R at *
  generalize wD c p i = D at *
  have h1 : (R + 1) * c < D * c := by rw [Int.add_mul]; omega
  have h2 : D * c < (R + 4) * c := by rw [Int.add_mul]; omega
  have := Int.lt_of_mul_lt_mul_right h1 (by omega)
  have := Int.lt_of_mul_lt_mul_right h2 (by omega)
  omega
end


theorem o01_bd (b : Bool) : 0 ≤ o01 b ∧ o01 b ≤ 1 := by cases b <;> simp [o01]
section
variable {n1 c1 p1 r1 i1 n2 c2 p2 r2 i2 n3 c3 p3 r3 i3 : Int}
theorem bf_irr : bfB n1 c1 p1 r1 i1 n1 c1 p1 r1 i1 = false := by
  unfold bfB; rw [decide_eq_false_iff_not]; unfold bfP; omega
theorem bf_tot (h : n1 ≠ n2) : (bfB n1 c1 p1 r1 i1 n2 c2 p2 r2 i2 == bfB n2 c2 p2 r2 i2 n1 c1 p1 r1 i1) = false := by
  have a := o01_bd (ovB c1 p1 i1)
  have b := o01_bd (ovB c2 p2 i2)
  have e : (bfP n1 c1 p1 r1 i1 n2 c2 p2 r2 i2 ∧ ¬ bfP n2 c2 p2 r2 i2 n1 c1 p1 r1 i1) ∨ (¬ bfP n1 c1 p1 r1 i1 n2 c2 p2 r2 i2 ∧ bfP n2 c2 p2 r2 i2 n1 c1 p1 r1 i1) := by
    unfold bfP; omega
  rcases e with ⟨e1, e2⟩ | ⟨e1, e2⟩ <;> simp [bfB, e1, e2]
theorem bf_trans (h1 : bfB n1 c1 p1 r1 i1 n2 c2 p2 r2 i2 = true) (h2 : bfB n2 c2 p2 r2 i2 n3 c3 p3 r3 i3 = true) : bfB n1 c1 p1 r1 i1 n3 c3 p3 r3 i3 = true := by
  have a := o01_bd (ovB c1 p1 i1)
  have b := o01_bd (ovB c2 p2 i2)
  have c := o01_bd (ovB c3 p3 i3)
  unfold bfB at h1 h2 ⊢
  rw [decide_eq_true_iff] at h1 h2 ⊢
  unfold bfP at h1 h2 ⊢
  omega
theorem bf_early (h : r1 + wD c1 p1 i1 < r2 + wD c2 p2 i2 ∨ (r1 + wD c1 p1 i1 = r2 + wD c2 p2 i2 ∧ ovB c1 p1 i1 = true ∧ ovB c2 p2 i2 = false)) :
    bfB n1 c1 p1 r1 i1 n2 c2 p2 r2 i2 = true ∧ bfB n2 c2 p2 r2 i2 n1 c1 p1 r1 i1 = false := by
  unfold bfB
  rw [decide_eq_true_iff, decide_eq_false_iff_not]
  unfold bfP
  rcases h with h | ⟨h1, h2, h3⟩
  · omega
  · rw [h2, h3]; simp only [o01]; simp; omega
end


section
variable {n1 c1 p1 r1 i1 n2 c2 p2 r2 i2 : Int}
theorem bf1 (h : r1 + wD c1 p1 i1 ≠ r2 + wD c2 p2 i2) : bfB n1 c1 p1 r1 i1 n2 c2 p2 r2 i2 = decide (r1 + wD c1 p1 i1 < r2 + wD c2 p2 i2) := by
  unfold bfB; rw [decide_eq_decide]; unfold bfP; omega
theorem bf2 {o1 o2 : Bool} (h : r1 + wD c1 p1 i1 = r2 + wD c2 p2 i2) (ho1 : ovB c1 p1 i1 = o1) (ho2 : ovB c2 p2 i2 = o2) (hne : o1 ≠ o2) : bfB n1 c1 p1 r1 i1 n2 c2 p2 r2 i2 = o1 := by
  cases o1 <;> cases o2
  · exact absurd rfl hne
  · unfold bfB; rw [decide_eq_false_iff_not]; unfold bfP; rw [ho1, ho2]; simp only [o01]; simp; omega
  · unfold bfB; rw [decide_eq_true_iff]; unfold bfP; rw [ho1, ho2]; simp only [o01]; simp; omega
  · exact absurd rfl hne
theorem bf3 (h : r1 + wD c1 p1 i1 = r2 + wD c2 p2 i2) (ho1 : ovB c1 p1 i1 = true) (ho2 : ovB c2 p2 i2 = true) (hne : endsV c1 p1 r1 i1 ≠ endsV c2 p2 r2 i2) :
    bfB n1 c1 p1 r1 i1 n2 c2 p2 r2 i2 = decide (endsV c2 p2 r2 i2 < endsV c1 p1 r1 i1) := by
  unfold bfB; rw [decide_eq_decide]; unfold bfP; rw [ho1, ho2]; simp only [o01]; simp; omega
theorem bf4 (h : r1 + wD c1 p1 i1 = r2 + wD c2 p2 i2) (ho1 : ovB c1 p1 i1 = true) (ho2 : ovB c2 p2 i2 = true) (hne : endsV c1 p1 r1 i1 = endsV c2 p2 r2 i2) :
    bfB n1 c1 p1 r1 i1 n2 c2 p2 r2 i2 = decide (n1 < n2) := by
  unfold bfB; rw [decide_eq_decide]; unfold bfP; rw [ho1, ho2]; simp only [o01]; simp; omega
theorem bf5 (h : r1 + wD c1 p1 i1 = r2 + wD c2 p2 i2) (ho1 : ovB c1 p1 i1 = false) (ho2 : ovB c2 p2 i2 = false) :
    bfB n1 c1 p1 r1 i1 n2 c2 p2 r2 i2 = decide (n1 < n2) := by
  unfold bfB; rw [decide_eq_decide]; unfold bfP; rw [ho1, ho2]; simp only [o01]; simp; omega
end
end

section
/-- A set of tasks that are released together: c i slots in each p i, over h slots. -/
structure Per (n : Nat) (c p : Nat → Nat) (h : Nat) : Prop where
  c1 : ∀ i, i < n → 1 ≤ c i
  cp : ∀ i, i < n → c i ≤ p i
  p1 : ∀ i, i < n → p i ≤ 1000
  dv : ∀ i, i < n → p i ∣ h
  h0 : 0 < h
def wP (c p : Nat → Nat) (h : Nat) (i : Nat) : Int := ((c i * (h / p i) : Nat) : Int)
def locI (c : Nat → Nat) (x : Nat × Nat) : Int := ((x.2 % c x.1 + 1 : Nat) : Int)
def relI (c p : Nat → Nat) (x : Nat × Nat) : Int := ((x.2 / c x.1 * p x.1 : Nat) : Int)
/-- x has priority over y. -/
def befB (c p : Nat → Nat) (x y : Nat × Nat) : Bool := bfB x.1 (c x.1) (p x.1) (relI c p x) (locI c x) y.1 (c y.1) (p y.1) (relI c p y) (locI c y)
section
variable {n : Nat} {c p : Nat → Nat} {h : Nat}
theorem Per.vt (H : Per n c p h) {i : Nat} (hi : i < n) : vtB (c i) (p i) = true := by
  have h1 := H.c1 i hi
  have h2 := H.cp i hi
  have h3 := H.p1 i hi
  unfold vtB
  exact decide_eq_true (by omega)
theorem Per.wp (H : Per n c p h) {i : Nat} (hi : i < n) : wP c p h i * (p i : Int) = (c i : Int) * (h : Int) := by
  unfold wP
  rw [← Int.natCast_mul, ← Int.natCast_mul, Nat.mul_assoc, Nat.div_mul_cancel (H.dv i hi)]
theorem Per.lt (H : Per n c p h) {i : Nat} (hi : i < n) (k s : Int) : k * (h : Int) < wP c p h i * s ↔ k * (p i : Int) < (c i : Int) * s := by
  have e := H.wp hi
  have h0 := H.h0
  have p0 : (0 : Int) < (p i : Int) := by have := H.c1 i hi; have := H.cp i hi; omega
  have e1 : wP c p h i * s * (p i : Int) = (c i : Int) * s * (h : Int) := by rw [Int.mul_right_comm, e, Int.mul_right_comm]
  have e2 : k * (h : Int) * (p i : Int) = k * (p i : Int) * (h : Int) := Int.mul_right_comm ..
  constructor
  · intro a
    have a2 := Int.mul_lt_mul_of_pos_right a p0
    rw [e1, e2] at a2
    exact Int.lt_of_mul_lt_mul_right a2 (by omega)
  · intro a
    have a2 := Int.mul_lt_mul_of_pos_right a (show (0 : Int) < (h : Int) by omega)
    rw [← e1, ← e2] at a2
    exact Int.lt_of_mul_lt_mul_right a2 (by omega)
theorem Per.le (H : Per n c p h) {i : Nat} (hi : i < n) (k s : Int) : k * (h : Int) ≤ wP c p h i * s ↔ k * (p i : Int) ≤ (c i : Int) * s := by
  have e := H.wp hi
  have h0 := H.h0
  have p0 : (0 : Int) < (p i : Int) := by have := H.c1 i hi; have := H.cp i hi; omega
  have e1 : wP c p h i * s * (p i : Int) = (c i : Int) * s * (h : Int) := by rw [Int.mul_right_comm, e, Int.mul_right_comm]
  have e2 : k * (h : Int) * (p i : Int) = k * (p i : Int) * (h : Int) := Int.mul_right_comm ..
  constructor
  · intro a
    have a2 := Int.mul_le_mul_of_nonneg_right a (Int.le_of_lt p0)
    rw [e1, e2] at a2
    exact Int.le_of_mul_le_mul_right a2 (by omega)
  · intro a
    have a2 := Int.mul_le_mul_of_nonneg_right a (show (0 : Int) ≤ (h : Int) by omega)
    rw [← e1, ← e2] at a2
    exact Int.le_of_mul_le_mul_right a2 (by omega)
theorem Per.gt (H : Per n c p h) {i : Nat} (hi : i < n) (k s : Int) : wP c p h i * s < k * (h : Int) ↔ (c i : Int) * s < k * (p i : Int) := by
  have := H.le hi k s
  omega
/-- The parts of an index. -/
theorem idx_parts {c p : Nat → Nat} (x : Nat × Nat) (hc : 1 ≤ c x.1) : ((x.2 : Int) + 1) * (p x.1 : Int) = relI c p x * (c x.1 : Int) + locI c x * (p x.1 : Int) ∧ 1 ≤ locI c x ∧ locI c x ≤ (c x.1 : Int) := by
  have e := Nat.div_add_mod x.2 (c x.1)
  have hm := Nat.mod_lt x.2 (show c x.1 > 0 by omega)
  unfold relI locI
  refine ⟨?_, by omega, by omega⟩
  have e2 : (x.2 : Int) + 1 = ((x.2 / c x.1 : Nat) : Int) * (c x.1 : Int) + ((x.2 % c x.1 + 1 : Nat) : Int) := by
    rw [← Int.natCast_mul, Nat.mul_comm]
    omega
  rw [e2, Int.add_mul, Int.natCast_mul, Int.mul_right_comm]
theorem Per.wE (H : Per n c p h) {x : Nat × Nat} (hx : x.1 < n) : Go.Proofs.YtfoadipocpopiaaGreat.wE (c x.1) (p x.1) (locI c x) = 0 := by
  obtain ⟨_, h2, h3⟩ := idx_parts (p := p) x (H.c1 _ hx)
  exact wE_ok (H.vt hx) h2 h3
/-- The deadline, by products. -/
theorem Per.dl (H : Per n c p h) {x : Nat × Nat} (hx : x.1 < n) (s : Int) : relI c p x + wD (c x.1) (p x.1) (locI c x) ≤ s ↔ ((x.2 : Int) + 1) * (p x.1 : Int) ≤ (c x.1 : Int) * s := by
  have hE := H.wE hx
  obtain ⟨e1, h2, h3⟩ := idx_parts (p := p) x (H.c1 _ hx)
  have hc : 1 ≤ (c x.1 : Int) := by have := H.c1 _ hx; omega
  have f := (ceil_iff hc).1 (wD_eq hE).symm
  rw [e1]
  generalize relI c p x = r at *
  generalize locI c x = i at *
  generalize wD (c x.1) (p x.1) i = d at *
  generalize (c x.1 : Int) = cc at *
  have e2 : cc * s = (s - r) * cc + r * cc := by rw [Int.sub_mul, Int.mul_comm]; omega
  rw [e2]
  constructor
  · intro a
    have := Int.mul_le_mul_of_nonneg_right (show d ≤ s - r by omega) (show 0 ≤ cc by omega)
    omega
  · intro a
    have a1 : (d - 1) * cc < (s - r) * cc := by rw [Int.sub_mul d, Int.one_mul]; omega
    have := Int.lt_of_mul_lt_mul_right a1 (by omega)
    omega
/-- The b bit, by products. -/
theorem Per.ov (H : Per n c p h) {x : Nat × Nat} (hx : x.1 < n) (d : Int) (hd : relI c p x + wD (c x.1) (p x.1) (locI c x) = d) : ovB (c x.1) (p x.1) (locI c x) = true ↔ ((x.2 : Int) + 1) * (p x.1 : Int) < (c x.1 : Int) * d := by
  have hE := H.wE hx
  obtain ⟨e1, h2, h3⟩ := idx_parts (p := p) x (H.c1 _ hx)
  have hc : 1 ≤ (c x.1 : Int) := by have := H.c1 _ hx; omega
  have f := (ceil_iff hc).1 (wD_eq hE).symm
  have hov := ov_false hE hc
  rw [e1]
  generalize relI c p x = r at *
  generalize locI c x = i at *
  generalize wD (c x.1) (p x.1) i = w at *
  generalize ovB (c x.1) (p x.1) i = o at *
  generalize (c x.1 : Int) = cc at *
  have e2 : cc * d = w * cc + r * cc := by rw [← hd, Int.mul_comm, Int.add_mul]; omega
  rw [e2]
  constructor
  · intro a
    have hne : i * (p x.1 : Int) ≠ w * cc := fun e => by
      have := hov.2 ⟨w, e⟩
      rw [a] at this; cases this
    omega
  · intro a
    cases o with
    | true => rfl
    | false =>
      obtain ⟨t, ht⟩ := hov.1 rfl
      rw [ht] at f a
      have a1 : (w - 1) * cc < t * cc := by rw [Int.sub_mul, Int.one_mul]; omega
      have a2 : t * cc < w * cc := by omega
      have := Int.lt_of_mul_lt_mul_right a1 (by omega)
      have := Int.lt_of_mul_lt_mul_right a2 (by omega)
      omega
/-- A cascade of m subtasks, in products. -/
def casN (c p : Nat → Nat) (x : Nat × Nat) (t : Int) (m : Nat) : Prop := ∀ q : Nat, q < m → (c x.1 : Int) * (t + q) < ((x.2 : Int) + q + 1) * (p x.1 : Int) ∧ ((x.2 : Int) + q + 1) * (p x.1 : Int) < (c x.1 : Int) * (t + q + 1)
theorem Per.heavy (H : Per n c p h) {y : Nat × Nat} (hy : y.1 < n) {t : Int} {m : Nat} (hm : 2 ≤ m) (hc : casN c p y t m) : hvB (c y.1) (p y.1) = true := by
  have v := H.vt hy
  obtain ⟨a1, a2⟩ := hc 0 (by omega)
  obtain ⟨b1, b2⟩ := hc 1 (by omega)
  simp only [Int.natCast_zero, Int.add_zero, Int.natCast_one, Int.mul_add, Int.add_mul, Int.mul_one, Int.one_mul] at a1 a2 b1 b2
  have h1 := H.c1 _ hy
  have h2 := H.cp _ hy
  unfold hvB
  rw [v, Bool.true_and, Bool.and_eq_true, decide_eq_true_eq, decide_eq_true_eq]
  refine ⟨?_, by omega⟩
  apply Int.lt_of_not_ge
  intro hge
  have e : c y.1 = p y.1 := by omega
  rw [e] at a1 a2
  have a3 : (p y.1 : Int) * t < ((y.2 : Int) + 1) * (p y.1 : Int) := by rw [Int.add_mul, Int.one_mul]; omega
  have a4 : ((y.2 : Int) + 1) * (p y.1 : Int) < (p y.1 : Int) * (t + 1) := by rw [Int.add_mul, Int.one_mul, Int.mul_add, Int.mul_one]; omega
  rw [Int.mul_comm] at a3
  rw [Int.mul_comm (p y.1 : Int)] at a4
  have := Int.lt_of_mul_lt_mul_right a3 (by omega)
  have := Int.lt_of_mul_lt_mul_right a4 (by omega)
  omega
/-- The group deadline of the first of a cascade lies behind it. -/
theorem Per.grpGe (H : Per n c p h) {y : Nat × Nat} (hy : y.1 < n) {t : Int} {m : Nat} (hm : 2 ≤ m) (hc : casN c p y t m) : t + m + 1 ≤ endsV (c y.1) (p y.1) (relI c p y) (locI c y) := by
  have hv := H.heavy hy hm hc
  have hE := H.wE hy
  obtain ⟨g1, g2, ⟨k, g3, g4⟩, _⟩ := grp_spec hv hE
  obtain ⟨e1, h2, h3⟩ := idx_parts (p := p) y (H.c1 _ hy)
  have hd := H.dl hy
  have c0 : 1 ≤ (c y.1 : Int) := by have := H.c1 _ hy; omega
  have hD : relI c p y + wD (c y.1) (p y.1) (locI c y) = t + 1 := by
    obtain ⟨a1, a2⟩ := hc 0 (by omega)
    simp only [Int.natCast_zero, Int.add_zero] at a1 a2
    have d1 := (hd (t + 1)).2 (by omega)
    have d2 := (hd t)
    omega
  unfold endsV
  rw [if_pos hv]
  apply Int.le_of_not_gt
  intro hlt
  generalize grp (c y.1) (p y.1) (locI c y) = g at *
  -- g is one of t + 1 .. t + m, counted from the release
  obtain ⟨q, hq⟩ : ∃ q : Nat, g + relI c p y = t + 1 + q := ⟨(g + relI c p y - (t + 1)).toNat, by omega⟩
  obtain ⟨a1, a2⟩ := hc q (by omega)
  have e3 : ((y.2 : Int) + q + 1) * (p y.1 : Int) = relI c p y * (c y.1 : Int) + (locI c y + q) * (p y.1 : Int) := by
    rw [show (y.2 : Int) + q + 1 = ((y.2 : Int) + 1) + q by omega, Int.add_mul, e1, Int.add_mul (locI c y)]; omega
  rw [e3] at a1 a2
  generalize relI c p y = r at *
  generalize locI c y = i at *
  generalize hcc : (c y.1 : Int) = cc at *
  generalize hpp : (p y.1 : Int) = pp at *
  have e4 : cc * (t + q) = (g - 1) * cc + r * cc := by rw [show t + q = (g - 1) + r by omega, Int.mul_comm, Int.add_mul]
  have e5 : cc * (t + q + 1) = g * cc + r * cc := by rw [show t + q + 1 = g + r by omega, Int.mul_comm, Int.add_mul]
  rw [e4] at a1
  rw [e5] at a2
  -- no multiple of the period in the gap at g
  have e6 : g * (pp - cc) = g * pp - g * cc := Int.mul_sub ..
  rw [e6] at g3 g4
  have e7 : (g - k) * pp = g * pp - k * pp := Int.sub_mul ..
  have e8 : (g - 1) * cc = g * cc - cc := by rw [Int.sub_mul, Int.one_mul]
  rw [e8] at a1
  have b1 : (g - k) * pp < (i + q + 1) * pp := by rw [Int.add_mul (i + q), Int.one_mul]; omega
  have b2 : (i + q) * pp < (g - k) * pp := by omega
  have p0 : 0 ≤ pp := by omega
  have := Int.lt_of_mul_lt_mul_right b1 p0
  have := Int.lt_of_mul_lt_mul_right b2 p0
  omega
/-- A subtask whose group deadline is late is the first of a cascade. -/
theorem Per.grpCas (H : Per n c p h) {x : Nat × Nat} (hx : x.1 < n) {t : Int} {m : Nat} (ht : 0 ≤ t) (hD : relI c p x + wD (c x.1) (p x.1) (locI c x) = t + 1) (ho : ovB (c x.1) (p x.1) (locI c x) = true)
    (he : t + m + 1 ≤ endsV (c x.1) (p x.1) (relI c p x) (locI c x)) : casN c p x t m := by
  have hv : hvB (c x.1) (p x.1) = true := by
    cases e : hvB (c x.1) (p x.1) with
    | true => rfl
    | false => unfold endsV at he; rw [e] at he; simp at he; omega
  have hE := H.wE hx
  obtain ⟨g1, g2, _, g4⟩ := grp_spec hv hE
  obtain ⟨e1, h2, h3⟩ := idx_parts (p := p) x (H.c1 _ hx)
  obtain ⟨v1, v2, v3, v4⟩ := hv_bd hv
  have hd := H.dl hx
  have hov := (H.ov hx _ hD).1 ho
  unfold endsV at he
  rw [if_pos hv] at he
  have c0 : 1 ≤ (c x.1 : Int) := by omega
  intro q
  induction q with
  | zero =>
    intro _
    have d2 := hd t
    simp only [Int.natCast_zero, Int.add_zero]
    omega
  | succ q ih =>
    intro hq
    obtain ⟨a1, a2⟩ := ih (by omega)
    have hno := g4 (t + 1 + (q + 1 : Nat) - relI c p x) (by omega) (by omega)
    have e3 : ∀ j : Int, ((x.2 : Int) + j + 1) * (p x.1 : Int) = relI c p x * (c x.1 : Int) + (locI c x + j) * (p x.1 : Int) := fun j => by
      rw [show (x.2 : Int) + j + 1 = ((x.2 : Int) + 1) + j by omega, Int.add_mul, e1, Int.add_mul (locI c x)]; omega
    rw [e3] at a1 a2 ⊢
    generalize relI c p x = r at *
    generalize locI c x = i at *
    generalize (c x.1 : Int) = cc at *
    generalize (p x.1 : Int) = pp at *
    generalize hT : t + 1 + ((q + 1 : Nat) : Int) - r = T at *
    have e4 : cc * (t + q) = (T - 2) * cc + r * cc := by rw [show t + (q : Int) = (T - 2) + r by omega, Int.mul_comm, Int.add_mul]
    have e5 : cc * (t + q + 1) = (T - 1) * cc + r * cc := by rw [show t + (q : Int) + 1 = (T - 1) + r by omega, Int.mul_comm, Int.add_mul]
    have e6 : cc * (t + ((q + 1 : Nat) : Int)) = (T - 1) * cc + r * cc := by rw [show t + ((q + 1 : Nat) : Int) = (T - 1) + r by omega, Int.mul_comm, Int.add_mul]
    have e7 : cc * (t + ((q + 1 : Nat) : Int) + 1) = T * cc + r * cc := by rw [show t + ((q + 1 : Nat) : Int) + 1 = T + r by omega, Int.mul_comm, Int.add_mul]
    rw [e4] at a1
    rw [e5] at a2
    rw [e6, e7]
    have e8 : (i + ((q + 1 : Nat) : Int)) * pp = (i + q) * pp + pp := by rw [Int.natCast_add, ← Int.add_assoc, Int.add_mul]; simp
    have e9 : (T - 1) * cc = T * cc - cc := by rw [Int.sub_mul, Int.one_mul]
    have e10 : (T - 2) * cc = T * cc - 2 * cc := by rw [Int.sub_mul]
    rw [e9] at a2 ⊢
    rw [e10] at a1
    rw [e8]
    refine ⟨by omega, ?_⟩
    apply Int.lt_of_not_ge
    intro hge
    apply hno
    refine ⟨T - (i + (q : Int) + 1), ?_⟩
    have f1 : (T - (i + (q : Int) + 1)) * pp = T * pp - ((i + q) * pp + pp) := by rw [Int.sub_mul, Int.add_mul (i + (q : Int)), Int.one_mul]
    have f2 : T * (pp - cc) = T * pp - T * cc := Int.mul_sub ..
    rw [f1, f2]
    omega
theorem bef_irr (x : Nat × Nat) : befB c p x x = false := bf_irr
theorem bef_trans {x y z : Nat × Nat} (h1 : befB c p x y = true) (h2 : befB c p y z = true) : befB c p x z = true := bf_trans h1 h2
theorem Per.bef_total (H : Per n c p h) {x y : Nat × Nat} (hx : x.1 < n) (hy : y.1 < n) (hne : x ≠ y) : befB c p x y = true ∨ befB c p y x = true := by
  by_cases e : x.1 = y.1
  · -- the same task: the deadlines differ
    have hd1 := H.dl hx
    have hd2 := H.dl hy
    have c0 : 1 ≤ (c x.1 : Int) := by have := H.c1 _ hx; omega
    have cp := H.cp _ hx
    have key : ∀ a b : Nat × Nat, a.1 = b.1 → a.1 < n → a.2 < b.2 → befB c p a b = true := fun a b hab ha hlt => by
      have q1 := H.dl ha (relI c p b + wD (c b.1) (p b.1) (locI c b) - 1)
      have q2 := H.dl (x := b) (by rw [← hab]; exact ha) (relI c p b + wD (c b.1) (p b.1) (locI c b))
      have q3 := q2.1 (Int.le_refl _)
      have hcp := H.cp _ ha
      rw [← hab] at q2 q3 q1
      have m1 := Int.mul_le_mul_of_nonneg_right (show (a.2 : Int) + 1 + 1 ≤ (b.2 : Int) + 1 by omega) (show (0 : Int) ≤ (p a.1 : Int) by omega)
      rw [Int.add_mul ((a.2 : Int) + 1), Int.one_mul] at m1
      have q4 := q1.2 (by rw [Int.mul_sub, Int.mul_one]; omega)
      unfold befB
      rw [bf1 (by rw [← hab]; omega), ← hab]
      exact decide_eq_true (by omega)
    rcases Nat.lt_trichotomy x.2 y.2 with h1 | h1 | h1
    · exact .inl (key x y e hx h1)
    · exact absurd (Prod.ext e h1) hne
    · exact .inr (key y x e.symm hy h1)
  · have := bf_tot (n1 := (x.1 : Int)) (n2 := (y.1 : Int)) (c1 := c x.1) (p1 := p x.1) (r1 := relI c p x) (i1 := locI c x) (c2 := c y.1) (p2 := p y.1) (r2 := relI c p y) (i2 := locI c y) (by omega)
    unfold befB
    generalize bfB (x.1 : Int) _ _ _ _ _ _ _ _ _ = b1 at *
    generalize bfB (y.1 : Int) _ _ _ _ _ _ _ _ _ = b2 at *
    cases b1 <;> cases b2 <;> simp at this ⊢
/-- The key: how many have priority. -/
def keyP (n K : Nat) (c p : Nat → Nat) (x : Nat × Nat) : Nat := (cntP n K fun y => befB c p y x).toNat
theorem key_lt {K : Nat} {x y : Nat × Nat} (hx : x.1 < n) (hx2 : x.2 < K) (hb : befB c p x y = true) : keyP n K c p x < keyP n K c p y := by
  have h1 := cnt_lt (n := n) (K := K) (p := fun z => befB c p z x) (q := fun z => befB c p z y) hx hx2 (fun z hz => bef_trans hz hb) (bef_irr x) hb
  have h2 := cnt_nonneg (n := n) (K := K) (fun z => befB c p z x)
  unfold keyP
  omega
theorem Per.key_le (H : Per n c p h) {K : Nat} {x y : Nat × Nat} (hx : x.1 < n) (hy : y.1 < n) (hy2 : y.2 < K) (hk : keyP n K c p x ≤ keyP n K c p y) : x = y ∨ befB c p x y = true := by
  by_cases e : x = y
  · exact .inl e
  · rcases H.bef_total hx hy e with h1 | h1
    · exact .inr h1
    · have := key_lt (n := n) (K := K) (x := y) (y := x) hy hy2 h1
      omega
theorem Per.pd (H : Per n c p h) {K M : Nat} (hl : sm n (wP c p h) ≤ (M : Int) * (h : Int)) : Pd n K M (h : Int) (wP c p h) (keyP n K c p) where
  h0 := by have := H.h0; omega
  w0 := fun i _ => by unfold wP; omega
  w1 := fun i hi => by
    unfold wP
    have h1 : c i * (h / p i) ≤ p i * (h / p i) := Nat.mul_le_mul_right _ (H.cp i hi)
    have h2 := Nat.mul_div_le h (p i)
    omega
  load := hl
  inj := fun x y hx hx2 hy hy2 e => by
    rcases H.key_le hx hy hy2 (Nat.le_of_eq e) with h1 | h1
    · exact h1
    · have := key_lt (n := n) (K := K) hx hx2 h1
      omega
  own := fun i k k' hi hk hk' => by
    rcases H.bef_total (x := (i, k)) (y := (i, k')) hi hi (fun e => by have := congrArg Prod.snd e; simp only at this; omega) with h1 | h1
    · exact key_lt hi (by omega) h1
    · exfalso
      have d1 := H.dl (x := (i, k)) hi
      have d2 := H.dl (x := (i, k')) hi
      have h2 : relI c p (i, k') + wD (c i) (p i) (locI c (i, k')) ≤ relI c p (i, k) + wD (c i) (p i) (locI c (i, k)) := by
        unfold befB at h1
        by_cases e : relI c p (i, k') + wD (c i) (p i) (locI c (i, k')) = relI c p (i, k) + wD (c i) (p i) (locI c (i, k))
        · omega
        · rw [bf1 e] at h1
          have := of_decide_eq_true h1
          omega
      have c1 := H.c1 i hi
      have cp := H.cp i hi
      have q1 := (d1 (relI c p (i, k) + wD (c i) (p i) (locI c (i, k)) - 1))
      have q2 := (d2 (relI c p (i, k) + wD (c i) (p i) (locI c (i, k)))).1 h2
      have m1 := Int.mul_le_mul_of_nonneg_right (show (k : Int) + 1 + 1 ≤ (k' : Int) + 1 by omega) (show (0 : Int) ≤ (p i : Int) by omega)
      rw [Int.add_mul ((k : Int) + 1), Int.one_mul] at m1
      simp only at q1 q2
      have := q1.2 (by rw [Int.mul_sub, Int.mul_one]; omega)
      omega
theorem Per.keyOK (H : Per n c p h) {K : Nat} : KeyP n K (h : Int) (wP c p h) (keyP n K c p) where
  dead := fun x y hx hx2 hy hy2 hk s hdue => by
    unfold dueP at hdue ⊢
    rw [H.le hx]
    rw [H.le hy] at hdue
    rcases H.key_le hx hy hy2 hk with rfl | h1
    · exact hdue
    · refine (H.dl hx s).1 ?_
      have h2 := (H.dl hy s).2 hdue
      unfold befB at h1
      by_cases e : relI c p x + wD (c x.1) (p x.1) (locI c x) = relI c p y + wD (c y.1) (p y.1) (locI c y)
      · omega
      · rw [bf1 e] at h1
        have := of_decide_eq_true h1
        omega
  casc := fun x y hx hx2 hy hy2 hk t m hm hc hw q hq => by
    rw [H.lt hx]
    rw [H.gt hx] at hw
    have hcy : casN c p y t m := fun q hq => by
      have := hc q hq
      rw [H.gt hy, H.lt hy] at this
      exact this
    rcases H.key_le hx hy hy2 hk with rfl | h1
    · exact (hcy q hq).2
    · obtain ⟨a1, a2⟩ := hcy 0 hm
      simp only [Int.natCast_zero, Int.add_zero] at a1 a2
      have dy : relI c p y + wD (c y.1) (p y.1) (locI c y) = (t : Int) + 1 := by
        have q1 := H.dl hy ((t : Int) + 1)
        have q2 := H.dl hy (t : Int)
        omega
      have oy := (H.ov hy _ dy).2 a2
      have dx1 := H.dl hx (t : Int)
      have dx : relI c p x + wD (c x.1) (p x.1) (locI c x) = (t : Int) + 1 := by
        unfold befB at h1
        by_cases e : relI c p x + wD (c x.1) (p x.1) (locI c x) = relI c p y + wD (c y.1) (p y.1) (locI c y)
        · omega
        · rw [bf1 e] at h1
          have := of_decide_eq_true h1
          omega
      have ox : ovB (c x.1) (p x.1) (locI c x) = true := by
        cases e : ovB (c x.1) (p x.1) (locI c x) with
        | true => rfl
        | false =>
          unfold befB at h1
          rw [bf2 (dx.trans dy.symm) e oy (by decide)] at h1
          cases h1
      by_cases h2 : 2 ≤ m
      · have gy := H.grpGe hy h2 hcy
        have ge : endsV (c y.1) (p y.1) (relI c p y) (locI c y) ≤ endsV (c x.1) (p x.1) (relI c p x) (locI c x) := by
          unfold befB at h1
          by_cases e : endsV (c x.1) (p x.1) (relI c p x) (locI c x) = endsV (c y.1) (p y.1) (relI c p y) (locI c y)
          · omega
          · rw [bf3 (dx.trans dy.symm) ox oy e] at h1
            have := of_decide_eq_true h1
            omega
        exact (H.grpCas hx (by omega) dx ox (by omega) q hq).2
      · obtain rfl : q = 0 := by omega
        have := (H.ov hx _ dx).1 ox
        simpa using this
/-- Every subtask of a set of tasks that fits runs before its deadline, by the priorities of PD2. -/
theorem Per.done (H : Per n c p h) {K M : Nat} (hl : sm n (wP c p h) ≤ (M : Int) * (h : Int)) {J : Nat × Nat → Bool} {D : Nat → Nat × Nat → Bool} (hJ : inP n K J) (hr : Run n K M (h : Int) (wP c p h) (keyP n K c p) J D) {x : Nat × Nat} (hx : J x = true) {s : Nat}
    (hd : ((x.2 : Int) + 1) * (p x.1 : Int) ≤ (c x.1 : Int) * (s : Int)) : D s x = true :=
  pd_main (H.pd hl) H.keyOK (cntP n K J).toNat J D hJ (by have := cnt_nonneg (n := n) (K := K) J; omega) hr x hx s ((H.le (hJ x hx).1 _ _).2 hd)
end
end

section
/-- The job of a task that was released last. -/
structure JS where
  lv : Bool
  rl : Int
  dn : Int
  nx : Nat
def begJ (p : Int) (r : List Int) (s : Int) (j : JS) : JS :=
  let j1 : JS := if j.lv = true ∧ p ≤ s - j.rl then ⟨false, j.rl, j.dn, j.nx⟩ else j
  if j1.nx < r.length ∧ r.getD j1.nx 0 = s then ⟨true, s, 0, j1.nx + 1⟩ else j1
def missJ (c p s : Int) (j : JS) : Bool := j.lv && decide (p ≤ s - j.rl) && decide (j.dn < c)
def candJ (c p s : Int) (j : JS) : Bool := j.lv && decide (j.dn < c) && decide (j.rl + wR c p (j.dn + 1) ≤ s)
def bef2 (c p : Nat → Nat) (js : Nat → JS) (i k : Nat) : Bool := bfB i (c i) (p i) (js i).rl ((js i).dn + 1) k (c k) (p k) (js k).rl ((js k).dn + 1)
/-- Those that run in a slot. -/
structure PickL (n cores : Nat) (lt : Nat → Nat → Bool) (cand : Nat → Bool) (ch : List Nat) : Prop where
  nd : ch.Nodup
  sub : ∀ i ∈ ch, i < n ∧ cand i = true
  le : ch.length ≤ cores
  full : ∀ i, i < n → cand i = true → i ∉ ch → ch.length = cores ∧ ∀ k ∈ ch, lt k i = true
def runJ (js : Nat → JS) (ch : List Nat) : Nat → JS := fun i => if i ∈ ch then ⟨(js i).lv, (js i).rl, (js i).dn + 1, (js i).nx⟩ else js i
def begS (p : Nat → Nat) (r : Nat → List Int) (s : Nat) (js : Nat → JS) : Nat → JS := fun i => begJ (p i) (r i) s (js i)
def missN (n : Nat) (c p : Nat → Nat) (s : Nat) (js : Nat → JS) : Nat := (List.range n).countP fun i => missJ (c i) (p i) s (js i)
/-- The states that the simulation reaches before a slot, with the misses so far. -/
inductive ReachS (n cores : Nat) (c p : Nat → Nat) (r : Nat → List Int) : Nat → (Nat → JS) → Nat → Prop
  | zero : ReachS n cores c p r 0 (fun _ => ⟨false, 0, 0, 0⟩) 0
  | step {t : Nat} {js : Nat → JS} {m : Nat} {ch : List Nat} : ReachS n cores c p r t js m → PickL n cores (bef2 c p (begS p r t js)) (fun i => candJ (c i) (p i) t (begS p r t js i)) ch →
      ReachS n cores c p r (t + 1) (runJ (begS p r t js) ch) (m + missN n c p t js)
def synR (p : Nat) (h : Nat) : List Int := (List.range (h / p)).map fun k : Nat => (k : Int) * (p : Int)
theorem synR_len (p h : Nat) : (synR p h).length = h / p := by simp [synR]
theorem synR_get {p h k : Nat} (hk : k < h / p) : (synR p h).getD k 0 = ((k * p : Nat) : Int) := by
  unfold synR
  rw [List.getD_eq_getElem?_getD, List.getElem?_map, List.getElem?_range hk]
  simp
/-- Before a slot t > 0: a i subtasks have run. -/
def BefS (n : Nat) (c p : Nat → Nat) (t : Nat) (js : Nat → JS) (a : Nat → Nat) : Prop :=
  ∀ i, i < n → (t = 0 ∧ js i = ⟨false, 0, 0, 0⟩ ∧ a i = 0) ∨
    (0 < t ∧ js i = ⟨true, (((t - 1) / p i * p i : Nat) : Int), (a i : Int) - (((t - 1) / p i * c i : Nat) : Int), (t - 1) / p i + 1⟩ ∧ (t - 1) / p i * c i ≤ a i ∧ a i ≤ (t - 1) / p i * c i + c i)
/-- In a slot. -/
def InS (n : Nat) (c p : Nat → Nat) (t : Nat) (js : Nat → JS) (a : Nat → Nat) : Prop :=
  ∀ i, i < n → js i = ⟨true, ((t / p i * p i : Nat) : Int), (a i : Int) - ((t / p i * c i : Nat) : Int), t / p i + 1⟩ ∧ t / p i * c i ≤ a i ∧ a i ≤ t / p i * c i + c i
section
variable {n cores : Nat} {c p : Nat → Nat} {h : Nat}
theorem Per.p0 (H : Per n c p h) {i : Nat} (hi : i < n) : 0 < p i := by have := H.c1 i hi; have := H.cp i hi; omega
theorem Per.beg (H : Per n c p h) {t : Nat} {js : Nat → JS} {a : Nat → Nat} (hb : BefS n c p t js a) (ht : t < h) (hm : ∀ i, i < n → missJ (c i) (p i) t (js i) = false) :
    InS n c p t (begS p (fun i => synR (p i) h) t js) a := fun i hi => by
  have p0 := H.p0 hi
  have hq : h / p i * p i = h := Nat.div_mul_cancel (H.dv i hi)
  rcases hb i hi with ⟨rfl, e, ea⟩ | ⟨h0, e, l1, l2⟩
  · have hq1 : 0 < h / p i := Nat.div_pos (Nat.le_of_dvd H.h0 (H.dv i hi)) p0
    have g := synR_get hq1
    unfold begS begJ
    rw [e, ea]
    simp only [Bool.false_eq_true, false_and, if_false]
    rw [if_pos ⟨by rw [synR_len]; exact hq1, by rw [g]; simp⟩]
    simp
  · have hmi := hm i hi
    generalize hk : (t - 1) / p i = k at *
    have d1 := Nat.div_add_mod (t - 1) (p i)
    have d2 := Nat.mod_lt (t - 1) p0
    rw [hk, Nat.mul_comm] at d1
    generalize (t - 1) % p i = e1 at *
    have et : t = k * p i + (e1 + 1) := by omega
    unfold begS begJ
    unfold missJ at hmi
    rw [e] at hmi ⊢
    simp only [Bool.true_and] at hmi
    simp only [true_and]
    by_cases hlast : e1 + 1 = p i
    · -- the end of the period
      have hp : (p i : Int) ≤ (t : Int) - ((k * p i : Nat) : Int) := by omega
      rw [if_pos hp]
      simp only
      have hc : ¬ ((a i : Int) - ((k * c i : Nat) : Int) < (c i : Int)) := fun hh => by
        rw [decide_eq_true hp, decide_eq_true hh] at hmi
        simp at hmi
      have ek : t = (k + 1) * p i := by rw [Nat.add_mul, Nat.one_mul]; omega
      have hkq : k + 1 < h / p i := by
        have : (k + 1) * p i < h / p i * p i := by omega
        exact Nat.lt_of_mul_lt_mul_right this
      have g := synR_get hkq
      rw [← ek] at g
      rw [if_pos ⟨by rw [synR_len]; exact hkq, g⟩]
      have ed : t / p i = k + 1 := by rw [ek]; exact Nat.mul_div_cancel _ p0
      rw [ed, ← ek]
      have ec : (k + 1) * c i = k * c i + c i := by rw [Nat.add_mul, Nat.one_mul]
      rw [ec]
      refine ⟨?_, by omega, by omega⟩
      have : (a i : Int) - ((k * c i + c i : Nat) : Int) = 0 := by omega
      rw [this]
    · have hp : ¬ (p i : Int) ≤ (t : Int) - ((k * p i : Nat) : Int) := by omega
      rw [if_neg hp]
      simp only
      have ed : t / p i = k := by
        rw [et, Nat.mul_comm, Nat.mul_add_div p0, Nat.div_eq_of_lt (by omega)]; omega
      rw [ed, if_neg]
      · exact ⟨rfl, l1, l2⟩
      · rintro ⟨g1, g2⟩
        rw [synR_len] at g1
        have g := synR_get g1
        have e2 : (k + 1) * p i = k * p i + p i := by rw [Nat.add_mul, Nat.one_mul]
        rw [g] at g2
        omega
theorem run_bef {t : Nat} {js : Nat → JS} {a : Nat → Nat} {ch : List Nat} (hI : InS n c p t js a) (hs : ∀ i ∈ ch, i < n ∧ candJ (c i) (p i) t (js i) = true) :
    BefS n c p (t + 1) (runJ js ch) (fun i => if i ∈ ch then a i + 1 else a i) := fun i hi => by
  obtain ⟨e, l1, l2⟩ := hI i hi
  right
  rw [Nat.add_sub_cancel]
  refine ⟨by omega, ?_⟩
  unfold runJ
  by_cases hc : i ∈ ch
  · simp only [if_pos hc]
    have h2 := (hs i hc).2
    unfold candJ at h2
    rw [e] at h2 ⊢
    simp only [Bool.true_and, Bool.and_eq_true, decide_eq_true_eq] at h2
    have h3 := h2.1
    refine ⟨?_, by omega, by omega⟩
    have : (a i : Int) - ((t / p i * c i : Nat) : Int) + 1 = ((a i + 1 : Nat) : Int) - ((t / p i * c i : Nat) : Int) := by omega
    rw [this]
  · simp only [if_neg hc]
    exact ⟨e, l1, l2⟩
theorem sm_ch {ch : List Nat} (hnd : ch.Nodup) (hs : ∀ i ∈ ch, i < n) : sm n (fun i => if i ∈ ch then 1 else 0) = (ch.length : Int) := by
  induction ch with
  | nil => simp [sm_zero]
  | cons x l ih =>
    obtain ⟨h1, h2⟩ := List.nodup_cons.1 hnd
    have := ih h2 (fun i hi => hs i (List.mem_cons_of_mem _ hi))
    rw [sm_upd (f := fun i => if i ∈ l then (1 : Int) else 0) (g := fun i => if i ∈ x :: l then (1 : Int) else 0) (t := x) (hs x (List.mem_cons_self ..)) (fun i _ hne => by simp [hne]), this]
    simp [h1]
/-- Without a miss the slots suffice for the demand. -/
theorem Per.room (H : Per n c p h) {t : Nat} {js : Nat → JS} {m : Nat} (hr : ReachS n cores c p (fun i => synR (p i) h) t js m) (ht : t ≤ h) (hm : m = 0) : ∃ a, BefS n c p t js a ∧ sm n (fun i => (a i : Int)) ≤ (cores : Int) * t := by
  induction hr with
  | zero => exact ⟨fun _ => 0, fun i _ => .inl ⟨rfl, rfl, rfl⟩, by simp [sm_zero]⟩
  | @step t js m ch hr hp ih =>
    obtain ⟨a, hb, hs⟩ := ih (by omega) (by omega)
    have hno : missN n c p t js = 0 := by omega
    unfold missN at hno
    rw [List.countP_eq_zero] at hno
    have hI := H.beg hb (by omega) (fun i hi => by
      have := hno i (by simpa using hi)
      simpa using this)
    refine ⟨_, run_bef hI hp.sub, ?_⟩
    have e : sm n (fun i => ((if i ∈ ch then a i + 1 else a i : Nat) : Int)) = sm n (fun i => (a i : Int)) + sm n (fun i => if i ∈ ch then 1 else 0) := by
      rw [← sm_add]
      refine sm_congr fun i _ => ?_
      split <;> omega
    rw [e, sm_ch hp.nd (fun i hi => (hp.sub i hi).1), Int.natCast_add, Int.mul_add]
    have := hp.le
    omega
/-- No miss at the end: all has run. -/
theorem Per.all (H : Per n c p h) {js : Nat → JS} {a : Nat → Nat} (hb : BefS n c p h js a) (hm : missN n c p h js = 0) : ∀ i, i < n → c i * (h / p i) ≤ a i := fun i hi => by
  have h0 := H.h0
  have p0 := H.p0 hi
  have hq : h / p i * p i = h := Nat.div_mul_cancel (H.dv i hi)
  unfold missN at hm
  rw [List.countP_eq_zero] at hm
  have hmi := hm i (by simpa using hi)
  rcases hb i hi with ⟨e, _⟩ | ⟨_, e, l1, l2⟩
  · omega
  · have hk : (h - 1) / p i + 1 = h / p i := by
      have hq1 : 0 < h / p i := Nat.div_pos (Nat.le_of_dvd H.h0 (H.dv i hi)) p0
      have e2 : h - 1 = p i * (h / p i - 1) + (p i - 1) := by
        rw [Nat.mul_sub, Nat.mul_one, Nat.mul_comm, hq]
        have := Nat.le_of_dvd H.h0 (H.dv i hi)
        omega
      have hp1 : p i - 1 < p i := Nat.sub_lt p0 Nat.one_pos
      have hdz := Nat.div_eq_of_lt hp1
      rw [e2, Nat.mul_add_div p0, hdz]
      omega
    generalize (h - 1) / p i = k at *
    unfold missJ at hmi
    rw [e] at hmi
    have e3 : h = (k + 1) * p i := by rw [hk, hq]
    have e4 : (k + 1) * p i = k * p i + p i := by rw [Nat.add_mul, Nat.one_mul]
    have hp : (p i : Int) ≤ (h : Int) - ((k * p i : Nat) : Int) := by omega
    simp only [Bool.true_and, decide_eq_true hp, decide_eq_true_eq] at hmi
    rw [← hk, Nat.mul_comm, Nat.add_mul, Nat.one_mul]
    omega
/-- The simulation misses nothing only if the demand fits. -/
theorem Per.onlyFits (H : Per n c p h) {js : Nat → JS} {m : Nat} (hr : ReachS n cores c p (fun i => synR (p i) h) h js m) (hm : m + missN n c p h js = 0) : sm n (wP c p h) ≤ (cores : Int) * h := by
  obtain ⟨a, hb, hs⟩ := H.room hr (Nat.le_refl _) (by omega)
  refine Int.le_trans (sm_le fun i hi => ?_) hs
  have := H.all hb (by omega) i hi
  unfold wP
  omega
/-! ### What fits is not late -/
theorem cnt_ch {K : Nat} {a : Nat → Nat} {ch : List Nat} (hnd : ch.Nodup) (hs : ∀ i ∈ ch, i < n ∧ a i < K) : cntP n K (fun x => decide (x.1 ∈ ch ∧ x.2 = a x.1)) = (ch.length : Int) := by
  induction ch with
  | nil =>
    rw [show (fun x : Nat × Nat => decide (x.1 ∈ ([] : List Nat) ∧ x.2 = a x.1)) = fun _ => false from funext fun x => by simp]
    exact cnt_zero
  | cons y l ih =>
    obtain ⟨h1, h2⟩ := List.nodup_cons.1 hnd
    have := ih h2 (fun i hi => hs i (List.mem_cons_of_mem _ hi))
    obtain ⟨q1, q2⟩ := hs y (List.mem_cons_self ..)
    rw [cnt_upd (p := fun x => decide (x.1 ∈ l ∧ x.2 = a x.1)) (q := fun x => decide (x.1 ∈ y :: l ∧ x.2 = a x.1)) (x := (y, a y)) q1 q2 (fun x hx => ?_) (by simp [h1]) (by simp), this]
    · simp
    · by_cases e : x.1 = y
      · have : x.2 ≠ a x.1 := fun e2 => hx (Prod.ext e (by rw [e2, e]))
        simp [this]
      · simp [e]
def fullJ (n : Nat) (c p : Nat → Nat) (h : Nat) : Nat × Nat → Bool := fun x => decide (x.1 < n ∧ x.2 < c x.1 * (h / p x.1))
theorem Per.fullIn (H : Per n c p h) : inP n h (fullJ n c p h) := fun x hx => by
  have hx := of_decide_eq_true hx
  refine ⟨hx.1, ?_⟩
  have h1 : c x.1 * (h / p x.1) ≤ p x.1 * (h / p x.1) := Nat.mul_le_mul_right _ (H.cp _ hx.1)
  have h2 := Nat.mul_div_le h (p x.1)
  omega
theorem Per.ontime (H : Per n c p h) (hl : sm n (wP c p h) ≤ (cores : Int) * (h : Int)) {D : Nat → Nat × Nat → Bool} (hD : Run n h cores (h : Int) (wP c p h) (keyP n h c p) (fullJ n c p h) D)
    {t : Nat} {js : Nat → JS} {a : Nat → Nat} (hb : BefS n c p t js a) (hDa : ∀ i, i < n → ∀ k, D t (i, k) = true ↔ k < a i) (ht : t ≤ h) : ∀ i, i < n → missJ (c i) (p i) t (js i) = false := fun i hi => by
  have p0 := H.p0 hi
  have c0 := H.c1 i hi
  have hq : h / p i * p i = h := Nat.div_mul_cancel (H.dv i hi)
  rcases hb i hi with ⟨rfl, e, ea⟩ | ⟨h0, e, l1, l2⟩
  · rw [e]; rfl
  · generalize (t - 1) / p i = k at *
    rw [e]
    unfold missJ
    simp only [Bool.true_and]
    by_cases hp : (p i : Int) ≤ (t : Int) - ((k * p i : Nat) : Int)
    · rw [decide_eq_true hp, Bool.true_and]
      refine decide_eq_false fun hlt => ?_
      have e1 : (k + 1) * p i = k * p i + p i := by rw [Nat.add_mul, Nat.one_mul]
      have e2 : (k + 1) * c i = k * c i + c i := by rw [Nat.add_mul, Nat.one_mul]
      have hkq : k + 1 ≤ h / p i := by
        have : (k + 1) * p i ≤ h / p i * p i := by omega
        exact Nat.le_of_mul_le_mul_right this p0
      have hJ : fullJ n c p h (i, (k + 1) * c i - 1) = true := decide_eq_true ⟨hi, by
        have : (k + 1) * c i ≤ h / p i * c i := Nat.mul_le_mul_right _ hkq
        rw [Nat.mul_comm (c i)]
        simp only
        omega⟩
      have hdone := H.done hl H.fullIn hD hJ (s := t) (by
        have e3 : (((k + 1) * c i - 1 : Nat) : Int) + 1 = (((k + 1) * c i : Nat) : Int) := by omega
        simp only
        rw [e3, ← Int.natCast_mul, ← Int.natCast_mul, Nat.mul_comm (k + 1), Nat.mul_assoc]
        have : c i * ((k + 1) * p i) ≤ c i * t := Nat.mul_le_mul_left _ (by omega)
        omega)
      have := (hDa i hi _).1 hdone
      omega
    · rw [decide_eq_false hp, Bool.false_and]
theorem Per.reach (H : Per n c p h) (hl : sm n (wP c p h) ≤ (cores : Int) * (h : Int)) {D : Nat → Nat × Nat → Bool} (hD : Run n h cores (h : Int) (wP c p h) (keyP n h c p) (fullJ n c p h) D)
    {t : Nat} {js : Nat → JS} {m : Nat} (hr : ReachS n cores c p (fun i => synR (p i) h) t js m) (ht : t ≤ h) : m = 0 ∧ ∃ a, BefS n c p t js a ∧ ∀ i, i < n → ∀ k, D t (i, k) = true ↔ k < a i := by
  induction hr with
  | zero => exact ⟨rfl, fun _ => 0, fun i _ => .inl ⟨rfl, rfl, rfl⟩, fun i _ k => by rw [hD.zero]; simp⟩
  | @step t js m ch hr hp ih =>
    obtain ⟨hm, a, hb, hDa⟩ := ih (by omega)
    have hno := H.ontime hl hD hb hDa (by omega)
    have hI := H.beg hb (by omega) hno
    have hm0 : missN n c p t js = 0 := by
      unfold missN
      rw [List.countP_eq_zero]
      intro i hi
      rw [hno i (by simpa using hi)]; decide
    refine ⟨by omega, _, run_bef hI hp.sub, ?_⟩
    generalize begS p (fun i => synR (p i) h) t js = j2 at *
    -- who may run
    have hcand : ∀ i, i < n → (candJ (c i) (p i) t (j2 i) = true ↔ (a i : Int) * (p i : Int) < (c i : Int) * ((t : Int) + 1)) := fun i hi => by
      obtain ⟨e, l1, l2⟩ := hI i hi
      have p0 := H.p0 hi
      have c0 := H.c1 i hi
      have ec : t / p i * c i * p i = t / p i * p i * c i := Nat.mul_right_comm ..
      have d1 := Nat.div_add_mod t (p i)
      have d2 := Nat.mod_lt t p0
      rw [Nat.mul_comm] at d1
      unfold candJ
      rw [e]
      simp only [Bool.true_and, Bool.and_eq_true, decide_eq_true_eq]
      obtain ⟨b, hbb⟩ : ∃ b, a i = t / p i * c i + b := ⟨a i - t / p i * c i, by omega⟩
      have e1 : (a i : Int) - ((t / p i * c i : Nat) : Int) = (b : Int) := by omega
      have e2 : (a i : Int) * (p i : Int) = ((t / p i * p i : Nat) : Int) * (c i : Int) + (b : Int) * (p i : Int) := by
        rw [hbb, ← Int.natCast_mul, ← Int.natCast_mul, ← Int.natCast_mul, Nat.add_mul, ec]; omega
      rw [e1, e2]
      have e3 : (c i : Int) * ((t : Int) + 1) = ((t / p i * p i : Nat) : Int) * (c i : Int) + (c i : Int) * (((t % p i : Nat) : Int) + 1) := by
        rw [show (t : Int) + 1 = ((t / p i * p i : Nat) : Int) + (((t % p i : Nat) : Int) + 1) by omega, Int.mul_add, Int.mul_comm (c i : Int)]
      rw [e3]
      generalize hr0 : t / p i * p i = r0 at *
      generalize t % p i = u at *
      by_cases hbc : (b : Int) < (c i : Int)
      · have hE : Go.Proofs.YtfoadipocpopiaaGreat.wE (c i) (p i) ((b : Int) + 1) = 0 := wE_ok (H.vt hi) (by omega) (by omega)
        have hw : wR (c i) (p i) ((b : Int) + 1) = (b : Int) * (p i : Int) / (c i : Int) := by
          unfold wR; rw [if_pos hE, Int.add_sub_cancel]
        have hf := (floor_iff (K := (b : Int) * (p i : Int)) (c := (c i : Int)) (t := (b : Int) * (p i : Int) / (c i : Int)) (by omega)).1 rfl
        rw [hw]
        generalize (b : Int) * (p i : Int) / (c i : Int) = w at *
        generalize (b : Int) * (p i : Int) = y at *
        generalize hcc : (c i : Int) = cc at *
        constructor
        · rintro ⟨_, h2⟩
          have : w * cc + cc ≤ cc * ((u : Int) + 1) := by
            have := Int.mul_le_mul_of_nonneg_right (show w + 1 ≤ (u : Int) + 1 by omega) (show 0 ≤ cc by omega)
            rw [Int.add_mul, Int.one_mul] at this
            rw [Int.mul_comm cc]; exact this
          omega
        · intro h2
          refine ⟨hbc, ?_⟩
          have h3 : w * cc < ((u : Int) + 1) * cc := by rw [Int.mul_comm ((u : Int) + 1)]; omega
          have := Int.lt_of_mul_lt_mul_right h3 (by omega)
          omega
      · have hbe : (b : Int) = (c i : Int) := by omega
        refine ⟨fun h2 => absurd h2.1 hbc, fun h2 => ?_⟩
        exfalso
        rw [hbe] at h2
        have h3 : (p i : Int) * (c i : Int) < ((u : Int) + 1) * (c i : Int) := by rw [Int.mul_comm (p i : Int), Int.mul_comm ((u : Int) + 1)]; omega
        have := Int.lt_of_mul_lt_mul_right h3 (by omega)
        omega
    -- the subtask of a task that may run
    have hloc : ∀ i, i < n → candJ (c i) (p i) t (j2 i) = true → a i / c i = t / p i ∧ (j2 i).rl = relI c p (i, a i) ∧ (j2 i).dn + 1 = locI c (i, a i) := fun i hi hc => by
      obtain ⟨e, l1, l2⟩ := hI i hi
      have c0 := H.c1 i hi
      unfold candJ at hc
      rw [e] at hc ⊢
      simp only [Bool.true_and, Bool.and_eq_true, decide_eq_true_eq] at hc
      obtain ⟨b, hbb⟩ : ∃ b, a i = t / p i * c i + b := ⟨a i - t / p i * c i, by omega⟩
      have hbc : b < c i := by have := hc.1; omega
      have e1 : a i / c i = t / p i := by rw [hbb, Nat.mul_comm, Nat.mul_add_div (by omega), Nat.div_eq_of_lt hbc]; omega
      have e2 : a i % c i = b := by rw [hbb, Nat.mul_comm, Nat.mul_add_mod, Nat.mod_eq_of_lt hbc]
      refine ⟨e1, ?_, ?_⟩
      · unfold relI; simp only; rw [e1]
      · unfold locI; simp only; rw [e2]; omega
    have haJ : ∀ i, i < n → candJ (c i) (p i) t (j2 i) = true → a i < c i * (h / p i) := fun i hi hc => by
      have h1 := (hcand i hi).1 hc
      have hq : h / p i * p i = h := Nat.div_mul_cancel (H.dv i hi)
      have p0 := H.p0 hi
      have h2 : (c i : Int) * ((t : Int) + 1) ≤ (c i : Int) * (h : Int) := Int.mul_le_mul_of_nonneg_left (by omega) (by omega)
      have h3 : ((a i * p i : Nat) : Int) < ((c i * h : Nat) : Int) := by rw [Int.natCast_mul, Int.natCast_mul]; omega
      have h4 : a i * p i < c i * (h / p i) * p i := by rw [Nat.mul_assoc, hq]; omega
      exact Nat.lt_of_mul_lt_mul_right h4
    have hEl : ∀ x, ElP (h : Int) (wP c p h) (fullJ n c p h) (D t) t x ↔ x.1 < n ∧ x.2 = a x.1 ∧ candJ (c x.1) (p x.1) t (j2 x.1) = true := fun x => by
      constructor
      · rintro ⟨q1, q2, q3, q4⟩
        have hx := of_decide_eq_true q1
        have hge : ¬ x.2 < a x.1 := fun hlt => by
          have := (hDa x.1 hx.1 x.2).2 hlt
          rw [show (x.1, x.2) = x from rfl, q2] at this; cases this
        have hle : x.2 ≤ a x.1 := by
          apply Nat.le_of_not_lt
          intro hlt
          have hJ : fullJ n c p h (x.1, a x.1) = true := decide_eq_true ⟨hx.1, by have := hx.2; simp only; omega⟩
          have := (hDa x.1 hx.1 _).1 (q4 (a x.1) hlt hJ)
          omega
        have e : x.2 = a x.1 := by omega
        refine ⟨hx.1, e, (hcand x.1 hx.1).2 ?_⟩
        unfold relP at q3
        rw [H.lt hx.1] at q3
        rw [e] at q3
        exact q3
      · rintro ⟨hx, e, hc⟩
        refine ⟨decide_eq_true ⟨hx, by rw [e]; exact haJ x.1 hx hc⟩, ?_, ?_, fun k hk _ => (hDa x.1 hx k).2 (by omega)⟩
        · cases e2 : D t x with
          | false => rfl
          | true =>
            have := (hDa x.1 hx x.2).1 e2
            omega
        · unfold relP
          rw [H.lt hx, e]
          exact (hcand x.1 hx).1 hc
    have hchK : ∀ i ∈ ch, i < n ∧ a i < h := fun i hi => by
      obtain ⟨q1, q2⟩ := hp.sub i hi
      have h1 := H.fullIn (i, a i) (decide_eq_true ⟨q1, haJ i q1 q2⟩)
      exact h1
    have hC : Pick n h (keyP n h c p) cores (ElP (h : Int) (wP c p h) (fullJ n c p h) (D t) t) (fun x => decide (x.1 ∈ ch ∧ x.2 = a x.1)) := by
      refine ⟨fun x hx => ?_, ?_, fun x hx hcx => ?_⟩
      · obtain ⟨q1, q2⟩ := of_decide_eq_true hx
        obtain ⟨q3, q4⟩ := hp.sub _ q1
        exact (hEl x).2 ⟨q3, q2, q4⟩
      · rw [cnt_ch hp.nd hchK]; have := hp.le; omega
      · obtain ⟨q1, q2, q3⟩ := (hEl x).1 hx
        have hnot : x.1 ∉ ch := fun hm2 => by simp [hm2, q2] at hcx
        obtain ⟨f1, f2⟩ := hp.full x.1 q1 q3 hnot
        rw [cnt_ch hp.nd hchK]
        refine ⟨by omega, fun y hy => ?_⟩
        obtain ⟨y1, y2⟩ := of_decide_eq_true hy
        obtain ⟨y3, y4⟩ := hp.sub _ y1
        have hb := f2 _ y1
        obtain ⟨_, g1, g2⟩ := hloc y.1 y3 y4
        obtain ⟨_, g3, g4⟩ := hloc x.1 q1 q3
        unfold bef2 at hb
        rw [g1, g2, g3, g4, ← y2, ← q2] at hb
        exact key_lt y3 (by rw [y2]; exact (hchK _ y1).2) hb
    have hsame := Pick.stay (z := (n, 0)) (hD.pick t) hC (fun x hx => H.fullIn x hx.mem) (fun x hx => H.fullIn x hx.mem) (by
      cases e : newP (D t) (D (t + 1)) (n, 0) with
      | false => rfl
      | true =>
        have := (H.fullIn _ ((hD.pick t).sub _ e).mem).1
        simp only at this; omega) (fun x hx _ => hx) (fun x h1 h2 => absurd h1 h2)
    intro i hi k
    have hs := hsame (i, k)
    simp only at hs
    constructor
    · intro hd
      cases e : D t (i, k) with
      | true =>
        have := (hDa i hi k).1 e
        split <;> omega
      | false =>
        rw [newP_iff.2 ⟨hd, e⟩] at hs
        obtain ⟨q1, q2⟩ := of_decide_eq_true hs
        rw [if_pos q1]; omega
    · intro hk
      by_cases hka : k < a i
      · exact hD.mono _ _ ((hDa i hi k).2 hka)
      · by_cases hc : i ∈ ch
        · rw [if_pos hc] at hk
          have : decide (i ∈ ch ∧ k = a i) = true := decide_eq_true ⟨hc, by omega⟩
          rw [this] at hs
          exact (newP_iff.1 hs.symm).1
        · rw [if_neg hc] at hk; omega
/-- What fits is simulated without a miss. -/
theorem Per.fits (H : Per n c p h) (hl : sm n (wP c p h) ≤ (cores : Int) * (h : Int)) {js : Nat → JS} {m : Nat} (hr : ReachS n cores c p (fun i => synR (p i) h) h js m) : m + missN n c p h js = 0 := by
  obtain ⟨D, hD⟩ := run_ex (H.pd (K := h) hl) H.fullIn
  obtain ⟨hm, a, hb, hDa⟩ := H.reach hl hD hr (Nat.le_refl _)
  have hno := H.ontime hl hD hb hDa (Nat.le_refl _)
  have : missN n c p h js = 0 := by
    unfold missN
    rw [List.countP_eq_zero]
    intro i hi
    rw [hno i (by simpa using hi)]; decide
  omega
end
end

section
/-! ### Digits to the base 2^32 -/
def BB : Nat := 4294967296
/-- The value of the lowest n digits. -/
def vl (f : Nat → Nat) : Nat → Nat
  | 0 => 0
  | n + 1 => vl f n + f n * BB ^ n
def updG (f : Nat → Nat) (j x : Nat) : Nat → Nat := fun v => if v = j then x else f v
def Dg (f : Nat → Nat) (n : Nat) : Prop := ∀ i, i < n → f i < BB
def Nrm (f : Nat → Nat) (n : Nat) : Prop := Dg f n ∧ (n = 0 ∨ f (n - 1) ≠ 0)
theorem BB_pos : 0 < BB := by decide
theorem BBn_pos (n : Nat) : 0 < BB ^ n := Nat.pow_pos BB_pos
section
variable {f g : Nat → Nat} {n m i j x : Nat}
theorem vl_congr (h : ∀ i, i < n → f i = g i) : vl f n = vl g n := by
  induction n with
  | zero => rfl
  | succ n ih => rw [vl, vl, ih (fun i hi => h i (by omega)), h n (by omega)]
theorem vl_zero (h : ∀ i, i < n → f i = 0) : vl f n = 0 := by
  induction n with
  | zero => rfl
  | succ n ih => rw [vl, ih (fun i hi => h i (by omega)), h n (by omega)]; simp
theorem vl_more (h : ∀ i, n ≤ i → i < m → f i = 0) (hn : n ≤ m) : vl f m = vl f n := by
  obtain ⟨d, rfl⟩ : ∃ d, m = n + d := ⟨m - n, by omega⟩
  clear hn
  induction d with
  | zero => rfl
  | succ d ih =>
    rw [← Nat.add_assoc, vl, ih (fun i h1 h2 => h i h1 (by omega)), h (n + d) (by omega) (by omega)]
    simp
theorem vl_upd (hj : j < n) : vl (updG f j x) n + f j * BB ^ j = vl f n + x * BB ^ j := by
  induction n with
  | zero => omega
  | succ n ih =>
    rw [vl, vl]
    by_cases e : j = n
    · subst e
      have h1 : vl (updG f j x) j = vl f j := vl_congr fun i hi => by unfold updG; rw [if_neg (by omega)]
      have h2 : updG f j x j = x := by simp [updG]
      rw [h1, h2]; omega
    · have h2 : updG f j x n = f n := by unfold updG; rw [if_neg (by omega)]
      have := ih (by omega)
      rw [h2]; omega
theorem vl_lt (h : Dg f n) : vl f n < BB ^ n := by
  induction n with
  | zero => simp [vl]
  | succ n ih =>
    have h1 := ih (fun i hi => h i (by omega))
    have h2 := h n (by omega)
    rw [vl, Nat.pow_succ]
    have h3 : (f n + 1) * BB ^ n ≤ BB * BB ^ n := Nat.mul_le_mul_right _ h2
    rw [Nat.add_mul, Nat.one_mul] at h3
    rw [Nat.mul_comm (BB ^ n)]
    omega
theorem vl_mono (h : n ≤ m) : vl f n ≤ vl f m := by
  obtain ⟨d, rfl⟩ : ∃ d, m = n + d := ⟨m - n, by omega⟩
  clear h
  induction d with
  | zero => exact Nat.le_refl _
  | succ d ih => rw [← Nat.add_assoc, vl]; omega
theorem vl_ge (h : Nrm f n) (hn : 0 < n) : BB ^ (n - 1) ≤ vl f n := by
  obtain ⟨k, rfl⟩ : ∃ k, n = k + 1 := ⟨n - 1, by omega⟩
  rcases h.2 with h0 | h0
  · omega
  · simp only [Nat.add_sub_cancel] at h0 ⊢
    rw [vl]
    have : 1 * BB ^ k ≤ f k * BB ^ k := Nat.mul_le_mul_right _ (by omega)
    omega
theorem vl_pos (h : Nrm f n) (hn : 0 < n) : 0 < vl f n := Nat.lt_of_lt_of_le (BBn_pos _) (vl_ge h hn)
theorem vl_eq0 (h : Nrm f n) : vl f n = 0 ↔ n = 0 := by
  constructor
  · intro e
    rcases Nat.eq_zero_or_pos n with h0 | h0
    · exact h0
    · have := vl_pos h h0; omega
  · rintro rfl; rfl
theorem vl_short (hf : Nrm f n) (hg : Nrm g m) (h : n < m) : vl f n < vl g m := by
  have h1 := vl_lt hf.1
  have h2 := vl_ge hg (by omega)
  have h3 : BB ^ n ≤ BB ^ (m - 1) := Nat.pow_le_pow_right BB_pos (by omega)
  omega
theorem vl_cmp (hf : Dg f n) (hi : i < n) (h : ∀ j, i < j → j < n → f j = g j) (hl : f i < g i) : vl f n < vl g n := by
  induction n with
  | zero => omega
  | succ n ih =>
    rw [vl, vl]
    by_cases e : i = n
    · subst e
      have h1 := vl_lt (f := f) (n := i) (fun j hj => hf j (by omega))
      have h2 : (f i + 1) * BB ^ i ≤ g i * BB ^ i := Nat.mul_le_mul_right _ hl
      rw [Nat.add_mul, Nat.one_mul] at h2
      omega
    · have h1 := ih (fun j hj => hf j (by omega)) (by omega) (fun j h1 h2 => h j h1 (by omega))
      rw [h n (by omega) (by omega)]
      omega
theorem Nrm.zero : Nrm f 0 := ⟨fun i hi => absurd hi (Nat.not_lt_zero _), .inl rfl⟩
/-- One digit is its value. -/
theorem vl_one : vl f 1 = f 0 := by simp [vl]
theorem vl_small (hf : Nrm f n) (h : vl f n < BB) : n ≤ 1 := by
  rcases Nat.lt_or_ge 1 n with h1 | h1
  · have h2 := vl_ge hf (by omega)
    have h3 : BB ^ 1 ≤ BB ^ (n - 1) := Nat.pow_le_pow_right BB_pos (by omega)
    simp at h3; omega
  · exact h1
/-- A digit written at the end of the carry's chain. -/
theorem carry_split (t : Nat) : t % BB + BB * (t / BB) = t := Nat.mod_add_div t BB
theorem add_step {r a b c t : Nat} (h : r + c * BB ^ i = a + b) (x y : Nat) (ht : t = x + c + y) : r + (t % BB) * BB ^ i + (t / BB) * BB ^ (i + 1) = (a + x * BB ^ i) + (b + y * BB ^ i) := by
  have h1 := carry_split t
  have h2 : (t % BB) * BB ^ i + (t / BB) * BB ^ (i + 1) = t * BB ^ i := by
    conv => rhs; rw [← h1]
    rw [Nat.pow_succ, Nat.add_mul, Nat.mul_comm (BB ^ i) BB, ← Nat.mul_assoc, Nat.mul_comm (t / BB) BB]
  have h3 : t * BB ^ i = x * BB ^ i + c * BB ^ i + y * BB ^ i := by rw [ht, Nat.add_mul, Nat.add_mul]
  omega
end
end

section
/-- A fluid schedule of the jobs (Wj / H in each slot of a window): no cut is below the sum of the costs. -/
theorem cut_fluid {l : List FJ} {S : Nat} {cores H : Int} (Wj : Nat → Int) (h0 : 0 < H) (hw : ∀ j, j < l.length → 0 ≤ Wj j ∧ Wj j ≤ H)
    (hc : ∀ j, j < l.length → (fjAt l j).c * H ≤ sm S (fun s => if winB l j s = true then Wj j else 0))
    (hs : ∀ s, s < S → sm l.length (fun j => if winB l j s = true then Wj j else 0) ≤ cores * H)
    (T : Nat → Bool) (hT0 : T 0 = true) (ht : T (1 + l.length + S) = false) : totalC l ≤ cutV (netN l S) (netF l S cores) T := by
  rw [cut_net T hT0 ht]
  -- all times H
  have a1 : sm l.length (fun j => if T (1 + j) = true then (fjAt l j).c * H else 0) ≤
      sm l.length (fun j => if T (1 + j) = true then sm S (fun s => if T (1 + l.length + s) = false ∧ winB l j s = true then 1 else 0) * H else 0) +
      sm l.length (fun j => sm S (fun s => if T (1 + l.length + s) = true then (if winB l j s = true then Wj j else 0) else 0)) := by
    rw [← sm_add]
    refine sm_le fun j hj => ?_
    obtain ⟨w0, w1⟩ := hw j hj
    have hn : 0 ≤ sm S (fun s => if T (1 + l.length + s) = true then (if winB l j s = true then Wj j else 0) else 0) := sm_nonneg fun s _ => by
      split
      · split <;> omega
      · omega
    by_cases e : T (1 + j) = true
    · rw [if_pos e, if_pos e]
      refine Int.le_trans (hc j hj) ?_
      rw [Int.mul_comm, ← sm_mul, ← sm_add]
      refine sm_le fun s _ => ?_
      cases hT : T (1 + l.length + s) <;> cases hwn : winB l j s <;> simp <;> omega
    · rw [if_neg e, if_neg e]; omega
  have a2 : sm l.length (fun j => sm S (fun s => if T (1 + l.length + s) = true then (if winB l j s = true then Wj j else 0) else 0)) ≤ sm S (fun s => if T (1 + l.length + s) = true then cores * H else 0) := by
    rw [sm_swap]
    refine sm_le fun s hs' => ?_
    by_cases e : T (1 + l.length + s) = true
    · rw [if_pos e]
      refine Int.le_trans (Int.le_of_eq (sm_congr fun j _ => ?_)) (hs s hs')
      rw [if_pos e]
    · rw [if_neg e]
      refine Int.le_of_eq ((sm_congr fun j _ => ?_).trans (sm_zero _))
      rw [if_neg e]
  have a3 : sm S (fun s => if T (1 + l.length + s) = true then cores * H else 0) = H * sm S (fun s => if T (1 + l.length + s) = true then cores else 0) := by
    rw [← sm_mul]
    refine sm_congr fun s _ => ?_
    split
    · rw [Int.mul_comm]
    · omega
  have a4 : sm l.length (fun j => if T (1 + j) = true then sm S (fun s => if T (1 + l.length + s) = false ∧ winB l j s = true then 1 else 0) * H else 0) =
      H * sm l.length (fun j => if T (1 + j) = true then sm S (fun s => if T (1 + l.length + s) = false ∧ winB l j s = true then 1 else 0) else 0) := by
    rw [← sm_mul]
    refine sm_congr fun j _ => ?_
    split
    · rw [Int.mul_comm]
    · omega
  have a5 : sm l.length (fun j => if T (1 + j) = true then (fjAt l j).c * H else 0) + H * sm l.length (fun j => if T (1 + j) = true then 0 else (fjAt l j).c) = H * totalC l := by
    unfold totalC
    rw [← sm_mul, ← sm_mul, ← sm_add]
    refine sm_congr fun j _ => ?_
    split
    · rw [Int.mul_comm]; omega
    · omega
  rw [a3] at a2
  rw [a4] at a1
  refine Int.le_of_mul_le_mul_left (a := H) ?_ h0
  rw [Int.mul_add, Int.mul_add]
  omega
/-! ### Sums over lists of jobs -/
theorem fjAt_left {l m : List FJ} {j : Nat} (h : j < l.length) : fjAt (l ++ m) j = fjAt l j := by
  unfold fjAt; rw [List.getD_eq_getElem?_getD, List.getD_eq_getElem?_getD, List.getElem?_append_left h]
theorem fjAt_right {l m : List FJ} (j : Nat) : fjAt (l ++ m) (l.length + j) = fjAt m j := by
  unfold fjAt; rw [List.getD_eq_getElem?_getD, List.getD_eq_getElem?_getD, List.getElem?_append_right (by omega), Nat.add_sub_cancel_left]
def sumJ (l : List FJ) (f : FJ → Int) : Int := sm l.length fun j => f (fjAt l j)
theorem sumJ_app (l m : List FJ) (f : FJ → Int) : sumJ (l ++ m) f = sumJ l f + sumJ m f := by
  unfold sumJ
  rw [List.length_append, sm_split]
  congr 1
  · exact sm_congr fun j hj => by rw [fjAt_left hj]
  · exact sm_congr fun j _ => by rw [fjAt_right]
theorem sumJ_nil (f : FJ → Int) : sumJ [] f = 0 := rfl
theorem sumJ_one (x : FJ) (f : FJ → Int) : sumJ [x] f = f x := by unfold sumJ; simp [sm, fjAt]
/-- The jobs of a task that is released together with the others: q jobs. -/
def perJ (p c : Int) (q : Nat) : List FJ := (List.range q).map fun k : Nat => ⟨(k : Int) * p, (k : Int) * p + p, c⟩
theorem perJ_succ (p c : Int) (q : Nat) : perJ p c (q + 1) = perJ p c q ++ [⟨(q : Int) * p, (q : Int) * p + p, c⟩] := by simp [perJ, List.range_succ]
theorem perJ_cost (p c : Int) : ∀ q : Nat, sumJ (perJ p c q) (fun x => x.c) = q * c
  | 0 => by simp [perJ, sumJ, sm]
  | q + 1 => by rw [perJ_succ, sumJ_app, perJ_cost p c q, sumJ_one, Int.natCast_add, Int.add_mul]; simp
/-- At most one job of a task may run in a slot. -/
theorem perJ_slot {p c W : Int} (hp : 0 < p) (hW : 0 ≤ W) (s : Nat) : ∀ q : Nat, 0 ≤ sumJ (perJ p c q) (fun x => if x.r ≤ (s : Int) ∧ (s : Int) < x.d then W else 0) ∧ sumJ (perJ p c q) (fun x => if x.r ≤ (s : Int) ∧ (s : Int) < x.d then W else 0) ≤ W ∧
    ((q : Int) * p ≤ (s : Int) → sumJ (perJ p c q) (fun x => if x.r ≤ (s : Int) ∧ (s : Int) < x.d then W else 0) = 0)
  | 0 => by simp [perJ, sumJ, sm, hW]
  | q + 1 => by
    obtain ⟨h1, h2, h3⟩ := perJ_slot (c := c) hp hW s q
    have e : ((q + 1 : Nat) : Int) * p = (q : Int) * p + p := by rw [Int.natCast_add, Int.add_mul]; simp
    rw [perJ_succ, sumJ_app, sumJ_one, e]
    simp only
    generalize sumJ (perJ p c q) (fun x => if x.r ≤ (s : Int) ∧ (s : Int) < x.d then W else 0) = z at *
    generalize (q : Int) * p = y at *
    by_cases g1 : y ≤ (s : Int)
    · have h4 := h3 g1
      subst h4
      split <;> omega
    · rw [if_neg (by omega)]
      omega
end

section
/-! ### A search for shortest paths, step by step -/
def cntL (n : Nat) (lv : Nat → Int) : Int := sm n fun v => if 0 ≤ lv v then 1 else 0
def updL (f : Nat → Int) (j : Nat) (x : Int) : Nat → Int := fun v => if v = j then x else f v
theorem cntL_le (n : Nat) (lv : Nat → Int) : 0 ≤ cntL n lv ∧ cntL n lv ≤ n := by
  have h1 := sm_le (n := n) (f := fun v => if 0 ≤ lv v then 1 else 0) (g := fun _ => 1) (fun i _ => by show (if _ then (1 : Int) else 0) ≤ 1; split <;> omega)
  have h2 := sm_const 1 n
  have h3 := sm_nonneg (n := n) (f := fun v => if 0 ≤ lv v then 1 else 0) (fun i _ => by show 0 ≤ (if _ then (1 : Int) else 0); split <;> omega)
  unfold cntL; omega
structure Bfs (n : Nat) (r : Nat → Nat → Int) (src : Nat) (lv : Nat → Int) (q : List Nat) (u j : Nat) : Prop where
  low : ∀ v, v < n → -1 ≤ lv v
  top : ∀ v, v < n → lv v < cntL n lv
  src0 : lv src = 0
  mem : ∀ x ∈ q, x < n ∧ 0 ≤ lv x
  par : ∀ v, v < n → 0 ≤ lv v → v = src ∨ ∃ u, u < n ∧ 0 ≤ lv u ∧ lv v = lv u + 1 ∧ 0 < r u v
  cls : ∀ x, x < n → 0 ≤ lv x → x ∈ q ∨ (∀ v, v < n → 0 < r x v → 0 ≤ lv v) ∨ (x = u ∧ ∀ v, v < j → 0 < r x v → 0 ≤ lv v)
section
variable {n : Nat} {r : Nat → Nat → Int} {src : Nat} {lv : Nat → Int} {q : List Nat} {u j : Nat}
theorem Bfs.init (hs : src < n) : Bfs n r src (updL (fun _ => -1) src 0) [src] n 0 where
  low := fun v _ => by
    show (-1 : Int) ≤ if v = src then 0 else -1
    split <;> omega
  top := fun v hv => by
    have h : cntL n (updL (fun _ => -1) src 0) = 1 := by
      unfold cntL
      rw [sm_one hs (fun i _ hne => by simp [updL, hne])]
      simp [updL]
    rw [h]
    show (if v = src then (0 : Int) else -1) < 1
    split <;> omega
  src0 := by simp [updL]
  mem := fun x hx => by
    simp at hx
    subst hx
    exact ⟨hs, by simp [updL]⟩
  par := fun v _ h0 => by
    by_cases e : v = src
    · exact .inl e
    · simp [updL, e] at h0
  cls := fun x _ h0 => by
    by_cases e : x = src
    · exact .inl (by simp [e])
    · simp [updL, e] at h0
theorem Bfs.pop (h : Bfs n r src lv (u :: q) n 0) : Bfs n r src lv q u 0 ∧ u < n ∧ 0 ≤ lv u := by
  obtain ⟨h1, h2⟩ := h.mem u (List.mem_cons_self ..)
  refine ⟨⟨h.low, h.top, h.src0, fun x hx => h.mem x (List.mem_cons_of_mem _ hx), h.par, fun x hx h0 => ?_⟩, h1, h2⟩
  rcases h.cls x hx h0 with e | e | ⟨e, _⟩
  · rcases List.mem_cons.1 e with rfl | e
    · exact .inr (.inr ⟨rfl, fun v hv => absurd hv (Nat.not_lt_zero _)⟩)
    · exact .inl e
  · exact .inr (.inl e)
  · omega
theorem Bfs.skip (h : Bfs n r src lv q u j) (hj : r u j ≤ 0 ∨ 0 ≤ lv j) : Bfs n r src lv q u (j + 1) := by
  refine ⟨h.low, h.top, h.src0, h.mem, h.par, fun x hx h0 => ?_⟩
  rcases h.cls x hx h0 with e | e | ⟨rfl, e⟩
  · exact .inl e
  · exact .inr (.inl e)
  · refine .inr (.inr ⟨rfl, fun v hv hp => ?_⟩)
    by_cases hvj : v = j
    · subst hvj
      rcases hj with hj | hj
      · omega
      · exact hj
    · exact e v (by omega) hp
theorem Bfs.add (h : Bfs n r src lv q u j) (hjn : j < n) (hu : u < n) (hu0 : 0 ≤ lv u) (hp : 0 < r u j) (hlv : lv j < 0) : Bfs n r src (updL lv j (lv u + 1)) (q ++ [j]) u (j + 1) ∧ cntL n (updL lv j (lv u + 1)) = cntL n lv + 1 := by
  have hc : cntL n (updL lv j (lv u + 1)) = cntL n lv + 1 := by
    unfold cntL
    rw [sm_upd (t := j) (f := fun v => if 0 ≤ lv v then 1 else 0) hjn (fun i _ hne => by simp [updL, hne])]
    have e1 : (if 0 ≤ updL lv j (lv u + 1) j then (1 : Int) else 0) = 1 := by simp [updL]; omega
    have e2 : (if 0 ≤ lv j then (1 : Int) else 0) = 0 := if_neg (by omega)
    rw [e1, e2]; omega
  have hold : ∀ v, 0 ≤ lv v → updL lv j (lv u + 1) v = lv v := fun v hv => if_neg (fun e => by rw [e] at hv; omega)
  have hup : ∀ v, 0 ≤ lv v → 0 ≤ updL lv j (lv u + 1) v := fun v hv => by rw [hold v hv]; exact hv
  refine ⟨⟨fun v hv => ?_, fun v hv => ?_, ?_, fun x hx => ?_, fun v hv h0 => ?_, fun x hx h0 => ?_⟩, hc⟩
  · have := h.low v hv
    unfold updL; split <;> omega
  · have h1 := h.top v hv
    have h2 := h.top u hu
    rw [hc]; unfold updL; split <;> omega
  · rw [hold src (by rw [h.src0]; exact Int.le_refl _)]; exact h.src0
  · rcases List.mem_append.1 hx with hx | hx
    · obtain ⟨h1, h2⟩ := h.mem x hx
      exact ⟨h1, hup x h2⟩
    · simp at hx
      subst hx
      exact ⟨hjn, by simp [updL]; omega⟩
  · by_cases e : v = j
    · subst e
      exact .inr ⟨u, hu, hup u hu0, by rw [hold u hu0]; simp [updL], hp⟩
    · have e1 : updL lv j (lv u + 1) v = lv v := if_neg e
      rw [e1] at h0 ⊢
      rcases h.par v hv h0 with rfl | ⟨p, p1, p2, p3, p4⟩
      · exact .inl rfl
      · exact .inr ⟨p, p1, hup p p2, by rw [hold p p2]; exact p3, p4⟩
  · by_cases e : x = j
    · subst e
      exact .inl (by simp)
    · have e1 : updL lv j (lv u + 1) x = lv x := if_neg e
      rw [e1] at h0
      rcases h.cls x hx h0 with e | e | ⟨rfl, e⟩
      · exact .inl (List.mem_append_left _ e)
      · exact .inr (.inl fun v hv hpv => hup v (e v hv hpv))
      · refine .inr (.inr ⟨rfl, fun v hv hpv => ?_⟩)
        by_cases hvj : v = j
        · subst hvj; simp [updL]; omega
        · exact hup v (e v (by omega) hpv)
theorem Bfs.done (h : Bfs n r src lv q u n) : Bfs n r src lv q n 0 := by
  refine ⟨h.low, h.top, h.src0, h.mem, h.par, fun x hx h0 => ?_⟩
  rcases h.cls x hx h0 with e | e | ⟨_, e⟩
  · exact .inl e
  · exact .inr (.inl e)
  · exact .inr (.inl e)
theorem Bfs.lev (h : Bfs n r src lv [] n 0) : Lev n r src lv where
  low := h.low
  top := fun v hv => Int.lt_of_lt_of_le (h.top v hv) (cntL_le n lv).2
  src0 := h.src0
  par := h.par
  cls := fun x v hx hv h0 hp => by
    rcases h.cls x hx h0 with e | e | ⟨e, _⟩
    · cases e
    · exact e v hv hp
    · omega
end
end
end Go.Proofs.YtfoadipocpopiaaGreat
