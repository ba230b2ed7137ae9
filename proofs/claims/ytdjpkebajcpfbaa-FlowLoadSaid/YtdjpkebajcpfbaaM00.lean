/- Several texts in one: Sums, cuts, residual capacities, and flow that is pushed along shortest paths: plain Lean. Conditions: each theorem's own. The network of jobs and slots: plain Lean. Conditions: each theorem's own. Digits to the base 2^32: plain Lean. Conditions: each theorem's own. Jobs that a fluid schedule serves have no narrow cut: plain Lean. Conditions: each theorem's own. A search for shortest paths, step by step: plain Lean. Conditions: each theorem's own. -/

namespace Go.Proofs.Ytdjpkebajcpfbaa
section
def sm (n : Nat) (f : Nat → Int) : Int := match n with
  | 0 => 0
  | n + 1 => sm n f + f n
theorem sm_congr {f g : Nat → Int} : ∀ {n : Nat}, (∀ i, i < n → f i = g i) → sm n f = sm n g
  | 0, _ => rfl
  | n + 1, h => by rw [sm, sm, sm_congr (fun i hi => h i (by omega)), h n (by omega)]
theorem sm_le {f g : Nat → Int} : ∀ {n : Nat}, (∀ i, i < n → f i ≤ g i) → sm n f ≤ sm n g
  | 0, _ => Int.le_refl _
  | n + 1, h => by
    have := sm_le (n := n) (fun i hi => h i (by omega))
    have := h n (by omega)
    rw [sm, sm]; omega
theorem sm_zero (n : Nat) : sm n (fun _ => 0) = 0 := by
  induction n with
  | zero => rfl
  | succ n ih => rw [sm, ih]; rfl
theorem sm_nonneg {f : Nat → Int} {n : Nat} (h : ∀ i, i < n → 0 ≤ f i) : 0 ≤ sm n f := by
  have := sm_le (f := fun _ => 0) h
  rw [sm_zero] at this; exact this
theorem sm_add (f g : Nat → Int) : ∀ n, sm n (fun i => f i + g i) = sm n f + sm n g
  | 0 => rfl
  | n + 1 => by rw [sm, sm, sm, sm_add f g n]; omega
theorem sm_sub (f g : Nat → Int) : ∀ n, sm n (fun i => f i - g i) = sm n f - sm n g
  | 0 => rfl
  | n + 1 => by rw [sm, sm, sm, sm_sub f g n]; omega
theorem sm_neg (f : Nat → Int) : ∀ n, sm n (fun i => - f i) = - sm n f
  | 0 => rfl
  | n + 1 => by rw [sm, sm, sm_neg f n]; omega
theorem sm_mul (c : Int) (f : Nat → Int) : ∀ n, sm n (fun i => c * f i) = c * sm n f
  | 0 => by simp [sm]
  | n + 1 => by rw [sm, sm, sm_mul c f n, Int.mul_add]
theorem sm_swap (f : Nat → Nat → Int) (m : Nat) : ∀ n, sm n (fun i => sm m (fun j => f i j)) = sm m (fun j => sm n (fun i => f i j))
  | 0 => by simp [sm, sm_zero]
  | n + 1 => by
    rw [sm, sm_swap f m n, ← sm_add]; rfl
theorem sm_upd {f g : Nat → Int} {t : Nat} : ∀ {n : Nat}, t < n → (∀ i, i < n → i ≠ t → g i = f i) → sm n g = sm n f + (g t - f t)
  | 0, h, _ => by omega
  | n + 1, ht, h => by
    rw [sm, sm]
    by_cases e : t = n
    · subst e
      rw [sm_congr (f := g) (g := f) (fun i hi => h i (by omega) (by omega))]; omega
    · rw [sm_upd (t := t) (by omega) (fun i hi hne => h i (by omega) hne), h n (by omega) (Ne.symm e)]; omega
theorem sm_one {f : Nat → Int} {t n : Nat} (ht : t < n) (h : ∀ i, i < n → i ≠ t → f i = 0) : sm n f = f t := by
  have := sm_upd (f := fun _ => 0) (g := f) ht h
  rw [sm_zero] at this; omega
theorem sm_term {f : Nat → Int} {n i : Nat} (h : ∀ j, j < n → 0 ≤ f j) (hi : i < n) : f i ≤ sm n f := by
  have h1 := sm_le (f := fun j => if j = i then f i else 0) (g := f) (n := n) (fun j hj => by
    show (if j = i then f i else 0) ≤ f j
    split
    · rename_i e; rw [e]; exact Int.le_refl _
    · exact h j hj)
  have h2 := sm_one (f := fun j => if j = i then f i else 0) hi (fun j _ hne => if_neg hne)
  have h3 : (if i = i then f i else 0) = f i := if_pos rfl
  rw [h2] at h1
  simpa using h1
theorem sm_const (c : Int) : ∀ n : Nat, sm n (fun _ => c) = c * n
  | 0 => by simp [sm]
  | n + 1 => by rw [sm, sm_const c n]; rw [Int.natCast_add, Int.mul_add]; simp
theorem sm_ext {f : Nat → Int} {m : Nat} : ∀ {n : Nat}, m ≤ n → (∀ i, m ≤ i → i < n → f i = 0) → sm n f = sm m f
  | 0, h, _ => by rw [show m = 0 by omega]
  | n + 1, h, hz => by
    by_cases e : m = n + 1
    · rw [e]
    · rw [sm, sm_ext (by omega) (fun i h1 h2 => hz i h1 (by omega)), hz n (by omega) (by omega)]; omega
theorem sm_split (f : Nat → Int) (m : Nat) : ∀ n, sm (m + n) f = sm m f + sm n (fun i => f (m + i))
  | 0 => by simp [sm]
  | n + 1 => by rw [← Nat.add_assoc, sm, sm_split f m n, sm]; omega
/-! ### Cuts, and residual capacities -/
def cutV (n : Nat) (c : Nat → Nat → Int) (S : Nat → Bool) : Int := sm n fun u => sm n fun v => if S u = true ∧ S v = false then c u v else 0

/-- r is what is left of the capacities c by a flow of the value val from s to t. -/
structure Res (n : Nat) (c : Nat → Nat → Int) (r : Nat → Nat → Int) (ex : Nat → Int) : Prop where
  nonneg : ∀ u v, u < n → v < n → 0 ≤ r u v
  pair : ∀ u v, u < n → v < n → r u v + r v u = c u v + c v u
  net : ∀ u, u < n → sm n (fun v => c u v - r u v) = ex u

section
variable {n : Nat} {c r : Nat → Nat → Int} {ex : Nat → Int} {S : Nat → Bool}

/-- What leaves S is the sum of the excesses in S. -/
theorem Res.leave (h : Res n c r ex) (S : Nat → Bool) : sm n (fun u => if S u = true then ex u else 0) = sm n (fun u => sm n fun v => if S u = true ∧ S v = false then c u v - r u v else 0) := by
  have e1 : sm n (fun u => if S u = true then ex u else 0) = sm n (fun u => sm n fun v => if S u = true then c u v - r u v else 0) := by
    refine sm_congr fun u hu => ?_
    by_cases hs : S u = true
    · rw [if_pos hs, ← h.net u hu]
      exact sm_congr fun v _ => (if_pos hs).symm
    · rw [if_neg hs]
      have e0 : sm n (fun v => if S u = true then c u v - r u v else 0) = sm n (fun _ => 0) := sm_congr fun v _ => if_neg hs
      rw [sm_zero] at e0
      exact e0.symm
  have e2 : sm n (fun u => sm n fun v => if S u = true then c u v - r u v else 0) =
      sm n (fun u => sm n fun v => if S u = true ∧ S v = false then c u v - r u v else 0) + sm n (fun u => sm n fun v => if S u = true ∧ S v = true then c u v - r u v else 0) := by
    rw [← sm_add]
    refine sm_congr fun u hu => ?_
    rw [← sm_add]
    refine sm_congr fun v hv => ?_
    cases S u <;> cases S v <;> simp
  have e3 : sm n (fun u => sm n fun v => if S u = true ∧ S v = true then c u v - r u v else 0) = - sm n (fun u => sm n fun v => if S u = true ∧ S v = true then c u v - r u v else 0) := by
    conv => lhs; rw [sm_swap]
    rw [← sm_neg]
    refine sm_congr fun v hv => ?_
    rw [← sm_neg]
    refine sm_congr fun u hu => ?_
    have := h.pair u v hu hv
    cases S u <;> cases S v <;> simp; omega
  rw [e1, e2]; omega
/-- The excess of a flow of the value val. -/
def exOf (s t : Nat) (val : Int) (u : Nat) : Int := (if u = s then val else 0) - (if u = t then val else 0)
theorem ex_sum {s t : Nat} {val : Int} (hs : s < n) (ht : t < n) (hS : S s = true) (hT : S t = false) : sm n (fun u => if S u = true then exOf s t val u else 0) = val := by
  have hst : s ≠ t := by intro e; rw [e, hT] at hS; cases hS
  rw [sm_one hs (fun i _ hne => by
    by_cases e : i = t
    · subst e; simp [hT]
    · simp [exOf, hne, e])]
  simp [hS, exOf, hst]
theorem Res.cut_le {s t : Nat} {val : Int} (h : Res n c r (exOf s t val)) (hs : s < n) (ht : t < n) (hS : S s = true) (hT : S t = false) : val ≤ cutV n c S := by
  have e := h.leave S
  rw [ex_sum hs ht hS hT] at e
  rw [e]
  refine sm_le fun u hu => sm_le fun v hv => ?_
  have := h.nonneg u v hu hv
  split <;> omega
theorem Res.cut_eq {s t : Nat} {val : Int} (h : Res n c r (exOf s t val)) (hs : s < n) (ht : t < n) (hS : S s = true) (hT : S t = false) (hc : ∀ u v, u < n → v < n → S u = true → S v = false → r u v = 0) : val = cutV n c S := by
  have e := h.leave S
  rw [ex_sum hs ht hS hT] at e
  rw [e]
  refine sm_congr fun u hu => sm_congr fun v hv => ?_
  split
  · rename_i hh; rw [hc u v hu hv hh.1 hh.2]; omega
  · rfl
/-- val is the least capacity of a cut between s and t. -/
def IsCut (n : Nat) (c : Nat → Nat → Int) (s t : Nat) (val : Int) : Prop := (∃ S : Nat → Bool, S s = true ∧ S t = false ∧ cutV n c S = val) ∧ ∀ S : Nat → Bool, S s = true → S t = false → val ≤ cutV n c S
theorem IsCut.uniq {s t : Nat} {a b : Int} (h : IsCut n c s t a) (h' : IsCut n c s t b) : a = b := by
  obtain ⟨⟨S, s1, s2, s3⟩, s4⟩ := h
  obtain ⟨⟨T, t1, t2, t3⟩, t4⟩ := h'
  have := s4 T t1 t2
  have := t4 S s1 s2
  omega
theorem cut_congr {c c' : Nat → Nat → Int} (h : ∀ u v, u < n → v < n → c u v = c' u v) (S : Nat → Bool) : cutV n c S = cutV n c' S :=
  sm_congr fun u hu => sm_congr fun v hv => by rw [h u v hu hv]
theorem cut_nonneg {c : Nat → Nat → Int} (h : ∀ u v, u < n → v < n → 0 ≤ c u v) (S : Nat → Bool) : 0 ≤ cutV n c S :=
  sm_nonneg fun u hu => sm_nonneg fun v hv => by
    have := h u v hu hv
    split <;> omega
/-- All edges reversed, source and sink exchanged. -/
theorem cut_rev (c : Nat → Nat → Int) (S : Nat → Bool) : cutV n (fun u v => c v u) S = cutV n c (fun u => !S u) := by
  unfold cutV
  rw [sm_swap]
  refine sm_congr fun u _ => sm_congr fun v _ => ?_
  show (if S v = true ∧ S u = false then c u v else 0) = if (!S u) = true ∧ (!S v) = false then c u v else 0
  generalize S u = x
  generalize S v = y
  cases x <;> cases y <;> simp
theorem IsCut.rev {s t : Nat} {val : Int} (h : IsCut n c s t val) : IsCut n (fun u v => c v u) t s val := by
  obtain ⟨⟨S, s1, s2, s3⟩, s4⟩ := h
  refine ⟨⟨fun u => !S u, by simp [s2], by simp [s1], ?_⟩, fun T t1 t2 => ?_⟩
  · rw [cut_rev]
    simpa using s3
  · rw [cut_rev]
    exact s4 _ (by simp [t2]) (by simp [t1])
theorem cut_mul (c : Nat → Nat → Int) (k : Int) (S : Nat → Bool) : cutV n (fun u v => c u v * k) S = cutV n c S * k := by
  unfold cutV
  rw [Int.mul_comm, ← sm_mul]
  refine sm_congr fun u _ => ?_
  rw [← sm_mul]
  refine sm_congr fun v _ => ?_
  split
  · exact Int.mul_comm _ _
  · simp
theorem IsCut.mul {s t : Nat} {val k : Int} (hk : 0 ≤ k) (h : IsCut n c s t val) : IsCut n (fun u v => c u v * k) s t (val * k) := by
  obtain ⟨⟨S, s1, s2, s3⟩, s4⟩ := h
  refine ⟨⟨S, s1, s2, by rw [cut_mul, s3]⟩, fun T t1 t2 => ?_⟩
  rw [cut_mul]
  exact Int.mul_le_mul_of_nonneg_right (s4 T t1 t2) hk
/-- One edge made greater by k. -/
theorem cut_more {c c' : Nat → Nat → Int} {a b : Nat} {k : Int} (ha : a < n) (hb : b < n) (hk : 0 ≤ k) (hab : c' a b = c a b + k) (he : ∀ u v, u < n → v < n → ¬ (u = a ∧ v = b) → c' u v = c u v) (S : Nat → Bool) :
    cutV n c S ≤ cutV n c' S ∧ cutV n c' S ≤ cutV n c S + k := by
  have h1 : cutV n c' S = cutV n c S + if S a = true ∧ S b = false then k else 0 := by
    have e1 := sm_upd (t := a) (f := fun u => sm n fun v => if S u = true ∧ S v = false then c u v else 0) (g := fun u => sm n fun v => if S u = true ∧ S v = false then c' u v else 0) ha (fun u hu hne => sm_congr fun v hv => by rw [he u v hu hv (fun e => hne e.1)])
    have e2 := sm_upd (t := b) (f := fun v => if S a = true ∧ S v = false then c a v else 0) (g := fun v => if S a = true ∧ S v = false then c' a v else 0) hb (fun v hv hne => by
      show (if _ then c' a v else 0) = if _ then c a v else 0
      rw [he a v ha hv (fun e => hne e.2)])
    show sm n (fun u => sm n fun v => if S u = true ∧ S v = false then c' u v else 0) = sm n (fun u => sm n fun v => if S u = true ∧ S v = false then c u v else 0) + _
    rw [e1]
    rw [e2, hab]
    split <;> omega
  rw [h1]
  split <;> omega
theorem IsCut.more {s t : Nat} {val val' k : Int} {c' : Nat → Nat → Int} {a b : Nat} (h : IsCut n c s t val) (h' : IsCut n c' s t val') (ha : a < n) (hb : b < n) (hk : 0 ≤ k) (hab : c' a b = c a b + k) (he : ∀ u v, u < n → v < n → ¬ (u = a ∧ v = b) → c' u v = c u v) : val ≤ val' ∧ val' ≤ val + k := by
  obtain ⟨⟨S, s1, s2, s3⟩, s4⟩ := h
  obtain ⟨⟨T, t1, t2, t3⟩, t4⟩ := h'
  have a1 := (cut_more ha hb hk hab he T).1
  have a2 := s4 T t1 t2
  have b1 := (cut_more ha hb hk hab he S).2
  have b2 := t4 S s1 s2
  omega
end

/-! ### Pushing flow along shortest paths -/
def push1 (r : Nat → Nat → Int) (u v : Nat) (x : Int) : Nat → Nat → Int := fun a b => r a b - (if a = u ∧ b = v then x else 0) + (if a = v ∧ b = u then x else 0)
structure St where
  r : Nat → Nat → Int
  nx : Nat → Nat
/-- Edges that were left behind bear no more. -/
structure Blk (n : Nat) (lv : Nat → Int) (t : Nat) (s : St) : Prop where
  nn : ∀ a b, a < n → b < n → 0 ≤ s.r a b
  le : ∀ w, w < n → s.nx w ≤ n
  dead : ∀ w, w < n → ∀ j, j < s.nx w → s.r w j = 0 ∨ lv j ≠ lv w + 1 ∨ (j ≠ t ∧ n ≤ s.nx j)
structure PR (n : Nat) (c : Nat → Nat → Int) (lv : Nat → Int) (t u : Nat) (x : Int) (s s' : St) : Prop where
  pos : 0 ≤ x
  res : ∀ ex, Res n c s.r ex → Res n c s'.r (fun w => ex w + (if w = u then x else 0) - (if w = t then x else 0))
  fr : ∀ a b, a < n → b < n → (lv a < lv u ∨ lv b < lv u) → s'.r a b = s.r a b
  fn : ∀ w, w < n → lv w < lv u → s'.nx w = s.nx w
  mono : ∀ w, s.nx w ≤ s'.nx w
  dec : ∀ a b, a < n → b < n → lv b = lv a + 1 → s'.r a b ≤ s.r a b
  blk : Blk n lv t s → Blk n lv t s'
  zero : x = 0 → ∀ a b, s'.r a b = s.r a b

section
variable {n : Nat} {c : Nat → Nat → Int} {lv : Nat → Int} {t u v : Nat} {x a b : Int} {s s1 s2 : St}

theorem PR.refl (n : Nat) (c : Nat → Nat → Int) (lv : Nat → Int) (t u : Nat) (s : St) : PR n c lv t u 0 s s where
  pos := Int.le_refl _
  res := fun ex h => by
    have e : (fun w => ex w + (if w = u then 0 else 0) - (if w = t then 0 else 0)) = ex := funext fun w => by simp
    rw [e]; exact h
  fr := fun _ _ _ _ _ => rfl
  fn := fun _ _ _ => rfl
  mono := fun _ => Nat.le_refl _
  dec := fun _ _ _ _ _ => Int.le_refl _
  blk := fun h => h
  zero := fun _ _ _ => rfl
/-- The sink takes what comes. -/
theorem PR.sink (n : Nat) (c : Nat → Nat → Int) (lv : Nat → Int) (t : Nat) {x : Int} (hx : 0 ≤ x) (s : St) : PR n c lv t t x s s where
  pos := hx
  res := fun ex h => by
    have e : (fun w => ex w + (if w = t then x else 0) - (if w = t then x else 0)) = ex := funext fun w => by omega
    rw [e]; exact h
  fr := fun _ _ _ _ _ => rfl
  fn := fun _ _ _ => rfl
  mono := fun _ => Nat.le_refl _
  dec := fun _ _ _ _ _ => Int.le_refl _
  blk := fun h => h
  zero := fun _ _ _ => rfl
theorem push1_same (r : Nat → Nat → Int) (u v : Nat) : push1 r u v 0 = r := by
  funext a b
  simp [push1]
theorem res_push1 {r : Nat → Nat → Int} {ex : Nat → Int} (h : Res n c r ex) (hu : u < n) (hv : v < n) (hne : u ≠ v) (h0 : 0 ≤ b) (hb : b ≤ r u v) : Res n c (push1 r u v b) (fun w => ex w + (if w = u then b else 0) - (if w = v then b else 0)) where
  nonneg := fun p q hp hq => by
    have := h.nonneg p q hp hq
    unfold push1
    by_cases e : p = u ∧ q = v
    · obtain ⟨rfl, rfl⟩ := e
      simp [hne]; omega
    · rw [if_neg e]
      split <;> omega
  pair := fun p q hp hq => by
    have := h.pair p q hp hq
    unfold push1
    by_cases e : p = u ∧ q = v
    · obtain ⟨rfl, rfl⟩ := e
      simp [hne, Ne.symm hne]; omega
    · by_cases e2 : p = v ∧ q = u
      · obtain ⟨rfl, rfl⟩ := e2
        simp [hne, Ne.symm hne]; omega
      · rw [if_neg e, if_neg e2, if_neg (fun h => e2 ⟨h.2, h.1⟩), if_neg (fun h => e ⟨h.2, h.1⟩)]; omega
  net := fun p hp => by
    have hn := h.net p hp
    by_cases e1 : p = u
    · subst e1
      have := sm_upd (t := v) (f := fun q => c p q - r p q) (g := fun q => c p q - push1 r p v b p q) hv (fun q hq hne2 => by simp [push1, hne2, hne])
      rw [this, hn]
      simp [push1, hne]; omega
    · by_cases e2 : p = v
      · subst e2
        have := sm_upd (t := u) (f := fun q => c p q - r p q) (g := fun q => c p q - push1 r u p b p q) hu (fun q hq hne2 => by simp [push1, hne2, e1])
        rw [this, hn]
        simp [push1, e1]; omega
      · rw [sm_congr (f := fun q => c p q - push1 r u v b p q) (g := fun q => c p q - r p q) (fun q _ => by simp [push1, e1, e2]), hn]
        simp [e1, e2]
theorem Blk.push1 (h : Blk n lv t s) (hv : v < n) (hl : lv v = lv u + 1) (h0 : 0 ≤ b) (hb : b ≤ s.r u v) : Blk n lv t ⟨push1 s.r u v b, s.nx⟩ := by
  have hne : u ≠ v := by intro e; rw [e] at hl; omega
  have nn : ∀ p q, p < n → q < n → 0 ≤ Go.Proofs.Ytdjpkebajcpfbaa.push1 s.r u v b p q := fun p q hp hq => by
    have := h.nn p q hp hq
    unfold Go.Proofs.Ytdjpkebajcpfbaa.push1
    by_cases e : p = u ∧ q = v
    · obtain ⟨rfl, rfl⟩ := e
      simp [hne]; omega
    · rw [if_neg e]
      split <;> omega
  refine ⟨nn, h.le, fun w hw j hj => ?_⟩
  rcases h.dead w hw j hj with e | e | e
  · by_cases hlj : lv j = lv w + 1
    · left
      have h1 := nn w j hw (Nat.lt_of_lt_of_le hj (h.le w hw))
      have h2 : Go.Proofs.Ytdjpkebajcpfbaa.push1 s.r u v b w j ≤ s.r w j := by
        unfold Go.Proofs.Ytdjpkebajcpfbaa.push1
        rw [if_neg (show ¬ (w = v ∧ j = u) from fun h => by rw [h.1, h.2] at hlj; omega)]
        split <;> omega
      show Go.Proofs.Ytdjpkebajcpfbaa.push1 s.r u v b w j = 0
      omega
    · exact .inr (.inl hlj)
  · exact .inr (.inl e)
  · exact .inr (.inr e)
/-- One more edge: what v took goes from u to v. -/
theorem PR.edge (h : PR n c lv t u a s s1) (hu : u < n) (hv : v < n) (hl : lv v = lv u + 1) (h' : PR n c lv t v b s1 s2) (hb : b ≤ s1.r u v) : PR n c lv t u (a + b) s ⟨push1 s2.r u v b, s2.nx⟩ := by
  have hne : u ≠ v := by intro e; rw [e] at hl; omega
  have h0 := h'.pos
  have huv : s2.r u v = s1.r u v := h'.fr u v hu hv (.inl (by omega))
  refine ⟨by have := h.pos; omega, fun ex hr => ?_, fun p q hp hq hlt => ?_, fun w hw hlt => ?_, fun w => Nat.le_trans (h.mono w) (h'.mono w), fun p q hp hq hlq => ?_, fun hb0 => ?_, fun hz p q => ?_⟩
  · have := res_push1 (h'.res _ (h.res ex hr)) hu hv hne h0 (by omega)
    have e : (fun w => ex w + (if w = u then a + b else 0) - (if w = t then a + b else 0)) = (fun w => ex w + (if w = u then a else 0) - (if w = t then a else 0) + (if w = v then b else 0) - (if w = t then b else 0) + (if w = u then b else 0) - (if w = v then b else 0)) := funext fun w => by
      split <;> split <;> omega
    rw [e]; exact this
  · show push1 s2.r u v b p q = s.r p q
    rw [← h.fr p q hp hq hlt, ← h'.fr p q hp hq (by omega)]
    unfold push1
    rw [if_neg (show ¬ (p = u ∧ q = v) from fun e => by rw [e.1, e.2] at hlt; omega), if_neg (show ¬ (p = v ∧ q = u) from fun e => by rw [e.1, e.2] at hlt; omega)]
    omega
  · exact (h'.fn w hw (by omega)).trans (h.fn w hw hlt)
  · have d1 := h.dec p q hp hq hlq
    have d2 := h'.dec p q hp hq hlq
    show push1 s2.r u v b p q ≤ s.r p q
    unfold push1
    rw [if_neg (show ¬ (p = v ∧ q = u) from fun e => by rw [e.1, e.2] at hlq; omega)]
    split <;> omega
  · exact (h'.blk (h.blk hb0)).push1 hv hl h0 (by omega)
  · have := h.pos
    have e1 : a = 0 := by omega
    have e2 : b = 0 := by omega
    show push1 s2.r u v b p q = s.r p q
    rw [e2, push1_same, h'.zero e2, h.zero e1]
def updN (f : Nat → Nat) (u k : Nat) : Nat → Nat := fun w => if w = u then k else f w
/-- An edge that bears no more is left behind. -/
theorem PR.skip (h : PR n c lv t u a s s1) (hu : s1.nx u < n) (hd : s1.r u (s1.nx u) = 0 ∨ lv (s1.nx u) ≠ lv u + 1 ∨ (s1.nx u ≠ t ∧ n ≤ s1.nx (s1.nx u))) : PR n c lv t u a s ⟨s1.r, updN s1.nx u (s1.nx u + 1)⟩ := by
  refine ⟨h.pos, h.res, h.fr, fun w hw hlt => ?_, fun w => ?_, h.dec, fun hb0 => ?_, h.zero⟩
  · show updN s1.nx u (s1.nx u + 1) w = s.nx w
    unfold updN
    rw [if_neg (fun e => by rw [e] at hlt; omega)]
    exact h.fn w hw hlt
  · show s.nx w ≤ updN s1.nx u (s1.nx u + 1) w
    have := h.mono w
    unfold updN
    split
    · rename_i e; subst e; omega
    · exact this
  · have hb := h.blk hb0
    have up : ∀ j, n ≤ s1.nx j → n ≤ updN s1.nx u (s1.nx u + 1) j := fun j hj => by
      unfold updN; split
      · rename_i e; subst e; omega
      · exact hj
    refine ⟨hb.nn, fun w hw => ?_, fun w hw j hj => ?_⟩
    · show updN s1.nx u (s1.nx u + 1) w ≤ n
      unfold updN
      split
      · omega
      · exact hb.le w hw
    · have hj : j < updN s1.nx u (s1.nx u + 1) w := hj
      have hold : j < s1.nx w ∨ (w = u ∧ j = s1.nx u) := by
        unfold updN at hj
        split at hj
        · rename_i e; subst e; omega
        · exact .inl hj
      rcases hold with hold | ⟨rfl, rfl⟩
      · rcases hb.dead w hw j hold with e | e | ⟨e, e2⟩
        · exact .inl e
        · exact .inr (.inl e)
        · exact .inr (.inr ⟨e, up j e2⟩)
      · rcases hd with e | e | ⟨e, e2⟩
        · exact .inl e
        · exact .inr (.inl e)
        · exact .inr (.inr ⟨e, up _ e2⟩)
/-- What a search for shortest paths from src has found. -/
structure Lev (n : Nat) (r : Nat → Nat → Int) (src : Nat) (lv : Nat → Int) : Prop where
  low : ∀ v, v < n → -1 ≤ lv v
  top : ∀ v, v < n → lv v < n
  src0 : lv src = 0
  par : ∀ v, v < n → 0 ≤ lv v → v = src ∨ ∃ u, u < n ∧ 0 ≤ lv u ∧ lv v = lv u + 1 ∧ 0 < r u v
  cls : ∀ u v, u < n → v < n → 0 ≤ lv u → 0 < r u v → 0 ≤ lv v
/-- If the sink is reached, something is sent. -/
theorem sent_pos {r0 : Nat → Nat → Int} {src : Nat} {lim : Int} (hL : Lev n r0 src lv) (hnn : ∀ a b, a < n → b < n → 0 ≤ r0 a b) (ht : t < n) (hr : 0 ≤ lv t) (h : PR n c lv t src x ⟨r0, fun _ => 0⟩ s1) (hlim : 0 < lim) (hfull : x < lim → src ≠ t ∧ n ≤ s1.nx src) : 0 < x := by
  have hpos := h.pos
  by_cases hx : x = 0
  · exfalso
    have hz := h.zero hx
    have hb := h.blk ⟨hnn, fun _ _ => Nat.zero_le _, fun _ _ j hj => absurd hj (Nat.not_lt_zero _)⟩
    obtain ⟨hst, hsn⟩ := hfull (by omega)
    have key : ∀ k v, v < n → 0 ≤ lv v → (lv v).toNat = k → (v = t ∨ ¬ n ≤ s1.nx v) → False := by
      intro k
      induction k with
      | zero =>
        intro v hv h0 hk hd
        rcases hL.par v hv h0 with rfl | ⟨u, hu, hu0, hl, _⟩
        · rcases hd with e | e
          · exact hst e
          · exact e hsn
        · omega
      | succ k ih =>
        intro v hv h0 hk hd
        rcases hL.par v hv h0 with rfl | ⟨u, hu, hu0, hl, hp⟩
        · rcases hd with e | e
          · exact hst e
          · exact e hsn
        · refine ih u hu hu0 (by omega) (.inr fun hdead => ?_)
          rcases hb.dead u hu v (by omega) with e | e | ⟨e1, e2⟩
          · have := hz u v
            simp only at this
            omega
          · exact e hl
          · rcases hd with e | e
            · exact e1 e
            · exact e e2
    exact key _ t ht hr rfl (.inl rfl)
  · omega
end
end

section
/-! ### The network of jobs and slots -/
structure FJ where
  r : Int
  d : Int
  c : Int
def fjAt (l : List FJ) (j : Nat) : FJ := l.getD j ⟨0, 0, 0⟩
def winB (l : List FJ) (j s : Nat) : Bool := decide ((fjAt l j).r ≤ s ∧ (s : Int) < (fjAt l j).d)
/-- The capacities of which J, W, Q tell whether they are laid. -/
def netC (l : List FJ) (S : Nat) (cores : Int) (J : Nat → Bool) (W : Nat → Nat → Bool) (Q : Nat → Bool) : Nat → Nat → Int := fun u v =>
  if u = 0 then (if 1 ≤ v ∧ v ≤ l.length ∧ J (v - 1) = true then (fjAt l (v - 1)).c else 0)
  else if u ≤ l.length then (if l.length < v ∧ v ≤ l.length + S ∧ W (u - 1) (v - 1 - l.length) = true then 1 else 0)
  else if u ≤ l.length + S then (if v = l.length + S + 1 ∧ Q (u - 1 - l.length) = true then cores else 0)
  else 0
def netF (l : List FJ) (S : Nat) (cores : Int) : Nat → Nat → Int := netC l S cores (fun _ => true) (winB l) (fun _ => true)
def netN (l : List FJ) (S : Nat) : Nat := 2 + l.length + S
section
variable {l : List FJ} {S : Nat} {cores : Int}
theorem net_0j {j : Nat} (hj : j < l.length) : netF l S cores 0 (1 + j) = (fjAt l j).c := by
  unfold netF netC
  rw [if_pos rfl, if_pos ⟨by omega, by omega, rfl⟩, show 1 + j - 1 = j by omega]
theorem net_0 {v : Nat} (h : v = 0 ∨ l.length < v) : netF l S cores 0 v = 0 := by
  unfold netF netC
  rw [if_pos rfl, if_neg (by omega)]
theorem net_js {j s : Nat} (hj : j < l.length) (hs : s < S) : netF l S cores (1 + j) (1 + l.length + s) = if winB l j s = true then 1 else 0 := by
  unfold netF netC
  rw [if_neg (by omega), if_pos (by omega), show 1 + j - 1 = j by omega, show 1 + l.length + s - 1 - l.length = s by omega]
  by_cases h : winB l j s = true
  · rw [if_pos h, if_pos ⟨by omega, by omega, h⟩]
  · rw [if_neg h, if_neg (fun x => h x.2.2)]
theorem net_j {j v : Nat} (hj : j < l.length) (h : v ≤ l.length ∨ l.length + S < v) : netF l S cores (1 + j) v = 0 := by
  unfold netF netC
  rw [if_neg (by omega), if_pos (by omega), if_neg (by omega)]
theorem net_st {s : Nat} (hs : s < S) : netF l S cores (1 + l.length + s) (1 + l.length + S) = cores := by
  unfold netF netC
  rw [if_neg (by omega), if_neg (by omega), if_pos (by omega), if_pos ⟨by omega, rfl⟩]
theorem net_s {s v : Nat} (hs : s < S) (h : v ≠ 1 + l.length + S) : netF l S cores (1 + l.length + s) v = 0 := by
  unfold netF netC
  rw [if_neg (by omega), if_neg (by omega), if_pos (by omega), if_neg (by omega)]
theorem net_t {v : Nat} : netF l S cores (1 + l.length + S) v = 0 := by
  unfold netF netC
  rw [if_neg (by omega), if_neg (by omega), if_neg (by omega)]
/-- A sum over all vertices, by kinds. -/
theorem sm_net (f : Nat → Int) : sm (netN l S) f = f 0 + sm l.length (fun j => f (1 + j)) + sm S (fun s => f (1 + l.length + s)) + f (1 + l.length + S) := by
  unfold netN
  rw [show 2 + l.length + S = (1 + l.length + S) + 1 by omega, sm, sm_split f (1 + l.length) S, sm_split f 1 l.length]
  simp [sm]
/-- The capacity of a cut between the first and the last vertex. -/
theorem cut_net (T : Nat → Bool) (h0 : T 0 = true) (ht : T (1 + l.length + S) = false) : cutV (netN l S) (netF l S cores) T =
    sm l.length (fun j => if T (1 + j) = true then 0 else (fjAt l j).c) + sm l.length (fun j => if T (1 + j) = true then sm S (fun s => if T (1 + l.length + s) = false ∧ winB l j s = true then 1 else 0) else 0) +
    sm S (fun s => if T (1 + l.length + s) = true then cores else 0) := by
  have e0 : ∀ u, (∀ v, v < netN l S → netF l S cores u v = 0 ∨ T u = false ∨ T v = true) → sm (netN l S) (fun v => if T u = true ∧ T v = false then netF l S cores u v else 0) = 0 := fun u h => by
    have e : sm (netN l S) (fun v => if T u = true ∧ T v = false then netF l S cores u v else 0) = sm (netN l S) (fun _ => 0) := sm_congr fun v hv => by
      rcases h v hv with h | h | h <;> simp [h]
    rw [e, sm_zero]
  have r0 : sm (netN l S) (fun v => if T 0 = true ∧ T v = false then netF l S cores 0 v else 0) = sm l.length (fun j => if T (1 + j) = true then 0 else (fjAt l j).c) := by
    rw [sm_net]
    have a1 : sm S (fun s => if T 0 = true ∧ T (1 + l.length + s) = false then netF l S cores 0 (1 + l.length + s) else 0) = sm S (fun _ => 0) := sm_congr fun s _ => by
      rw [net_0 (.inr (by omega))]; simp
    rw [a1, sm_zero, net_0 (.inl rfl), net_0 (.inr (by omega))]
    have a2 : sm l.length (fun j => if T 0 = true ∧ T (1 + j) = false then netF l S cores 0 (1 + j) else 0) = sm l.length (fun j => if T (1 + j) = true then 0 else (fjAt l j).c) := sm_congr fun j hj => by
      rw [net_0j hj]
      cases T (1 + j) <;> simp [h0]
    rw [a2]; simp
  have rj : ∀ j, j < l.length → sm (netN l S) (fun v => if T (1 + j) = true ∧ T v = false then netF l S cores (1 + j) v else 0) = if T (1 + j) = true then sm S (fun s => if T (1 + l.length + s) = false ∧ winB l j s = true then 1 else 0) else 0 := fun j hj => by
    rw [sm_net]
    have a1 : sm l.length (fun i => if T (1 + j) = true ∧ T (1 + i) = false then netF l S cores (1 + j) (1 + i) else 0) = sm l.length (fun _ => 0) := sm_congr fun i hi => by
      rw [net_j hj (.inl (by omega))]; simp
    rw [a1, sm_zero, net_j hj (.inl (by omega)), net_j hj (.inr (by omega))]
    by_cases h : T (1 + j) = true
    · rw [if_pos h]
      have a2 : sm S (fun s => if T (1 + j) = true ∧ T (1 + l.length + s) = false then netF l S cores (1 + j) (1 + l.length + s) else 0) = sm S (fun s => if T (1 + l.length + s) = false ∧ winB l j s = true then 1 else 0) := sm_congr fun s hs => by
        rw [net_js hj hs]
        cases T (1 + l.length + s) <;> cases winB l j s <;> simp [h]
      rw [a2]; simp
    · rw [if_neg h]
      have a2 : sm S (fun s => if T (1 + j) = true ∧ T (1 + l.length + s) = false then netF l S cores (1 + j) (1 + l.length + s) else 0) = sm S (fun _ => 0) := sm_congr fun s hs => by simp [h]
      rw [a2, sm_zero]; simp
  have rs : ∀ s, s < S → sm (netN l S) (fun v => if T (1 + l.length + s) = true ∧ T v = false then netF l S cores (1 + l.length + s) v else 0) = if T (1 + l.length + s) = true then cores else 0 := fun s hs => by
    have hlt : 1 + l.length + S < netN l S := by unfold netN; omega
    rw [sm_one hlt (fun v _ hne => by rw [net_s hs hne]; simp), net_st hs, ht]
    simp
  have rt : sm (netN l S) (fun v => if T (1 + l.length + S) = true ∧ T v = false then netF l S cores (1 + l.length + S) v else 0) = 0 := e0 _ fun v _ => .inl net_t
  unfold cutV
  rw [sm_net (f := fun u => sm (netN l S) fun v => if T u = true ∧ T v = false then netF l S cores u v else 0), r0, rt, sm_congr rj, sm_congr rs]
  omega
def totalC (l : List FJ) : Int := sm l.length fun j => (fjAt l j).c
/-- A schedule: who runs when. -/
structure Sched (l : List FJ) (S : Nat) (cores : Int) (σ : Nat → Nat → Bool) : Prop where
  win : ∀ j s, j < l.length → s < S → σ j s = true → winB l j s = true
  room : ∀ s, s < S → sm l.length (fun j => if σ j s = true then 1 else 0) ≤ cores
  cost : ∀ j, j < l.length → sm S (fun s => if σ j s = true then 1 else 0) = (fjAt l j).c
theorem Sched.le_cut {σ : Nat → Nat → Bool} (h : Sched l S cores σ) (T : Nat → Bool) (h0 : T 0 = true) (ht : T (1 + l.length + S) = false) : totalC l ≤ cutV (netN l S) (netF l S cores) T := by
  rw [cut_net T h0 ht]
  have e1 : totalC l = sm l.length (fun j => if T (1 + j) = true then 0 else (fjAt l j).c) + sm l.length (fun j => if T (1 + j) = true then sm S (fun s => if σ j s = true then 1 else 0) else 0) := by
    unfold totalC
    rw [← sm_add]
    exact sm_congr fun j hj => by
      by_cases e : T (1 + j) = true
      · rw [if_pos e, if_pos e, h.cost j hj]; omega
      · rw [if_neg e, if_neg e]; omega
  have e2 : sm l.length (fun j => if T (1 + j) = true then sm S (fun s => if σ j s = true then 1 else 0) else 0) ≤
      sm l.length (fun j => if T (1 + j) = true then sm S (fun s => if T (1 + l.length + s) = false ∧ winB l j s = true then 1 else 0) else 0) + sm l.length (fun j => sm S (fun s => if T (1 + l.length + s) = true ∧ σ j s = true then 1 else 0)) := by
    rw [← sm_add]
    refine sm_le fun j hj => ?_
    by_cases e : T (1 + j) = true
    · rw [if_pos e, if_pos e, ← sm_add]
      refine sm_le fun s hs => ?_
      have := h.win j s hj hs
      cases hσ : σ j s <;> cases hT : T (1 + l.length + s) <;> simp [hσ] at this ⊢
      · split <;> omega
      · rw [this]; simp
    · rw [if_neg e, if_neg e]
      have := sm_nonneg (n := S) (f := fun s => if T (1 + l.length + s) = true ∧ σ j s = true then 1 else 0) (fun s _ => by show 0 ≤ (if _ then (1 : Int) else 0); split <;> omega)
      omega
  have e3 : sm l.length (fun j => sm S (fun s => if T (1 + l.length + s) = true ∧ σ j s = true then 1 else 0)) ≤ sm S (fun s => if T (1 + l.length + s) = true then cores else 0) := by
    rw [sm_swap]
    refine sm_le fun s hs => ?_
    by_cases e : T (1 + l.length + s) = true
    · rw [if_pos e]
      have := h.room s hs
      rw [sm_congr (g := fun j => if σ j s = true then (1 : Int) else 0) (fun j _ => by simp [e])]
      exact this
    · rw [if_neg e, sm_congr (g := fun _ => (0 : Int)) (fun j _ => by simp [e]), sm_zero]
      exact Int.le_refl _
  omega
end
section
variable {l : List FJ} {S : Nat} {cores : Int} {r : Nat → Nat → Int} {val : Int}
theorem pair_zero {n : Nat} {c r : Nat → Nat → Int} {ex : Nat → Int} (h : Res n c r ex) {u v : Nat} (hu : u < n) (hv : v < n) (h1 : c u v = 0) (h2 : c v u = 0) : r u v = 0 := by
  have := h.nonneg u v hu hv
  have := h.nonneg v u hv hu
  have := h.pair u v hu hv
  omega
/-- What runs when, in a flow. -/
theorem net_unit (h : Res (netN l S) (netF l S cores) r (exOf 0 (1 + l.length + S) val)) {j s : Nat} (hj : j < l.length) (hs : s < S) :
    0 ≤ r (1 + l.length + s) (1 + j) ∧ r (1 + l.length + s) (1 + j) ≤ (if winB l j s = true then 1 else 0) ∧ netF l S cores (1 + j) (1 + l.length + s) - r (1 + j) (1 + l.length + s) = r (1 + l.length + s) (1 + j) := by
  have hu : 1 + j < netN l S := by unfold netN; omega
  have hv : 1 + l.length + s < netN l S := by unfold netN; omega
  have a := h.nonneg _ _ hu hv
  have b := h.nonneg _ _ hv hu
  have p := h.pair _ _ hu hv
  rw [net_js hj hs, net_s hs (show 1 + j ≠ 1 + l.length + S by omega)] at p
  rw [net_js hj hs]
  omega
theorem net_job (h : Res (netN l S) (netF l S cores) r (exOf 0 (1 + l.length + S) val)) {j : Nat} (hj : j < l.length) :
    sm S (fun s => r (1 + l.length + s) (1 + j)) = netF l S cores 0 (1 + j) - r 0 (1 + j) ∧ sm S (fun s => r (1 + l.length + s) (1 + j)) ≤ (fjAt l j).c := by
  have hu : 1 + j < netN l S := by unfold netN; omega
  have h0 : 0 < netN l S := by unfold netN; omega
  have hn := h.net _ hu
  rw [sm_net] at hn
  have a1 : sm l.length (fun i => netF l S cores (1 + j) (1 + i) - r (1 + j) (1 + i)) = sm l.length (fun _ => 0) := sm_congr fun i hi => by
    have z1 := net_j (cores := cores) (S := S) hj (v := 1 + i) (.inl (by omega))
    have z2 := net_j (cores := cores) (S := S) hi (v := 1 + j) (.inl (by omega))
    rw [z1, pair_zero h hu (by unfold netN; omega) z1 z2]; rfl
  have a2 : sm S (fun s => netF l S cores (1 + j) (1 + l.length + s) - r (1 + j) (1 + l.length + s)) = sm S (fun s => r (1 + l.length + s) (1 + j)) := sm_congr fun s hs => (net_unit h hj hs).2.2
  have z1 := net_j (cores := cores) (S := S) hj (v := 1 + l.length + S) (.inr (by omega))
  have a3 := pair_zero h hu (show 1 + l.length + S < netN l S by unfold netN; omega) z1 net_t
  have a4 : exOf 0 (1 + l.length + S) val (1 + j) = 0 := by unfold exOf; rw [if_neg (by omega), if_neg (by omega)]; rfl
  have p := h.pair 0 (1 + j) h0 hu
  have z2 := net_j (cores := cores) (S := S) hj (v := 0) (.inl (by omega))
  have b := h.nonneg 0 (1 + j) h0 hu
  rw [net_0j hj, z2] at p
  rw [a1, sm_zero, a2, a3, z1, z2, a4] at hn
  rw [net_0j hj]
  omega
theorem net_val (h : Res (netN l S) (netF l S cores) r (exOf 0 (1 + l.length + S) val)) : val = sm l.length (fun j => sm S (fun s => r (1 + l.length + s) (1 + j))) := by
  have h0 : 0 < netN l S := by unfold netN; omega
  have hn := h.net 0 h0
  rw [sm_net] at hn
  have a1 : sm l.length (fun j => netF l S cores 0 (1 + j) - r 0 (1 + j)) = sm l.length (fun j => sm S (fun s => r (1 + l.length + s) (1 + j))) := sm_congr fun j hj => ((net_job h hj).1).symm
  have a2 : sm S (fun s => netF l S cores 0 (1 + l.length + s) - r 0 (1 + l.length + s)) = sm S (fun _ => 0) := sm_congr fun s hs => by
    have z1 := net_0 (l := l) (S := S) (cores := cores) (v := 1 + l.length + s) (.inr (by omega))
    rw [z1, pair_zero h h0 (by unfold netN; omega) z1 (net_s hs (by omega))]; rfl
  have z1 := net_0 (l := l) (S := S) (cores := cores) (v := 1 + l.length + S) (.inr (by omega))
  have a3 := pair_zero h h0 (show 1 + l.length + S < netN l S by unfold netN; omega) z1 net_t
  have z0 := net_0 (l := l) (S := S) (cores := cores) (v := 0) (.inl rfl)
  have a4 := pair_zero h h0 h0 z0 z0
  have a5 : exOf 0 (1 + l.length + S) val 0 = val := by unfold exOf; rw [if_pos rfl, if_neg (by omega)]; omega
  rw [a1, a2, sm_zero, z1, a3, z0, a4, a5] at hn
  omega
theorem net_slot (h : Res (netN l S) (netF l S cores) r (exOf 0 (1 + l.length + S) val)) {s : Nat} (hs : s < S) : sm l.length (fun j => r (1 + l.length + s) (1 + j)) ≤ cores := by
  have hu : 1 + l.length + s < netN l S := by unfold netN; omega
  have ht : 1 + l.length + S < netN l S := by unfold netN; omega
  have hn := h.net _ hu
  rw [sm_net] at hn
  have a1 : sm l.length (fun j => netF l S cores (1 + l.length + s) (1 + j) - r (1 + l.length + s) (1 + j)) = - sm l.length (fun j => r (1 + l.length + s) (1 + j)) := by
    rw [← sm_neg]
    exact sm_congr fun j hj => by rw [net_s hs (by omega)]; omega
  have a2 : sm S (fun i => netF l S cores (1 + l.length + s) (1 + l.length + i) - r (1 + l.length + s) (1 + l.length + i)) = sm S (fun _ => 0) := sm_congr fun i hi => by
    have z1 := net_s (l := l) (cores := cores) hs (v := 1 + l.length + i) (by omega)
    have z2 := net_s (l := l) (cores := cores) hi (v := 1 + l.length + s) (by omega)
    rw [z1, pair_zero h hu (by unfold netN; omega) z1 z2]; rfl
  have z0 := net_s (l := l) (cores := cores) hs (v := 0) (by omega)
  have z1 := net_0 (l := l) (S := S) (cores := cores) (v := 1 + l.length + s) (.inr (by omega))
  have a3 := pair_zero h hu (show 0 < netN l S by unfold netN; omega) z0 z1
  have a4 : exOf 0 (1 + l.length + S) val (1 + l.length + s) = 0 := by unfold exOf; rw [if_neg (by omega), if_neg (by omega)]; rfl
  have b := h.nonneg _ _ hu ht
  rw [a1, a2, sm_zero, z0, a3, net_st hs, a4] at hn
  omega
theorem sm_eq {n : Nat} {f g : Nat → Int} (hle : ∀ i, i < n → f i ≤ g i) (he : sm n f = sm n g) : ∀ i, i < n → f i = g i := by
  induction n with
  | zero => intro i hi; omega
  | succ n ih =>
    rw [sm, sm] at he
    have h1 := sm_le (n := n) (f := f) (g := g) (fun i hi => hle i (by omega))
    have h2 := hle n (by omega)
    intro i hi
    by_cases e : i = n
    · subst e; omega
    · exact ih (fun i hi => hle i (by omega)) (by omega) i (by omega)
theorem net_le (h : Res (netN l S) (netF l S cores) r (exOf 0 (1 + l.length + S) val)) : val ≤ totalC l := by
  rw [net_val h]
  exact sm_le fun j hj => (net_job h hj).2
/-- A flow that gives every job its slots is a schedule. -/
theorem sched_of (h : Res (netN l S) (netF l S cores) r (exOf 0 (1 + l.length + S) val)) (hv : val = totalC l) : Sched l S cores (fun j s => decide (0 < r (1 + l.length + s) (1 + j))) := by
  have unit : ∀ j s, j < l.length → s < S → (if decide (0 < r (1 + l.length + s) (1 + j)) = true then (1 : Int) else 0) = r (1 + l.length + s) (1 + j) := fun j s hj hs => by
    obtain ⟨h1, h2, _⟩ := net_unit h hj hs
    by_cases e : 0 < r (1 + l.length + s) (1 + j)
    · rw [if_pos (by simpa using e)]
      split at h2 <;> omega
    · rw [if_neg (by simpa using e)]; omega
  refine ⟨fun j s hj hs hσ => ?_, fun s hs => ?_, fun j hj => ?_⟩
  · obtain ⟨h1, h2, _⟩ := net_unit h hj hs
    have : 0 < r (1 + l.length + s) (1 + j) := by simpa using hσ
    by_cases e : winB l j s = true
    · exact e
    · rw [if_neg e] at h2; omega
  · rw [sm_congr (g := fun j => r (1 + l.length + s) (1 + j)) (fun j hj => unit j s hj hs)]
    exact net_slot h hs
  · rw [sm_congr (g := fun s => r (1 + l.length + s) (1 + j)) (fun s hs => unit j s hj hs)]
    have := net_val h
    rw [hv] at this
    exact (sm_eq (f := fun j => sm S (fun s => r (1 + l.length + s) (1 + j))) (g := fun j => (fjAt l j).c) (fun j hj => (net_job h hj).2) this.symm) j hj
theorem full_of {σ : Nat → Nat → Bool} (hσ : Sched l S cores σ) (hc : IsCut (netN l S) (netF l S cores) 0 (1 + l.length + S) val) : totalC l ≤ val := by
  obtain ⟨⟨T, h1, h2, h3⟩, _⟩ := hc
  rw [← h3]
  exact hσ.le_cut T h1 h2
end
end

section
/-! ### Digits to the base 2^32 -/
def BB : Nat := 4294967296
/-- The value of the lowest n digits. -/
def vl (f : Nat → Nat) : Nat → Nat
  | 0 => 0
  | n + 1 => vl f n + f n * BB ^ n
def updG (f : Nat → Nat) (j x : Nat) : Nat → Nat := fun v => if v = j then x else f v
def Dg (f : Nat → Nat) (n : Nat) : Prop := ∀ i, i < n → f i < BB
def Nrm (f : Nat → Nat) (n : Nat) : Prop := Dg f n ∧ (n = 0 ∨ f (n - 1) ≠ 0)
theorem BB_pos : 0 < BB := by decide
theorem BBn_pos (n : Nat) : 0 < BB ^ n := Nat.pow_pos BB_pos
section
variable {f g : Nat → Nat} {n m i j x : Nat}
theorem vl_congr (h : ∀ i, i < n → f i = g i) : vl f n = vl g n := by
  induction n with
  | zero => rfl
  | succ n ih => rw [vl, vl, ih (fun i hi => h i (by omega)), h n (by omega)]
theorem vl_zero (h : ∀ i, i < n → f i = 0) : vl f n = 0 := by
  induction n with
  | zero => rfl
  | succ n ih => rw [vl, ih (fun i hi => h i (by omega)), h n (by omega)]; simp
theorem vl_more (h : ∀ i, n ≤ i → i < m → f i = 0) (hn : n ≤ m) : vl f m = vl f n := by
  obtain ⟨d, rfl⟩ : ∃ d, m = n + d := ⟨m - n, by omega⟩
  clear hn
  induction d with
  | zero => rfl
  | succ d ih =>
    rw [← Nat.add_assoc, vl, ih (fun i h1 h2 => h i h1 (by omega)), h (n + d) (by omega) (by omega)]
    simp
theorem vl_upd (hj : j < n) : vl (updG f j x) n + f j * BB ^ j = vl f n + x * BB ^ j := by
  induction n with
  | zero => omega
  | succ n ih =>
    rw [vl, vl]
    by_cases e : j = n
    · subst e
      have h1 : vl (updG f j x) j = vl f j := vl_congr fun i hi => by unfold updG; rw [if_neg (by omega)]
      have h2 : updG f j x j = x := by simp [updG]
      rw [h1, h2]; omega
    · have h2 : updG f j x n = f n := by unfold updG; rw [if_neg (by omega)]
      have := ih (by omega)
      rw [h2]; omega
theorem vl_lt (h : Dg f n) : vl f n < BB ^ n := by
  induction n with
  | zero => simp [vl]
  | succ n ih =>
    have h1 := ih (fun i hi => h i (by omega))
    have h2 := h n (by omega)
    rw [vl, Nat.pow_succ]
    have h3 : (f n + 1) * BB ^ n ≤ BB * BB ^ n := Nat.mul_le_mul_right _ h2
    rw [Nat.add_mul, Nat.one_mul] at h3
    rw [Nat.mul_comm (BB ^ n)]
    omega
theorem vl_mono (h : n ≤ m) : vl f n ≤ vl f m := by
  obtain ⟨d, rfl⟩ : ∃ d, m = n + d := ⟨m - n, by omega⟩
  clear h
  induction d with
  | zero => exact Nat.le_refl _
  | succ d ih => rw [← Nat.add_assoc, vl]; omega
theorem vl_ge (h : Nrm f n) (hn : 0 < n) : BB ^ (n - 1) ≤ vl f n := by
  obtain ⟨k, rfl⟩ : ∃ k, n = k + 1 := ⟨n - 1, by omega⟩
  rcases h.2 with h0 | h0
  · omega
  · simp only [Nat.add_sub_cancel] at h0 ⊢
    rw [vl]
    have : 1 * BB ^ k ≤ f k * BB ^ k := Nat.mul_le_mul_right _ (by omega)
    omega
theorem vl_pos (h : Nrm f n) (hn : 0 < n) : 0 < vl f n := Nat.lt_of_lt_of_le (BBn_pos _) (vl_ge h hn)
theorem vl_eq0 (h : Nrm f n) : vl f n = 0 ↔ n = 0 := by
  constructor
  · intro e
    rcases Nat.eq_zero_or_pos n with h0 | h0
    · exact h0
    · have := vl_pos h h0; omega
  · rintro rfl; rfl
theorem vl_short (hf : Nrm f n) (hg : Nrm g m) (h : n < m) : vl f n < vl g m := by
  have h1 := vl_lt hf.1
  have h2 := vl_ge hg (by omega)
  have h3 : BB ^ n ≤ BB ^ (m - 1) := Nat.pow_le_pow_right BB_pos (by omega)
  omega
theorem vl_cmp (hf : Dg f n) (hi : i < n) (h : ∀ j, i < j → j < n → f j = g j) (hl : f i < g i) : vl f n < vl g n := by
  induction n with
  | zero => omega
  | succ n ih =>
    rw [vl, vl]
    by_cases e : i = n
    · subst e
      have h1 := vl_lt (f := f) (n := i) (fun j hj => hf j (by omega))
      have h2 : (f i + 1) * BB ^ i ≤ g i * BB ^ i := Nat.mul_le_mul_right _ hl
      rw [Nat.add_mul, Nat.one_mul] at h2
      omega
    · have h1 := ih (fun j hj => hf j (by omega)) (by omega) (fun j h1 h2 => h j h1 (by omega))
      rw [h n (by omega) (by omega)]
      omega
theorem Nrm.zero : Nrm f 0 := ⟨fun i hi => absurd hi (Nat.not_lt_zero _), .inl rfl⟩
/-- One digit is its value. -/
theorem vl_one : vl f 1 = f 0 := by simp [vl]
theorem vl_small (hf : Nrm f n) (h : vl f n < BB) : n ≤ 1 := by
  rcases Nat.lt_or_ge 1 n with h1 | h1
  · have h2 := vl_ge hf (by omega)
    have h3 : BB ^ 1 ≤ BB ^ (n - 1) := Nat.pow_le_pow_right BB_pos (by omega)
    simp at h3; omega
  · exact h1
/-- A digit written at the end of the carry's chain. -/
theorem carry_split (t : Nat) : t % BB + BB * (t / BB) = t := Nat.mod_add_div t BB
theorem add_step {r a b c t : Nat} (h : r + c * BB ^ i = a + b) (x y : Nat) (ht : t = x + c + y) : r + (t % BB) * BB ^ i + (t / BB) * BB ^ (i + 1) = (a + x * BB ^ i) + (b + y * BB ^ i) := by
  have h1 := carry_split t
  have h2 : (t % BB) * BB ^ i + (t / BB) * BB ^ (i + 1) = t * BB ^ i := by
    conv => rhs; rw [← h1]
    rw [Nat.pow_succ, Nat.add_mul, Nat.mul_comm (BB ^ i) BB, ← Nat.mul_assoc, Nat.mul_comm (t / BB) BB]
  have h3 : t * BB ^ i = x * BB ^ i + c * BB ^ i + y * BB ^ i := by rw [ht, Nat.add_mul, Nat.add_mul]
  omega
end
end

section
/-- A fluid schedule of the jobs (Wj / H in each slot of a window): no cut is below the sum of the costs. -/
theorem cut_fluid {l : List FJ} {S : Nat} {cores H : Int} (Wj : Nat → Int) (h0 : 0 < H) (hw : ∀ j, j < l.length → 0 ≤ Wj j ∧ Wj j ≤ H)
    (hc : ∀ j, j < l.length → (fjAt l j).c * H ≤ sm S (fun s => if winB l j s = true then Wj j else 0))
    (hs : ∀ s, s < S → sm l.length (fun j => if winB l j s = true then Wj j else 0) ≤ cores * H)
    (T : Nat → Bool) (hT0 : T 0 = true) (ht : T (1 + l.length + S) = false) : totalC l ≤ cutV (netN l S) (netF l S cores) T := by
  rw [cut_net T hT0 ht]
  -- all times H
  have a1 : sm l.length (fun j => if T (1 + j) = true then (fjAt l j).c * H else 0) ≤
      sm l.length (fun j => if T (1 + j) = true then sm S (fun s => if T (1 + l.length + s) = false ∧ winB l j s = true then 1 else 0) * H else 0) +
      sm l.length (fun j => sm S (fun s => if T (1 + l.length + s) = true then (if winB l j s = true then Wj j else 0) else 0)) := by
    rw [← sm_add]
    refine sm_le fun j hj => ?_
    obtain ⟨w0, w1⟩ := hw j hj
    have hn : 0 ≤ sm S (fun s => if T (1 + l.length + s) = true then (if winB l j s = true then Wj j else 0) else 0) := sm_nonneg fun s _ => by
      split
      · split <;> omega
      · omega
    by_cases e : T (1 + j) = true
    · rw [if_pos e, if_pos e]
      refine Int.le_trans (hc j hj) ?_
      rw [Int.mul_comm, ← sm_mul, ← sm_add]
      refine sm_le fun s _ => ?_
      cases hT : T (1 + l.length + s) <;> cases hwn : winB l j s <;> simp <;> omega
    · rw [if_neg e, if_neg e]; omega
  have a2 : sm l.length (fun j => sm S (fun s => if T (1 + l.length + s) = true then (if winB l j s = true then Wj j else 0) else 0)) ≤ sm S (fun s => if T (1 + l.length + s) = true then cores * H else 0) := by
    rw [sm_swap]
    refine sm_le fun s hs' => ?_
    by_cases e : T (1 + l.length + s) = true
    · rw [if_pos e]
      refine Int.le_trans (Int.le_of_eq (sm_congr fun j _ => ?_)) (hs s hs')
      rw [if_pos e]
    · rw [if_neg e]
      refine Int.le_of_eq ((sm_congr fun j _ => ?_).trans (sm_zero _))
      rw [if_neg e]
  have a3 : sm S (fun s => if T (1 + l.length + s) = true then cores * H else 0) = H * sm S (fun s => if T (1 + l.length + s) = true then cores else 0) := by
    rw [← sm_mul]
    refine sm_congr fun s _ => ?_
    split
    · rw [Int.mul_comm]
    · omega
  have a4 : sm l.length (fun j => if T (1 + j) = true then sm S (fun s => if T (1 + l.length + s) = false ∧ winB l j s = true then 1 else 0) * H else 0) =
      H * sm l.length (fun j => if T (1 + j) = true then sm S (fun s => if T (1 + l.length + s) = false ∧ winB l j s = true then 1 else 0) else 0) := by
    rw [← sm_mul]
    refine sm_congr fun j _ => ?_
    split
    · rw [Int.mul_comm]
    · omega
  have a5 : sm l.length (fun j => if T (1 + j) = true then (fjAt l j).c * H else 0) + H * sm l.length (fun j => if T (1 + j) = true then 0 else (fjAt l j).c) = H * totalC l := by
    unfold totalC
    rw [← sm_mul, ← sm_mul, ← sm_add]
    refine sm_congr fun j _ => ?_
    split
    · rw [Int.mul_comm]; omega
    · omega
  rw [a3] at a2
  rw [a4] at a1
  refine Int.le_of_mul_le_mul_left (a := H) ?_ h0
  rw [Int.mul_add, Int.mul_add]
  omega
/-! ### Sums over lists of jobs -/
theorem fjAt_left {l m : List FJ} {j : Nat} (h : j < l.length) : fjAt (l ++ m) j = fjAt l j := by
  unfold fjAt; rw [List.getD_eq_getElem?_getD, List.getD_eq_getElem?_getD, List.getElem?_append_left h]
theorem fjAt_right {l m : List FJ} (j : Nat) : fjAt (l ++ m) (l.length + j) = fjAt m j := by
  unfold fjAt; rw [List.getD_eq_getElem?_getD, List.getD_eq_getElem?_getD, List.getElem?_append_right (by omega), Nat.add_sub_cancel_left]
def sumJ (l : List FJ) (f : FJ → Int) : Int := sm l.length fun j => f (fjAt l j)
theorem sumJ_app (l m : List FJ) (f : FJ → Int) : sumJ (l ++ m) f = sumJ l f + sumJ m f := by
  unfold sumJ
  rw [List.length_append, sm_split]
  congr 1
  · exact sm_congr fun j hj => by rw [fjAt_left hj]
  · exact sm_congr fun j _ => by rw [fjAt_right]
theorem sumJ_nil (f : FJ → Int) : sumJ [] f = 0 := rfl
theorem sumJ_one (x : FJ) (f : FJ → Int) : sumJ [x] f = f x := by unfold sumJ; simp [sm, fjAt]
/-- The jobs of a task that is released together with the others: q jobs. -/
def perJ (p c : Int) (q : Nat) : List FJ := (List.range q).map fun k : Nat => ⟨(k : Int) * p, (k : Int) * p + p, c⟩
theorem perJ_succ (p c : Int) (q : Nat) : perJ p c (q + 1) = perJ p c q ++ [⟨(q : Int) * p, (q : Int) * p + p, c⟩] := by simp [perJ, List.range_succ]
theorem perJ_cost (p c : Int) : ∀ q : Nat, sumJ (perJ p c q) (fun x => x.c) = q * c
  | 0 => by simp [perJ, sumJ, sm]
  | q + 1 => by rw [perJ_succ, sumJ_app, perJ_cost p c q, sumJ_one, Int.natCast_add, Int.add_mul]; simp
/-- At most one job of a task may run in a slot. -/
theorem perJ_slot {p c W : Int} (hp : 0 < p) (hW : 0 ≤ W) (s : Nat) : ∀ q : Nat, 0 ≤ sumJ (perJ p c q) (fun x => if x.r ≤ (s : Int) ∧ (s : Int) < x.d then W else 0) ∧ sumJ (perJ p c q) (fun x => if x.r ≤ (s : Int) ∧ (s : Int) < x.d then W else 0) ≤ W ∧
    ((q : Int) * p ≤ (s : Int) → sumJ (perJ p c q) (fun x => if x.r ≤ (s : Int) ∧ (s : Int) < x.d then W else 0) = 0)
  | 0 => by simp [perJ, sumJ, sm, hW]
  | q + 1 => by
    obtain ⟨h1, h2, h3⟩ := perJ_slot (c := c) hp hW s q
    have e : ((q + 1 : Nat) : Int) * p = (q : Int) * p + p := by rw [Int.natCast_add, Int.add_mul]; simp
    rw [perJ_succ, sumJ_app, sumJ_one, e]
    simp only
    generalize sumJ (perJ p c q) (fun x => if x.r ≤ (s : Int) ∧ (s : Int) < x.d then W else 0) = z at *
    generalize (q : Int) * p = y at *
    by_cases g1 : y ≤ (s : Int)
    · have h4 := h3 g1
      subst h4
      split <;> omega
    · rw [if_neg (by omega)]
      omega
end

section
/-! ### A search for shortest paths, step by step -/
def cntL (n : Nat) (lv : Nat → Int) : Int := sm n fun v => if 0 ≤ lv v then 1 else 0
def updL (f : Nat → Int) (j : Nat) (x : Int) : Nat → Int := fun v => if v = j then x else f v
theorem cntL_le (n : Nat) (lv : Nat → Int) : 0 ≤ cntL n lv ∧ cntL n lv ≤ n := by
  have h1 := sm_le (n := n) (f := fun v => if 0 ≤ lv v then 1 else 0) (g := fun _ => 1) (fun i _ => by show (if _ then (1 : Int) else 0) ≤ 1; split <;> omega)
  have h2 := sm_const 1 n
  have h3 := sm_nonneg (n := n) (f := fun v => if 0 ≤ lv v then 1 else 0) (fun i _ => by show 0 ≤ (if _ then (1 : Int) else 0); split <;> omega)
  unfold cntL; omega
structure Bfs (n : Nat) (r : Nat → Nat → Int) (src : Nat) (lv : Nat → Int) (q : List Nat) (u j : Nat) : Prop where
  low : ∀ v, v < n → -1 ≤ lv v
  top : ∀ v, v < n → lv v < cntL n lv
  src0 : lv src = 0
  mem : ∀ x ∈ q, x < n ∧ 0 ≤ lv x
  par : ∀ v, v < n → 0 ≤ lv v → v = src ∨ ∃ u, u < n ∧ 0 ≤ lv u ∧ lv v = lv u + 1 ∧ 0 < r u v
  cls : ∀ x, x < n → 0 ≤ lv x → x ∈ q ∨ (∀ v, v < n → 0 < r x v → 0 ≤ lv v) ∨ (x = u ∧ ∀ v, v < j → 0 < r x v → 0 ≤ lv v)
section
variable {n : Nat} {r : Nat → Nat → Int} {src : Nat} {lv : Nat → Int} {q : List Nat} {u j : Nat}
theorem Bfs.init (hs : src < n) : Bfs n r src (updL (fun _ => -1) src 0) [src] n 0 where
  low := fun v _ => by
    show (-1 : Int) ≤ if v = src then 0 else -1
    split <;> omega
  top := fun v hv => by
    have h : cntL n (updL (fun _ => -1) src 0) = 1 := by
      unfold cntL
      rw [sm_one hs (fun i _ hne => by simp [updL, hne])]
      simp [updL]
    rw [h]
    show (if v = src then (0 : Int) else -1) < 1
    split <;> omega
  src0 := by simp [updL]
  mem := fun x hx => by
    simp at hx
    subst hx
    exact ⟨hs, by simp [updL]⟩
  par := fun v _ h0 => by
    by_cases e : v = src
    · exact .inl e
    · simp [updL, e] at h0
  cls := fun x _ h0 => by
    by_cases e : x = src
    · exact .inl (by simp [e])
    · simp [updL, e] at h0
theorem Bfs.pop (h : Bfs n r src lv (u :: q) n 0) : Bfs n r src lv q u 0 ∧ u < n ∧ 0 ≤ lv u := by
  obtain ⟨h1, h2⟩ := h.mem u (List.mem_cons_self ..)
  refine ⟨⟨h.low, h.top, h.src0, fun x hx => h.mem x (List.mem_cons_of_mem _ hx), h.par, fun x hx h0 => ?_⟩, h1, h2⟩
  rcases h.cls x hx h0 with e | e | ⟨e, _⟩
  · rcases List.mem_cons.1 e with rfl | e
    · exact .inr (.inr ⟨rfl, fun v hv => absurd hv (Nat.not_lt_zero _)⟩)
    · exact .inl e
  · exact .inr (.inl e)
  · omega
theorem Bfs.skip (h : Bfs n r src lv q u j) (hj : r u j ≤ 0 ∨ 0 ≤ lv j) : Bfs n r src lv q u (j + 1) := by
  refine ⟨h.low, h.top, h.src0, h.mem, h.par, fun x hx h0 => ?_⟩
  rcases h.cls x hx h0 with e | e | ⟨rfl, e⟩
  · exact .inl e
  · exact .inr (.inl e)
  · refine .inr (.inr ⟨rfl, fun v hv hp => ?_⟩)
    by_cases hvj : v = j
    · subst hvj
      rcases hj with hj | hj
      · omega
      · exact hj
    · exact e v (by omega) hp
theorem Bfs.add (h : Bfs n r src lv q u j) (hjn : j < n) (hu : u < n) (hu0 : 0 ≤ lv u) (hp : 0 < r u j) (hlv : lv j < 0) : Bfs n r src (updL lv j (lv u + 1)) (q ++ [j]) u (j + 1) ∧ cntL n (updL lv j (lv u + 1)) = cntL n lv + 1 := by
  have hc : cntL n (updL lv j (lv u + 1)) = cntL n lv + 1 := by
    unfold cntL
    rw [sm_upd (t := j) (f := fun v => if 0 ≤ lv v then 1 else 0) hjn (fun i _ hne => by simp [updL, hne])]
    have e1 : (if 0 ≤ updL lv j (lv u + 1) j then (1 : Int) else 0) = 1 := by simp [updL]; omega
    have e2 : (if 0 ≤ lv j then (1 : Int) else 0) = 0 := if_neg (by omega)
    rw [e1, e2]; omega
  have hold : ∀ v, 0 ≤ lv v → updL lv j (lv u + 1) v = lv v := fun v hv => if_neg (fun e => by rw [e] at hv; omega)
  have hup : ∀ v, 0 ≤ lv v → 0 ≤ updL lv j (lv u + 1) v := fun v hv => by rw [hold v hv]; exact hv
  refine ⟨⟨fun v hv => ?_, fun v hv => ?_, ?_, fun x hx => ?_, fun v hv h0 => ?_, fun x hx h0 => ?_⟩, hc⟩
  · have := h.low v hv
    unfold updL; split <;> omega
  · have h1 := h.top v hv
    have h2 := h.top u hu
    rw [hc]; unfold updL; split <;> omega
  · rw [hold src (by rw [h.src0]; exact Int.le_refl _)]; exact h.src0
  · rcases List.mem_append.1 hx with hx | hx
    · obtain ⟨h1, h2⟩ := h.mem x hx
      exact ⟨h1, hup x h2⟩
    · simp at hx
      subst hx
      exact ⟨hjn, by simp [updL]; omega⟩
  · by_cases e : v = j
    · subst e
      exact .inr ⟨u, hu, hup u hu0, by rw [hold u hu0]; simp [updL], hp⟩
    · have e1 : updL lv j (lv u + 1) v = lv v := if_neg e
      rw [e1] at h0 ⊢
      rcases h.par v hv h0 with rfl | ⟨p, p1, p2, p3, p4⟩
      · exact .inl rfl
      · exact .inr ⟨p, p1, hup p p2, by rw [hold p p2]; exact p3, p4⟩
  · by_cases e : x = j
    · subst e
      exact .inl (by simp)
    · have e1 : updL lv j (lv u + 1) x = lv x := if_neg e
      rw [e1] at h0
      rcases h.cls x hx h0 with e | e | ⟨rfl, e⟩
      · exact .inl (List.mem_append_left _ e)
      · exact .inr (.inl fun v hv hpv => hup v (e v hv hpv))
      · refine .inr (.inr ⟨rfl, fun v hv hpv => ?_⟩)
        by_cases hvj : v = j
        · subst hvj; simp [updL]; omega
        · exact hup v (e v (by omega) hpv)
theorem Bfs.done (h : Bfs n r src lv q u n) : Bfs n r src lv q n 0 := by
  refine ⟨h.low, h.top, h.src0, h.mem, h.par, fun x hx h0 => ?_⟩
  rcases h.cls x hx h0 with e | e | ⟨_, e⟩
  · exact .inl e
  · exact .inr (.inl e)
  · exact .inr (.inl e)
theorem Bfs.lev (h : Bfs n r src lv [] n 0) : Lev n r src lv where
  low := h.low
  top := fun v hv => Int.lt_of_lt_of_le (h.top v hv) (cntL_le n lv).2
  src0 := h.src0
  par := h.par
  cls := fun x v hx hv h0 hp => by
    rcases h.cls x hx h0 with e | e | ⟨e, _⟩
    · cases e
    · exact e v hv hp
    · omega
end
end
end Go.Proofs.Ytdjpkebajcpfbaa
