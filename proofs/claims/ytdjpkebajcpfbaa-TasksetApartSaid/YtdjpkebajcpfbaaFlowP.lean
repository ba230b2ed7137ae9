/- Sums, cuts, residual capacities, and flow that is pushed along shortest paths: plain Lean. Conditions: each theorem's own. -/
namespace Go.Proofs.Ytdjpkebajcpfbaa

def sm (n : Nat) (f : Nat → Int) : Int := match n with
  | 0 => 0
  | n + 1 => sm n f + f n
theorem sm_congr {f g : Nat → Int} : ∀ {n : Nat}, (∀ i, i < n → f i = g i) → sm n f = sm n g
  | 0, _ => rfl
  | n + 1, h => by rw [sm, sm, sm_congr (fun i hi => h i (by omega)), h n (by omega)]
theorem sm_le {f g : Nat → Int} : ∀ {n : Nat}, (∀ i, i < n → f i ≤ g i) → sm n f ≤ sm n g
  | 0, _ => Int.le_refl _
  | n + 1, h => by
    have := sm_le (n := n) (fun i hi => h i (by omega))
    have := h n (by omega)
    rw [sm, sm]; omega
theorem sm_zero (n : Nat) : sm n (fun _ => 0) = 0 := by
  induction n with
  | zero => rfl
  | succ n ih => rw [sm, ih]; rfl
theorem sm_nonneg {f : Nat → Int} {n : Nat} (h : ∀ i, i < n → 0 ≤ f i) : 0 ≤ sm n f := by
  have := sm_le (f := fun _ => 0) h
  rw [sm_zero] at this; exact this
theorem sm_add (f g : Nat → Int) : ∀ n, sm n (fun i => f i + g i) = sm n f + sm n g
  | 0 => rfl
  | n + 1 => by rw [sm, sm, sm, sm_add f g n]; omega
theorem sm_sub (f g : Nat → Int) : ∀ n, sm n (fun i => f i - g i) = sm n f - sm n g
  | 0 => rfl
  | n + 1 => by rw [sm, sm, sm, sm_sub f g n]; omega
theorem sm_neg (f : Nat → Int) : ∀ n, sm n (fun i => - f i) = - sm n f
  | 0 => rfl
  | n + 1 => by rw [sm, sm, sm_neg f n]; omega
theorem sm_mul (c : Int) (f : Nat → Int) : ∀ n, sm n (fun i => c * f i) = c * sm n f
  | 0 => by simp [sm]
  | n + 1 => by rw [sm, sm, sm_mul c f n, Int.mul_add]
theorem sm_swap (f : Nat → Nat → Int) (m : Nat) : ∀ n, sm n (fun i => sm m (fun j => f i j)) = sm m (fun j => sm n (fun i => f i j))
  | 0 => by simp [sm, sm_zero]
  | n + 1 => by
    rw [sm, sm_swap f m n, ← sm_add]; rfl
theorem sm_upd {f g : Nat → Int} {t : Nat} : ∀ {n : Nat}, t < n → (∀ i, i < n → i ≠ t → g i = f i) → sm n g = sm n f + (g t - f t)
  | 0, h, _ => by omega
  | n + 1, ht, h => by
    rw [sm, sm]
    by_cases e : t = n
    · subst e
      rw [sm_congr (f := g) (g := f) (fun i hi => h i (by omega) (by omega))]; omega
    · rw [sm_upd (t := t) (by omega) (fun i hi hne => h i (by omega) hne), h n (by omega) (Ne.symm e)]; omega
theorem sm_one {f : Nat → Int} {t n : Nat} (ht : t < n) (h : ∀ i, i < n → i ≠ t → f i = 0) : sm n f = f t := by
  have := sm_upd (f := fun _ => 0) (g := f) ht h
  rw [sm_zero] at this; omega
theorem sm_term {f : Nat → Int} {n i : Nat} (h : ∀ j, j < n → 0 ≤ f j) (hi : i < n) : f i ≤ sm n f := by
  have h1 := sm_le (f := fun j => if j = i then f i else 0) (g := f) (n := n) (fun j hj => by
    show (if j = i then f i else 0) ≤ f j
    split
    · rename_i e; rw [e]; exact Int.le_refl _
    · exact h j hj)
  have h2 := sm_one (f := fun j => if j = i then f i else 0) hi (fun j _ hne => if_neg hne)
  have h3 : (if i = i then f i else 0) = f i := if_pos rfl
  rw [h2] at h1
  simpa using h1
theorem sm_const (c : Int) : ∀ n : Nat, sm n (fun _ => c) = c * n
  | 0 => by simp [sm]
  | n + 1 => by rw [sm, sm_const c n]; rw [Int.natCast_add, Int.mul_add]; simp
theorem sm_ext {f : Nat → Int} {m : Nat} : ∀ {n : Nat}, m ≤ n → (∀ i, m ≤ i → i < n → f i = 0) → sm n f = sm m f
  | 0, h, _ => by rw [show m = 0 by omega]
  | n + 1, h, hz => by
    by_cases e : m = n + 1
    · rw [e]
    · rw [sm, sm_ext (by omega) (fun i h1 h2 => hz i h1 (by omega)), hz n (by omega) (by omega)]; omega
theorem sm_split (f : Nat → Int) (m : Nat) : ∀ n, sm (m + n) f = sm m f + sm n (fun i => f (m + i))
  | 0 => by simp [sm]
  | n + 1 => by rw [← Nat.add_assoc, sm, sm_split f m n, sm]; omega
/-! ### Cuts, and residual capacities -/
def cutV (n : Nat) (c : Nat → Nat → Int) (S : Nat → Bool) : Int := sm n fun u => sm n fun v => if S u = true ∧ S v = false then c u v else 0

/-- r is what is left of the capacities c by a flow of the value val from s to t. -/
structure Res (n : Nat) (c : Nat → Nat → Int) (r : Nat → Nat → Int) (ex : Nat → Int) : Prop where
  nonneg : ∀ u v, u < n → v < n → 0 ≤ r u v
  pair : ∀ u v, u < n → v < n → r u v + r v u = c u v + c v u
  net : ∀ u, u < n → sm n (fun v => c u v - r u v) = ex u

section
variable {n : Nat} {c r : Nat → Nat → Int} {ex : Nat → Int} {S : Nat → Bool}

/-- What leaves S is the sum of the excesses in S. -/
theorem Res.leave (h : Res n c r ex) (S : Nat → Bool) : sm n (fun u => if S u = true then ex u else 0) = sm n (fun u => sm n fun v => if S u = true ∧ S v = false then c u v - r u v else 0) := by
  have e1 : sm n (fun u => if S u = true then ex u else 0) = sm n (fun u => sm n fun v => if S u = true then c u v - r u v else 0) := by
    refine sm_congr fun u hu => ?_
    by_cases hs : S u = true
    · rw [if_pos hs, ← h.net u hu]
      exact sm_congr fun v _ => (if_pos hs).symm
    · rw [if_neg hs]
      have e0 : sm n (fun v => if S u = true then c u v - r u v else 0) = sm n (fun _ => 0) := sm_congr fun v _ => if_neg hs
      rw [sm_zero] at e0
      exact e0.symm
  have e2 : sm n (fun u => sm n fun v => if S u = true then c u v - r u v else 0) =
      sm n (fun u => sm n fun v => if S u = true ∧ S v = false then c u v - r u v else 0) + sm n (fun u => sm n fun v => if S u = true ∧ S v = true then c u v - r u v else 0) := by
    rw [← sm_add]
    refine sm_congr fun u hu => ?_
    rw [← sm_add]
    refine sm_congr fun v hv => ?_
    cases S u <;> cases S v <;> simp
  have e3 : sm n (fun u => sm n fun v => if S u = true ∧ S v = true then c u v - r u v else 0) = - sm n (fun u => sm n fun v => if S u = true ∧ S v = true then c u v - r u v else 0) := by
    conv => lhs; rw [sm_swap]
    rw [← sm_neg]
    refine sm_congr fun v hv => ?_
    rw [← sm_neg]
    refine sm_congr fun u hu => ?_
    have := h.pair u v hu hv
    cases S u <;> cases S v <;> simp; omega
  rw [e1, e2]; omega
/-- The excess of a flow of the value val. -/
def exOf (s t : Nat) (val : Int) (u : Nat) : Int := (if u = s then val else 0) - (if u = t then val else 0)
theorem ex_sum {s t : Nat} {val : Int} (hs : s < n) (ht : t < n) (hS : S s = true) (hT : S t = false) : sm n (fun u => if S u = true then exOf s t val u else 0) = val := by
  have hst : s ≠ t := by intro e; rw [e, hT] at hS; cases hS
  rw [sm_one hs (fun i _ hne => by
    by_cases e : i = t
    · subst e; simp [hT]
    · simp [exOf, hne, e])]
  simp [hS, exOf, hst]
theorem Res.cut_le {s t : Nat} {val : Int} (h : Res n c r (exOf s t val)) (hs : s < n) (ht : t < n) (hS : S s = true) (hT : S t = false) : val ≤ cutV n c S := by
  have e := h.leave S
  rw [ex_sum hs ht hS hT] at e
  rw [e]
  refine sm_le fun u hu => sm_le fun v hv => ?_
  have := h.nonneg u v hu hv
  split <;> omega
theorem Res.cut_eq {s t : Nat} {val : Int} (h : Res n c r (exOf s t val)) (hs : s < n) (ht : t < n) (hS : S s = true) (hT : S t = false) (hc : ∀ u v, u < n → v < n → S u = true → S v = false → r u v = 0) : val = cutV n c S := by
  have e := h.leave S
  rw [ex_sum hs ht hS hT] at e
  rw [e]
  refine sm_congr fun u hu => sm_congr fun v hv => ?_
  split
  · rename_i hh; rw [hc u v hu hv hh.1 hh.2]; omega
  · rfl
/-- val is the least capacity of a cut between s and t. -/
def IsCut (n : Nat) (c : Nat → Nat → Int) (s t : Nat) (val : Int) : Prop := (∃ S : Nat → Bool, S s = true ∧ S t = false ∧ cutV n c S = val) ∧ ∀ S : Nat → Bool, S s = true → S t = false → val ≤ cutV n c S
theorem IsCut.uniq {s t : Nat} {a b : Int} (h : IsCut n c s t a) (h' : IsCut n c s t b) : a = b := by
  obtain ⟨⟨S, s1, s2, s3⟩, s4⟩ := h
  obtain ⟨⟨T, t1, t2, t3⟩, t4⟩ := h'
  have := s4 T t1 t2
  have := t4 S s1 s2
  omega
theorem cut_congr {c c' : Nat → Nat → Int} (h : ∀ u v, u < n → v < n → c u v = c' u v) (S : Nat → Bool) : cutV n c S = cutV n c' S :=
  sm_congr fun u hu => sm_congr fun v hv => by rw [h u v hu hv]
theorem cut_nonneg {c : Nat → Nat → Int} (h : ∀ u v, u < n → v < n → 0 ≤ c u v) (S : Nat → Bool) : 0 ≤ cutV n c S :=
  sm_nonneg fun u hu => sm_nonneg fun v hv => by
    have := h u v hu hv
    split <;> omega
/-- All edges reversed, source and sink exchanged. -/
theorem cut_rev (c : Nat → Nat → Int) (S : Nat → Bool) : cutV n (fun u v => c v u) S = cutV n c (fun u => !S u) := by
  unfold cutV
  rw [sm_swap]
  refine sm_congr fun u _ => sm_congr fun v _ => ?_
  show (if S v = true ∧ S u = false then c u v else 0) = if (!S u) = true ∧ (!S v) = false then c u v else 0
  generalize S u = x
  generalize S v = y
  cases x <;> cases y <;> simp
theorem IsCut.rev {s t : Nat} {val : Int} (h : IsCut n c s t val) : IsCut n (fun u v => c v u) t s val := by
  obtain ⟨⟨S, s1, s2, s3⟩, s4⟩ := h
  refine ⟨⟨fun u => !S u, by simp [s2], by simp [s1], ?_⟩, fun T t1 t2 => ?_⟩
  · rw [cut_rev]
    simpa using s3
  · rw [cut_rev]
    exact s4 _ (by simp [t2]) (by simp [t1])
theorem cut_mul (c : Nat → Nat → Int) (k : Int) (S : Nat → Bool) : cutV n (fun u v => c u v * k) S = cutV n c S * k := by
  unfold cutV
  rw [Int.mul_comm, ← sm_mul]
  refine sm_congr fun u _ => ?_
  rw [← sm_mul]
  refine sm_congr fun v _ => ?_
  split
  · exact Int.mul_comm _ _
  · simp
theorem IsCut.mul {s t : Nat} {val k : Int} (hk : 0 ≤ k) (h : IsCut n c s t val) : IsCut n (fun u v => c u v * k) s t (val * k) := by
  obtain ⟨⟨S, s1, s2, s3⟩, s4⟩ := h
  refine ⟨⟨S, s1, s2, by rw [cut_mul, s3]⟩, fun T t1 t2 => ?_⟩
  rw [cut_mul]
  exact Int.mul_le_mul_of_nonneg_right (s4 T t1 t2) hk
/-- One edge made greater by k. -/
theorem cut_more {c c' : Nat → Nat → Int} {a b : Nat} {k : Int} (ha : a < n) (hb : b < n) (hk : 0 ≤ k) (hab : c' a b = c a b + k) (he : ∀ u v, u < n → v < n → ¬ (u = a ∧ v = b) → c' u v = c u v) (S : Nat → Bool) :
    cutV n c S ≤ cutV n c' S ∧ cutV n c' S ≤ cutV n c S + k := by
  have h1 : cutV n c' S = cutV n c S + if S a = true ∧ S b = false then k else 0 := by
    have e1 := sm_upd (t := a) (f := fun u => sm n fun v => if S u = true ∧ S v = false then c u v else 0) (g := fun u => sm n fun v => if S u = true ∧ S v = false then c' u v else 0) ha (fun u hu hne => sm_congr fun v hv => by rw [he u v hu hv (fun e => hne e.1)])
    have e2 := sm_upd (t := b) (f := fun v => if S a = true ∧ S v = false then c a v else 0) (g := fun v => if S a = true ∧ S v = false then c' a v else 0) hb (fun v hv hne => by
      show (if _ then c' a v else 0) = if _ then c a v else 0
      rw [he a v ha hv (fun e => hne e.2)])
    show sm n (fun u => sm n fun v => if S u = true ∧ S v = false then c' u v else 0) = sm n (fun u => sm n fun v => if S u = true ∧ S v = false then c u v else 0) + _
    rw [e1]
    rw [e2, hab]
    split <;> omega
  rw [h1]
  split <;> omega
theorem IsCut.more {s t : Nat} {val val' k : Int} {c' : Nat → Nat → Int} {a b : Nat} (h : IsCut n c s t val) (h' : IsCut n c' s t val') (ha : a < n) (hb : b < n) (hk : 0 ≤ k) (hab : c' a b = c a b + k) (he : ∀ u v, u < n → v < n → ¬ (u = a ∧ v = b) → c' u v = c u v) : val ≤ val' ∧ val' ≤ val + k := by
  obtain ⟨⟨S, s1, s2, s3⟩, s4⟩ := h
  obtain ⟨⟨T, t1, t2, t3⟩, t4⟩ := h'
  have a1 := (cut_more ha hb hk hab he T).1
  have a2 := s4 T t1 t2
  have b1 := (cut_more ha hb hk hab he S).2
  have b2 := t4 S s1 s2
  omega
end

/-! ### Pushing flow along shortest paths -/
def push1 (r : Nat → Nat → Int) (u v : Nat) (x : Int) : Nat → Nat → Int := fun a b => r a b - (if a = u ∧ b = v then x else 0) + (if a = v ∧ b = u then x else 0)
structure St where
  r : Nat → Nat → Int
  nx : Nat → Nat
/-- Edges that were left behind bear no more. -/
structure Blk (n : Nat) (lv : Nat → Int) (t : Nat) (s : St) : Prop where
  nn : ∀ a b, a < n → b < n → 0 ≤ s.r a b
  le : ∀ w, w < n → s.nx w ≤ n
  dead : ∀ w, w < n → ∀ j, j < s.nx w → s.r w j = 0 ∨ lv j ≠ lv w + 1 ∨ (j ≠ t ∧ n ≤ s.nx j)
structure PR (n : Nat) (c : Nat → Nat → Int) (lv : Nat → Int) (t u : Nat) (x : Int) (s s' : St) : Prop where
  pos : 0 ≤ x
  res : ∀ ex, Res n c s.r ex → Res n c s'.r (fun w => ex w + (if w = u then x else 0) - (if w = t then x else 0))
  fr : ∀ a b, a < n → b < n → (lv a < lv u ∨ lv b < lv u) → s'.r a b = s.r a b
  fn : ∀ w, w < n → lv w < lv u → s'.nx w = s.nx w
  mono : ∀ w, s.nx w ≤ s'.nx w
  dec : ∀ a b, a < n → b < n → lv b = lv a + 1 → s'.r a b ≤ s.r a b
  blk : Blk n lv t s → Blk n lv t s'
  zero : x = 0 → ∀ a b, s'.r a b = s.r a b

section
variable {n : Nat} {c : Nat → Nat → Int} {lv : Nat → Int} {t u v : Nat} {x a b : Int} {s s1 s2 : St}

theorem PR.refl (n : Nat) (c : Nat → Nat → Int) (lv : Nat → Int) (t u : Nat) (s : St) : PR n c lv t u 0 s s where
  pos := Int.le_refl _
  res := fun ex h => by
    have e : (fun w => ex w + (if w = u then 0 else 0) - (if w = t then 0 else 0)) = ex := funext fun w => by simp
    rw [e]; exact h
  fr := fun _ _ _ _ _ => rfl
  fn := fun _ _ _ => rfl
  mono := fun _ => Nat.le_refl _
  dec := fun _ _ _ _ _ => Int.le_refl _
  blk := fun h => h
  zero := fun _ _ _ => rfl
/-- The sink takes what comes. -/
theorem PR.sink (n : Nat) (c : Nat → Nat → Int) (lv : Nat → Int) (t : Nat) {x : Int} (hx : 0 ≤ x) (s : St) : PR n c lv t t x s s where
  pos := hx
  res := fun ex h => by
    have e : (fun w => ex w + (if w = t then x else 0) - (if w = t then x else 0)) = ex := funext fun w => by omega
    rw [e]; exact h
  fr := fun _ _ _ _ _ => rfl
  fn := fun _ _ _ => rfl
  mono := fun _ => Nat.le_refl _
  dec := fun _ _ _ _ _ => Int.le_refl _
  blk := fun h => h
  zero := fun _ _ _ => rfl
theorem push1_same (r : Nat → Nat → Int) (u v : Nat) : push1 r u v 0 = r := by
  funext a b
  simp [push1]
theorem res_push1 {r : Nat → Nat → Int} {ex : Nat → Int} (h : Res n c r ex) (hu : u < n) (hv : v < n) (hne : u ≠ v) (h0 : 0 ≤ b) (hb : b ≤ r u v) : Res n c (push1 r u v b) (fun w => ex w + (if w = u then b else 0) - (if w = v then b else 0)) where
  nonneg := fun p q hp hq => by
    have := h.nonneg p q hp hq
    unfold push1
    by_cases e : p = u ∧ q = v
    · obtain ⟨rfl, rfl⟩ := e
      simp [hne]; omega
    · rw [if_neg e]
      split <;> omega
  pair := fun p q hp hq => by
    have := h.pair p q hp hq
    unfold push1
    by_cases e : p = u ∧ q = v
    · obtain ⟨rfl, rfl⟩ := e
      simp [hne, Ne.symm hne]; omega
    · by_cases e2 : p = v ∧ q = u
      · obtain ⟨rfl, rfl⟩ := e2
        simp [hne, Ne.symm hne]; omega
      · rw [if_neg e, if_neg e2, if_neg (fun h => e2 ⟨h.2, h.1⟩), if_neg (fun h => e ⟨h.2, h.1⟩)]; omega
  net := fun p hp => by
    have hn := h.net p hp
    by_cases e1 : p = u
    · subst e1
      have := sm_upd (t := v) (f := fun q => c p q - r p q) (g := fun q => c p q - push1 r p v b p q) hv (fun q hq hne2 => by simp [push1, hne2, hne])
      rw [this, hn]
      simp [push1, hne]; omega
    · by_cases e2 : p = v
      · subst e2
        have := sm_upd (t := u) (f := fun q => c p q - r p q) (g := fun q => c p q - push1 r u p b p q) hu (fun q hq hne2 => by simp [push1, hne2, e1])
        rw [this, hn]
        simp [push1, e1]; omega
      · rw [sm_congr (f := fun q => c p q - push1 r u v b p q) (g := fun q => c p q - r p q) (fun q _ => by simp [push1, e1, e2]), hn]
        simp [e1, e2]
theorem Blk.push1 (h : Blk n lv t s) (hv : v < n) (hl : lv v = lv u + 1) (h0 : 0 ≤ b) (hb : b ≤ s.r u v) : Blk n lv t ⟨push1 s.r u v b, s.nx⟩ := by
  have hne : u ≠ v := by intro e; rw [e] at hl; omega
  have nn : ∀ p q, p < n → q < n → 0 ≤ Go.Proofs.Ytdjpkebajcpfbaa.push1 s.r u v b p q := fun p q hp hq => by
    have := h.nn p q hp hq
    unfold Go.Proofs.Ytdjpkebajcpfbaa.push1
    by_cases e : p = u ∧ q = v
    · obtain ⟨rfl, rfl⟩ := e
      simp [hne]; omega
    · rw [if_neg e]
      split <;> omega
  refine ⟨nn, h.le, fun w hw j hj => ?_⟩
  rcases h.dead w hw j hj with e | e | e
  · by_cases hlj : lv j = lv w + 1
    · left
      have h1 := nn w j hw (Nat.lt_of_lt_of_le hj (h.le w hw))
      have h2 : Go.Proofs.Ytdjpkebajcpfbaa.push1 s.r u v b w j ≤ s.r w j := by
        unfold Go.Proofs.Ytdjpkebajcpfbaa.push1
        rw [if_neg (show ¬ (w = v ∧ j = u) from fun h => by rw [h.1, h.2] at hlj; omega)]
        split <;> omega
      show Go.Proofs.Ytdjpkebajcpfbaa.push1 s.r u v b w j = 0
      omega
    · exact .inr (.inl hlj)
  · exact .inr (.inl e)
  · exact .inr (.inr e)
/-- One more edge: what v took goes from u to v. -/
theorem PR.edge (h : PR n c lv t u a s s1) (hu : u < n) (hv : v < n) (hl : lv v = lv u + 1) (h' : PR n c lv t v b s1 s2) (hb : b ≤ s1.r u v) : PR n c lv t u (a + b) s ⟨push1 s2.r u v b, s2.nx⟩ := by
  have hne : u ≠ v := by intro e; rw [e] at hl; omega
  have h0 := h'.pos
  have huv : s2.r u v = s1.r u v := h'.fr u v hu hv (.inl (by omega))
  refine ⟨by have := h.pos; omega, fun ex hr => ?_, fun p q hp hq hlt => ?_, fun w hw hlt => ?_, fun w => Nat.le_trans (h.mono w) (h'.mono w), fun p q hp hq hlq => ?_, fun hb0 => ?_, fun hz p q => ?_⟩
  · have := res_push1 (h'.res _ (h.res ex hr)) hu hv hne h0 (by omega)
    have e : (fun w => ex w + (if w = u then a + b else 0) - (if w = t then a + b else 0)) = (fun w => ex w + (if w = u then a else 0) - (if w = t then a else 0) + (if w = v then b else 0) - (if w = t then b else 0) + (if w = u then b else 0) - (if w = v then b else 0)) := funext fun w => by
      split <;> split <;> omega
    rw [e]; exact this
  · show push1 s2.r u v b p q = s.r p q
    rw [← h.fr p q hp hq hlt, ← h'.fr p q hp hq (by omega)]
    unfold push1
    rw [if_neg (show ¬ (p = u ∧ q = v) from fun e => by rw [e.1, e.2] at hlt; omega), if_neg (show ¬ (p = v ∧ q = u) from fun e => by rw [e.1, e.2] at hlt; omega)]
    omega
  · exact (h'.fn w hw (by omega)).trans (h.fn w hw hlt)
  · have d1 := h.dec p q hp hq hlq
    have d2 := h'.dec p q hp hq hlq
    show push1 s2.r u v b p q ≤ s.r p q
    unfold push1
    rw [if_neg (show ¬ (p = v ∧ q = u) from fun e => by rw [e.1, e.2] at hlq; omega)]
    split <;> omega
  · exact (h'.blk (h.blk hb0)).push1 hv hl h0 (by omega)
  · have := h.pos
    have e1 : a = 0 := by omega
    have e2 : b = 0 := by omega
    show push1 s2.r u v b p q = s.r p q
    rw [e2, push1_same, h'.zero e2, h.zero e1]
def updN (f : Nat → Nat) (u k : Nat) : Nat → Nat := fun w => if w = u then k else f w
/-- An edge that bears no more is left behind. -/
theorem PR.skip (h : PR n c lv t u a s s1) (hu : s1.nx u < n) (hd : s1.r u (s1.nx u) = 0 ∨ lv (s1.nx u) ≠ lv u + 1 ∨ (s1.nx u ≠ t ∧ n ≤ s1.nx (s1.nx u))) : PR n c lv t u a s ⟨s1.r, updN s1.nx u (s1.nx u + 1)⟩ := by
  refine ⟨h.pos, h.res, h.fr, fun w hw hlt => ?_, fun w => ?_, h.dec, fun hb0 => ?_, h.zero⟩
  · show updN s1.nx u (s1.nx u + 1) w = s.nx w
    unfold updN
    rw [if_neg (fun e => by rw [e] at hlt; omega)]
    exact h.fn w hw hlt
  · show s.nx w ≤ updN s1.nx u (s1.nx u + 1) w
    have := h.mono w
    unfold updN
    split
    · rename_i e; subst e; omega
    · exact this
  · have hb := h.blk hb0
    have up : ∀ j, n ≤ s1.nx j → n ≤ updN s1.nx u (s1.nx u + 1) j := fun j hj => by
      unfold updN; split
      · rename_i e; subst e; omega
      · exact hj
    refine ⟨hb.nn, fun w hw => ?_, fun w hw j hj => ?_⟩
    · show updN s1.nx u (s1.nx u + 1) w ≤ n
      unfold updN
      split
      · omega
      · exact hb.le w hw
    · have hj : j < updN s1.nx u (s1.nx u + 1) w := hj
      have hold : j < s1.nx w ∨ (w = u ∧ j = s1.nx u) := by
        unfold updN at hj
        split at hj
        · rename_i e; subst e; omega
        · exact .inl hj
      rcases hold with hold | ⟨rfl, rfl⟩
      · rcases hb.dead w hw j hold with e | e | ⟨e, e2⟩
        · exact .inl e
        · exact .inr (.inl e)
        · exact .inr (.inr ⟨e, up j e2⟩)
      · rcases hd with e | e | ⟨e, e2⟩
        · exact .inl e
        · exact .inr (.inl e)
        · exact .inr (.inr ⟨e, up _ e2⟩)
/-- What a search for shortest paths from src has found. -/
structure Lev (n : Nat) (r : Nat → Nat → Int) (src : Nat) (lv : Nat → Int) : Prop where
  low : ∀ v, v < n → -1 ≤ lv v
  top : ∀ v, v < n → lv v < n
  src0 : lv src = 0
  par : ∀ v, v < n → 0 ≤ lv v → v = src ∨ ∃ u, u < n ∧ 0 ≤ lv u ∧ lv v = lv u + 1 ∧ 0 < r u v
  cls : ∀ u v, u < n → v < n → 0 ≤ lv u → 0 < r u v → 0 ≤ lv v
/-- If the sink is reached, something is sent. -/
theorem sent_pos {r0 : Nat → Nat → Int} {src : Nat} {lim : Int} (hL : Lev n r0 src lv) (hnn : ∀ a b, a < n → b < n → 0 ≤ r0 a b) (ht : t < n) (hr : 0 ≤ lv t) (h : PR n c lv t src x ⟨r0, fun _ => 0⟩ s1) (hlim : 0 < lim) (hfull : x < lim → src ≠ t ∧ n ≤ s1.nx src) : 0 < x := by
  have hpos := h.pos
  by_cases hx : x = 0
  · exfalso
    have hz := h.zero hx
    have hb := h.blk ⟨hnn, fun _ _ => Nat.zero_le _, fun _ _ j hj => absurd hj (Nat.not_lt_zero _)⟩
    obtain ⟨hst, hsn⟩ := hfull (by omega)
    have key : ∀ k v, v < n → 0 ≤ lv v → (lv v).toNat = k → (v = t ∨ ¬ n ≤ s1.nx v) → False := by
      intro k
      induction k with
      | zero =>
        intro v hv h0 hk hd
        rcases hL.par v hv h0 with rfl | ⟨u, hu, hu0, hl, _⟩
        · rcases hd with e | e
          · exact hst e
          · exact e hsn
        · omega
      | succ k ih =>
        intro v hv h0 hk hd
        rcases hL.par v hv h0 with rfl | ⟨u, hu, hu0, hl, hp⟩
        · rcases hd with e | e
          · exact hst e
          · exact e hsn
        · refine ih u hu hu0 (by omega) (.inr fun hdead => ?_)
          rcases hb.dead u hu v (by omega) with e | e | ⟨e1, e2⟩
          · have := hz u v
            simp only at this
            omega
          · exact e hl
          · rcases hd with e | e
            · exact e1 e
            · exact e e2
    exact key _ t ht hr rfl (.inl rfl)
  · omega
end
end Go.Proofs.Ytdjpkebajcpfbaa
