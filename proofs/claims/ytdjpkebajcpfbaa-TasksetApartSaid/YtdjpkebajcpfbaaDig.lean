/- Digits to the base 2^32: plain Lean. Conditions: each theorem's own. -/
namespace Go.Proofs.Ytdjpkebajcpfbaa
/-! ### Digits to the base 2^32 -/
def BB : Nat := 4294967296
/-- The value of the lowest n digits. -/
def vl (f : Nat → Nat) : Nat → Nat
  | 0 => 0
  | n + 1 => vl f n + f n * BB ^ n
def updG (f : Nat → Nat) (j x : Nat) : Nat → Nat := fun v => if v = j then x else f v
def Dg (f : Nat → Nat) (n : Nat) : Prop := ∀ i, i < n → f i < BB
def Nrm (f : Nat → Nat) (n : Nat) : Prop := Dg f n ∧ (n = 0 ∨ f (n - 1) ≠ 0)
theorem BB_pos : 0 < BB := by decide
theorem BBn_pos (n : Nat) : 0 < BB ^ n := Nat.pow_pos BB_pos
section
variable {f g : Nat → Nat} {n m i j x : Nat}
theorem vl_congr (h : ∀ i, i < n → f i = g i) : vl f n = vl g n := by
  induction n with
  | zero => rfl
  | succ n ih => rw [vl, vl, ih (fun i hi => h i (by omega)), h n (by omega)]
theorem vl_zero (h : ∀ i, i < n → f i = 0) : vl f n = 0 := by
  induction n with
  | zero => rfl
  | succ n ih => rw [vl, ih (fun i hi => h i (by omega)), h n (by omega)]; simp
theorem vl_more (h : ∀ i, n ≤ i → i < m → f i = 0) (hn : n ≤ m) : vl f m = vl f n := by
  obtain ⟨d, rfl⟩ : ∃ d, m = n + d := ⟨m - n, by omega⟩
  clear hn
  induction d with
  | zero => rfl
  | succ d ih =>
    rw [← Nat.add_assoc, vl, ih (fun i h1 h2 => h i h1 (by omega)), h (n + d) (by omega) (by omega)]
    simp
theorem vl_upd (hj : j < n) : vl (updG f j x) n + f j * BB ^ j = vl f n + x * BB ^ j := by
  induction n with
  | zero => omega
  | succ n ih =>
    rw [vl, vl]
    by_cases e : j = n
    · subst e
      have h1 : vl (updG f j x) j = vl f j := vl_congr fun i hi => by unfold updG; rw [if_neg (by omega)]
      have h2 : updG f j x j = x := by simp [updG]
      rw [h1, h2]; omega
    · have h2 : updG f j x n = f n := by unfold updG; rw [if_neg (by omega)]
      have := ih (by omega)
      rw [h2]; omega
theorem vl_lt (h : Dg f n) : vl f n < BB ^ n := by
  induction n with
  | zero => simp [vl]
  | succ n ih =>
    have h1 := ih (fun i hi => h i (by omega))
    have h2 := h n (by omega)
    rw [vl, Nat.pow_succ]
    have h3 : (f n + 1) * BB ^ n ≤ BB * BB ^ n := Nat.mul_le_mul_right _ h2
    rw [Nat.add_mul, Nat.one_mul] at h3
    rw [Nat.mul_comm (BB ^ n)]
    omega
theorem vl_mono (h : n ≤ m) : vl f n ≤ vl f m := by
  obtain ⟨d, rfl⟩ : ∃ d, m = n + d := ⟨m - n, by omega⟩
  clear h
  induction d with
  | zero => exact Nat.le_refl _
  | succ d ih => rw [← Nat.add_assoc, vl]; omega
theorem vl_ge (h : Nrm f n) (hn : 0 < n) : BB ^ (n - 1) ≤ vl f n := by
  obtain ⟨k, rfl⟩ : ∃ k, n = k + 1 := ⟨n - 1, by omega⟩
  rcases h.2 with h0 | h0
  · omega
  · simp only [Nat.add_sub_cancel] at h0 ⊢
    rw [vl]
    have : 1 * BB ^ k ≤ f k * BB ^ k := Nat.mul_le_mul_right _ (by omega)
    omega
theorem vl_pos (h : Nrm f n) (hn : 0 < n) : 0 < vl f n := Nat.lt_of_lt_of_le (BBn_pos _) (vl_ge h hn)
theorem vl_eq0 (h : Nrm f n) : vl f n = 0 ↔ n = 0 := by
  constructor
  · intro e
    rcases Nat.eq_zero_or_pos n with h0 | h0
    · exact h0
    · have := vl_pos h h0; omega
  · rintro rfl; rfl
theorem vl_short (hf : Nrm f n) (hg : Nrm g m) (h : n < m) : vl f n < vl g m := by
  have h1 := vl_lt hf.1
  have h2 := vl_ge hg (by omega)
  have h3 : BB ^ n ≤ BB ^ (m - 1) := Nat.pow_le_pow_right BB_pos (by omega)
  omega
theorem vl_cmp (hf : Dg f n) (hi : i < n) (h : ∀ j, i < j → j < n → f j = g j) (hl : f i < g i) : vl f n < vl g n := by
  induction n with
  | zero => omega
  | succ n ih =>
    rw [vl, vl]
    by_cases e : i = n
    · subst e
      have h1 := vl_lt (f := f) (n := i) (fun j hj => hf j (by omega))
      have h2 : (f i + 1) * BB ^ i ≤ g i * BB ^ i := Nat.mul_le_mul_right _ hl
      rw [Nat.add_mul, Nat.one_mul] at h2
      omega
    · have h1 := ih (fun j hj => hf j (by omega)) (by omega) (fun j h1 h2 => h j h1 (by omega))
      rw [h n (by omega) (by omega)]
      omega
theorem Nrm.zero : Nrm f 0 := ⟨fun i hi => absurd hi (Nat.not_lt_zero _), .inl rfl⟩
/-- One digit is its value. -/
theorem vl_one : vl f 1 = f 0 := by simp [vl]
theorem vl_small (hf : Nrm f n) (h : vl f n < BB) : n ≤ 1 := by
  rcases Nat.lt_or_ge 1 n with h1 | h1
  · have h2 := vl_ge hf (by omega)
    have h3 : BB ^ 1 ≤ BB ^ (n - 1) := Nat.pow_le_pow_right BB_pos (by omega)
    simp at h3; omega
  · exact h1
/-- A digit written at the end of the carry's chain. -/
theorem carry_split (t : Nat) : t % BB + BB * (t / BB) = t := Nat.mod_add_div t BB
theorem add_step {r a b c t : Nat} (h : r + c * BB ^ i = a + b) (x y : Nat) (ht : t = x + c + y) : r + (t % BB) * BB ^ i + (t / BB) * BB ^ (i + 1) = (a + x * BB ^ i) + (b + y * BB ^ i) := by
  have h1 := carry_split t
  have h2 : (t % BB) * BB ^ i + (t / BB) * BB ^ (i + 1) = t * BB ^ i := by
    conv => rhs; rw [← h1]
    rw [Nat.pow_succ, Nat.add_mul, Nat.mul_comm (BB ^ i) BB, ← Nat.mul_assoc, Nat.mul_comm (t / BB) BB]
  have h3 : t * BB ^ i = x * BB ^ i + c * BB ^ i + y * BB ^ i := by rw [ht, Nat.add_mul, Nat.add_mul]
  omega
end
end Go.Proofs.Ytdjpkebajcpfbaa
