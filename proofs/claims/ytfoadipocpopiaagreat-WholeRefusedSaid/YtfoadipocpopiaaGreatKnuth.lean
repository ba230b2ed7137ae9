/- One digit of a long division: plain Lean. Conditions: each theorem's own. -/
import Derived.Test.YtfoadipocpopiaaGreatM00
namespace Go.Proofs.YtfoadipocpopiaaGreat
structure KD (v1 v2 u0 u1 u2 D P : Nat) : Prop where
  v1l : v1 < BB
  v1g : 2147483648 ≤ v1
  v2l : v2 < BB
  u1l : u1 < BB
  u2l : u2 < BB
  ex : ∃ W dl pl, 0 < W ∧ dl < W ∧ pl < W ∧ D = (v1 * BB + v2) * W + dl ∧ P = ((u0 * BB + u1) * BB + u2) * W + pl
  lt : P < BB * D
section
variable {v1 v2 u0 u1 u2 D P g left : Nat}
theorem KD.u0_le (h : KD v1 v2 u0 u1 u2 D P) : u0 ≤ v1 := by
  obtain ⟨h1, h2, h3, h4, h5, ⟨W, dl, pl, hW, hd, hp, rfl, rfl⟩, hl⟩ := h
  have hB : BB = 4294967296 := rfl
  apply Classical.byContradiction
  intro hc
  have h6 : BB * (v1 * BB + v2 + 1) ≤ (u0 * BB + u1) * BB + u2 := by rw [hB]; rw [hB] at h3; omega
  have h7 := Nat.mul_le_mul_right W h6
  have h8 : BB * ((v1 * BB + v2) * W + dl) ≤ BB * (v1 * BB + v2 + 1) * W := by
    rw [Nat.mul_assoc, Nat.add_mul (v1 * BB + v2) 1 W, Nat.one_mul]
    exact Nat.mul_le_mul_left _ (by omega)
  omega
theorem KD.D_pos (h : KD v1 v2 u0 u1 u2 D P) : 0 < D := by
  have := h.lt
  rcases Nat.eq_zero_or_pos D with h0 | h0
  · rw [h0] at this; omega
  · exact h0
theorem KD.q_lt (h : KD v1 v2 u0 u1 u2 D P) : P / D < BB := Nat.div_lt_of_lt_mul (by rw [Nat.mul_comm]; exact h.lt)
theorem KD.start (h : KD v1 v2 u0 u1 u2 D P) : P / D ≤ (u0 * BB + u1) / v1 := by
  have hq := Nat.div_mul_le_self P D
  obtain ⟨h1, h2, h3, h4, h5, ⟨W, dl, pl, hW, hd, hp, hD, hP⟩, hl⟩ := h
  have hB : BB = 4294967296 := rfl
  generalize P / D = q at *
  rw [Nat.le_div_iff_mul_le (by omega)]
  have h6 : q * (v1 * BB * W) ≤ q * D := Nat.mul_le_mul_left _ (by rw [hD, Nat.add_mul]; omega)
  have h7 : q * v1 * BB * W < ((u0 * BB + u1) * BB + u2 + 1) * W := by
    rw [Nat.add_mul _ 1 W, Nat.one_mul]
    have : q * (v1 * BB * W) = q * v1 * BB * W := by simp only [Nat.mul_assoc]
    omega
  have h8 := Nat.lt_of_mul_lt_mul_right h7
  rw [hB] at h8 h5
  rw [hB]
  omega
theorem KD.dec (h : KD v1 v2 u0 u1 u2 D P) (hq : P / D ≤ g) (he : g * v1 + left = u0 * BB + u1) (hc : left * BB + u2 < g * v2) : P / D ≤ g - 1 := by
  have hq2 := Nat.div_mul_le_self P D
  obtain ⟨h1, h2, h3, h4, h5, ⟨W, dl, pl, hW, hd, hp, hD, hP⟩, hl⟩ := h
  generalize P / D = q at *
  rcases Nat.lt_or_ge q g with h0 | h0
  · omega
  · exfalso
    obtain rfl : q = g := by omega
    have h6 : q * ((v1 * BB + v2) * W) ≤ q * D := Nat.mul_le_mul_left _ (by omega)
    have h7 : q * (v1 * BB + v2) * W < ((u0 * BB + u1) * BB + u2 + 1) * W := by
      rw [Nat.add_mul _ 1 W, Nat.one_mul, Nat.mul_assoc]
      omega
    have h8 := Nat.lt_of_mul_lt_mul_right h7
    rw [← he, Nat.mul_add, ← Nat.mul_assoc, Nat.add_mul] at h8
    omega
theorem KD.decB (h : KD v1 v2 u0 u1 u2 D P) (hc : BB ≤ g) : P / D ≤ g - 1 := by
  have := h.q_lt; omega
theorem KD.over (h : KD v1 v2 u0 u1 u2 D P) (he : g * v1 + left = u0 * BB + u1) (hl : BB ≤ left) : g < BB ∧ g * v2 ≤ left * BB + u2 := by
  have h0 := h.u0_le
  have h1 := h.u1l
  have h2 := h.v2l
  have hg : g < BB := by
    apply Classical.byContradiction
    intro hc
    have h3 : BB * v1 ≤ g * v1 := Nat.mul_le_mul_right _ (by omega)
    have h4 : u0 * BB ≤ v1 * BB := Nat.mul_le_mul_right _ h0
    rw [Nat.mul_comm BB] at h3
    omega
  refine ⟨hg, ?_⟩
  have h3 : g * v2 ≤ BB * BB := Nat.mul_le_mul (by omega) (by omega)
  have h4 : BB * BB ≤ left * BB := Nat.mul_le_mul_right _ hl
  omega
theorem KD.fin (h : KD v1 v2 u0 u1 u2 D P) (he : g * v1 + left = u0 * BB + u1) (hg : g < BB) (hc : g * v2 ≤ left * BB + u2) : g ≤ P / D + 1 := by
  have h0 := h.D_pos
  obtain ⟨h1, h2, h3, h4, h5, ⟨W, dl, pl, hW, hd, hp, hD, hP⟩, hl⟩ := h
  have hB : BB = 4294967296 := rfl
  have h6 : g - 1 ≤ P / D := by
    rw [Nat.le_div_iff_mul_le h0]
    have h7 : (g - 1) * D ≤ (g - 1) * ((v1 * BB + v2 + 1) * W) := Nat.mul_le_mul_left _ (by rw [Nat.add_mul _ 1 W, Nat.one_mul]; omega)
    have h8 : (g - 1) * (v1 * BB + v2 + 1) ≤ (u0 * BB + u1) * BB + u2 := by
      have h9 : g * (v1 * BB + v2) ≤ (u0 * BB + u1) * BB + u2 := by
        rw [← he, Nat.mul_add, ← Nat.mul_assoc, Nat.add_mul]
        omega
      rcases Nat.eq_zero_or_pos g with e | e
      · subst e; simp
      · obtain ⟨k, rfl⟩ : ∃ k, g = k + 1 := ⟨g - 1, by omega⟩
        rw [Nat.add_mul, Nat.one_mul] at h9
        rw [Nat.add_sub_cancel, Nat.mul_add, Nat.mul_one]
        rw [hB] at *
        omega
    have h9 := Nat.mul_le_mul_right W h8
    rw [Nat.mul_assoc] at h9
    omega
  omega
end

/-- The digits' own form of the premise. -/
theorem KD.of {m : Nat} {p dv : Nat → Nat} (hp : Dg p (m + 3)) (hd : Dg dv (m + 2)) (ht : 2147483648 ≤ dv (m + 1)) (hl : vl p (m + 3) < BB * vl dv (m + 2)) : KD (dv (m + 1)) (dv m) (p (m + 2)) (p (m + 1)) (p m) (vl dv (m + 2)) (vl p (m + 3)) := by
  refine ⟨hd _ (by omega), ht, hd _ (by omega), hp _ (by omega), hp _ (by omega), ⟨BB ^ m, vl dv m, vl p m, BBn_pos m, vl_lt fun i hi => hd i (by omega), vl_lt fun i hi => hp i (by omega), ?_, ?_⟩, hl⟩
  · simp only [vl, Nat.pow_succ, Nat.add_mul]
    have : dv (m + 1) * (BB ^ m * BB) = dv (m + 1) * BB * BB ^ m := by simp only [Nat.mul_assoc, Nat.mul_comm, Nat.mul_left_comm]
    omega
  · simp only [vl, Nat.pow_succ, Nat.add_mul]
    have h1 : p (m + 1) * (BB ^ m * BB) = p (m + 1) * BB * BB ^ m := by simp only [Nat.mul_assoc, Nat.mul_comm, Nat.mul_left_comm]
    have h2 : p (m + 2) * (BB ^ m * BB * BB) = p (m + 2) * BB * BB * BB ^ m := by simp only [Nat.mul_assoc, Nat.mul_comm, Nat.mul_left_comm]
    omega

/-! ### Multiply and subtract -/
structure MS (n g : Nat) (p dv : Nat → Nat) (k c b : Nat) (r : Nat → Nat) : Prop where
  dg : Dg r (n + 1)
  cl : c < BB
  bl : b ≤ 1
  val : vl p k + (c + b) * BB ^ k = vl r k + g * vl dv k
  rest : ∀ i, k ≤ i → r i = p i
section
variable {n g k c b : Nat} {p dv r : Nat → Nat}
theorem vl_updEnd {x : Nat} : vl (updG r k x) (k + 1) = vl r k + x * BB ^ k := by
  rw [vl, vl_congr (g := r) (fun i hi => by unfold updG; rw [if_neg (by omega)])]
  simp [updG]
theorem Dg.updG {n x : Nat} (h : Dg r n) (hx : x < BB) : Dg (updG r k x) n := fun i hi => by
  unfold Proofs.YtfoadipocpopiaaGreat.updG; split
  · exact hx
  · exact h i hi
theorem MS.start (hp : Dg p (n + 1)) : MS n g p dv 0 0 0 p := ⟨hp, BB_pos, by omega, by simp [vl], fun _ _ => rfl⟩
/-- x, b': the new digit and borrow; T = g * dv k + c. -/
theorem MS.step (h : MS n g p dv k c b r) {T x b' : Nat} (hT : T = g * dv k + c) (hT2 : T / BB < BB) (hx : x < BB) (hb' : b' ≤ 1) (he : r k + b' * BB = x + T % BB + b) : MS n g p dv (k + 1) (T / BB) b' (updG r k x) := by
  refine ⟨h.dg.updG hx, hT2, hb', ?_, fun i hi => by unfold updG; rw [if_neg (by omega)]; exact h.rest i (by omega)⟩
  have h1 := Nat.mod_add_div T BB
  have h2 : p k + (T / BB + b') * BB = x + g * dv k + (c + b) := by
    rw [← h.rest k (Nat.le_refl _), Nat.add_mul]
    rw [Nat.mul_comm BB] at h1
    omega
  have h3 := congrArg (· * BB ^ k) h2
  simp only [Nat.add_mul] at h3
  have h4 := h.val
  rw [vl_updEnd, vl, vl, Nat.pow_succ, Nat.mul_add, ← Nat.mul_assoc, ← Nat.mul_assoc, Nat.mul_right_comm, Nat.add_mul (T / BB), Nat.add_mul]
  rw [Nat.add_mul] at h4
  omega
/-- The last digit, without a borrow. -/
theorem MS.fine {D P : Nat} (h : MS n g p dv n c b r) (hD : D = vl dv n) (hP : P = vl p (n + 1)) (hq : P / D ≤ g) (hD0 : 0 < D) {x : Nat} (hx : r n = x + c + b) : g = P / D ∧ vl (updG r n x) (n + 1) = P % D := by
  have h1 : vl (updG r n x) (n + 1) + g * D = P := by
    have h4 := h.val
    have h5 := congrArg (· * BB ^ n) hx
    simp only [Nat.add_mul] at h5
    rw [hP, hD, vl_updEnd, vl, ← h.rest n (Nat.le_refl _)]
    rw [Nat.add_mul] at h4
    omega
  have h2 : g ≤ P / D := by rw [Nat.le_div_iff_mul_le hD0]; omega
  have h3 : g = P / D := by omega
  refine ⟨h3, ?_⟩
  have h4 := Nat.div_add_mod P D
  rw [h3, Nat.mul_comm] at h1
  omega
/-- The last digit, with a borrow: one too many was taken. -/
theorem MS.below {D P : Nat} (h : MS n g p dv n c b r) (hD : D = vl dv n) (hP : P = vl p (n + 1)) (hq : g ≤ P / D + 1) (hD0 : 0 < D) {x : Nat} (hx : r n + BB = x + c + b) (hxl : x < BB) : g = P / D + 1 ∧ vl (updG r n x) (n + 1) + D = P % D + BB ^ (n + 1) := by
  have h1 : vl (updG r n x) (n + 1) + g * D = P + BB ^ (n + 1) := by
    have h4 := h.val
    have h5 := congrArg (· * BB ^ n) hx
    simp only [Nat.add_mul] at h5
    rw [hP, hD, vl_updEnd, vl, ← h.rest n (Nat.le_refl _), Nat.pow_succ]
    rw [Nat.add_mul] at h4
    rw [Nat.mul_comm BB] at h5
    omega
  have h2 := vl_lt (f := updG r n x) (n := n + 1) (h.dg.updG hxl)
  have h3 : P / D < g := by
    rw [Nat.div_lt_iff_lt_mul hD0]; omega
  have h4 : g = P / D + 1 := by omega
  refine ⟨h4, ?_⟩
  have h5 := Nat.div_add_mod P D
  rw [h4, Nat.add_mul, Nat.one_mul, Nat.mul_comm] at h1
  omega
end

/-! ### Add back -/
structure AB (n : Nat) (p dv : Nat → Nat) (k c : Nat) (r : Nat → Nat) : Prop where
  dg : Dg r (n + 1)
  cl : c ≤ 1
  val : vl r k + c * BB ^ k = vl p k + vl dv k
  rest : ∀ i, k ≤ i → r i = p i
section
variable {n k c : Nat} {p dv r : Nat → Nat}
theorem AB.start (hp : Dg p (n + 1)) : AB n p dv 0 0 p := ⟨hp, by omega, by simp [vl], fun _ _ => rfl⟩
theorem AB.step (h : AB n p dv k c r) {T : Nat} (hT : T = r k + dv k + c) (hr : r k < BB) (hd : dv k < BB) : AB n p dv (k + 1) (T / BB) (updG r k (T % BB)) := by
  refine ⟨h.dg.updG (Nat.mod_lt _ BB_pos), ?_, ?_, fun i hi => by unfold updG; rw [if_neg (by omega)]; exact h.rest i (by omega)⟩
  · have := h.cl
    have hB : BB = 4294967296 := rfl
    rw [hB] at hr hd ⊢
    omega
  · rw [vl_updEnd, vl, vl]
    rw [h.rest k (Nat.le_refl _)] at hT
    exact add_step h.val _ _ (by omega)
theorem AB.done {R : Nat} (h : AB n p dv n c r) (hv : vl p (n + 1) + vl dv n = R + BB ^ (n + 1)) (hR : R < BB ^ n) : vl (updG r n ((p n + c) % BB)) (n + 1) = R := by
  have h1 := h.val
  have h2 := vl_lt (f := r) (n := n) (fun i hi => h.dg i (by omega))
  have h3 := h.dg n (by omega)
  rw [h.rest n (Nat.le_refl _)] at h3
  have h4 := h.cl
  have h5 : (p n + c) * BB ^ n + vl r n = R + BB * BB ^ n := by
    rw [vl, Nat.pow_succ] at hv
    rw [Nat.add_mul, Nat.mul_comm BB]
    omega
  have h6 : BB ≤ p n + c := by
    apply Classical.byContradiction
    intro hc
    have : (p n + c + 1) * BB ^ n ≤ BB * BB ^ n := Nat.mul_le_mul_right _ (by omega)
    rw [Nat.add_mul _ 1, Nat.one_mul] at this
    omega
  have h7 : p n + c = BB := by omega
  rw [vl_updEnd, h7, Nat.mod_self, Nat.zero_mul]
  rw [h7] at h5
  omega
end
end Go.Proofs.YtfoadipocpopiaaGreat
