/- Plain laws of windows: where they begin and end, how long they are, how they overlap; scaling. Conditions: an index in its range. -/
import Derived.Test.YtoiahkndabbklaaPlain
namespace Go.Proofs.Ytoiahkndabbklaa
section
variable {c p : Int}

/-- Where the windows have come after j subtasks. -/
def lastV (c p j : Int) : Int := if j = 0 then 0 else wD c p j - (if ovB c p j then 1 else 0)

theorem floor_ceil {K c : Int} (hc : 1 ≤ c) : K / c = (K + c - 1) / c - (if K % c = 0 then 0 else 1) := by
  by_cases h : K % c = 0
  · rw [if_pos h]
    have e : K = K / c * c := (Int.ediv_mul_cancel (Int.dvd_of_emod_eq_zero h)).symm
    have := (ceil_iff (K := K) (c := c) (t := K / c) hc).2 (by omega)
    omega
  · rw [if_neg h]
    have f := (floor_iff (K := K) (c := c) (t := K / c) hc).1 rfl
    have g : K ≠ K / c * c := fun e => h (by rw [e]; exact Int.mul_emod_left _ _)
    have := (ceil_iff (K := K) (c := c) (t := K / c + 1) hc).2 (by rw [Int.add_mul]; omega)
    omega

theorem wR_last {i : Int} (h : wE c p i = 0) : wR c p i = lastV c p (i - 1) := by
  obtain ⟨v1, v2, v3, hi, hj⟩ := wE0 h
  by_cases h1 : i = 1
  · subst h1; simp [wR, h, lastV]
  · have hvt : vtB c p = true := by simp [vtB]; omega
    have hE : wE c p (i - 1) = 0 := wE_ok hvt (by omega) (by omega)
    have e1 : wR c p i = (i - 1) * p / c := by simp [wR, h]
    have e2 : ovB c p (i - 1) = !decide ((i - 1) * p % c = 0) := by
      simp only [ovB, hE, decide_true, Bool.true_and]
      by_cases h0 : (i - 1) * p % c = 0 <;> simp [h0]
    rw [lastV, if_neg (by omega), wD_eq hE, e1, e2, floor_ceil v1]
    by_cases h0 : (i - 1) * p % c = 0 <;> simp [h0]

theorem last_end (h : wE c p c = 0) : lastV c p c = p := by
  obtain ⟨v1, v2, v3, hi, hj⟩ := wE0 h
  have e0 : c * p = p * c := Int.mul_comm _ _
  have e1 : ovB c p c = false := (ov_false h v1).2 ⟨p, e0⟩
  have e2 : wD c p c = p := by rw [wD_eq h]; exact (ceil_iff v1).2 (by omega)
  rw [lastV, if_neg (by omega), e1, e2]; simp

theorem len_pos {i : Int} (h : wE c p i = 0) : wR c p i < wD c p i := by
  obtain ⟨v1, v2, v3, hi, hj⟩ := wE0 h
  have f := (floor_iff (K := i * p - p) (c := c) (t := wR c p i) v1).1 (wR_eq h).symm
  have g := (ceil_iff (K := i * p) (c := c) (t := wD c p i) v1).1 (wD_eq h).symm
  have : wR c p i * c < wD c p i * c := by omega
  exact Int.lt_of_mul_lt_mul_right this (by omega)

theorem len_heavy {i : Int} (h : wE c p i = 0) (hv : hvB c p = true) : wD c p i = wR c p i + 2 ∨ wD c p i = wR c p i + 3 := by
  obtain ⟨v1, v2, v3, v4⟩ := hv_bd hv
  have f := (floor_iff (K := i * p - p) (c := c) (t := wR c p i) v1).1 (wR_eq h).symm
  have g := (ceil_iff (K := i * p) (c := c) (t := wD c p i) v1).1 (wD_eq h).symm
  generalize wR c p i = R at *
  generalize wD c p i = D at *
  have h1 : (R + 1) * c < D * c := by rw [Int.add_mul]; omega
  have h2 : D * c < (R + 4) * c := by rw [Int.add_mul]; omega
  have := Int.lt_of_mul_lt_mul_right h1 (by omega)
  have := Int.lt_of_mul_lt_mul_right h2 (by omega)
  omega
end
end Go.Proofs.Ytoiahkndabbklaa
