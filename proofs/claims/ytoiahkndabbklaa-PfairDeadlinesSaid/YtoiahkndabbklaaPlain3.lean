/- Plain laws of scaling: a task multiplied by a number has the same first windows. Conditions: an index in its range, the products in range. -/
import Derived.Test.YtoiahkndabbklaaPlain2
namespace Go.Proofs.Ytoiahkndabbklaa
section
variable {c p k i : Int}
theorem sc_E (h : wE c p i = 0) (hk : 1 ≤ k) (hp : k * p ≤ 1000) : wE (k * c) (k * p) i = 0 := by
  obtain ⟨v1, v2, v3, hi, hj⟩ := wE0 h
  have h1 : k * c ≤ k * p := Int.mul_le_mul_of_nonneg_left v2 (by omega)
  have h2 : c ≤ k * c := by
    calc c = 1 * c := by omega
      _ ≤ k * c := Int.mul_le_mul_of_nonneg_right hk (by omega)
  have hv : vtB (k * c) (k * p) = true := by simp [vtB]; omega
  exact wE_ok hv hi (by omega)
theorem sc_floor {K : Int} (hk : 1 ≤ k) : K * k / (c * k) = K / c := Int.mul_ediv_mul_of_pos_left _ _ (by omega)
theorem sc_ceil {K : Int} (hk : 1 ≤ k) (hc : 1 ≤ c) : (K * k + c * k - 1) / (c * k) = (K + c - 1) / c := by
  have h2 : 1 ≤ c * k := by
    calc 1 = 1 * 1 := by omega
      _ ≤ c * k := Int.mul_le_mul hc hk (by omega) (by omega)
  refine (ceil_iff h2).2 ?_
  have := (ceil_iff (K := K) (c := c) (t := (K + c - 1) / c) hc).1 rfl
  generalize (K + c - 1) / c = t at *
  have e : t * (c * k) = t * c * k := (Int.mul_assoc _ _ _).symm
  rw [e]
  have a1 : (t * c - c) * k < K * k := Int.mul_lt_mul_of_pos_right this.1 (by omega)
  have a2 : K * k ≤ t * c * k := Int.mul_le_mul_of_nonneg_right this.2 (by omega)
  rw [Int.sub_mul] at a1
  omega
theorem sc_R (h : wE c p i = 0) (hk : 1 ≤ k) (hp : k * p ≤ 1000) : wR (k * c) (k * p) i = wR c p i := by
  rw [wR_eq h, wR_eq (sc_E h hk hp)]
  rw [show i * (k * p) - k * p = (i * p - p) * k by rw [Int.sub_mul, Int.mul_comm k p, Int.mul_assoc], Int.mul_comm k c, sc_floor hk]
theorem sc_D (h : wE c p i = 0) (hk : 1 ≤ k) (hp : k * p ≤ 1000) : wD (k * c) (k * p) i = wD c p i := by
  obtain ⟨v1, v2, v3, hi, hj⟩ := wE0 h
  rw [wD_eq h, wD_eq (sc_E h hk hp), Int.mul_comm k p, ← Int.mul_assoc, Int.mul_comm k c, sc_ceil hk v1]
theorem sc_ov (h : wE c p i = 0) (hk : 1 ≤ k) (hp : k * p ≤ 1000) : ovB (k * c) (k * p) i = ovB c p i := by
  simp only [ovB, h, sc_E h hk hp]
  rw [show i * (k * p) = k * (i * p) by rw [← Int.mul_assoc, Int.mul_comm i k, Int.mul_assoc], Int.mul_emod_mul_of_pos _ _ (by omega)]
  by_cases h0 : i * p % c = 0
  · simp [h0]
  · have : k * (i * p % c) ≠ 0 := fun e => by
      rcases Int.mul_eq_zero.1 e with h | h
      · omega
      · exact h0 h
    rw [bne_iff_ne.2 this, bne_iff_ne.2 h0]
theorem sc_hv (h : wE c p i = 0) (hk : 1 ≤ k) (hp : k * p ≤ 1000) : hvB (k * c) (k * p) = hvB c p := by
  obtain ⟨v1, v2, v3, hi, hj⟩ := wE0 h
  obtain ⟨u1, u2, u3, _, _⟩ := wE0 (sc_E h hk hp)
  have hv : vtB c p = true := by simp [vtB]; omega
  have hu : vtB (k * c) (k * p) = true := by simp [vtB]; omega
  have e1 : (k * c < k * p) = (c < p) := propext ⟨fun h => Int.lt_of_mul_lt_mul_left h (by omega), fun h => Int.mul_lt_mul_of_pos_left h (by omega)⟩
  have e2 : (k * p ≤ 2 * (k * c)) = (p ≤ 2 * c) := by
    rw [show 2 * (k * c) = k * (2 * c) by rw [← Int.mul_assoc, Int.mul_comm 2 k, Int.mul_assoc]]
    exact propext ⟨fun h => Int.le_of_mul_le_mul_left h (by omega), fun h => Int.mul_le_mul_of_nonneg_left h (by omega)⟩
  simp only [hvB, hv, hu, e1, e2]
theorem sc_grp (h : wE c p i = 0) (hk : 1 ≤ k) (hp : k * p ≤ 1000) : grp (k * c) (k * p) i = grp c p i := by
  simp only [grp, h, sc_E h hk hp, sc_hv h hk hp, sc_D h hk hp]
  by_cases hv : hvB c p = true
  · obtain ⟨v1, v2, v3, v4⟩ := hv_bd hv
    simp only [hv, and_self, if_true]
    rw [show k * p - k * c = (p - c) * k by rw [Int.sub_mul, Int.mul_comm k p, Int.mul_comm k c], Int.mul_comm k p, ← Int.mul_assoc, sc_floor hk]
    unfold endN
    rw [← Int.mul_assoc, sc_ceil hk (by omega)]
  · simp [hv]
end
end Go.Proofs.Ytoiahkndabbklaa
