/- The plain law of the group deadline: the first end of a group that the reference finds is the closed form. Conditions: a heavy task, an index in its range. -/
import Derived.Test.YtoiahkndabbklaaPfair4
namespace Go.Proofs.Ytoiahkndabbklaa

def hitB (c p t k : Int) : Bool := (decide (t = wD c p k) && !ovB c p k) || (decide (t + 1 = wD c p k) && decide (wD c p k - wR c p k = 3))

theorem ceil_iff {K c t : Int} (hc : 1 ≤ c) : (K + c - 1) / c = t ↔ t * c - c < K ∧ K ≤ t * c := by
  constructor
  · intro h
    have h1 := (Int.le_ediv_iff_mul_le (a := t) (b := K + c - 1) (c := c) (by omega)).1 (by omega)
    have h2 := (Int.ediv_lt_iff_lt_mul (a := K + c - 1) (b := t + 1) (c := c) (by omega)).1 (by omega)
    rw [Int.add_mul] at h2
    omega
  · rintro ⟨h1, h2⟩
    have h3 := (Int.le_ediv_iff_mul_le (a := t) (b := K + c - 1) (c := c) (by omega)).2 (by omega)
    have h4 := (Int.ediv_lt_iff_lt_mul (a := K + c - 1) (b := t + 1) (c := c) (by omega)).2 (by rw [Int.add_mul]; omega)
    omega
theorem floor_iff {K c t : Int} (hc : 1 ≤ c) : K / c = t ↔ t * c ≤ K ∧ K < t * c + c := by
  constructor
  · intro h
    have h1 := (Int.le_ediv_iff_mul_le (a := t) (b := K) (c := c) (by omega)).1 (by omega)
    have h2 := (Int.ediv_lt_iff_lt_mul (a := K) (b := t + 1) (c := c) (by omega)).1 (by omega)
    rw [Int.add_mul] at h2
    omega
  · rintro ⟨h1, h2⟩
    have h3 := (Int.le_ediv_iff_mul_le (a := t) (b := K) (c := c) (by omega)).2 (by omega)
    have h4 := (Int.ediv_lt_iff_lt_mul (a := K) (b := t + 1) (c := c) (by omega)).2 (by rw [Int.add_mul]; omega)
    omega

section
variable {c p : Int}
theorem wD_eq {k : Int} (h : wE c p k = 0) : wD c p k = (k * p + c - 1) / c := by simp [wD, h]
theorem wR_eq {k : Int} (h : wE c p k = 0) : wR c p k = (k * p - p) / c := by simp [wR, h, Int.sub_mul]
theorem ov_false {k : Int} (h : wE c p k = 0) (hc : 1 ≤ c) : ovB c p k = false ↔ ∃ t, k * p = t * c := by
  simp only [ovB, h, decide_true, Bool.true_and, bne_eq_false_iff_eq]
  constructor
  · intro hm
    exact ⟨k * p / c, (Int.ediv_mul_cancel (Int.dvd_of_emod_eq_zero hm)).symm⟩
  · rintro ⟨t, ht⟩
    rw [ht]; exact Int.mul_emod_left _ _

theorem hit_iff (hv : hvB c p = true) {t : Int} (ht1 : 1 ≤ t) (ht2 : t ≤ p) :
    (∃ k, 1 ≤ k ∧ k ≤ c ∧ hitB c p t k = true) ↔ ∃ m, t * (p - c) - (p - c) < m * p ∧ m * p ≤ t * (p - c) := by
  obtain ⟨v1, v2, v3, v4⟩ := hv_bd hv
  have hvt : vtB c p = true := by simp [vtB]; omega
  have eg : t * (p - c) = t * p - t * c := Int.mul_sub _ _ _
  constructor
  · rintro ⟨k, k1, k2, hk⟩
    have hE : wE c p k = 0 := wE_ok hvt k1 k2
    refine ⟨t - k, ?_⟩
    have em : (t - k) * p = t * p - k * p := Int.sub_mul _ _ _
    rw [eg, em]
    simp only [hitB, Bool.or_eq_true, Bool.and_eq_true, decide_eq_true_eq, Bool.not_eq_true'] at hk
    rcases hk with ⟨h1, h2⟩ | ⟨h1, h2⟩
    · obtain ⟨s, hs⟩ := (ov_false hE v1).1 h2
      have h3 := (ceil_iff v1).1 ((wD_eq hE).symm.trans h1.symm)
      have : s = t := by
        have a1 : t * c - c < s * c := by omega
        have a2 : s * c ≤ t * c := by omega
        have b1 : s ≤ t := Int.le_of_mul_le_mul_right a2 (by omega)
        have b2 : t - 1 < s := by
          refine Int.lt_of_mul_lt_mul_right (a := c) ?_ (by omega)
          rw [Int.sub_mul]; omega
        omega
      subst this
      omega
    · have h3 := (ceil_iff v1).1 ((wD_eq hE).symm.trans h1.symm)
      have h4 := (floor_iff v1).1 ((wR_eq hE).symm.trans (show wR c p k = t - 2 by omega))
      rw [Int.add_mul] at h3
      rw [Int.sub_mul] at h4
      omega
  · rintro ⟨m, hm1, hm2⟩
    have em : (t - m) * p = t * p - m * p := Int.sub_mul _ _ _
    rw [eg] at hm1 hm2
    generalize hk : t - m = k at em
    have hTp : t * c ≤ p * c := Int.mul_le_mul_of_nonneg_right ht2 (by omega)
    have hT0 : c ≤ t * c := by
      calc c = 1 * c := by omega
        _ ≤ t * c := Int.mul_le_mul_of_nonneg_right ht1 (by omega)
    have k1 : 1 ≤ k := by
      have : 0 * p < k * p := by omega
      have := Int.lt_of_mul_lt_mul_right this (by omega)
      omega
    have k2 : k ≤ c := by
      have : (k - 1) * p < c * p := by rw [Int.sub_mul, Int.mul_comm c p]; omega
      have := Int.lt_of_mul_lt_mul_right this (by omega)
      omega
    have hE : wE c p k = 0 := wE_ok hvt k1 k2
    refine ⟨k, k1, k2, ?_⟩
    simp only [hitB, Bool.or_eq_true, Bool.and_eq_true, decide_eq_true_eq, Bool.not_eq_true']
    by_cases hK : k * p = t * c
    · left
      refine ⟨?_, (ov_false hE v1).2 ⟨t, hK⟩⟩
      rw [wD_eq hE]; exact ((ceil_iff v1).2 (by omega)).symm
    · right
      have e1 : wD c p k = t + 1 := by rw [wD_eq hE]; exact (ceil_iff v1).2 (by rw [Int.add_mul]; omega)
      have e2 : wR c p k = t - 2 := by rw [wR_eq hE]; exact (floor_iff v1).2 (by rw [Int.sub_mul]; omega)
      omega

theorem grp_spec {i : Int} (hv : hvB c p = true) (hE : wE c p i = 0) :
    wD c p i ≤ grp c p i ∧ grp c p i ≤ p ∧ (∃ m, grp c p i * (p - c) - (p - c) < m * p ∧ m * p ≤ grp c p i * (p - c)) ∧
      ∀ t, wD c p i ≤ t → t < grp c p i → ¬ ∃ m, t * (p - c) - (p - c) < m * p ∧ m * p ≤ t * (p - c) := by
  obtain ⟨v1, v2, v3, v4⟩ := hv_bd hv
  obtain ⟨d1, d2⟩ := wD_bd hE
  have e : grp c p i = endN p (p - c) ((wD c p i - 1) * (p - c) / p + 1) := by simp [grp, hE, hv]
  generalize wD c p i = d at *
  generalize hg : p - c = g at *
  have hg1 : 1 ≤ g := by omega
  generalize hm : (d - 1) * g / p + 1 = m at *
  have f1 := (floor_iff (K := (d - 1) * g) (c := p) (t := m - 1) (by omega)).1 (by omega)
  rw [Int.sub_mul m 1 p] at f1
  have f2 := (ceil_iff (K := m * p) (c := g) (t := grp c p i) hg1).1 (by rw [e]; rfl)
  generalize grp c p i = t0 at *
  have hd : (d - 1) * g = d * g - g := by rw [Int.sub_mul]; omega
  have h1 : d ≤ t0 := by
    have : (d - 1) * g < t0 * g := by omega
    have := Int.lt_of_mul_lt_mul_right this (by omega)
    omega
  have h2 : t0 ≤ p := by
    have a : (d - 1) * g ≤ (p - 1) * g := Int.mul_le_mul_of_nonneg_right (by omega) (by omega)
    have b : (m - 1) * p < g * p := by
      rw [Int.sub_mul]
      have : (p - 1) * g = g * p - g := by rw [Int.sub_mul, Int.mul_comm]; omega
      omega
    have b' := Int.lt_of_mul_lt_mul_right b (by omega)
    have c1 : m * p ≤ g * p := Int.mul_le_mul_of_nonneg_right (by omega) (by omega)
    have c2 : (t0 - 1) * g < p * g := by rw [Int.sub_mul, Int.mul_comm p g]; omega
    have := Int.lt_of_mul_lt_mul_right c2 (by omega)
    omega
  refine ⟨h1, h2, ⟨m, by omega⟩, ?_⟩
  rintro t ht1 ht2 ⟨m', hm1, hm2⟩
  have a1 : t * g ≤ (t0 - 1) * g := Int.mul_le_mul_of_nonneg_right (by omega) (by omega)
  rw [Int.sub_mul] at a1
  have a2 : m' * p < m * p := by omega
  have a3 := Int.lt_of_mul_lt_mul_right a2 (by omega)
  have a4 : m' * p ≤ (m - 1) * p := Int.mul_le_mul_of_nonneg_right (by omega) (by omega)
  rw [Int.sub_mul] at a4
  have a5 : d * g ≤ t * g := Int.mul_le_mul_of_nonneg_right ht1 (by omega)
  omega

theorem grp_first {i t k : Int} (hv : hvB c p = true) (hE : wE c p i = 0) (h1 : wD c p i ≤ t) (h2 : t ≤ p) (hk1 : 1 ≤ k) (hk2 : k ≤ c) (hh : hitB c p t k = true)
    (hno : ∀ t', wD c p i ≤ t' → t' < t → ∀ k, 1 ≤ k → k ≤ c → hitB c p t' k = false) : grp c p i = t := by
  obtain ⟨d1, d2⟩ := wD_bd hE
  obtain ⟨g1, g2, g3, g4⟩ := grp_spec hv hE
  have a := (hit_iff hv (by omega) h2).1 ⟨k, hk1, hk2, hh⟩
  rcases Int.lt_trichotomy (grp c p i) t with h | h | h
  · obtain ⟨k', x1, x2, x3⟩ := (hit_iff hv (by omega) g2).2 g3
    rw [hno _ g1 h k' x1 x2] at x3
    cases x3
  · exact h
  · exact absurd a (g4 t h1 h)
theorem grp_none {i : Int} (hv : hvB c p = true) (hE : wE c p i = 0)
    (hno : ∀ t', wD c p i ≤ t' → t' ≤ p → ∀ k, 1 ≤ k → k ≤ c → hitB c p t' k = false) : False := by
  obtain ⟨d1, d2⟩ := wD_bd hE
  obtain ⟨g1, g2, g3, g4⟩ := grp_spec hv hE
  obtain ⟨k', x1, x2, x3⟩ := (hit_iff hv (by omega) g2).2 g3
  rw [hno _ g1 g2 k' x1 x2] at x3
  cases x3
end
end Go.Proofs.Ytoiahkndabbklaa
