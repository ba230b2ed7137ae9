/- The walk over PfairLag. Conditions: none. -/
import Derived.Test.YtoiahkndabbklaaLawGroups
namespace Go.Proofs.Ytoiahkndabbklaa
open Go.RowKit

section
variable {c p : Int}
theorem lag_lo {d s : Int} (h : wE c p d = 0) : wR c p d < s ↔ -p < c * s - d * p := by
  obtain ⟨v1, v2, v3, hi, hj⟩ := wE0 h
  rw [wR_eq h, Int.ediv_lt_iff_lt_mul (by omega), Int.mul_comm s c]; omega
theorem lag_hi {d s : Int} (h : wE c p (d + 1) = 0) : s < wD c p (d + 1) ↔ c * s - d * p < p := by
  obtain ⟨v1, v2, v3, hi, hj⟩ := wE0 h
  have e : s < wD c p (d + 1) ↔ s + 1 ≤ wD c p (d + 1) := Iff.rfl
  rw [e, wD_eq h, Int.le_ediv_iff_mul_le (by omega), Int.add_mul, Int.add_mul, Int.mul_comm s c]; omega
end

theorem lag_bd (nm : ByteArray) (c p s d : Int) (w : World) (hv : vtB c p = true) (hs0 : 0 ≤ s) (hs1 : s ≤ 1099511627776) (hd0 : 0 ≤ d) (hd1 : d ≤ 1099511627776) :
    (0 ≤ c * s ∧ c * s ≤ 1099511627776000) ∧ (0 ≤ d * p ∧ d * p ≤ 1099511627776000) ∧
    Calls Try.prog 21 #[.agg #[.string nm, .int .i64 c, .int .i64 p], .int .i64 s, .int .i64 d] w fun e w' => e = .returned (.tuple #[.int .i64 (c * s - d * p), .int .i64 p]) ∧ Below w.heap.size w w' := by
  obtain ⟨v1, v2, v3⟩ := vtB_true hv
  have a1 : 0 ≤ c * s := Int.mul_nonneg (by omega) hs0
  have a2 : c * s ≤ 1000 * 1099511627776 := Int.mul_le_mul (by omega) hs1 hs0 (by omega)
  have b1 : 0 ≤ d * p := Int.mul_nonneg hd0 (by omega)
  have b2 : d * p ≤ 1099511627776 * 1000 := Int.mul_le_mul hd1 v3 (by omega) (by omega)
  refine ⟨⟨a1, by omega⟩, ⟨b1, by omega⟩, ?_⟩
  have h := lag_ok nm c p s d w hv
  rw [IntWalk.wrap64_in (c * s) ⟨by omega, by omega⟩, IntWalk.wrap64_in (d * p) ⟨by omega, by omega⟩, IntWalk.wrap64_in (c * s - d * p) ⟨by omega, by omega⟩] at h
  exact h

theorem law_lag_inv (nm : ByteArray) (c p s d : Int) (w : World) (hv : vtB c p = false) :
    Calls Try.prog 7 #[.agg #[.string nm, .int .i64 c, .int .i64 p], .int .i64 s, .int .i64 d] w fun e w' => e = .returned (.bool true) ∧ Below w.heap.size w w' := by
  have HV := Lib.hid hv
  clear hv
  go_enter Try.func7, Try.ntmps7
  go_wp2_with fail
  refine (awake_any _).mono ?_
  rintro e w1 ⟨rfl, hb1⟩
  obtain ⟨hc1, hf1⟩ := bcell hb1
  have hz1 : w.heap.size < w1.heap.size := by have := hb1.size; simp at this; omega
  have b1 : Below w.heap.size w w1 := ((Below.refl _ _).alloc (Nat.le_refl _) _).trans (hb1.mono (by simp))
  go_wp2_with fail
  refine (lag_inv nm c p s d _ HV.out).mono ?_
  rintro e w2 ⟨rfl, hb2⟩
  obtain ⟨hc2, hf2⟩ := bcell hb2
  go_wp2_with fail
  refine (rvalid_any c p _).mono ?_
  rintro e w' ⟨rfl, rfl⟩
  rw [HV.out]
  go_wp2_with fail
  go_ret
  exact ⟨rfl, b1.trans (hb2.mono (by omega))⟩

set_option maxRecDepth 100000 in
set_option maxHeartbeats 3200000 in
theorem law_lag_far (nm : ByteArray) (c p s d : Int) (w : World) (hv : vtB c p = true) (hq : s < 0 ∨ (0 ≤ s ∧ d < 0) ∨ (0 ≤ s ∧ 0 ≤ d ∧ 1099511627776 < s) ∨ (0 ≤ s ∧ 0 ≤ d ∧ s ≤ 1099511627776 ∧ 1099511627776 < d)) :
    Calls Try.prog 7 #[.agg #[.string nm, .int .i64 c, .int .i64 p], .int .i64 s, .int .i64 d] w fun e w' => e = .returned (.bool true) ∧ Below w.heap.size w w' := by
  have HV := Lib.hid hv
  clear hv
  rcases hq with h1 | ⟨h1, h2⟩ | ⟨h1, h2, h3⟩ | ⟨h1, h2, h3, h4⟩
  all_goals
    go_enter Try.func7, Try.ntmps7
    go_wp2_with fail
    refine (awake_any _).mono ?_
    rintro e w1 ⟨rfl, hb1⟩
    obtain ⟨hc1, hf1⟩ := bcell hb1
    have hz1 : w.heap.size < w1.heap.size := by have := hb1.size; simp at this; omega
    have b1 : Below w.heap.size w w1 := ((Below.refl _ _).alloc (Nat.le_refl _) _).trans (hb1.mono (by simp))
    go_wp2_with fail
    refine (lag_ok nm c p s d _ HV.out).mono ?_
    rintro e w2 ⟨rfl, hb2⟩
    obtain ⟨hc2, hf2⟩ := bcell hb2
    generalize wrap64 (wrap64 (c * s) - wrap64 (d * p)) = x
    go_wp2_with fail
    refine (rvalid_any c p _).mono ?_
    rintro e w' ⟨rfl, rfl⟩
    rw [HV.out]
    go_wp2_with fail
    go_ret
    exact ⟨rfl, b1.trans (hb2.mono (by omega))⟩

set_option maxRecDepth 100000 in
set_option maxHeartbeats 3200000 in
theorem law_lag_edge (nm : ByteArray) (c p s d : Int) (w : World) (hv : vtB c p = true) (hs0 : 0 ≤ s) (hs1 : s ≤ 1099511627776) (hd0 : 0 ≤ d) (hd1 : d ≤ 1099511627776) (hq : d < 1 ∨ (1 ≤ d ∧ c - 1 < d) ∨ (1 ≤ d ∧ d ≤ c - 1 ∧ p < s)) :
    Calls Try.prog 7 #[.agg #[.string nm, .int .i64 c, .int .i64 p], .int .i64 s, .int .i64 d] w fun e w' => e = .returned (.bool true) ∧ Below w.heap.size w w' := by
  obtain ⟨v1, v2, v3⟩ := vtB_true hv
  obtain ⟨⟨a1, a2⟩, ⟨a3, a4⟩, -⟩ := lag_bd nm c p s d w hv hs0 hs1 hd0 hd1
  have HV := Lib.hid hv
  clear hv
  rcases hq with h1 | ⟨h1, h2⟩ | ⟨h1, h2, h3⟩
  all_goals
    go_enter Try.func7, Try.ntmps7
    go_wp2_with fail
    refine (awake_any _).mono ?_
    rintro e w1 ⟨rfl, hb1⟩
    obtain ⟨hc1, hf1⟩ := bcell hb1
    have hz1 : w.heap.size < w1.heap.size := by have := hb1.size; simp at this; omega
    have b1 : Below w.heap.size w w1 := ((Below.refl _ _).alloc (Nat.le_refl _) _).trans (hb1.mono (by simp))
    go_wp2_with fail
    refine (lag_bd nm c p s d _ HV.out hs0 hs1 hd0 hd1).2.2.mono ?_
    rintro e w2 ⟨rfl, hb2⟩
    obtain ⟨hc2, hf2⟩ := bcell hb2
    go_wp2_with fail
    refine (rvalid_any c p _).mono ?_
    rintro e w' ⟨rfl, rfl⟩
    rw [HV.out]
    go_wp2_with fail
    go_ret
    exact ⟨rfl, b1.trans (hb2.mono (by omega))⟩

set_option maxRecDepth 100000 in
set_option maxHeartbeats 6400000 in
theorem law_lag_ok (nm : ByteArray) (c p s d : Int) (w : World) (hv : vtB c p = true) (hs0 : 0 ≤ s) (hs1 : s ≤ p) (hd0 : 1 ≤ d) (hd1 : d ≤ c - 1) :
    Calls Try.prog 7 #[.agg #[.string nm, .int .i64 c, .int .i64 p], .int .i64 s, .int .i64 d] w fun e w' => e = .returned (.bool true) ∧ Below w.heap.size w w' := by
  obtain ⟨v1, v2, v3⟩ := vtB_true hv
  obtain ⟨⟨a1, a2⟩, ⟨a3, a4⟩, -⟩ := lag_bd nm c p s d w hv hs0 (by omega) (by omega) (by omega)
  have hE1 := wE_ok hv hd0 (by omega)
  have hE2 := wE_ok (i := d + 1) hv (by omega) (by omega)
  have hlo := lag_lo (s := s) hE1
  have hhi := lag_hi (s := s) hE2
  have HV := Lib.hid hv
  have HE1 := Lib.hid hE1
  have HE2 := Lib.hid hE2
  clear hv hE1 hE2
  have hcs : (-p < c * s - d * p ∧ wR c p d < s) ∨ (c * s - d * p ≤ -p ∧ s ≤ wR c p d) := by omega
  have hct : (c * s - d * p < p ∧ s < wD c p (d + 1)) ∨ (p ≤ c * s - d * p ∧ wD c p (d + 1) ≤ s) := by omega
  clear hlo hhi
  rcases hcs with ⟨g1, g2⟩ | ⟨g1, g2⟩ <;> rcases hct with ⟨g3, g4⟩ | ⟨g3, g4⟩ <;> (try (exfalso; omega))
  all_goals
    go_enter Try.func7, Try.ntmps7
    go_wp2_with fail
    refine (awake_any _).mono ?_
    rintro e w1 ⟨rfl, hb1⟩
    obtain ⟨hc1, hf1⟩ := bcell hb1
    have hz1 : w.heap.size < w1.heap.size := by have := hb1.size; simp at this; omega
    have c0 : w1.cell? ⟨w.heap.size, 0, none⟩ = some (.string nm) := by rw [hc1 _ _ (by simp)]; simp [go_sem]
    have c1 : w1.cell? ⟨w.heap.size, 1, none⟩ = some (.int .i64 c) := by rw [hc1 _ _ (by simp)]; simp [go_sem]
    have c2 : w1.cell? ⟨w.heap.size, 2, none⟩ = some (.int .i64 p) := by rw [hc1 _ _ (by simp)]; simp [go_sem]
    have b1 : Below w.heap.size w w1 := ((Below.refl _ _).alloc (Nat.le_refl _) _).trans (hb1.mono (by simp))
    clear hc1 hf1 hb1
    go_wp2_with fail
    refine (lag_bd nm c p s d _ HV.out hs0 (by omega) (by omega) (by omega)).2.2.mono ?_
    rintro e w2 ⟨rfl, hb2⟩
    have Q := Lib.hid (keep5 ⟨b1, hz1, c0, c1, c2⟩ hb2)
    clear b1 hz1 c0 c1 c2 hb2
    obtain ⟨k0, k1, k2, k3, k4⟩ := Q.out
    go_wp2_with fail
    refine (rvalid_any c p _).mono ?_
    rintro e w' ⟨rfl, rfl⟩
    rw [HV.out]
    go_wp2_with fail
    refine (window_any nm c p d _).mono ?_
    rintro e w3 ⟨rfl, hb3⟩
    rw [HE1.out]
    have Q3 := Lib.hid (keep5 Q.out hb3)
    clear k0 k1 k2 k3 k4 hb3
    obtain ⟨k0, k1, k2, k3, k4⟩ := Q3.out
    go_wp2_with fail
    refine (window_any nm c p (d + 1) _).mono ?_
    rintro e w4 ⟨rfl, hb4⟩
    rw [HE2.out]
    obtain ⟨hc4, hf4⟩ := bcell hb4
    have hz4 : w3.heap.size < w4.heap.size := by have := hb4.size; simp at this; omega
    have r1 := (hc4 w3.heap.size 1 (by simp)).trans (World.cell?_alloc_1 w3 _ _ _ _)
    clear hc4 hf4
    have Q4 := Lib.hid (keep5a Q3.out hb4)
    clear k0 k1 k2 k3 k4 hb4
    obtain ⟨k0, k1, k2, k3, k4⟩ := Q4.out
    go_wp2_with fail
    go_ret
    exact ⟨ret_bool (by first | rfl | (rw [beq_iff_eq]; rw [decide_eq_decide]; omega) | (simp; omega)), k0.alloc (by omega) _⟩

theorem law_lag (nm : ByteArray) (c p s d : Int) (w : World) :
    Calls Try.prog 7 #[.agg #[.string nm, .int .i64 c, .int .i64 p], .int .i64 s, .int .i64 d] w fun e w' => e = .returned (.bool true) ∧ Below w.heap.size w w' := by
  cases hv : vtB c p
  · exact law_lag_inv nm c p s d w hv
  · obtain ⟨v1, v2, v3⟩ := vtB_true hv
    by_cases hf : s < 0 ∨ (0 ≤ s ∧ d < 0) ∨ (0 ≤ s ∧ 0 ≤ d ∧ 1099511627776 < s) ∨ (0 ≤ s ∧ 0 ≤ d ∧ s ≤ 1099511627776 ∧ 1099511627776 < d)
    · exact law_lag_far nm c p s d w hv hf
    · by_cases he : d < 1 ∨ (1 ≤ d ∧ c - 1 < d) ∨ (1 ≤ d ∧ d ≤ c - 1 ∧ p < s)
      · exact law_lag_edge nm c p s d w hv (by omega) (by omega) (by omega) (by omega) he
      · exact law_lag_ok nm c p s d w hv (by omega) (by omega) (by omega) (by omega)
end Go.Proofs.Ytoiahkndabbklaa
