/- The walk over PfairScales. Conditions: none. -/
import Derived.Test.YtoiahkndabbklaaLawCovers
import Derived.Test.YtoiahkndabbklaaPlain3
namespace Go.Proofs.Ytoiahkndabbklaa
open Go.RowKit

theorem keep12 {B N b0 b1 b2 b3 : Nat} {w W W' : World} {x00 x01 x02 x10 x11 x12 x20 x21 x22 x30 x31 x32 : Value} (h : Below B w W ∧ N ≤ W.heap.size ∧ W.cell? ⟨b0, 0, none⟩ = some x00 ∧ W.cell? ⟨b0, 1, none⟩ = some x01 ∧ W.cell? ⟨b0, 2, none⟩ = some x02 ∧ W.cell? ⟨b1, 0, none⟩ = some x10 ∧ W.cell? ⟨b1, 1, none⟩ = some x11 ∧ W.cell? ⟨b1, 2, none⟩ = some x12 ∧ W.cell? ⟨b2, 0, none⟩ = some x20 ∧ W.cell? ⟨b2, 1, none⟩ = some x21 ∧ W.cell? ⟨b2, 2, none⟩ = some x22 ∧ W.cell? ⟨b3, 0, none⟩ = some x30 ∧ W.cell? ⟨b3, 1, none⟩ = some x31 ∧ W.cell? ⟨b3, 2, none⟩ = some x32) (hb : Below W.heap.size W W') (i0 : b0 < N) (i1 : b1 < N) (i2 : b2 < N) (i3 : b3 < N) (hB : B ≤ N) :
    Below B w W' ∧ N ≤ W'.heap.size ∧ W'.cell? ⟨b0, 0, none⟩ = some x00 ∧ W'.cell? ⟨b0, 1, none⟩ = some x01 ∧ W'.cell? ⟨b0, 2, none⟩ = some x02 ∧ W'.cell? ⟨b1, 0, none⟩ = some x10 ∧ W'.cell? ⟨b1, 1, none⟩ = some x11 ∧ W'.cell? ⟨b1, 2, none⟩ = some x12 ∧ W'.cell? ⟨b2, 0, none⟩ = some x20 ∧ W'.cell? ⟨b2, 1, none⟩ = some x21 ∧ W'.cell? ⟨b2, 2, none⟩ = some x22 ∧ W'.cell? ⟨b3, 0, none⟩ = some x30 ∧ W'.cell? ⟨b3, 1, none⟩ = some x31 ∧ W'.cell? ⟨b3, 2, none⟩ = some x32 := by
  obtain ⟨g0, g1, h00, h01, h02, h10, h11, h12, h20, h21, h22, h30, h31, h32⟩ := h
  exact ⟨g0.trans (hb.mono (by omega)), Nat.le_trans g1 hb.size, keep_cell hb (by omega) h00, keep_cell hb (by omega) h01, keep_cell hb (by omega) h02, keep_cell hb (by omega) h10, keep_cell hb (by omega) h11, keep_cell hb (by omega) h12, keep_cell hb (by omega) h20, keep_cell hb (by omega) h21, keep_cell hb (by omega) h22, keep_cell hb (by omega) h30, keep_cell hb (by omega) h31, keep_cell hb (by omega) h32⟩

theorem World.cell?_alloc_0 (w : World) (x0 x1 x2 : Value) (t : TypeId) : (w.alloc (.cells #[x0, x1, x2] t)).cell? ⟨w.heap.size, 0, none⟩ = some x0 := by simp [go_sem]
theorem World.cell?_alloc_1 (w : World) (x0 x1 x2 : Value) (t : TypeId) : (w.alloc (.cells #[x0, x1, x2] t)).cell? ⟨w.heap.size, 1, none⟩ = some x1 := by simp [go_sem]

set_option maxHeartbeats 3200000 in
theorem law_scales_idle (nm : ByteArray) (c p i b : Int) (w : World) (hq : 40 < p ∨ c < 1 ∨ p < c ∨ i < 1 ∨ c < i) :
    Calls Try.prog 5 #[.agg #[.string nm, .int .i64 c, .int .i64 p], .int .i64 i, .int .u8 b] w fun e w' => e = .returned (.bool true) ∧ Below w.heap.size w w' := by
  go_enter Try.func5, Try.ntmps5
  go_wp2_with fail
  refine (awake_any _).mono ?_
  rintro e w1 ⟨rfl, hb1⟩
  obtain ⟨hc1, hf1⟩ := bcell hb1
  have b1 : Below w.heap.size w w1 := ((Below.refl _ _).alloc (Nat.le_refl _) _).trans (hb1.mono (by simp))
  by_cases h1 : 40 < p
  · go_wp2_with fail
    go_ret
    exact ⟨rfl, b1⟩
  · by_cases h2 : c < 1
    · go_wp2_with fail
      go_ret
      exact ⟨rfl, b1⟩
    · by_cases h3 : p < c
      · go_wp2_with fail
        go_ret
        exact ⟨rfl, b1⟩
      · by_cases h4 : i < 1
        · go_wp2_with fail
          go_ret
          exact ⟨rfl, b1⟩
        · have h5 : c < i := by omega
          go_wp2_with fail
          go_ret
          exact ⟨rfl, b1⟩

set_option maxRecDepth 100000 in
set_option maxHeartbeats 6400000 in
theorem law_scales_ok (nm : ByteArray) (c p i b : Int) (w : World) (h1 : p ≤ 40) (h2 : 1 ≤ c) (h3 : c ≤ p) (h4 : 1 ≤ i) (h5 : i ≤ c) (hb0 : 0 ≤ b) (hb1 : b ≤ 255) :
    Calls Try.prog 5 #[.agg #[.string nm, .int .i64 c, .int .i64 p], .int .i64 i, .int .u8 b] w fun e w' => e = .returned (.bool true) ∧ Below w.heap.size w w' := by
  have hE : wE c p i = 0 := wE_ok (by simp [vtB]; omega) h4 h5
  have HE := Lib.hid hE
  have HI := Lib.hid (show wI c p i = i by simp [wI, hE])
  have hkp : ∀ k : Int, 1 ≤ k → k ≤ 5 → 0 ≤ k * p ∧ k * p ≤ 200 ∧ 0 ≤ k * c ∧ k * c ≤ 200 := by
    intro k k1 k5
    have a1 := Int.mul_le_mul_of_nonneg_right (a := k) (b := 5) (c := p) k5 (by omega)
    have a2 := Int.mul_le_mul_of_nonneg_right (a := k) (b := 5) (c := c) k5 (by omega)
    exact ⟨Int.mul_nonneg (by omega) (by omega), by omega, Int.mul_nonneg (by omega) (by omega), by omega⟩
  have HK := Lib.hid hkp
  clear hE hkp
  go_enter Try.func5, Try.ntmps5
  go_wp2_with fail
  refine (awake_any _).mono ?_
  rintro e w1 ⟨rfl, hb1⟩
  obtain ⟨hc1, hf1⟩ := bcell hb1
  have hz1 : w.heap.size < w1.heap.size := by have := hb1.size; simp at this; omega
  have a0 : w1.cell? ⟨w.heap.size, 0, none⟩ = some (.string nm) := by rw [hc1 _ _ (by simp)]; simp [go_sem]
  have a1 : w1.cell? ⟨w.heap.size, 1, none⟩ = some (.int .i64 c) := by rw [hc1 _ _ (by simp)]; simp [go_sem]
  have a2 : w1.cell? ⟨w.heap.size, 2, none⟩ = some (.int .i64 p) := by rw [hc1 _ _ (by simp)]; simp [go_sem]
  have b1 : Below w.heap.size w w1 := ((Below.refl _ _).alloc (Nat.le_refl _) _).trans (hb1.mono (by simp))
  clear hc1 hf1 hb1
  have hk1 : 1 ≤ 1 + b % 5 := by omega
  have hk5 : 1 + b % 5 ≤ 5 := by omega
  have hk := HK.out (1 + b % 5) hk1 hk5
  obtain ⟨n1, n2, n3, n4⟩ := hk
  go_wp2_with fail
  generalize 1 + b % 5 = k at *
  have EE := Lib.hid (sc_E HE.out hk1 (show k * p ≤ 1000 by omega))
  have ER := Lib.hid (sc_R HE.out hk1 (show k * p ≤ 1000 by omega))
  have ED := Lib.hid (sc_D HE.out hk1 (show k * p ≤ 1000 by omega))
  have EO := Lib.hid (sc_ov HE.out hk1 (show k * p ≤ 1000 by omega))
  have EG := Lib.hid (sc_grp HE.out hk1 (show k * p ≤ 1000 by omega))
  have EH := Lib.hid (sc_hv HE.out hk1 (show k * p ≤ 1000 by omega))
  have EI := Lib.hid (show wI (k * c) (k * p) i = i by simp [wI, EE.out])
  clear HK n1 n2 n3 n4
  generalize k * c = kc at *
  generalize k * p = kp at *
  have ho : (ovB c p i == ovB c p i) = true := by simp
  have hgg : (grp c p i == grp c p i) = true := by simp
  have hhh : (hvB c p == hvB c p) = true := by simp
  refine (window_any nm c p i _).mono ?_
  rintro e w2 ⟨rfl, hb2⟩
  rw [HE.out, HI.out]
  obtain ⟨hc2, hf2⟩ := bcell hb2
  have hz2 : w1.heap.size < w2.heap.size := by have := hb2.size; simp at this; omega
  have A0 := (hc2 _ _ (by simp; omega)).trans ((World.cell?_alloc_lt _ _ _ hz1).trans a0)
  have A1 := (hc2 _ _ (by simp; omega)).trans ((World.cell?_alloc_lt _ _ _ hz1).trans a1)
  have A2 := (hc2 _ _ (by simp; omega)).trans ((World.cell?_alloc_lt _ _ _ hz1).trans a2)
  have B0 := (hc2 w1.heap.size 0 (by simp)).trans (World.cell?_alloc_0 w1 _ _ _ _)
  have B1 := (hc2 w1.heap.size 1 (by simp)).trans (World.cell?_alloc_1 w1 _ _ _ _)
  have B2 := (hc2 w1.heap.size 2 (by simp)).trans (World.cell?_alloc_2 w1 _ _ _ _)
  have b2 : Below w.heap.size w w2 := (b1.alloc (by omega) _).trans (hb2.mono (by simp; omega))
  clear hc2 hf2 hb2 a0 a1 a2 b1
  have hy2 : w.heap.size < w2.heap.size := by omega
  go_wp2_with fail
  refine (window_any _ kc kp i _).mono ?_
  rintro e w3 ⟨rfl, hb3⟩
  rw [EE.out, EI.out, ER.out, ED.out]
  obtain ⟨hc3, hf3⟩ := bcell hb3
  have hz3 : w2.heap.size < w3.heap.size := by have := hb3.size; simp at this; omega
  have C0 := (hc3 _ _ (by simp; omega)).trans ((World.cell?_alloc_lt _ _ _ hy2).trans A0)
  have C1 := (hc3 _ _ (by simp; omega)).trans ((World.cell?_alloc_lt _ _ _ hy2).trans A1)
  have C2 := (hc3 _ _ (by simp; omega)).trans ((World.cell?_alloc_lt _ _ _ hy2).trans A2)
  have D0 := (hc3 _ _ (by simp; omega)).trans ((World.cell?_alloc_lt _ _ _ hz2).trans B0)
  have D1 := (hc3 _ _ (by simp; omega)).trans ((World.cell?_alloc_lt _ _ _ hz2).trans B1)
  have D2 := (hc3 _ _ (by simp; omega)).trans ((World.cell?_alloc_lt _ _ _ hz2).trans B2)
  have F0 := (hc3 w2.heap.size 0 (by simp)).trans (World.cell?_alloc_0 w2 _ _ _ _)
  have F1 := (hc3 w2.heap.size 1 (by simp)).trans (World.cell?_alloc_1 w2 _ _ _ _)
  have F2 := (hc3 w2.heap.size 2 (by simp)).trans (World.cell?_alloc_2 w2 _ _ _ _)
  have b3 : Below w.heap.size w w3 := (b2.alloc (by omega) _).trans (hb3.mono (by simp; omega))
  clear hc3 hf3 hb3 A0 A1 A2 B0 B1 B2 b2
  have hy3 : w.heap.size < w3.heap.size := by omega
  have hx3 : w1.heap.size < w3.heap.size := by omega
  go_wp2_with fail
  have EQ : Hid (w3.heap.size + 1 = w3.heap.size + 1) := rfl
  have KK : ∀ W : World, W = (w3.alloc (.cells #[.int .i64 i, .int .i64 (wR c p i), .int .i64 (wD c p i)] 26)) → Below w.heap.size w W ∧ w3.heap.size + 1 ≤ W.heap.size ∧ W.cell? ⟨w.heap.size, 0, none⟩ = some (.string nm) ∧ W.cell? ⟨w.heap.size, 1, none⟩ = some (.int .i64 c) ∧ W.cell? ⟨w.heap.size, 2, none⟩ = some (.int .i64 p) ∧ W.cell? ⟨w1.heap.size, 0, none⟩ = some (.string ⟨#[]⟩) ∧ W.cell? ⟨w1.heap.size, 1, none⟩ = some (.int .i64 kc) ∧ W.cell? ⟨w1.heap.size, 2, none⟩ = some (.int .i64 kp) ∧ W.cell? ⟨w2.heap.size, 0, none⟩ = some (.int .i64 i) ∧ W.cell? ⟨w2.heap.size, 1, none⟩ = some (.int .i64 (wR c p i)) ∧ W.cell? ⟨w2.heap.size, 2, none⟩ = some (.int .i64 (wD c p i)) ∧ W.cell? ⟨w3.heap.size, 0, none⟩ = some (.int .i64 i) ∧ W.cell? ⟨w3.heap.size, 1, none⟩ = some (.int .i64 (wR c p i)) ∧ W.cell? ⟨w3.heap.size, 2, none⟩ = some (.int .i64 (wD c p i)) := by
    rintro W rfl
    exact ⟨b3.alloc (by omega) _, by simp, (World.cell?_alloc_lt _ _ _ hy3).trans C0, (World.cell?_alloc_lt _ _ _ hy3).trans C1, (World.cell?_alloc_lt _ _ _ hy3).trans C2,
      (World.cell?_alloc_lt _ _ _ hx3).trans D0, (World.cell?_alloc_lt _ _ _ hx3).trans D1, (World.cell?_alloc_lt _ _ _ hx3).trans D2,
      (World.cell?_alloc_lt _ _ _ hz3).trans F0, (World.cell?_alloc_lt _ _ _ hz3).trans F1, (World.cell?_alloc_lt _ _ _ hz3).trans F2,
      World.cell?_alloc_0 _ _ _ _ _, World.cell?_alloc_1 _ _ _ _ _, World.cell?_alloc_2 _ _ _ _ _⟩
  have K4 := KK _ rfl
  clear KK C0 C1 C2 D0 D1 D2 F0 F1 F2 b3
  generalize w3.alloc (.cells #[.int .i64 i, .int .i64 (wR c p i), .int .i64 (wD c p i)] 26) = w4 at *
  go_region_held3 (fun W => Below w.heap.size w W ∧ w3.heap.size + 1 ≤ W.heap.size ∧ W.cell? ⟨w.heap.size, 0, none⟩ = some (.string nm) ∧ W.cell? ⟨w.heap.size, 1, none⟩ = some (.int .i64 c) ∧ W.cell? ⟨w.heap.size, 2, none⟩ = some (.int .i64 p) ∧ W.cell? ⟨w1.heap.size, 0, none⟩ = some (.string ⟨#[]⟩) ∧ W.cell? ⟨w1.heap.size, 1, none⟩ = some (.int .i64 kc) ∧ W.cell? ⟨w1.heap.size, 2, none⟩ = some (.int .i64 kp) ∧ W.cell? ⟨w2.heap.size, 0, none⟩ = some (.int .i64 i) ∧ W.cell? ⟨w2.heap.size, 1, none⟩ = some (.int .i64 (wR c p i)) ∧ W.cell? ⟨w2.heap.size, 2, none⟩ = some (.int .i64 (wD c p i)) ∧ W.cell? ⟨w3.heap.size, 0, none⟩ = some (.int .i64 i) ∧ W.cell? ⟨w3.heap.size, 1, none⟩ = some (.int .i64 (wR c p i)) ∧ W.cell? ⟨w3.heap.size, 2, none⟩ = some (.int .i64 (wD c p i)))
    (first
      | assumption
      | exact ⟨K4.1.drew, K4.2⟩
      | exact keep12 (by assumption) (by assumption) (by omega) (by omega) (by omega) (by omega) (by omega))
    (first
      | (go_at_call 16; ((with_reducible refine (overlaps_any nm c p i _).mono ?_)); rintro e w5 ⟨rfl, hb5⟩)
      | (go_at_call 16; ((with_reducible refine (overlaps_any _ kc kp i _).mono ?_)); rintro e w5 ⟨rfl, hb5⟩; rw [EO.out])
      | (go_at_call 17; ((with_reducible refine (group_any nm c p i _).mono ?_)); rintro e w5 ⟨rfl, hb5⟩)
      | (go_at_call 17; ((with_reducible refine (group_any _ kc kp i _).mono ?_)); rintro e w5 ⟨rfl, hb5⟩; rw [EG.out])
      | (go_at_call 14; ((with_reducible refine (heavy_any nm c p _).mono ?_)); rintro e w5 ⟨rfl, hb5⟩)
      | (go_at_call 14; ((with_reducible refine (heavy_any _ kc kp _).mono ?_)); rintro e w5 ⟨rfl, hb5⟩; rw [EH.out]))
  all_goals
    go_wp2_with fail
    go_ret
    rename_i hH
    exact ⟨rfl, hH.1⟩

theorem law_scales (nm : ByteArray) (c p i b : Int) (hb0 : 0 ≤ b) (hb1 : b ≤ 255) (w : World) :
    Calls Try.prog 5 #[.agg #[.string nm, .int .i64 c, .int .i64 p], .int .i64 i, .int .u8 b] w fun e w' => e = .returned (.bool true) ∧ Below w.heap.size w w' := by
  by_cases h : 40 < p ∨ c < 1 ∨ p < c ∨ i < 1 ∨ c < i
  · exact law_scales_idle nm c p i b w h
  · exact law_scales_ok nm c p i b w (by omega) (by omega) (by omega) (by omega) (by omega) hb0 hb1
end Go.Proofs.Ytoiahkndabbklaa
