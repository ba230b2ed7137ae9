/- The walk over PfairWindow. Conditions: none. -/
import Derived.Test.YtoiahkndabbklaaAwake
namespace Go.Proofs.Ytoiahkndabbklaa
open Go.RowKit

theorem keep_cell {w w' : World} {b o : Nat} {v : Value} (hb : Below w.heap.size w w') (hlt : b < w.heap.size) (h : w.cell? ⟨b, o, none⟩ = some v) : w'.cell? ⟨b, o, none⟩ = some v :=
  (hb.cell (p := ⟨b, o, none⟩) hlt).trans h

theorem keep8 {B N b1 b2 : Nat} {w W W' : World} {x0 x1 x2 y0 y1 y2 : Value} (h : Below B w W ∧ N ≤ W.heap.size ∧ W.cell? ⟨b1, 0, none⟩ = some x0 ∧ W.cell? ⟨b1, 1, none⟩ = some x1 ∧ W.cell? ⟨b1, 2, none⟩ = some x2 ∧
     W.cell? ⟨b2, 0, none⟩ = some y0 ∧ W.cell? ⟨b2, 1, none⟩ = some y1 ∧ W.cell? ⟨b2, 2, none⟩ = some y2) (hb : Below W.heap.size W W') (h1 : b1 < N) (h2 : b2 < N) (hB : B ≤ N) :
    Below B w W' ∧ N ≤ W'.heap.size ∧ W'.cell? ⟨b1, 0, none⟩ = some x0 ∧ W'.cell? ⟨b1, 1, none⟩ = some x1 ∧ W'.cell? ⟨b1, 2, none⟩ = some x2 ∧
     W'.cell? ⟨b2, 0, none⟩ = some y0 ∧ W'.cell? ⟨b2, 1, none⟩ = some y1 ∧ W'.cell? ⟨b2, 2, none⟩ = some y2 := by
  obtain ⟨g0, g1, g2, g3, g4, g5, g6, g7⟩ := h
  exact ⟨g0.trans (hb.mono (by omega)), Nat.le_trans g1 hb.size, keep_cell hb (by omega) g2, keep_cell hb (by omega) g3, keep_cell hb (by omega) g4, keep_cell hb (by omega) g5, keep_cell hb (by omega) g6, keep_cell hb (by omega) g7⟩

theorem keep5 {B b1 : Nat} {w W W' : World} {x0 x1 x2 : Value} (h : Below B w W ∧ b1 < W.heap.size ∧ W.cell? ⟨b1, 0, none⟩ = some x0 ∧ W.cell? ⟨b1, 1, none⟩ = some x1 ∧ W.cell? ⟨b1, 2, none⟩ = some x2) (hb : Below W.heap.size W W') (hB : B ≤ b1 := by exact Nat.le_refl _) :
    Below B w W' ∧ b1 < W'.heap.size ∧ W'.cell? ⟨b1, 0, none⟩ = some x0 ∧ W'.cell? ⟨b1, 1, none⟩ = some x1 ∧ W'.cell? ⟨b1, 2, none⟩ = some x2 := by
  obtain ⟨g0, g1, g2, g3, g4⟩ := h
  exact ⟨g0.trans (hb.mono (by omega)), Nat.lt_of_lt_of_le g1 hb.size, keep_cell hb g1 g2, keep_cell hb g1 g3, keep_cell hb g1 g4⟩
theorem DrewTo.below {w w' : World} (h : DrewTo w w') : Below w.heap.size w w' := by
  obtain ⟨k, rfl⟩ := h; exact below_drewN (Below.refl _ _) _

set_option maxHeartbeats 1600000 in
theorem law_window_ok (nm : ByteArray) (c p i : Int) (w : World) (hE : wE c p i = 0) :
    Calls Try.prog 3 #[.agg #[.string nm, .int .i64 c, .int .i64 p], .int .i64 i] w fun e w' => e = .returned (.bool true) ∧ Below w.heap.size w w' := by
  obtain ⟨v1, v2, v3, hi, hj⟩ := wE0 hE
  have hv : vtB c p = true := by simp [vtB]; omega
  have hI : wI c p i = i := by simp [wI, hE]
  have HE := Lib.hid hE
  have HV := Lib.hid hv
  have HI := Lib.hid hI
  have hn : (hvB c p != hvB c p) = false := by simp
  have ho : (ovB c p i != ovB c p i) = false := by simp
  have hgg : (grp c p i == grp c p i) = true := by simp
  clear hE hv hI
  go_enter Try.func3, Try.ntmps3
  go_wp2_with fail
  refine (awake_any _).mono ?_
  rintro e w1 ⟨rfl, hb1⟩
  obtain ⟨hc1, hf1⟩ := bcell hb1
  have hz1 : w.heap.size < w1.heap.size := by have := hb1.size; simp at this; omega
  have a0 : w1.cell? ⟨w.heap.size, 0, none⟩ = some (.string nm) := by rw [hc1 _ _ (by simp)]; simp [go_sem]
  have a1 : w1.cell? ⟨w.heap.size, 1, none⟩ = some (.int .i64 c) := by rw [hc1 _ _ (by simp)]; simp [go_sem]
  have a2 : w1.cell? ⟨w.heap.size, 2, none⟩ = some (.int .i64 p) := by rw [hc1 _ _ (by simp)]; simp [go_sem]
  have b1 : Below w.heap.size w w1 := ((Below.refl _ _).alloc (Nat.le_refl _) _).trans (hb1.mono (by simp))
  clear hc1 hf1 hb1
  go_wp2_with fail
  refine (window_any nm c p i _).mono ?_
  rintro e w2 ⟨rfl, hb2⟩
  rw [HE.out, HI.out]
  have hz2 : w.heap.size < w2.heap.size := by have := hb2.size; omega
  have a0' := keep_cell hb2 hz1 a0
  have a1' := keep_cell hb2 hz1 a1
  have a2' := keep_cell hb2 hz1 a2
  have b2 : Below w.heap.size w w2 := b1.trans (hb2.mono (by omega))
  clear a0 a1 a2 b1 hb2 hz1
  go_wp2_with fail
  refine (rvalid_any c p _).mono ?_
  rintro e w' ⟨rfl, rfl⟩
  rw [HV.out]
  go_wp2_with fail
  refine (heavy_any nm c p _).mono ?_
  rintro e w3 ⟨rfl, hb3⟩
  obtain ⟨hc3, hf3⟩ := bcell hb3
  have hz3 : w2.heap.size < w3.heap.size := by have := hb3.size; simp at this; omega
  have hy3 : w.heap.size < w3.heap.size := by omega
  have c0 : w3.cell? ⟨w.heap.size, 0, none⟩ = some (.string nm) := by rw [hc3 _ _ (by simp; omega), World.cell?_alloc_lt _ _ _ hz2]; exact a0'
  have c1 : w3.cell? ⟨w.heap.size, 1, none⟩ = some (.int .i64 c) := by rw [hc3 _ _ (by simp; omega), World.cell?_alloc_lt _ _ _ hz2]; exact a1'
  have c2 : w3.cell? ⟨w.heap.size, 2, none⟩ = some (.int .i64 p) := by rw [hc3 _ _ (by simp; omega), World.cell?_alloc_lt _ _ _ hz2]; exact a2'
  have d0 : w3.cell? ⟨w2.heap.size, 0, none⟩ = some (.int .i64 i) := by rw [hc3 _ _ (by simp)]; simp [go_sem]
  have d1 : w3.cell? ⟨w2.heap.size, 1, none⟩ = some (.int .i64 (wR c p i)) := by rw [hc3 _ _ (by simp)]; simp [go_sem]
  have d2 : w3.cell? ⟨w2.heap.size, 2, none⟩ = some (.int .i64 (wD c p i)) := by rw [hc3 _ _ (by simp)]; simp [go_sem]
  have b3 : Below w.heap.size w w3 := b2.trans (((Below.refl w.heap.size w2).alloc (by omega) _).trans (hb3.mono (by simp; omega)))
  clear hc3 hf3 hb3 a0' a1' a2' b2 
  go_wp2_with fail
  refine (rheavy_any c p _ HV.out).mono ?_
  rintro e w' ⟨rfl, rfl⟩
  go_wp2_with fail
  refine (rwindow_any c p i _ HE.out).mono ?_
  rintro e w' ⟨rfl, k0, rfl⟩
  go_wp2_with fail
  have B3 := below_drewN b3 k0
  go_region_held3 (fun W => Below w.heap.size w W ∧ w3.heap.size ≤ W.heap.size ∧ W.cell? ⟨w.heap.size, 0, none⟩ = some (.string nm) ∧ W.cell? ⟨w.heap.size, 1, none⟩ = some (.int .i64 c) ∧ W.cell? ⟨w.heap.size, 2, none⟩ = some (.int .i64 p) ∧
     W.cell? ⟨w2.heap.size, 0, none⟩ = some (.int .i64 i) ∧ W.cell? ⟨w2.heap.size, 1, none⟩ = some (.int .i64 (wR c p i)) ∧ W.cell? ⟨w2.heap.size, 2, none⟩ = some (.int .i64 (wD c p i)))
    (first
      | exact ⟨(below_drewN b3 k0).drew, Nat.le_refl _, c0, c1, c2, d0, d1, d2⟩
      | assumption
      | exact keep8 (by assumption) (by assumption) hy3 hz3 (by omega))
    (first
      | (go_at_call 19; refine (roverlaps_any c p i _ HE.out).mono ?_; rintro e w' ⟨rfl, rfl⟩)
      | (go_at_call 16; refine (overlaps_any nm c p i _).mono ?_; rintro e w4 ⟨rfl, hb4⟩))
  obtain ⟨q0, q1, q2, q3, q4, q5, q6, q7⟩ : Below w.heap.size w w4 ∧ w3.heap.size ≤ w4.heap.size ∧ w4.cell? ⟨w.heap.size, 0, none⟩ = some (.string nm) ∧ w4.cell? ⟨w.heap.size, 1, none⟩ = some (.int .i64 c) ∧ w4.cell? ⟨w.heap.size, 2, none⟩ = some (.int .i64 p) ∧
     w4.cell? ⟨w2.heap.size, 0, none⟩ = some (.int .i64 i) ∧ w4.cell? ⟨w2.heap.size, 1, none⟩ = some (.int .i64 (wR c p i)) ∧ w4.cell? ⟨w2.heap.size, 2, none⟩ = some (.int .i64 (wD c p i)) := by assumption
  clear c0 c1 c2 d0 d1 d2 b3 B3 hb4
  have hy4 : w.heap.size < w4.heap.size := by omega
  by_cases hp : 120 < p
  · have hpd : decide (120 < p) = true := by simp [hp]
    go_wp2_with fail
    go_quiet (fail)
    go_wp2_with fail
    go_ret
    exact ⟨rfl, below_drewN q0 _⟩
  · have hpd : decide (120 < p) = false := by simp [hp]
    go_wp2_with fail
    go_region_held3 (fun W => Below w.heap.size w W ∧ w.heap.size < W.heap.size ∧ W.cell? ⟨w.heap.size, 0, none⟩ = some (.string nm) ∧ W.cell? ⟨w.heap.size, 1, none⟩ = some (.int .i64 c) ∧ W.cell? ⟨w.heap.size, 2, none⟩ = some (.int .i64 p))
      (first | exact ⟨q0.drew, hy4, q2, q3, q4⟩ | assumption | exact keep5 (by assumption) (by assumption))
      (first
        | (go_at_call 20; refine (rgroup_any c p i _ HE.out).mono ?_; rintro e w' ⟨rfl, hb5⟩; have hb5 := DrewTo.below hb5)
        | (go_at_call 17; refine (group_any nm c p i _).mono ?_; rintro e w5 ⟨rfl, hb5⟩))
    all_goals
      go_wp2_with fail
      go_ret
      rename_i hH
      exact ⟨rfl, hH.1⟩

theorem law_window_inv (nm : ByteArray) (c p i : Int) (w : World) (hv : vtB c p = false) :
    Calls Try.prog 3 #[.agg #[.string nm, .int .i64 c, .int .i64 p], .int .i64 i] w fun e w' => e = .returned (.bool true) ∧ Below w.heap.size w w' := by
  have hE : wE c p i = 1 := wE_inv hv
  have hI : wI c p i = 0 := by simp [wI, hE]
  have hR : wR c p i = 0 := by simp [wR, hE]
  have hD : wD c p i = 0 := by simp [wD, hE]
  have hH : hvB c p = false := by simp [hvB, hv]
  have hO : ovB c p i = false := by simp [ovB, hE]
  have hG : grp c p i = 0 := grp_err (by omega)
  have HV := Lib.hid hv
  clear hv
  go_enter Try.func3, Try.ntmps3
  go_wp2_with fail
  refine (awake_any _).mono ?_
  rintro e w1 ⟨rfl, hb1⟩
  obtain ⟨hc1, hf1⟩ := bcell hb1
  have hz1 : w.heap.size < w1.heap.size := by have := hb1.size; simp at this; omega
  have b1 : Below w.heap.size w w1 := ((Below.refl _ _).alloc (Nat.le_refl _) _).trans (hb1.mono (by simp))
  go_wp2_with fail
  refine (window_any nm c p i _).mono ?_
  rintro e w2 ⟨rfl, hb2⟩
  rw [hE, hI, hR, hD]
  obtain ⟨hc2, hf2⟩ := bcell hb2
  have hz2 : w.heap.size < w2.heap.size := by have := hb2.size; omega
  have b2 : Below w.heap.size w w2 := b1.trans (hb2.mono (by omega))
  go_wp2_with fail
  refine (rvalid_any c p _).mono ?_
  rintro e w' ⟨rfl, rfl⟩
  rw [HV.out]
  go_wp2_with fail
  refine (heavy_any nm c p _).mono ?_
  rintro e w3 ⟨rfl, hb3⟩
  rw [hH]
  obtain ⟨hc3, hf3⟩ := bcell hb3
  have hz3 : w2.heap.size < w3.heap.size := by have := hb3.size; simp at this; omega
  have hy3 : w.heap.size < w3.heap.size := by omega
  have b3 : Below w.heap.size w w3 := b2.trans (((Below.refl w.heap.size w2).alloc (by omega) _).trans (hb3.mono (by simp; omega)))
  go_wp2_with fail
  refine (overlaps_any nm c p i _).mono ?_
  rintro e w4 ⟨rfl, hb4⟩
  rw [hO]
  obtain ⟨hc4, hf4⟩ := bcell hb4
  have hy4 : w.heap.size < w4.heap.size := by have := hb4.size; omega
  have b4 : Below w.heap.size w w4 := b3.trans (hb4.mono (by omega))
  go_wp2_with fail
  refine (group_any nm c p i _).mono ?_
  rintro e w5 ⟨rfl, hb5⟩
  rw [hG]
  go_wp2_with fail
  go_ret
  exact ⟨rfl, b4.trans (hb5.mono (by omega))⟩

set_option maxHeartbeats 1600000 in
theorem law_window_out (nm : ByteArray) (c p i : Int) (w : World) (hv : vtB c p = true) (hi : ¬ (1 ≤ i ∧ i ≤ c)) :
    Calls Try.prog 3 #[.agg #[.string nm, .int .i64 c, .int .i64 p], .int .i64 i] w fun e w' => e = .returned (.bool true) ∧ Below w.heap.size w w' := by
  have hE : wE c p i = 2 := wE_out hv hi
  have hI : wI c p i = 0 := by simp [wI, hE]
  have hR : wR c p i = 0 := by simp [wR, hE]
  have hD : wD c p i = 0 := by simp [wD, hE]
  have hO : ovB c p i = false := by simp [ovB, hE]
  have hG : grp c p i = 0 := grp_err (by omega)
  have hn : (hvB c p != hvB c p) = false := by simp
  have HV := Lib.hid hv
  clear hv
  have hi2 : i < 1 ∨ (1 ≤ i ∧ c < i) := by omega
  clear hi
  go_enter Try.func3, Try.ntmps3
  go_wp2_with fail
  refine (awake_any _).mono ?_
  rintro e w1 ⟨rfl, hb1⟩
  obtain ⟨hc1, hf1⟩ := bcell hb1
  have hz1 : w.heap.size < w1.heap.size := by have := hb1.size; simp at this; omega
  have b1 : Below w.heap.size w w1 := ((Below.refl _ _).alloc (Nat.le_refl _) _).trans (hb1.mono (by simp))
  go_wp2_with fail
  refine (window_any nm c p i _).mono ?_
  rintro e w2 ⟨rfl, hb2⟩
  rw [hE, hI, hR, hD]
  obtain ⟨hc2, hf2⟩ := bcell hb2
  have hz2 : w.heap.size < w2.heap.size := by have := hb2.size; omega
  have b2 : Below w.heap.size w w2 := b1.trans (hb2.mono (by omega))
  go_wp2_with fail
  refine (rvalid_any c p _).mono ?_
  rintro e w' ⟨rfl, rfl⟩
  rw [HV.out]
  go_wp2_with fail
  refine (heavy_any nm c p _).mono ?_
  rintro e w3 ⟨rfl, hb3⟩
  obtain ⟨hc3, hf3⟩ := bcell hb3
  have hz3 : w2.heap.size < w3.heap.size := by have := hb3.size; simp at this; omega
  have hy3 : w.heap.size < w3.heap.size := by omega
  have b3 : Below w.heap.size w w3 := b2.trans (((Below.refl w.heap.size w2).alloc (by omega) _).trans (hb3.mono (by simp; omega)))
  go_wp2_with fail
  refine (rheavy_any c p _ HV.out).mono ?_
  rintro e w' ⟨rfl, rfl⟩
  rcases hi2 with hi2 | ⟨hi2, hi3⟩
  all_goals
    go_wp2_with fail
    refine (overlaps_any nm c p i _).mono ?_
    rintro e w4 ⟨rfl, hb4⟩
    rw [hO]
    obtain ⟨hc4, hf4⟩ := bcell hb4
    have hy4 : w.heap.size < w4.heap.size := by have := hb4.size; omega
    have b4 : Below w.heap.size w w4 := b3.trans (hb4.mono (by omega))
    go_wp2_with fail
    refine (group_any nm c p i _).mono ?_
    rintro e w5 ⟨rfl, hb5⟩
    rw [hG]
    go_wp2_with fail
    go_ret
    exact ⟨rfl, b4.trans (hb5.mono (by omega))⟩

theorem law_window (nm : ByteArray) (c p i : Int) (w : World) :
    Calls Try.prog 3 #[.agg #[.string nm, .int .i64 c, .int .i64 p], .int .i64 i] w fun e w' => e = .returned (.bool true) ∧ Below w.heap.size w w' := by
  rcases wE_cases c p i with ⟨_, hv⟩ | ⟨_, hv, hi⟩ | ⟨hE, _⟩
  · exact law_window_inv nm c p i w hv
  · exact law_window_out nm c p i w hv hi
  · exact law_window_ok nm c p i w hE
end Go.Proofs.Ytoiahkndabbklaa
