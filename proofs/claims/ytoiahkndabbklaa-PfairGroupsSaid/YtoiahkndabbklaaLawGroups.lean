/- The walk over PfairGroups. Conditions: none. -/
import Derived.Test.YtoiahkndabbklaaLawScales
namespace Go.Proofs.Ytoiahkndabbklaa
open Go.RowKit

section
variable {c p : Int}
theorem wD_mono {i : Int} (h : wE c p i = 0) (h' : wE c p (i + 1) = 0) : wD c p i ≤ wD c p (i + 1) := by
  obtain ⟨v1, v2, v3, hi, hj⟩ := wE0 h
  rw [wD_eq h, wD_eq h']
  refine Int.ediv_le_ediv (by omega) ?_
  rw [Int.add_mul]; omega
theorem grp_mono {i : Int} (hv : hvB c p = true) (h : wE c p i = 0) (h' : wE c p (i + 1) = 0) : grp c p i ≤ grp c p (i + 1) := by
  obtain ⟨a1, a2, a3, a4⟩ := grp_spec hv h
  obtain ⟨b1, b2, b3, b4⟩ := grp_spec hv h'
  have := wD_mono h h'
  by_cases hlt : grp c p (i + 1) < grp c p i
  · exact absurd b3 (a4 _ (by omega) hlt)
  · omega
theorem grp_end (hv : hvB c p = true) (h : wE c p c = 0) : grp c p c = p := by
  obtain ⟨v1, v2, v3, hi, hj⟩ := wE0 h
  obtain ⟨a1, a2, a3, a4⟩ := grp_spec hv h
  have e0 : c * p = p * c := Int.mul_comm _ _
  have e2 : wD c p c = p := by rw [wD_eq h]; exact (ceil_iff v1).2 (by omega)
  omega
end

set_option maxHeartbeats 1600000 in
theorem law_groups_idle (nm : ByteArray) (c p : Int) (w : World) (hq : 100 < p ∨ c < 1 ∨ p < c) :
    Calls Try.prog 6 #[.agg #[.string nm, .int .i64 c, .int .i64 p]] w fun e w' => e = .returned (.bool true) ∧ Below w.heap.size w w' := by
  go_enter Try.func6, Try.ntmps6
  go_wp2_with fail
  refine (awake_any _).mono ?_
  rintro e w1 ⟨rfl, hb1⟩
  obtain ⟨hc1, hf1⟩ := bcell hb1
  have b1 : Below w.heap.size w w1 := ((Below.refl _ _).alloc (Nat.le_refl _) _).trans (hb1.mono (by simp))
  by_cases h1 : 100 < p
  · go_wp2_with fail
    go_ret
    exact ⟨rfl, b1⟩
  · by_cases h2 : c < 1
    · go_wp2_with fail
      go_ret
      exact ⟨rfl, b1⟩
    · have h3 : p < c := by omega
      go_wp2_with fail
      go_ret
      exact ⟨rfl, b1⟩

/-- The last region: Heavy compared with its definition. -/
theorem hv_is {c p : Int} (hv : vtB c p = true) : hvB c p = (decide (c < p) && decide (p ≤ 2 * c)) := by simp [hvB, hv]

set_option maxRecDepth 100000 in
set_option maxHeartbeats 6400000 in
theorem law_groups_light (nm : ByteArray) (c p : Int) (w : World) (h1 : p ≤ 100) (h2 : 1 ≤ c) (h3 : c ≤ p) (hv : hvB c p = false) :
    Calls Try.prog 6 #[.agg #[.string nm, .int .i64 c, .int .i64 p]] w fun e w' => e = .returned (.bool true) ∧ Below w.heap.size w w' := by
  have hvt : vtB c p = true := by simp [vtB]; omega
  have HV := Lib.hid hvt
  have HH := Lib.hid hv
  have HL := Lib.hid (hv_is hvt)
  clear hvt hv
  go_enter Try.func6, Try.ntmps6
  go_wp2_with fail
  refine (awake_any _).mono ?_
  rintro e w1 ⟨rfl, hb1⟩
  obtain ⟨hc1, hf1⟩ := bcell hb1
  have hz1 : w.heap.size < w1.heap.size := by have := hb1.size; simp at this; omega
  have b1 : Below w.heap.size w w1 := ((Below.refl _ _).alloc (Nat.le_refl _) _).trans (hb1.mono (by simp))
  have a0 : w1.cell? ⟨w.heap.size, 0, none⟩ = some (.string nm) := by rw [hc1 _ _ (by simp)]; simp [go_sem]
  have a1 : w1.cell? ⟨w.heap.size, 1, none⟩ = some (.int .i64 c) := by rw [hc1 _ _ (by simp)]; simp [go_sem]
  have a2 : w1.cell? ⟨w.heap.size, 2, none⟩ = some (.int .i64 p) := by rw [hc1 _ _ (by simp)]; simp [go_sem]
  have K := Lib.hid (⟨b1, hz1, a0, a1, a2⟩ : Below w.heap.size w w1 ∧ w.heap.size < w1.heap.size ∧ w1.cell? ⟨w.heap.size, 0, none⟩ = some (.string nm) ∧ w1.cell? ⟨w.heap.size, 1, none⟩ = some (.int .i64 c) ∧ w1.cell? ⟨w.heap.size, 2, none⟩ = some (.int .i64 p))
  clear hc1 hf1 hb1 b1
  go_wp2_with fail
  clear a0 a1 a2
  go_loopw [3, 4] (fun u v wr => ∃ i : Int, u = .int .i64 0 ∧ v = .int .i64 i ∧ 1 ≤ i ∧ i ≤ c + 1 ∧
      Hid (Below w.heap.size w wr ∧ w.heap.size < wr.heap.size ∧ wr.cell? ⟨w.heap.size, 0, none⟩ = some (.string nm) ∧ wr.cell? ⟨w.heap.size, 1, none⟩ = some (.int .i64 c) ∧ wr.cell? ⟨w.heap.size, 2, none⟩ = some (.int .i64 p))) (fun _ v _ => (c + 1 - intOf v).toNat)
  case atStart => exact ⟨1, rfl, rfl, by omega, by omega, K⟩
  case round =>
    clear K
    obtain ⟨i, rfl, rfl, i1, i2, K⟩ := hrel
    obtain ⟨k0, k1, k2, k3, k4⟩ := K.out
    by_cases hic : i ≤ c
    · have HE := Lib.hid (wE_ok HV.out i1 hic)
      have HG := Lib.hid (grp_light (i := i) HH.out)
      go_wp2_with fail
      refine (group_any nm c p i _).mono ?_
      rintro e w2 ⟨rfl, hb2⟩
      rw [HG.out]
      have q := keep5 K.out hb2
      have Q := Lib.hid q
      clear k0 k1 k2 k3 k4 hb2
      obtain ⟨k0, k1, k2, k3, k4⟩ := q
      go_wp2_with fail
      refine (window_any nm c p i _).mono ?_
      rintro e w3 ⟨rfl, hb3⟩
      rw [HE.out]
      have q := keep5 Q.out hb3
      clear Q
      have Q := Lib.hid q
      clear k0 k1 k2 k3 k4 hb3
      obtain ⟨k0, k1, k2, k3, k4⟩ := q
      go_wp2_with fail
      refine (heavy_any nm c p _).mono ?_
      rintro e w4 ⟨rfl, hb4⟩
      rw [HH.out]
      have q := keep5a Q.out hb4
      go_wp2_with fail
      go_roundw
      case rel => exact ⟨i + 1, rfl, rfl, by omega, by omega, q⟩
      case measure => simp [intOf]; omega
    · have hw2 : IntKind.i64.wrap (2 * c) = 2 * c := IntWalk.i64_in _ (by omega)
      by_cases hcp : c < p
      · have hd : decide (c < p) = true := by simp [hcp]
        have he : (hvB c p == decide (p ≤ 2 * c)) = true := by rw [HL.out]; simp [hcp]
        go_wp2_with fail
        go_region_held3 (fun W => Below w.heap.size w W ∧ w.heap.size < W.heap.size ∧ W.cell? ⟨w.heap.size, 0, none⟩ = some (.string nm) ∧ W.cell? ⟨w.heap.size, 1, none⟩ = some (.int .i64 c) ∧ W.cell? ⟨w.heap.size, 2, none⟩ = some (.int .i64 p))
          (first | assumption | exact ⟨k0.drew, k1, k2, k3, k4⟩ | exact keep5 (by assumption) (by assumption))
          (first
            | (go_at_call 14; (with_reducible refine (heavy_any nm c p _).mono ?_); rintro e w5 ⟨rfl, hb5⟩))
        all_goals
          go_wp2_with fail
          go_ret
          rename_i hH
          exact ⟨rfl, hH.1⟩
      · have hd : decide (c < p) = false := by simp [hcp]
        have he : (hvB c p == false) = true := by rw [HL.out]; simp [hcp]
        go_wp2_with fail
        refine wp_region_quiet (C := fun W => Below w.heap.size w W ∧ w.heap.size < W.heap.size ∧ W.cell? ⟨w.heap.size, 0, none⟩ = some (.string nm) ∧ W.cell? ⟨w.heap.size, 1, none⟩ = some (.int .i64 c) ∧ W.cell? ⟨w.heap.size, 2, none⟩ = some (.int .i64 p))
          (by kernel_rfl) (by kernel_rfl) ⟨k0.drew, k1, k2, k3, k4⟩ ?_
        repeat (
          refine wpQuiet_step (fun K hK => ?_)
          go_simp
          first
            | (refine hK _ ?_; clear hK K)
            | (apply Exists.intro
               refine ⟨fun W q0 q1 q2 q3 q4 => ?_, hK _ ?_⟩
               (first
                 | rfl
                 | (go_simp; rfl)
                 | (go_at_call 14; ((with_reducible refine (heavy_any nm c p _).mono ?_)); rintro e w5 ⟨rfl, hb5⟩; exact ⟨rfl, keep5 ⟨q0, q1, q2, q3, q4⟩ hb5⟩))
               clear hK K))
        refine wpQuiet_nil ?_
        intro W hW
        go_wp2_with fail
        go_ret
        exact ⟨rfl, hW.1⟩

set_option maxRecDepth 100000 in
set_option maxHeartbeats 6400000 in
theorem law_groups_heavy (nm : ByteArray) (c p : Int) (w : World) (h1 : p ≤ 100) (h2 : 1 ≤ c) (h3 : c ≤ p) (hv : hvB c p = true) :
    Calls Try.prog 6 #[.agg #[.string nm, .int .i64 c, .int .i64 p]] w fun e w' => e = .returned (.bool true) ∧ Below w.heap.size w w' := by
  have hvt : vtB c p = true := by simp [vtB]; omega
  have HV := Lib.hid hvt
  have HH := Lib.hid hv
  have HL := Lib.hid (hv_is hvt)
  obtain ⟨_, hcp, _, _⟩ := hv_bd hv
  clear hvt hv
  go_enter Try.func6, Try.ntmps6
  go_wp2_with fail
  refine (awake_any _).mono ?_
  rintro e w1 ⟨rfl, hb1⟩
  obtain ⟨hc1, hf1⟩ := bcell hb1
  have hz1 : w.heap.size < w1.heap.size := by have := hb1.size; simp at this; omega
  have b1 : Below w.heap.size w w1 := ((Below.refl _ _).alloc (Nat.le_refl _) _).trans (hb1.mono (by simp))
  have a0 : w1.cell? ⟨w.heap.size, 0, none⟩ = some (.string nm) := by rw [hc1 _ _ (by simp)]; simp [go_sem]
  have a1 : w1.cell? ⟨w.heap.size, 1, none⟩ = some (.int .i64 c) := by rw [hc1 _ _ (by simp)]; simp [go_sem]
  have a2 : w1.cell? ⟨w.heap.size, 2, none⟩ = some (.int .i64 p) := by rw [hc1 _ _ (by simp)]; simp [go_sem]
  have K := Lib.hid (⟨b1, hz1, a0, a1, a2⟩ : Below w.heap.size w w1 ∧ w.heap.size < w1.heap.size ∧ w1.cell? ⟨w.heap.size, 0, none⟩ = some (.string nm) ∧ w1.cell? ⟨w.heap.size, 1, none⟩ = some (.int .i64 c) ∧ w1.cell? ⟨w.heap.size, 2, none⟩ = some (.int .i64 p))
  clear hc1 hf1 hb1 b1
  go_wp2_with fail
  clear a0 a1 a2
  go_loopw [3, 4] (fun u v wr => ∃ L i : Int, u = .int .i64 L ∧ v = .int .i64 i ∧ 1 ≤ i ∧ i ≤ c + 1 ∧ Hid (i ≤ c → L ≤ grp c p i) ∧
      Hid (Below w.heap.size w wr ∧ w.heap.size < wr.heap.size ∧ wr.cell? ⟨w.heap.size, 0, none⟩ = some (.string nm) ∧ wr.cell? ⟨w.heap.size, 1, none⟩ = some (.int .i64 c) ∧ wr.cell? ⟨w.heap.size, 2, none⟩ = some (.int .i64 p))) (fun _ v _ => (c + 1 - intOf v).toNat)
  case atStart =>
    refine ⟨0, 1, rfl, rfl, by omega, by omega, fun h => ?_, K⟩
    have hE := wE_ok HV.out (Int.le_refl 1) h
    have := (grp_spec HH.out hE).1
    have := (wD_bd hE).1
    omega
  case round =>
    clear K
    obtain ⟨L, i, rfl, rfl, i1, i2, hL, K⟩ := hrel
    obtain ⟨k0, k1, k2, k3, k4⟩ := K.out
    by_cases hic : i ≤ c
    · have HE := Lib.hid (wE_ok HV.out i1 hic)
      have HI := Lib.hid (show wI c p i = i by simp [wI, HE.out])
      have g1 := hL.out hic
      obtain ⟨g2, g3, _, _⟩ := grp_spec HH.out HE.out
      have HM := Lib.hid (fun h : i + 1 ≤ c => grp_mono HH.out HE.out (wE_ok HV.out (by omega) h))
      have HN := Lib.hid (fun h : i = c => show grp c p i = p by subst h; exact grp_end HH.out HE.out)
      clear hL
      go_wp2_with fail
      refine (group_any nm c p i _).mono ?_
      rintro e w2 ⟨rfl, hb2⟩
      have q := keep5 K.out hb2
      have Q := Lib.hid q
      clear k0 k1 k2 k3 k4 hb2
      obtain ⟨k0, k1, k2, k3, k4⟩ := q
      go_wp2_with fail
      refine (window_any nm c p i _).mono ?_
      rintro e w3 ⟨rfl, hb3⟩
      rw [HE.out, HI.out]
      have q := keep5 Q.out hb3
      clear Q
      have Q := Lib.hid q
      clear k0 k1 k2 k3 k4 hb3
      obtain ⟨k0, k1, k2, k3, k4⟩ := q
      go_wp2_with fail
      refine (heavy_any nm c p _).mono ?_
      rintro e w4 ⟨rfl, hb4⟩
      rw [HH.out]
      obtain ⟨hc4, hf4⟩ := bcell hb4
      have d2 := (hc4 w3.heap.size 2 (by simp)).trans (World.cell?_alloc_2 w3 _ _ _ _)
      clear hc4 hf4
      have q := keep5a Q.out hb4
      have Q4 := Lib.hid q
      clear k0 k1 k2 k3 k4 hb4
      obtain ⟨k0, k1, k2, k3, k4⟩ := q
      generalize hG : grp c p i = G at *
      have HG := Lib.hid hG
      clear hG
      by_cases hx : i = c
      · have e1 : (i == c) = true := by simp [hx]
        have e2 : (G != p) = false := by simp [HN.out hx]
        clear hx
        go_wp2_with fail
        go_roundw
        case rel => exact ⟨G, i + 1, rfl, rfl, by omega, by omega, fun h => HM.out h, Q4.out⟩
        case measure => simp [intOf]; omega
      · have e1 : (i == c) = false := by simp [hx]
        clear hx
        go_wp2_with fail
        go_roundw
        case rel => exact ⟨G, i + 1, rfl, rfl, by omega, by omega, fun h => HM.out h, Q4.out⟩
        case measure => simp [intOf]; omega
    · have hw2 : IntKind.i64.wrap (2 * c) = 2 * c := IntWalk.i64_in _ (by omega)
      have hd : decide (c < p) = true := by simp [hcp]
      have he : (hvB c p == decide (p ≤ 2 * c)) = true := by rw [HL.out]; simp [hcp]
      go_wp2_with fail
      go_region_held3 (fun W => Below w.heap.size w W ∧ w.heap.size < W.heap.size ∧ W.cell? ⟨w.heap.size, 0, none⟩ = some (.string nm) ∧ W.cell? ⟨w.heap.size, 1, none⟩ = some (.int .i64 c) ∧ W.cell? ⟨w.heap.size, 2, none⟩ = some (.int .i64 p))
        (first | assumption | exact ⟨k0.drew, k1, k2, k3, k4⟩ | exact keep5 (by assumption) (by assumption))
        (first
          | (go_at_call 14; (with_reducible refine (heavy_any nm c p _).mono ?_); rintro e w5 ⟨rfl, hb5⟩))
      all_goals
        go_wp2_with fail
        go_ret
        rename_i hH
        exact ⟨ret_bool HH.out, hH.1⟩

theorem law_groups (nm : ByteArray) (c p : Int) (w : World) :
    Calls Try.prog 6 #[.agg #[.string nm, .int .i64 c, .int .i64 p]] w fun e w' => e = .returned (.bool true) ∧ Below w.heap.size w w' := by
  by_cases h : 100 < p ∨ c < 1 ∨ p < c
  · exact law_groups_idle nm c p w h
  · cases hv : hvB c p
    · exact law_groups_light nm c p w (by omega) (by omega) (by omega) hv
    · exact law_groups_heavy nm c p w (by omega) (by omega) (by omega) hv
end Go.Proofs.Ytoiahkndabbklaa
