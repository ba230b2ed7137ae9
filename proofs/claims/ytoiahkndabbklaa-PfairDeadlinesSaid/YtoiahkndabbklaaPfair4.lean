/- The walk over pfair.Group. Conditions: none. -/
import Derived.Test.YtoiahkndabbklaaPfair3
import Derived.Laws.EntriesVeiled
namespace Go.Proofs.Ytoiahkndabbklaa
open Go.RowKit

/-- The group deadline in closed form. -/
def grp (c p i : Int) : Int := if wE c p i = 0 ∧ hvB c p = true then endN p (p - c) ((wD c p i - 1) * (p - c) / p + 1) else 0
theorem grp_err {c p i : Int} (h : ¬ wE c p i = 0) : grp c p i = 0 := by simp [grp, h]
theorem grp_light {c p i : Int} (h : hvB c p = false) : grp c p i = 0 := by simp [grp, h]
theorem hv_bd {c p : Int} (h : hvB c p = true) : 1 ≤ c ∧ c < p ∧ p ≤ 1000 ∧ p ≤ 2 * c := by
  simp only [hvB, Bool.and_eq_true, decide_eq_true_eq] at h
  obtain ⟨⟨h1, h2⟩, h3⟩ := h
  obtain ⟨a, b, c⟩ := vtB_true h1
  exact ⟨a, h2, c, h3⟩

theorem wD_bd {c p i : Int} (h : wE c p i = 0) : 1 ≤ wD c p i ∧ wD c p i ≤ p := by
  obtain ⟨v1, v2, v3, hi, hj⟩ := wE0 h
  have e : wD c p i = (i * p + c - 1) / c := by simp [wD, h]
  rw [e]
  have h1 : p ≤ i * p := by
    calc p = 1 * p := by omega
      _ ≤ i * p := Int.mul_le_mul_of_nonneg_right hi (by omega)
  have h2 : i * p ≤ c * p := Int.mul_le_mul_of_nonneg_right hj (by omega)
  constructor
  · rw [Int.le_ediv_iff_mul_le (by omega)]; omega
  · have : (i * p + c - 1) / c ≤ (p * c + (c - 1)) / c := Int.ediv_le_ediv (by omega) (by rw [Int.mul_comm p c]; omega)
    have e2 : (p * c + (c - 1)) / c = p := by
      rw [Int.add_comm, Int.add_mul_ediv_right _ _ (by omega), Int.ediv_eq_zero_of_lt (by omega) (by omega)]; omega
    omega

/-- What the search finds is the closed form. -/
theorem search_is {p g d r : Int} (hp : 1 ≤ p) (hg : 1 ≤ g) (hgp : g ≤ p) (hd : 1 ≤ d) (hdp : d ≤ p) (h0 : 0 ≤ r) (hN : r ≤ g - 1) (hlo : r = 0 ∨ endN p g r < d) (hhi : r = g - 1 ∨ d ≤ endN p g (r + 1)) :
    r = (d - 1) * g / p := by
  have key : ∀ m : Int, d ≤ endN p g m ↔ (d - 1) * g < m * p := by
    intro m
    unfold endN
    rw [Int.le_ediv_iff_mul_le (by omega)]
    have : (d - 1) * g = d * g - g := by rw [Int.sub_mul]; omega
    omega
  have h1 : r * p ≤ (d - 1) * g := by
    rcases hlo with rfl | h
    · have : 0 ≤ (d - 1) * g := Int.mul_nonneg (by omega) (by omega)
      omega
    · have := key r
      omega
  have h2 : (d - 1) * g < (r + 1) * p := by
    rcases hhi with rfl | h
    · have e : (g - 1 + 1) * p = g * p := by congr 1; omega
      rw [e, Int.mul_comm g p]
      exact Int.mul_lt_mul_of_pos_right (by omega) (by omega)
    · exact (key (r + 1)).1 h
  have h3 : r ≤ (d - 1) * g / p := (Int.le_ediv_iff_mul_le (by omega)).2 h1
  have h4 : (d - 1) * g / p < r + 1 := (Int.ediv_lt_iff_lt_mul (by omega)).2 h2
  omega

/-- pfair.Group. -/
theorem group_any (nm : ByteArray) (c p i : Int) (w : World) :
    Calls Try.prog 17 #[.agg #[.string nm, .int .i64 c, .int .i64 p], .int .i64 i] w fun e w' => e = .returned (.int .i64 (grp c p i)) ∧ Below w.heap.size w w' := by
  by_cases hE : wE c p i = 0
  · by_cases hv : hvB c p = true
    · obtain ⟨v1, v2, v3, v4⟩ := hv_bd hv
      obtain ⟨d1, d2⟩ := wD_bd hE
      have hr : (wE c p i != 0) = false := by simp [hE]
      have hfin : grp c p i = endN p (p - c) ((wD c p i - 1) * (p - c) / p + 1) := by simp [grp, hE, hv]
      have H := Lib.hid hfin
      have HE := Lib.hid hE
      clear hE hfin
      generalize hdd : wD c p i = d at *
      have Hdd := Lib.hid hdd
      clear hdd
      go_enter Try.func17, Try.ntmps17
      go_wp2_with fail
      refine (window_any nm c p i _).mono ?_
      rintro e w1 ⟨rfl, hb⟩
      rw [Hdd.out]
      obtain ⟨hc, hf⟩ := bcell hb
      have hz : w.heap.size < w1.heap.size := by have := hb.size; simp at this; omega
      go_wp2_with fail
      refine (heavy_any nm c p _).mono ?_
      rintro e w2 ⟨rfl, hb2⟩
      obtain ⟨hc2, hf2⟩ := bcell hb2
      have hz2 : w1.heap.size < w2.heap.size := by have := hb2.size; simp at this; omega
      have k1 : w2.cell? ⟨w.heap.size, 1, none⟩ = some (.int .i64 c) := by rw [hc2 _ _ (by simp; omega), World.cell?_alloc_lt _ _ _ hz, hc _ _ (by simp)]; simp [go_sem]
      have k2 : w2.cell? ⟨w.heap.size, 2, none⟩ = some (.int .i64 p) := by rw [hc2 _ _ (by simp; omega), World.cell?_alloc_lt _ _ _ hz, hc _ _ (by simp)]; simp [go_sem]
      have k3 : w2.cell? ⟨w1.heap.size, 2, none⟩ = some (.int .i64 d) := by rw [hc2 _ _ (by simp)]; simp [go_sem]
      have b2 : Below w.heap.size w w2 := (((Below.refl _ _).alloc (Nat.le_refl _) _).trans (hb.mono (by simp))).trans (((Below.refl w.heap.size w1).alloc (by omega) _).trans (hb2.mono (by simp; omega)))
      clear hc hf hc2 hf2 hb hb2
      go_wp2_with fail
      refine (search_any (p - c - 1) p (p - c) d w.heap.size w2.heap.size (w2.heap.size + 1) w1.heap.size _ ?_ ?_ ?_ ?_ (by omega) (by omega) (by omega) (by omega) (by omega) (by omega)).mono ?_
      · simp [go_sem, k2, World.cell?_alloc_some]
      · simp [go_sem]
      · simp [go_sem]
      · simp [go_sem, k3, World.cell?_alloc_some]
      rintro e w3 ⟨r, rfl, r0, r1, ra, rb, k, rfl⟩
      have hr := search_is (by omega) (by omega) (by omega) d1 d2 r0 r1 ra rb
      have Hr := Lib.hid hr
      clear hr ra rb
      go_wp2_with fail
      refine (g1_any _ p (p - c) w.heap.size w2.heap.size _ ?_ ?_ (by omega) (by omega) (by omega) (by omega) (by omega) (by omega)).mono ?_
      · simp [go_sem, k2, World.cell?_alloc_some]
      · simp [go_sem]
      rintro e w4 ⟨rfl, rfl⟩
      go_wp2
      go_ret
      refine ⟨ret_int ?_, ?_⟩
      · rw [H.out, Hr.out]; congr 1; omega
      · exact below_drewN ((b2.alloc b2.size _).alloc (by simp; have := b2.size; omega) _) _
    · have hv : hvB c p = false := by simpa using hv
      have hr : (wE c p i != 0) = false := by simp [hE]
      have hfin : grp c p i = 0 := grp_light hv
      have H := Lib.hid hfin
      have HE := Lib.hid hE
      clear hE hfin
      go_enter Try.func17, Try.ntmps17
      go_wp2_with fail
      refine (window_any nm c p i _).mono ?_
      rintro e w1 ⟨rfl, hb⟩
      obtain ⟨hc, hf⟩ := bcell hb
      have hz : w.heap.size < w1.heap.size := by have := hb.size; simp at this; omega
      go_wp2_with fail
      refine (heavy_any nm c p _).mono ?_
      rintro e w2 ⟨rfl, hb2⟩
      have b2 : Below w.heap.size w w2 := (((Below.refl _ _).alloc (Nat.le_refl _) _).trans (hb.mono (by simp))).trans (((Below.refl w.heap.size w1).alloc (by omega) _).trans (hb2.mono (by simp; omega)))
      go_wp2
      go_ret
      exact ⟨ret_int H.out.symm, b2⟩
  · have hr : (wE c p i != 0) = true := by simp [hE]
    have hfin : grp c p i = 0 := grp_err hE
    have H := Lib.hid hfin
    have HE := Lib.hid hE
    clear hE hfin
    go_enter Try.func17, Try.ntmps17
    go_wp2_with fail
    refine (window_any nm c p i _).mono ?_
    rintro e w1 ⟨rfl, hb⟩
    have hz : w.heap.size < w1.heap.size := by have := hb.size; simp at this; omega
    go_wp2
    go_ret
    exact ⟨ret_int H.out.symm, (((Below.refl _ _).alloc (Nat.le_refl _) _).trans (hb.mono (by simp))).alloc (by omega) _⟩
end Go.Proofs.Ytoiahkndabbklaa
