/- The walks over pfair: Overlaps, Heavy, Lag. Conditions: of Lag the numbers are at most 2^40. -/
import Derived.Test.YtoiahkndabbklaaPfair
namespace Go.Proofs.Ytoiahkndabbklaa
open Go.RowKit

def ovB (c p i : Int) : Bool := decide (wE c p i = 0) && (i * p % c != 0)
theorem wE0 {c p i : Int} (hE : wE c p i = 0) : 1 ≤ c ∧ c ≤ p ∧ p ≤ 1000 ∧ 1 ≤ i ∧ i ≤ c := by
  rcases wE_cases c p i with ⟨h, _⟩ | ⟨h, _⟩ | ⟨_, hv, hi, hj⟩
  · omega
  · omega
  · obtain ⟨a1, a2, a3⟩ := vtB_true hv
    exact ⟨a1, a2, a3, hi, hj⟩
/-- pfair.Overlaps. -/
theorem overlaps_any (nm : ByteArray) (c p i : Int) (w : World) :
    Calls Try.prog 16 #[.agg #[.string nm, .int .i64 c, .int .i64 p], .int .i64 i] w fun e w' => e = .returned (.bool (ovB c p i)) ∧ Below w.heap.size w w' := by
  by_cases hE : wE c p i = 0
  · have hr : (wE c p i == 0) = true := by simp [hE]
    obtain ⟨v1, v2, v3, hi, hj⟩ := wE0 hE
    obtain ⟨m2a, m2b⟩ := mul_bd (i := i) (p := p) (by omega) (by omega) (by omega) (by omega)
    have hfin : (i * p % c != 0) = ovB c p i := by simp [ovB, hE]
    have H := Lib.hid hfin
    have HE := Lib.hid hE
    clear hE hfin
    have c0 : ¬ c = 0 := by omega
    go_enter Try.func16, Try.ntmps16
    go_wp2_with fail
    refine (window_any nm c p i _).mono ?_
    rintro e w1 ⟨rfl, hb⟩
    obtain ⟨hc, hf⟩ := bcell hb
    have hz : w.heap.size < w1.heap.size := by have := hb.size; simp at this; omega
    go_wp2
    go_ret
    refine ⟨ret_bool ?_, ?_⟩
    · rw [← H.out]
    · exact ((((Below.refl _ _).alloc (Nat.le_refl _) _).trans (hb.mono (by simp))).alloc (by omega) _)
  · have hr : (wE c p i == 0) = false := by simp [hE]
    have hfin : ovB c p i = false := by simp [ovB, hE]
    have H := Lib.hid hfin
    have HE := Lib.hid hE
    clear hE hfin
    go_enter Try.func16, Try.ntmps16
    go_wp2_with fail
    refine (window_any nm c p i _).mono ?_
    rintro e w1 ⟨rfl, hb⟩
    obtain ⟨hc, hf⟩ := bcell hb
    have hz : w.heap.size < w1.heap.size := by have := hb.size; simp at this; omega
    go_wp2
    go_ret
    refine ⟨ret_bool ?_, ?_⟩
    · rw [H.out]
    · exact ((((Below.refl _ _).alloc (Nat.le_refl _) _).trans (hb.mono (by simp))).alloc (by omega) _)

def hvB (c p : Int) : Bool := vtB c p && decide (c < p) && decide (p ≤ 2 * c)
/-- pfair.Heavy. -/
theorem heavy_any (nm : ByteArray) (c p : Int) (w : World) :
    Calls Try.prog 14 #[.agg #[.string nm, .int .i64 c, .int .i64 p]] w fun e w' => e = .returned (.bool (hvB c p)) ∧ Below w.heap.size w w' := by
  by_cases hv : vtB c p = true
  · obtain ⟨v1, v2, v3⟩ := vtB_true hv
    have hfin : hvB c p = (decide (c < p) && decide (p ≤ 2 * c)) := by simp [hvB, hv]
    have H := Lib.hid hfin
    clear hfin
    by_cases h2 : c < p
    · go_enter Try.func14, Try.ntmps14
      go_wp2_with fail
      refine (pvalid_any nm c p _).mono ?_
      rintro e w1 ⟨rfl, hb⟩
      obtain ⟨hc, hf⟩ := bcell hb
      go_wp2
      go_ret
      refine ⟨ret_bool ?_, ?_⟩
      · rw [H.out]; simp [h2]; try omega
      · exact ((Below.refl _ _).alloc (Nat.le_refl _) _).trans (hb.mono (by simp))
    · have h3 : p ≤ c := by omega
      go_enter Try.func14, Try.ntmps14
      go_wp2_with fail
      refine (pvalid_any nm c p _).mono ?_
      rintro e w1 ⟨rfl, hb⟩
      obtain ⟨hc, hf⟩ := bcell hb
      go_wp2
      go_ret
      refine ⟨ret_bool ?_, ?_⟩
      · rw [H.out]; simp; intro h; omega
      · exact ((Below.refl _ _).alloc (Nat.le_refl _) _).trans (hb.mono (by simp))
  · have hv : vtB c p = false := by simpa using hv
    have hfin : hvB c p = false := by simp [hvB, hv]
    have H := Lib.hid hfin
    clear hfin
    go_enter Try.func14, Try.ntmps14
    go_wp2_with fail
    refine (pvalid_any nm c p _).mono ?_
    rintro e w1 ⟨rfl, hb⟩
    obtain ⟨hc, hf⟩ := bcell hb
    go_wp2
    go_ret
    refine ⟨ret_bool ?_, ?_⟩
    · rw [H.out]
    · exact ((Below.refl _ _).alloc (Nat.le_refl _) _).trans (hb.mono (by simp))

/-- pfair.Lag. -/
theorem lag_inv (nm : ByteArray) (c p s d : Int) (w : World) (hv : vtB c p = false) :
    Calls Try.prog 21 #[.agg #[.string nm, .int .i64 c, .int .i64 p], .int .i64 s, .int .i64 d] w fun e w' => e = .returned (.tuple #[.int .i64 0, .int .i64 1]) ∧ Below w.heap.size w w' := by
  go_enter Try.func21, Try.ntmps21
  go_wp2_with fail
  refine (pvalid_any nm c p _).mono ?_
  rintro e w1 ⟨rfl, hb⟩
  obtain ⟨hc, hf⟩ := bcell hb
  go_wp2
  go_ret2
  exact ⟨rfl, ((Below.refl _ _).alloc (Nat.le_refl _) _).trans (hb.mono (by simp))⟩
theorem lag_ok (nm : ByteArray) (c p s d : Int) (w : World) (hv : vtB c p = true) :
    Calls Try.prog 21 #[.agg #[.string nm, .int .i64 c, .int .i64 p], .int .i64 s, .int .i64 d] w fun e w' => e = .returned (.tuple #[.int .i64 (wrap64 (wrap64 (c * s) - wrap64 (d * p))), .int .i64 p]) ∧ Below w.heap.size w w' := by
  go_enter Try.func21, Try.ntmps21
  go_wp2_with fail
  refine (pvalid_any nm c p _).mono ?_
  rintro e w1 ⟨rfl, hb⟩
  obtain ⟨hc, hf⟩ := bcell hb
  have k1 : w1.cell? ⟨w.heap.size, 1, none⟩ = some (.int .i64 c) := by rw [hc _ _ (by simp)]; simp [go_sem]
  have k2 : w1.cell? ⟨w.heap.size, 2, none⟩ = some (.int .i64 p) := by rw [hc _ _ (by simp)]; simp [go_sem]
  go_wp2
  go_quiet (fail)
  go_wp2
  go_ret2
  refine ⟨rfl, ?_⟩
  exact below_drewN (((Below.refl _ _).alloc (Nat.le_refl _) _).trans (hb.mono (by simp))) _
end Go.Proofs.Ytoiahkndabbklaa
