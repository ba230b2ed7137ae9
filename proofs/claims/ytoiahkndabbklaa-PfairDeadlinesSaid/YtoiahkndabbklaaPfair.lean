/- The walks over pfair: Window, Overlaps, Heavy. Conditions: none on the integers (any task, any index). -/
import Derived.Test.YtoiahkndabbklaaBase
import Derived.StillTactics
import Derived.Laws.Pointers
import Derived.Deep.RegionHeld3
import Derived.Deep.QuietTactic
import Derived.BigQuiet
namespace Go.Proofs.Ytoiahkndabbklaa
open Go.RowKit

/-- The error number of pfair.Window, and the three numbers of the window. -/
def wE (c p i : Int) : Int := if vtB c p then (if 1 ≤ i ∧ i ≤ c then 0 else 2) else 1
def wI (c p i : Int) : Int := if wE c p i = 0 then i else 0
def wR (c p i : Int) : Int := if wE c p i = 0 then (i - 1) * p / c else 0
def wD (c p i : Int) : Int := if wE c p i = 0 then (i * p + c - 1) / c else 0
theorem wE_inv {c p i : Int} (h : vtB c p = false) : wE c p i = 1 := by simp [wE, h]
theorem wE_out {c p i : Int} (h : vtB c p = true) (hi : ¬ (1 ≤ i ∧ i ≤ c)) : wE c p i = 2 := by simp [wE, h, hi]
theorem wE_ok {c p i : Int} (h : vtB c p = true) (hi : 1 ≤ i) (hj : i ≤ c) : wE c p i = 0 := by simp [wE, h, hi, hj]
theorem wE_cases (c p i : Int) : (wE c p i = 1 ∧ vtB c p = false) ∨ (wE c p i = 2 ∧ vtB c p = true ∧ ¬ (1 ≤ i ∧ i ≤ c)) ∨ (wE c p i = 0 ∧ vtB c p = true ∧ 1 ≤ i ∧ i ≤ c) := by
  by_cases hv : vtB c p = true
  · by_cases hi : 1 ≤ i ∧ i ≤ c
    · exact .inr (.inr ⟨wE_ok hv hi.1 hi.2, hv, hi⟩)
    · exact .inr (.inl ⟨wE_out hv hi, hv, hi⟩)
  · have hv : vtB c p = false := by simpa using hv
    exact .inl ⟨wE_inv hv, hv⟩
theorem mul_bd {i p : Int} (h1 : 0 ≤ i) (h2 : i ≤ 1000) (h3 : 0 ≤ p) (h4 : p ≤ 1000) : 0 ≤ i * p ∧ i * p ≤ 1000000 := by
  refine ⟨Int.mul_nonneg h1 h3, ?_⟩
  calc i * p ≤ 1000 * 1000 := Int.mul_le_mul h2 h4 h3 (by decide)
    _ = 1000000 := by decide

theorem ret_win {c p i a b d e : Int} (h1 : a = wI c p i) (h2 : b = wR c p i) (h3 : d = wD c p i) (h4 : e = wE c p i) :
    Ending.returned (.tuple #[.agg #[.int .i64 a, .int .i64 b, .int .i64 d], .int .i64 e]) = .returned (.tuple #[.agg #[.int .i64 (wI c p i), .int .i64 (wR c p i), .int .i64 (wD c p i)], .int .i64 (wE c p i)]) := by subst h1 h2 h3 h4; rfl

theorem wrap_div {a b : Int} (h0 : 0 ≤ a) (h1 : a ≤ 1000000000000) (hb : 1 ≤ b) : IntKind.i64.wrap (a.tdiv b) = a / b := by
  rw [Int.tdiv_eq_ediv_of_nonneg h0]
  have q0 : 0 ≤ a / b := Int.ediv_nonneg h0 (by omega)
  have q1 : a / b ≤ a := Int.ediv_le_self _ h0
  exact IntWalk.i64_in _ (by omega)

/-- pfair.Window. -/
theorem window_any (nm : ByteArray) (c p i : Int) (w : World) :
    Calls Try.prog 12 #[.agg #[.string nm, .int .i64 c, .int .i64 p], .int .i64 i] w fun e w' => e = .returned (.tuple #[.agg #[.int .i64 (wI c p i), .int .i64 (wR c p i), .int .i64 (wD c p i)], .int .i64 (wE c p i)]) ∧ Below w.heap.size w w' := by
  rcases wE_cases c p i with ⟨hE, hv⟩ | ⟨hE, hv, hi⟩ | ⟨hE, hv, hi, hj⟩
  · have H := Lib.hid hE
    clear hE
    go_enter Try.func12, Try.ntmps12
    go_wp2_with fail
    refine (pvalid_any nm c p _).mono ?_
    rintro e w1 ⟨rfl, hb⟩
    obtain ⟨hc, hf⟩ := bcell hb
    have hz : w.heap.size + 1 < w1.heap.size := by have := hb.size; simp at this; omega
    go_wp2
    refine bodyPost_ret (v := .tuple #[.agg #[.int .i64 0, .int .i64 0, .int .i64 0], .int .i64 1]) (by simp [results, Try.results12, go_sem, hc]) rfl ⟨ret_win ?_ ?_ ?_ H.out.symm, ?_⟩
    · simp [wI, H.out]
    · simp [wR, H.out]
    · simp [wD, H.out]
    · exact ((((((Below.refl _ _).alloc (Nat.le_refl _) _).alloc (by simp) _).trans (hb.mono (by simp; omega))).setCell (by simp) _).setCell (by simp) _).setCell (by simp) _
  · have H := Lib.hid hE
    clear hE
    go_enter Try.func12, Try.ntmps12
    go_wp2_with fail
    refine (pvalid_any nm c p _).mono ?_
    rintro e w1 ⟨rfl, hb⟩
    obtain ⟨hc, hf⟩ := bcell hb
    have hz : w.heap.size + 1 < w1.heap.size := by have := hb.size; simp at this; omega
    by_cases h1 : 1 ≤ i
    · have h2 : c < i := by omega
      go_wp2
      refine bodyPost_ret (v := .tuple #[.agg #[.int .i64 0, .int .i64 0, .int .i64 0], .int .i64 2]) (by simp [results, Try.results12, go_sem, hc]) rfl ⟨ret_win ?_ ?_ ?_ H.out.symm, ?_⟩
      · simp [wI, H.out]
      · simp [wR, H.out]
      · simp [wD, H.out]
      · exact ((((((Below.refl _ _).alloc (Nat.le_refl _) _).alloc (by simp) _).trans (hb.mono (by simp; omega))).setCell (by simp) _).setCell (by simp) _).setCell (by simp) _
    · go_wp2
      refine bodyPost_ret (v := .tuple #[.agg #[.int .i64 0, .int .i64 0, .int .i64 0], .int .i64 2]) (by simp [results, Try.results12, go_sem, hc]) rfl ⟨ret_win ?_ ?_ ?_ H.out.symm, ?_⟩
      · simp [wI, H.out]
      · simp [wR, H.out]
      · simp [wD, H.out]
      · exact ((((((Below.refl _ _).alloc (Nat.le_refl _) _).alloc (by simp) _).trans (hb.mono (by simp; omega))).setCell (by simp) _).setCell (by simp) _).setCell (by simp) _
  · have H := Lib.hid hE
    clear hE
    obtain ⟨v1, v2, v3⟩ := vtB_true hv
    have m1 := mul_bd (i := i - 1) (p := p) (by omega) (by omega) (by omega) (by omega)
    have m2 := mul_bd (i := i) (p := p) (by omega) (by omega) (by omega) (by omega)
    obtain ⟨m1a, m1b⟩ := m1
    obtain ⟨m2a, m2b⟩ := m2
    go_enter Try.func12, Try.ntmps12
    go_wp2_with fail
    refine (pvalid_any nm c p _).mono ?_
    rintro e w1 ⟨rfl, hb⟩
    obtain ⟨hc, hf⟩ := bcell hb
    have hz : w.heap.size + 1 < w1.heap.size := by have := hb.size; simp at this; omega
    go_wp2
    have k1 : w1.cell? ⟨w.heap.size, 1, none⟩ = some (.int .i64 c) := by rw [hc _ _ (by simp; omega)]; simp [go_sem]
    have k2 : w1.cell? ⟨w.heap.size, 2, none⟩ = some (.int .i64 p) := by rw [hc _ _ (by simp; omega)]; simp [go_sem]
    have c0 : ¬ c = 0 := by omega
    have wa : IntKind.i64.wrap (i * p) = i * p := IntWalk.i64_in _ (by omega)
    have wb : IntKind.i64.wrap ((i - 1) * p) = (i - 1) * p := IntWalk.i64_in _ (by omega)
    have wc : IntKind.i64.wrap (i - 1) = i - 1 := IntWalk.i64_in _ (by omega)
    have wd : IntKind.i64.wrap (((i - 1) * p).tdiv c) = (i - 1) * p / c := wrap_div m1a (by omega) v1
    go_region_held3 (fun W => W.cell? ⟨w.heap.size, 1, none⟩ = some (.int .i64 c) ∧ W.cell? ⟨w.heap.size, 2, none⟩ = some (.int .i64 p))
      (go_keep)
      (first
        | (go_at_call 27; refine (up_any _ _ _ (by omega) (by omega) (by omega) (by omega)).mono ?_; rintro e w' ⟨rfl, rfl⟩))
    go_wp2
    refine bodyPost_ret (v := .tuple #[.agg #[.int .i64 i, .int .i64 ((i - 1) * p / c), .int .i64 ((i * p + c - 1) / c)], .int .i64 0]) (by simp [results, Try.results12, go_sem, hc]) rfl ⟨ret_win ?_ ?_ ?_ H.out.symm, ?_⟩
    · simp [wI, H.out]
    · simp [wR, H.out]
    · simp [wD, H.out]
    · exact ((((((Below.refl _ _).alloc (Nat.le_refl _) _).alloc (by simp) _).trans (hb.mono (by simp; omega))).drew.setCell (by simp) _).setCell (by simp) _).setCell (by simp) _

end Go.Proofs.Ytoiahkndabbklaa
