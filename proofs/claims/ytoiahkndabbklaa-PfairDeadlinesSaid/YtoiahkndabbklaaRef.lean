/- The walks over the reference ontimeref45: Valid, Heavy, Window, Overlaps. Conditions: of Heavy and Window those under which the law calls them. -/
import Derived.Test.YtoiahkndabbklaaPfair4
namespace Go.Proofs.Ytoiahkndabbklaa
open Go.RowKit

theorem ret_tup2 {a b c d : Int} (h1 : a = c) (h2 : b = d) : Ending.returned (.tuple #[.int .i64 a, .int .i64 b]) = .returned (.tuple #[.int .i64 c, .int .i64 d]) := by subst h1 h2; rfl

/-- ref.Valid. -/
theorem rvalid_any (c p : Int) (w : World) :
    Calls Try.prog 13 #[.int .i64 c, .int .i64 p] w fun e w' => e = .returned (.bool (vtB c p)) ∧ w = w' := by
  by_cases h1 : 1 ≤ c
  · by_cases h2 : c ≤ p
    · have hfin : vtB c p = decide (p ≤ 1000) := by simp [vtB, h1, h2]
      have H := Lib.hid hfin
      clear hfin
      go_enter Try.func13, Try.ntmps13
      go_wp2
      go_ret
      exact ⟨ret_bool (by rw [H.out]), rfl⟩
    · have hfin : vtB c p = false := by simp [vtB, h2]
      have H := Lib.hid hfin
      clear hfin
      go_enter Try.func13, Try.ntmps13
      go_wp2
      go_ret
      exact ⟨ret_bool (by rw [H.out]), rfl⟩
  · have hfin : vtB c p = false := by simp [vtB, h1]
    have H := Lib.hid hfin
    clear hfin
    go_enter Try.func13, Try.ntmps13
    go_wp2
    go_ret
    exact ⟨ret_bool (by rw [H.out]), rfl⟩

/-- ref.Heavy of a valid task. -/
theorem rheavy_any (c p : Int) (w : World) (hv : vtB c p = true) :
    Calls Try.prog 15 #[.int .i64 c, .int .i64 p] w fun e w' => e = .returned (.bool (hvB c p)) ∧ w = w' := by
  obtain ⟨v1, v2, v3⟩ := vtB_true hv
  by_cases h1 : c < p
  · have hfin : hvB c p = decide (p ≤ 2 * c) := by simp [hvB, hv, h1]
    have H := Lib.hid hfin
    clear hfin
    go_enter Try.func15, Try.ntmps15
    go_wp2
    go_ret
    exact ⟨ret_bool (by rw [H.out]), rfl⟩
  · have hfin : hvB c p = false := by simp [hvB, h1]
    have H := Lib.hid hfin
    clear hfin
    go_enter Try.func15, Try.ntmps15
    go_wp2
    go_ret
    exact ⟨ret_bool (by rw [H.out]), rfl⟩

/-- ref.Window of a valid task and an index in its range. -/
theorem rwindow_any (c p i : Int) (w : World) (hE : wE c p i = 0) :
    Calls Try.prog 18 #[.int .i64 c, .int .i64 p, .int .i64 i] w fun e w' => e = .returned (.tuple #[.int .i64 (wR c p i), .int .i64 (wD c p i)]) ∧ ∃ k, w' = w.drewN k := by
  obtain ⟨v1, v2, v3, hi, hj⟩ := wE0 hE
  obtain ⟨m2a, m2b⟩ := mul_bd (i := i) (p := p) (by omega) (by omega) (by omega) (by omega)
  obtain ⟨m1a, m1b⟩ := mul_bd (i := i - 1) (p := p) (by omega) (by omega) (by omega) (by omega)
  have hR : wR c p i = (i - 1) * p / c := by simp [wR, hE]
  have hD : wD c p i = (i * p + c - 1) / c := by simp [wD, hE]
  have HR := Lib.hid hR
  have HD := Lib.hid hD
  clear hR hD hE
  have c0 : ¬ c = 0 := by omega
  have wa : IntKind.i64.wrap (i * p) = i * p := IntWalk.i64_in _ (by omega)
  have wb : IntKind.i64.wrap ((i - 1) * p) = (i - 1) * p := IntWalk.i64_in _ (by omega)
  have wc : IntKind.i64.wrap (i - 1) = i - 1 := IntWalk.i64_in _ (by omega)
  have we : IntKind.i64.wrap (i * p + c) = i * p + c := IntWalk.i64_in _ (by omega)
  have wf : IntKind.i64.wrap (i * p + c - 1) = i * p + c - 1 := IntWalk.i64_in _ (by omega)
  have wd : IntKind.i64.wrap (((i - 1) * p).tdiv c) = (i - 1) * p / c := wrap_div m1a (by omega) v1
  have wg : IntKind.i64.wrap ((i * p + c - 1).tdiv c) = (i * p + c - 1) / c := wrap_div (by omega) (by omega) v1
  go_enter Try.func18, Try.ntmps18
  go_wp2
  go_quiet (fail)
  go_wp2
  go_ret2
  exact ⟨ret_tup2 HR.out.symm HD.out.symm, _, rfl⟩

/-- ref.Overlaps of a valid task and an index in its range. -/
theorem roverlaps_any (c p i : Int) (w : World) (hE : wE c p i = 0) :
    Calls Try.prog 19 #[.int .i64 c, .int .i64 p, .int .i64 i] w fun e w' => e = .returned (.bool (ovB c p i)) ∧ w = w' := by
  obtain ⟨v1, v2, v3, hi, hj⟩ := wE0 hE
  obtain ⟨m2a, m2b⟩ := mul_bd (i := i) (p := p) (by omega) (by omega) (by omega) (by omega)
  have hfin : ovB c p i = (i * p % c != 0) := by simp [ovB, hE]
  have H := Lib.hid hfin
  clear hfin hE
  have c0 : ¬ c = 0 := by omega
  go_enter Try.func19, Try.ntmps19
  go_wp2
  go_ret
  exact ⟨ret_bool (by rw [H.out]), rfl⟩
end Go.Proofs.Ytoiahkndabbklaa
