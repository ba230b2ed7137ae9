/- The walk over the law's awake: it returns true. Conditions: none. -/
import Derived.Test.YtoiahkndabbklaaRefGroup
namespace Go.Proofs.Ytoiahkndabbklaa
open Go.RowKit

theorem awake_any (w : World) : Calls Try.prog 11 #[] w fun e w' => e = .returned (.bool true) ∧ Below w.heap.size w w' := by
  have e1 : wE 5 8 2 = 0 := by decide
  have e2 : wI 5 8 2 = 2 := by decide
  have e3 : wR 5 8 2 = 1 := by decide
  have e4 : wD 5 8 2 = 4 := by decide
  have e5 : ovB 5 8 4 = true := by decide
  have e6 : ovB 5 8 5 = false := by decide
  have e7 : grp 5 8 1 = 3 := by decide
  have e8 : grp 5 8 3 = 6 := by decide
  have e9 : hvB 5 8 = true := by decide
  go_enter Try.func11, Try.ntmps11
  go_wp2_with fail
  refine (window_any _ 5 8 2 _).mono ?_
  rintro e w1 ⟨rfl, hb1⟩
  rw [e1, e2, e3, e4]
  obtain ⟨hc1, hf1⟩ := bcell hb1
  have hz1 : w.heap.size < w1.heap.size := by have := hb1.size; simp at this; omega
  go_wp2_with fail
  refine (overlaps_any _ 5 8 4 _).mono ?_
  rintro e w2 ⟨rfl, hb2⟩
  rw [e5]
  obtain ⟨hc2, hf2⟩ := bcell hb2
  have hz2 : w1.heap.size < w2.heap.size := by have := hb2.size; simp at this; omega
  have hy2 : w.heap.size < w2.heap.size := by omega
  go_wp2_with fail
  refine (overlaps_any _ 5 8 5 _).mono ?_
  rintro e w3 ⟨rfl, hb3⟩
  rw [e6]
  obtain ⟨hc3, hf3⟩ := bcell hb3
  have hz3 : w2.heap.size ≤ w3.heap.size := hb3.size
  have hy3 : w.heap.size < w3.heap.size := by omega
  go_wp2_with fail
  refine (group_any _ 5 8 1 _).mono ?_
  rintro e w4 ⟨rfl, hb4⟩
  rw [e7]
  obtain ⟨hc4, hf4⟩ := bcell hb4
  have hz4 : w3.heap.size ≤ w4.heap.size := hb4.size
  have hy4 : w.heap.size < w4.heap.size := by omega
  go_wp2_with fail
  refine (group_any _ 5 8 3 _).mono ?_
  rintro e w5 ⟨rfl, hb5⟩
  rw [e8]
  obtain ⟨hc5, hf5⟩ := bcell hb5
  have hz5 : w4.heap.size ≤ w5.heap.size := hb5.size
  have hy5 : w.heap.size < w5.heap.size := by omega
  go_wp2_with fail
  refine (heavy_any _ 5 8 _).mono ?_
  rintro e w6 ⟨rfl, hb6⟩
  rw [e9]
  go_wp2_with fail
  go_ret
  refine ⟨rfl, ?_⟩
  exact (((((((Below.refl _ _).alloc (Nat.le_refl _) _).trans (hb1.mono (by simp))).trans (((Below.refl w.heap.size w1).alloc (by omega) _).trans (hb2.mono (by simp; omega)))).trans (hb3.mono (by omega))).trans (hb4.mono (by omega))).trans (hb5.mono (by omega))).trans (hb6.mono (by omega))
end Go.Proofs.Ytoiahkndabbklaa
