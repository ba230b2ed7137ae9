/- The walks over pfair: up, valid, Window. Conditions: none on the integers. -/
import Derived.Test.YtfoadipocpopiaaGreatM00
import Derived.Test.YtfoadipocpopiaaGreatM01
import Derived.StillTactics
import Derived.Laws.Pointers
import Derived.Deep.RegionHeld3
import Derived.Deep.QuietTactic
import Derived.BigQuiet
namespace Go.Proofs.YtfoadipocpopiaaGreat
open Go.RowKit
theorem valid_one (nm : ByteArray) (c p : Int) (b : Nat) (w : World) (hb : b < w.heap.size)
    (hc0 : w.cell? ⟨b, 0, none⟩ = some (.string nm)) (hc1 : w.cell? ⟨b, 1, none⟩ = some (.int .i64 c)) (hc2 : w.cell? ⟨b, 2, none⟩ = some (.int .i64 p)) :
    Calls Tryz.prog 13 #[.slice (some ⟨b, 0, none⟩) 1 1] w fun e w' => e = .returned (.bool (vtB c p)) ∧ Below w.heap.size w w' := by
  have h := tvalid_any [⟨nm, c, p⟩] (some ⟨b, 0, none⟩) 1 w (by simp) (fun _ => ⟨b, 0, rfl, hb, fun i t hi => by
    match i, hi with
    | 0, hi => obtain rfl : _ = t := by simpa using hi
               exact ⟨hc0, hc1, hc2⟩⟩)
  have e : tsOK [⟨nm, c, p⟩] = vtB c p := by simp [tsOK, vtB, ttOK, ttAt, List.range_succ]
  rw [e] at h
  exact h
/-- pfair.up. -/
theorem up_any (a b : Int) (w : World) (h0 : 0 ≤ a) (h1 : a ≤ 1000000000000) (h2 : 1 ≤ b) (h3 : b ≤ 1000000000000) :
    Calls Tryz.prog 60 #[.int .i64 a, .int .i64 b] w fun e w' => e = .returned (.int .i64 ((a + b - 1) / b)) ∧ w = w' := by
  go_enter Tryz.func60, Tryz.ntmps60
  go_wp2
  go_ret
  exact ⟨rfl, rfl⟩
/-- pfair.valid. -/
theorem pvalid_any (nm : ByteArray) (c p : Int) (w : World) :
    Calls Tryz.prog 59 #[.agg #[.string nm, .int .i64 c, .int .i64 p]] w fun e w' => e = .returned (.bool (vtB c p)) ∧ Below w.heap.size w w' := by
  go_enter Tryz.func59, Tryz.ntmps59
  go_wp2_with fail
  refine (valid_one nm c p _ _ (by simp) (by simp [go_sem]) (by simp [go_sem]) (by simp [go_sem])).mono ?_
  rintro e w1 ⟨rfl, hb⟩
  go_wp2_with fail
  go_ret
  exact ⟨rfl, (((Below.refl _ _).alloc (Nat.le_refl _) _).alloc (by simp) _).trans (hb.mono (by simp; omega))⟩
theorem ret_win {c p i a b d e : Int} (h1 : a = wI c p i) (h2 : b = wR c p i) (h3 : d = wD c p i) (h4 : e = wE c p i) :
    Ending.returned (.tuple #[.agg #[.int .i64 a, .int .i64 b, .int .i64 d], .int .i64 e]) = .returned (.tuple #[.agg #[.int .i64 (wI c p i), .int .i64 (wR c p i), .int .i64 (wD c p i)], .int .i64 (wE c p i)]) := by subst h1 h2 h3 h4; rfl
theorem wrap_div {a b : Int} (h0 : 0 ≤ a) (h1 : a ≤ 1000000000000) (hb : 1 ≤ b) : IntKind.i64.wrap (a.tdiv b) = a / b := by
  rw [Int.tdiv_eq_ediv_of_nonneg h0]
  have q0 : 0 ≤ a / b := Int.ediv_nonneg h0 (by omega)
  have q1 : a / b ≤ a := Int.ediv_le_self _ h0
  exact IntWalk.i64_in _ (by omega)
/-- pfair.Window. -/
theorem window_any (nm : ByteArray) (c p i : Int) (w : World) :
    Calls Tryz.prog 41 #[.agg #[.string nm, .int .i64 c, .int .i64 p], .int .i64 i] w fun e w' => e = .returned (.tuple #[.agg #[.int .i64 (wI c p i), .int .i64 (wR c p i), .int .i64 (wD c p i)], .int .i64 (wE c p i)]) ∧ Below w.heap.size w w' := by
  rcases wE_cases c p i with ⟨hE, hv⟩ | ⟨hE, hv, hi⟩ | ⟨hE, hv, hi, hj⟩
  · have H := Lib.hid hE
    clear hE
    go_enter Tryz.func41, Tryz.ntmps41
    go_wp2_with fail
    refine (pvalid_any nm c p _).mono ?_
    rintro e w1 ⟨rfl, hb⟩
    obtain ⟨hc, hf⟩ := bcell hb
    have hz : w.heap.size + 1 < w1.heap.size := by have := hb.size; simp at this; omega
    go_wp2
    refine bodyPost_ret (v := .tuple #[.agg #[.int .i64 0, .int .i64 0, .int .i64 0], .int .i64 1]) (by simp [results, Tryz.results41, go_sem, hc]) rfl ⟨ret_win ?_ ?_ ?_ H.out.symm, ?_⟩
    · simp [wI, H.out]
    · simp [wR, H.out]
    · simp [wD, H.out]
    · exact ((((((Below.refl _ _).alloc (Nat.le_refl _) _).alloc (by simp) _).trans (hb.mono (by simp; omega))).setCell (by simp) _).setCell (by simp) _).setCell (by simp) _
  · have H := Lib.hid hE
    clear hE
    go_enter Tryz.func41, Tryz.ntmps41
    go_wp2_with fail
    refine (pvalid_any nm c p _).mono ?_
    rintro e w1 ⟨rfl, hb⟩
    obtain ⟨hc, hf⟩ := bcell hb
    have hz : w.heap.size + 1 < w1.heap.size := by have := hb.size; simp at this; omega
    by_cases h1 : 1 ≤ i
    · have h2 : c < i := by omega
      go_wp2
      refine bodyPost_ret (v := .tuple #[.agg #[.int .i64 0, .int .i64 0, .int .i64 0], .int .i64 2]) (by simp [results, Tryz.results41, go_sem, hc]) rfl ⟨ret_win ?_ ?_ ?_ H.out.symm, ?_⟩
      · simp [wI, H.out]
      · simp [wR, H.out]
      · simp [wD, H.out]
      · exact ((((((Below.refl _ _).alloc (Nat.le_refl _) _).alloc (by simp) _).trans (hb.mono (by simp; omega))).setCell (by simp) _).setCell (by simp) _).setCell (by simp) _
    · go_wp2
      refine bodyPost_ret (v := .tuple #[.agg #[.int .i64 0, .int .i64 0, .int .i64 0], .int .i64 2]) (by simp [results, Tryz.results41, go_sem, hc]) rfl ⟨ret_win ?_ ?_ ?_ H.out.symm, ?_⟩
      · simp [wI, H.out]
      · simp [wR, H.out]
      · simp [wD, H.out]
      · exact ((((((Below.refl _ _).alloc (Nat.le_refl _) _).alloc (by simp) _).trans (hb.mono (by simp; omega))).setCell (by simp) _).setCell (by simp) _).setCell (by simp) _
  · have H := Lib.hid hE
    clear hE
    obtain ⟨v1, v2, v3⟩ := vtB_true hv
    have m1 := mul_bd (i := i - 1) (p := p) (by omega) (by omega) (by omega) (by omega)
    have m2 := mul_bd (i := i) (p := p) (by omega) (by omega) (by omega) (by omega)
    obtain ⟨m1a, m1b⟩ := m1
    obtain ⟨m2a, m2b⟩ := m2
    go_enter Tryz.func41, Tryz.ntmps41
    go_wp2_with fail
    refine (pvalid_any nm c p _).mono ?_
    rintro e w1 ⟨rfl, hb⟩
    obtain ⟨hc, hf⟩ := bcell hb
    have hz : w.heap.size + 1 < w1.heap.size := by have := hb.size; simp at this; omega
    go_wp2
    have k1 : w1.cell? ⟨w.heap.size, 1, none⟩ = some (.int .i64 c) := by rw [hc _ _ (by simp; omega)]; simp [go_sem]
    have k2 : w1.cell? ⟨w.heap.size, 2, none⟩ = some (.int .i64 p) := by rw [hc _ _ (by simp; omega)]; simp [go_sem]
    have c0 : ¬ c = 0 := by omega
    have wa : IntKind.i64.wrap (i * p) = i * p := IntWalk.i64_in _ (by omega)
    have wb : IntKind.i64.wrap ((i - 1) * p) = (i - 1) * p := IntWalk.i64_in _ (by omega)
    have wc : IntKind.i64.wrap (i - 1) = i - 1 := IntWalk.i64_in _ (by omega)
    have wd : IntKind.i64.wrap (((i - 1) * p).tdiv c) = (i - 1) * p / c := wrap_div m1a (by omega) v1
    go_region_held3 (fun W => W.cell? ⟨w.heap.size, 1, none⟩ = some (.int .i64 c) ∧ W.cell? ⟨w.heap.size, 2, none⟩ = some (.int .i64 p))
      (go_keep)
      (first
        | (go_at_call 60; refine (up_any _ _ _ (by omega) (by omega) (by omega) (by omega)).mono ?_; rintro e w' ⟨rfl, rfl⟩))
    go_wp2
    refine bodyPost_ret (v := .tuple #[.agg #[.int .i64 i, .int .i64 ((i - 1) * p / c), .int .i64 ((i * p + c - 1) / c)], .int .i64 0]) (by simp [results, Tryz.results41, go_sem, hc]) rfl ⟨ret_win ?_ ?_ ?_ H.out.symm, ?_⟩
    · simp [wI, H.out]
    · simp [wR, H.out]
    · simp [wD, H.out]
    · exact ((((((Below.refl _ _).alloc (Nat.le_refl _) _).alloc (by simp) _).trans (hb.mono (by simp; omega))).drew.setCell (by simp) _).setCell (by simp) _).setCell (by simp) _
end Go.Proofs.YtfoadipocpopiaaGreat
