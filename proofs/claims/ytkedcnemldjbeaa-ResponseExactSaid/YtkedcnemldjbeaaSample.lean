/- The walks over the law's sample, awake and great. Conditions: none for the first two. -/
import Derived.Test.YtkedcnemldjbeaaAll
import Derived.Outline
namespace Go.Proofs.Ytkedcnemldjbeaa
open Go.RowKit

def sampleL (bv : Bool) : List CT := if bv then [⟨1, 4, 4, [⟨7, 0, 1⟩]⟩, ⟨2, 6, 6, []⟩, ⟨3, 12, 12, [⟨7, 0, 3⟩]⟩] else [⟨1, 4, 4, []⟩, ⟨2, 6, 6, []⟩, ⟨3, 12, 12, []⟩]

theorem sample_no (w : World) : Calls Try.prog 44 #[.bool false] w fun e w' => ∃ a, e = .returned (.slice a 3 3) ∧ TasksAt w' w'.heap.size a (sampleL false) ∧ Below w.heap.size w w' := by
  go_enter Try.func44, Try.ntmps44
  go_wp2_with fail
  go_ret
  refine ⟨_, rfl, fun _ => ⟨_, _, rfl, ?_, fun i t hi => ?_⟩, ?_⟩
  · simp
  · match i, hi with
    | 0, hi => obtain rfl : _ = t := by simpa [sampleL] using hi
               refine ⟨by simp [go_sem], by simp [go_sem], by simp [go_sem], none, 0, by simp [go_sem], by simp, fun h => absurd rfl h⟩
    | 1, hi => obtain rfl : _ = t := by simpa [sampleL] using hi
               refine ⟨by simp [go_sem], by simp [go_sem], by simp [go_sem], none, 0, by simp [go_sem], by simp, fun h => absurd rfl h⟩
    | 2, hi => obtain rfl : _ = t := by simpa [sampleL] using hi
               refine ⟨by simp [go_sem], by simp [go_sem], by simp [go_sem], none, 0, by simp [go_sem], by simp, fun h => absurd rfl h⟩
    | n + 3, hi => simp [sampleL] at hi
  · exact (Below.refl _ _).alloc (Nat.le_refl _) _
theorem sample_yes (w : World) : Calls Try.prog 44 #[.bool true] w fun e w' => ∃ a, e = .returned (.slice a 3 3) ∧ TasksAt w' w'.heap.size a (sampleL true) ∧ Below w.heap.size w w' := by
  go_enter Try.func44, Try.ntmps44
  go_wp2_with fail
  go_ret
  refine ⟨_, rfl, fun _ => ⟨_, _, rfl, ?_, fun i t hi => ?_⟩, ?_⟩
  · simp <;> omega
  · match i, hi with
    | 0, hi => obtain rfl : _ = t := by simpa [sampleL] using hi
               refine ⟨by simp [go_sem], by simp [go_sem], by simp [go_sem], some ⟨w.heap.size + 1, 0, none⟩, 1, by simp [go_sem], by simp, fun h => ⟨_, _, rfl, by simp <;> omega, fun j s hj => ?_⟩⟩
               match j, hj with
               | 0, hj => obtain rfl : _ = s := by simpa using hj
                          refine ⟨by simp [go_sem], by simp [go_sem], by simp [go_sem]⟩
               | n + 1, hj => simp at hj
    | 1, hi => obtain rfl : _ = t := by simpa [sampleL] using hi
               refine ⟨by simp [go_sem], by simp [go_sem], by simp [go_sem], none, 0, by simp [go_sem], by simp, fun h => absurd rfl h⟩
    | 2, hi => obtain rfl : _ = t := by simpa [sampleL] using hi
               refine ⟨by simp [go_sem], by simp [go_sem], by simp [go_sem], some ⟨w.heap.size + 1 + 1, 0, none⟩, 1, by simp [go_sem], by simp, fun h => ⟨_, _, rfl, by simp <;> omega, fun j s hj => ?_⟩⟩
               match j, hj with
               | 0, hj => obtain rfl : _ = s := by simpa using hj
                          refine ⟨by simp [go_sem], by simp [go_sem], by simp [go_sem]⟩
               | n + 1, hj => simp at hj
    | n + 3, hi => simp [sampleL] at hi
  · exact (((Below.refl _ _).alloc (Nat.le_refl _) _).alloc (by simp) _).alloc (by simp <;> omega) _

theorem ev1 : validL (sampleL false) = true ∧ lateB (sampleL false) = false ∧ respL (sampleL false) 3 = [1, 3, 10] := by decide
theorem ev2 : respR (sampleL true) 0 = 3 ∧ respE (sampleL true) 0 = 0 ∧ respR (sampleL true) 1 = 6 ∧ respE (sampleL true) 1 = 0 ∧ blkV (sampleL true) 1 = 2 := by decide

set_option maxRecDepth 100000 in
set_option maxHeartbeats 3200000 in
theorem awake_any (w : World) : Calls Try.prog 18 #[] w fun e w' => e = .returned (.bool true) ∧ Below w.heap.size w w' := by
  obtain ⟨f1, f2, f3⟩ := ev1
  obtain ⟨g1, g2, g3, g4, g5⟩ := ev2
  go_enter Try.func18, Try.ntmps18
  go_wp2_with fail
  refine (sample_no _).mono ?_
  rintro e w1 ⟨a1, rfl, ht1, hb1⟩
  go_wp2_with fail
  refine (all_any (sampleL false) a1 3 _ (by decide) (by decide) ht1).mono ?_
  rintro e w2 ⟨hb2, ⟨h1, rfl⟩ | ⟨h1, h2, rfl⟩ | ⟨h1, h2, a', cap', rfl, h3, h4, h5⟩⟩
  · rw [f1] at h1; cases h1
  · rw [f2] at h2; cases h2
  · have b2 := hb1.trans (hb2.mono hb1.size)
    have s2 := b2.size
    have HI := Lib.hid (show IntsAt w2 w2.heap.size a' [1, 3, 10] by rw [← f3]; exact h3)
    clear h1 h2 h3 hb1 hb2 ht1 f1 f2 f3
    obtain ⟨ab, aoff, rfl, habN, hac⟩ := HI.out (by simp)
    have r0 := hac 0 1 rfl
    rw [Nat.add_zero] at r0
    have r1 := hac 1 3 rfl
    have r2 := hac 2 10 rfl
    clear HI hac
    go_wp2_with fail
    refine (sample_yes _).mono ?_
    rintro e w3 ⟨a3, rfl, ht3, hb3⟩
    have r0 := keep_cell hb3 habN r0
    have r1 := keep_cell hb3 habN r1
    have r2 := keep_cell hb3 habN r2
    have s3 := hb3.size
    have b3 := b2.trans (hb3.mono s2)
    clear hb3 b2
    go_wp2_with fail
    refine (response_any (sampleL true) a3 3 0 _ (by decide) (by decide) ht3).mono ?_
    rintro e w4 ⟨rfl, hb4⟩
    rw [g1, g2]
    have r0 := keep_cell hb4 (by omega) r0
    have r1 := keep_cell hb4 (by omega) r1
    have r2 := keep_cell hb4 (by omega) r2
    have s4 := hb4.size
    have b4 := b3.trans (hb4.mono (by omega))
    clear hb4 b3
    go_wp2_with fail
    refine (sample_yes _).mono ?_
    rintro e w5 ⟨a5, rfl, ht5, hb5⟩
    have r0 := keep_cell hb5 (by omega) r0
    have r1 := keep_cell hb5 (by omega) r1
    have r2 := keep_cell hb5 (by omega) r2
    have s5 := hb5.size
    have b5 := b4.trans (hb5.mono (by omega))
    clear hb5 b4
    go_wp2_with fail
    refine (response_any (sampleL true) a5 3 1 _ (by decide) (by decide) ht5).mono ?_
    rintro e w6 ⟨rfl, hb6⟩
    rw [g3, g4]
    have r0 := keep_cell hb6 (by omega) r0
    have r1 := keep_cell hb6 (by omega) r1
    have r2 := keep_cell hb6 (by omega) r2
    have s6 := hb6.size
    have b6 := b5.trans (hb6.mono (by omega))
    clear hb6 b5
    have hlen : (sampleL false).length = 3 := rfl
    go_wp2_with fail
    refine (sample_yes _).mono ?_
    rintro e w7 ⟨a7, rfl, ht7, hb7⟩
    have s7 := hb7.size
    have b7 := b6.trans (hb7.mono (by omega))
    go_wp2_with fail
    refine (blocking_any (sampleL true) a7 3 1 _ (by decide) (by decide) ht7).mono ?_
    rintro e w8 ⟨rfl, hb8⟩
    rw [g5]
    go_wp2_with fail
    go_ret
    exact ⟨rfl, b7.trans (hb8.mono (by omega))⟩
end Go.Proofs.Ytkedcnemldjbeaa
