/- The walk over 43's awake. Conditions: none. -/
import Derived.Test.YtkedcnemldjbeaaSimWalk
import Derived.Test.YtkedcnemldjbeaaEqJobs
namespace Go.Proofs.Ytkedcnemldjbeaa
open Go.RowKit

def l43 : List CT := [⟨1, 9, 9, [⟨5, 0, 1⟩]⟩, ⟨4, 9, 9, [⟨5, 1, 3⟩]⟩]
def r43 : List (List Int) := [[2], [0]]
def j43 : List Jb := [⟨0, 2, 3, 4, 1⟩, ⟨1, 0, 0, 5, 0⟩]
theorem ev43 : checkV l43 r43 9 = 0 ∧ (run (envOf l43 r43) 9).en = j43 := by decide +kernel

def lit43 (w : World) : World := ((((((w.alloc (.cells #[.int .i64 5, .int .i64 0, .int .i64 1] 63)).alloc (.cells #[.int .i64 5, .int .i64 1, .int .i64 3] 63)).alloc
  (.cells #[.int .i64 1, .int .i64 9, .int .i64 9, .slice (some ⟨w.heap.size, 0, none⟩) 1 1, .int .i64 4, .int .i64 9, .int .i64 9, .slice (some ⟨w.heap.size + 1, 0, none⟩) 1 1] 30)).alloc (.cells #[.int .i64 2] 3)).alloc (.cells #[.int .i64 0] 3)).alloc
  (.cells #[.slice (some ⟨w.heap.size + 1 + 1 + 1, 0, none⟩) 1 1, .slice (some ⟨w.heap.size + 1 + 1 + 1 + 1, 0, none⟩) 1 1] 35))
theorem lit43_below (w : World) : Below w.heap.size w (lit43 w) := (((((((Below.refl _ _).alloc (Nat.le_refl _) _).alloc (by simp) _).alloc (by simp <;> omega) _).alloc (by simp <;> omega) _).alloc (by simp <;> omega) _).alloc (by simp <;> omega) _)
theorem lit43_tasks (w : World) : TasksAt (lit43 w) (lit43 w).heap.size (some ⟨w.heap.size + 1 + 1, 0, none⟩) l43 := by
  unfold lit43
  refine fun _ => ⟨_, _, rfl, by simp <;> omega, fun i t hi => ?_⟩
  match i, hi with
  | 0, hi => obtain rfl : _ = t := by simpa [l43] using hi
             refine ⟨by simp [go_sem], by simp [go_sem], by simp [go_sem], some ⟨w.heap.size, 0, none⟩, 1, by simp [go_sem], by simp, fun h => ⟨_, _, rfl, by simp <;> omega, fun j s hj => ?_⟩⟩
             match j, hj with
             | 0, hj => obtain rfl : _ = s := by simpa using hj
                        refine ⟨by simp [go_sem], by simp [go_sem], by simp [go_sem]⟩
             | n + 1, hj => simp at hj
  | 1, hi => obtain rfl : _ = t := by simpa [l43] using hi
             refine ⟨by simp [go_sem], by simp [go_sem], by simp [go_sem], some ⟨w.heap.size + 1, 0, none⟩, 1, by simp [go_sem], by simp, fun h => ⟨_, _, rfl, by simp <;> omega, fun j s hj => ?_⟩⟩
             match j, hj with
             | 0, hj => obtain rfl : _ = s := by simpa using hj
                        refine ⟨by simp [go_sem], by simp [go_sem], by simp [go_sem]⟩
             | n + 1, hj => simp at hj
  | n + 2, hi => simp [l43] at hi
theorem lit43_rows (w : World) : RowsAt (lit43 w) (lit43 w).heap.size (some ⟨w.heap.size + 1 + 1 + 1 + 1 + 1, 0, none⟩) r43 := by
  unfold lit43
  refine fun _ => ⟨_, _, rfl, by simp <;> omega, fun i r hi => ?_⟩
  match i, hi with
  | 0, hi => obtain rfl : _ = r := by simpa [r43] using hi
             refine ⟨some ⟨w.heap.size + 1 + 1 + 1, 0, none⟩, 1, by simp [go_sem], by simp, by omega, fun h => ⟨_, _, rfl, by simp <;> omega, fun j x hj => ?_⟩⟩
             match j, hj with
             | 0, hj => obtain rfl : _ = x := by simpa using hj
                        simp [go_sem]
             | n + 1, hj => simp at hj
  | 1, hi => obtain rfl : _ = r := by simpa [r43] using hi
             refine ⟨some ⟨w.heap.size + 1 + 1 + 1 + 1, 0, none⟩, 1, by simp [go_sem], by simp, by omega, fun h => ⟨_, _, rfl, by simp <;> omega, fun j x hj => ?_⟩⟩
             match j, hj with
             | 0, hj => obtain rfl : _ = x := by simpa using hj
                        simp [go_sem]
             | n + 1, hj => simp at hj
  | n + 2, hi => simp [r43] at hi
def litJ (w : World) : World := w.alloc (.cells #[.int .i64 0, .int .i64 2, .int .i64 3, .int .i64 4, .int .i64 1, .int .i64 1, .int .i64 0, .int .i64 0, .int .i64 5, .int .i64 0] 59)
theorem litJ_jobs (w : World) : JobsAt (litJ w) (litJ w).heap.size (some ⟨w.heap.size, 0, none⟩) j43 := by
  unfold litJ
  refine fun _ => ⟨_, _, rfl, by simp, fun i j hi => ?_⟩
  match i, hi with
  | 0, hi => obtain rfl : _ = j := by simpa [j43] using hi
             refine ⟨by simp [go_sem], by simp [go_sem], by simp [go_sem], by simp [go_sem], by simp [go_sem]⟩
  | 1, hi => obtain rfl : _ = j := by simpa [j43] using hi
             refine ⟨by simp [go_sem], by simp [go_sem], by simp [go_sem], by simp [go_sem], by simp [go_sem]⟩
  | n + 2, hi => simp [j43] at hi

set_option maxRecDepth 100000 in
set_option maxHeartbeats 3200000 in
theorem awake43_any (w : World) : Calls Try.prog 30 #[] w fun e w' => e = .returned (.bool true) ∧ Below w.heap.size w w' := by
  obtain ⟨f1, f2⟩ := ev43
  go_enter Try.func30, Try.ntmps30
  go_wp2_with fail
  refine (simulate_any l43 (some ⟨w.heap.size + 1 + 1, 0, none⟩) 2 r43 (some ⟨w.heap.size + 1 + 1 + 1 + 1 + 1, 0, none⟩) 2 9 (lit43 w) (by decide) (by decide) (fun r hr => by simp [r43] at hr; rcases hr with rfl | rfl <;> (intro x hx; simp at hx; omega)) (lit43_tasks w) (lit43_rows w)).mono ?_
  rintro e w1 ⟨hb1, ⟨h, _⟩ | ⟨_, a', c', rfl, h1, h2, h3⟩⟩
  · exact absurd f1 h
  · have b1 := (lit43_below w).trans (hb1.mono (lit43_below w).size)
    have h1' : (run (envOf l43 r43) 9).en.length = 2 := by rw [f2]; rfl
    have e9 : (9 : Int).toNat = 9 := rfl
    rw [e9, f2] at h3
    have H3 := Lib.hid h3
    rw [e9, h1']
    clear hb1 f1 f2 h1 h3 h1' e9
    have s1 := b1.size
    go_wp2_with fail
    refine (eqjobs_any j43 j43 a' (some ⟨w1.heap.size, 0, none⟩) c' 2 (litJ w1) (by decide) (by decide) (H3.out.on ((Below.refl _ _).alloc (Nat.le_refl _) _) (by simp [litJ])) (litJ_jobs w1)).mono ?_
    rintro e w2 ⟨rfl, hb2⟩
    go_wp2_with fail
    go_ret
    exact ⟨rfl, (b1.alloc (by omega) _).trans (hb2.mono (by simp [litJ]; omega))⟩
end Go.Proofs.Ytkedcnemldjbeaa
