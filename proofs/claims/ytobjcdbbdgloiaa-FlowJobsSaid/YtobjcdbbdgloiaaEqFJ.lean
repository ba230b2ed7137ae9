/- The walk over slices.Equal of equal lists of jobs. Conditions: both lie in memory. -/
import Derived.Test.YtobjcdbbdgloiaaJobsOK
import Derived.BigQuiet
namespace Go.Proofs.Ytobjcdbbdgloiaa
open Go.RowKit

set_option maxRecDepth 100000 in
set_option maxHeartbeats 3200000 in
theorem eqfj_any (xs : List FJ) (a b : Option Addr) (ca cb : Nat) (w : World) (hx : xs.length ≤ 1000000) (ha : FJobsAt w w.heap.size a xs) (hb : FJobsAt w w.heap.size b xs) :
    Calls Try.prog 25 #[.slice a xs.length ca, .slice b xs.length cb] w fun e w' => e = .returned (.bool true) ∧ Below w.heap.size w w' := by
  have hxl : (xs.length : Int) ≤ 1000000 := by omega
  have hq : ((xs.length : Int) != (xs.length : Int)) = false := by simp
  go_enter Try.func25, Try.ntmps25
  go_wp2_with fail
  clear hq
  go_loopw [13] (fun u wr => ∃ k : Nat, u = .int .i64 k ∧ k ≤ xs.length ∧ Below w.heap.size w wr) (fun u _ => xs.length - (intOf u).toNat)
  case atStart => exact ⟨0, rfl, by omega, Below.refl _ _⟩
  case round =>
    obtain ⟨k, rfl, hk, hbl⟩ := hrel
    have hbs := hbl.size
    by_cases hlt : k < xs.length
    · obtain ⟨ab, ao, rfl, haN, hac⟩ := ha (by intro e; simp [e] at hlt)
      obtain ⟨bb, bo, rfl, hbN, hbc⟩ := hb (by intro e; simp [e] at hlt)
      obtain ⟨a0, a1, a2⟩ := hac k _ (fjAt_get hlt)
      obtain ⟨b0, b1, b2⟩ := hbc k _ (fjAt_get hlt)
      have a0 := keep_cellN hbl haN a0
      have a1 := keep_cellN hbl haN a1
      have a2 := keep_cellN hbl haN a2
      have b0 := keep_cellN hbl hbN b0
      have b1 := keep_cellN hbl hbN b1
      have b2 := keep_cellN hbl hbN b2
      have haw : ab < wr.heap.size := by omega
      have hbw : bb < wr.heap.size := by omega
      have hlt' : (k : Int) < (xs.length : Int) := by omega
      have k0 : (0 : Int) ≤ (k : Int) := by omega
      clear hac hbc
      generalize fjAt xs k = x at *
      obtain ⟨x0, x1, x2⟩ := x
      simp only at a0 a1 a2 b0 b1 b2
      go_wp2_with fail
      go_quiet (fail)
      have b9 := below_drewN hbl nq
      generalize wr.drewN nq = w9 at *
      go_wp2_with fail
      go_roundw
      case rel => exact ⟨k + 1, by go_num, by omega, b9⟩
      case measure => simp [intOf]; omega
    · obtain rfl : k = xs.length := by omega
      go_wp2_with fail
      go_ret
      exact ⟨rfl, hbl⟩
end Go.Proofs.Ytobjcdbbdgloiaa
