/- The walk over 43's fits. Conditions: the arguments lie in memory. -/
import Derived.Test.YtkedcnemldjbeaaFits
namespace Go.Proofs.Ytkedcnemldjbeaa
open Go.RowKit

set_option maxRecDepth 100000 in
set_option maxHeartbeats 3200000 in
theorem fits_any (l : List CT) (a : Option Addr) (cap : Nat) (rs : List (List Int)) (ra : Option Addr) (rcap : Nat) (un : Int) (w : World) (hl : l.length ≤ 9223372036854775807) (hrl : rs.length ≤ 9223372036854775807) (hrr : ∀ r ∈ rs, FitI r)
    (hc : TasksAt w w.heap.size a l) (hr : RowsAt w w.heap.size ra rs) :
    Calls Try.prog 31 #[.slice a l.length cap, .slice ra rs.length rcap, .int .i64 un] w fun e w' => e = .returned (.bool (fitsB l rs un)) ∧ Below w.heap.size w w' := by
  have hlen : (l.length : Int) ≤ 9223372036854775807 := by omega
  have hrlen : (rs.length : Int) ≤ 9223372036854775807 := by omega
  cases hfew : fewB l rs un
  · have HF := Lib.hid (show fitsB l rs un = false by simp [fitsB, hfew])
    have HW := Lib.hid hfew
    clear hfew
    go_enter Try.func31, Try.ntmps31
    go_wp2_with (go_at_call 38; refine (few_any l a cap rs ra rcap un _ hl hrl hc hr).mono ?_; rintro e w1 ⟨rfl, hb1⟩; rw [HW.out])
    go_ret
    exact ⟨ret_bool HF.out.symm, hb1⟩
  · obtain ⟨q1, q2, q3, q4, q5⟩ := fewB_bd hfew
    have HW := Lib.hid hfew
    have HSS := Lib.hid q4
    clear q4 q5
    by_cases hu : 0 ≤ un
    · cases hv : validL l
      · have HF := Lib.hid (show fitsB l rs un = false by simp [fitsB, hv])
        have HV := Lib.hid hv
        clear hfew hv
        go_enter Try.func31, Try.ntmps31
        go_wp2_with (first | (go_at_call 38; refine (few_any l a cap rs ra rcap un _ hl hrl hc hr).mono ?_; rintro e w1 ⟨rfl, hb1⟩; rw [HW.out]) | (go_at_call 20; refine (valid_any l a cap _ hl (hc.on hb1 hb1.size)).mono ?_; rintro e w2 ⟨rfl, hb2⟩; rw [HV.out]))
        go_ret
        exact ⟨ret_bool HF.out.symm, hb1.trans (hb2.mono hb1.size)⟩
      · have HV := Lib.hid hv
        by_cases hn : rs.length = l.length
        · have HN := Lib.hid hn
          have hq : ((rs.length : Int) == (l.length : Int)) = true := by simp [hn]
          have HF := Lib.hid (show fitsB l rs un = rowsB l rs by simp [fitsB, hfew, hv, hn, hu])
          have HP := Lib.hid (fun t (ht : t ∈ l) => show 1 ≤ t.p ∧ t.p ≤ 1000 from by
            obtain ⟨⟨_, _, h3, h4, _⟩, _⟩ := okT_bd ((validL_bd hv).2 t ht)
            exact ⟨h3, h4⟩)
          have HRR := Lib.hid hrr
          clear hfew hv hn hrr
          go_enter Try.func31, Try.ntmps31
          go_wp2_with (first | (go_at_call 38; refine (few_any l a cap rs ra rcap un _ hl hrl hc hr).mono ?_; rintro e w1 ⟨rfl, hb1⟩; rw [HW.out]) | (go_at_call 20; refine (valid_any l a cap _ hl (hc.on hb1 hb1.size)).mono ?_; rintro e w2 ⟨rfl, hb2⟩; rw [HV.out]))
          have b2 := hb1.trans (hb2.mono hb1.size)
          have s2 := b2.size
          clear hb1 hb2
          refine (plain43_any l a cap _ (by omega) HSS.out (hc.on b2 s2)).mono ?_
          rintro e w3 ⟨a3, c3, rfl, p1, p2, p3, hb3⟩
          have b3 := b2.trans (hb3.mono s2)
          have s3 := b3.size
          go_wp2_with fail
          refine (spaced_any l a3 c3 rs ra rcap _ (by omega) HN.out HRR.out HP.out p3 (hr.on b3 s3)).mono ?_
          rintro e w4 ⟨rfl, hb4⟩
          go_wp2_with fail
          go_ret
          exact ⟨ret_bool HF.out.symm, b3.trans (hb4.mono s3)⟩
        · have hq : ((rs.length : Int) == (l.length : Int)) = false := beq_eq_false_iff_ne.2 (by omega)
          have HF := Lib.hid (show fitsB l rs un = false by simp [fitsB, hn])
          clear hfew hv hn
          go_enter Try.func31, Try.ntmps31
          go_wp2_with (first | (go_at_call 38; refine (few_any l a cap rs ra rcap un _ hl hrl hc hr).mono ?_; rintro e w1 ⟨rfl, hb1⟩; rw [HW.out]) | (go_at_call 20; refine (valid_any l a cap _ hl (hc.on hb1 hb1.size)).mono ?_; rintro e w2 ⟨rfl, hb2⟩; rw [HV.out]))
          go_ret
          exact ⟨ret_bool HF.out.symm, hb1.trans (hb2.mono hb1.size)⟩
    · have HF := Lib.hid (show fitsB l rs un = false by simp [fitsB, hu])
      have hu' : un < 0 := by omega
      clear hfew hu
      go_enter Try.func31, Try.ntmps31
      go_wp2_with (go_at_call 38; refine (few_any l a cap rs ra rcap un _ hl hrl hc hr).mono ?_; rintro e w1 ⟨rfl, hb1⟩; rw [HW.out])
      go_ret
      exact ⟨ret_bool HF.out.symm, hb1⟩
end Go.Proofs.Ytkedcnemldjbeaa
