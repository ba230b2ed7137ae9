/- The walk over ResponseParts. Conditions: the tasks lie in memory. -/
import Derived.Test.YtkedcnemldjbeaaRResp
import Derived.Test.YtkedcnemldjbeaaCopy44
namespace Go.Proofs.Ytkedcnemldjbeaa
open Go.RowKit

theorem great_ss {l : List CT} (h : greatB l = false) : ∀ t ∈ l, t.ss.length ≤ 1000 := by
  intro t ht
  simp only [greatB, Bool.or_eq_false_iff, List.any_eq_false, decide_eq_true_eq] at h
  have := h.2 t ht
  omega
theorem exB_false {l : List CT} {i : Int} (h : exB l i = false) (hv : validL l = true) : i < 0 ∨ (0 ≤ i ∧ (l.length : Int) ≤ i) := by
  simp only [exB, hv, Bool.true_and, Bool.and_eq_false_iff, decide_eq_false_iff_not] at h
  omega

set_option maxRecDepth 100000 in
set_option maxHeartbeats 3200000 in
theorem law_parts (l : List CT) (a : Option Addr) (cap : Nat) (i v : Int) (w : World) (hl : l.length ≤ cap) (hcap : cap ≤ 9223372036854775807) (hc : TasksAt w w.heap.size a l) :
    Calls Try.prog 6 #[.slice a l.length cap, .int .i64 i, .int .i64 v] w fun e w' => e = .returned (.bool true) ∧ Below w.heap.size w w' := by
  have hlen : (l.length : Int) ≤ 9223372036854775807 := by omega
  go_enter Try.func6, Try.ntmps6
  go_wp2_with fail
  refine (awake_any _).mono ?_
  rintro e w1 ⟨rfl, hb1⟩
  have s1 := hb1.size
  go_wp2_with fail
  refine (great_any l a cap _ (by omega) (hc.on hb1 s1)).mono ?_
  rintro e w2 ⟨rfl, hb2⟩
  have b2 := hb1.trans (hb2.mono s1)
  have s2 := b2.size
  clear hb1 hb2
  cases hg : greatB l
  · have h8 := great_bd hg
    have HSS := Lib.hid (great_ss hg)
    clear hg
    go_wp2_with fail
    refine (blocking_any l a cap i _ hl hcap (hc.on b2 s2)).mono ?_
    rintro e w3 ⟨rfl, hb3⟩
    have b3 := b2.trans (hb3.mono s2)
    have s3 := b3.size
    clear hb3 b2
    go_wp2_with fail
    refine (interfere_any l a cap i v _ hl hcap (hc.on b3 s3)).mono ?_
    rintro e w4 ⟨rfl, hb4⟩
    have b4 := b3.trans (hb4.mono s3)
    have s4 := b4.size
    clear hb4 b3
    have HV4 := Lib.hid (valid_any l a cap w4 (by omega) (hc.on b4 s4))
    cases hx : exB l i
    · have HB := Lib.hid (show blkV l i = -1 by simp [blkV, hx])
      have HI := Lib.hid (show intV l i v = -1 by simp [intV, hx])
      rw [HB.out, HI.out]
      cases hv : validL l
      · rw [hv] at HV4
        clear hv hx
        go_wp2_with (go_at_call 20; refine (HV4.out).mono ?_; rintro e w5 ⟨rfl, hb5⟩)
        go_ret
        exact ⟨rfl, b4.trans (hb5.mono s4)⟩
      · rw [hv] at HV4
        have ho := exB_false hx hv
        clear hv hx
        rcases ho with ho | ⟨ho, ho2⟩
        · go_wp2_with (go_at_call 20; refine (HV4.out).mono ?_; rintro e w5 ⟨rfl, hb5⟩)
          go_ret
          exact ⟨rfl, b4.trans (hb5.mono s4)⟩
        · go_wp2_with (go_at_call 20; refine (HV4.out).mono ?_; rintro e w5 ⟨rfl, hb5⟩)
          go_ret
          exact ⟨rfl, b4.trans (hb5.mono s4)⟩
    · obtain ⟨hv, i0, i1⟩ := exB_true hx
      obtain ⟨n, rfl⟩ := Int.eq_ofNat_of_zero_le i0
      have hn : n < l.length := by omega
      have HR := Lib.hid (blkR_eq hx)
      have HIV := Lib.hid (fun h0 h1 => intV_in (v := v) hx h0 h1)
      have HIO := Lib.hid (fun (h : v < 0 ∨ 100000 < v) => show intV l n v = -1 by rw [intV, if_neg (by omega)])
      have HPB := Lib.hid (fun w' a' c' (hc' : TasksAt w' w'.heap.size a' l) => rblock_any l a' c' n w' hv hn hc')
      have HPI := Lib.hid (fun w' a' c' (hc' : TasksAt w' w'.heap.size a' l) h0 h1 => rinterf_any l a' c' n v w' hv hn hc' h0 h1)
      have HPL := Lib.hid (fun w' (hc' : TasksAt w' w'.heap.size a l) => plain44_any l a cap w' (by omega) HSS.out hc')
      obtain ⟨B0, B1⟩ := blkV_bd hx
      rw [hv] at HV4
      rw [HR.out] at HPB
      clear hv hx HR
      generalize blkV l n = B at *
      by_cases h0 : v < 0
      · rw [HIO.out (.inl h0)]
        go_wp2_with (first | (go_at_call 20; refine (HV4.out).mono ?_; rintro e w5 ⟨rfl, hb5⟩) | (go_at_call 26; refine (HPL.out _ (hc.on (b4.trans (hb5.mono s4)) (by have := hb5.size; omega))).mono ?_; rintro e w6 ⟨a6, c6, rfl, q1, q2, q3, hb6⟩) | (go_at_call 28; refine (HPB.out _ _ _ q3).mono ?_; rintro e w7 ⟨rfl, hb7⟩))
        go_ret
        exact ⟨rfl, (b4.trans (hb5.mono s4)).trans ((hb6.trans (hb7.mono hb6.size)).mono (by have := hb5.size; omega))⟩
      · by_cases h1 : 100000 < v
        · rw [HIO.out (.inr h1)]
          go_wp2_with (first | (go_at_call 20; refine (HV4.out).mono ?_; rintro e w5 ⟨rfl, hb5⟩) | (go_at_call 26; refine (HPL.out _ (hc.on (b4.trans (hb5.mono s4)) (by have := hb5.size; omega))).mono ?_; rintro e w6 ⟨a6, c6, rfl, q1, q2, q3, hb6⟩) | (go_at_call 28; refine (HPB.out _ _ _ q3).mono ?_; rintro e w7 ⟨rfl, hb7⟩))
          go_ret
          exact ⟨rfl, (b4.trans (hb5.mono s4)).trans ((hb6.trans (hb7.mono hb6.size)).mono (by have := hb5.size; omega))⟩
        · have v0 : 0 ≤ v := by omega
          have v1 : v ≤ 100000 := by omega
          rw [HIV.out v0 v1]
          generalize intL v 0 (l.take n) = I at *
          clear h0 h1 HIV HIO
          go_wp2_with (go_at_call 20; refine (HV4.out).mono ?_; rintro e w5 ⟨rfl, hb5⟩)
          refine (HPL.out _ (hc.on (b4.trans (hb5.mono s4)) (by have := hb5.size; omega))).mono ?_
          rintro e w6 ⟨a6, c6, rfl, q1, q2, q3, hb6⟩
          have b6 := (b4.trans (hb5.mono s4)).trans (hb6.mono (by have := hb5.size; omega))
          have s6 := b6.size
          clear hb5 hb6 b4
          go_wp2_with (go_at_call 28; refine (HPB.out _ _ _ q3).mono ?_; rintro e w7 ⟨rfl, hb7⟩)
          have b7 := b6.trans (hb7.mono s6)
          have s7 := b7.size
          clear hb7 b6 q3
          refine (HPL.out _ (hc.on b7 s7)).mono ?_
          rintro e w8 ⟨a8, c8, rfl, q1, q2, q3, hb8⟩
          go_wp2_with (go_at_call 29; refine (HPI.out _ _ _ q3 v0 v1).mono ?_; rintro e w9 ⟨rfl, hb9⟩)
          go_ret
          exact ⟨rfl, (b7.trans (hb8.mono s7)).trans (hb9.mono (by have := hb8.size; omega))⟩
  · have HG := Lib.hid hg
    clear hg
    go_wp2_with fail
    go_ret
    exact ⟨rfl, b2⟩
end Go.Proofs.Ytkedcnemldjbeaa
