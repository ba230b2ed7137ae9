/- The walk over CeilingRefuses. Conditions: the arguments lie in memory. -/
import Derived.Test.YtkedcnemldjbeaaAwake43
import Derived.Test.YtkedcnemldjbeaaFits2
import Derived.Test.YtkedcnemldjbeaaRValid
namespace Go.Proofs.Ytkedcnemldjbeaa
open Go.RowKit

set_option maxRecDepth 100000 in
set_option maxHeartbeats 6400000 in
theorem law_refuses (l : List CT) (a : Option Addr) (cap : Nat) (rs : List (List Int)) (ra : Option Addr) (rcap : Nat) (un : Int) (w : World) (hl : l.length ≤ cap) (hcap : cap ≤ 9223372036854775807) (hc : TasksAt w w.heap.size a l)
    (hrl : rs.length ≤ rcap) (hrcap : rcap ≤ 9223372036854775807) (hr : RowsAt w w.heap.size ra rs) (hrr : ∀ r ∈ rs, FitI r) :
    Calls Try.prog 14 #[.slice a l.length cap, .slice ra rs.length rcap, .int .i64 un] w fun e w' => e = .returned (.bool true) ∧ Below w.heap.size w w' := by
  have hlen : (l.length : Int) ≤ 9223372036854775807 := by omega
  have hrlen : (rs.length : Int) ≤ 9223372036854775807 := by omega
  have HRR := Lib.hid hrr
  clear hrr
  have HFW := Lib.hid (fun v w' (hb : Below w.heap.size w w') => few_any l a cap rs ra rcap v w' (by omega) (by omega) (hc.on hb hb.size) (hr.on hb hb.size))
  have hmu' : un ≤ 300 ∨ 300 < un := by omega
  go_enter Try.func14, Try.ntmps14
  go_wp2_with fail
  refine (awake43_any _).mono ?_
  rintro e w1 ⟨rfl, hb1⟩
  have s1 := hb1.size
  rcases hmu' with hu | hu
  · go_wp2_with fail
    all_goals
      refine (HFW.out _ _ hb1).mono ?_
      rintro e w2 ⟨rfl, hb2⟩
      have b2 := hb1.trans (hb2.mono s1)
      have s2 := b2.size
      cases hfew : fewB l rs un
      · go_wp2_with fail
        refine (awake43_any _).mono ?_
        rintro e w3 ⟨rfl, hb3⟩
        go_wp2_with fail
        go_ret
        exact ⟨rfl, b2.trans (hb3.mono s2)⟩
      · obtain ⟨q1, q2, q3, q4, q5⟩ := fewB_bd hfew
        have HSS := Lib.hid q4
        clear hfew q4 q5
        have HPL := Lib.hid (fun w' (hb : Below w.heap.size w w') => plain43_any l a cap w' (by omega) HSS.out (hc.on hb hb.size))
        have HSIM := Lib.hid (fun w' (hb : Below w.heap.size w w') => simulate_any l a cap rs ra rcap un w' (by omega) (by omega) HRR.out (hc.on hb hb.size) (hr.on hb hb.size))
        go_wp2_with fail
        refine (HPL.out _ b2).mono ?_
        rintro e w3 ⟨a3, c3, rfl, p1, p2, p3, hb3⟩
        have b3 := b2.trans (hb3.mono s2)
        have s3 := b3.size
        go_wp2_with fail
        refine (rvalid_any l a3 c3 _ (by omega) p3).mono ?_
        rintro e w4 ⟨rfl, hb4⟩
        have b4 := b3.trans (hb4.mono s3)
        have s4 := b4.size
        clear hb3 hb4 p3 b2 b3 hb1 hb2
        cases hv : validL l
        · have HC := Lib.hid (show checkV l rs un = 1 by simp [checkV, hv])
          clear hv
          go_wp2_with fail
          refine (HSIM.out _ b4).mono ?_
          rintro e w5 ⟨hb5, ⟨_, rfl⟩ | ⟨h, _⟩⟩
          · rw [HC.out]
            go_wp2_with fail
            go_ret
            exact ⟨rfl, b4.trans (hb5.mono s4)⟩
          · rw [HC.out] at h; cases h
        · by_cases hn : rs.length = l.length
          · have HN := Lib.hid hn
            have hq : ((rs.length : Int) != (l.length : Int)) = false := by simp [hn]
            have HP := Lib.hid (fun t (ht : t ∈ l) => show 1 ≤ t.p ∧ t.p ≤ 1000 from by
              obtain ⟨⟨_, _, h3, h4, _⟩, _⟩ := okT_bd ((validL_bd hv).2 t ht)
              exact ⟨h3, h4⟩)
            have HC := Lib.hid (show checkV l rs un = (if un < 0 ∨ 100000 < un then 2 else if rowsB l rs then 0 else 2) by rw [checkV, if_pos ⟨hv, hn⟩])
            clear hv hn
            by_cases hu2 : un < 0 ∨ 100000 < un
            · have HC2 := Lib.hid (show checkV l rs un = 2 by rw [HC.out, if_pos hu2])
              have hu3 : un < 0 ∨ (0 ≤ un ∧ 100000 < un) := by omega
              clear hu2 HC
              rcases hu3 with h | ⟨h, h2⟩
              all_goals
                go_wp2_with fail
                refine (HSIM.out _ b4).mono ?_
                rintro e w5 ⟨hb5, ⟨_, rfl⟩ | ⟨h, _⟩⟩
                · rw [HC2.out]
                  go_wp2_with fail
                  go_ret
                  exact ⟨rfl, b4.trans (hb5.mono s4)⟩
                · rw [HC2.out] at h; cases h
            · have HC2 := Lib.hid (show checkV l rs un = (if rowsB l rs then 0 else 2) by rw [HC.out, if_neg hu2])
              have hu0 : 0 ≤ un := by omega
              have hu1 : un ≤ 100000 := by omega
              clear hu2 HC
              go_wp2_with fail
              refine (HPL.out _ b4).mono ?_
              rintro e w5 ⟨a5, c5, rfl, p1, p2, p3, hb5⟩
              have b5 := b4.trans (hb5.mono s4)
              have s5 := b5.size
              go_wp2_with fail
              refine (spaced_any l a5 c5 rs ra rcap _ (by omega) HN.out HRR.out HP.out p3 (hr.on b5 s5)).mono ?_
              rintro e w6 ⟨rfl, hb6⟩
              have b6 := b5.trans (hb6.mono s5)
              have s6 := b6.size
              clear hb5 hb6 p3 b4 b5
              cases hsp : rowsB l rs
              · have HC3 := Lib.hid (show checkV l rs un = 2 by rw [HC2.out, hsp]; rfl)
                clear hsp HC2
                go_wp2_with fail
                refine (HSIM.out _ b6).mono ?_
                rintro e w7 ⟨hb7, ⟨_, rfl⟩ | ⟨h, _⟩⟩
                · rw [HC3.out]
                  go_wp2_with fail
                  go_ret
                  exact ⟨rfl, b6.trans (hb7.mono s6)⟩
                · rw [HC3.out] at h; cases h
              · have HC3 := Lib.hid (show checkV l rs un = 0 by rw [HC2.out, hsp]; rfl)
                clear hsp HC2
                go_wp2_with fail
                refine (HSIM.out _ b6).mono ?_
                rintro e w7 ⟨hb7, ⟨h, _⟩ | ⟨_, ja, jc, rfl, _⟩⟩
                · exact absurd HC3.out h
                · go_wp2_with fail
                  go_ret
                  exact ⟨rfl, b6.trans (hb7.mono s6)⟩
          · have HC := Lib.hid (show checkV l rs un = 1 by rw [checkV, if_neg (fun h => hn h.2)])
            have hq : ((rs.length : Int) != (l.length : Int)) = true := by simp; omega
            clear hv hn
            go_wp2_with fail
            refine (HSIM.out _ b4).mono ?_
            rintro e w5 ⟨hb5, ⟨_, rfl⟩ | ⟨h, _⟩⟩
            · rw [HC.out]
              go_wp2_with fail
              go_ret
              exact ⟨rfl, b4.trans (hb5.mono s4)⟩
            · rw [HC.out] at h; cases h
  · go_wp2_with fail
    all_goals
      refine (HFW.out _ _ hb1).mono ?_
      rintro e w2 ⟨rfl, hb2⟩
      have b2 := hb1.trans (hb2.mono s1)
      have s2 := b2.size
      cases hfew : fewB l rs 300
      · go_wp2_with fail
        refine (awake43_any _).mono ?_
        rintro e w3 ⟨rfl, hb3⟩
        go_wp2_with fail
        go_ret
        exact ⟨rfl, b2.trans (hb3.mono s2)⟩
      · obtain ⟨q1, q2, q3, q4, q5⟩ := fewB_bd hfew
        have HSS := Lib.hid q4
        clear hfew q4 q5
        have HPL := Lib.hid (fun w' (hb : Below w.heap.size w w') => plain43_any l a cap w' (by omega) HSS.out (hc.on hb hb.size))
        have HSIM := Lib.hid (fun w' (hb : Below w.heap.size w w') => simulate_any l a cap rs ra rcap un w' (by omega) (by omega) HRR.out (hc.on hb hb.size) (hr.on hb hb.size))
        go_wp2_with fail
        refine (HPL.out _ b2).mono ?_
        rintro e w3 ⟨a3, c3, rfl, p1, p2, p3, hb3⟩
        have b3 := b2.trans (hb3.mono s2)
        have s3 := b3.size
        go_wp2_with fail
        refine (rvalid_any l a3 c3 _ (by omega) p3).mono ?_
        rintro e w4 ⟨rfl, hb4⟩
        have b4 := b3.trans (hb4.mono s3)
        have s4 := b4.size
        clear hb3 hb4 p3 b2 b3 hb1 hb2
        cases hv : validL l
        · have HC := Lib.hid (show checkV l rs un = 1 by simp [checkV, hv])
          clear hv
          go_wp2_with fail
          refine (HSIM.out _ b4).mono ?_
          rintro e w5 ⟨hb5, ⟨_, rfl⟩ | ⟨h, _⟩⟩
          · rw [HC.out]
            go_wp2_with fail
            go_ret
            exact ⟨rfl, b4.trans (hb5.mono s4)⟩
          · rw [HC.out] at h; cases h
        · by_cases hn : rs.length = l.length
          · have HN := Lib.hid hn
            have hq : ((rs.length : Int) != (l.length : Int)) = false := by simp [hn]
            have HP := Lib.hid (fun t (ht : t ∈ l) => show 1 ≤ t.p ∧ t.p ≤ 1000 from by
              obtain ⟨⟨_, _, h3, h4, _⟩, _⟩ := okT_bd ((validL_bd hv).2 t ht)
              exact ⟨h3, h4⟩)
            have HC := Lib.hid (show checkV l rs un = (if un < 0 ∨ 100000 < un then 2 else if rowsB l rs then 0 else 2) by rw [checkV, if_pos ⟨hv, hn⟩])
            clear hv hn
            by_cases hu2 : un < 0 ∨ 100000 < un
            · have HC2 := Lib.hid (show checkV l rs un = 2 by rw [HC.out, if_pos hu2])
              have hu3 : un < 0 ∨ (0 ≤ un ∧ 100000 < un) := by omega
              clear hu2 HC
              rcases hu3 with h | ⟨h, h2⟩
              all_goals
                go_wp2_with fail
                refine (HSIM.out _ b4).mono ?_
                rintro e w5 ⟨hb5, ⟨_, rfl⟩ | ⟨h, _⟩⟩
                · rw [HC2.out]
                  go_wp2_with fail
                  go_ret
                  exact ⟨rfl, b4.trans (hb5.mono s4)⟩
                · rw [HC2.out] at h; cases h
            · have HC2 := Lib.hid (show checkV l rs un = (if rowsB l rs then 0 else 2) by rw [HC.out, if_neg hu2])
              have hu0 : 0 ≤ un := by omega
              have hu1 : un ≤ 100000 := by omega
              clear hu2 HC
              go_wp2_with fail
              refine (HPL.out _ b4).mono ?_
              rintro e w5 ⟨a5, c5, rfl, p1, p2, p3, hb5⟩
              have b5 := b4.trans (hb5.mono s4)
              have s5 := b5.size
              go_wp2_with fail
              refine (spaced_any l a5 c5 rs ra rcap _ (by omega) HN.out HRR.out HP.out p3 (hr.on b5 s5)).mono ?_
              rintro e w6 ⟨rfl, hb6⟩
              have b6 := b5.trans (hb6.mono s5)
              have s6 := b6.size
              clear hb5 hb6 p3 b4 b5
              cases hsp : rowsB l rs
              · have HC3 := Lib.hid (show checkV l rs un = 2 by rw [HC2.out, hsp]; rfl)
                clear hsp HC2
                go_wp2_with fail
                refine (HSIM.out _ b6).mono ?_
                rintro e w7 ⟨hb7, ⟨_, rfl⟩ | ⟨h, _⟩⟩
                · rw [HC3.out]
                  go_wp2_with fail
                  go_ret
                  exact ⟨rfl, b6.trans (hb7.mono s6)⟩
                · rw [HC3.out] at h; cases h
              · have HC3 := Lib.hid (show checkV l rs un = 0 by rw [HC2.out, hsp]; rfl)
                clear hsp HC2
                go_wp2_with fail
                go_ret
                exact ⟨rfl, b6⟩
          · have HC := Lib.hid (show checkV l rs un = 1 by rw [checkV, if_neg (fun h => hn h.2)])
            have hq : ((rs.length : Int) != (l.length : Int)) = true := by simp; omega
            clear hv hn
            go_wp2_with fail
            refine (HSIM.out _ b4).mono ?_
            rintro e w5 ⟨hb5, ⟨_, rfl⟩ | ⟨h, _⟩⟩
            · rw [HC.out]
              go_wp2_with fail
              go_ret
              exact ⟨rfl, b4.trans (hb5.mono s4)⟩
            · rw [HC.out] at h; cases h
end Go.Proofs.Ytkedcnemldjbeaa
