/- The walk over TasksetDemand: it answers true. Conditions: the tasks lie in memory. -/
import Derived.Test.YtdjpkebajcpfbaaAwake41
import Derived.Test.YtdjpkebajcpfbaaRefSet
import Derived.Test.YtdjpkebajcpfbaaPlain41
namespace Go.Proofs.Ytdjpkebajcpfbaa
open Go.RowKit Go.Deep

set_option maxRecDepth 100000 in
set_option maxHeartbeats 6400000 in
theorem law_dem (l : List TT) (a : Option Addr) (cap : Nat) (x : Int) (w : World) (hl : l.length ≤ cap) (hcap : cap ≤ 9223372036854775807) (hc : TSAt w w.heap.size a l) (hx : -9223372036854775808 ≤ x ∧ x ≤ 9223372036854775807) :
    Calls Try.prog 4 #[.slice a l.length cap, .int .i64 x] w fun e w' => e = .returned (.bool true) ∧ Below w.heap.size w w' := by
  have hll : l.length ≤ 9223372036854775807 := by omega
  have hlI : (l.length : Int) ≤ 9223372036854775807 := by omega
  have hM : MT = 1099511627776 := rfl
  have HA := awake_any w
  by_cases h60 : l.length ≤ 60
  · have h60I : ¬ (60 : Int) < (l.length : Int) := by omega
    have HD := fun W (hb : Below w.heap.size w W) => demand_any l x a cap W hll hx (hc.on hb hb.size)
    have HP := fun W (hb : Below w.heap.size w W) => plain_any l a cap W h60 (hc.on hb hb.size)
    have HRV := fun a' c' W (h : TSAt W W.heap.size a' l) => rvalid_any l a' c' W hll h
    by_cases hr : tsOK l = true ∧ 0 ≤ x ∧ x ≤ 1099511627776
    · obtain ⟨hok, hx0, hx1⟩ := hr
      obtain ⟨X, rfl⟩ : ∃ X : Nat, x = X := ⟨x.toNat, by omega⟩
      have HRD := fun a' c' W (h : TSAt W W.heap.size a' l) => rdemand_any l X a' c' W hok (by omega) h
      have HH := fun W (hb : Below w.heap.size w W) => hyper_any l a cap W hll (hc.on hb hb.size)
      rw [demR_ok hok (by omega)] at HD
      rw [hok] at HRV
      have hxn : ¬ (X : Int) < 0 := by omega
      have hxm : ¬ (1099511627776 : Int) < (X : Int) := by omega
      by_cases hgo : (hypR l).2 = 0 ∧ hyp l l.length ≤ 549755813888 ∧ X ≤ 549755813888
      · obtain ⟨h0, hh1, hh2⟩ := hgo
        obtain ⟨_, hle, he⟩ := hypR_ok h0
        have hadd := dem_add (x := X) hok (hyp l l.length) l.length (Nat.le_refl _) (fun i hi => hyp_dvd hle l.length (Nat.le_refl _) hi)
        have HD1 := fun W (hb : Below w.heap.size w W) => demand_any l (hyp l l.length : Nat) a cap W hll (by omega) (hc.on hb hb.size)
        have HD2 := fun W (hb : Below w.heap.size w W) => demand_any l ((X + hyp l l.length : Nat) : Int) a cap W hll (by omega) (hc.on hb hb.size)
        rw [demR_ok hok hle] at HD1
        rw [demR_ok hok (by omega)] at HD2
        rw [he] at HH
        have hb1 : dem l X l.length ≤ 43980465111040 := Nat.le_trans (dem_le hok _ l.length (Nat.le_refl _)) (Nat.le_trans (Nat.mul_le_mul (tsOK_bd hok).1 (show X ≤ MT by omega)) (by decide))
        have hb2 : dem l (hyp l l.length) l.length ≤ 43980465111040 := Nat.le_trans (dem_le hok _ l.length (Nat.le_refl _)) (Nat.le_trans (Nat.mul_le_mul (tsOK_bd hok).1 hle) (by decide))
        have hhI : ¬ (549755813888 : Int) < (hyp l l.length : Int) := by omega
        have hxI : ¬ (549755813888 : Int) < (X : Int) := by omega
        have hsI : (X : Int) + (hyp l l.length : Int) = ((X + hyp l l.length : Nat) : Int) := by omega
        have hsw : wrap64 (((X + hyp l l.length : Nat)) : Int) = ((X + hyp l l.length : Nat) : Int) := IntWalk.wrap64_in _ (by omega)
        have HADD := Lib.hid hadd
        have HSI := Lib.hid hsI
        clear hc hok he hadd h0 hle hh1 hh2
        generalize dem l (X + hyp l l.length) l.length = D2 at *
        generalize dem l (hyp l l.length) l.length = D1 at *
        generalize dem l X l.length = D0 at *
        generalize hyp l l.length = H at *
        have HW := Lib.hid (show wrap64 ((D0 : Int) + (D1 : Int)) = (D2 : Int) from by rw [HADD.out, Int.natCast_add]; exact IntWalk.wrap64_in _ (by omega))
        clear hb1 hb2 hsI
        go_enter Try.func4, Try.ntmps4
        go_wp2_with (go_at_call 12; refine HA.mono ?_; rintro e w1 ⟨rfl, hb1⟩)
        refine (HD _ hb1).mono ?_
        rintro e w2 ⟨rfl, hb2⟩
        have b2 := hb1.trans (hb2.mono hb1.size)
        simp only []
        go_wp2_with fail
        refine (HP _ b2).mono ?_
        rintro e w3 ⟨pa, pc, rfl, _, _, hp3, hb3⟩
        have b3 := b2.trans (hb3.mono b2.size)
        simp only []
        go_wp2_with fail
        refine (HRV _ _ _ hp3).mono ?_
        rintro e w4 ⟨rfl, hb4⟩
        have b4 := b3.trans (hb4.mono b3.size)
        simp only []
        go_wp2_with fail
        refine (HP _ b4).mono ?_
        rintro e w5 ⟨pa2, pc2, rfl, _, _, hp5, hb5⟩
        have b5 := b4.trans (hb5.mono b4.size)
        simp only []
        go_wp2_with fail
        refine (HRD _ _ _ hp5).mono ?_
        rintro e w6 ⟨rfl, hb6⟩
        have b6 := b5.trans (hb6.mono b5.size)
        simp only []
        go_wp2_with fail
        refine (HH _ b6).mono ?_
        rintro e w7 ⟨rfl, hb7⟩
        have b7 := b6.trans (hb7.mono b6.size)
        clear hb1 hb2 hb3 hb4 hb5 hb6 hb7 b2 b3 b4 b5 b6 hp3 hp5 HH HP HRV HRD HA
        simp only []
        go_upto_region 13 with fail
        have hsI := HSI.out
        generalize X + H = S at *
        go_wp2_with fail
        refine (HD2 _ b7).mono ?_
        rintro e w8 ⟨rfl, hb8⟩
        have b8 := b7.trans (hb8.mono b7.size)
        simp only []
        go_wp2_with fail
        refine (HD1 _ b8).mono ?_
        rintro e w9 ⟨rfl, hb9⟩
        have b9 := b8.trans (hb9.mono b8.size)
        clear hb8 hb9 b7 b8 HD HD1 HD2
        simp only []
        go_wp2_with fail
        go_ret
        exact ⟨ret_bool (by simp [HW.out]), b9⟩
      · have hXM : X ≤ 1099511627776 := by omega
        by_cases h0 : (hypR l).2 = 0
        · obtain ⟨_, hle, he⟩ := hypR_ok h0
          rw [he] at HH
          by_cases hh1 : hyp l l.length ≤ 549755813888
          · have hh2 : ¬ X ≤ 549755813888 := fun h => hgo ⟨h0, hh1, h⟩
            have hhI : ¬ (549755813888 : Int) < (hyp l l.length : Int) := by omega
            have hxI : (549755813888 : Int) < (X : Int) := by omega
            clear hc hok he h0 hle hh1 hh2 hgo
            generalize dem l X l.length = D0 at *
            generalize hyp l l.length = H at *
            go_enter Try.func4, Try.ntmps4
            go_wp2_with (go_at_call 12; refine HA.mono ?_; rintro e w1 ⟨rfl, hb1⟩)
            refine (HD _ hb1).mono ?_
            rintro e w2 ⟨rfl, hb2⟩
            have b2 := hb1.trans (hb2.mono hb1.size)
            simp only []
            go_wp2_with fail
            refine (HP _ b2).mono ?_
            rintro e w3 ⟨pa, pc, rfl, _, _, hp3, hb3⟩
            have b3 := b2.trans (hb3.mono b2.size)
            simp only []
            go_wp2_with fail
            refine (HRV _ _ _ hp3).mono ?_
            rintro e w4 ⟨rfl, hb4⟩
            have b4 := b3.trans (hb4.mono b3.size)
            simp only []
            go_wp2_with fail
            refine (HP _ b4).mono ?_
            rintro e w5 ⟨pa2, pc2, rfl, _, _, hp5, hb5⟩
            have b5 := b4.trans (hb5.mono b4.size)
            simp only []
            go_wp2_with fail
            refine (HRD _ _ _ hp5).mono ?_
            rintro e w6 ⟨rfl, hb6⟩
            have b6 := b5.trans (hb6.mono b5.size)
            simp only []
            go_wp2_with fail
            refine (HH _ b6).mono ?_
            rintro e w7 ⟨rfl, hb7⟩
            have b7 := b6.trans (hb7.mono b6.size)
            simp only []
            go_wp2_with fail
            go_ret
            exact ⟨rfl, b7⟩
          · have hhI : (549755813888 : Int) < (hyp l l.length : Int) := by omega
            clear hc hok he h0 hle hh1 hgo
            generalize dem l X l.length = D0 at *
            generalize hyp l l.length = H at *
            go_enter Try.func4, Try.ntmps4
            go_wp2_with (go_at_call 12; refine HA.mono ?_; rintro e w1 ⟨rfl, hb1⟩)
            refine (HD _ hb1).mono ?_
            rintro e w2 ⟨rfl, hb2⟩
            have b2 := hb1.trans (hb2.mono hb1.size)
            simp only []
            go_wp2_with fail
            refine (HP _ b2).mono ?_
            rintro e w3 ⟨pa, pc, rfl, _, _, hp3, hb3⟩
            have b3 := b2.trans (hb3.mono b2.size)
            simp only []
            go_wp2_with fail
            refine (HRV _ _ _ hp3).mono ?_
            rintro e w4 ⟨rfl, hb4⟩
            have b4 := b3.trans (hb4.mono b3.size)
            simp only []
            go_wp2_with fail
            refine (HP _ b4).mono ?_
            rintro e w5 ⟨pa2, pc2, rfl, _, _, hp5, hb5⟩
            have b5 := b4.trans (hb5.mono b4.size)
            simp only []
            go_wp2_with fail
            refine (HRD _ _ _ hp5).mono ?_
            rintro e w6 ⟨rfl, hb6⟩
            have b6 := b5.trans (hb6.mono b5.size)
            simp only []
            go_wp2_with fail
            refine (HH _ b6).mono ?_
            rintro e w7 ⟨rfl, hb7⟩
            have b7 := b6.trans (hb7.mono b6.size)
            simp only []
            go_wp2_with fail
            go_ret
            exact ⟨rfl, b7⟩
        · have h0b : ((hypR l).2 != 0) = true := by simp [h0]
          clear hc hok hgo
          generalize dem l X l.length = D0 at *
          generalize (hypR l).2 = e2 at *
          generalize (hypR l).1 = e1 at *
          go_enter Try.func4, Try.ntmps4
          go_wp2_with (go_at_call 12; refine HA.mono ?_; rintro e w1 ⟨rfl, hb1⟩)
          refine (HD _ hb1).mono ?_
          rintro e w2 ⟨rfl, hb2⟩
          have b2 := hb1.trans (hb2.mono hb1.size)
          simp only []
          go_wp2_with fail
          refine (HP _ b2).mono ?_
          rintro e w3 ⟨pa, pc, rfl, _, _, hp3, hb3⟩
          have b3 := b2.trans (hb3.mono b2.size)
          simp only []
          go_wp2_with fail
          refine (HRV _ _ _ hp3).mono ?_
          rintro e w4 ⟨rfl, hb4⟩
          have b4 := b3.trans (hb4.mono b3.size)
          simp only []
          go_wp2_with fail
          refine (HP _ b4).mono ?_
          rintro e w5 ⟨pa2, pc2, rfl, _, _, hp5, hb5⟩
          have b5 := b4.trans (hb5.mono b4.size)
          simp only []
          go_wp2_with fail
          refine (HRD _ _ _ hp5).mono ?_
          rintro e w6 ⟨rfl, hb6⟩
          have b6 := b5.trans (hb6.mono b5.size)
          simp only []
          go_wp2_with fail
          refine (HH _ b6).mono ?_
          rintro e w7 ⟨rfl, hb7⟩
          have b7 := b6.trans (hb7.mono b6.size)
          simp only []
          go_wp2_with fail
          go_ret
          exact ⟨rfl, b7⟩
    · have hd0 : demR l x = 0 := by unfold demR; rw [if_neg hr]
      rw [hd0] at HD
      by_cases hok : tsOK l = true
      · rw [hok] at HRV
        by_cases hx0 : x < 0
        · clear hc hd0 hr hok
          go_enter Try.func4, Try.ntmps4
          go_wp2_with (go_at_call 12; refine HA.mono ?_; rintro e w1 ⟨rfl, hb1⟩)
          refine (HD _ hb1).mono ?_
          rintro e w2 ⟨rfl, hb2⟩
          have b2 := hb1.trans (hb2.mono hb1.size)
          simp only []
          go_wp2_with fail
          refine (HP _ b2).mono ?_
          rintro e w3 ⟨pa, pc, rfl, _, _, hp3, hb3⟩
          have b3 := b2.trans (hb3.mono b2.size)
          simp only []
          go_wp2_with fail
          refine (HRV _ _ _ hp3).mono ?_
          rintro e w4 ⟨rfl, hb4⟩
          have b4 := b3.trans (hb4.mono b3.size)
          simp only []
          go_wp2_with fail
          go_ret
          exact ⟨rfl, b4⟩
        · have hx1 : (1099511627776 : Int) < x := by
            rcases Int.lt_or_le 1099511627776 x with h | h
            · exact h
            · exact absurd ⟨hok, by omega, h⟩ hr
          clear hc hd0 hr hok
          go_enter Try.func4, Try.ntmps4
          go_wp2_with (go_at_call 12; refine HA.mono ?_; rintro e w1 ⟨rfl, hb1⟩)
          refine (HD _ hb1).mono ?_
          rintro e w2 ⟨rfl, hb2⟩
          have b2 := hb1.trans (hb2.mono hb1.size)
          simp only []
          go_wp2_with fail
          refine (HP _ b2).mono ?_
          rintro e w3 ⟨pa, pc, rfl, _, _, hp3, hb3⟩
          have b3 := b2.trans (hb3.mono b2.size)
          simp only []
          go_wp2_with fail
          refine (HRV _ _ _ hp3).mono ?_
          rintro e w4 ⟨rfl, hb4⟩
          have b4 := b3.trans (hb4.mono b3.size)
          simp only []
          go_wp2_with fail
          go_ret
          exact ⟨rfl, b4⟩
      · have hok' : tsOK l = false := by simpa using hok
        rw [hok'] at HRV
        clear hc hd0 hr hok hok'
        go_enter Try.func4, Try.ntmps4
        go_wp2_with (go_at_call 12; refine HA.mono ?_; rintro e w1 ⟨rfl, hb1⟩)
        refine (HD _ hb1).mono ?_
        rintro e w2 ⟨rfl, hb2⟩
        have b2 := hb1.trans (hb2.mono hb1.size)
        simp only []
        go_wp2_with fail
        refine (HP _ b2).mono ?_
        rintro e w3 ⟨pa, pc, rfl, _, _, hp3, hb3⟩
        have b3 := b2.trans (hb3.mono b2.size)
        simp only []
        go_wp2_with fail
        refine (HRV _ _ _ hp3).mono ?_
        rintro e w4 ⟨rfl, hb4⟩
        have b4 := b3.trans (hb4.mono b3.size)
        simp only []
        go_wp2_with fail
        go_ret
        exact ⟨rfl, b4⟩
  · have h60I : (60 : Int) < (l.length : Int) := by omega
    clear hc
    go_enter Try.func4, Try.ntmps4
    go_wp2_with (go_at_call 12; refine HA.mono ?_; rintro e w1 ⟨rfl, hb1⟩)
    go_ret
    exact ⟨rfl, hb1⟩
end Go.Proofs.Ytdjpkebajcpfbaa
