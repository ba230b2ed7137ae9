/- The walk over TasksetOverload: it answers true. Conditions: the tasks lie in memory. -/
import Derived.Test.YtdjpkebajcpfbaaAwake41
namespace Go.Proofs.Ytdjpkebajcpfbaa
open Go.RowKit Go.Deep

theorem over_cases {l : List TT} {z : Int} (h0 : (hypR l).2 = 0) : (overR l z = (0, 0, false) ∧ fitsB l z = true) ∨ (overR l z = ((hyp l l.length : Int), (dem l (hyp l l.length) l.length : Int), true) ∧ fitsB l z = false ∧ z * (hyp l l.length : Int) < (dem l (hyp l l.length) l.length : Int)) := by
  obtain ⟨hok, hle, he⟩ := hypR_ok h0
  have hpos := hyp_pos hok l.length (Nat.le_refl _)
  have hf := fits_iff hok hpos (fun i hi => hyp_dvd hle l.length (Nat.le_refl _) hi) z
  have hF : fitsB l z = decide ((dem l (hyp l l.length) l.length : Int) ≤ z * (hyp l l.length : Int)) := by
    unfold fitsB
    rw [hok, Bool.true_and]
    exact decide_eq_decide.2 hf
  have hdl := dem_le hok (hyp l l.length) l.length (Nat.le_refl _)
  have hl40 := (tsOK_bd hok).1
  have hd2 : dem l (hyp l l.length) l.length ≤ 40 * hyp l l.length := Nat.le_trans hdl (Nat.mul_le_mul_right _ hl40)
  rw [hF]
  unfold overR
  generalize hyp l l.length = H at *
  generalize dem l H l.length = D at *
  by_cases hz : z < 40
  · rw [if_pos ⟨h0, hz⟩]
    by_cases hD : (D : Int) ≤ z * (H : Int)
    · have hz0 : 0 ≤ z := by
        rcases Int.lt_or_le z 0 with h | h
        · have : z * (H : Int) < 0 := Int.mul_neg_of_neg_of_pos h (by omega)
          omega
        · exact h
      rw [if_pos ⟨hz0, hD⟩]
      exact .inl ⟨rfl, decide_eq_true hD⟩
    · rw [if_neg (fun h => hD h.2)]
      exact .inr ⟨rfl, decide_eq_false hD, by omega⟩
  · rw [if_neg (fun h => hz h.2)]
    refine .inl ⟨rfl, decide_eq_true ?_⟩
    have h1 : (40 : Int) * H ≤ z * H := Int.mul_le_mul_of_nonneg_right (by omega) (by omega)
    omega
theorem over_none {l : List TT} {z : Int} (h0 : ¬ (hypR l).2 = 0) : overR l z = (0, 0, false) := if_neg (fun h => h0 h.1)
theorem mul_fit {z : Int} {H : Nat} (h0 : -100 ≤ z) (h1 : z ≤ 100) (hH : H ≤ MT) : wrap64 (z * (H : Int)) = z * (H : Int) := by
  have hM : MT = 1099511627776 := rfl
  have h2 : z * (H : Int) ≤ 100 * (H : Int) := Int.mul_le_mul_of_nonneg_right h1 (by omega)
  have h3 : -100 * (H : Int) ≤ z * (H : Int) := Int.mul_le_mul_of_nonneg_right h0 (by omega)
  generalize z * (H : Int) = c at *
  exact IntWalk.wrap64_in _ (by omega)

set_option maxRecDepth 100000 in
set_option maxHeartbeats 6400000 in
theorem law_over (l : List TT) (a : Option Addr) (cap : Nat) (z : Int) (w : World) (hl : l.length ≤ cap) (hcap : cap ≤ 9223372036854775807) (hc : TSAt w w.heap.size a l) (hz : -9223372036854775808 ≤ z ∧ z ≤ 9223372036854775807) :
    Calls Try.prog 8 #[.slice a l.length cap, .int .i64 z] w fun e w' => e = .returned (.bool true) ∧ Below w.heap.size w w' := by
  have hll : l.length ≤ 9223372036854775807 := by omega
  have HA := awake_any w
  have HC := Lib.hid hc
  by_cases hz1 : z < -100
  · clear hc
    go_enter Try.func8, Try.ntmps8
    go_wp2_with (go_at_call 12; refine HA.mono ?_; rintro e w1 ⟨rfl, hb1⟩)
    go_ret
    exact ⟨rfl, hb1⟩
  by_cases hz2 : 100 < z
  · clear hc
    go_enter Try.func8, Try.ntmps8
    go_wp2_with (go_at_call 12; refine HA.mono ?_; rintro e w1 ⟨rfl, hb1⟩)
    go_ret
    exact ⟨rfl, hb1⟩
  have HO := Lib.hid (fun W (hb : Below w.heap.size w W) => overload_any l z a cap W hll hz (hc.on hb hb.size))
  have HH := Lib.hid (fun W (hb : Below w.heap.size w W) => hyper_any l a cap W hll (hc.on hb hb.size))
  have HF := Lib.hid (fun W (hb : Below w.heap.size w W) => fits_any l z a cap W hll hz (hc.on hb hb.size))
  by_cases h0 : (hypR l).2 = 0
  · obtain ⟨hok, hle, he⟩ := hypR_ok h0
    have HD := Lib.hid (fun W (hb : Below w.heap.size w W) => demand_any l (hyp l l.length : Nat) a cap W hll (by have hM : MT = 1099511627776 := rfl; omega) (hc.on hb hb.size))
    rw [demR_ok hok hle] at HD
    rw [he] at HH
    rcases over_cases (z := z) h0 with ⟨ho, hf⟩ | ⟨ho, hf, hlt⟩
    · rw [ho] at HO
      rw [hf] at HF
      have HO := HO.out
      have HH := HH.out
      have HF := HF.out
      clear hc hok hle he h0 ho hf HD
      generalize (hyp l l.length : Int) = H at *
      go_enter Try.func8, Try.ntmps8
      go_wp2_with (go_at_call 12; refine HA.mono ?_; rintro e w1 ⟨rfl, hb1⟩)
      refine (HO _ hb1).mono ?_
      rintro e w2 ⟨rfl, hb2⟩
      have b2 := hb1.trans (hb2.mono hb1.size)
      simp only []
      go_wp2_with fail
      refine (HH _ b2).mono ?_
      rintro e w3 ⟨rfl, hb3⟩
      have b3 := b2.trans (hb3.mono b2.size)
      simp only []
      go_wp2_with fail
      refine (HF _ b3).mono ?_
      rintro e w4 ⟨rfl, hb4⟩
      have b4 := b3.trans (hb4.mono b3.size)
      clear hb1 hb2 hb3 hb4 b2 b3 HO HH HF HA
      simp only []
      go_wp2_with fail
      go_ret
      exact ⟨rfl, b4⟩
    · rw [ho] at HO
      rw [hf] at HF
      have HO := HO.out
      have HH := HH.out
      have HF := HF.out
      have HD := HD.out
      have hm := mul_fit (z := z) (by omega) (by omega) hle
      obtain ⟨ZH, hZH⟩ : ∃ ZH : Int, ZH = z * (hyp l l.length : Int) := ⟨_, rfl⟩
      have hm : wrap64 (z * (hyp l l.length : Int)) = ZH := hm.trans hZH.symm
      have HLT := Lib.hid hlt
      rw [← hZH] at hlt
      clear hc hok hle he h0 ho hf hZH
      generalize dem l (hyp l l.length) l.length = D at *
      generalize hyp l l.length = H at *
      go_enter Try.func8, Try.ntmps8
      go_wp2_with (go_at_call 12; refine HA.mono ?_; rintro e w1 ⟨rfl, hb1⟩)
      refine (HO _ hb1).mono ?_
      rintro e w2 ⟨rfl, hb2⟩
      have b2 := hb1.trans (hb2.mono hb1.size)
      simp only []
      go_wp2_with fail
      refine (HH _ b2).mono ?_
      rintro e w3 ⟨rfl, hb3⟩
      have b3 := b2.trans (hb3.mono b2.size)
      simp only []
      go_wp2_with fail
      refine (HF _ b3).mono ?_
      rintro e w4 ⟨rfl, hb4⟩
      have b4 := b3.trans (hb4.mono b3.size)
      simp only []
      go_wp2_with fail
      refine (HD _ b4).mono ?_
      rintro e w5 ⟨rfl, hb5⟩
      have b5 := b4.trans (hb5.mono b4.size)
      clear hb1 hb2 hb3 hb4 hb5 b2 b3 b4 HO HH HF HD HA
      simp only []
      go_wp2_with fail
      go_ret
      exact ⟨ret_bool (decide_eq_true HLT.out), b5⟩
  · have ho := over_none (z := z) h0
    rw [ho] at HO
    have h0b : ((hypR l).2 != 0) = true := by simp [h0]
    have HO := HO.out
    have HH := HH.out
    clear hc ho HF
    generalize (hypR l).2 = e2 at *
    generalize (hypR l).1 = e1 at *
    go_enter Try.func8, Try.ntmps8
    go_wp2_with (go_at_call 12; refine HA.mono ?_; rintro e w1 ⟨rfl, hb1⟩)
    refine (HO _ hb1).mono ?_
    rintro e w2 ⟨rfl, hb2⟩
    have b2 := hb1.trans (hb2.mono hb1.size)
    simp only []
    go_wp2_with fail
    refine (HH _ b2).mono ?_
    rintro e w3 ⟨rfl, hb3⟩
    have b3 := b2.trans (hb3.mono b2.size)
    clear hb1 hb2 hb3 b2 HO HH HA
    simp only []
    go_wp2_with fail
    go_ret
    exact ⟨rfl, b3⟩
end Go.Proofs.Ytdjpkebajcpfbaa
