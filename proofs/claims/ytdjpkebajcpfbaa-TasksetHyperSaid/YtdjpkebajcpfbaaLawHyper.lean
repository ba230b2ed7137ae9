/- The walk over TasksetHyper: it answers true. Conditions: the tasks lie in memory. -/
import Derived.Test.YtdjpkebajcpfbaaAwake41
namespace Go.Proofs.Ytdjpkebajcpfbaa
open Go.RowKit Go.Deep

/-- The first k periods divide m. -/
def divA (l : List TT) (m k : Nat) : Bool := (List.range k).all fun j => decide (m % tp l j = 0)
theorem divA_succ (l : List TT) (m k : Nat) : divA l m (k + 1) = (divA l m k && decide (m % tp l k = 0)) := by
  unfold divA
  rw [List.range_succ, List.all_append]
  simp
theorem divA_no {l : List TT} (hok : tsOK l = true) (hle : hyp l l.length ≤ MT) {p : Nat} (hp : 2 ≤ p) (hd : hyp l l.length % p = 0) : divA l (hyp l l.length / p) l.length = false := by
  rcases hb : divA l (hyp l l.length / p) l.length with _ | _
  · rfl
  · exfalso
    unfold divA at hb
    rw [List.all_eq_true] at hb
    have h1 := hyp_least hle (m := hyp l l.length / p) l.length (Nat.le_refl _) (fun i hi => Nat.dvd_of_mod_eq_zero (of_decide_eq_true (hb i (by simpa using hi))))
    have h2 := hyp_pos hok l.length (Nat.le_refl _)
    obtain ⟨c, hc⟩ := Nat.dvd_of_mod_eq_zero hd
    have hp0 : 0 < p := by omega
    rw [hc, Nat.mul_div_cancel_left _ hp0, ← hc] at h1
    have hc0 : 0 < c := by
      rcases Nat.eq_zero_or_pos c with h | h
      · rw [h] at hc; omega
      · exact h
    have h3 := Nat.le_of_dvd hc0 h1
    have h4 : 2 * c ≤ p * c := Nat.mul_le_mul_right _ hp
    omega
theorem load_parts {H D : Nat} (hH : 0 < H) : 0 < H / Nat.gcd D H ∧ H % (H / Nat.gcd D H) = 0 ∧ H / (H / Nat.gcd D H) * (D / Nat.gcd D H) = D := by
  have hg : 0 < Nat.gcd D H := Nat.gcd_pos_of_pos_right _ hH
  obtain ⟨a, ha⟩ := Nat.gcd_dvd_left D H
  obtain ⟨b, hb⟩ := Nat.gcd_dvd_right D H
  generalize Nat.gcd D H = g at *
  have hb0 : 0 < b := by
    rcases Nat.eq_zero_or_pos b with h | h
    · rw [h] at hb; omega
    · exact h
  subst ha
  rw [hb, Nat.mul_div_cancel_left _ hg, Nat.mul_div_cancel_left _ hg, Nat.mul_mod_left, Nat.mul_div_cancel _ hb0]
  exact ⟨hb0, rfl, rfl⟩
theorem modN_cast (a b : Nat) : (a : Int) % (b : Int) = ((a % b : Nat) : Int) := (Int.natCast_emod a b).symm
theorem ne_mod0 {a b : Nat} (h : a % b = 0) : ((a : Int) % (b : Int) != 0) = false := by rw [modN_cast, h]; rfl
theorem ne_mod1 {a b : Nat} (h : ¬ a % b = 0) : ((a : Int) % (b : Int) != 0) = true := by rw [modN_cast]; exact bne_iff_ne.2 (by omega)
theorem eq_tmod (a b : Nat) : ((a : Int).tmod (b : Int) == 0) = decide (a % b = 0) := by
  rw [tmod_nat]
  by_cases h : a % b = 0
  · rw [decide_eq_true h]; exact beq_iff_eq.2 (by omega)
  · rw [decide_eq_false h]; exact beq_eq_false_iff_ne.2 (by omega)
theorem eq_mod (a b : Nat) : ((a : Int) % (b : Int) == 0) = decide (a % b = 0) := by
  rw [modN_cast]
  by_cases h : a % b = 0
  · rw [decide_eq_true h]; exact beq_iff_eq.2 (by omega)
  · rw [decide_eq_false h]; exact beq_eq_false_iff_ne.2 (by omega)

set_option maxRecDepth 100000 in
set_option maxHeartbeats 6400000 in
theorem law_hyper (l : List TT) (a : Option Addr) (cap : Nat) (w : World) (hl : l.length ≤ cap) (hcap : cap ≤ 9223372036854775807) (hc : TSAt w w.heap.size a l) :
    Calls Try.prog 5 #[.slice a l.length cap] w fun e w' => e = .returned (.bool true) ∧ Below w.heap.size w w' := by
  have hll : l.length ≤ 9223372036854775807 := by omega
  have HA := awake_any w
  have HC := Lib.hid hc
  have HH := Lib.hid (fun W (hb : Below w.heap.size w W) => hyper_any l a cap W hll (hc.on hb hb.size))
  by_cases h0 : (hypR l).2 = 0
  · obtain ⟨hok, hle, he⟩ := hypR_ok h0
    have hM : MT = 1099511627776 := rfl
    have HD := Lib.hid (fun W (hb : Below w.heap.size w W) => demand_any l (hyp l l.length : Nat) a cap W hll (by omega) (hc.on hb hb.size))
    have HL := Lib.hid (fun W (hb : Below w.heap.size w W) => load_any l a cap W hll (hc.on hb hb.size))
    have hld : loadR l = _ := if_pos h0
    rw [hld] at HL
    rw [demR_ok hok hle] at HD
    rw [he] at HH
    have hpos := hyp_pos hok l.length (Nat.le_refl _)
    have HPD := Lib.hid (fun i (hi : i < l.length) => hyp_dvd hle l.length (Nat.le_refl _) hi)
    have HNO := Lib.hid (fun p (hp : 2 ≤ p) (hd : hyp l l.length % p = 0) => divA_no hok hle hp hd)
    obtain ⟨lp1, lp2, lp3⟩ := load_parts (H := hyp l l.length) (D := dem l (hyp l l.length) l.length) hpos
    have HOK := Lib.hid hok
    have hd2 : dem l (hyp l l.length) l.length ≤ 43980465111040 := Nat.le_trans (dem_le hok _ l.length (Nat.le_refl _)) (Nat.le_trans (Nat.mul_le_mul (tsOK_bd hok).1 hle) (by decide))
    have hl40 := (tsOK_bd hok).1
    have HH := HH.out
    have HL := HL.out
    have HD := HD.out
    clear hc hok he h0 hld
    generalize dem l (hyp l l.length) l.length = D at *
    generalize hyp l l.length = H at *
    have hHI : (H : Int) ≤ 1099511627776 := by omega
    have hlI : (l.length : Int) ≤ 40 := by omega
    have LP := Lib.hid (And.intro lp2 lp3)
    generalize D / Nat.gcd D H = n at *
    generalize H / Nat.gcd D H = d at *
    clear lp2 lp3
    go_enter Try.func5, Try.ntmps5
    go_wp2_with (go_at_call 12; refine HA.mono ?_; rintro e w1 ⟨rfl, hb1⟩)
    refine (HH _ hb1).mono ?_
    rintro e w2 ⟨rfl, hb2⟩
    have b2 := hb1.trans (hb2.mono hb1.size)
    clear hb1 hb2 HH HA
    simp only []
    go_wp2_with fail
    go_loopw [5] (fun u wr => ∃ k : Nat, u = .int .i64 k ∧ k ≤ l.length ∧ Below w.heap.size w wr) (fun u _ => l.length - (intOf u).toNat)
    case atStart => exact ⟨0, rfl, by omega, b2⟩
    case round =>
      clear b2
      obtain ⟨k, rfl, hk, hbl⟩ := hrel
      by_cases h0 : k < l.length
      · obtain ⟨b, off, rfl, hbN, hcell⟩ := HC.out (by intro e; simp [e] at h0)
        obtain ⟨_, _, c2⟩ := hcell k _ (ttAt_get h0)
        have c2 := keep_cellN hbl hbN c2
        obtain ⟨t1, t2, t3, t4, t5⟩ := tsOK_at HOK.out h0
        rw [t5] at c2
        have hbr : b < wr.heap.size := by have := hbl.size; omega
        have hkl : (k : Int) < (l.length : Int) := by omega
        have hpI : ¬ ((tp l k : Nat) : Int) = 0 := by omega
        have hmb := ne_mod0 (Nat.mod_eq_zero_of_dvd (HPD.out k h0))
        clear hcell t4 t5
        generalize tp l k = pp at *
        go_wp2_with fail
        go_roundw
        case rel => exact ⟨k + 1, by go_num, by omega, hbl⟩
        case measure => simp [intOf]; omega
      · obtain rfl : k = l.length := by omega
        generalize wr = w3 at *
        go_wp2_with fail
        go_loopw [6] (fun u wr => ∃ p : Nat, u = .int .i64 p ∧ 2 ≤ p ∧ p ≤ 1001 ∧ Below w.heap.size w wr) (fun u _ => 1001 - (intOf u).toNat)
        case atStart => exact ⟨2, rfl, by omega, by omega, hbl⟩
        case round =>
          clear hbl
          obtain ⟨p, rfl, hp2, hp3, hbl⟩ := hrel
          generalize wr = w4 at *
          by_cases hgo : p ≤ 1000 ∧ p ≤ H
          · obtain ⟨hp4, hp5⟩ := hgo
            have hp4I : (p : Int) ≤ 1000 := by omega
            have hp5I : (p : Int) ≤ (H : Int) := by omega
            have hpI : ¬ (p : Int) = 0 := by omega
            by_cases hd : H % p = 0
            · have hmb := ne_mod0 hd
              have HN := Lib.hid (HNO.out p hp2 hd)
              have HQ := Lib.hid (show (H : Int) / (p : Int) = ((H / p : Nat) : Int) from (Int.natCast_ediv H p).symm)
              have hqM : H / p ≤ 1099511627776 := Nat.le_trans (Nat.div_le_self _ _) (by omega)
              go_wp2_with fail
              clear hmb
              go_loopw [8, 7] (fun u v wr => ∃ (k : Nat), u = .int .i64 k ∧ k ≤ l.length ∧ v = .bool (divA l (H / p) k) ∧ Below w.heap.size w wr) (fun u _ _ => l.length - (intOf u).toNat)
              case atStart => exact ⟨0, rfl, by omega, rfl, hbl⟩
              case round =>
                clear hbl
                obtain ⟨k, rfl, hk, rfl, hbl⟩ := hrel
                by_cases h0 : k < l.length
                · obtain ⟨b, off, rfl, hbN, hcell⟩ := HC.out (by intro e; simp [e] at h0)
                  obtain ⟨_, _, c2⟩ := hcell k _ (ttAt_get h0)
                  have c2 := keep_cellN hbl hbN c2
                  obtain ⟨t1, t2, t3, t4, t5⟩ := tsOK_at HOK.out h0
                  rw [t5] at c2
                  have hbr : b < wr.heap.size := by have := hbl.size; omega
                  have hkl : (k : Int) < (l.length : Int) := by omega
                  have hpp : ¬ ((tp l k : Nat) : Int) = 0 := by omega
                  have HS := Lib.hid (divA_succ l (H / p) k)
                  have heq := eq_tmod (H / p) (tp l k)
                  have hqw : wrap64 ((H / p : Nat) : Int) = ((H / p : Nat) : Int) := IntWalk.wrap64_in _ (by clear heq; generalize H / p = q at *; omega)
                  rw [← HQ.out] at heq hqw
                  clear hcell t4 t5
                  generalize decide (H / p % tp l k = 0) = dd at *
                  generalize tp l k = pp at *
                  rcases hA : divA l (H / p) k with _ | _
                  · rw [hA] at HS
                    clear heq
                    go_upto_region 19 with fail
                    go_quiet (fail)
                    go_wp2_with fail
                    go_roundw
                    case rel => exact ⟨k + 1, by go_num, by omega, by rw [HS.out]; rfl, below_drewN hbl _⟩
                    case measure => simp [intOf]; omega
                  · rw [hA] at HS
                    go_upto_region 19 with fail
                    go_quiet (fail)
                    go_wp2_with fail
                    go_roundw
                    case rel => exact ⟨k + 1, by go_num, by omega, by rw [HS.out]; rfl, below_drewN hbl _⟩
                    case measure => simp [intOf]; omega
                · obtain rfl : k = l.length := by omega
                  rw [HN.out]
                  go_wp2_with fail
                  go_roundw
                  case rel => exact ⟨p + 1, by go_num, by omega, by omega, hbl⟩
                  case measure => simp [intOf]; omega
            · have hmb := ne_mod1 hd
              go_wp2_with fail
              go_roundw
              case rel => exact ⟨p + 1, by go_num, by omega, by omega, hbl⟩
              case measure => simp [intOf]; omega
          · by_cases hp4 : p ≤ 1000
            · have hp4I : (p : Int) ≤ 1000 := by omega
              have hp5I : ¬ (p : Int) ≤ (H : Int) := by omega
              clear HPD HNO HC HOK
              have hd1 : ¬ (d : Int) < 1 := by omega
              have hdI : ¬ (d : Int) = 0 := by omega
              have hd0 : ¬ d = 0 := by omega
              have hmb : ((H : Int) % (d : Int) == 0) = true := by rw [eq_mod]; exact decide_eq_true LP.out.1
              have hmb2 : ((H : Int).tmod (d : Int) == 0) = true := by rw [eq_tmod]; exact decide_eq_true LP.out.1
              have HX := Lib.hid (show IntKind.i64.wrap (IntKind.i64.wrap ((H : Int) / (d : Int)) * (n : Int)) = (D : Int) from by
                have h1 : H / d ≤ 1099511627776 := Nat.le_trans (Nat.div_le_self _ _) (by omega)
                rw [show (H : Int) / (d : Int) = ((H / d : Nat) : Int) from (Int.natCast_ediv H d).symm]
                have h2 := LP.out.2
                generalize H / d = q at *
                rw [IntWalk.i64_in (q : Int) (by omega), ← Int.natCast_mul, h2]
                exact IntWalk.i64_in _ (by omega))
              go_wp2_with fail
              refine (HL _ hbl).mono ?_
              rintro e w5 ⟨rfl, hb5⟩
              have s0 := hbl.trans (hb5.mono hbl.size)
              clear hb5 hbl HL LP
              simp only []
              go_upto_region 25 with fail
              clear hd1
              refine wp_region_quiet (C := fun W => Below w5.heap.size w5 W) (by kernel_rfl) (by kernel_rfl) (Below.refl _ _).drew ?_
              repeat (
                refine wpQuiet_step (fun K hK => ?_)
                go_simp
                first
                  | (refine hK _ ?_; clear hK K)
                  | (apply Exists.intro
                     refine ⟨fun W q0 => ?_, hK _ ?_⟩
                     (first
                       | rfl
                       | (go_at_call 18; ((with_reducible refine (HD _ (s0.trans (Below.mono q0 s0.size))).mono ?_)); rintro e w6 ⟨rfl, hb6⟩; exact ⟨rfl, q0.trans (hb6.mono q0.size)⟩))
                     clear hK K))
              refine wpQuiet_nil ?_
              intro w6 hW
              have s6 := s0.trans (hW.mono s0.size)
              go_wp2_with fail
              go_ret
              exact ⟨ret_bool (by simp [HX.out]), s6⟩
            · have hp4I : ¬ (p : Int) ≤ 1000 := by omega
              clear HPD HNO HC HOK
              have hd1 : ¬ (d : Int) < 1 := by omega
              have hdI : ¬ (d : Int) = 0 := by omega
              have hd0 : ¬ d = 0 := by omega
              have hmb : ((H : Int) % (d : Int) == 0) = true := by rw [eq_mod]; exact decide_eq_true LP.out.1
              have hmb2 : ((H : Int).tmod (d : Int) == 0) = true := by rw [eq_tmod]; exact decide_eq_true LP.out.1
              have HX := Lib.hid (show IntKind.i64.wrap (IntKind.i64.wrap ((H : Int) / (d : Int)) * (n : Int)) = (D : Int) from by
                have h1 : H / d ≤ 1099511627776 := Nat.le_trans (Nat.div_le_self _ _) (by omega)
                rw [show (H : Int) / (d : Int) = ((H / d : Nat) : Int) from (Int.natCast_ediv H d).symm]
                have h2 := LP.out.2
                generalize H / d = q at *
                rw [IntWalk.i64_in (q : Int) (by omega), ← Int.natCast_mul, h2]
                exact IntWalk.i64_in _ (by omega))
              go_wp2_with fail
              refine (HL _ hbl).mono ?_
              rintro e w5 ⟨rfl, hb5⟩
              have s0 := hbl.trans (hb5.mono hbl.size)
              clear hb5 hbl HL LP
              simp only []
              go_upto_region 25 with fail
              clear hd1
              refine wp_region_quiet (C := fun W => Below w5.heap.size w5 W) (by kernel_rfl) (by kernel_rfl) (Below.refl _ _).drew ?_
              repeat (
                refine wpQuiet_step (fun K hK => ?_)
                go_simp
                first
                  | (refine hK _ ?_; clear hK K)
                  | (apply Exists.intro
                     refine ⟨fun W q0 => ?_, hK _ ?_⟩
                     (first
                       | rfl
                       | (go_at_call 18; ((with_reducible refine (HD _ (s0.trans (Below.mono q0 s0.size))).mono ?_)); rintro e w6 ⟨rfl, hb6⟩; exact ⟨rfl, q0.trans (hb6.mono q0.size)⟩))
                     clear hK K))
              refine wpQuiet_nil ?_
              intro w6 hW
              have s6 := s0.trans (hW.mono s0.size)
              go_wp2_with fail
              go_ret
              exact ⟨ret_bool (by simp [HX.out]), s6⟩
  · have h0b : ((hypR l).2 != 0) = true := by simp [h0]
    have HH := HH.out
    clear hc
    generalize (hypR l).2 = e2 at *
    generalize (hypR l).1 = e1 at *
    go_enter Try.func5, Try.ntmps5
    go_wp2_with (go_at_call 12; refine HA.mono ?_; rintro e w1 ⟨rfl, hb1⟩)
    refine (HH _ hb1).mono ?_
    rintro e w2 ⟨rfl, hb2⟩
    have b2 := hb1.trans (hb2.mono hb1.size)
    clear hb1 hb2 HH HA
    simp only []
    go_wp2_with fail
    go_ret
    exact ⟨rfl, b2⟩
end Go.Proofs.Ytdjpkebajcpfbaa
