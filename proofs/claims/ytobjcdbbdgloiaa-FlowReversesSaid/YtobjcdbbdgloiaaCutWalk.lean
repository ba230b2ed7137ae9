/- The walk over the reference's Cut. Conditions: a small valid network lies in memory. -/
import Derived.Test.YtobjcdbbdgloiaaCutRef
import Derived.Test.YtobjcdbbdgloiaaCutP
namespace Go.Proofs.Ytobjcdbbdgloiaa
open Go.RowKit Go.Deep

theorem sm_bd {f : Nat → Int} {k : Nat} {M : Int} (h : ∀ i, i < k → 0 ≤ f i ∧ f i ≤ M) : 0 ≤ sm k f ∧ sm k f ≤ M * k := by
  refine ⟨sm_nonneg fun i hi => (h i hi).1, ?_⟩
  have := sm_le (n := k) (f := f) (g := fun _ => M) (fun i hi => (h i hi).2)
  rwa [sm_const] at this
/-- The entry of a cut. -/
def entC (c : Nat → Nat → Int) (m u v : Nat) : Int := if bitS m u = true ∧ bitS m v = false then c u v else 0
theorem entC_yes {c : Nat → Nat → Int} {m u v : Nat} (h1 : bit m u = 1) (h2 : bit m v = 0) : entC c m u v = c u v := by
  unfold entC bitS; simp [h1, h2]
theorem entC_no {c : Nat → Nat → Int} {m u v : Nat} (h : bit m u = 0 ∨ bit m v = 1) : entC c m u v = 0 := by
  unfold entC bitS
  rcases h with h | h <;> simp [h]
theorem meas_up {n v : Nat} (h : v < n) : n - (intOf (.int .i64 ((v : Int) + 1))).toNat < n - (intOf (.int .i64 (v : Int))).toNat := by
  simp [intOf]; omega
theorem quo_of {m k : Nat} : (m : Int) / ((2 ^ k : Nat) : Int) = ((m / 2 ^ k : Nat) : Int) := rfl

set_option maxRecDepth 100000 in
set_option maxHeartbeats 6400000 in
theorem cut_any (n s t O o cap : Nat) (c : Nat → Nat → Int) (w : World) (hn : n ≤ 8) (hs : s < n) (ht : t < n) (hcb : ∀ p q, p < n → q < n → 0 ≤ c p q ∧ c p q ≤ 1073741824) (hm : MatAt w w.heap.size O o n c) :
    Calls Try.prog 15 #[.slice (some ⟨O, o, none⟩) n cap, .int .i64 s, .int .i64 t] w fun e w' => (∃ best, e = .returned (.int .i64 best) ∧ Best n c s t (2 ^ n) best) ∧ w = w' := by
  have hnI : (n : Int) ≤ 8 := by omega
  have hn0 : (0 : Int) ≤ (n : Int) := by omega
  obtain ⟨N2, hN2⟩ : ∃ N2, 2 ^ n = N2 := ⟨_, rfl⟩
  have hle : N2 ≤ 256 := by rw [← hN2]; exact Nat.pow_le_pow_right (by decide) hn
  have hpos : 0 < N2 := by rw [← hN2]; exact Nat.pow_pos (by decide)
  have hw2 : wrap64 ((2 : Int) ^ n) = (N2 : Int) := by
    have e : (2 : Int) ^ n = (N2 : Int) := by rw [← hN2]; exact (Int.natCast_pow 2 n).symm
    rw [e]
    exact IntWalk.wrap64_in _ ⟨by omega, by omega⟩
  have HN2 := Lib.hid hN2
  have HCB := Lib.hid hcb
  have HM := Lib.hid hm.2
  have hOl := hm.1
  have hc0 := Lib.hid (fun S => cut_nonneg (n := n) (c := c) (fun u v hu hv => (hcb u v hu hv).1) S)
  clear hN2 hcb hm
  -- the powers that are asked for
  have PW := Lib.hid (fun k (hk : k < n) => show ∃ P : Nat, 0 < P ∧ P ≤ 256 ∧ (∀ m, m / P % 2 = bit m k) ∧ Calls Try.prog 30 #[.int .i64 (k : Int)] w fun e w' => e = .returned (.int .i64 (P : Int)) ∧ w = w' from
    ⟨2 ^ k, Nat.pow_pos (by decide), Nat.le_trans (Nat.pow_le_pow_right (by decide) (show k ≤ 8 by omega)) (by decide), fun m => rfl, pow_any k w (by omega)⟩)
  obtain ⟨Ps, ps0, ps1, ps2, ps3⟩ := PW.out s hs
  obtain ⟨Pt, pt0, pt1, pt2, pt3⟩ := PW.out t ht
  have HPS := Lib.hid ps2
  have HPT := Lib.hid pt2
  have CS := Lib.hid ps3
  have CT := Lib.hid pt3
  clear ps2 pt2 ps3 pt3
  go_enter Try.func15, Try.ntmps15
  go_wp2_with fail
  go_loop [9, 8] (fun u b => ∃ (m : Nat) (best : Int), u = .int .i64 m ∧ b = .int .i64 best ∧ m ≤ N2 ∧ -1 ≤ best ∧ Hid (Best n c s t m best)) (fun u _ => N2 - (intOf u).toNat)
  case atStart => exact ⟨0, -1, rfl, rfl, Nat.zero_le _, by decide, Best.init⟩
  case round =>
    obtain ⟨m, best, rfl, rfl, hm2, hb1, hbest⟩ := hrel
    by_cases hlt : m < N2
    · have hlt' : (m : Int) < (N2 : Int) := by omega
      have m0 : (0 : Int) ≤ (m : Int) := by omega
      obtain ⟨qs, hqs⟩ : ∃ qs, m / Ps = qs := ⟨_, rfl⟩
      obtain ⟨qt, hqt⟩ : ∃ qt, m / Pt = qt := ⟨_, rfl⟩
      have hbs := HPS.out m
      have hbt := HPT.out m
      rw [hqs] at hbs
      rw [hqt] at hbt
      have d1 : (m : Int) / (Ps : Int) = (qs : Int) := by rw [← hqs]; rfl
      have d2 : (m : Int).tdiv (Ps : Int) = (qs : Int) := by rw [Int.tdiv_eq_ediv_of_nonneg m0]; exact d1
      have d3 : (m : Int) / (Pt : Int) = (qt : Int) := by rw [← hqt]; rfl
      have d4 : (m : Int).tdiv (Pt : Int) = (qt : Int) := by rw [Int.tdiv_eq_ediv_of_nonneg m0]; exact d3
      have z1 : ¬ (Ps : Int) = 0 := by omega
      have z2 : ¬ (Pt : Int) = 0 := by omega
      have z3 : ¬ Ps = 0 := by omega
      have z4 : ¬ Pt = 0 := by omega
      have qs1 : qs ≤ 256 := by rw [← hqs]; exact Nat.le_trans (Nat.div_le_self m Ps) (by omega)
      have qt1 : qt ≤ 256 := by rw [← hqt]; exact Nat.le_trans (Nat.div_le_self m Pt) (by omega)
      clear hqs hqt
      have e1 : (qs : Int) % 2 = ((bit m s : Nat) : Int) := by rw [← hbs]; rfl
      have e2 : (qs : Int).tmod 2 = ((bit m s : Nat) : Int) := by rw [Int.tmod_eq_emod_of_nonneg (by omega)]; exact e1
      have e3 : (qt : Int) % 2 = ((bit m t : Nat) : Int) := by rw [← hbt]; rfl
      have e4 : (qt : Int).tmod 2 = ((bit m t : Nat) : Int) := by rw [Int.tmod_eq_emod_of_nonneg (by omega)]; exact e3
      have hbs01 := bit_01 m s
      have hbt01 := bit_01 m t
      have HSK := Lib.hid (fun h => hbest.out.skip h)
      have HTK := Lib.hid (fun h1 h2 h3 => hbest.out.take hc0.out h1 h2 h3)
      have HKP := Lib.hid (fun h => hbest.out.keep h)
      clear hbs hbt hbest
      generalize bit m s = bs at *
      generalize bit m t = bt at *
      by_cases hv : bs = 1 ∧ bt = 0
      · obtain ⟨rfl, rfl⟩ := hv
        go_wp2_with (first | (go_at_call 30; ((with_reducible refine (CS.out).mono ?_); rintro e w' ⟨rfl, rfl⟩)) | (go_at_call 30; ((with_reducible refine (CT.out).mono ?_); rintro e w' ⟨rfl, rfl⟩)))
        clear HSK d1 d2 d3 d4 e1 e2 e3 e4 hbs01 hbt01
        have HROW := Lib.hid (fun u (hu : u < n) k (hk : k ≤ n) => sm_bd (k := k) (M := 1073741824) (f := fun v => entC c m u v) (fun v hv => by
          have := HCB.out u v hu (by omega)
          unfold entC; split <;> omega))
        have HTOT := Lib.hid (fun k (hk : k ≤ n) => sm_bd (k := k) (M := 8589934592) (f := fun u => sm n (fun v => entC c m u v)) (fun u hu => by
          have h := HROW.out u (by omega) n (Nat.le_refl n)
          omega))
        have HCUT := Lib.hid (show cutV n c (bitS m) = sm n (fun u => sm n (fun v => entC c m u v)) from rfl)
        go_loop [11, 10] (fun x y => ∃ u : Nat, x = .int .i64 u ∧ y = .int .i64 (sm u (fun u => sm n (fun v => entC c m u v))) ∧ u ≤ n) (fun x _ => n - (intOf x).toNat)
        case atStart => exact ⟨0, rfl, rfl, Nat.zero_le _⟩
        case round =>
          obtain ⟨u, rfl, rfl, hu⟩ := hrel
          by_cases hul : u < n
          · have u0 : (0 : Int) ≤ (u : Int) := by omega
            have u1 : (u : Int) < (n : Int) := by omega
            have HT := Lib.hid (HTOT.out u hu)
            have HSU := Lib.hid (show sm (u + 1) (fun u => sm n (fun v => entC c m u v)) = sm u (fun u => sm n (fun v => entC c m u v)) + sm n (fun v => entC c m u v) from rfl)
            obtain ⟨h1, h2⟩ := HT.out
            generalize sm u (fun u => sm n (fun v => entC c m u v)) = A at *
            have h3 : A ≤ 68719476736 := by omega
            clear HT h2
            go_wp2_with fail
            go_loop [12, 10] (fun x y => ∃ v : Nat, x = .int .i64 v ∧ y = .int .i64 (A + sm v (fun v => entC c m u v)) ∧ v ≤ n) (fun x _ => n - (intOf x).toNat)
            case atStart => exact ⟨0, rfl, by show Value.int .i64 A = .int .i64 (A + 0); rw [Int.add_zero], Nat.zero_le _⟩
            case round =>
              obtain ⟨v, rfl, rfl, hv2⟩ := hrel
              by_cases hvl : v < n
              · have v0 : (0 : Int) ≤ (v : Int) := by omega
                have v1 : (v : Int) < (n : Int) := by omega
                obtain ⟨g1, g2⟩ := HROW.out u hul v hv2
                have HSV := Lib.hid (show sm (v + 1) (fun v => entC c m u v) = sm v (fun v => entC c m u v) + entC c m u v from rfl)
                generalize sm v (fun v => entC c m u v) = Bv at *
                have g3 : Bv ≤ 8589934592 := by omega
                obtain ⟨k1, k2⟩ := HCB.out u v hul hvl
                obtain ⟨rb, rf, rc, c0, c1, c2, c3, c4⟩ := HM.out u hul
                have x0 := c4 v hvl
                have hbu := bit_01 m u
                have hbv := bit_01 m v
                have EY := Lib.hid (fun h1 h2 => entC_yes (c := c) (m := m) (u := u) (v := v) h1 h2)
                have EN := Lib.hid (fun h => entC_no (c := c) (m := m) (u := u) (v := v) h)
                clear c4
                obtain ⟨Pu, Pu0, Pu1, Pu2, Pu3⟩ := PW.out u hul
                have HPu := Lib.hid Pu2
                have CPu := Lib.hid Pu3
                clear Pu2 Pu3
                obtain ⟨qu, hqu⟩ : ∃ qu, m / Pu = qu := ⟨_, rfl⟩
                have hbqu := HPu.out m
                rw [hqu] at hbqu
                have y1 : (m : Int) / (Pu : Int) = (qu : Int) := by rw [← hqu]; rfl
                have y2 : (m : Int).tdiv (Pu : Int) = (qu : Int) := by rw [Int.tdiv_eq_ediv_of_nonneg m0]; exact y1
                have yz : ¬ (Pu : Int) = 0 := by omega
                have yy : ¬ Pu = 0 := by omega
                have qu1 : qu ≤ 256 := by rw [← hqu]; exact Nat.le_trans (Nat.div_le_self m Pu) (by omega)
                clear hqu
                have y3 : (qu : Int) % 2 = ((bit m u : Nat) : Int) := by rw [← hbqu]; rfl
                have y4 : (qu : Int).tmod 2 = ((bit m u : Nat) : Int) := by rw [Int.tmod_eq_emod_of_nonneg (by omega)]; exact y3
                clear hbqu
                obtain ⟨Pv, Pv0, Pv1, Pv2, Pv3⟩ := PW.out v hvl
                have HPv := Lib.hid Pv2
                have CPv := Lib.hid Pv3
                clear Pv2 Pv3
                obtain ⟨qv, hqv⟩ : ∃ qv, m / Pv = qv := ⟨_, rfl⟩
                have hbqv := HPv.out m
                rw [hqv] at hbqv
                have x1 : (m : Int) / (Pv : Int) = (qv : Int) := by rw [← hqv]; rfl
                have x2 : (m : Int).tdiv (Pv : Int) = (qv : Int) := by rw [Int.tdiv_eq_ediv_of_nonneg m0]; exact x1
                have xz : ¬ (Pv : Int) = 0 := by omega
                have xy : ¬ Pv = 0 := by omega
                have qv1 : qv ≤ 256 := by rw [← hqv]; exact Nat.le_trans (Nat.div_le_self m Pv) (by omega)
                clear hqv
                have x3 : (qv : Int) % 2 = ((bit m v : Nat) : Int) := by rw [← hbqv]; rfl
                have x4 : (qv : Int).tmod 2 = ((bit m v : Nat) : Int) := by rw [Int.tmod_eq_emod_of_nonneg (by omega)]; exact x3
                clear hbqv
                generalize bit m u = bu at *
                generalize c u v = cuv at *
                by_cases hbu1 : bu = 1
                · by_cases hbv1 : bit m v = 0
                  · have HE := Lib.hid (EY.out hbu1 hbv1)
                    rw [hbv1] at x3 x4
                    subst hbu1
                    clear EY EN hbu hbv hbv1
                    go_wp2_with (first | (go_at_call 30; ((with_reducible refine (CPu.out).mono ?_); rintro e w' ⟨rfl, rfl⟩)) | (go_at_call 30; ((with_reducible refine (CPv.out).mono ?_); rintro e w' ⟨rfl, rfl⟩)))
                    go_round
                    case rel => exact ⟨v + 1, by go_num, by rw [HSV.out, HE.out, Int.add_assoc], hvl⟩
                    case measure => exact meas_up hvl
                  · have hbv2 : bit m v = 1 := hbv.resolve_left hbv1
                    have HE := Lib.hid (EN.out (.inr hbv2))
                    rw [hbv2] at x3 x4
                    subst hbu1
                    clear EY EN hbu hbv hbv1 hbv2
                    go_wp2_with (first | (go_at_call 30; ((with_reducible refine (CPu.out).mono ?_); rintro e w' ⟨rfl, rfl⟩)) | (go_at_call 30; ((with_reducible refine (CPv.out).mono ?_); rintro e w' ⟨rfl, rfl⟩)))
                    go_round
                    case rel => exact ⟨v + 1, by go_num, by rw [HSV.out, HE.out, Int.add_zero], hvl⟩
                    case measure => exact meas_up hvl
                · obtain rfl : bu = 0 := hbu.resolve_right hbu1
                  have HE := Lib.hid (EN.out (.inl rfl))
                  clear EY EN hbu hbv hbu1 x3 x4
                  go_wp2_with (first | (go_at_call 30; ((with_reducible refine (CPu.out).mono ?_); rintro e w' ⟨rfl, rfl⟩)) | (go_at_call 30; ((with_reducible refine (CPv.out).mono ?_); rintro e w' ⟨rfl, rfl⟩)))
                  go_round
                  case rel => exact ⟨v + 1, by go_num, by rw [HSV.out, HE.out, Int.add_zero], hvl⟩
                  case measure => exact meas_up hvl
              · obtain rfl : v = n := by omega
                have HSU2 := HSU
                go_wp2_with fail
                go_round
                case rel => exact ⟨u + 1, by go_num, by rw [HSU2.out], by omega⟩
                case measure => simp [intOf]; omega
          · obtain rfl : u = n := by omega
            have HCUT2 := Lib.hid HCUT.out.symm
            obtain ⟨h1, h2⟩ := HTOT.out u (Nat.le_refl u)
            generalize sm u (fun u_1 => sm u (fun v => entC c m u_1 v)) = A at *
            have A1 : A ≤ 68719476736 := by omega
            clear h2 hu hul HROW HTOT PW HCB HM hm2
            by_cases hbb : best < 0 ∨ A < best
            · have HB := Lib.hid (HTK.out (by first | rfl | trivial) (by first | rfl | trivial) (by rw [← HCUT2.out]; exact hbb))
              rw [← HCUT2.out] at HB
              by_cases hbb0 : best < 0
              · have h9 : -1 ≤ A := by omega
                clear hbb
                go_upto_region 5 with fail
                clear hw2 hnI hn0 z1 z2 z3 z4 qs1 qt1 hbb0 A1 h1 hs ht hn ps0 ps1 pt0 pt1 hpos HTK HKP HCUT HCUT2 CS CT HPS HPT hc0 HN2
                go_wp2_with fail
                go_round
                case rel => exact ⟨m + 1, A, by go_num, rfl, by omega, h9, HB.out⟩
                case measure => simp [intOf]; omega
              · have hbb1 : A < best := by omega
                have h9 : -1 ≤ A := by omega
                clear hbb
                go_upto_region 5 with fail
                clear hw2 hnI hn0 z1 z2 z3 z4 qs1 qt1 hbb0 hbb1 A1 h1 hs ht hn ps0 ps1 pt0 pt1 hpos HTK HKP HCUT HCUT2 CS CT HPS HPT hc0 HN2
                go_wp2_with fail
                go_round
                case rel => exact ⟨m + 1, A, by go_num, rfl, by omega, h9, HB.out⟩
                case measure => simp [intOf]; omega
            · have HB := Lib.hid (HKP.out (by rw [← HCUT2.out]; exact hbb))
              have hbb0 : ¬ best < 0 := fun h => hbb (.inl h)
              have hbb1 : ¬ A < best := fun h => hbb (.inr h)
              clear hbb
              go_upto_region 5 with fail
              clear hw2 hnI hn0 z1 z2 z3 z4 qs1 qt1 hbb0 hbb1 A1 h1 hs ht hn ps0 ps1 pt0 pt1 hpos HTK HKP HCUT HCUT2 CS CT HPS HPT hc0 HN2
              go_wp2_with fail
              go_round
              case rel => exact ⟨m + 1, best, by go_num, rfl, by omega, hb1, HB.out⟩
              case measure => simp [intOf]; omega
      · have HS := Lib.hid (HSK.out hv)
        have hor : bs = 0 ∨ bt = 1 := by omega
        clear HSK HTK HKP
        by_cases h0 : bs = 0
        · subst h0
          clear hv hor
          go_wp2_with (go_at_call 30; refine (CS.out).mono ?_; rintro e w' ⟨rfl, rfl⟩)
          go_round
          case rel => exact ⟨m + 1, best, by go_num, rfl, by omega, hb1, HS.out⟩
          case measure => simp [intOf]; omega
        · obtain rfl : bs = 1 := by omega
          obtain rfl : bt = 1 := by omega
          clear hv hor h0
          go_wp2_with (first | (go_at_call 30; ((with_reducible refine (CS.out).mono ?_); rintro e w' ⟨rfl, rfl⟩)) | (go_at_call 30; ((with_reducible refine (CT.out).mono ?_); rintro e w' ⟨rfl, rfl⟩)))
          go_round
          case rel => exact ⟨m + 1, best, by go_num, rfl, by omega, hb1, HS.out⟩
          case measure => simp [intOf]; omega
    · obtain rfl : N2 = m := by omega
      have HB := Lib.hid (show Best n c s t (2 ^ n) best by rw [HN2.out]; exact hbest.out)
      clear hbest
      go_wp2_with fail
      go_ret
      exact ⟨⟨best, rfl, HB.out⟩, rfl⟩
end Go.Proofs.Ytobjcdbbdgloiaa
