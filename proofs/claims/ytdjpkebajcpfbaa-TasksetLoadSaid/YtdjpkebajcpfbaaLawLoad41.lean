/- The walk over TasksetLoad: it answers true. Conditions: the tasks lie in memory. -/
import Derived.Test.YtdjpkebajcpfbaaAwake41
import Derived.Test.YtdjpkebajcpfbaaRefSet
import Derived.Test.YtdjpkebajcpfbaaPlain41
namespace Go.Proofs.Ytdjpkebajcpfbaa
open Go.RowKit Go.Deep

def SQ (w : World) (g o : Nat) (v u : Value) (W : World) : Prop := Below w.heap.size w W ∧ W.cell? ⟨g, o + 1, none⟩ = some v ∧ W.cell? ⟨g, o + 2, none⟩ = some u ∧ g < W.heap.size
theorem SQ.next {w W W' : World} {g o : Nat} {v u : Value} (h : SQ w g o v u W) (hb : Below W.heap.size W W') : SQ w g o v u W' :=
  ⟨h.1.trans (hb.mono h.1.size), keep_cellN hb h.2.2.2 h.2.1, keep_cellN hb h.2.2.2 h.2.2.1, by have := hb.size; have := h.2.2.2; omega⟩
theorem SQ.drew {w W : World} {g o : Nat} {v u : Value} (h : SQ w g o v u W) : SQ w g o v u W.drew := h.next (Below.refl _ _).drew
theorem SQ.alloc {w W : World} {g o : Nat} {v u : Value} (h : SQ w g o v u W) (ob : Obj) : SQ w g o v u (W.alloc ob) := h.next ((Below.refl _ _).alloc (Nat.le_refl _) ob)
theorem SQ.put {w W : World} {g o gx : Nat} {v u : Value} (h : SQ w g o v u W) (hg : g < gx) (hx : w.heap.size ≤ gx) (x0 x1 x2 x3 : Value) : SQ w g o v u ((((W.setCell ⟨gx, 0, none⟩ x0).setCell ⟨gx, 1, none⟩ x1).setCell ⟨gx, 2, none⟩ x2).setCell ⟨gx, 3, none⟩ x3) := by
  have hb := Below.set4 (Below.refl gx W) (Nat.le_refl _) x0 x1 x2 x3
  exact ⟨Below.set4 h.1 hx x0 x1 x2 x3, keep_cellN hb hg h.2.1, keep_cellN hb hg h.2.2.1, by have := hb.size; have := h.2.2.2; omega⟩

/-- The load in lowest terms is what Load answers. -/
theorem load_same {l : List TT} {p q : Nat} (h0 : (hypR l).2 = 0) (h : LoadPQ l l.length p q) : loadR l = ((p : Int), (q : Int), 0) ∧ p ≤ 9223372036854775807 ∧ q ≤ 9223372036854775807 := by
  obtain ⟨hok, hle, _⟩ := hypR_ok h0
  have hpos := hyp_pos hok l.length (Nat.le_refl _)
  have hdl := dem_load hok (x := hyp l l.length) l.length (Nat.le_refl _) (fun i hi => hyp_dvd hle l.length (Nat.le_refl _) hi)
  have hd2 : dem l (hyp l l.length) l.length ≤ 43980465111040 := Nat.le_trans (dem_le hok _ l.length (Nat.le_refl _)) (Nat.le_trans (Nat.mul_le_mul (tsOK_bd hok).1 hle) (by decide))
  have hdn := dn_pos hok l.length (Nat.le_refl _)
  have hM : MT = 1099511627776 := rfl
  rw [show loadR l = _ from if_pos h0]
  obtain ⟨hq, hcop, heq⟩ := h
  generalize hyp l l.length = H at *
  generalize dem l H l.length = D at *
  generalize dn l l.length = N at *
  generalize nm l l.length = Z at *
  have e1 : p * H = D * q := by
    have h1 : N * (p * H) = N * (D * q) := by
      rw [show N * (p * H) = p * N * H by rw [← Nat.mul_assoc, Nat.mul_comm N p], heq, show N * (D * q) = D * N * q by rw [← Nat.mul_assoc, Nat.mul_comm N D], hdl]
      exact Nat.mul_right_comm _ _ _
    exact Nat.eq_of_mul_eq_mul_left hdn h1
  obtain ⟨f1, f2⟩ := div_gcd_eq (a := D) hpos
  have hg : 0 < Nat.gcd D H := Nat.gcd_pos_of_pos_right _ hpos
  have hc2 := gcd_div_one (a := D) hpos
  have hHq : 0 < H / Nat.gcd D H := Nat.div_pos (Nat.le_of_dvd hpos (Nat.gcd_dvd_right _ _)) hg
  have l1 : D / Nat.gcd D H ≤ D := Nat.div_le_self _ _
  have l2 : H / Nat.gcd D H ≤ H := Nat.div_le_self _ _
  generalize D / Nat.gcd D H = a at *
  generalize H / Nat.gcd D H = b at *
  generalize Nat.gcd D H = g at *
  have e2 : p * b = a * q := by
    have h1 : g * (p * b) = g * (a * q) := by
      rw [show g * (p * b) = p * (g * b) from Nat.mul_left_comm _ _ _, ← f2, e1, show g * (a * q) = g * a * q from (Nat.mul_assoc _ _ _).symm, ← f1]
    exact Nat.eq_of_mul_eq_mul_left hg h1
  obtain ⟨rfl, rfl⟩ := lowest_unique hcop hc2 hq hHq e2
  exact ⟨rfl, by omega, by omega⟩

set_option maxRecDepth 100000 in
set_option maxHeartbeats 6400000 in
theorem law_load (l : List TT) (a : Option Addr) (cap : Nat) (z : Int) (w : World) (hl : l.length ≤ cap) (hcap : cap ≤ 9223372036854775807) (hc : TSAt w w.heap.size a l) (hz : -9223372036854775808 ≤ z ∧ z ≤ 9223372036854775807) :
    Calls Try.prog 10 #[.slice a l.length cap, .int .i64 z] w fun e w' => e = .returned (.bool true) ∧ Below w.heap.size w w' := by
  have hll : l.length ≤ 9223372036854775807 := by omega
  have hlI : (l.length : Int) ≤ 9223372036854775807 := by omega
  have HA := awake_any w
  by_cases h60 : l.length ≤ 60
  · have h60I : ¬ (60 : Int) < (l.length : Int) := by omega
    have HL := fun W (hb : Below w.heap.size w W) => load_any l a cap W hll (hc.on hb hb.size)
    have HF := fun W (hb : Below w.heap.size w W) => fits_any l z a cap W hll hz (hc.on hb hb.size)
    have HP := fun W (hb : Below w.heap.size w W) => plain_any l a cap W h60 (hc.on hb hb.size)
    have HRV := fun a' c' W (h : TSAt W W.heap.size a' l) => rvalid_any l a' c' W hll h
    by_cases hok : tsOK l = true
    · have hl40 := (tsOK_bd hok).1
      have HOK := Lib.hid hok
      have HC := Lib.hid hc
      have HRH := Lib.hid (fun a' c' W (h : TSAt W W.heap.size a' l) => rhyper_any l a' c' W hll h)
      have HPP := Lib.hid HP
      have HO := Lib.hid (fun W => rof_any 0 W (by omega))
      have HZ := Lib.hid (fun W => rof_any z W hz)
      rw [hok] at HRV
      have HFE := Lib.hid (show fitsB l z = decide ((nm l l.length : Int) ≤ z * dn l l.length) from by unfold fitsB; rw [hok, Bool.true_and])
      have HSAME := Lib.hid (fun h0 p q (h : LoadPQ l l.length p q) => load_same (l := l) h0 h)
      have HNO := Lib.hid (fun (h0 : ¬ (hypR l).2 = 0) => show loadR l = (0, 0, (hypR l).2) from if_neg h0)
      clear hok hc hz
      generalize hfb : fitsB l z = fb at *
      obtain ⟨r1, r2, r3⟩ : ∃ r1 r2 r3, loadR l = (r1, r2, r3) := ⟨_, _, _, rfl⟩
      generalize hlr : loadR l = lr at *
      have HFB := Lib.hid hfb
      have HLR := Lib.hid hlr
      clear hfb hlr r1 r2 r3
      obtain ⟨n1, n2, n3⟩ := lr
      simp only at HL
      go_enter Try.func10, Try.ntmps10
      go_wp2_with (go_at_call 12; refine HA.mono ?_; rintro e w1 ⟨rfl, hb1⟩)
      refine (HL _ hb1).mono ?_
      rintro e w2 ⟨rfl, hb2⟩
      have b2 := hb1.trans (hb2.mono hb1.size)
      simp only []
      go_wp2_with fail
      refine (HF _ b2).mono ?_
      rintro e w3 ⟨rfl, hb3⟩
      have b3 := b2.trans (hb3.mono b2.size)
      simp only []
      go_wp2_with fail
      refine (HP _ b3).mono ?_
      rintro e w4 ⟨pa, pc, rfl, _, _, hp4, hb4⟩
      have b4 := b3.trans (hb4.mono b3.size)
      simp only []
      go_wp2_with fail
      refine (HRV _ _ _ hp4).mono ?_
      rintro e w5 ⟨rfl, hb5⟩
      have b5 := b4.trans (hb5.mono b4.size)
      clear hb1 hb2 hb3 hb4 hb5 b2 b3 b4 hp4 HA HL HF HP HRV
      simp only []
      go_wp2_with fail
      refine (HO.out _).mono ?_
      rintro e w6 ⟨v, rfl, hv6, hb6⟩
      obtain ⟨u1, b1, m1, d1, u2, b2, m2, d2, rfl⟩ := hv6.form
      have b6 := b5.trans (hb6.mono b5.size)
      have b7 := b6.alloc b6.size (.cells #[.bool u1, .slice b1 m1 d1, .bool u2, .slice b2 m2 d2] 56)
      have bx7 := BoxR.made w6 u1 b1 m1 d1 u2 b2 m2 d2
      have hv7 := hv6.alc (.cells #[.bool u1, .slice b1 m1 d1, .bool u2, .slice b2 m2 d2] 56)
      have hsz := b6.size
      clear hv6 hb6 b5 b6 HO
      simp only []
      go_wp2_with fail
      generalize w6.alloc _ = w7 at *
      generalize w6.heap.size = g0 at *
      have hlI40 : (l.length : Int) ≤ 40 := by omega
      go_loopw [10] (fun u wr => ∃ (k p q : Nat) (u1 : Bool) (b1 : Option Addr) (m1 d1 : Nat) (u2 : Bool) (b2 : Option Addr) (m2 d2 : Nat), u = .int .i64 k ∧ k ≤ l.length ∧ Hid (BoxR wr g0 u1 b1 m1 d1 u2 b2 m2 d2) ∧ Hid (RatV wr (.agg #[.bool u1, .slice b1 m1 d1, .bool u2, .slice b2 m2 d2]) p q (k + 2)) ∧ Hid (LoadPQ l k p q) ∧ Below w.heap.size w wr) (fun u _ => l.length - (intOf u).toNat)
      case atStart => exact ⟨0, 0, 1, _, _, _, _, _, _, _, _, rfl, by omega, Lib.hid bx7, Lib.hid hv7, Lib.hid (LoadPQ.start l), b7⟩
      case round =>
        clear bx7 hv7 b7
        obtain ⟨k, p, q, u1, b1, m1, d1, u2, b2, m2, d2, rfl, hk, hbx, hrv, hpq, hbl⟩ := hrel
        generalize wr = w8 at *
        by_cases h0 : k < l.length
        · obtain ⟨b, off, rfl, hbN, hcell⟩ := HC.out (by intro e; simp [e] at h0)
          obtain ⟨_, c1, c2⟩ := hcell k _ (ttAt_get h0)
          have c1 := keep_cellN hbl hbN c1
          have c2 := keep_cellN hbl hbN c2
          obtain ⟨t1, t2, t3, t4, t5⟩ := tsOK_at HOK.out h0
          rw [t4] at c1
          rw [t5] at c2
          have hbr : b < w8.heap.size := by have := hbl.size; omega
          have HST := Lib.hid (hpq.out.step (show 0 < tp l k by omega))
          have HBD := Lib.hid (fun (p q : Nat) (h : LoadPQ l (k + 1) p q) => h.bounds HOK.out (by omega))
          have HFR := fun W => rfrac_any (tc l k) (tp l k) W (by omega) (by omega) (by omega)
          have hkl : (k : Int) < (l.length : Int) := by omega
          clear hcell hpq t4 t5
          generalize tp l k / Nat.gcd (tc l k) (tp l k) = q2 at *
          generalize tc l k / Nat.gcd (tc l k) (tp l k) = p2 at *
          generalize tc l k = cc at *
          generalize tp l k = pp at *
          have s0 : SQ w8 b (off + k * 3) (.int .i64 cc) (.int .i64 pp) w8 := ⟨Below.refl _ _, c1, c2, hbr⟩
          clear c1 c2
          go_upto_region 13 with fail
          go_cut [11, 12] (fun u x wx => ∃ (gx : Nat) (x1 : Bool) (f1 : Option Addr) (n1 k1 : Nat) (x2 : Bool) (f2 : Option Addr) (n2 k2 : Nat), u = .pointer (some ⟨gx, 0, none⟩) ∧ x = .int .i64 0 ∧ BoxR wx gx x1 f1 n1 k1 x2 f2 n2 k2 ∧ RatV wx (.agg #[.bool x1, .slice f1 n1 k1, .bool x2, .slice f2 n2 k2]) p2 q2 2 ∧ Below w8.heap.size w8 wx)
          case first =>
            clear HST HBD
            go_region_held3 (fun W => (Below w8.heap.size w8 W ∧ W.cell? ⟨b, off + k * 3 + 1, none⟩ = some (.int .i64 cc) ∧ W.cell? ⟨b, off + k * 3 + 2, none⟩ = some (.int .i64 pp) ∧ b < W.heap.size))
              (first
                | exact s0
                | exact s0.drew
                | assumption
                | exact SQ.next (by assumption) (by assumption)
                | exact SQ.alloc (by assumption) _
                | exact SQ.alloc s5 _
                | exact SQ.put (by assumption) hg5 hg6 _ _ _ _)
              (first
                | (go_at_call 27; (with_reducible refine (HFR _).mono ?_); rintro e w5 ⟨v, rfl, hv5, hb5⟩; obtain ⟨x1, f1, n1, k1, x2, f2, n2, k2, hvv⟩ := RatV.form hv5; subst hvv; have s5 := SQ.next (show SQ w8 b (off + k * 3) (.int .i64 cc) (.int .i64 pp) _ by assumption) hb5;
                    (first
                      | (have hbz := BoxR.next hb5 (BoxR.made _ false none 0 0 false none 0 0); have hg6 := Nat.le_refl w8.heap.size; have hg5 := Nat.lt_of_lt_of_le hbr hg6; have z0 := (BoxR.cells hbz).1; have z1 := (BoxR.cells hbz).2.1; have z2 := (BoxR.cells hbz).2.2.1; have z3 := (BoxR.cells hbz).2.2.2.1; have zf := (BoxR.cells hbz).2.2.2.2.1; have zl := (BoxR.cells hbz).2.2.2.2.2)
                      | skip)))
            all_goals go_wp2_with fail
            all_goals go_meet
            all_goals (
              first
                | exact ⟨_, x1, f1, n1, k1, x2, f2, n2, k2, rfl, rfl, Box4.put hbz.box4 x1 f1 n1 k1 x2 f2 n2 k2, hv5.dk (hbz.box4.set _ _ _ _), Below.set4 s5.1 hg6 _ _ _ _⟩
                | exact ⟨_, x1, f1, n1, k1, x2, f2, n2, k2, rfl, rfl, BoxR.made w5 x1 f1 n1 k1 x2 f2 n2 k2, hv5.alc _, (s5.1).alloc s5.1.size _⟩)
          case rest =>
            obtain ⟨gx, x1, f1, n1, k1, x2, f2, n2, k2, rfl, rfl, y6, hv6, hbw⟩ := hcut
            have bx6 := BoxR.next hbw hbx.out
            have hr6 := hrv.out.nxt hbw
            have b6 := hbl.trans (hbw.mono hbl.size)
            clear hbw hbl hbx hrv HFR s0 hbr hbN
            generalize wc = w6 at *
            obtain ⟨y0, y1, y2, y3, yf, yl⟩ := BoxR.cells y6
            obtain ⟨z0, z1, z2, z3, zf, zl⟩ := BoxR.cells bx6
            have HA := radd_any _ _ p p2 q q2 (k + 2) w6 (by omega) (by omega) hr6 (hv6.wide (by omega))
            go_wp2_with fail
            refine HA.mono ?_
            rintro e w7 ⟨v, rfl, hv7, hb7⟩
            have hbd := HBD.out _ _ HST.out
            have hv7 := RatV.tight (K' := k + 1 + 2) hv7 (by rw [Int.natAbs_natCast]; exact Nat.lt_of_lt_of_le hbd.1 (Nat.pow_le_pow_right BB_pos (by omega))) (Nat.lt_of_lt_of_le hbd.2 (Nat.pow_le_pow_right BB_pos (by omega)))
            obtain ⟨x3, f3, n3, k3, x4, f4, n4, k4, rfl⟩ := hv7.form
            have bx7 := BoxR.next hb7 bx6
            obtain ⟨z0, z1, z2, z3, zf, zl⟩ := BoxR.cells bx7
            have b7 := b6.trans (hb7.mono b6.size)
            have b8 := Below.set4 b7 (show w.heap.size ≤ g0 by omega) (.bool x3) (.slice f3 n3 k3) (.bool x4) (.slice f4 n4 k4)
            have bx8 := Box4.put bx7.box4 x3 f3 n3 k3 x4 f4 n4 k4
            have hv8 := hv7.dk (bx7.box4.set (.bool x3) (.slice f3 n3 k3) (.bool x4) (.slice f4 n4 k4))
            clear HA hv7 hb7 bx7 b6 b7 bx6 y6 hr6 hv6 y0 y1 y2 y3 hbd
            simp only []
            go_wp2_with fail
            go_roundw
            case rel => exact ⟨k + 1, _, _, x3, f3, n3, k3, x4, f4, n4, k4, by go_num, by omega, Lib.hid bx8, Lib.hid hv8, HST, b8⟩
            case measure => simp [intOf]; omega
        · obtain rfl : k = l.length := by omega
          have HCZ := Lib.hid (hpq.out.cmp HOK.out (Nat.le_refl _) z)
          obtain ⟨z0, z1, z2, z3, zf, zl⟩ := BoxR.cells hbx.out
          have s0 : FS w8 g0 u1 b1 m1 d1 u2 b2 m2 d2 w8 := ⟨Below.refl _ _, z0, z1, z2, z3, zl⟩
          have HR := fun W v (hb : Below w8.heap.size w8 W) (hv : RatV W v z 1 2) => rcmp_any (.agg #[.bool u1, .slice b1 m1 d1, .bool u2, .slice b2 m2 d2]) v p z q 1 (l.length + 2) W (by omega) (by omega) (hrv.out.dk (Dk.below hb)) (hv.wide (by omega))
          have HZO := HZ.out
          have hcb : decide (cmpZ ((p : Int) * ((1 : Nat) : Int)) (z * (q : Int)) ≤ 0) = fb := by
            rw [HFE.out]
            refine decide_eq_decide.2 ?_
            rw [← HCZ.out]
            unfold cmpZ
            simp only [Int.natCast_one, Int.mul_one]
            split
            · omega
            · split <;> omega
          generalize cmpZ ((p : Int) * ((1 : Nat) : Int)) (z * (q : Int)) = cz at *
          have hbb : (fb != fb) = false := by cases fb <;> rfl
          clear HCZ z0 z1 z2 z3 zf hk h0 HFE
          go_upto_region 17 with fail
          go_region_held3 (fun W => (Below w8.heap.size w8 W ∧ W.cell? ⟨g0, 0, none⟩ = some (.bool u1) ∧ W.cell? ⟨g0, 1, none⟩ = some (.slice b1 m1 d1) ∧ W.cell? ⟨g0, 2, none⟩ = some (.bool u2) ∧ W.cell? ⟨g0, 3, none⟩ = some (.slice b2 m2 d2) ∧ g0 < W.heap.size))
            (first
              | exact s0
              | exact FS.drew s0
              | assumption
              | exact FS.next (by assumption) (by assumption))
            (first
              | (go_at_call 26; (with_reducible refine (HZO _).mono ?_); rintro e w4 ⟨v, rfl, hv4, hb4⟩; obtain ⟨x1, f1, n1, k1, x2, f2, n2, k2, hvv⟩ := RatV.form hv4; subst hvv; have s4 := FS.next (show FS w8 g0 u1 b1 m1 d1 u2 b2 m2 d2 _ by assumption) hb4; have h4 := s4.1)
              | (go_at_call 29; (with_reducible refine (HR _ _ h4 hv4).mono ?_); rintro e w5 ⟨rfl, hb5⟩))
          have bX := h4.trans (hb5.mono h4.size)
          have bq := hbl.trans (bX.mono hbl.size)
          have bx5 := BoxR.next bX hbx.out
          have hr5 := hrv.out.nxt bX
          clear HR HZO hv4 s4 h4 hb5 bX hbl hbx hrv s0
          go_wp2_with fail
          refine (HPP.out _ bq).mono ?_
          rintro e w6 ⟨pa2, pc2, rfl, _, _, hp6, hb6⟩
          have b6 := bq.trans (hb6.mono bq.size)
          have bx6 := BoxR.next hb6 bx5
          have hr6 := hr5.nxt hb6
          simp only []
          go_wp2_with fail
          refine (HRH.out _ _ _ hp6).mono ?_
          rintro e w7 ⟨rfl, hb7⟩
          have b7 := b6.trans (hb7.mono b6.size)
          have bx7 := BoxR.next hb7 bx6
          have hr7 := hr6.nxt hb7
          clear hb6 hb7 b6 bx6 hr6 bq bx5 hr5 hp6 HPP HRH
          simp only []
          by_cases h0 : (hypR l).2 = 0
          · obtain ⟨hs1, hs2, hs3⟩ := HSAME.out h0 p q hpq.out
            have hlr := hs1
            simp only [Prod.mk.injEq] at hlr
            obtain ⟨rfl, rfl, rfl⟩ := hlr
            rw [h0]
            obtain ⟨z0, z1, z2, z3, zf, zl⟩ := BoxR.cells bx7
            have HN := rnum_any _ p q (l.length + 2) w7 hr7
            clear HSAME HNO HLR hs1 hpq HFB
            generalize (hypR l).1 = e1 at *
            go_wp2_with fail
            refine HN.mono ?_
            rintro e w9 ⟨v, rfl, hv9, hb9⟩
            have b9 := b7.trans (hb9.mono b7.size)
            have bx9 := BoxR.next hb9 bx7
            have hr9 := hr7.nxt hb9
            obtain ⟨x1, f1, n1, k1, rfl⟩ := hv9.form
            simp only []
            go_wp2_with fail
            refine (int_any _ p _ _ hs2 hv9).mono ?_
            rintro e w10 ⟨rfl, hb10⟩
            have b10 := b9.trans (hb10.mono b9.size)
            have bx10 := BoxR.next hb10 bx9
            have hr10 := hr9.nxt hb10
            clear z0 z1 z2 z3 zf zl hv9 hb9 hb10 b9 bx9 hr9 HN bx7 hr7 b7
            obtain ⟨z0, z1, z2, z3, zf, zl⟩ := BoxR.cells bx10
            have HDn := rden_any _ p q (l.length + 2) w10 (by omega) (by omega) hr10
            simp only []
            go_wp2_with fail
            refine HDn.mono ?_
            rintro e w11 ⟨v, rfl, hv11, hb11⟩
            have b11 := b10.trans (hb11.mono b10.size)
            obtain ⟨x2, f2, n2, k2, rfl⟩ := hv11.form
            simp only []
            go_wp2_with fail
            refine (int_any _ q _ _ hs3 hv11).mono ?_
            rintro e w12 ⟨rfl, hb12⟩
            have b12 := b11.trans (hb12.mono b11.size)
            clear z0 z1 z2 z3 zf zl hv11 hb11 hb12 b10 b11 bx10 hr10 HDn
            simp only []
            go_wp2_with fail
            go_ret
            exact ⟨ret_bool (by simp), b12⟩
          · have hlr := HNO.out h0
            simp only [Prod.mk.injEq] at hlr
            obtain ⟨rfl, rfl, rfl⟩ := hlr
            have h0b : ((hypR l).2 != 0) = true := by simp [h0]
            clear HSAME HNO HLR HFB bx7 hr7 hpq h0
            generalize (hypR l).1 = e1 at *
            generalize (hypR l).2 = e2 at *
            go_wp2_with fail
            go_ret
            exact ⟨ret_bool (by simp), b7⟩
    · have hok' : tsOK l = false := by simpa using hok
      have hh : hypR l = (0, 1) := by unfold hypR; rw [hok']; rfl
      have hlr : loadR l = (0, 0, 1) := by unfold loadR; rw [hh]; rfl
      have hf : fitsB l z = false := by unfold fitsB; rw [hok']; rfl
      rw [hlr] at HL
      rw [hf] at HF
      rw [hok'] at HRV
      clear hok hok' hh hlr hf hc
      go_enter Try.func10, Try.ntmps10
      go_wp2_with (go_at_call 12; refine HA.mono ?_; rintro e w1 ⟨rfl, hb1⟩)
      refine (HL _ hb1).mono ?_
      rintro e w2 ⟨rfl, hb2⟩
      have b2 := hb1.trans (hb2.mono hb1.size)
      simp only []
      go_wp2_with fail
      refine (HF _ b2).mono ?_
      rintro e w3 ⟨rfl, hb3⟩
      have b3 := b2.trans (hb3.mono b2.size)
      simp only []
      go_wp2_with fail
      refine (HP _ b3).mono ?_
      rintro e w4 ⟨pa, pc, rfl, _, _, hp4, hb4⟩
      have b4 := b3.trans (hb4.mono b3.size)
      simp only []
      go_wp2_with fail
      refine (HRV _ _ _ hp4).mono ?_
      rintro e w5 ⟨rfl, hb5⟩
      have b5 := b4.trans (hb5.mono b4.size)
      clear hb1 hb2 hb3 hb4 hb5 b2 b3 b4 hp4 HA HL HF HP HRV
      simp only []
      go_wp2_with fail
      go_ret
      exact ⟨rfl, b5⟩
  · have h60I : (60 : Int) < (l.length : Int) := by omega
    clear hc
    go_enter Try.func10, Try.ntmps10
    go_wp2_with (go_at_call 12; refine HA.mono ?_; rintro e w1 ⟨rfl, hb1⟩)
    go_ret
    exact ⟨rfl, hb1⟩
end Go.Proofs.Ytdjpkebajcpfbaa
