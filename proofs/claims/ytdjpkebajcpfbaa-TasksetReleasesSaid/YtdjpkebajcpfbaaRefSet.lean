/- The walks over the reference's Valid, Hyperperiod and Demand, and over the law's Plain. Conditions: the tasks lie in memory. -/
import Derived.Test.YtdjpkebajcpfbaaTDem
import Derived.Test.YtdjpkebajcpfbaaWin
import Derived.OwnWalk
import Derived.Deep.RegionHeld3
namespace Go.Proofs.Ytdjpkebajcpfbaa
open Go.RowKit Go.Deep

set_option maxRecDepth 100000 in
set_option maxHeartbeats 6400000 in
theorem rvalid_any (l : List TT) (a : Option Addr) (cap : Nat) (w : World) (hl : l.length ≤ 9223372036854775807) (hc : TSAt w w.heap.size a l) :
    Calls Try.prog 17 #[.slice a l.length cap] w fun e w' => e = .returned (.bool (tsOK l)) ∧ Below w.heap.size w w' := by
  have hlI : (l.length : Int) ≤ 9223372036854775807 := by omega
  by_cases h1 : l.length ≤ 40
  · have h1' : (l.length : Int) ≤ 40 := by omega
    go_enter Try.func17, Try.ntmps17
    go_wp2_with fail
    go_loopw [3] (fun u wr => ∃ k : Nat, u = .int .i64 k ∧ k ≤ l.length ∧ Hid (∀ i, i < k → ttOK (ttAt l i)) ∧ Below w.heap.size w wr) (fun u _ => l.length - (intOf u).toNat)
    case atStart => exact ⟨0, rfl, by omega, fun i hi => absurd hi (Nat.not_lt_zero _), Below.refl _ _⟩
    case round =>
      obtain ⟨k, rfl, hk, hall, hbl⟩ := hrel
      have hbs := hbl.size
      by_cases hlt : k < l.length
      · have k1 : (k : Int) < (l.length : Int) := by omega
        obtain ⟨b, off, rfl, hbN, hcell⟩ := hc (by intro e; simp [e] at hlt)
        obtain ⟨c0, c1, c2⟩ := hcell k _ (ttAt_get hlt)
        have c1 := keep_cellN hbl hbN c1
        have c2 := keep_cellN hbl hbN c2
        have hbr : b < wr.heap.size := by omega
        have HNO := Lib.hid (fun h => tsOK_no hlt h)
        have HST := Lib.hid (fun (h : ttOK (ttAt l k)) i (hi : i < k + 1) => show ttOK (ttAt l i) from by
          by_cases e : i = k
          · subst e; exact h
          · exact hall.out i (by omega))
        clear hcell hall c0
        generalize ttAt l k = j at *
        obtain ⟨jn, jc, jp⟩ := j
        simp only at c1 c2
        by_cases p1 : 1 ≤ jc
        · have d1 : decide (jc < 1) = false := decide_eq_false (by omega)
          by_cases p2 : jc ≤ jp
          · have d2 : decide (jp < jc) = false := decide_eq_false (by omega)
            by_cases p3 : jp ≤ 1000
            · have d3 : decide ((1000 : Int) < jp) = false := decide_eq_false (by omega)
              have HS2 := Lib.hid (HST.out ⟨p1, p2, p3⟩)
              clear HST p1 p2 p3
              go_upto_region 6 with fail
              go_quiet (fail)
              go_wp2_with fail
              go_roundw
              case rel => exact ⟨k + 1, by go_num, by omega, HS2.out, below_drewN hbl _⟩
              case measure => simp [intOf]; omega
            · have HN := Lib.hid (HNO.out (fun h => p3 h.2.2))
              have d3 : decide ((1000 : Int) < jp) = true := decide_eq_true (by omega)
              clear HST p1 p2 p3
              go_upto_region 6 with fail
              go_quiet (fail)
              go_wp2_with fail
              go_ret
              exact ⟨ret_bool HN.out.symm, below_drewN hbl _⟩
          · have HN := Lib.hid (HNO.out (fun h => p2 h.2.1))
            have d2 : decide (jp < jc) = true := decide_eq_true (by omega)
            clear HST p1 p2
            go_upto_region 6 with fail
            go_quiet (fail)
            go_wp2_with fail
            go_ret
            exact ⟨ret_bool HN.out.symm, below_drewN hbl _⟩
        · have HN := Lib.hid (HNO.out (fun h => p1 h.1))
          have d1 : decide (jc < 1) = true := decide_eq_true (by omega)
          clear HST p1
          go_upto_region 6 with fail
          go_quiet (fail)
          go_wp2_with fail
          go_ret
          exact ⟨ret_bool HN.out.symm, below_drewN hbl _⟩
      · obtain rfl : k = l.length := by omega
        have HN := Lib.hid (tsOK_mk h1 hall.out)
        clear hall
        go_wp2_with fail
        go_ret
        exact ⟨ret_bool HN.out.symm, hbl⟩
  · have h1' : ¬ (l.length : Int) ≤ 40 := by omega
    have HN := Lib.hid (tsOK_size h1)
    go_enter Try.func17, Try.ntmps17
    go_wp2_with fail
    go_ret
    exact ⟨ret_bool HN.out.symm, Below.refl _ _⟩

def SP (w : World) (g o : Nat) (v : Value) (W : World) : Prop := Below w.heap.size w W ∧ W.cell? ⟨g, o, none⟩ = some v ∧ g < W.heap.size
theorem SP.next {w W W' : World} {g o : Nat} {v : Value} (h : SP w g o v W) (hb : Below W.heap.size W W') : SP w g o v W' :=
  ⟨h.1.trans (hb.mono h.1.size), keep_cellN hb h.2.2 h.2.1, by have := hb.size; have := h.2.2; omega⟩
theorem SP.drew {w W : World} {g o : Nat} {v : Value} (h : SP w g o v W) : SP w g o v W.drew := h.next (Below.refl _ _).drew

set_option maxRecDepth 100000 in
set_option maxHeartbeats 6400000 in
theorem rhyper_any (l : List TT) (a : Option Addr) (cap : Nat) (w : World) (hl : l.length ≤ 9223372036854775807) (hc : TSAt w w.heap.size a l) :
    Calls Try.prog 14 #[.slice a l.length cap] w fun e w' => e = .returned (.tuple #[.int .i64 (hypR l).1, .int .i64 (hypR l).2]) ∧ Below w.heap.size w w' := by
  have HT := rvalid_any l a cap w hl hc
  have hM : MT = 1099511627776 := rfl
  by_cases hok : tsOK l = true
  · rw [hok] at HT
    have hl40 := (tsOK_bd hok).1
    have hlI : (l.length : Int) ≤ 40 := by omega
    have HOK := Lib.hid hok
    have HC := Lib.hid hc
    have HBIG := Lib.hid (fun (h : MT < hyp l l.length) => show hypR l = (0, 5) by unfold hypR; rw [if_pos hok, if_pos h])
    have HLOW := Lib.hid (fun (h : ¬ MT < hyp l l.length) => show hypR l = ((hyp l l.length : Int), 0) by unfold hypR; rw [if_pos hok, if_neg h])
    clear hok hc
    go_enter Try.func14, Try.ntmps14
    go_upto_region 3 with (go_at_call 17; refine HT.mono ?_; rintro e w1 ⟨rfl, hb1⟩)
    clear HT
    go_wp2_with fail
    go_loopw [5, 4] (fun u v wr => ∃ (k h : Nat), u = .int .i64 k ∧ k ≤ l.length ∧ v = .int .i64 h ∧ Hid (h = hyp l k) ∧ h ≤ 1099511627776 ∧ Below w.heap.size w wr) (fun u _ _ => l.length - (intOf u).toNat)
    case atStart => exact ⟨0, 1, rfl, by omega, rfl, Lib.hid rfl, by omega, hb1⟩
    case round =>
      clear hb1
      obtain ⟨k, h, rfl, hk, rfl, hh, hhM, hbl⟩ := hrel
      by_cases h0 : k < l.length
      · obtain ⟨b, off, rfl, hbN, hcell⟩ := HC.out (by intro e; simp [e] at h0)
        obtain ⟨_, _, c2⟩ := hcell k _ (ttAt_get h0)
        have c2 := keep_cellN hbl hbN c2
        obtain ⟨t1, t2, t3, t4, t5⟩ := tsOK_at HOK.out h0
        rw [t5] at c2
        have hbr : b < wr.heap.size := by have := hbl.size; omega
        have hkl : (k : Int) < (l.length : Int) := by omega
        have hpos := hyp_pos HOK.out k (by omega)
        have hs : hyp l (k + 1) = if MT < hyp l k then hyp l k else hyp l k / Nat.gcd (hyp l k) (tp l k) * tp l k := rfl
        rw [← hh.out] at hs hpos
        rw [if_neg (by omega)] at hs
        have HS := Lib.hid hs.symm
        have HST := Lib.hid (fun (h : MT < hyp l (k + 1)) => show MT < hyp l l.length from by
          have := hyp_stay h (l.length - (k + 1))
          rwa [show k + 1 + (l.length - (k + 1)) = l.length by omega] at this)
        have HG := fun W => rgcd_any h (tp l k) W (by omega) (by omega)
        have hg : 0 < Nat.gcd h (tp l k) := Nat.gcd_pos_of_pos_left _ hpos
        have hf := lcm_fit (n := h) (p := tp l k) (by omega) t3
        have hqM : h / Nat.gcd h (tp l k) ≤ 1099511627776 := Nat.le_trans (Nat.div_le_self _ _) (by omega)
        clear hcell t4 t5 hs hh hpos
        generalize Nat.gcd h (tp l k) = g at *
        have hgI : ¬ (g : Int) = 0 := by omega
        have hg0 : ¬ g = 0 := by omega
        have HQ := Lib.hid (show (h : Int) / (g : Int) = ((h / g : Nat) : Int) from (Int.natCast_ediv h g).symm)
        generalize h / g = q at *
        have hm : (q : Int) * ((tp l k : Nat) : Int) = ((q * tp l k : Nat) : Int) := (Int.natCast_mul _ _).symm
        have hw1 : IntKind.i64.wrap (q : Int) = (q : Int) := IntWalk.i64_in _ (by clear hm; omega)
        have hw2 : IntKind.i64.wrap ((q * tp l k : Nat) : Int) = ((q * tp l k : Nat) : Int) := IntWalk.i64_in _ (by clear hm; generalize q * tp l k = z at *; omega)
        generalize q * tp l k = h' at *
        generalize tp l k = pp at *
        have HW := Lib.hid (show IntKind.i64.wrap (IntKind.i64.wrap ((h : Int) / (g : Int)) * (pp : Int)) = (h' : Int) by rw [HQ.out, hw1, hm, hw2])
        clear hm hw1 hw2
        go_upto_region 7 with fail
        refine wp_region_quiet (C := fun W => Below wr.heap.size wr W) (by kernel_rfl) (by kernel_rfl) (Below.refl _ _).drew ?_
        repeat (
          refine wpQuiet_step (fun K hK => ?_)
          go_simp
          first
            | (refine hK _ ?_; clear hK K)
            | (apply Exists.intro
               refine ⟨fun W q0 => ?_, hK _ ?_⟩
               (first
                 | rfl
                 | (have qc := keep_cellN q0 hbr c2; have qb : b < W.heap.size := Nat.lt_of_lt_of_le hbr q0.size; go_simp; rfl)
                 | (go_at_call 39; ((with_reducible refine (HG _).mono ?_)); rintro e w5 ⟨rfl, hb5⟩; exact ⟨rfl, q0.trans (hb5.mono q0.size)⟩))
               clear hK K))
        refine wpQuiet_nil ?_
        intro w3 hW
        have hbw := hbl.trans (hW.mono hbl.size)
        clear hW HG hbl
        by_cases hbig : 1099511627776 < h'
        · have HR := Lib.hid (HBIG.out (HST.out (by rw [← HS.out]; omega)))
          have hbI : (1099511627776 : Int) < (h' : Int) := by omega
          have hbI2 : (1099511627776 : Int) < IntKind.i64.wrap (IntKind.i64.wrap ((h : Int) / (g : Int)) * (pp : Int)) := by rw [HW.out]; exact hbI
          clear HS HST HBIG HLOW hbig
          go_wp2_with fail
          go_ret2
          exact ⟨by rw [HR.out]; rfl, hbw⟩
        · have hbI : ¬ (1099511627776 : Int) < (h' : Int) := by omega
          have hbI2 : ¬ (1099511627776 : Int) < IntKind.i64.wrap (IntKind.i64.wrap ((h : Int) / (g : Int)) * (pp : Int)) := by rw [HW.out]; exact hbI
          clear HST
          go_wp2_with fail
          go_roundw
          case rel => exact ⟨k + 1, h', by go_num, by omega, congrArg (Value.int .i64) HW.out, HS, by omega, hbw⟩
          case measure => simp [intOf]; omega
      · obtain rfl : k = l.length := by omega
        have HR := Lib.hid (show hypR l = ((h : Int), 0) by rw [HLOW.out (by rw [← hh.out]; omega), hh.out])
        clear hh HBIG HLOW
        go_wp2_with fail
        go_ret2
        exact ⟨by rw [HR.out]; rfl, hbl⟩
  · have hok' : tsOK l = false := by simpa using hok
    rw [hok'] at HT
    have HR := Lib.hid (show hypR l = (0, 1) by unfold hypR; rw [hok']; rfl)
    clear hok hok' hc
    go_enter Try.func14, Try.ntmps14
    go_wp2_with (go_at_call 17; refine HT.mono ?_; rintro e w2 ⟨rfl, hb2⟩)
    go_ret2
    exact ⟨by rw [HR.out]; rfl, hb2⟩

set_option maxRecDepth 100000 in
set_option maxHeartbeats 6400000 in
theorem rdemand_any (l : List TT) (X : Nat) (a : Option Addr) (cap : Nat) (w : World) (hok : tsOK l = true) (hX : X ≤ MT) (hc : TSAt w w.heap.size a l) :
    Calls Try.prog 19 #[.slice a l.length cap, .int .i64 X] w fun e w' => e = .returned (.int .i64 (dem l X l.length : Nat)) ∧ Below w.heap.size w w' := by
  have hM : MT = 1099511627776 := rfl
  have hl40 := (tsOK_bd hok).1
  have hlI : (l.length : Int) ≤ 40 := by omega
  have hXI : (X : Int) ≤ 1099511627776 := by omega
  have HOK := Lib.hid hok
  have HC := Lib.hid hc
  clear hok hc hX
  go_enter Try.func19, Try.ntmps19
  go_wp2_with fail
  go_loopw [6, 5] (fun u v wr => ∃ (k h : Nat), u = .int .i64 k ∧ k ≤ l.length ∧ v = .int .i64 h ∧ Hid (h = dem l X k) ∧ Below w.heap.size w wr) (fun u _ _ => l.length - (intOf u).toNat)
  case atStart => exact ⟨0, 0, rfl, by omega, rfl, Lib.hid rfl, Below.refl _ _⟩
  case round =>
    obtain ⟨k, h, rfl, hk, rfl, hh, hbl⟩ := hrel
    by_cases h0 : k < l.length
    · obtain ⟨b, off, rfl, hbN, hcell⟩ := HC.out (by intro e; simp [e] at h0)
      obtain ⟨_, c1, c2⟩ := hcell k _ (ttAt_get h0)
      have c1 := keep_cellN hbl hbN c1
      have c2 := keep_cellN hbl hbN c2
      obtain ⟨t1, t2, t3, t4, t5⟩ := tsOK_at HOK.out h0
      rw [t4] at c1
      rw [t5] at c2
      have hbr : b < wr.heap.size := by have := hbl.size; omega
      have hkl : (k : Int) < (l.length : Int) := by omega
      have hs : dem l X (k + 1) = dem l X k + tc l k * (X / tp l k) := rfl
      have h2 : dem l X (k + 1) ≤ 40 * X := Nat.le_trans (dem_le HOK.out X (k + 1) (by omega)) (Nat.mul_le_mul_right _ (by omega))
      rw [hs] at h2
      rw [← hh.out] at h2 hs
      have h2 : h + tc l k * (X / tp l k) ≤ 43980465111040 := Nat.le_trans h2 (by omega)
      have HS := Lib.hid hs.symm
      have hpI : ¬ ((tp l k : Nat) : Int) = 0 := by omega
      have hqX : X / tp l k ≤ 1099511627776 := Nat.le_trans (Nat.div_le_self _ _) (by omega)
      have HQ := Lib.hid (show (X : Int) / (tp l k : Int) = ((X / tp l k : Nat) : Int) from (Int.natCast_ediv X (tp l k)).symm)
      clear hcell t4 t5 hs hh
      generalize X / tp l k = qq at *
      have hm : ((tc l k : Nat) : Int) * (qq : Int) = ((tc l k * qq : Nat) : Int) := (Int.natCast_mul _ _).symm
      generalize tc l k * qq = pr at *
      obtain ⟨hwm, hw2⟩ := fit_sum h2
      generalize h + pr = sm at *
      generalize tc l k = cc at *
      generalize tp l k = pp at *
      have hqw : wrap64 (qq : Int) = (qq : Int) := IntWalk.wrap64_in _ (by clear hm hw2 hwm; omega)
      have HW := Lib.hid (show wrap64 ((h : Int) + wrap64 ((cc : Int) * wrap64 ((X : Int) / (pp : Int)))) = (sm : Int) by rw [HQ.out, hqw, hm, hwm, hw2])
      clear h2 hm hwm hw2 hqw
      go_upto_region 5 with fail
      go_quiet (fail)
      go_wp2_with fail
      go_roundw
      case rel => exact ⟨k + 1, sm, by go_num, by omega, congrArg (Value.int .i64) HW.out, HS, below_drewN hbl _⟩
      case measure => simp [intOf]; omega
    · obtain rfl : k = l.length := by omega
      have HV := Lib.hid hh.out.symm
      clear hh
      go_wp2_with fail
      go_ret
      exact ⟨ret_int (by rw [HV.out]), hbl⟩
end Go.Proofs.Ytdjpkebajcpfbaa
