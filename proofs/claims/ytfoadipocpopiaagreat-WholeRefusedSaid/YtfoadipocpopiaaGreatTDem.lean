/- The walks over taskset.Demand, Load and Overload. Conditions: the tasks lie in memory. -/
import Derived.Test.YtfoadipocpopiaaGreatM20
namespace Go.Proofs.YtfoadipocpopiaaGreat
open Go.RowKit Go.Deep

/-- What Demand answers. -/
def demR (l : List TT) (x : Int) : Int := if tsOK l = true ∧ 0 ≤ x ∧ x ≤ 1099511627776 then (dem l x.toNat l.length : Nat) else 0
theorem demR_ok {l : List TT} (h : tsOK l = true) {x : Nat} (hx : x ≤ MT) : demR l x = (dem l x l.length : Nat) := by
  have hM : MT = 1099511627776 := rfl
  unfold demR
  rw [if_pos ⟨h, by omega, by omega⟩, Int.toNat_natCast]

theorem fit_sum {h p : Nat} (h2 : h + p ≤ 43980465111040) : wrap64 (p : Int) = (p : Int) ∧ wrap64 ((h : Int) + (p : Int)) = ((h + p : Nat) : Int) :=
  ⟨IntWalk.wrap64_in _ (by omega), by rw [← Int.natCast_add]; exact IntWalk.wrap64_in _ (by omega)⟩

set_option maxRecDepth 100000 in
set_option maxHeartbeats 6400000 in
theorem demand_any (l : List TT) (x : Int) (a : Option Addr) (cap : Nat) (w : World) (hl : l.length ≤ 9223372036854775807) (hx : -9223372036854775808 ≤ x ∧ x ≤ 9223372036854775807) (hc : TSAt w w.heap.size a l) :
    Calls Tryz.prog 21 #[.slice a l.length cap, .int .i64 x] w fun e w' => e = .returned (.int .i64 (demR l x)) ∧ Below w.heap.size w w' := by
  have HT := tvalid_any l a cap w hl hc
  by_cases hok : tsOK l = true
  · rw [hok] at HT
    by_cases hr : 0 ≤ x ∧ x ≤ 1099511627776
    · obtain ⟨X, rfl⟩ : ∃ X : Nat, x = X := ⟨x.toNat, by omega⟩
      have hXM : X ≤ MT := by have hM : MT = 1099511627776 := rfl; omega
      have HD := Lib.hid (demR_ok hok hXM)
      have hl40 := (tsOK_bd hok).1
      have hlI : (l.length : Int) ≤ 40 := by omega
      have hXI : (X : Int) ≤ 1099511627776 := by omega
      have hX0 : ¬ (X : Int) < 0 := by omega
      have hX1 : ¬ (1099511627776 : Int) < (X : Int) := by omega
      have HOK := Lib.hid hok
      have HC := Lib.hid hc
      clear hok hc hr hx hl hXM
      go_enter Tryz.func21, Tryz.ntmps21
      go_upto_region 3 with (go_at_call 13; refine HT.mono ?_; rintro e w1 ⟨rfl, hb1⟩)
      clear HT hX0 hX1
      go_wp2_with fail
      go_loopw [21, 5] (fun u v wr => ∃ (k h : Nat), u = .int .i64 k ∧ k ≤ l.length ∧ v = .int .i64 h ∧ Hid (h = dem l X k) ∧ Below w.heap.size w wr) (fun u _ _ => l.length - (intOf u).toNat)
      case atStart => exact ⟨0, 0, rfl, by omega, rfl, Lib.hid rfl, hb1⟩
      case round =>
        clear hb1
        obtain ⟨k, h, rfl, hk, rfl, hh, hbl⟩ := hrel
        by_cases h0 : k < l.length
        · obtain ⟨b, off, rfl, hbN, hcell⟩ := HC.out (by intro e; simp [e] at h0)
          obtain ⟨c0, c1, c2⟩ := hcell k _ (ttAt_get h0)
          have c0 := keep_cellN hbl hbN c0
          have c1 := keep_cellN hbl hbN c1
          have c2 := keep_cellN hbl hbN c2
          obtain ⟨t1, t2, t3, t4, t5⟩ := tsOK_at HOK.out h0
          rw [t4] at c1
          rw [t5] at c2
          have hbr : b < wr.heap.size := by have := hbl.size; omega
          have hkl : (k : Int) < (l.length : Int) := by omega
          have hs : dem l X (k + 1) = dem l X k + tc l k * (X / tp l k) := rfl
          have h2 : dem l X (k + 1) ≤ 40 * X := Nat.le_trans (dem_le HOK.out X (k + 1) (by omega)) (Nat.mul_le_mul_right _ (by omega))
          rw [hs] at h2
          rw [← hh.out] at h2 hs
          have h2 : h + tc l k * (X / tp l k) ≤ 43980465111040 := Nat.le_trans h2 (by omega)
          have HS := Lib.hid hs.symm
          have hpI : ¬ ((tp l k : Nat) : Int) = 0 := by omega
          have hq : (X : Int).tdiv (tp l k : Int) = ((X / tp l k : Nat) : Int) := (Int.ofNat_tdiv X (tp l k)).symm
          have hqX : X / tp l k ≤ 1099511627776 := Nat.le_trans (Nat.div_le_self _ _) (by omega)
          have hq2 : (X : Int) / (tp l k : Int) = ((X / tp l k : Nat) : Int) := (Int.natCast_ediv X (tp l k)).symm
          have HQ := Lib.hid (And.intro hq hq2)
          generalize (ttAt l k).nm = tn at *
          clear hcell t4 t5 hs hh hq hq2
          generalize X / tp l k = qq at *
          have hm : ((tc l k : Nat) : Int) * (qq : Int) = ((tc l k * qq : Nat) : Int) := (Int.natCast_mul _ _).symm
          generalize tc l k * qq = pr at *
          obtain ⟨hwm, hw2⟩ := fit_sum h2
          generalize h + pr = sm at *
          generalize tc l k = cc at *
          generalize tp l k = pp at *
          have b4 := hbl.alloc hbl.size (.cells #[.string tn, .int .i64 cc, .int .i64 pp] 41)
          have jb := blkT (Go.Deep.blk_alloc_new wr (.cells #[.string tn, .int .i64 cc, .int .i64 pp] 41))
          have hj : wr.heap.size < (wr.alloc (.cells #[.string tn, .int .i64 cc, .int .i64 pp] 41)).heap.size := by simp
          have hqw : wrap64 (qq : Int) = (qq : Int) := IntWalk.wrap64_in _ (by clear hm hw2 hwm; omega)
          have HW := Lib.hid (show wrap64 ((h : Int) + wrap64 ((cc : Int) * wrap64 ((X : Int) / (pp : Int)))) = (sm : Int) by rw [HQ.out.2, hqw, hm, hwm, hw2])
          clear hbl h2 hm hwm hw2 hqw
          go_upto_region 7 with fail
          generalize wr.alloc _ = w4 at *
          obtain ⟨j0, j1, j2⟩ := jb
          go_quiet (fail)
          go_wp2_with fail
          go_roundw
          case rel => exact ⟨k + 1, sm, by go_num, by omega, congrArg (Value.int .i64) HW.out, HS, below_drewN b4 _⟩
          case measure => simp [intOf]; omega
        · obtain rfl : k = l.length := by omega
          have HV := Lib.hid (show demR l X = (h : Int) by rw [HD.out, hh.out])
          clear HD hh
          go_wp2_with fail
          go_ret
          exact ⟨ret_int (by rw [HV.out]), hbl⟩
    · have HD := Lib.hid (show demR l x = 0 by unfold demR; rw [if_neg (fun h => hr h.2)])
      clear hok hc
      by_cases h0 : x < 0
      · clear hr
        go_enter Tryz.func21, Tryz.ntmps21
        go_wp2_with (go_at_call 13; refine HT.mono ?_; rintro e w1 ⟨rfl, hb1⟩)
        go_ret
        exact ⟨ret_int (by rw [HD.out]), hb1⟩
      · have h1 : (1099511627776 : Int) < x := by omega
        clear hr
        go_enter Tryz.func21, Tryz.ntmps21
        go_wp2_with (go_at_call 13; refine HT.mono ?_; rintro e w1 ⟨rfl, hb1⟩)
        go_ret
        exact ⟨ret_int (by rw [HD.out]), hb1⟩
  · have hok' : tsOK l = false := by simpa using hok
    rw [hok'] at HT
    have HD := Lib.hid (show demR l x = 0 by unfold demR; rw [if_neg (fun h => hok h.1)])
    clear hok hok' hc
    go_enter Tryz.func21, Tryz.ntmps21
    go_wp2_with (go_at_call 13; refine HT.mono ?_; rintro e w1 ⟨rfl, hb1⟩)
    go_ret
    exact ⟨ret_int (by rw [HD.out]), hb1⟩

theorem div_wrap {a b : Nat} (h : a ≤ 9223372036854775807) : wrap64 ((a : Int) / (b : Int)) = ((a / b : Nat) : Int) := by
  rw [← Int.natCast_ediv]
  have := Nat.div_le_self a b
  generalize a / b = c at *
  exact IntWalk.wrap64_in _ (by omega)
/-- What Load answers. -/
def loadR (l : List TT) : Int × Int × Int :=
  if (hypR l).2 = 0 then (((dem l (hyp l l.length) l.length / Nat.gcd (dem l (hyp l l.length) l.length) (hyp l l.length) : Nat) : Int), ((hyp l l.length / Nat.gcd (dem l (hyp l l.length) l.length) (hyp l l.length) : Nat) : Int), 0) else (0, 0, (hypR l).2)
theorem hypR_ok {l : List TT} (h : (hypR l).2 = 0) : tsOK l = true ∧ hyp l l.length ≤ MT ∧ hypR l = ((hyp l l.length : Int), 0) := by
  unfold hypR at h ⊢
  split at h
  · split at h
    · exact absurd h (by decide)
    · rename_i h1 h2
      rw [if_pos h1, if_neg h2]
      exact ⟨h1, by omega, rfl⟩
  · exact absurd h (by decide)
theorem hypR_le (l : List TT) : (hypR l).2 = 0 ∨ (hypR l).2 = 1 ∨ (hypR l).2 = 5 := by
  unfold hypR
  split
  · split <;> simp
  · simp

/-- What Overload answers. -/
def overR (l : List TT) (z : Int) : Int × Int × Bool :=
  if (hypR l).2 = 0 ∧ z < 40 then (if 0 ≤ z ∧ (dem l (hyp l l.length) l.length : Int) ≤ z * hyp l l.length then (0, 0, false) else ((hyp l l.length : Int), (dem l (hyp l l.length) l.length : Int), true)) else (0, 0, false)
theorem over_mul {z : Int} {H : Nat} (h0 : 0 ≤ z) (h1 : z < 40) (hH : H ≤ 1099511627776) : wrap64 (z * (H : Int)) = z * (H : Int) := by
  obtain ⟨Z, rfl⟩ : ∃ Z : Nat, z = Z := ⟨z.toNat, by omega⟩
  have h2 : Z * H ≤ 40 * 1099511627776 := Nat.mul_le_mul (by omega) hH
  rw [← Int.natCast_mul]
  generalize Z * H = c at *
  exact IntWalk.wrap64_in _ (by omega)

set_option maxRecDepth 100000 in
set_option maxHeartbeats 6400000 in
theorem overload_any (l : List TT) (z : Int) (a : Option Addr) (cap : Nat) (w : World) (hl : l.length ≤ 9223372036854775807) (hz : -9223372036854775808 ≤ z ∧ z ≤ 9223372036854775807) (hc : TSAt w w.heap.size a l) :
    Calls Tryz.prog 8 #[.slice a l.length cap, .int .i64 z] w fun e w' => e = .returned (.tuple #[.int .i64 (overR l z).1, .int .i64 (overR l z).2.1, .bool (overR l z).2.2]) ∧ Below w.heap.size w w' := by
  have HH := hyper_any l a cap w hl hc
  have hM : MT = 1099511627776 := rfl
  by_cases h0 : (hypR l).2 = 0
  · obtain ⟨hok, hle, he⟩ := hypR_ok h0
    by_cases hz4 : z < 40
    · have hR0 : overR l z = _ := if_pos ⟨h0, hz4⟩
      have HD := Lib.hid (fun W (hb : Below w.heap.size w W) => demand_any l (hyp l l.length : Nat) a cap W hl (by omega) (hc.on hb hb.size))
      rw [he] at HH
      rw [demR_ok hok hle] at HD
      generalize hyp l l.length = H at *
      generalize dem l H l.length = D at *
      have HD := HD.out
      have hz4' : ¬ (40 : Int) ≤ z := by omega
      by_cases hzn : 0 ≤ z
      · obtain ⟨ZH, hZH⟩ : ∃ ZH : Int, ZH = z * (H : Int) := ⟨_, rfl⟩
        have hwm := over_mul hzn hz4 hle
        rw [← hZH] at hR0
        have hwm : wrap64 (z * (H : Int)) = ZH := hwm.trans hZH.symm
        clear hZH
        by_cases hc2 : (D : Int) ≤ ZH
        · have HR := Lib.hid (hR0.trans (if_pos ⟨hzn, hc2⟩))
          clear hR0 hc hl hok hle he h0 hz hz4
          have hd : decide ((D : Int) ≤ ZH) = true := decide_eq_true hc2
          have hd2 : decide ((0 : Int) ≤ z) = true := decide_eq_true hzn
          go_enter Tryz.func8, Tryz.ntmps8
          go_wp2_with (go_at_call 6; refine HH.mono ?_; rintro e w1 ⟨rfl, hb1⟩)
          refine (HD _ hb1).mono ?_
          rintro e w2 ⟨rfl, hb2⟩
          have b2 := hb1.trans (hb2.mono hb1.size)
          clear hb1 hb2 HH HD
          simp only []
          go_wp2_with fail
          exact bodyPost_ret (v := .tuple #[.int .i64 0, .int .i64 0, .bool false]) (by simp [results, Tryz.results8, go_sem]) rfl ⟨by rw [HR.out], b2⟩
        · have HR := Lib.hid (hR0.trans (if_neg (fun h => hc2 h.2)))
          clear hR0 hc hl hok hle he h0 hz hz4
          have hd : decide ((D : Int) ≤ ZH) = false := decide_eq_false hc2
          have hd2 : decide ((0 : Int) ≤ z) = true := decide_eq_true hzn
          go_enter Tryz.func8, Tryz.ntmps8
          go_wp2_with (go_at_call 6; refine HH.mono ?_; rintro e w1 ⟨rfl, hb1⟩)
          refine (HD _ hb1).mono ?_
          rintro e w2 ⟨rfl, hb2⟩
          have b2 := hb1.trans (hb2.mono hb1.size)
          clear hb1 hb2 HH HD
          simp only []
          go_wp2_with fail
          exact bodyPost_ret (v := .tuple #[.int .i64 H, .int .i64 D, .bool true]) (by simp [results, Tryz.results8, go_sem]) rfl ⟨by rw [HR.out], b2⟩
      · have HR := Lib.hid (hR0.trans (if_neg (fun h => hzn h.1)))
        have hd2 : decide ((0 : Int) ≤ z) = false := decide_eq_false hzn
        clear hR0 hc hl hok hle he h0 hz hz4
        go_enter Tryz.func8, Tryz.ntmps8
        go_wp2_with (go_at_call 6; refine HH.mono ?_; rintro e w1 ⟨rfl, hb1⟩)
        refine (HD _ hb1).mono ?_
        rintro e w2 ⟨rfl, hb2⟩
        have b2 := hb1.trans (hb2.mono hb1.size)
        clear hb1 hb2 HH HD
        simp only []
        go_wp2_with fail
        exact bodyPost_ret (v := .tuple #[.int .i64 H, .int .i64 D, .bool true]) (by simp [results, Tryz.results8, go_sem]) rfl ⟨by rw [HR.out], b2⟩
    · have HR := Lib.hid (show overR l z = (0, 0, false) from if_neg (fun h => hz4 h.2))
      have hz4' : (40 : Int) ≤ z := by omega
      rw [he] at HH
      clear hc hl hok hle he h0 hz4
      generalize hyp l l.length = H at *
      go_enter Tryz.func8, Tryz.ntmps8
      go_wp2_with (go_at_call 6; refine HH.mono ?_; rintro e w1 ⟨rfl, hb1⟩)
      exact bodyPost_ret (v := .tuple #[.int .i64 0, .int .i64 0, .bool false]) (by simp [results, Tryz.results8, go_sem]) rfl ⟨by rw [HR.out], hb1⟩
  · have HR := Lib.hid (show overR l z = (0, 0, false) from if_neg (fun h => h0 h.1))
    have h0b : ((hypR l).2 != 0) = true := by simp [h0]
    clear hc hl
    generalize (hypR l).2 = e2 at *
    generalize (hypR l).1 = e1 at *
    go_enter Tryz.func8, Tryz.ntmps8
    go_wp2_with (go_at_call 6; refine HH.mono ?_; rintro e w1 ⟨rfl, hb1⟩)
    exact bodyPost_ret (v := .tuple #[.int .i64 0, .int .i64 0, .bool false]) (by simp [results, Tryz.results8, go_sem]) rfl ⟨by rw [HR.out], hb1⟩
end Go.Proofs.YtfoadipocpopiaaGreat
