/- Several texts in one: The hyperperiod and the demand of a set: plain Lean. Conditions: each theorem's own. The walks over taskset.divisor, the reference's Gcd and taskset.Hyperperiod. Conditions: the tasks lie in memory. -/
import Derived.Test.YtfoadipocpopiaaGreatM06
namespace Go.Proofs.YtfoadipocpopiaaGreat
section
def MT : Nat := 1099511627776
/-- The fold of Hyperperiod. -/
def hyp (l : List TT) : Nat → Nat
  | 0 => 1
  | k + 1 => if MT < hyp l k then hyp l k else hyp l k / Nat.gcd (hyp l k) (tp l k) * tp l k
section
variable {l : List TT} {k : Nat}
theorem lcm_pos' {a b : Nat} (ha : 0 < a) (hb : 0 < b) : 0 < a / Nat.gcd a b * b :=
  Nat.mul_pos (Nat.div_pos (Nat.le_of_dvd ha (Nat.gcd_dvd_left a b)) (Nat.gcd_pos_of_pos_left _ ha)) hb
theorem hyp_pos (h : tsOK l = true) : ∀ k, k ≤ l.length → 0 < hyp l k
  | 0, _ => Nat.one_pos
  | k + 1, hk => by
    have h1 := hyp_pos h k (by omega)
    rw [hyp]
    split
    · exact h1
    · exact lcm_pos' h1 (by have := tsOK_at h (show k < l.length by omega); omega)
theorem hyp_le (h : tsOK l = true) : ∀ k, k ≤ l.length → hyp l k ≤ 1000 * MT
  | 0, _ => by simp [hyp, MT]
  | k + 1, hk => by
    have h1 := hyp_le h k (by omega)
    rw [hyp]
    split
    · exact h1
    · have h2 : hyp l k / Nat.gcd (hyp l k) (tp l k) ≤ MT := Nat.le_trans (Nat.div_le_self _ _) (by omega)
      have h3 := (tsOK_at h (show k < l.length by omega)).2.2.1
      rw [Nat.mul_comm 1000]
      exact Nat.mul_le_mul h2 h3
theorem hyp_stay (h1 : MT < hyp l k) : ∀ d, MT < hyp l (k + d)
  | 0 => h1
  | d + 1 => by
    rw [← Nat.add_assoc, hyp, if_pos (hyp_stay h1 d)]
    exact hyp_stay h1 d
theorem hyp_low (h : hyp l l.length ≤ MT) (hk : k ≤ l.length) : hyp l k ≤ MT := by
  rcases Nat.lt_or_ge MT (hyp l k) with h1 | h1
  · have := hyp_stay h1 (l.length - k)
    rw [show k + (l.length - k) = l.length by omega] at this
    omega
  · exact h1
theorem hyp_succ (h : hyp l l.length ≤ MT) (hk : k < l.length) : hyp l (k + 1) = Nat.lcm (hyp l k) (tp l k) := by
  have h1 := hyp_low h (show k ≤ l.length by omega)
  rw [hyp, if_neg (by omega), Nat.lcm]
  exact Nat.div_mul_right_comm (Nat.gcd_dvd_left _ _) _
theorem hyp_dvd (h : hyp l l.length ≤ MT) {i : Nat} : ∀ k, k ≤ l.length → i < k → tp l i ∣ hyp l k
  | 0, _, hi => absurd hi (Nat.not_lt_zero _)
  | k + 1, hk, hi => by
    rw [hyp_succ h (by omega)]
    by_cases e : i = k
    · subst e; exact Nat.dvd_lcm_right _ _
    · exact Nat.dvd_trans (hyp_dvd h k (by omega) (by omega)) (Nat.dvd_lcm_left _ _)
theorem hyp_least (h : hyp l l.length ≤ MT) {m : Nat} : ∀ k, k ≤ l.length → (∀ i, i < k → tp l i ∣ m) → hyp l k ∣ m
  | 0, _, _ => Nat.one_dvd _
  | k + 1, hk, hm => by
    rw [hyp_succ h (by omega)]
    exact Nat.lcm_dvd (hyp_least h k (by omega) (fun i hi => hm i (by omega))) (hm k (by omega))
end
/-- The demand of the first k tasks. -/
def dem (l : List TT) (x : Nat) : Nat → Nat
  | 0 => 0
  | k + 1 => dem l x k + tc l k * (x / tp l k)
section
variable {l : List TT} {k x : Nat}
theorem dem_le (h : tsOK l = true) (x : Nat) : ∀ k, k ≤ l.length → dem l x k ≤ k * x
  | 0, _ => by simp [dem]
  | k + 1, hk => by
    have h1 := dem_le h x k (by omega)
    obtain ⟨h2, h3, _⟩ := tsOK_at h (show k < l.length by omega)
    have h4 : tc l k * (x / tp l k) ≤ tp l k * (x / tp l k) := Nat.mul_le_mul_right _ h3
    have h5 := Nat.mul_div_le x (tp l k)
    rw [dem, Nat.add_mul, Nat.one_mul]
    omega
theorem dem_load (h : tsOK l = true) : ∀ k, k ≤ l.length → (∀ i, i < k → tp l i ∣ x) → dem l x k * dn l k = nm l k * x
  | 0, _, _ => by simp [dem, nm]
  | k + 1, hk, hd => by
    have h1 := dem_load h k (by omega) (fun i hi => hd i (by omega))
    have h2 : x / tp l k * tp l k = x := Nat.div_mul_cancel (hd k (by omega))
    rw [dem, dn, nm, Nat.add_mul, Nat.add_mul]
    have a1 : dem l x k * (dn l k * tp l k) = dem l x k * dn l k * tp l k := (Nat.mul_assoc _ _ _).symm
    have a2 : nm l k * tp l k * x = nm l k * x * tp l k := Nat.mul_right_comm _ _ _
    have a3 : tc l k * (x / tp l k) * (dn l k * tp l k) = tc l k * dn l k * (x / tp l k * tp l k) := by simp only [Nat.mul_assoc, Nat.mul_comm, Nat.mul_left_comm]
    rw [a1, a2, a3, h1, h2]
theorem dem_add (h : tsOK l = true) (y : Nat) : ∀ k, k ≤ l.length → (∀ i, i < k → tp l i ∣ y) → dem l (x + y) k = dem l x k + dem l y k
  | 0, _, _ => rfl
  | k + 1, hk, hd => by
    have h1 := dem_add h y k (by omega) (fun i hi => hd i (by omega))
    have hp : 0 < tp l k := by have := tsOK_at h (show k < l.length by omega); omega
    obtain ⟨c, hc⟩ := hd k (by omega)
    have h2 : (x + y) / tp l k = x / tp l k + y / tp l k := by
      rw [hc, Nat.add_mul_div_left _ _ hp, Nat.mul_div_cancel_left _ hp]
    rw [dem, dem, dem, h1, h2, Nat.mul_add]
    omega
end
/-- The load compared with cores, by the demand in the hyperperiod. -/
theorem fits_iff {l : List TT} (h : tsOK l = true) {H : Nat} (hH : 0 < H) (hd : ∀ i, i < l.length → tp l i ∣ H) (z : Int) :
    ((nm l l.length : Int) ≤ z * dn l l.length) ↔ ((dem l H l.length : Int) ≤ z * H) := by
  have h1 := dem_load h l.length (Nat.le_refl _) hd
  have h2 := dn_pos h l.length (Nat.le_refl _)
  have e : (dem l H l.length : Int) * dn l l.length = nm l l.length * H := by exact_mod_cast h1
  have p1 : (0 : Int) < (dn l l.length : Int) := by omega
  have p2 : (0 : Int) < (H : Int) := by omega
  constructor
  · intro h3
    have h4 := Int.mul_le_mul_of_nonneg_right h3 (Int.le_of_lt p2)
    rw [← e, Int.mul_right_comm] at h4
    exact Int.le_of_mul_le_mul_right h4 p1
  · intro h3
    have h4 := Int.mul_le_mul_of_nonneg_right h3 (Int.le_of_lt p1)
    rw [e, Int.mul_right_comm] at h4
    exact Int.le_of_mul_le_mul_right h4 p2
end

section
open Go.RowKit Go.Deep

theorem natgcd_step (a b : Nat) (_hb : 0 < b) : Nat.gcd b (a % b) = Nat.gcd a b := by
  rw [Nat.gcd_comm b, ← Nat.gcd_rec, Nat.gcd_comm]
theorem tmod_nat (a b : Nat) : (a : Int).tmod (b : Int) = ((a % b : Nat) : Int) := by
  rw [Int.tmod_eq_emod_of_nonneg (by omega)]; omega

set_option maxRecDepth 100000 in
set_option maxHeartbeats 6400000 in
theorem divisor_any (a b : Nat) (w : World) (ha : a ≤ 9223372036854775807) (hb : b ≤ 9223372036854775807) :
    Calls Tryz.prog 16 #[.int .i64 a, .int .i64 b] w fun e w' => e = .returned (.int .i64 (Nat.gcd a b : Nat)) ∧ Below w.heap.size w w' := by
  generalize hG : Nat.gcd a b = G at *
  have HG := Lib.hid hG
  clear hG
  go_enter Tryz.func16, Tryz.ntmps16
  go_wp2_with fail
  go_loopw [0, 1] (fun u v wr => ∃ x y : Nat, u = .int .i64 x ∧ v = .int .i64 y ∧ x ≤ 9223372036854775807 ∧ y ≤ 9223372036854775807 ∧ Hid (Nat.gcd x y = G) ∧ Below w.heap.size w wr) (fun _ v _ => (intOf v).toNat)
  case atStart => exact ⟨a, b, rfl, rfl, ha, hb, HG, Below.refl _ _⟩
  case round =>
    clear HG
    obtain ⟨x, y, rfl, rfl, hx, hy, HG, hbl⟩ := hrel
    by_cases h0 : y = 0
    · subst h0
      have HV := Lib.hid (show x = G by rw [← HG.out, Nat.gcd_zero_right])
      clear HG
      go_wp2_with fail
      go_ret
      exact ⟨ret_int (by rw [HV.out]), hbl⟩
    · have h0I : ¬ (y : Int) = 0 := by omega
      have h0b : ((y : Int) != 0) = true := by simp [h0]
      have HG2 := Lib.hid ((natgcd_step x y (by omega)).trans HG.out)
      have hm := tmod_nat x y
      have hm2 : (x : Int) % (y : Int) = ((x % y : Nat) : Int) := by omega
      have hlt : x % y < y := Nat.mod_lt _ (by omega)
      clear HG
      generalize x % y = z at *
      go_upto_region 2 with fail
      go_quiet (fail)
      go_wp2_with fail
      go_roundw
      case rel => exact ⟨y, z, rfl, rfl, hy, by omega, HG2, below_drewN hbl _⟩
      case measure => simp [intOf]; omega
theorem lcm_fit {n p : Nat} (hn : n ≤ MT) (hp : p ≤ 1000) : n / Nat.gcd n p * p ≤ 1099511627776000 := by
  have h1 : n / Nat.gcd n p ≤ MT := Nat.le_trans (Nat.div_le_self _ _) hn
  have h2 := Nat.mul_le_mul h1 hp
  exact h2

set_option maxRecDepth 100000 in
set_option maxHeartbeats 6400000 in
theorem hstep_any (n p : Nat) (w : World) (hn0 : 0 < n) (hn : n ≤ 1000 * MT) (hp0 : 0 < p) (hp : p ≤ 1000) :
    Calls Tryz.prog 15 #[.int .i64 n, .int .i64 p] w fun e w' => e = .returned (.int .i64 ((if MT < n then n else n / Nat.gcd n p * p : Nat) : Int)) ∧ Below w.heap.size w w' := by
  have hM : MT = 1099511627776 := rfl
  have hnI : (n : Int) ≤ 1099511627776000 := by omega
  by_cases h1 : MT < n
  · have h1I : (1099511627776 : Int) < (n : Int) := by omega
    rw [if_pos h1]
    clear h1
    go_enter Tryz.func15, Tryz.ntmps15
    go_wp2_with fail
    go_ret
    exact ⟨rfl, Below.refl _ _⟩
  · have h1I : ¬ (1099511627776 : Int) < (n : Int) := by omega
    rw [if_neg h1]
    have HD := divisor_any n p w (by omega) (by omega)
    have hg : 0 < Nat.gcd n p := Nat.gcd_pos_of_pos_left _ hn0
    have hf := lcm_fit (n := n) (p := p) (by omega) hp
    have hq0 : n / Nat.gcd n p ≤ 1099511627776 := Nat.le_trans (Nat.div_le_self _ _) (by omega)
    generalize Nat.gcd n p = g at *
    have hgI : ¬ (g : Int) = 0 := by omega
    have hq : (n : Int).tdiv (g : Int) = ((n / g : Nat) : Int) := (Int.ofNat_tdiv n g).symm
    have hq2 : (n : Int) / (g : Int) = ((n / g : Nat) : Int) := by omega
    generalize n / g = q at *
    have hm : (q : Int) * (p : Int) = ((q * p : Nat) : Int) := (Int.natCast_mul _ _).symm
    have hwm : wrap64 ((q : Int) * (p : Int)) = ((q * p : Nat) : Int) := by rw [hm]; exact IntWalk.wrap64_in _ (by omega)
    have hwq : wrap64 (q : Int) = (q : Int) := IntWalk.wrap64_in _ (by omega)
    clear hm h1 hn
    generalize q * p = r at *
    go_enter Tryz.func15, Tryz.ntmps15
    go_wp2_with (go_at_call 16; refine HD.mono ?_; rintro e w1 ⟨rfl, hb1⟩)
    go_ret
    exact ⟨ret_int hwm, hb1⟩

set_option maxRecDepth 100000 in
set_option maxHeartbeats 6400000 in
theorem hfold_any (l : List TT) (a : Option Addr) (cap g : Nat) (w : World) (hok : tsOK l = true) (hc : TSAt w w.heap.size a l) (hg : w.cell? ⟨g, 0, none⟩ = some (.slice a l.length cap)) (hgl : g < w.heap.size) :
    Calls Tryz.prog 14 #[.int .i64 1, .func (Fn.func 15) #[] #[], .pointer (some ⟨g, 0, none⟩)] w fun e w' => e = .returned (.int .i64 (hyp l l.length : Nat)) ∧ Below w.heap.size w w' := by
  have hl40 := (tsOK_bd hok).1
  have hlI : (l.length : Int) ≤ 40 := by omega
  have HOK := Lib.hid hok
  have HC := Lib.hid hc
  clear hok hc
  go_enter Tryz.func14, Tryz.ntmps14
  go_wp2_with fail
  go_loopw [12, 6] (fun u v wr => ∃ (k h : Nat), u = .int .i64 k ∧ k ≤ l.length ∧ v = .int .i64 h ∧ Hid (h = hyp l k) ∧ Below w.heap.size w wr) (fun u _ _ => l.length - (intOf u).toNat)
  case atStart => exact ⟨0, 1, rfl, by omega, rfl, Lib.hid rfl, Below.refl _ _⟩
  case round =>
    obtain ⟨k, h, rfl, hk, rfl, hh, hbl⟩ := hrel
    by_cases h0 : k < l.length
    · obtain ⟨b, off, rfl, hbN, hcell⟩ := HC.out (by intro e; simp [e] at h0)
      obtain ⟨c0, c1, c2⟩ := hcell k _ (ttAt_get h0)
      have c0 := keep_cellN hbl hbN c0
      have c1 := keep_cellN hbl hbN c1
      have c2 := keep_cellN hbl hbN c2
      obtain ⟨t1, t2, t3, t4, t5⟩ := tsOK_at HOK.out h0
      rw [t4] at c1
      rw [t5] at c2
      have hbr : b < wr.heap.size := by have := hbl.size; omega
      have hkl : (k : Int) < (l.length : Int) := by omega
      have h1 := hyp_pos HOK.out k (by omega)
      have h2 := hyp_le HOK.out k (by omega)
      have hs : hyp l (k + 1) = if MT < hyp l k then hyp l k else hyp l k / Nat.gcd (hyp l k) (tp l k) * tp l k := rfl
      rw [← hh.out] at h1 h2 hs
      have HS := Lib.hid hs.symm
      have HST := fun W => hstep_any h (tp l k) W h1 h2 (by omega) t3
      generalize (ttAt l k).nm = tn at *
      clear hcell t4 t5 hs hh h1 h2
      generalize tc l k = cc at *
      generalize tp l k = pp at *
      generalize (if MT < h then h else h / Nat.gcd h pp * pp) = h' at *
      have b4 := hbl.alloc hbl.size (.cells #[.string tn, .int .i64 cc, .int .i64 pp] 41)
      have jb := blkT (Go.Deep.blk_alloc_new wr (.cells #[.string tn, .int .i64 cc, .int .i64 pp] 41))
      have hj : wr.heap.size < (wr.alloc (.cells #[.string tn, .int .i64 cc, .int .i64 pp] 41)).heap.size := by simp
      clear hbl
      go_upto_region 5 with fail
      generalize wr.alloc _ = w4 at *
      obtain ⟨j0, j1, j2⟩ := jb
      go_wp2_with fail
      refine (HST _).mono ?_
      rintro e w5 ⟨rfl, hb5⟩
      have b5 := b4.trans (hb5.mono b4.size)
      clear HST hb5 b4
      simp only []
      go_wp2_with fail
      go_roundw
      case rel => exact ⟨k + 1, h', by go_num, by omega, rfl, HS, b5⟩
      case measure => simp [intOf]; omega
    · obtain rfl : k = l.length := by omega
      go_wp2_with fail
      go_ret
      exact ⟨ret_int (by rw [hh.out]), hbl⟩

/-- What Hyperperiod answers. -/
def hypR (l : List TT) : Int × Int := if tsOK l then (if MT < hyp l l.length then (0, 5) else (hyp l l.length, 0)) else (0, 1)

set_option maxRecDepth 100000 in
set_option maxHeartbeats 6400000 in
theorem hyper_any (l : List TT) (a : Option Addr) (cap : Nat) (w : World) (hl : l.length ≤ 9223372036854775807) (hc : TSAt w w.heap.size a l) :
    Calls Tryz.prog 6 #[.slice a l.length cap] w fun e w' => e = .returned (.tuple #[.int .i64 (hypR l).1, .int .i64 (hypR l).2]) ∧ Below w.heap.size w w' := by
  have hM : MT = 1099511627776 := rfl
  have b1 := (Below.refl w.heap.size w).alloc (Nat.le_refl _) (.cells #[.slice a l.length cap] 22)
  have c1 : (w.alloc (.cells #[.slice a l.length cap] 22)).cell? ⟨w.heap.size, 0, none⟩ = some (.slice a l.length cap) := by simp [go_sem]
  have hs1 : w.heap.size < (w.alloc (.cells #[.slice a l.length cap] 22)).heap.size := by simp
  have HT := tvalid_any l a cap _ hl (hc.on b1 b1.size)
  have HF := Lib.hid (fun W (hok : tsOK l = true) (hb : Below w.heap.size w W) h1 h2 => hfold_any l a cap w.heap.size W hok (hc.on hb hb.size) h1 h2)
  clear hl hc
  by_cases hok : tsOK l = true
  · rw [hok] at HT
    have hle := hyp_le hok l.length (Nat.le_refl _)
    have HR0 : hypR l = if MT < hyp l l.length then (0, 5) else ((hyp l l.length : Int), 0) := by unfold hypR; rw [hok]; rfl
    have HF := fun W => HF.out W hok
    generalize hyp l l.length = h at *
    have hIu : (h : Int) ≤ 1099511627776000 := by omega
    clear hok
    go_enter Tryz.func6, Tryz.ntmps6
    go_upto_region 1 with fail
    generalize w.alloc _ = w1 at *
    go_upto_region 3 with (go_at_call 13; refine HT.mono ?_; rintro e w2 ⟨rfl, hb2⟩)
    have b2 := b1.trans (hb2.mono b1.size)
    have c2 := keep_cellN hb2 hs1 c1
    have hs2 : w.heap.size < w2.heap.size := by have := hb2.size; omega
    clear HT b1 c1 hb2
    go_wp2_with fail
    refine (HF _ b2 c2 hs2).mono ?_
    rintro e w3 ⟨rfl, hb3⟩
    have b3 := b2.trans (hb3.mono b2.size)
    clear HF hb3
    simp only []
    by_cases h1 : MT < h
    · rw [if_pos h1] at HR0
      have h1I : (1099511627776 : Int) < (h : Int) := by omega
      have HR := Lib.hid HR0
      clear h1 HR0
      go_wp2_with fail
      go_ret2
      exact ⟨by rw [HR.out]; rfl, b3⟩
    · rw [if_neg h1] at HR0
      have h1I : ¬ (1099511627776 : Int) < (h : Int) := by omega
      have HR := Lib.hid HR0
      clear h1 HR0
      go_wp2_with fail
      go_ret2
      exact ⟨by rw [HR.out]; rfl, b3⟩
  · have hok' : tsOK l = false := by simpa using hok
    rw [hok'] at HT
    have HR := Lib.hid (show hypR l = (0, 1) by unfold hypR; rw [hok']; rfl)
    clear HF hok hok'
    go_enter Tryz.func6, Tryz.ntmps6
    go_upto_region 1 with fail
    generalize w.alloc _ = w1 at *
    go_wp2_with (go_at_call 13; refine HT.mono ?_; rintro e w2 ⟨rfl, hb2⟩)
    go_ret2
    exact ⟨by rw [HR.out]; rfl, b1.trans (hb2.mono b1.size)⟩
end
end Go.Proofs.YtfoadipocpopiaaGreat
