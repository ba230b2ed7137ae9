/- The walks over bigint.shifted and unshifted. Conditions: the digits lie in memory, the shift is below 32. -/
import Derived.Test.YtfoadipocpopiaaGreatM23
namespace Go.Proofs.YtfoadipocpopiaaGreat
open Go.RowKit Go.Deep

theorem or_low (a c s : Nat) (hc : c < 2 ^ s) (h : a * 2 ^ s + c ≤ 18446744073709551615) : bits .or .u64 ((a * 2 ^ s : Nat) : Int) (c : Int) = ((a * 2 ^ s + c : Nat) : Int) := by
  have h1 := bits_or_u64_nat (a * 2 ^ s) c (by omega) (by omega)
  have h2 := Nat.two_pow_add_eq_or_of_lt (i := s) (b := c) hc a
  rw [h1, Nat.mul_comm a, h2]
theorem pow2_le {s : Nat} (h : s ≤ 31) : 1 ≤ 2 ^ s ∧ 2 ^ s ≤ 2147483648 :=
  ⟨Nat.pow_pos (by decide), by have := Nat.pow_le_pow_right (show 0 < 2 by decide) h; simpa using this⟩
theorem shift_step {r f : Nat → Nat} {k c t P : Nat} (h : vl r k + c * BB ^ k = vl f k * P) (ht : t = f k * P + c) : vl (updG r k (t % BB)) (k + 1) + t / BB * BB ^ (k + 1) = vl f (k + 1) * P := by
  rw [vl_updTop, vl]
  have := add_step (i := k) (r := vl r k) (a := vl f k * P) (b := 0) (c := c) (t := t) (by omega) (f k * P) 0 (by omega)
  rw [this, Nat.add_mul, Nat.mul_right_comm, Nat.zero_mul]
  omega

set_option maxRecDepth 100000 in
set_option maxHeartbeats 6400000 in
theorem shifted_any (n s : Nat) (f : Nat → Nat) (a : Option Addr) (cap : Nat) (w : World) (hn : n ≤ 100000) (hs : s ≤ 31) (hf : Dg f n) (ha : DAt w w.heap.size a n f) :
    Calls Tryz.prog 99 #[.slice a n cap, .int .i64 s] w fun e w' => ∃ b h, e = .returned (.slice (some ⟨b, 0, none⟩) (n + 1) (n + 1)) ∧ w.heap.size ≤ b ∧ RowU w' b 0 (n + 1) h ∧ Dg h (n + 1) ∧ vl h (n + 1) = vl f n * 2 ^ s ∧ Below w.heap.size w w' := by
  have hnI : (n : Int) ≤ 100000 := by omega
  have hsI : (s : Int) ≤ 31 := by omega
  have hmk := make_u32 (n + 1) (by omega)
  rw [show ((n + 1 : Nat) : Int) = (n : Int) + 1 from rfl] at hmk
  obtain ⟨p1, p2⟩ := pow2_le hs
  have HF := Lib.hid hf
  have HA := Lib.hid ha
  have hb1 := (Below.refl w.heap.size w).alloc (Nat.le_refl _) (.cells (madeCells #[.int .u32 0] (n + 1)) 108)
  have hr1 := RowU.made w (n + 1)
  clear hf ha
  go_enter Tryz.func99, Tryz.ntmps99
  go_wp2_with fail
  generalize w.alloc (.cells (madeCells #[.int .u32 0] (n + 1)) 108) = w1 at *
  go_loopw [15, 6] (fun u x wr => ∃ (k c : Nat) (r : Nat → Nat), u = .int .i64 k ∧ k ≤ n ∧ x = .int .u64 c ∧ Hid (c < 2 ^ s) ∧ RowU wr w.heap.size 0 (n + 1) r ∧ Hid (Dg r (n + 1) ∧ vl r k + c * BB ^ k = vl f k * 2 ^ s) ∧ Below w.heap.size w wr) (fun u _ _ => n - (intOf u).toNat)
  case atStart => exact ⟨0, 0, fun _ => 0, rfl, by omega, rfl, Lib.hid p1, hr1, Lib.hid ⟨fun _ _ => BB_pos, by simp [vl]⟩, hb1⟩
  case round =>
    obtain ⟨k, c, r, rfl, hk, rfl, hc, hrow, heq, hbl⟩ := hrel
    have hc := hc.out
    clear hr1 hb1
    have hBB : BB = 4294967296 := rfl
    by_cases h0 : k < n
    · obtain ⟨b, off, rfl, hbN, hcell⟩ := HA.out (by omega)
      have x0 := keep_cellN hbl hbN (hcell k h0)
      have hbr : b < wr.heap.size := by have := hbl.size; omega
      have hgr : w.heap.size < wr.heap.size := hrow.lt
      have gf := hrow.frozen k
      have gl := hrow.cell (j := k) (by omega)
      rw [Nat.zero_add] at gl
      have hfk := HF.out k h0
      have hkn : (k : Int) < (n : Int) := by omega
      have HS := Lib.hid (shift_step heq.out.2 rfl)
      have hD := Lib.hid heq.out.1
      have HRP := Lib.hid (fun (x : Nat) (z : Int) (hz : z = ((x : Nat) : Int)) => hrow.put (show k < n + 1 by omega) x z hz)
      clear hcell heq hrow
      generalize f k = fk at *
      have m1 : fk * 2 ^ s ≤ 4294967295 * 2 ^ s := Nat.mul_le_mul_right _ (by omega)
      have hor : bits .or .u64 ((fk : Int) * 2 ^ s) (c : Int) = ((fk * 2 ^ s + c : Nat) : Int) := by
        rw [← or_low fk c s hc (by omega)]; simp
      have hT : fk * 2 ^ s + c < BB * 2 ^ s := by rw [hBB]; omega
      have hT2 : (fk * 2 ^ s + c) / BB < 2 ^ s := Nat.div_lt_of_lt_mul hT
      have hT3 : fk * 2 ^ s + c ≤ 18446744073709551615 := by omega
      have hw : IntKind.u64.wrap ((fk : Int) * 2 ^ s) = (fk : Int) * 2 ^ s := by
        rw [show (fk : Int) * 2 ^ s = ((fk * 2 ^ s : Nat) : Int) by simp]
        rw [u64_nat _ (by omega)]
      clear m1 hT
      generalize fk * 2 ^ s + c = T at *
      go_wp2_with fail
      go_roundw
      case rel => exact ⟨k + 1, T / BB, updG r k (T % BB), by go_num, by omega, by rw [hBB]; congr 1, Lib.hid hT2, HRP.out _ _ (by rw [hBB]; omega), Lib.hid ⟨hD.out.upd (Nat.mod_lt _ BB_pos), HS.out⟩, hbl.setCell (Nat.le_refl _) _⟩
      case measure => simp [intOf]; omega
    · obtain rfl : k = n := by omega
      have hgr : w.heap.size < wr.heap.size := hrow.lt
      have gf := hrow.frozen k
      have gl := hrow.cell (j := k) (by omega)
      rw [Nat.zero_add] at gl
      have hrow' := hrow.put (show k < k + 1 by omega) c _ rfl
      have hb2 := hbl.setCell (p := (⟨w.heap.size, k, none⟩ : Addr)) (Nat.le_refl _) (.int .u32 c)
      have c32 : ((c : Nat) : Int) % 4294967296 = c := by omega
      have HV := Lib.hid (show vl (updG r k c) (k + 1) = vl f k * 2 ^ s by rw [vl_updTop]; exact heq.out.2)
      have HD := Lib.hid (show Dg (updG r k c) (k + 1) from heq.out.1.upd (by show c < 4294967296; omega))
      clear heq hrow hbl
      go_wp2_with fail
      go_ret
      exact ⟨w.heap.size, _, rfl, Nat.le_refl _, hrow', HD.out, HV.out, hb2⟩

structure Unsh (n P : Nat) (f : Nat → Nat) (j ab : Nat) (r : Nat → Nat) : Prop where
  dg : Dg r n
  val : vl r n * P + ab % P * BB ^ j + vl f j = vl f n
  zero : ∀ i, i < j → r i = 0
theorem Unsh.start {n P : Nat} {f : Nat → Nat} : Unsh n P f n 0 (fun _ => 0) := ⟨fun _ _ => BB_pos, by rw [vl_zero (f := fun _ => 0) (fun _ _ => rfl)]; simp, fun _ _ => rfl⟩
theorem Unsh.step {n P ab j t : Nat} {f r : Nat → Nat} (h : Unsh n P f (j + 1) ab r) (hj : j < n) (hP : 0 < P) (hd : P ∣ BB) (hf : f j < BB) (ht : t = ab * BB + f j) : Unsh n P f j (f j) (updG r j (t / P % BB)) := by
  obtain ⟨Q, hQ⟩ := hd
  have h1 : ab * BB = P * (ab / P * BB) + ab % P * BB := by
    conv => lhs; rw [← Nat.div_add_mod ab P]
    rw [Nat.add_mul, Nat.mul_assoc]
  have h2 : t / P = BB * (ab / P) + (ab % P * BB + f j) / P := by
    rw [ht, h1, Nat.add_assoc, Nat.mul_add_div hP, Nat.mul_comm BB]
  have h3 : ab % P * BB + f j < P * BB := by
    have : (ab % P + 1) * BB ≤ P * BB := Nat.mul_le_mul_right _ (Nat.mod_lt _ hP)
    rw [Nat.add_mul, Nat.one_mul] at this
    omega
  have h4 : (ab % P * BB + f j) / P < BB := Nat.div_lt_of_lt_mul h3
  have h5 : t / P % BB = (ab % P * BB + f j) / P := by rw [h2, Nat.mul_add_mod, Nat.mod_eq_of_lt h4]
  have h6 : (ab % P * BB + f j) % P = f j % P := by
    rw [hQ, Nat.mul_left_comm, Nat.mul_add_mod]
  have h7 := Nat.div_add_mod (ab % P * BB + f j) P
  rw [h5]
  rw [h6] at h7
  refine ⟨h.dg.upd h4, ?_, fun i hi => ?_⟩
  · have h8 := vl_upd (f := r) (x := (ab % P * BB + f j) / P) hj
    rw [h.zero j (by omega), Nat.zero_mul, Nat.add_zero] at h8
    have h9 := h.val
    rw [vl] at h9
    rw [h8, ← h9, Nat.add_mul, Nat.pow_succ]
    have h10 : ab % P * (BB ^ j * BB) + f j * BB ^ j = (ab % P * BB + f j) * BB ^ j := by rw [Nat.add_mul, Nat.mul_assoc, Nat.mul_comm BB]
    have h11 := congrArg (· * BB ^ j) h7
    rw [Nat.add_mul] at h11
    rw [← h11] at h10
    have h12 : (ab % P * BB + f j) / P * BB ^ j * P = P * ((ab % P * BB + f j) / P) * BB ^ j := by
      rw [Nat.mul_right_comm, Nat.mul_comm _ P]
    omega
  · unfold updG
    rw [if_neg (by omega)]
    exact h.zero i (by omega)
theorem Unsh.done {n P ab : Nat} {f r : Nat → Nat} (h : Unsh n P f 0 ab r) (hP : 0 < P) : vl r n = vl f n / P := by
  have h1 := h.val
  rw [vl, Nat.pow_zero, Nat.mul_one, Nat.add_zero] at h1
  rw [← h1, Nat.mul_comm, Nat.mul_add_div hP, Nat.div_eq_of_lt (Nat.mod_lt _ hP), Nat.add_zero]
theorem pow2_dvd {s : Nat} (h : s ≤ 31) : 2 ^ s ∣ BB := ⟨2 ^ (32 - s), by rw [← Nat.pow_add, show s + (32 - s) = 32 by omega]; rfl⟩

set_option maxRecDepth 100000 in
set_option maxHeartbeats 6400000 in
theorem unshifted_any (n s : Nat) (f : Nat → Nat) (a : Option Addr) (cap : Nat) (w : World) (hn : n ≤ 100000) (hs : s ≤ 31) (hf : Dg f n) (ha : DAt w w.heap.size a n f) :
    Calls Tryz.prog 101 #[.slice a n cap, .int .i64 s] w fun e w' => ∃ b h, e = .returned (.slice (some ⟨b, 0, none⟩) n n) ∧ w.heap.size ≤ b ∧ RowU w' b 0 n h ∧ Dg h n ∧ vl h n = vl f n / 2 ^ s ∧ Below w.heap.size w w' := by
  have hnI : (n : Int) ≤ 100000 := by omega
  have hsI : (s : Int) ≤ 31 := by omega
  have hBB : BB = 4294967296 := rfl
  have hmk := make_u32 n (by omega)
  obtain ⟨p1, p2⟩ := pow2_le hs
  have pd := pow2_dvd hs
  have HF := Lib.hid hf
  have HA := Lib.hid ha
  have hb1 := (Below.refl w.heap.size w).alloc (Nat.le_refl _) (.cells (madeCells #[.int .u32 0] n) 108)
  have hr1 := RowU.made w n
  clear hf ha
  go_enter Tryz.func101, Tryz.ntmps101
  go_wp2_with fail
  generalize w.alloc (.cells (madeCells #[.int .u32 0] n) 108) = w1 at *
  go_loopw [15, 6] (fun u x wr => ∃ (k ab : Nat) (r : Nat → Nat), u = .int .i64 k ∧ k ≤ n ∧ x = .int .u64 ab ∧ ab < BB ∧ RowU wr w.heap.size 0 n r ∧ Hid (Unsh n (2 ^ s) f (n - k) ab r) ∧ Below w.heap.size w wr) (fun u _ _ => n - (intOf u).toNat)
  case atStart => exact ⟨0, 0, _, rfl, by omega, rfl, BB_pos, hr1, Lib.hid Unsh.start, hb1⟩
  case round =>
    obtain ⟨k, ab, r, rfl, hk, rfl, hab, hrow, hpr, hbl⟩ := hrel
    clear hr1 hb1
    by_cases h0 : k < n
    · obtain ⟨j, hj⟩ : ∃ j, n = j + 1 + k := ⟨n - 1 - k, by omega⟩
      have hpr := hpr.out
      rw [show n - k = j + 1 by omega] at hpr
      obtain ⟨b, off, rfl, hbN, hcell⟩ := HA.out (by omega)
      have x0 := keep_cellN hbl hbN (hcell j (by omega))
      have hfj := HF.out j (by omega)
      have hbr : b < wr.heap.size := by have := hbl.size; omega
      have hgr : w.heap.size < wr.heap.size := hrow.lt
      have hne : b ≠ w.heap.size := by omega
      have gf := hrow.frozen j
      have gl := hrow.cell (j := j) (by omega)
      rw [Nat.zero_add] at gl
      have hS := Lib.hid (hpr.step (show j < n by omega) p1 pd hfj rfl)
      have HRP := Lib.hid (fun (x : Nat) (z : Int) (hz : z = ((x : Nat) : Int)) => hrow.put (show j < n by omega) x z hz)
      have k0 : (n : Int) - 1 - (k : Int) = (j : Int) := by omega
      have k1 : (j : Int) < (n : Int) := by omega
      have k2 : (k : Int) < (n : Int) := by omega
      have HM := Lib.hid (show n - (k + 1) = j by omega)
      clear hcell hj hpr hrow
      generalize f j = fj at *
      generalize r j = rj at *
      have hor := or_shl ab fj hab hfj
      have hTB : ab * BB + fj ≤ 18446744073709551615 := by rw [hBB]; omega
      have hT2 : (ab * BB + fj) / 2 ^ s ≤ 18446744073709551615 := Nat.le_trans (Nat.div_le_self _ _) hTB
      generalize ab * BB + fj = T at *
      have x1 : ∀ z, (wr.setCell ⟨w.heap.size, j, none⟩ (.int .u32 z)).cell? ⟨b, off + j, none⟩ = some (.int .u32 fj) := fun z => by
        rw [World.cell?_of_block (Below.heap_setCell wr ⟨w.heap.size, j, none⟩ (.int .u32 z) b hne)]; exact x0
      go_wp2_with fail
      go_roundw
      case rel => exact ⟨k + 1, fj, updG r j (T / 2 ^ s % BB), by go_num, by omega, rfl, hfj, HRP.out _ _ (by rw [hBB]; simp), Lib.hid (by rw [HM.out]; exact hS.out), hbl.setCell (Nat.le_refl _) _⟩
      case measure => simp [intOf]; omega
    · obtain rfl : k = n := by omega
      have hpr := hpr.out
      rw [Nat.sub_self] at hpr
      have HV := Lib.hid (hpr.done p1)
      have HD := Lib.hid hpr.dg
      clear hpr
      go_wp2_with fail
      go_ret
      exact ⟨w.heap.size, r, rfl, Nat.le_refl _, hrow, HD.out, HV.out, hbl⟩
end Go.Proofs.YtfoadipocpopiaaGreat
