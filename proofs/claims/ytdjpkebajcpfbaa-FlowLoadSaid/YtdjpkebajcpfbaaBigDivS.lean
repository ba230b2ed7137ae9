/- The walk over bigint.divideSmall. Conditions: the digits lie in memory. -/
import Derived.Test.YtdjpkebajcpfbaaBigSum
import Derived.Laws.Bits64b
namespace Go.Proofs.Ytdjpkebajcpfbaa
open Go.RowKit Go.Deep

structure DivS (n b : Nat) (f : Nat → Nat) (j rem : Nat) (q : Nat → Nat) : Prop where
  dg : Dg q n
  rm : rem < b
  val : vl f n = vl f j + b * vl q n + rem * BB ^ j
  zero : ∀ i, i < j → q i = 0
section
variable {n b j rem t : Nat} {f q : Nat → Nat}
theorem DivS.start (hb : 0 < b) : DivS n b f n 0 (fun _ => 0) := ⟨fun _ _ => BB_pos, hb, by rw [vl_zero (f := fun _ => 0) (fun _ _ => rfl)]; simp, fun _ _ => rfl⟩
theorem DivS.lt (h : DivS n b f (j + 1) rem q) (hj : j < n) (hf : Dg f n) : rem * BB + f j < b * BB := by
  have h1 := h.rm
  have h2 := hf j hj
  have h3 : (rem + 1) * BB ≤ b * BB := Nat.mul_le_mul_right _ h1
  rw [Nat.add_mul, Nat.one_mul] at h3
  omega
theorem DivS.step (h : DivS n b f (j + 1) rem q) (hj : j < n) (hb : 0 < b) (hf : Dg f n) (ht : t = rem * BB + f j) : DivS n b f j (t % b) (updG q j (t / b)) := by
  have hl := h.lt hj hf
  rw [← ht] at hl
  refine ⟨h.dg.upd (Nat.div_lt_of_lt_mul hl), Nat.mod_lt _ hb, ?_, fun i hi => ?_⟩
  · have h1 := vl_upd (f := q) (x := t / b) hj
    rw [h.zero j (by omega), Nat.zero_mul, Nat.add_zero] at h1
    have h2 : b * (t / b) + t % b = t := Nat.div_add_mod t b
    have h3 := h.val
    have h4 : t * BB ^ j = rem * BB ^ (j + 1) + f j * BB ^ j := by rw [ht, Nat.add_mul, Nat.pow_succ, Nat.mul_assoc, Nat.mul_comm BB]
    have h5 : t * BB ^ j = b * (t / b * BB ^ j) + t % b * BB ^ j := by
      conv => lhs; rw [← h2]
      rw [Nat.add_mul, Nat.mul_assoc]
    rw [h1, Nat.mul_add]
    rw [vl] at h3
    omega
  · unfold updG
    rw [if_neg (by omega)]
    exact h.zero i (by omega)
end

theorem u64_nat (q : Nat) (h : q ≤ 18446744073709551615) : IntKind.u64.wrap (q : Int) = q := IntWalk.u64_in _ (by omega)
theorem or_shl (a b : Nat) (ha : a < BB) (hb : b < BB) : bits .or .u64 ((a : Int) * 4294967296) (b : Int) = ((a * BB + b : Nat) : Int) := by
  have hBB : BB = 4294967296 := rfl
  have h := bits_or_u64_nat (a * 4294967296) b (by omega) (by omega)
  rw [Int.natCast_mul] at h
  have h2 := Nat.two_pow_add_eq_or_of_lt (i := 32) (b := b) (by omega) a
  rw [show ((4294967296 : Nat) : Int) = 4294967296 from rfl] at h
  rw [h, hBB, Nat.mul_comm a, show (4294967296 : Nat) = 2 ^ 32 from rfl, h2]

set_option maxRecDepth 100000 in
set_option maxHeartbeats 6400000 in
theorem divideSmall_any (n d : Nat) (f : Nat → Nat) (a : Option Addr) (cap : Nat) (w : World) (hn : n ≤ 100000) (hd0 : 0 < d) (hd : d < BB) (hf : Dg f n) (ha : DAt w w.heap.size a n f) :
    Calls Try.prog 67 #[.slice a n cap, .int .u64 d] w fun e w' => ∃ a' k c' h, e = .returned (.tuple #[.slice a' k c', .int .u64 ((vl f n % d : Nat) : Int)]) ∧ Nrm h k ∧ vl h k = vl f n / d ∧ k ≤ n ∧ k ≤ c' ∧ c' ≤ 9223372036854775807 ∧ DAt w' w'.heap.size a' k h ∧ Below w.heap.size w w' := by
  have hnI : (n : Int) ≤ 100000 := by omega
  have hBB : BB = 4294967296 := rfl
  have hmk := make_u32 n (by omega)
  have HF := Lib.hid hf
  have HA := Lib.hid ha
  have hb1 := (Below.refl w.heap.size w).alloc (Nat.le_refl _) (.cells (madeCells #[.int .u32 0] n) 77)
  have hr1 := RowU.made w n
  clear hf ha
  go_enter Try.func67, Try.ntmps67
  go_wp2_with fail
  generalize w.alloc (.cells (madeCells #[.int .u32 0] n) 77) = w1 at *
  go_loopw [15, 5] (fun u x wr => ∃ (k rem : Nat) (q : Nat → Nat), u = .int .i64 k ∧ k ≤ n ∧ x = .int .u64 rem ∧ RowU wr w.heap.size 0 n q ∧ Hid (DivS n d f (n - k) rem q) ∧ Below w.heap.size w wr) (fun u _ _ => n - (intOf u).toNat)
  case atStart => exact ⟨0, 0, _, rfl, by omega, rfl, hr1, Lib.hid (DivS.start hd0), hb1⟩
  case round =>
    obtain ⟨k, rem, q, rfl, hk, rfl, hrow, hpr, hbl⟩ := hrel
    clear hr1 hb1
    by_cases h0 : k < n
    · obtain ⟨j, hj⟩ : ∃ j, n = j + 1 + k := ⟨n - 1 - k, by omega⟩
      have hpr := hpr.out
      rw [show n - k = j + 1 by omega] at hpr
      obtain ⟨b, off, rfl, hbN, hcell⟩ := HA.out (by omega)
      have x0 := keep_cellN hbl hbN (hcell j (by omega))
      have hfj := HF.out j (by omega)
      have hbr : b < wr.heap.size := by have := hbl.size; omega
      have hgr : w.heap.size < wr.heap.size := hrow.lt
      have gf := hrow.frozen j
      have gl := hrow.cell (j := j) (by omega)
      rw [Nat.zero_add] at gl
      have hrd := hpr.rm
      have hl := hpr.lt (show j < n by omega) HF.out
      have hS := Lib.hid (hpr.step (show j < n by omega) hd0 HF.out rfl)
      have HRP := Lib.hid (fun (x : Nat) (z : Int) (hz : z = ((x : Nat) : Int)) => hrow.put (show j < n by omega) x z hz)
      have k0 : (n : Int) - 1 - (k : Int) = (j : Int) := by omega
      have k1 : (j : Int) < (n : Int) := by omega
      have k2 : (k : Int) < (n : Int) := by omega
      have HM := Lib.hid (show n - (k + 1) = j by omega)
      clear hcell hj hpr hrow
      generalize f j = fj at *
      generalize q j = qj at *
      have hor := or_shl rem fj (by omega) hfj
      have hT2 : (rem * BB + fj) / d < BB := Nat.div_lt_of_lt_mul hl
      have hT3 : (rem * BB + fj) % d < d := Nat.mod_lt _ hd0
      have hTB : rem * BB + fj ≤ 18446744073709551615 := by rw [hBB]; omega
      have hq : IntKind.u64.wrap (((rem * BB + fj : Nat) : Int).tdiv (d : Int)) = (((rem * BB + fj) / d : Nat) : Int) := by
        rw [IntWalk.u64_quo _ _ (by omega)]; omega
      have hr : ((rem * BB + fj : Nat) : Int).tmod (d : Int) = (((rem * BB + fj) % d : Nat) : Int) := by
        rw [Int.tmod_eq_emod_of_nonneg (by omega)]; omega
      have hq2 : IntKind.u64.wrap (((rem * BB + fj : Nat) : Int) / (d : Int)) = (((rem * BB + fj) / d : Nat) : Int) := by
        rw [← Int.natCast_ediv]; exact u64_nat _ (by omega)
      have hr2 : ((rem * BB + fj : Nat) : Int) % (d : Int) = (((rem * BB + fj) % d : Nat) : Int) := by omega
      have hd0I : ¬ (d : Int) = 0 := by omega
      clear hl
      generalize rem * BB + fj = T at *
      generalize T / d = Q at *
      generalize T % d = R at *
      go_wp2_with fail
      go_roundw
      case rel => exact ⟨k + 1, R, updG q j Q, by go_num, by omega, rfl, HRP.out _ _ (by omega), Lib.hid (by rw [HM.out]; exact hS.out), hbl.setCell (Nat.le_refl _) _⟩
      case measure => simp [intOf]; omega
    · obtain rfl : k = n := by omega
      have hpr := hpr.out
      rw [Nat.sub_self] at hpr
      have hv := hpr.val
      rw [vl, Nat.pow_zero, Nat.zero_add, Nat.mul_one] at hv
      have h1 : vl f k / d = vl q k := by rw [hv, Nat.add_comm, Nat.add_mul_div_left _ _ hd0, Nat.div_eq_of_lt hpr.rm, Nat.zero_add]
      have h2 : vl f k % d = rem := by rw [hv, Nat.add_comm, Nat.add_mul_mod_self_left, Nat.mod_eq_of_lt hpr.rm]
      have HD := Lib.hid hpr.dg
      have HV := Lib.hid h1
      have HR := Lib.hid h2
      have HT := Lib.hid (trim_any k q (some ⟨w.heap.size, 0, none⟩) k wr (by omega) (Nat.le_refl _) (by omega) HD.out hrow.dat)
      clear hpr hv h1 h2
      go_wp2_with (go_at_call 64; refine (HT.out).mono ?_; rintro e w3 ⟨a', m', c', rfl, h1, h2, h3, h4, _, h5⟩)
      go_ret2
      exact ⟨a', m', c', q, by rw [HR.out]; rfl, h1.nrm HD.out, h1.val.trans HV.out.symm, h1.1, h2, h3, h4.on h5 h5.size, hbl.trans (h5.mono hbl.size)⟩
end Go.Proofs.Ytdjpkebajcpfbaa
