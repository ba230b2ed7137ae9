/- The walk over bigint.Int's Int, for numbers that are not negative. Conditions: the integer lies in memory and is an int. -/
import Derived.Test.YtdjpkebajcpfbaaBigCmp
namespace Go.Proofs.Ytdjpkebajcpfbaa
open Go.RowKit Go.Deep

theorem or_hi (a b : Nat) (ha : a < BB) (hb : b < BB) : bits .or .u64 (b : Int) ((a : Int) * 4294967296) = ((b + a * BB : Nat) : Int) := by
  have hBB : BB = 4294967296 := rfl
  have h := bits_or_u64_nat b (a * 4294967296) (by omega) (by omega)
  rw [Int.natCast_mul] at h
  have h2 := Nat.two_pow_add_eq_or_of_lt (i := 32) (b := b) (by omega) a
  rw [show ((4294967296 : Nat) : Int) = 4294967296 from rfl] at h
  rw [h, hBB, Nat.or_comm, Nat.mul_comm a, show (4294967296 : Nat) = 2 ^ 32 from rfl, ← h2, Nat.add_comm]
theorem or_zero64 (a : Nat) (ha : a < BB) : bits .or .u64 0 (a : Int) = (a : Int) := by
  have hBB : BB = 4294967296 := rfl
  have h := bits_or_u64_nat 0 a (by omega) (by omega)
  simpa using h

set_option maxRecDepth 100000 in
set_option maxHeartbeats 6400000 in
theorem int_any (x : Value) (z K : Nat) (w : World) (hz : z ≤ 9223372036854775807) (hx : IntV w w.heap.size x z K) :
    Calls Try.prog 31 #[x] w fun e w' => e = .returned (.tuple #[.int .i64 z, .bool true]) ∧ Below w.heap.size w w' := by
  obtain ⟨xg, xa, xn, xc, f, rfl, hx1, hx2, hx3, hx4, hx5, hz0, hx7⟩ := hx.tight (K' := 2) (by rw [Int.natAbs_natCast]; have : BB ^ 2 = 18446744073709551616 := rfl; omega)
  obtain rfl := IntV.pos (w := w) (N := 0) (K := 0) hx2 (by rw [← hz0]; omega) hx7
  have hze : z = vl f xn := by
    have h : (z : Int) = ((vl f xn : Nat) : Int) := by simpa [sgn] using hz0
    omega
  have hBB : BB = 4294967296 := rfl
  have hnI : (xn : Int) ≤ 2 := by omega
  have b1 := (Below.refl w.heap.size w).alloc (Nat.le_refl _) (.cells #[.bool false, .slice xa xn xc] 54)
  have hd := hx5.on b1 (by simp)
  have c0 : (w.alloc (.cells #[.bool false, .slice xa xn xc] 54)).cell? ⟨w.heap.size, 0, none⟩ = some (.bool false) := by simp [go_sem]
  have c1 : (w.alloc (.cells #[.bool false, .slice xa xn xc] 54)).cell? ⟨w.heap.size, 1, none⟩ = some (.slice xa xn xc) := by simp [go_sem]
  have hs1 : w.heap.size < (w.alloc (.cells #[.bool false, .slice xa xn xc] 54)).heap.size := by simp
  have HZ := Lib.hid hze
  have HD := Lib.hid hx2.1
  have HDA := Lib.hid hd
  clear hze hz0 hx2 hx5 hx7 hd hx
  go_enter Try.func31, Try.ntmps31
  go_upto_region 1 with fail
  generalize w.alloc (.cells #[.bool false, .slice xa xn xc] 54) = w1 at *
  go_wp2_with fail
  go_loopw [13, 4] (fun u v wr => ∃ k A : Nat, u = .int .i64 k ∧ k ≤ xn ∧ v = .int .u64 A ∧ Hid (A = vl f k) ∧ wr = w1) (fun u _ _ => xn - (intOf u).toNat)
  case atStart => exact ⟨0, 0, rfl, by omega, rfl, Lib.hid rfl, rfl⟩
  case round =>
    obtain ⟨k, A, rfl, hk, rfl, hA, rfl⟩ := hrel
    by_cases h0 : k < xn
    · obtain ⟨b, off, rfl, hbN, hcell⟩ := HDA.out (by omega)
      have x0 := hcell k h0
      have hf := HD.out k h0
      have hkn : (k : Int) < (xn : Int) := by omega
      have hk01 : k = 0 ∨ k = 1 := by omega
      clear hcell
      rcases hk01 with rfl | rfl
      · have hA0 : A = 0 := hA.out
        subst hA0
        have hv : vl f 1 = f 0 := vl_one
        have HV := Lib.hid hv.symm
        have ho := or_zero64 (f 0) hf
        rw [Nat.add_zero] at x0
        clear hA hv
        generalize f 0 = d at *
        go_wp2_with fail
        go_roundw
        case rel => exact ⟨1, d, by go_num, by omega, rfl, HV, trivial⟩
        case measure => simp [intOf]; omega
      · have hA1 : A = f 0 := hA.out.trans vl_one
        have hf0 := HD.out 0 (by omega)
        have HV := Lib.hid (show f 0 + f 1 * BB = vl f 2 by simp [vl])
        have ho := or_hi (f 1) (f 0) hf hf0
        rw [← hA1] at ho HV
        clear hA hA1
        generalize f 1 = d at *
        generalize hS : A + d * BB = S at *
        clear hS
        go_wp2_with fail
        go_roundw
        case rel => exact ⟨2, S, by go_num, by omega, rfl, HV, trivial⟩
        case measure => simp [intOf]; omega
    · obtain rfl : k = xn := by omega
      have hAz : A = z := hA.out.trans HZ.out.symm
      subst hAz
      have hAI : (A : Int) ≤ 9223372036854775807 := by omega
      have hAn : ¬ (9223372036854775808 : Int) ≤ (A : Int) := by omega
      have hAd : decide ((9223372036854775808 : Int) ≤ (A : Int)) = false := decide_eq_false hAn
      have hAw : wrap64 (A : Int) = (A : Int) := IntWalk.wrap64_in _ (by omega)
      clear hA HZ HDA hz
      go_wp2_with fail
      go_ret2
      exact ⟨rfl, b1⟩
end Go.Proofs.Ytdjpkebajcpfbaa
