/- The walk over math/bits.LeadingZeros32. Conditions: the argument is a digit that is not 0. -/
import Derived.Test.YtfoadipocpopiaaGreatM23
import Derived.Test.YtfoadipocpopiaaGreatBits0
namespace Go.Proofs.YtfoadipocpopiaaGreat
open Go.RowKit

theorem bitLen_pow : ∀ (k x : Nat), 2 ^ k ≤ x → x < 2 ^ (k + 1) → k < 64 → Lib.bitLen x = k + 1
  | 0, x, h1, h2, _ => by
    obtain rfl : x = 1 := by simp at h1 h2; omega
    decide
  | k + 1, x, h1, h2, h3 => by
    have hx : x < 2 ^ 64 := Nat.lt_of_lt_of_le h2 (Nat.pow_le_pow_right (by decide) (by omega))
    rw [Nat.pow_succ] at h1 h2
    have hp : 0 < 2 ^ k := Nat.pow_pos (by decide)
    rw [Lib.bitLen_half x (by omega) hx, bitLen_pow k (x / 2) (by omega) (by rw [Nat.pow_succ]; rw [Nat.pow_succ] at h2; omega) (by omega)]
    omega

/-- The shift that makes the top bit of a digit 1. -/
theorem shift_ex (d : Nat) (h0 : 0 < d) (h1 : d < BB) : ∃ s, s ≤ 31 ∧ 2147483648 ≤ d * 2 ^ s ∧ d * 2 ^ s < BB ∧ Lib.bitLen d = 32 - s := by
  have hB : BB = 2 ^ 32 := rfl
  obtain ⟨k, hk, h2, h3⟩ : ∃ k, k ≤ 31 ∧ 2 ^ k ≤ d ∧ d < 2 ^ (k + 1) :=
    ⟨Nat.log2 d, by have := (Nat.log2_lt (by omega : d ≠ 0) (k := 32)).2 (by omega); omega, Nat.log2_self_le (by omega), Nat.lt_log2_self⟩
  refine ⟨31 - k, by omega, ?_, ?_, ?_⟩
  · have h4 : 2 ^ k * 2 ^ (31 - k) ≤ d * 2 ^ (31 - k) := Nat.mul_le_mul_right _ h2
    rw [← Nat.pow_add, show k + (31 - k) = 31 by omega] at h4
    exact h4
  · have h4 : d * 2 ^ (31 - k) < 2 ^ (k + 1) * 2 ^ (31 - k) := Nat.mul_lt_mul_of_pos_right h3 (Nat.pow_pos (by decide))
    rw [← Nat.pow_add, show k + 1 + (31 - k) = 32 by omega] at h4
    omega
  · rw [bitLen_pow k d h2 h3 (by omega)]
    omega

set_option maxHeartbeats 4000000 in
set_option maxRecDepth 100000 in
theorem lz32_any (d s : Nat) (w : World) (h1 : d < BB) (hs : s ≤ 31) (hl : Lib.bitLen d = 32 - s) :
    Calls Tryz.prog 98 #[.int .u32 d] w fun e w' => e = .returned (.int .i64 s) ∧ w' = w := by
  have hB : BB = 4294967296 := rfl
  have HL := Lib.hid (show ((Lib.bitLen (d : Int).toNat : Nat) : Int) = 32 - (s : Int) by rw [Int.toNat_natCast, hl]; omega)
  go_enter Tryz.func98, Tryz.ntmps98
  go_wp2_with (go_at_call 69; refine (len32_any d _ (by omega) (by omega)).mono ?_; rintro e w' ⟨rfl, rfl⟩; rw [HL.out])
  go_ret
  refine ⟨ret_int (by go_num), rfl⟩
end Go.Proofs.YtfoadipocpopiaaGreat
