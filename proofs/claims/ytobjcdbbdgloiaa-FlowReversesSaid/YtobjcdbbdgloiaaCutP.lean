/- Sets of vertices as numbers: plain Lean. Conditions: each theorem's own. -/
import Derived.Test.YtobjcdbbdgloiaaFlowP
namespace Go.Proofs.Ytobjcdbbdgloiaa

def bit (m u : Nat) : Nat := m / 2 ^ u % 2
theorem bit_01 (m u : Nat) : bit m u = 0 ∨ bit m u = 1 := by unfold bit; omega
def bitS (m : Nat) : Nat → Bool := fun u => decide (bit m u = 1)
theorem bit_high {m u j : Nat} (hm : m < 2 ^ u) (hj : j < u) : bit (m + 2 ^ u) j = bit m j := by
  unfold bit
  have h1 : 2 ^ u = 2 ^ (u - j - 1) * 2 * 2 ^ j := by rw [Nat.mul_assoc, ← Nat.pow_succ', ← Nat.pow_add]; congr 1; omega
  rw [h1, Nat.add_mul_div_right _ _ (Nat.pow_pos (by decide)), Nat.add_mul_mod_self_right]
theorem bit_top {m u : Nat} (hm : m < 2 ^ u) : bit (m + 2 ^ u) u = 1 ∧ bit m u = 0 := by
  unfold bit
  constructor
  · rw [Nat.add_div_right _ (Nat.pow_pos (by decide)), Nat.div_eq_of_lt hm]
  · rw [Nat.div_eq_of_lt hm]
/-- Every set below n is a number below 2^n. -/
theorem encode (S : Nat → Bool) : ∀ n : Nat, ∃ m, m < 2 ^ n ∧ ∀ u, u < n → bitS m u = S u
  | 0 => ⟨0, by decide, fun u hu => absurd hu (Nat.not_lt_zero _)⟩
  | n + 1 => by
    obtain ⟨m, h1, h2⟩ := encode S n
    have hp : 2 ^ (n + 1) = 2 ^ n + 2 ^ n := by rw [Nat.pow_succ]; omega
    obtain ⟨t1, t2⟩ := bit_top h1
    cases hS : S n
    · refine ⟨m, by omega, fun u hu => ?_⟩
      by_cases e : u = n
      · subst e; rw [hS]; unfold bitS; rw [t2]; rfl
      · exact h2 u (by omega)
    · refine ⟨m + 2 ^ n, by omega, fun u hu => ?_⟩
      by_cases e : u = n
      · subst e; rw [hS]; unfold bitS; rw [t1]; rfl
      · rw [← h2 u (by omega)]
        unfold bitS
        rw [bit_high h1 (by omega)]
theorem cut_sets {n : Nat} {c : Nat → Nat → Int} {S T : Nat → Bool} (h : ∀ u, u < n → S u = T u) : cutV n c S = cutV n c T :=
  sm_congr fun u hu => sm_congr fun v hv => by rw [h u hu, h v hv]
/-- What the reference has found among the sets below k. -/
structure Best (n : Nat) (c : Nat → Nat → Int) (s t k : Nat) (best : Int) : Prop where
  low : -1 ≤ best
  le : ∀ m, m < k → bit m s = 1 → bit m t = 0 → 0 ≤ best ∧ best ≤ cutV n c (bitS m)
  own : 0 ≤ best → ∃ m, m < k ∧ bit m s = 1 ∧ bit m t = 0 ∧ best = cutV n c (bitS m)
section
variable {n : Nat} {c : Nat → Nat → Int} {s t k : Nat} {best : Int}
theorem Best.init : Best n c s t 0 (-1) := ⟨by decide, fun m hm => absurd hm (Nat.not_lt_zero _), fun h => absurd h (by decide)⟩
theorem Best.skip (h : Best n c s t k best) (hk : ¬ (bit k s = 1 ∧ bit k t = 0)) : Best n c s t (k + 1) best := by
  refine ⟨h.low, fun m hm h1 h2 => ?_, fun hb => ?_⟩
  · by_cases e : m = k
    · subst e; exact absurd ⟨h1, h2⟩ hk
    · exact h.le m (by omega) h1 h2
  · obtain ⟨m, h1, h2⟩ := h.own hb
    exact ⟨m, by omega, h2⟩
theorem Best.take (h : Best n c s t k best) (hc : ∀ S, 0 ≤ cutV n c S) (h1 : bit k s = 1) (h2 : bit k t = 0) (hb : best < 0 ∨ cutV n c (bitS k) < best) : Best n c s t (k + 1) (cutV n c (bitS k)) := by
  refine ⟨by have := hc (bitS k); omega, fun m hm h3 h4 => ?_, fun _ => ⟨k, by omega, h1, h2, rfl⟩⟩
  refine ⟨hc _, ?_⟩
  by_cases e : m = k
  · subst e; exact Int.le_refl _
  · have := h.le m (by omega) h3 h4
    omega
theorem Best.keep (h : Best n c s t k best) (hb : ¬ (best < 0 ∨ cutV n c (bitS k) < best)) : Best n c s t (k + 1) best := by
  refine ⟨h.low, fun m hm h3 h4 => ?_, fun h0 => ?_⟩
  · by_cases e : m = k
    · subst e; omega
    · exact h.le m (by omega) h3 h4
  · obtain ⟨m, h1, h2⟩ := h.own h0
    exact ⟨m, by omega, h2⟩
theorem Best.cut (h : Best n c s t (2 ^ n) best) (hs : s < n) (ht : t < n) {val : Int} (hc : IsCut n c s t val) : best = val := by
  obtain ⟨⟨S, s1, s2, s3⟩, s4⟩ := hc
  obtain ⟨m, m1, m2⟩ := encode S n
  have b1 : bit m s = 1 := by have := m2 s hs; rw [s1] at this; simpa [bitS] using this
  have b2 : bit m t = 0 := by
    have := m2 t ht
    rw [s2] at this
    have h3 : ¬ bit m t = 1 := by simpa [bitS] using this
    rcases bit_01 m t with e | e
    · exact e
    · exact absurd e h3
  obtain ⟨h1, h2⟩ := h.le m m1 b1 b2
  rw [cut_sets m2, s3] at h2
  obtain ⟨q, q1, q2, q3, q4⟩ := h.own h1
  have := s4 (bitS q) (by simp [bitS, q2]) (by simp [bitS, q3])
  omega
end
end Go.Proofs.Ytobjcdbbdgloiaa
