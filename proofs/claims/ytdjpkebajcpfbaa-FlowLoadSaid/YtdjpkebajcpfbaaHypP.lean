/- The hyperperiod and the demand of a set: plain Lean. Conditions: each theorem's own. -/
import Derived.Test.YtdjpkebajcpfbaaM06
namespace Go.Proofs.Ytdjpkebajcpfbaa
def MT : Nat := 1099511627776
/-- The fold of Hyperperiod. -/
def hyp (l : List TT) : Nat → Nat
  | 0 => 1
  | k + 1 => if MT < hyp l k then hyp l k else hyp l k / Nat.gcd (hyp l k) (tp l k) * tp l k
section
variable {l : List TT} {k : Nat}
theorem lcm_pos' {a b : Nat} (ha : 0 < a) (hb : 0 < b) : 0 < a / Nat.gcd a b * b :=
  Nat.mul_pos (Nat.div_pos (Nat.le_of_dvd ha (Nat.gcd_dvd_left a b)) (Nat.gcd_pos_of_pos_left _ ha)) hb
theorem hyp_pos (h : tsOK l = true) : ∀ k, k ≤ l.length → 0 < hyp l k
  | 0, _ => Nat.one_pos
  | k + 1, hk => by
    have h1 := hyp_pos h k (by omega)
    rw [hyp]
    split
    · exact h1
    · exact lcm_pos' h1 (by have := tsOK_at h (show k < l.length by omega); omega)
theorem hyp_le (h : tsOK l = true) : ∀ k, k ≤ l.length → hyp l k ≤ 1000 * MT
  | 0, _ => by simp [hyp, MT]
  | k + 1, hk => by
    have h1 := hyp_le h k (by omega)
    rw [hyp]
    split
    · exact h1
    · have h2 : hyp l k / Nat.gcd (hyp l k) (tp l k) ≤ MT := Nat.le_trans (Nat.div_le_self _ _) (by omega)
      have h3 := (tsOK_at h (show k < l.length by omega)).2.2.1
      rw [Nat.mul_comm 1000]
      exact Nat.mul_le_mul h2 h3
theorem hyp_stay (h1 : MT < hyp l k) : ∀ d, MT < hyp l (k + d)
  | 0 => h1
  | d + 1 => by
    rw [← Nat.add_assoc, hyp, if_pos (hyp_stay h1 d)]
    exact hyp_stay h1 d
theorem hyp_low (h : hyp l l.length ≤ MT) (hk : k ≤ l.length) : hyp l k ≤ MT := by
  rcases Nat.lt_or_ge MT (hyp l k) with h1 | h1
  · have := hyp_stay h1 (l.length - k)
    rw [show k + (l.length - k) = l.length by omega] at this
    omega
  · exact h1
theorem hyp_succ (h : hyp l l.length ≤ MT) (hk : k < l.length) : hyp l (k + 1) = Nat.lcm (hyp l k) (tp l k) := by
  have h1 := hyp_low h (show k ≤ l.length by omega)
  rw [hyp, if_neg (by omega), Nat.lcm]
  exact Nat.div_mul_right_comm (Nat.gcd_dvd_left _ _) _
theorem hyp_dvd (h : hyp l l.length ≤ MT) {i : Nat} : ∀ k, k ≤ l.length → i < k → tp l i ∣ hyp l k
  | 0, _, hi => absurd hi (Nat.not_lt_zero _)
  | k + 1, hk, hi => by
    rw [hyp_succ h (by omega)]
    by_cases e : i = k
    · subst e; exact Nat.dvd_lcm_right _ _
    · exact Nat.dvd_trans (hyp_dvd h k (by omega) (by omega)) (Nat.dvd_lcm_left _ _)
theorem hyp_least (h : hyp l l.length ≤ MT) {m : Nat} : ∀ k, k ≤ l.length → (∀ i, i < k → tp l i ∣ m) → hyp l k ∣ m
  | 0, _, _ => Nat.one_dvd _
  | k + 1, hk, hm => by
    rw [hyp_succ h (by omega)]
    exact Nat.lcm_dvd (hyp_least h k (by omega) (fun i hi => hm i (by omega))) (hm k (by omega))
end
/-- The demand of the first k tasks. -/
def dem (l : List TT) (x : Nat) : Nat → Nat
  | 0 => 0
  | k + 1 => dem l x k + tc l k * (x / tp l k)
section
variable {l : List TT} {k x : Nat}
theorem dem_le (h : tsOK l = true) (x : Nat) : ∀ k, k ≤ l.length → dem l x k ≤ k * x
  | 0, _ => by simp [dem]
  | k + 1, hk => by
    have h1 := dem_le h x k (by omega)
    obtain ⟨h2, h3, _⟩ := tsOK_at h (show k < l.length by omega)
    have h4 : tc l k * (x / tp l k) ≤ tp l k * (x / tp l k) := Nat.mul_le_mul_right _ h3
    have h5 := Nat.mul_div_le x (tp l k)
    rw [dem, Nat.add_mul, Nat.one_mul]
    omega
theorem dem_load (h : tsOK l = true) : ∀ k, k ≤ l.length → (∀ i, i < k → tp l i ∣ x) → dem l x k * dn l k = nm l k * x
  | 0, _, _ => by simp [dem, nm]
  | k + 1, hk, hd => by
    have h1 := dem_load h k (by omega) (fun i hi => hd i (by omega))
    have h2 : x / tp l k * tp l k = x := Nat.div_mul_cancel (hd k (by omega))
    rw [dem, dn, nm, Nat.add_mul, Nat.add_mul]
    have a1 : dem l x k * (dn l k * tp l k) = dem l x k * dn l k * tp l k := (Nat.mul_assoc _ _ _).symm
    have a2 : nm l k * tp l k * x = nm l k * x * tp l k := Nat.mul_right_comm _ _ _
    have a3 : tc l k * (x / tp l k) * (dn l k * tp l k) = tc l k * dn l k * (x / tp l k * tp l k) := by simp only [Nat.mul_assoc, Nat.mul_comm, Nat.mul_left_comm]
    rw [a1, a2, a3, h1, h2]
theorem dem_add (h : tsOK l = true) (y : Nat) : ∀ k, k ≤ l.length → (∀ i, i < k → tp l i ∣ y) → dem l (x + y) k = dem l x k + dem l y k
  | 0, _, _ => rfl
  | k + 1, hk, hd => by
    have h1 := dem_add h y k (by omega) (fun i hi => hd i (by omega))
    have hp : 0 < tp l k := by have := tsOK_at h (show k < l.length by omega); omega
    obtain ⟨c, hc⟩ := hd k (by omega)
    have h2 : (x + y) / tp l k = x / tp l k + y / tp l k := by
      rw [hc, Nat.add_mul_div_left _ _ hp, Nat.mul_div_cancel_left _ hp]
    rw [dem, dem, dem, h1, h2, Nat.mul_add]
    omega
end
/-- The load compared with cores, by the demand in the hyperperiod. -/
theorem fits_iff {l : List TT} (h : tsOK l = true) {H : Nat} (hH : 0 < H) (hd : ∀ i, i < l.length → tp l i ∣ H) (z : Int) :
    ((nm l l.length : Int) ≤ z * dn l l.length) ↔ ((dem l H l.length : Int) ≤ z * H) := by
  have h1 := dem_load h l.length (Nat.le_refl _) hd
  have h2 := dn_pos h l.length (Nat.le_refl _)
  have e : (dem l H l.length : Int) * dn l l.length = nm l l.length * H := by exact_mod_cast h1
  have p1 : (0 : Int) < (dn l l.length : Int) := by omega
  have p2 : (0 : Int) < (H : Int) := by omega
  constructor
  · intro h3
    have h4 := Int.mul_le_mul_of_nonneg_right h3 (Int.le_of_lt p2)
    rw [← e, Int.mul_right_comm] at h4
    exact Int.le_of_mul_le_mul_right h4 p1
  · intro h3
    have h4 := Int.mul_le_mul_of_nonneg_right h3 (Int.le_of_lt p1)
    rw [e, Int.mul_right_comm] at h4
    exact Int.le_of_mul_le_mul_right h4 p2
end Go.Proofs.Ytdjpkebajcpfbaa
