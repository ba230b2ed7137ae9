/- The load of a set as a fraction; greatest common divisors: plain Lean. Conditions: each theorem's own. -/
import Derived.Test.YtdjpkebajcpfbaaTs
import Derived.Test.YtdjpkebajcpfbaaDig
namespace Go.Proofs.Ytdjpkebajcpfbaa

def tc (l : List TT) (k : Nat) : Nat := (ttAt l k).c.toNat
def tp (l : List TT) (k : Nat) : Nat := (ttAt l k).p.toNat
/-- The product of the first k periods. -/
def dn (l : List TT) : Nat → Nat
  | 0 => 1
  | k + 1 => dn l k * tp l k
/-- The sum of the first k loads, over dn. -/
def nm (l : List TT) : Nat → Nat
  | 0 => 0
  | k + 1 => nm l k * tp l k + tc l k * dn l k
section
variable {l : List TT} {k : Nat}
theorem tsOK_at (h : tsOK l = true) (hk : k < l.length) : 1 ≤ tc l k ∧ tc l k ≤ tp l k ∧ tp l k ≤ 1000 ∧ (ttAt l k).c = (tc l k : Int) ∧ (ttAt l k).p = (tp l k : Int) := by
  obtain ⟨h1, h2, h3⟩ := (tsOK_bd h).2 k hk
  unfold tc tp
  omega
theorem dn_pos (h : tsOK l = true) : ∀ k, k ≤ l.length → 0 < dn l k
  | 0, _ => Nat.one_pos
  | k + 1, hk => Nat.mul_pos (dn_pos h k (by omega)) (by have := tsOK_at h (show k < l.length by omega); omega)
theorem dn_le (h : tsOK l = true) : ∀ k, k ≤ l.length → dn l k ≤ BB ^ k
  | 0, _ => by simp [dn]
  | k + 1, hk => by
    rw [dn, Nat.pow_succ]
    exact Nat.mul_le_mul (dn_le h k (by omega)) (by have := tsOK_at h (show k < l.length by omega); have : BB = 4294967296 := rfl; omega)
theorem nm_le (h : tsOK l = true) : ∀ k, k ≤ l.length → nm l k ≤ k * dn l k
  | 0, _ => by simp [nm]
  | k + 1, hk => by
    have h1 := nm_le h k (by omega)
    have h2 := (tsOK_at h (show k < l.length by omega)).2.1
    have h3 : nm l k * tp l k ≤ k * dn l k * tp l k := Nat.mul_le_mul_right _ h1
    have h4 : tc l k * dn l k ≤ tp l k * dn l k := Nat.mul_le_mul_right _ h2
    rw [nm, dn, Nat.add_mul, Nat.one_mul, ← Nat.mul_assoc, Nat.mul_comm (dn l k) (tp l k)]
    omega
end
/-- p / q is the load of the first k tasks, in lowest terms. -/
structure LoadPQ (l : List TT) (k p q : Nat) : Prop where
  pos : 0 < q
  cop : Nat.gcd p q = 1
  eq : p * dn l k = nm l k * q
theorem LoadPQ.start (l : List TT) : LoadPQ l 0 0 1 := ⟨by decide, by decide, by simp [nm]⟩
theorem div_gcd_eq {a b : Nat} (_hb : 0 < b) : a = Nat.gcd a b * (a / Nat.gcd a b) ∧ b = Nat.gcd a b * (b / Nat.gcd a b) :=
  ⟨(Nat.mul_div_cancel' (Nat.gcd_dvd_left a b)).symm, (Nat.mul_div_cancel' (Nat.gcd_dvd_right a b)).symm⟩
theorem gcd_div_one {a b : Nat} (hb : 0 < b) : Nat.gcd (a / Nat.gcd a b) (b / Nat.gcd a b) = 1 := by
  have hg : 0 < Nat.gcd a b := Nat.gcd_pos_of_pos_right _ hb
  rw [Nat.gcd_div (Nat.gcd_dvd_left a b) (Nat.gcd_dvd_right a b), Nat.div_self hg]
theorem LoadPQ.step {l : List TT} {k p q : Nat} (h : LoadPQ l k p q) (ht : 0 < tp l k) :
    LoadPQ l (k + 1) ((p * (tp l k / Nat.gcd (tc l k) (tp l k)) + tc l k / Nat.gcd (tc l k) (tp l k) * q) / Nat.gcd (p * (tp l k / Nat.gcd (tc l k) (tp l k)) + tc l k / Nat.gcd (tc l k) (tp l k) * q) (q * (tp l k / Nat.gcd (tc l k) (tp l k)))) (q * (tp l k / Nat.gcd (tc l k) (tp l k)) / Nat.gcd (p * (tp l k / Nat.gcd (tc l k) (tp l k)) + tc l k / Nat.gcd (tc l k) (tp l k) * q) (q * (tp l k / Nat.gcd (tc l k) (tp l k)))) := by
  obtain ⟨e1, e2⟩ := div_gcd_eq (a := tc l k) ht
  have hg : 0 < Nat.gcd (tc l k) (tp l k) := Nat.gcd_pos_of_pos_right _ ht
  generalize tp l k / Nat.gcd (tc l k) (tp l k) = q2 at *
  generalize tc l k / Nat.gcd (tc l k) (tp l k) = p2 at *
  generalize Nat.gcd (tc l k) (tp l k) = g at *
  have hq2 : 0 < q2 := by
    rcases Nat.eq_zero_or_pos q2 with h0 | h0
    · subst h0; omega
    · exact h0
  have hQ : 0 < q * q2 := Nat.mul_pos h.pos hq2
  have hE : (p * q2 + p2 * q) * dn l (k + 1) = nm l (k + 1) * (q * q2) := by
    have h1 := h.eq
    rw [dn, nm]
    have a1 : p * q2 * (dn l k * tp l k) = p * dn l k * (q2 * tp l k) := by simp only [Nat.mul_assoc, Nat.mul_comm, Nat.mul_left_comm]
    have a2 : nm l k * tp l k * (q * q2) = nm l k * q * (q2 * tp l k) := by simp only [Nat.mul_assoc, Nat.mul_comm, Nat.mul_left_comm]
    have a3 : p2 * q * (dn l k * tp l k) = tc l k * dn l k * (q * q2) := by
      rw [e2]
      conv => rhs; rw [e1]
      simp only [Nat.mul_assoc, Nat.mul_comm, Nat.mul_left_comm]
    rw [Nat.add_mul, Nat.add_mul, a1, a2, a3, h1]
  generalize p * q2 + p2 * q = P at *
  generalize q * q2 = Q at *
  obtain ⟨f1, f2⟩ := div_gcd_eq (a := P) hQ
  have hG : 0 < Nat.gcd P Q := Nat.gcd_pos_of_pos_right _ hQ
  refine ⟨Nat.div_pos (Nat.le_of_dvd hQ (Nat.gcd_dvd_right _ _)) hG, gcd_div_one hQ, ?_⟩
  generalize P / Nat.gcd P Q = p' at *
  generalize Q / Nat.gcd P Q = q' at *
  generalize Nat.gcd P Q = G at *
  rw [f1, f2] at hE
  have hE2 : G * (p' * dn l (k + 1)) = G * (nm l (k + 1) * q') := by
    rw [← Nat.mul_assoc, hE]
    simp only [Nat.mul_assoc, Nat.mul_comm, Nat.mul_left_comm]
  exact Nat.eq_of_mul_eq_mul_left hG hE2
theorem LoadPQ.bounds {l : List TT} {k p q : Nat} (h : LoadPQ l k p q) (hl : tsOK l = true) (hk : k ≤ l.length) : p < BB ^ (k + 1) ∧ q < BB ^ (k + 1) := by
  have hd := dn_pos hl k hk
  have h1 := dn_le hl k hk
  have h2 := nm_le hl k hk
  have h3 : q ∣ p * dn l k := by rw [h.eq]; exact ⟨nm l k, Nat.mul_comm _ _⟩
  have h4 : q ∣ dn l k := Nat.Coprime.dvd_of_dvd_mul_left (show Nat.Coprime q p by rw [Nat.Coprime, Nat.gcd_comm]; exact h.cop) h3
  have h5 : q ≤ dn l k := Nat.le_of_dvd hd h4
  have h6 : BB ^ k < BB ^ (k + 1) := by
    rw [Nat.pow_succ]
    have := BBn_pos k
    have : 4294967296 * BB ^ k = BB ^ k * BB := Nat.mul_comm _ _
    omega
  have hlen := (tsOK_bd hl).1
  refine ⟨?_, by omega⟩
  have h7 : p * dn l k ≤ k * q * dn l k := by
    rw [h.eq]
    have : nm l k * q ≤ k * dn l k * q := Nat.mul_le_mul_right _ h2
    have e : k * dn l k * q = k * q * dn l k := by simp only [Nat.mul_assoc, Nat.mul_comm, Nat.mul_left_comm]
    omega
  have h8 := Nat.le_of_mul_le_mul_right h7 hd
  have h9 : k * q ≤ 40 * q := Nat.mul_le_mul_right _ (by omega)
  have h10 : 40 * q ≤ 40 * BB ^ k := Nat.mul_le_mul_left _ (by omega)
  rw [Nat.pow_succ]
  have := BBn_pos k
  have : 4294967296 * BB ^ k = BB ^ k * BB := Nat.mul_comm _ _
  omega
/-- The comparison of the load with a number of cores. -/
theorem LoadPQ.cmp {l : List TT} {k p q : Nat} (h : LoadPQ l k p q) (hl : tsOK l = true) (hk : k ≤ l.length) (z : Int) : ((p : Int) ≤ z * q) ↔ ((nm l k : Int) ≤ z * dn l k) := by
  have hd : (0 : Int) < (dn l k : Int) := by have := dn_pos hl k hk; omega
  have hq : (0 : Int) < (q : Int) := by have := h.pos; omega
  have he : (p : Int) * dn l k = nm l k * q := by exact_mod_cast h.eq
  constructor
  · intro h1
    have h2 := Int.mul_le_mul_of_nonneg_right h1 (Int.le_of_lt hd)
    rw [he, Int.mul_right_comm] at h2
    exact Int.le_of_mul_le_mul_right h2 hq
  · intro h1
    have h2 := Int.mul_le_mul_of_nonneg_right h1 (Int.le_of_lt hq)
    rw [← he, Int.mul_right_comm] at h2
    exact Int.le_of_mul_le_mul_right h2 hd
/-- Two fractions in lowest terms that are equal have the same numbers. -/
theorem lowest_unique {a b c d : Nat} (h1 : Nat.gcd a b = 1) (h2 : Nat.gcd c d = 1) (hb : 0 < b) (_hd : 0 < d) (h : a * d = c * b) : a = c ∧ b = d := by
  have e1 : b ∣ d := Nat.Coprime.dvd_of_dvd_mul_left (show Nat.Coprime b a by rw [Nat.Coprime, Nat.gcd_comm]; exact h1) ⟨c, by rw [h, Nat.mul_comm]⟩
  have e2 : d ∣ b := Nat.Coprime.dvd_of_dvd_mul_left (show Nat.Coprime d c by rw [Nat.Coprime, Nat.gcd_comm]; exact h2) ⟨a, by rw [← h, Nat.mul_comm]⟩
  have e3 : b = d := Nat.dvd_antisymm e1 e2
  subst e3
  exact ⟨Nat.eq_of_mul_eq_mul_right hb h, rfl⟩
end Go.Proofs.Ytdjpkebajcpfbaa
