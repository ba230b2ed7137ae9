/- Several texts in one: An argument that is a list of tasks of a set, opened. Conditions: none. The load of a set as a fraction; greatest common divisors: plain Lean. Conditions: each theorem's own. -/
import Derived.Test.YtdjpkebajcpfbaaTs
import Derived.Test.YtdjpkebajcpfbaaOpenF
import Derived.Test.YtdjpkebajcpfbaaM00
namespace Go.Proofs.Ytdjpkebajcpfbaa
section
open Go.ChangeShapes Go.WideShapes Go.ChangeAt Go.RowKit Go.Deep

set_option maxRecDepth 100000
theorem Try.cellsTS : Try.prog.cellsOf 37 = 3 := by kernel_rfl
theorem Try.cellsStr : Try.prog.cellsOf 9 = 1 := by kernel_rfl

section
variable {H : Type} {enc : TypeId × Value → H} {W : World} {base : Nat} {spare : Nat → Bool} {held : Bool}
def FitT (t : TT) : Prop := -9223372036854775808 ≤ t.c ∧ t.c ≤ 9223372036854775807 ∧ -9223372036854775808 ≤ t.p ∧ t.p ≤ 9223372036854775807
theorem open_ts {v : Value} {d : DataW H} {p : List MemPlace} {r0 : Reach} {b0 : Nat} (hv : Value.okWide Try.prog W r0 b0 22 v) (h : DataW.Trod enc Try.prog W base spare held 22 v d p) :
    ∃ (a : Option Addr) (ss : List TT) (cap : Nat), v = .slice a ss.length cap ∧ ss.length ≤ cap ∧ cap ≤ 9223372036854775807 ∧ TSAt W W.heap.size a ss ∧ ∀ t ∈ ss, FitT t := by
  obtain ⟨a0, n0, cap0, rfl⟩ := okWide_slice Try.underlying22 hv
  obtain ⟨fuel, hf⟩ := h
  rcases open_slice Try.underlying22 hf with ⟨e, _⟩ | ⟨a, len, cap, m, n, D, Pl, e, hb, hl, hm, hmm, _, hi⟩
  · simp [Value.cells] at e
    obtain ⟨rfl, rfl, rfl⟩ := e
    exact ⟨none, [], 0, rfl, by simp, by omega, fun h => absurd rfl h, fun j hj => by cases hj⟩
  · simp [Value.cells] at e
    obtain ⟨rfl, rfl, rfl⟩ := e
    have hlm : n0 ≤ m := by rw [hmm]; split <;> omega
    have hel : ∀ i, i < n0 → ∃ s : TT, (∃ b off, a = ⟨b, off, none⟩ ∧ b < W.heap.size ∧ W.cell? ⟨b, off + i * 3, none⟩ = some (.string s.nm) ∧ W.cell? ⟨b, off + i * 3 + 1, none⟩ = some (.int .i64 s.c) ∧ W.cell? ⟨b, off + i * 3 + 2, none⟩ = some (.int .i64 s.p)) ∧ FitT s := by
      intro i hlt
      obtain ⟨cs0, hc0, ht0⟩ := hi 0 (by omega)
      rw [Try.cellsTS] at hc0
      obtain ⟨ab, ao, rfl, hab⟩ := base_plain hc0 (by omega)
      clear hc0 ht0 cs0
      obtain ⟨cs', hc, ht⟩ := hi i (by omega)
      rw [Try.cellsTS] at hc
      obtain ⟨_, hlen, hcell⟩ := World.cells?_some hc
      obtain ⟨ys, k, _, _, _, hyl, hg⟩ := DataW.trod_struct Try.underlying37 ht
      match cs', hlen, ys, hyl with
      | [c0, c1, c2], _, [y0, y1, y2], _ =>
        have g0 := hg 0 _ rfl
        have g1 := hg 1 _ rfl
        have g2 := hg 2 _ rfl
        simp [Try.cellsInt, Try.cellsStr] at g0 g1 g2
        obtain ⟨v0, e0, _, _⟩ := DataW.trod_string Try.underlying9 g0
        obtain ⟨v1, e1, _, f1⟩ := DataW.trod_int Try.underlying3 g1
        obtain ⟨v2, e2, _, f2⟩ := DataW.trod_int Try.underlying3 g2
        simp at e0 e1 e2
        subst e0 e1 e2
        have k0 := hcell 0 (by omega)
        have k1 := hcell 1 (by omega)
        have k2 := hcell 2 (by omega)
        simp [add_plain] at k0 k1 k2
        exact ⟨⟨v0, v1, v2⟩, ⟨ab, ao, rfl, hab, k0, k1, k2⟩, (wf_i64 f1).1, (wf_i64 f1).2, (wf_i64 f2).1, (wf_i64 f2).2⟩
    obtain ⟨ss, hsl, hss⟩ := list_of hel
    subst hsl
    refine ⟨some a, ss, cap0, rfl, hl, by unfold maxLen at hm; omega, fun hne => ?_, fun j hj => ?_⟩
    · have h0 : 0 < ss.length := List.length_pos_iff.2 hne
      obtain ⟨⟨b, off, rfl, hlt, _⟩, _⟩ := hss 0 ss[0] (List.getElem?_eq_getElem h0)
      refine ⟨b, off, rfl, hlt, fun j s hj => ?_⟩
      obtain ⟨⟨b', off', e, _, h1, h2, h3⟩, _⟩ := hss j s hj
      simp only [Addr.mk.injEq] at e
      obtain ⟨rfl, rfl, _⟩ := e
      exact ⟨h1, h2, h3⟩
    · obtain ⟨i, hi⟩ := List.mem_iff_getElem?.1 hj
      exact (hss i j hi).2
end
end

section
def tc (l : List TT) (k : Nat) : Nat := (ttAt l k).c.toNat
def tp (l : List TT) (k : Nat) : Nat := (ttAt l k).p.toNat
/-- The product of the first k periods. -/
def dn (l : List TT) : Nat → Nat
  | 0 => 1
  | k + 1 => dn l k * tp l k
/-- The sum of the first k loads, over dn. -/
def nm (l : List TT) : Nat → Nat
  | 0 => 0
  | k + 1 => nm l k * tp l k + tc l k * dn l k
section
variable {l : List TT} {k : Nat}
theorem tsOK_at (h : tsOK l = true) (hk : k < l.length) : 1 ≤ tc l k ∧ tc l k ≤ tp l k ∧ tp l k ≤ 1000 ∧ (ttAt l k).c = (tc l k : Int) ∧ (ttAt l k).p = (tp l k : Int) := by
  obtain ⟨h1, h2, h3⟩ := (tsOK_bd h).2 k hk
  unfold tc tp
  omega
theorem dn_pos (h : tsOK l = true) : ∀ k, k ≤ l.length → 0 < dn l k
  | 0, _ => Nat.one_pos
  | k + 1, hk => Nat.mul_pos (dn_pos h k (by omega)) (by have := tsOK_at h (show k < l.length by omega); omega)
theorem dn_le (h : tsOK l = true) : ∀ k, k ≤ l.length → dn l k ≤ BB ^ k
  | 0, _ => by simp [dn]
  | k + 1, hk => by
    rw [dn, Nat.pow_succ]
    exact Nat.mul_le_mul (dn_le h k (by omega)) (by have := tsOK_at h (show k < l.length by omega); have : BB = 4294967296 := rfl; omega)
theorem nm_le (h : tsOK l = true) : ∀ k, k ≤ l.length → nm l k ≤ k * dn l k
  | 0, _ => by simp [nm]
  | k + 1, hk => by
    have h1 := nm_le h k (by omega)
    have h2 := (tsOK_at h (show k < l.length by omega)).2.1
    have h3 : nm l k * tp l k ≤ k * dn l k * tp l k := Nat.mul_le_mul_right _ h1
    have h4 : tc l k * dn l k ≤ tp l k * dn l k := Nat.mul_le_mul_right _ h2
    rw [nm, dn, Nat.add_mul, Nat.one_mul, ← Nat.mul_assoc, Nat.mul_comm (dn l k) (tp l k)]
    omega
end
/-- p / q is the load of the first k tasks, in lowest terms. -/
structure LoadPQ (l : List TT) (k p q : Nat) : Prop where
  pos : 0 < q
  cop : Nat.gcd p q = 1
  eq : p * dn l k = nm l k * q
theorem LoadPQ.start (l : List TT) : LoadPQ l 0 0 1 := ⟨by decide, by decide, by simp [nm]⟩
theorem div_gcd_eq {a b : Nat} (_hb : 0 < b) : a = Nat.gcd a b * (a / Nat.gcd a b) ∧ b = Nat.gcd a b * (b / Nat.gcd a b) :=
  ⟨(Nat.mul_div_cancel' (Nat.gcd_dvd_left a b)).symm, (Nat.mul_div_cancel' (Nat.gcd_dvd_right a b)).symm⟩
theorem gcd_div_one {a b : Nat} (hb : 0 < b) : Nat.gcd (a / Nat.gcd a b) (b / Nat.gcd a b) = 1 := by
  have hg : 0 < Nat.gcd a b := Nat.gcd_pos_of_pos_right _ hb
  rw [Nat.gcd_div (Nat.gcd_dvd_left a b) (Nat.gcd_dvd_right a b), Nat.div_self hg]
theorem LoadPQ.step {l : List TT} {k p q : Nat} (h : LoadPQ l k p q) (ht : 0 < tp l k) :
    LoadPQ l (k + 1) ((p * (tp l k / Nat.gcd (tc l k) (tp l k)) + tc l k / Nat.gcd (tc l k) (tp l k) * q) / Nat.gcd (p * (tp l k / Nat.gcd (tc l k) (tp l k)) + tc l k / Nat.gcd (tc l k) (tp l k) * q) (q * (tp l k / Nat.gcd (tc l k) (tp l k)))) (q * (tp l k / Nat.gcd (tc l k) (tp l k)) / Nat.gcd (p * (tp l k / Nat.gcd (tc l k) (tp l k)) + tc l k / Nat.gcd (tc l k) (tp l k) * q) (q * (tp l k / Nat.gcd (tc l k) (tp l k)))) := by
  obtain ⟨e1, e2⟩ := div_gcd_eq (a := tc l k) ht
  have hg : 0 < Nat.gcd (tc l k) (tp l k) := Nat.gcd_pos_of_pos_right _ ht
  generalize tp l k / Nat.gcd (tc l k) (tp l k) = q2 at *
  generalize tc l k / Nat.gcd (tc l k) (tp l k) = p2 at *
  generalize Nat.gcd (tc l k) (tp l k) = g at *
  have hq2 : 0 < q2 := by
    rcases Nat.eq_zero_or_pos q2 with h0 | h0
    · subst h0; omega
    · exact h0
  have hQ : 0 < q * q2 := Nat.mul_pos h.pos hq2
  have hE : (p * q2 + p2 * q) * dn l (k + 1) = nm l (k + 1) * (q * q2) := by
    have h1 := h.eq
    rw [dn, nm]
    have a1 : p * q2 * (dn l k * tp l k) = p * dn l k * (q2 * tp l k) := by simp only [Nat.mul_assoc, Nat.mul_comm, Nat.mul_left_comm]
    have a2 : nm l k * tp l k * (q * q2) = nm l k * q * (q2 * tp l k) := by simp only [Nat.mul_assoc, Nat.mul_comm, Nat.mul_left_comm]
    have a3 : p2 * q * (dn l k * tp l k) = tc l k * dn l k * (q * q2) := by
      rw [e2]
      conv => rhs; rw [e1]
      simp only [Nat.mul_assoc, Nat.mul_comm, Nat.mul_left_comm]
    rw [Nat.add_mul, Nat.add_mul, a1, a2, a3, h1]
  generalize p * q2 + p2 * q = P at *
  generalize q * q2 = Q at *
  obtain ⟨f1, f2⟩ := div_gcd_eq (a := P) hQ
  have hG : 0 < Nat.gcd P Q := Nat.gcd_pos_of_pos_right _ hQ
  refine ⟨Nat.div_pos (Nat.le_of_dvd hQ (Nat.gcd_dvd_right _ _)) hG, gcd_div_one hQ, ?_⟩
  generalize P / Nat.gcd P Q = p' at *
  generalize Q / Nat.gcd P Q = q' at *
  generalize Nat.gcd P Q = G at *
  rw [f1, f2] at hE
  have hE2 : G * (p' * dn l (k + 1)) = G * (nm l (k + 1) * q') := by
    rw [← Nat.mul_assoc, hE]
    simp only [Nat.mul_assoc, Nat.mul_comm, Nat.mul_left_comm]
  exact Nat.eq_of_mul_eq_mul_left hG hE2
theorem LoadPQ.bounds {l : List TT} {k p q : Nat} (h : LoadPQ l k p q) (hl : tsOK l = true) (hk : k ≤ l.length) : p < BB ^ (k + 1) ∧ q < BB ^ (k + 1) := by
  have hd := dn_pos hl k hk
  have h1 := dn_le hl k hk
  have h2 := nm_le hl k hk
  have h3 : q ∣ p * dn l k := by rw [h.eq]; exact ⟨nm l k, Nat.mul_comm _ _⟩
  have h4 : q ∣ dn l k := Nat.Coprime.dvd_of_dvd_mul_left (show Nat.Coprime q p by rw [Nat.Coprime, Nat.gcd_comm]; exact h.cop) h3
  have h5 : q ≤ dn l k := Nat.le_of_dvd hd h4
  have h6 : BB ^ k < BB ^ (k + 1) := by
    rw [Nat.pow_succ]
    have := BBn_pos k
    have : 4294967296 * BB ^ k = BB ^ k * BB := Nat.mul_comm _ _
    omega
  have hlen := (tsOK_bd hl).1
  refine ⟨?_, by omega⟩
  have h7 : p * dn l k ≤ k * q * dn l k := by
    rw [h.eq]
    have : nm l k * q ≤ k * dn l k * q := Nat.mul_le_mul_right _ h2
    have e : k * dn l k * q = k * q * dn l k := by simp only [Nat.mul_assoc, Nat.mul_comm, Nat.mul_left_comm]
    omega
  have h8 := Nat.le_of_mul_le_mul_right h7 hd
  have h9 : k * q ≤ 40 * q := Nat.mul_le_mul_right _ (by omega)
  have h10 : 40 * q ≤ 40 * BB ^ k := Nat.mul_le_mul_left _ (by omega)
  rw [Nat.pow_succ]
  have := BBn_pos k
  have : 4294967296 * BB ^ k = BB ^ k * BB := Nat.mul_comm _ _
  omega
/-- The comparison of the load with a number of cores. -/
theorem LoadPQ.cmp {l : List TT} {k p q : Nat} (h : LoadPQ l k p q) (hl : tsOK l = true) (hk : k ≤ l.length) (z : Int) : ((p : Int) ≤ z * q) ↔ ((nm l k : Int) ≤ z * dn l k) := by
  have hd : (0 : Int) < (dn l k : Int) := by have := dn_pos hl k hk; omega
  have hq : (0 : Int) < (q : Int) := by have := h.pos; omega
  have he : (p : Int) * dn l k = nm l k * q := by exact_mod_cast h.eq
  constructor
  · intro h1
    have h2 := Int.mul_le_mul_of_nonneg_right h1 (Int.le_of_lt hd)
    rw [he, Int.mul_right_comm] at h2
    exact Int.le_of_mul_le_mul_right h2 hq
  · intro h1
    have h2 := Int.mul_le_mul_of_nonneg_right h1 (Int.le_of_lt hq)
    rw [← he, Int.mul_right_comm] at h2
    exact Int.le_of_mul_le_mul_right h2 hd
/-- Two fractions in lowest terms that are equal have the same numbers. -/
theorem lowest_unique {a b c d : Nat} (h1 : Nat.gcd a b = 1) (h2 : Nat.gcd c d = 1) (hb : 0 < b) (_hd : 0 < d) (h : a * d = c * b) : a = c ∧ b = d := by
  have e1 : b ∣ d := Nat.Coprime.dvd_of_dvd_mul_left (show Nat.Coprime b a by rw [Nat.Coprime, Nat.gcd_comm]; exact h1) ⟨c, by rw [h, Nat.mul_comm]⟩
  have e2 : d ∣ b := Nat.Coprime.dvd_of_dvd_mul_left (show Nat.Coprime d c by rw [Nat.Coprime, Nat.gcd_comm]; exact h2) ⟨a, by rw [← h, Nat.mul_comm]⟩
  have e3 : b = d := Nat.dvd_antisymm e1 e2
  subst e3
  exact ⟨Nat.eq_of_mul_eq_mul_right hb h, rfl⟩
end
end Go.Proofs.Ytdjpkebajcpfbaa
