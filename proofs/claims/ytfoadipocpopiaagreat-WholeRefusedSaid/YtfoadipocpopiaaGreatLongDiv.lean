/- Long division: plain Lean. Conditions: each theorem's own. -/
import Derived.Test.YtfoadipocpopiaaGreatKnuth
namespace Go.Proofs.YtfoadipocpopiaaGreat
section
variable {f g R R' q dv : Nat → Nat} {n m j cnt A D o N K s x : Nat}
theorem vl_split : ∀ n, vl f (o + n) = vl f o + BB ^ o * vl (fun i => f (o + i)) n
  | 0 => by simp [vl]
  | n + 1 => by
    rw [← Nat.add_assoc, vl, vl_split n, vl, Nat.mul_add, Nat.pow_add, Nat.add_assoc]
    congr 2
    rw [Nat.mul_comm, Nat.mul_assoc, Nat.mul_comm (f (o + n))]
theorem vl_cut (h : vl f N < BB ^ K) (hK : K ≤ N) : vl f N = vl f K := by
  obtain ⟨d, rfl⟩ : ∃ d, N = K + d := ⟨N - K, by omega⟩
  rw [vl_split] at h ⊢
  rcases Nat.eq_zero_or_pos (vl (fun i => f (K + i)) d) with h0 | h0
  · rw [h0]; simp
  · have : BB ^ K * 1 ≤ BB ^ K * vl (fun i => f (K + i)) d := Nat.mul_le_mul_left _ h0
    omega
structure LD (n m cnt A D : Nat) (R q : Nat → Nat) (j : Nat) : Prop where
  dR : Dg R (n + 1)
  dq : Dg q cnt
  val : vl R (n + 1) + D * vl q cnt = A
  lt : vl R (n + 1) < D * BB ^ j
  zero : ∀ i, i < j → q i = 0
theorem LD.start (hR : Dg R (n + 1)) (hv : vl R (n + 1) = A) (hA : A < D * BB ^ cnt) : LD n m cnt A D R (fun _ => 0) cnt :=
  ⟨hR, fun _ _ => BB_pos, by rw [vl_zero (f := fun _ => 0) (fun _ _ => rfl), hv]; simp, by rw [hv]; exact hA, fun _ _ => rfl⟩
theorem LD.whole (h : LD n m cnt A D R q (j + 1)) (hD : D < BB ^ m) (hj : j + m + 1 ≤ n + 1) : vl R (n + 1) = vl R j + BB ^ j * vl (fun i => R (j + i)) (m + 1) := by
  have h1 : D * BB ^ (j + 1) < BB ^ m * BB ^ (j + 1) := Nat.mul_lt_mul_of_pos_right hD (BBn_pos _)
  rw [← Nat.pow_add, show m + (j + 1) = j + (m + 1) by omega] at h1
  have h2 := h.lt
  rw [vl_cut (f := R) (N := n + 1) (K := j + (m + 1)) (by omega) (by omega), vl_split]
theorem LD.part (h : LD n m cnt A D R q (j + 1)) (hD : D < BB ^ m) (hj : j + m + 1 ≤ n + 1) : vl (fun i => R (j + i)) (m + 1) < BB * D := by
  have h1 := h.whole hD hj
  have h2 := h.lt
  rw [h1, Nat.pow_succ] at h2
  have h3 : BB ^ j * vl (fun i => R (j + i)) (m + 1) < BB ^ j * (BB * D) := by
    have : D * (BB ^ j * BB) = BB ^ j * (BB * D) := by simp only [Nat.mul_assoc, Nat.mul_comm, Nat.mul_left_comm]
    omega
  exact Nat.lt_of_mul_lt_mul_left h3
theorem LD.step (h : LD n m cnt A D R q (j + 1)) (hD : D < BB ^ m) (hD0 : 0 < D) (hj : j + m + 1 ≤ n + 1) (hjc : j < cnt) (hR' : Dg R' (n + 1)) (hf : ∀ i, i < j ∨ j + m + 1 ≤ i → R' i = R i) (hv : vl (fun i => R' (j + i)) (m + 1) = vl (fun i => R (j + i)) (m + 1) % D) : LD n m cnt A D R' (updG q j (vl (fun i => R (j + i)) (m + 1) / D)) j := by
  have h1 := h.whole hD hj
  have h0 := h.part hD hj
  have h2 : vl R' (n + 1) = vl R j + BB ^ j * vl (fun i => R' (j + i)) (m + 1) := by
    have ha : vl R' j = vl R j := vl_congr fun i hi => hf i (.inl hi)
    have hz : vl R' (n + 1) = vl R' (j + (m + 1)) := by
      refine vl_more (fun i h1 h2 => ?_) (by omega)
      rw [hf i (.inr (by omega))]
      have hb : vl R (n + 1) < BB ^ (j + (m + 1)) := by
        have h3 : D * BB ^ (j + 1) < BB ^ m * BB ^ (j + 1) := Nat.mul_lt_mul_of_pos_right hD (BBn_pos _)
        rw [← Nat.pow_add, show m + (j + 1) = j + (m + 1) by omega] at h3
        have := h.lt
        omega
      apply Classical.byContradiction
      intro hc
      have h4 : vl R (i + 1) ≤ vl R (n + 1) := vl_mono (by omega)
      rw [vl] at h4
      have h5 : BB ^ (j + (m + 1)) ≤ BB ^ i := Nat.pow_le_pow_right BB_pos (by omega)
      have h6 : 1 * BB ^ i ≤ R i * BB ^ i := Nat.mul_le_mul_right _ (by omega)
      omega
    rw [hz, vl_split, ha]
  have hdm := Nat.div_add_mod (vl (fun i => R (j + i)) (m + 1)) D
  rw [hv] at h2
  have hm := Nat.mod_lt (vl (fun i => R (j + i)) (m + 1)) hD0
  generalize vl (fun i => R (j + i)) (m + 1) = P at *
  have hQ : P / D < BB := Nat.div_lt_of_lt_mul (by rw [Nat.mul_comm]; exact h0)
  refine ⟨hR', h.dq.updG hQ, ?_, ?_, fun i hi => by unfold updG; rw [if_neg (by omega)]; exact h.zero i (by omega)⟩
  · have h5 := vl_upd (f := q) (x := P / D) hjc
    rw [h.zero j (by omega), Nat.zero_mul, Nat.add_zero] at h5
    rw [h5, h2, Nat.mul_add]
    have h6 := h.val
    rw [h1] at h6
    have h7 : BB ^ j * P = D * (P / D * BB ^ j) + BB ^ j * (P % D) := by
      conv => lhs; rw [← hdm]
      rw [Nat.mul_add]
      congr 1
      simp only [Nat.mul_assoc, Nat.mul_comm, Nat.mul_left_comm]
    omega
  · rw [h2]
    have h8 := vl_lt (f := R) (n := j) (fun i hi => h.dR i (by omega))
    have h9 : BB ^ j * (P % D + 1) ≤ BB ^ j * D := Nat.mul_le_mul_left _ hm
    rw [Nat.mul_add, Nat.mul_one, Nat.mul_comm _ D] at h9
    omega
theorem LD.done (h : LD n m cnt A D R q 0) (hD : D < BB ^ m) (hm : m ≤ n + 1) : vl q cnt = A / D ∧ vl R m = A % D := by
  have h1 := h.val
  have h2 := h.lt
  rw [Nat.pow_zero, Nat.mul_one] at h2
  have h3 := vl_cut (f := R) (N := n + 1) (K := m) (by omega) hm
  have hD0 : 0 < D := by omega
  constructor
  · rw [← h1, Nat.add_mul_div_left _ _ hD0, Nat.div_eq_of_lt h2, Nat.zero_add]
  · rw [← h1, Nat.add_mul_mod_self_left, Nat.mod_eq_of_lt h2, h3]
/-- The shifted divisor. -/
theorem norm_div {P : Nat} (hg : Dg g (m + 1)) (hP : P ∣ BB) (h1 : g m * P < BB) (h2 : 2147483648 ≤ g m * P) (hd : Dg dv (m + 2)) (hv : vl dv (m + 2) = vl g (m + 1) * P) : vl dv (m + 1) = vl g (m + 1) * P ∧ 2147483648 ≤ dv m ∧ vl g (m + 1) * P < BB ^ (m + 1) ∧ 2147483648 * BB ^ m ≤ vl g (m + 1) * P := by
  obtain ⟨Q, hQ⟩ := hP
  have h3 : (g m + 1) * P ≤ BB := by
    have hP0 : 0 < P := Nat.pos_of_ne_zero (by rintro rfl; simp at hQ; exact absurd hQ (by decide))
    have h4 : g m * P < Q * P := by rw [Nat.mul_comm Q, ← hQ]; exact h1
    have h5 := Nat.lt_of_mul_lt_mul_right h4
    have h6 : (g m + 1) * P ≤ Q * P := Nat.mul_le_mul_right _ h5
    rw [Nat.mul_comm Q, ← hQ] at h6
    exact h6
  have h4 := vl_lt (f := g) (n := m) (fun i hi => hg i (by omega))
  have h5 : vl g (m + 1) * P < BB ^ (m + 1) := by
    have ha : vl g (m + 1) + 1 ≤ (g m + 1) * BB ^ m := by rw [vl, Nat.add_mul, Nat.one_mul]; omega
    have hP0 : 0 < P := Nat.pos_of_ne_zero (by rintro rfl; simp at hQ; exact absurd hQ (by decide))
    have hb : vl g (m + 1) * P < (g m + 1) * BB ^ m * P := Nat.mul_lt_mul_of_pos_right ha hP0
    have hc : (g m + 1) * P * BB ^ m ≤ BB * BB ^ m := Nat.mul_le_mul_right _ h3
    rw [Nat.pow_succ, Nat.mul_comm (BB ^ m)]
    rw [Nat.mul_right_comm] at hb
    omega
  have h6 : 2147483648 * BB ^ m ≤ vl g (m + 1) * P := by
    have ha : g m * P * BB ^ m ≤ vl g (m + 1) * P := by
      rw [Nat.mul_right_comm]
      exact Nat.mul_le_mul_right _ (by rw [vl]; omega)
    have hb : 2147483648 * BB ^ m ≤ g m * P * BB ^ m := Nat.mul_le_mul_right _ h2
    omega
  have h7 : vl dv (m + 1) = vl g (m + 1) * P := by
    rw [← hv]
    exact (vl_cut (by rw [hv]; exact h5) (by omega)).symm
  refine ⟨h7, ?_, h5, h6⟩
  have h8 := vl_lt (f := dv) (n := m) (fun i hi => hd i (by omega))
  rw [vl] at h7
  have h9 : 2147483648 * BB ^ m < (dv m + 1) * BB ^ m := by rw [Nat.add_mul, Nat.one_mul]; omega
  have := Nat.lt_of_mul_lt_mul_right h9
  omega
theorem start_lt {P : Nat} (hf : Dg f n) (hP : P ≤ 2147483648) (hP0 : 0 < P) (hD : 2147483648 * BB ^ m ≤ D) (hn : n = m + cnt) : vl f n * P < D * BB ^ cnt := by
  have h1 := vl_lt hf
  have h2 : vl f n * P < BB ^ n * P := Nat.mul_lt_mul_of_pos_right h1 hP0
  have h3 : BB ^ n * P ≤ BB ^ n * 2147483648 := Nat.mul_le_mul_left _ hP
  have h4 : 2147483648 * BB ^ m * BB ^ cnt ≤ D * BB ^ cnt := Nat.mul_le_mul_right _ hD
  rw [Nat.mul_assoc, ← Nat.pow_add, ← hn, Nat.mul_comm] at h4
  omega
theorem mul_div_mod {a b P : Nat} (hP : 0 < P) : a * P / (b * P) = a / b ∧ a * P % (b * P) / P = a % b := by
  refine ⟨Nat.mul_div_mul_right _ _ hP, ?_⟩
  rw [Nat.mul_mod_mul_right, Nat.mul_div_cancel _ hP]
theorem vl_len {n m : Nat} (hf : Nrm f n) (hg : Nrm g m) (h : vl f n < vl g m) : n ≤ m := by
  rcases Nat.lt_or_ge m n with h0 | h0
  · have := vl_short hg hf h0; omega
  · exact h0
end
end Go.Proofs.YtfoadipocpopiaaGreat
