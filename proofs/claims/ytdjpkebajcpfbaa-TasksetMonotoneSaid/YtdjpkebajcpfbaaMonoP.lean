/- A task more, at the front and at the end: plain Lean. Conditions: each theorem's own. -/
import Derived.Test.YtdjpkebajcpfbaaTDem
namespace Go.Proofs.Ytdjpkebajcpfbaa

section
variable {l : List TT} {t : TT}
theorem ttAt_cons0 : ttAt (t :: l) 0 = t := rfl
theorem ttAt_cons (k : Nat) : ttAt (t :: l) (k + 1) = ttAt l k := rfl
theorem ttAt_app {k : Nat} (h : k < l.length) : ttAt (l ++ [t]) k = ttAt l k := by
  simp only [ttAt, List.getD_eq_getElem?_getD, List.getElem?_append_left h]
theorem ttAt_last : ttAt (l ++ [t]) l.length = t := by
  simp [ttAt, List.getD_eq_getElem?_getD]
theorem tp_cons (k : Nat) : tp (t :: l) (k + 1) = tp l k := rfl
theorem tp_app {k : Nat} (h : k < l.length) : tp (l ++ [t]) k = tp l k := by unfold tp; rw [ttAt_app h]
theorem tp_last : tp (l ++ [t]) l.length = tp (t :: l) 0 := by unfold tp; rw [ttAt_last, ttAt_cons0]
theorem tc_app {k : Nat} (h : k < l.length) : tc (l ++ [t]) k = tc l k := by unfold tc; rw [ttAt_app h]
theorem tc_last : tc (l ++ [t]) l.length = tc (t :: l) 0 := by unfold tc; rw [ttAt_last, ttAt_cons0]
theorem tsOK_snoc (h : tsOK (t :: l) = true) : tsOK (l ++ [t]) = true := by
  obtain ⟨h1, h2⟩ := tsOK_bd h
  refine tsOK_mk (by simpa using h1) (fun i hi => ?_)
  simp at hi
  by_cases e : i = l.length
  · subst e
    rw [ttAt_last]
    exact h2 0 (by simp)
  · rw [ttAt_app (by omega)]
    exact h2 (i + 1) (by simp; omega)
/-- The periods of the one are those of the other. -/
theorem dvd_front {m : Nat} (h : ∀ i, i < (l ++ [t]).length → tp (l ++ [t]) i ∣ m) : ∀ i, i < (t :: l).length → tp (t :: l) i ∣ m := by
  intro i hi
  cases i with
  | zero => rw [← tp_last]; exact h l.length (by simp)
  | succ i =>
    simp at hi
    rw [tp_cons, ← tp_app (t := t) hi]
    exact h i (by simp; omega)
theorem dvd_back {m : Nat} (h : ∀ i, i < (t :: l).length → tp (t :: l) i ∣ m) : ∀ i, i < (l ++ [t]).length → tp (l ++ [t]) i ∣ m := by
  intro i hi
  simp at hi
  by_cases e : i = l.length
  · subst e; rw [tp_last]; exact h 0 (by simp)
  · rw [tp_app (by omega), ← tp_cons (t := t)]
    exact h (i + 1) (by simp; omega)
theorem hyp_bound {m : Nat} (hm0 : 0 < m) (hm : m ≤ MT) {r : List TT} (hd : ∀ i, i < r.length → tp r i ∣ m) : ∀ k, k ≤ r.length → hyp r k ∣ m
  | 0, _ => Nat.one_dvd _
  | k + 1, hk => by
    have h1 := hyp_bound hm0 hm hd k (by omega)
    have h2 := Nat.le_of_dvd hm0 h1
    rw [hyp, if_neg (by omega)]
    have : hyp r k / Nat.gcd (hyp r k) (tp r k) * tp r k = Nat.lcm (hyp r k) (tp r k) := by
      rw [Nat.lcm]
      exact Nat.div_mul_right_comm (Nat.gcd_dvd_left _ _) _
    rw [this]
    exact Nat.lcm_dvd h1 (hd k (by omega))
theorem dem_cons (x : Nat) : ∀ k, dem (t :: l) x (k + 1) = tc (t :: l) 0 * (x / tp (t :: l) 0) + dem l x k
  | 0 => by simp [dem]
  | k + 1 => by
    rw [dem, dem_cons x k, dem, show tc (t :: l) (k + 1) = tc l k from rfl, tp_cons]
    omega
theorem dem_app (x : Nat) : ∀ k, k ≤ l.length → dem (l ++ [t]) x k = dem l x k
  | 0, _ => rfl
  | k + 1, hk => by rw [dem, dem, dem_app x k (by omega), tc_app (by omega), tp_app (by omega)]
theorem dem_perm (x : Nat) : dem (l ++ [t]) x (l ++ [t]).length = dem (t :: l) x (t :: l).length := by
  rw [show (l ++ [t]).length = l.length + 1 by simp, show (t :: l).length = l.length + 1 from rfl, dem_cons, dem, dem_app x _ (Nat.le_refl _), tc_last, tp_last]
  omega
/-- All that TasksetMonotone asks. -/
theorem mono_all (h1 : (hypR l).2 = 0) (h2 : (hypR (t :: l)).2 = 0) :
    hyp (t :: l) (t :: l).length % hyp l l.length = 0 ∧ hypR (l ++ [t]) = hypR (t :: l) ∧ loadR (l ++ [t]) = loadR (t :: l) ∧ ∀ x : Int, demR l x ≤ demR (t :: l) x ∧ demR (l ++ [t]) x = demR (t :: l) x := by
  obtain ⟨o1, e1, g1⟩ := hypR_ok h1
  obtain ⟨o2, e2, g2⟩ := hypR_ok h2
  have p2 := hyp_pos o2 (t :: l).length (Nat.le_refl _)
  have o3 := tsOK_snoc o2
  have d2 := fun i (hi : i < (t :: l).length) => hyp_dvd e2 (t :: l).length (Nat.le_refl _) hi
  have hb := hyp_bound p2 e2 (dvd_back d2) (l ++ [t]).length (Nat.le_refl _)
  have e3 : hyp (l ++ [t]) (l ++ [t]).length ≤ MT := Nat.le_trans (Nat.le_of_dvd p2 hb) e2
  have hf := hyp_least e2 (m := hyp (l ++ [t]) (l ++ [t]).length) (t :: l).length (Nat.le_refl _) (dvd_front fun i hi => hyp_dvd e3 (l ++ [t]).length (Nat.le_refl _) hi)
  have he : hyp (l ++ [t]) (l ++ [t]).length = hyp (t :: l) (t :: l).length := Nat.dvd_antisymm hb hf
  have hR : hypR (l ++ [t]) = hypR (t :: l) := by
    rw [g2]
    unfold hypR
    rw [if_pos o3, if_neg (by omega), he]
  refine ⟨?_, hR, ?_, fun x => ?_⟩
  · exact Nat.mod_eq_zero_of_dvd (hyp_least e1 l.length (Nat.le_refl _) fun i hi => by
      have := d2 (i + 1) (by simp; omega)
      exact this)
  · unfold loadR
    rw [hR, he, dem_perm]
  · unfold demR
    rw [o1, o2, o3]
    simp only [true_and]
    split
    · refine ⟨?_, by rw [dem_perm]⟩
      rw [show (t :: l).length = l.length + 1 from rfl, dem_cons]
      omega
    · exact ⟨Int.le_refl _, rfl⟩
end
end Go.Proofs.Ytdjpkebajcpfbaa
