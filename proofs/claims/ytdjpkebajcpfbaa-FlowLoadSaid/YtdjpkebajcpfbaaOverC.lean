/- What Overload and Fits answer together: plain Lean. Conditions: each theorem's own. -/
import Derived.Test.YtdjpkebajcpfbaaTDem
import Derived.Test.YtdjpkebajcpfbaaTFits
namespace Go.Proofs.Ytdjpkebajcpfbaa
theorem over_cases {l : List TT} {z : Int} (h0 : (hypR l).2 = 0) : (overR l z = (0, 0, false) ∧ fitsB l z = true) ∨ (overR l z = ((hyp l l.length : Int), (dem l (hyp l l.length) l.length : Int), true) ∧ fitsB l z = false ∧ z * (hyp l l.length : Int) < (dem l (hyp l l.length) l.length : Int)) := by
  obtain ⟨hok, hle, he⟩ := hypR_ok h0
  have hpos := hyp_pos hok l.length (Nat.le_refl _)
  have hf := fits_iff hok hpos (fun i hi => hyp_dvd hle l.length (Nat.le_refl _) hi) z
  have hF : fitsB l z = decide ((dem l (hyp l l.length) l.length : Int) ≤ z * (hyp l l.length : Int)) := by
    unfold fitsB
    rw [hok, Bool.true_and]
    exact decide_eq_decide.2 hf
  have hdl := dem_le hok (hyp l l.length) l.length (Nat.le_refl _)
  have hl40 := (tsOK_bd hok).1
  have hd2 : dem l (hyp l l.length) l.length ≤ 40 * hyp l l.length := Nat.le_trans hdl (Nat.mul_le_mul_right _ hl40)
  rw [hF]
  unfold overR
  generalize hyp l l.length = H at *
  generalize dem l H l.length = D at *
  by_cases hz : z < 40
  · rw [if_pos ⟨h0, hz⟩]
    by_cases hD : (D : Int) ≤ z * (H : Int)
    · have hz0 : 0 ≤ z := by
        rcases Int.lt_or_le z 0 with h | h
        · have : z * (H : Int) < 0 := Int.mul_neg_of_neg_of_pos h (by omega)
          omega
        · exact h
      rw [if_pos ⟨hz0, hD⟩]
      exact .inl ⟨rfl, decide_eq_true hD⟩
    · rw [if_neg (fun h => hD h.2)]
      exact .inr ⟨rfl, decide_eq_false hD, by omega⟩
  · rw [if_neg (fun h => hz h.2)]
    refine .inl ⟨rfl, decide_eq_true ?_⟩
    have h1 : (40 : Int) * H ≤ z * H := Int.mul_le_mul_of_nonneg_right (by omega) (by omega)
    omega
end Go.Proofs.Ytdjpkebajcpfbaa
