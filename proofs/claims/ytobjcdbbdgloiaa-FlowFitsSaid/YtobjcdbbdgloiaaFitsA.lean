/- The reference's Fits. Conditions: few valid jobs lie in memory. -/
import Derived.Test.YtobjcdbbdgloiaaFitsC
namespace Go.Proofs.Ytobjcdbbdgloiaa

theorem choose_all {cores : Int} {n slot til : Nat} (hc0 : 0 ≤ cores) (hc4 : cores ≤ 4) (hn : n ≤ 4) (ht : til ≤ 6) (hs : slot < til) (hf : FitsC cores n (slot + 1) til) : ∀ k, k ≤ n → ChooseC cores n slot til (n - k)
  | 0, _ => choose_end hc0 hc4 hn ht hs hf
  | k + 1, hk => choose_step hc0 hc4 hn ht hs (by omega) (by
      have := choose_all hc0 hc4 hn ht hs hf k (by omega)
      rwa [show n - (k + 1) + 1 = n - k by omega])
theorem fits_all {cores : Int} {n til : Nat} (hc0 : 0 ≤ cores) (hc4 : cores ≤ 4) (hn : n ≤ 4) (ht : til ≤ 6) : ∀ k, k ≤ til → FitsC cores n (til - k) til
  | 0, _ => fits_step hc0 hc4 hn ht (fun h => absurd h (by omega)) (by omega)
  | k + 1, hk => fits_step hc0 hc4 hn ht (fun h => by
      have := choose_all hc0 hc4 hn ht h (by
        have := fits_all hc0 hc4 hn ht k (by omega)
        rwa [show til - (k + 1) + 1 = til - k by omega]) n (Nat.le_refl _)
      rwa [Nat.sub_self] at this) (by omega)
end Go.Proofs.Ytobjcdbbdgloiaa
