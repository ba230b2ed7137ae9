/- The flow that is read off the residual capacities: plain Lean. Conditions: each theorem's own. -/
import Derived.Test.YtobjcdbbdgloiaaFlowMax
namespace Go.Proofs.Ytobjcdbbdgloiaa

section
variable {n : Nat} {c r : Nat → Nat → Int} {ex : Nat → Int}
def flV (c r : Nat → Nat → Int) (u v : Nat) : Int := max 0 (c u v - r u v)
theorem flV_bd (h : Res n c r ex) (hc : ∀ u v, u < n → v < n → 0 ≤ c u v) {u v : Nat} (hu : u < n) (hv : v < n) : 0 ≤ flV c r u v ∧ flV c r u v ≤ c u v := by
  have := h.nonneg u v hu hv
  have := hc u v hu hv
  unfold flV; omega
theorem flV_diff (h : Res n c r ex) {u v : Nat} (hu : u < n) (hv : v < n) : flV c r u v - flV c r v u = c u v - r u v := by
  have := h.pair u v hu hv
  unfold flV; omega
theorem flV_net (h : Res n c r ex) {u : Nat} (hu : u < n) : sm n (fun v => flV c r u v) - sm n (fun v => flV c r v u) = ex u := by
  rw [← sm_sub, ← h.net u hu]
  exact sm_congr fun v hv => flV_diff h hu hv
theorem flV_res (h : Res n c r ex) (hc : ∀ u v, u < n → v < n → 0 ≤ c u v) {u v : Nat} (hu : u < n) (hv : v < n) (hh : flV c r u v < c u v ∨ 0 < flV c r v u) : 0 < r u v := by
  have h1 := h.nonneg u v hu hv
  have h2 := h.pair u v hu hv
  have h3 := hc u v hu hv
  have h4 := h.nonneg v u hv hu
  unfold flV at hh; omega

/-! ### What comes in, and what goes out, so far -/
variable {f : Nat → Nat → Int}
def netV (f : Nat → Nat → Int) (n k m x : Nat) : Int := sm n (fun v => part2 f k m x v) - sm n (fun v => part2 f k m v x)
theorem netV_zero (x : Nat) : netV f n 0 0 x = 0 := by
  unfold netV
  rw [sm_congr (f := fun v => part2 f 0 0 x v) (g := fun _ => 0) (fun v _ => by unfold part2; rw [if_neg (by omega)]), sm_congr (f := fun v => part2 f 0 0 v x) (g := fun _ => 0) (fun v _ => by unfold part2; rw [if_neg (by omega)]), sm_zero]; rfl
theorem netV_step {k m : Nat} (hk : k < n) (hm : m < n) (x : Nat) : netV f n k (m + 1) x = netV f n k m x + (if x = k then f k m else 0) - (if x = m then f k m else 0) := by
  have hz : part2 f k m k m = 0 := by unfold part2; rw [if_neg (by omega)]
  have hs : part2 f k (m + 1) k m = f k m := by unfold part2; rw [if_pos (by omega)]
  have ho : ∀ i j, ¬ (i = k ∧ j = m) → part2 f k (m + 1) i j = part2 f k m i j := fun i j hne => by
    rw [← part2_step]; unfold upd2; rw [if_neg hne]
  unfold netV
  have e1 : sm n (fun v => part2 f k (m + 1) x v) = sm n (fun v => part2 f k m x v) + (if x = k then f k m else 0) := by
    by_cases e : x = k
    · subst e
      rw [sm_upd (t := m) (f := fun v => part2 f x m x v) hm (fun i _ hne => ho x i (fun h => hne h.2)), hz, hs, if_pos rfl]; omega
    · rw [if_neg e, sm_congr (f := fun v => part2 f k (m + 1) x v) (g := fun v => part2 f k m x v) (fun v _ => ho x v (fun h => e h.1))]; omega
  have e2 : sm n (fun v => part2 f k (m + 1) v x) = sm n (fun v => part2 f k m v x) + (if x = m then f k m else 0) := by
    by_cases e : x = m
    · subst e
      rw [sm_upd (t := k) (f := fun v => part2 f k x v x) hk (fun i _ hne => ho i x (fun h => hne h.1)), hz, hs, if_pos rfl]; omega
    · rw [if_neg e, sm_congr (f := fun v => part2 f k (m + 1) v x) (g := fun v => part2 f k m v x) (fun v _ => ho v x (fun h => e h.2))]; omega
  rw [e1, e2]; omega
theorem netV_row {k x : Nat} (hx : x < n) : netV f n k n x = netV f n (k + 1) 0 x := by
  have e : ∀ i j, j < n → part2 f k n i j = part2 f (k + 1) 0 i j := fun i j hj => by
    unfold part2
    by_cases h : i < k ∨ (i = k ∧ j < n)
    · rw [if_pos h, if_pos (by omega)]
    · rw [if_neg h, if_neg (by omega)]
  unfold netV
  rw [sm_congr (f := fun v => part2 f k n x v) (g := fun v => part2 f (k + 1) 0 x v) (fun v hv => e x v hv), sm_congr (f := fun v => part2 f k n v x) (g := fun v => part2 f (k + 1) 0 v x) (fun v _ => e v x hx)]
theorem netV_end {x : Nat} (hx : x < n) : netV f n n 0 x = sm n (fun v => f x v) - sm n (fun v => f v x) := by
  unfold netV
  rw [sm_congr (f := fun v => part2 f n 0 x v) (g := fun v => f x v) (fun v _ => by unfold part2; rw [if_pos (by omega)]), sm_congr (f := fun v => part2 f n 0 v x) (g := fun v => f v x) (fun v hv => by unfold part2; rw [if_pos (by omega)])]
theorem netV_bd (hf : ∀ i j, i < n → j < n → 0 ≤ f i j ∧ f i j ≤ 1073741824) {k m x : Nat} (hx : x < n) : -(1073741824 * n) ≤ netV f n k m x ∧ netV f n k m x ≤ 1073741824 * n := by
  have b : ∀ i j, i < n → j < n → 0 ≤ part2 f k m i j ∧ part2 f k m i j ≤ 1073741824 := fun i j hi hj => by
    have := hf i j hi hj
    unfold part2; split <;> omega
  have h1 := sm_nonneg (n := n) (f := fun v => part2 f k m x v) (fun v hv => (b x v hx hv).1)
  have h2 := sm_nonneg (n := n) (f := fun v => part2 f k m v x) (fun v hv => (b v x hv hx).1)
  have h3 := sm_le (n := n) (f := fun v => part2 f k m x v) (g := fun _ => 1073741824) (fun v hv => (b x v hx hv).2)
  have h4 := sm_le (n := n) (f := fun v => part2 f k m v x) (g := fun _ => 1073741824) (fun v hv => (b v x hv hx).2)
  rw [sm_const] at h3 h4
  unfold netV; omega

/-! ### What is reached -/
def cntB (n : Nat) (S : Nat → Bool) : Int := sm n fun i => if S i = true then 1 else 0
theorem cntB_bd (n : Nat) (S : Nat → Bool) : 0 ≤ cntB n S ∧ cntB n S ≤ n := by
  have h1 := sm_nonneg (n := n) (f := fun i => if S i = true then (1 : Int) else 0) (fun i _ => by show 0 ≤ (if _ then (1 : Int) else 0); split <;> omega)
  have h2 := sm_le (n := n) (f := fun i => if S i = true then (1 : Int) else 0) (g := fun _ => 1) (fun i _ => by show (if _ then (1 : Int) else 0) ≤ 1; split <;> omega)
  rw [sm_const] at h2
  unfold cntB; omega
def addB (S : Nat → Bool) (v : Nat) : Nat → Bool := fun x => if x = v then true else S x
theorem cntB_add {S : Nat → Bool} {v : Nat} (hv : v < n) (h : S v = false) : cntB n (addB S v) = cntB n S + 1 := by
  unfold cntB
  rw [sm_upd (t := v) (f := fun i => if S i = true then (1 : Int) else 0) hv (fun i _ hne => by unfold addB; rw [if_neg hne]), h]
  simp [addB]
theorem cntB_one {v : Nat} (hv : v < n) : cntB n (addB (fun _ => false) v) = 1 := by
  rw [cntB_add hv rfl]
  unfold cntB
  rw [sm_congr (g := fun _ => 0) (fun i _ => by simp), sm_zero]; rfl
end
end Go.Proofs.Ytobjcdbbdgloiaa
