/- The network of jobs and slots: plain Lean. Conditions: each theorem's own. -/
import Derived.Test.YtdjpkebajcpfbaaFlowP
namespace Go.Proofs.Ytdjpkebajcpfbaa
/-! ### The network of jobs and slots -/
structure FJ where
  r : Int
  d : Int
  c : Int
def fjAt (l : List FJ) (j : Nat) : FJ := l.getD j ⟨0, 0, 0⟩
def winB (l : List FJ) (j s : Nat) : Bool := decide ((fjAt l j).r ≤ s ∧ (s : Int) < (fjAt l j).d)
/-- The capacities of which J, W, Q tell whether they are laid. -/
def netC (l : List FJ) (S : Nat) (cores : Int) (J : Nat → Bool) (W : Nat → Nat → Bool) (Q : Nat → Bool) : Nat → Nat → Int := fun u v =>
  if u = 0 then (if 1 ≤ v ∧ v ≤ l.length ∧ J (v - 1) = true then (fjAt l (v - 1)).c else 0)
  else if u ≤ l.length then (if l.length < v ∧ v ≤ l.length + S ∧ W (u - 1) (v - 1 - l.length) = true then 1 else 0)
  else if u ≤ l.length + S then (if v = l.length + S + 1 ∧ Q (u - 1 - l.length) = true then cores else 0)
  else 0
def netF (l : List FJ) (S : Nat) (cores : Int) : Nat → Nat → Int := netC l S cores (fun _ => true) (winB l) (fun _ => true)
def netN (l : List FJ) (S : Nat) : Nat := 2 + l.length + S
section
variable {l : List FJ} {S : Nat} {cores : Int}
theorem net_0j {j : Nat} (hj : j < l.length) : netF l S cores 0 (1 + j) = (fjAt l j).c := by
  unfold netF netC
  rw [if_pos rfl, if_pos ⟨by omega, by omega, rfl⟩, show 1 + j - 1 = j by omega]
theorem net_0 {v : Nat} (h : v = 0 ∨ l.length < v) : netF l S cores 0 v = 0 := by
  unfold netF netC
  rw [if_pos rfl, if_neg (by omega)]
theorem net_js {j s : Nat} (hj : j < l.length) (hs : s < S) : netF l S cores (1 + j) (1 + l.length + s) = if winB l j s = true then 1 else 0 := by
  unfold netF netC
  rw [if_neg (by omega), if_pos (by omega), show 1 + j - 1 = j by omega, show 1 + l.length + s - 1 - l.length = s by omega]
  by_cases h : winB l j s = true
  · rw [if_pos h, if_pos ⟨by omega, by omega, h⟩]
  · rw [if_neg h, if_neg (fun x => h x.2.2)]
theorem net_j {j v : Nat} (hj : j < l.length) (h : v ≤ l.length ∨ l.length + S < v) : netF l S cores (1 + j) v = 0 := by
  unfold netF netC
  rw [if_neg (by omega), if_pos (by omega), if_neg (by omega)]
theorem net_st {s : Nat} (hs : s < S) : netF l S cores (1 + l.length + s) (1 + l.length + S) = cores := by
  unfold netF netC
  rw [if_neg (by omega), if_neg (by omega), if_pos (by omega), if_pos ⟨by omega, rfl⟩]
theorem net_s {s v : Nat} (hs : s < S) (h : v ≠ 1 + l.length + S) : netF l S cores (1 + l.length + s) v = 0 := by
  unfold netF netC
  rw [if_neg (by omega), if_neg (by omega), if_pos (by omega), if_neg (by omega)]
theorem net_t {v : Nat} : netF l S cores (1 + l.length + S) v = 0 := by
  unfold netF netC
  rw [if_neg (by omega), if_neg (by omega), if_neg (by omega)]
/-- A sum over all vertices, by kinds. -/
theorem sm_net (f : Nat → Int) : sm (netN l S) f = f 0 + sm l.length (fun j => f (1 + j)) + sm S (fun s => f (1 + l.length + s)) + f (1 + l.length + S) := by
  unfold netN
  rw [show 2 + l.length + S = (1 + l.length + S) + 1 by omega, sm, sm_split f (1 + l.length) S, sm_split f 1 l.length]
  simp [sm]
/-- The capacity of a cut between the first and the last vertex. -/
theorem cut_net (T : Nat → Bool) (h0 : T 0 = true) (ht : T (1 + l.length + S) = false) : cutV (netN l S) (netF l S cores) T =
    sm l.length (fun j => if T (1 + j) = true then 0 else (fjAt l j).c) + sm l.length (fun j => if T (1 + j) = true then sm S (fun s => if T (1 + l.length + s) = false ∧ winB l j s = true then 1 else 0) else 0) +
    sm S (fun s => if T (1 + l.length + s) = true then cores else 0) := by
  have e0 : ∀ u, (∀ v, v < netN l S → netF l S cores u v = 0 ∨ T u = false ∨ T v = true) → sm (netN l S) (fun v => if T u = true ∧ T v = false then netF l S cores u v else 0) = 0 := fun u h => by
    have e : sm (netN l S) (fun v => if T u = true ∧ T v = false then netF l S cores u v else 0) = sm (netN l S) (fun _ => 0) := sm_congr fun v hv => by
      rcases h v hv with h | h | h <;> simp [h]
    rw [e, sm_zero]
  have r0 : sm (netN l S) (fun v => if T 0 = true ∧ T v = false then netF l S cores 0 v else 0) = sm l.length (fun j => if T (1 + j) = true then 0 else (fjAt l j).c) := by
    rw [sm_net]
    have a1 : sm S (fun s => if T 0 = true ∧ T (1 + l.length + s) = false then netF l S cores 0 (1 + l.length + s) else 0) = sm S (fun _ => 0) := sm_congr fun s _ => by
      rw [net_0 (.inr (by omega))]; simp
    rw [a1, sm_zero, net_0 (.inl rfl), net_0 (.inr (by omega))]
    have a2 : sm l.length (fun j => if T 0 = true ∧ T (1 + j) = false then netF l S cores 0 (1 + j) else 0) = sm l.length (fun j => if T (1 + j) = true then 0 else (fjAt l j).c) := sm_congr fun j hj => by
      rw [net_0j hj]
      cases T (1 + j) <;> simp [h0]
    rw [a2]; simp
  have rj : ∀ j, j < l.length → sm (netN l S) (fun v => if T (1 + j) = true ∧ T v = false then netF l S cores (1 + j) v else 0) = if T (1 + j) = true then sm S (fun s => if T (1 + l.length + s) = false ∧ winB l j s = true then 1 else 0) else 0 := fun j hj => by
    rw [sm_net]
    have a1 : sm l.length (fun i => if T (1 + j) = true ∧ T (1 + i) = false then netF l S cores (1 + j) (1 + i) else 0) = sm l.length (fun _ => 0) := sm_congr fun i hi => by
      rw [net_j hj (.inl (by omega))]; simp
    rw [a1, sm_zero, net_j hj (.inl (by omega)), net_j hj (.inr (by omega))]
    by_cases h : T (1 + j) = true
    · rw [if_pos h]
      have a2 : sm S (fun s => if T (1 + j) = true ∧ T (1 + l.length + s) = false then netF l S cores (1 + j) (1 + l.length + s) else 0) = sm S (fun s => if T (1 + l.length + s) = false ∧ winB l j s = true then 1 else 0) := sm_congr fun s hs => by
        rw [net_js hj hs]
        cases T (1 + l.length + s) <;> cases winB l j s <;> simp [h]
      rw [a2]; simp
    · rw [if_neg h]
      have a2 : sm S (fun s => if T (1 + j) = true ∧ T (1 + l.length + s) = false then netF l S cores (1 + j) (1 + l.length + s) else 0) = sm S (fun _ => 0) := sm_congr fun s hs => by simp [h]
      rw [a2, sm_zero]; simp
  have rs : ∀ s, s < S → sm (netN l S) (fun v => if T (1 + l.length + s) = true ∧ T v = false then netF l S cores (1 + l.length + s) v else 0) = if T (1 + l.length + s) = true then cores else 0 := fun s hs => by
    have hlt : 1 + l.length + S < netN l S := by unfold netN; omega
    rw [sm_one hlt (fun v _ hne => by rw [net_s hs hne]; simp), net_st hs, ht]
    simp
  have rt : sm (netN l S) (fun v => if T (1 + l.length + S) = true ∧ T v = false then netF l S cores (1 + l.length + S) v else 0) = 0 := e0 _ fun v _ => .inl net_t
  unfold cutV
  rw [sm_net (f := fun u => sm (netN l S) fun v => if T u = true ∧ T v = false then netF l S cores u v else 0), r0, rt, sm_congr rj, sm_congr rs]
  omega
def totalC (l : List FJ) : Int := sm l.length fun j => (fjAt l j).c
/-- A schedule: who runs when. -/
structure Sched (l : List FJ) (S : Nat) (cores : Int) (σ : Nat → Nat → Bool) : Prop where
  win : ∀ j s, j < l.length → s < S → σ j s = true → winB l j s = true
  room : ∀ s, s < S → sm l.length (fun j => if σ j s = true then 1 else 0) ≤ cores
  cost : ∀ j, j < l.length → sm S (fun s => if σ j s = true then 1 else 0) = (fjAt l j).c
theorem Sched.le_cut {σ : Nat → Nat → Bool} (h : Sched l S cores σ) (T : Nat → Bool) (h0 : T 0 = true) (ht : T (1 + l.length + S) = false) : totalC l ≤ cutV (netN l S) (netF l S cores) T := by
  rw [cut_net T h0 ht]
  have e1 : totalC l = sm l.length (fun j => if T (1 + j) = true then 0 else (fjAt l j).c) + sm l.length (fun j => if T (1 + j) = true then sm S (fun s => if σ j s = true then 1 else 0) else 0) := by
    unfold totalC
    rw [← sm_add]
    exact sm_congr fun j hj => by
      by_cases e : T (1 + j) = true
      · rw [if_pos e, if_pos e, h.cost j hj]; omega
      · rw [if_neg e, if_neg e]; omega
  have e2 : sm l.length (fun j => if T (1 + j) = true then sm S (fun s => if σ j s = true then 1 else 0) else 0) ≤
      sm l.length (fun j => if T (1 + j) = true then sm S (fun s => if T (1 + l.length + s) = false ∧ winB l j s = true then 1 else 0) else 0) + sm l.length (fun j => sm S (fun s => if T (1 + l.length + s) = true ∧ σ j s = true then 1 else 0)) := by
    rw [← sm_add]
    refine sm_le fun j hj => ?_
    by_cases e : T (1 + j) = true
    · rw [if_pos e, if_pos e, ← sm_add]
      refine sm_le fun s hs => ?_
      have := h.win j s hj hs
      cases hσ : σ j s <;> cases hT : T (1 + l.length + s) <;> simp [hσ] at this ⊢
      · split <;> omega
      · rw [this]; simp
    · rw [if_neg e, if_neg e]
      have := sm_nonneg (n := S) (f := fun s => if T (1 + l.length + s) = true ∧ σ j s = true then 1 else 0) (fun s _ => by show 0 ≤ (if _ then (1 : Int) else 0); split <;> omega)
      omega
  have e3 : sm l.length (fun j => sm S (fun s => if T (1 + l.length + s) = true ∧ σ j s = true then 1 else 0)) ≤ sm S (fun s => if T (1 + l.length + s) = true then cores else 0) := by
    rw [sm_swap]
    refine sm_le fun s hs => ?_
    by_cases e : T (1 + l.length + s) = true
    · rw [if_pos e]
      have := h.room s hs
      rw [sm_congr (g := fun j => if σ j s = true then (1 : Int) else 0) (fun j _ => by simp [e])]
      exact this
    · rw [if_neg e, sm_congr (g := fun _ => (0 : Int)) (fun j _ => by simp [e]), sm_zero]
      exact Int.le_refl _
  omega
end
section
variable {l : List FJ} {S : Nat} {cores : Int} {r : Nat → Nat → Int} {val : Int}
theorem pair_zero {n : Nat} {c r : Nat → Nat → Int} {ex : Nat → Int} (h : Res n c r ex) {u v : Nat} (hu : u < n) (hv : v < n) (h1 : c u v = 0) (h2 : c v u = 0) : r u v = 0 := by
  have := h.nonneg u v hu hv
  have := h.nonneg v u hv hu
  have := h.pair u v hu hv
  omega
/-- What runs when, in a flow. -/
theorem net_unit (h : Res (netN l S) (netF l S cores) r (exOf 0 (1 + l.length + S) val)) {j s : Nat} (hj : j < l.length) (hs : s < S) :
    0 ≤ r (1 + l.length + s) (1 + j) ∧ r (1 + l.length + s) (1 + j) ≤ (if winB l j s = true then 1 else 0) ∧ netF l S cores (1 + j) (1 + l.length + s) - r (1 + j) (1 + l.length + s) = r (1 + l.length + s) (1 + j) := by
  have hu : 1 + j < netN l S := by unfold netN; omega
  have hv : 1 + l.length + s < netN l S := by unfold netN; omega
  have a := h.nonneg _ _ hu hv
  have b := h.nonneg _ _ hv hu
  have p := h.pair _ _ hu hv
  rw [net_js hj hs, net_s hs (show 1 + j ≠ 1 + l.length + S by omega)] at p
  rw [net_js hj hs]
  omega
theorem net_job (h : Res (netN l S) (netF l S cores) r (exOf 0 (1 + l.length + S) val)) {j : Nat} (hj : j < l.length) :
    sm S (fun s => r (1 + l.length + s) (1 + j)) = netF l S cores 0 (1 + j) - r 0 (1 + j) ∧ sm S (fun s => r (1 + l.length + s) (1 + j)) ≤ (fjAt l j).c := by
  have hu : 1 + j < netN l S := by unfold netN; omega
  have h0 : 0 < netN l S := by unfold netN; omega
  have hn := h.net _ hu
  rw [sm_net] at hn
  have a1 : sm l.length (fun i => netF l S cores (1 + j) (1 + i) - r (1 + j) (1 + i)) = sm l.length (fun _ => 0) := sm_congr fun i hi => by
    have z1 := net_j (cores := cores) (S := S) hj (v := 1 + i) (.inl (by omega))
    have z2 := net_j (cores := cores) (S := S) hi (v := 1 + j) (.inl (by omega))
    rw [z1, pair_zero h hu (by unfold netN; omega) z1 z2]; rfl
  have a2 : sm S (fun s => netF l S cores (1 + j) (1 + l.length + s) - r (1 + j) (1 + l.length + s)) = sm S (fun s => r (1 + l.length + s) (1 + j)) := sm_congr fun s hs => (net_unit h hj hs).2.2
  have z1 := net_j (cores := cores) (S := S) hj (v := 1 + l.length + S) (.inr (by omega))
  have a3 := pair_zero h hu (show 1 + l.length + S < netN l S by unfold netN; omega) z1 net_t
  have a4 : exOf 0 (1 + l.length + S) val (1 + j) = 0 := by unfold exOf; rw [if_neg (by omega), if_neg (by omega)]; rfl
  have p := h.pair 0 (1 + j) h0 hu
  have z2 := net_j (cores := cores) (S := S) hj (v := 0) (.inl (by omega))
  have b := h.nonneg 0 (1 + j) h0 hu
  rw [net_0j hj, z2] at p
  rw [a1, sm_zero, a2, a3, z1, z2, a4] at hn
  rw [net_0j hj]
  omega
theorem net_val (h : Res (netN l S) (netF l S cores) r (exOf 0 (1 + l.length + S) val)) : val = sm l.length (fun j => sm S (fun s => r (1 + l.length + s) (1 + j))) := by
  have h0 : 0 < netN l S := by unfold netN; omega
  have hn := h.net 0 h0
  rw [sm_net] at hn
  have a1 : sm l.length (fun j => netF l S cores 0 (1 + j) - r 0 (1 + j)) = sm l.length (fun j => sm S (fun s => r (1 + l.length + s) (1 + j))) := sm_congr fun j hj => ((net_job h hj).1).symm
  have a2 : sm S (fun s => netF l S cores 0 (1 + l.length + s) - r 0 (1 + l.length + s)) = sm S (fun _ => 0) := sm_congr fun s hs => by
    have z1 := net_0 (l := l) (S := S) (cores := cores) (v := 1 + l.length + s) (.inr (by omega))
    rw [z1, pair_zero h h0 (by unfold netN; omega) z1 (net_s hs (by omega))]; rfl
  have z1 := net_0 (l := l) (S := S) (cores := cores) (v := 1 + l.length + S) (.inr (by omega))
  have a3 := pair_zero h h0 (show 1 + l.length + S < netN l S by unfold netN; omega) z1 net_t
  have z0 := net_0 (l := l) (S := S) (cores := cores) (v := 0) (.inl rfl)
  have a4 := pair_zero h h0 h0 z0 z0
  have a5 : exOf 0 (1 + l.length + S) val 0 = val := by unfold exOf; rw [if_pos rfl, if_neg (by omega)]; omega
  rw [a1, a2, sm_zero, z1, a3, z0, a4, a5] at hn
  omega
theorem net_slot (h : Res (netN l S) (netF l S cores) r (exOf 0 (1 + l.length + S) val)) {s : Nat} (hs : s < S) : sm l.length (fun j => r (1 + l.length + s) (1 + j)) ≤ cores := by
  have hu : 1 + l.length + s < netN l S := by unfold netN; omega
  have ht : 1 + l.length + S < netN l S := by unfold netN; omega
  have hn := h.net _ hu
  rw [sm_net] at hn
  have a1 : sm l.length (fun j => netF l S cores (1 + l.length + s) (1 + j) - r (1 + l.length + s) (1 + j)) = - sm l.length (fun j => r (1 + l.length + s) (1 + j)) := by
    rw [← sm_neg]
    exact sm_congr fun j hj => by rw [net_s hs (by omega)]; omega
  have a2 : sm S (fun i => netF l S cores (1 + l.length + s) (1 + l.length + i) - r (1 + l.length + s) (1 + l.length + i)) = sm S (fun _ => 0) := sm_congr fun i hi => by
    have z1 := net_s (l := l) (cores := cores) hs (v := 1 + l.length + i) (by omega)
    have z2 := net_s (l := l) (cores := cores) hi (v := 1 + l.length + s) (by omega)
    rw [z1, pair_zero h hu (by unfold netN; omega) z1 z2]; rfl
  have z0 := net_s (l := l) (cores := cores) hs (v := 0) (by omega)
  have z1 := net_0 (l := l) (S := S) (cores := cores) (v := 1 + l.length + s) (.inr (by omega))
  have a3 := pair_zero h hu (show 0 < netN l S by unfold netN; omega) z0 z1
  have a4 : exOf 0 (1 + l.length + S) val (1 + l.length + s) = 0 := by unfold exOf; rw [if_neg (by omega), if_neg (by omega)]; rfl
  have b := h.nonneg _ _ hu ht
  rw [a1, a2, sm_zero, z0, a3, net_st hs, a4] at hn
  omega
theorem sm_eq {n : Nat} {f g : Nat → Int} (hle : ∀ i, i < n → f i ≤ g i) (he : sm n f = sm n g) : ∀ i, i < n → f i = g i := by
  induction n with
  | zero => intro i hi; omega
  | succ n ih =>
    rw [sm, sm] at he
    have h1 := sm_le (n := n) (f := f) (g := g) (fun i hi => hle i (by omega))
    have h2 := hle n (by omega)
    intro i hi
    by_cases e : i = n
    · subst e; omega
    · exact ih (fun i hi => hle i (by omega)) (by omega) i (by omega)
theorem net_le (h : Res (netN l S) (netF l S cores) r (exOf 0 (1 + l.length + S) val)) : val ≤ totalC l := by
  rw [net_val h]
  exact sm_le fun j hj => (net_job h hj).2
/-- A flow that gives every job its slots is a schedule. -/
theorem sched_of (h : Res (netN l S) (netF l S cores) r (exOf 0 (1 + l.length + S) val)) (hv : val = totalC l) : Sched l S cores (fun j s => decide (0 < r (1 + l.length + s) (1 + j))) := by
  have unit : ∀ j s, j < l.length → s < S → (if decide (0 < r (1 + l.length + s) (1 + j)) = true then (1 : Int) else 0) = r (1 + l.length + s) (1 + j) := fun j s hj hs => by
    obtain ⟨h1, h2, _⟩ := net_unit h hj hs
    by_cases e : 0 < r (1 + l.length + s) (1 + j)
    · rw [if_pos (by simpa using e)]
      split at h2 <;> omega
    · rw [if_neg (by simpa using e)]; omega
  refine ⟨fun j s hj hs hσ => ?_, fun s hs => ?_, fun j hj => ?_⟩
  · obtain ⟨h1, h2, _⟩ := net_unit h hj hs
    have : 0 < r (1 + l.length + s) (1 + j) := by simpa using hσ
    by_cases e : winB l j s = true
    · exact e
    · rw [if_neg e] at h2; omega
  · rw [sm_congr (g := fun j => r (1 + l.length + s) (1 + j)) (fun j hj => unit j s hj hs)]
    exact net_slot h hs
  · rw [sm_congr (g := fun s => r (1 + l.length + s) (1 + j)) (fun s hs => unit j s hj hs)]
    have := net_val h
    rw [hv] at this
    exact (sm_eq (f := fun j => sm S (fun s => r (1 + l.length + s) (1 + j))) (g := fun j => (fjAt l j).c) (fun j hj => (net_job h hj).2) this.symm) j hj
theorem full_of {σ : Nat → Nat → Bool} (hσ : Sched l S cores σ) (hc : IsCut (netN l S) (netF l S cores) 0 (1 + l.length + S) val) : totalC l ≤ val := by
  obtain ⟨⟨T, h1, h2, h3⟩, _⟩ := hc
  rw [← h3]
  exact hσ.le_cut T h1 h2
end
end Go.Proofs.Ytdjpkebajcpfbaa
