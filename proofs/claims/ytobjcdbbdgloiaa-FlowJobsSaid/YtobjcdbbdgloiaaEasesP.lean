/- Jobs that can be scheduled still can when they ask for less: plain Lean. Conditions: each theorem's own. -/
import Derived.Test.YtobjcdbbdgloiaaSchedule
namespace Go.Proofs.Ytobjcdbbdgloiaa

def b01 (b : Bool) : Int := if b = true then 1 else 0
theorem b01_01 (b : Bool) : 0 ≤ b01 b ∧ b01 b ≤ 1 := by unfold b01; split <;> omega
/-- The first slots of a job, up to a number. -/
def firstC (f : Nat → Bool) (c : Int) (s : Nat) : Bool := f s && decide (sm s (fun i => b01 (f i)) < c)
theorem firstC_cnt {f : Nat → Bool} {c : Int} (hc : 0 ≤ c) : ∀ k, sm k (fun s => b01 (firstC f c s)) = min (sm k (fun i => b01 (f i))) c
  | 0 => by show (0 : Int) = min 0 c; omega
  | k + 1 => by
    rw [sm, sm, firstC_cnt hc k]
    unfold firstC
    generalize sm k (fun i => b01 (f i)) = A
    cases hf : f k
    · simp [b01]
    · by_cases h : A < c
      · rw [decide_eq_true h]; show min A c + 1 = min (A + 1) c; omega
      · rw [decide_eq_false h]; show min A c + 0 = min (A + 1) c; omega
theorem maxD_mono {l l' : List FJ} (h : ∀ j, j < l.length → (fjAt l j).d ≤ (fjAt l' j).d) : ∀ {k : Nat}, k ≤ l.length → maxD l k ≤ maxD l' k
  | 0, _ => by unfold maxD; exact Int.le_refl _
  | k + 1, hk => by
    have h1 := maxD_mono h (k := k) (by omega)
    have h2 := h k (by omega)
    simp only [maxD]
    omega
theorem Can.ease {l l' : List FJ} {cores cores' : Int} (hlen : l'.length = l.length) (h : ∀ j, j < l.length → (fjAt l' j).r ≤ (fjAt l j).r ∧ (fjAt l j).d ≤ (fjAt l' j).d ∧ 0 ≤ (fjAt l' j).c ∧ (fjAt l' j).c ≤ (fjAt l j).c) (hc0 : 0 ≤ cores) (hc : cores ≤ cores') (hcan : Can l cores) : Can l' cores' := by
  obtain ⟨σ, hσ⟩ := hcan
  have hS : slotsN l ≤ slotsN l' := by
    have := maxD_mono (l := l) (l' := l') (fun j hj => (h j hj).2.1) (Nat.le_refl l.length)
    unfold slotsN
    rw [hlen]; omega
  refine ⟨fun j s => decide (s < slotsN l) && firstC (σ j) (fjAt l' j).c s, ?_, ?_, ?_⟩
  · intro j s hj hs hb
    rw [Bool.and_eq_true, decide_eq_true_eq] at hb
    obtain ⟨h1, h2⟩ := hb
    unfold firstC at h2
    rw [Bool.and_eq_true] at h2
    rw [hlen] at hj
    have := hσ.win j s hj h1 h2.1
    unfold winB at this ⊢
    rw [decide_eq_true_eq] at this ⊢
    have := h j hj
    omega
  · intro s hs
    rw [hlen]
    by_cases h1 : s < slotsN l
    · have h2 := hσ.room s h1
      have h3 : sm l.length (fun j => if (decide (s < slotsN l) && firstC (σ j) (fjAt l' j).c s) = true then (1 : Int) else 0) ≤ sm l.length (fun j => if σ j s = true then 1 else 0) := sm_le fun j hj => by
        unfold firstC
        cases hf : σ j s <;> simp
        split <;> omega
      omega
    · rw [sm_congr (g := fun _ => (0 : Int)) (fun j _ => by simp [h1]), sm_zero]
      omega
  · intro j hj
    rw [hlen] at hj
    obtain ⟨_, _, h3, h4⟩ := h j hj
    rw [sm_ext hS (fun s h1 _ => by simp [show ¬ s < slotsN l by omega])]
    have e := firstC_cnt (f := σ j) h3 (slotsN l)
    have hc2 : sm (slotsN l) (fun i => b01 (σ j i)) = (fjAt l j).c := hσ.cost j hj
    rw [hc2] at e
    rw [sm_congr (g := fun s => b01 (firstC (σ j) (fjAt l' j).c s)) (fun s hs => by simp [hs, b01]), e]
    omega
end Go.Proofs.Ytobjcdbbdgloiaa
