/- All assignments tried slot by slot: plain Lean. Conditions: each theorem's own. -/
import Derived.Test.YtobjcdbbdgloiaaJobsCopy
namespace Go.Proofs.Ytobjcdbbdgloiaa

/-- A schedule of the slots from one on; in the first of them only jobs from an index on run, and not more than are free. -/
structure Gs (l : List FJ) (cores free : Int) (slot til frm : Nat) (σ : Nat → Nat → Bool) : Prop where
  win : ∀ j s, j < l.length → σ j s = true → slot ≤ s ∧ s < til ∧ winB l j s = true
  frm0 : ∀ j, j < frm → σ j slot = false
  room : ∀ s, slot < s → sm l.length (fun j => b01 (σ j s)) ≤ cores
  room0 : sm l.length (fun j => b01 (σ j slot)) ≤ free
  cost : ∀ j, j < l.length → sm til (fun s => b01 (σ j s)) = (fjAt l j).c
def CanG (l : List FJ) (cores free : Int) (slot til frm : Nat) : Prop := ∃ σ, Gs l cores free slot til frm σ
def decJ (l : List FJ) (i : Nat) : List FJ := l.set i ⟨(fjAt l i).r, (fjAt l i).d, (fjAt l i).c - 1⟩
theorem fjAt_set {l : List FJ} {i j : Nat} (x : FJ) (hi : i < l.length) : fjAt (l.set i x) j = if j = i then x else fjAt l j := by
  unfold fjAt
  by_cases e : j = i
  · subst e; rw [if_pos rfl, List.getD_eq_getElem?_getD, List.getElem?_set_self hi]; rfl
  · rw [if_neg e, List.getD_eq_getElem?_getD, List.getD_eq_getElem?_getD, List.getElem?_set_ne (fun h => e h.symm)]
theorem decJ_len (l : List FJ) (i : Nat) : (decJ l i).length = l.length := by simp [decJ]
theorem decJ_at {l : List FJ} {i j : Nat} (hi : i < l.length) : fjAt (decJ l i) j = if j = i then ⟨(fjAt l i).r, (fjAt l i).d, (fjAt l i).c - 1⟩ else fjAt l j := fjAt_set _ hi
theorem decJ_win {l : List FJ} {i j s : Nat} (hi : i < l.length) : winB (decJ l i) j s = winB l j s := by
  unfold winB
  rw [decJ_at hi]
  by_cases e : j = i
  · subst e; rw [if_pos rfl]
  · rw [if_neg e]
section
variable {l : List FJ} {cores free : Int} {slot til frm : Nat}
theorem CanG.done (h0 : 0 ≤ cores) (h : ∀ j, j < l.length → (fjAt l j).c = 0) : CanG l cores cores slot til 0 :=
  ⟨fun _ _ => false, fun j s _ h => (by cases h), fun _ _ => rfl, fun s _ => (by show sm l.length (fun _ => (0 : Int)) ≤ cores; rw [sm_zero]; exact h0),
    (by show sm l.length (fun _ => (0 : Int)) ≤ cores; rw [sm_zero]; exact h0), fun j hj => (by show sm til (fun _ => (0 : Int)) = _; rw [sm_zero, h j hj])⟩
theorem CanG.late (hs : til ≤ slot) {j : Nat} (hj : j < l.length) (hc : 0 < (fjAt l j).c) : ¬ CanG l cores free slot til frm := by
  rintro ⟨σ, h⟩
  have := h.cost j hj
  rw [sm_congr (g := fun _ => (0 : Int)) (fun s hs2 => by
    cases e : σ j s
    · rfl
    · have := h.win j s hj e; omega), sm_zero] at this
  omega
theorem CanG.next (h0 : 0 ≤ free) (hc0 : 0 ≤ cores) : CanG l cores free slot til l.length ↔ CanG l cores cores (slot + 1) til 0 := by
  constructor
  · rintro ⟨σ, h⟩
    refine ⟨σ, fun j s hj hs => ?_, fun j hj => absurd hj (Nat.not_lt_zero _), fun s hs => h.room s (by omega), h.room (slot + 1) (by omega), h.cost⟩
    obtain ⟨h1, h2, h3⟩ := h.win j s hj hs
    refine ⟨?_, h2, h3⟩
    by_cases e : s = slot
    · subst e; rw [h.frm0 j hj] at hs; cases hs
    · omega
  · rintro ⟨σ, h⟩
    have hz : ∀ j, j < l.length → σ j slot = false := fun j hj => by
      cases e : σ j slot
      · rfl
      · have := h.win j slot hj e; omega
    refine ⟨σ, fun j s hj hs => ?_, hz, fun s hs => ?_, ?_, h.cost⟩
    · obtain ⟨h1, h2, h3⟩ := h.win j s hj hs
      exact ⟨by omega, h2, h3⟩
    · by_cases e : s = slot + 1
      · subst e; exact h.room0
      · exact h.room s (by omega)
    · rw [sm_congr (g := fun _ => (0 : Int)) (fun j hj => by rw [hz j hj]; rfl), sm_zero]; exact h0
theorem CanG.skip (h : CanG l cores free slot til (frm + 1)) : CanG l cores free slot til frm := by
  obtain ⟨σ, h⟩ := h
  exact ⟨σ, h.win, fun j hj => h.frm0 j (by omega), h.room, h.room0, h.cost⟩
theorem CanG.take (hf : frm < l.length) (ht : slot < til) (hw : winB l frm slot = true) (h : CanG (decJ l frm) cores (free - 1) slot til (frm + 1)) : CanG l cores free slot til frm := by
  obtain ⟨σ, h⟩ := h
  have hz : σ frm slot = false := h.frm0 frm (by omega)
  have hl := decJ_len l frm
  refine ⟨fun j s => if j = frm ∧ s = slot then true else σ j s, fun j s hj hs => ?_, fun j hj => ?_, fun s hs => ?_, ?_, fun j hj => ?_⟩
  · by_cases e : j = frm ∧ s = slot
    · obtain ⟨rfl, rfl⟩ := e; exact ⟨Nat.le_refl _, ht, hw⟩
    · simp only [if_neg e] at hs
      obtain ⟨h1, h2, h3⟩ := h.win j s (by omega) hs
      rw [decJ_win hf] at h3
      exact ⟨h1, h2, h3⟩
  · show (if j = frm ∧ slot = slot then true else σ j slot) = false
    rw [if_neg (by omega)]; exact h.frm0 j (by omega)
  · have := h.room s hs
    rw [hl] at this
    rw [sm_congr (g := fun j => b01 (σ j s)) (fun j _ => by show b01 (if j = frm ∧ s = slot then true else σ j s) = _; rw [if_neg (by omega)])]
    exact this
  · have := h.room0
    rw [hl] at this
    rw [sm_upd (f := fun j => b01 (σ j slot)) (t := frm) hf (fun j _ hne => by show b01 (if j = frm ∧ slot = slot then true else σ j slot) = _; rw [if_neg (by omega)])]
    simp only [hz, and_self, if_true]
    show _ + ((1 : Int) - 0) ≤ free
    omega
  · have := h.cost j (by omega)
    rw [decJ_at hf] at this
    by_cases e : j = frm
    · subst e
      rw [if_pos rfl] at this
      rw [sm_upd (f := fun s => b01 (σ j s)) (t := slot) ht (fun s _ hne => by show b01 (if j = j ∧ s = slot then true else σ j s) = _; rw [if_neg (by omega)]), this]
      simp only [hz, and_self, if_true]
      show _ + ((1 : Int) - 0) = _
      omega
    · rw [if_neg e] at this
      rw [sm_congr (g := fun s => b01 (σ j s)) (fun s _ => by show b01 (if j = frm ∧ s = slot then true else σ j s) = _; rw [if_neg (by omega)])]
      exact this
theorem CanG.parts (hf : frm < l.length) (h : CanG l cores free slot til frm) :
    (0 < free ∧ 0 < (fjAt l frm).c ∧ winB l frm slot = true ∧ slot < til ∧ CanG (decJ l frm) cores (free - 1) slot til (frm + 1)) ∨ CanG l cores free slot til (frm + 1) := by
  obtain ⟨σ, h⟩ := h
  cases e : σ frm slot
  · refine .inr ⟨σ, h.win, fun j hj => ?_, h.room, h.room0, h.cost⟩
    by_cases e2 : j = frm
    · subst e2; exact e
    · exact h.frm0 j (by omega)
  · obtain ⟨_, ht, hw⟩ := h.win frm slot hf e
    have n1 := sm_term (f := fun j => b01 (σ j slot)) (n := l.length) (fun j _ => (b01_01 _).1) hf
    have n2 := sm_term (f := fun s => b01 (σ frm s)) (n := til) (fun j _ => (b01_01 _).1) ht
    have n3 := h.room0
    have n4 := h.cost frm hf
    simp only [e] at n1 n2
    have n5 : b01 true = 1 := rfl
    rw [n5] at n1 n2
    have hl := decJ_len l frm
    refine .inl ⟨by omega, by omega, hw, ht, fun j s => if j = frm ∧ s = slot then false else σ j s, fun j s hj hs => ?_, fun j hj => ?_, fun s hs => ?_, ?_, fun j hj => ?_⟩
    · by_cases e2 : j = frm ∧ s = slot
      · simp only [if_pos e2] at hs; cases hs
      · simp only [if_neg e2] at hs
        rw [decJ_win hf]
        exact h.win j s (by omega) hs
    · show (if j = frm ∧ slot = slot then false else σ j slot) = false
      by_cases e2 : j = frm
      · rw [if_pos ⟨e2, rfl⟩]
      · rw [if_neg (by omega)]; exact h.frm0 j (by omega)
    · rw [hl, sm_congr (g := fun j => b01 (σ j s)) (fun j _ => by show b01 (if j = frm ∧ s = slot then false else σ j s) = _; rw [if_neg (by omega)])]
      exact h.room s hs
    · rw [hl, sm_upd (f := fun j => b01 (σ j slot)) (t := frm) hf (fun j _ hne => by show b01 (if j = frm ∧ slot = slot then false else σ j slot) = _; rw [if_neg (by omega)])]
      simp only [e, and_self, if_true]
      show _ + ((0 : Int) - 1) ≤ _
      omega
    · rw [hl] at hj
      have n6 := h.cost j hj
      rw [decJ_at hf]
      by_cases e2 : j = frm
      · subst e2
        rw [if_pos rfl, sm_upd (f := fun s => b01 (σ j s)) (t := slot) ht (fun s _ hne => by show b01 (if j = j ∧ s = slot then false else σ j s) = _; rw [if_neg (by omega)]), n6]
        simp only [e, and_self, if_true]
        show _ + ((0 : Int) - 1) = _
        omega
      · rw [if_neg e2, sm_congr (g := fun s => b01 (σ j s)) (fun s _ => by show b01 (if j = frm ∧ s = slot then false else σ j s) = _; rw [if_neg (by omega)])]
        exact n6
end
theorem maxD_le {l : List FJ} {M : Int} (h0 : 0 ≤ M) (h : ∀ j, j < l.length → (fjAt l j).d ≤ M) : ∀ {k : Nat}, k ≤ l.length → maxD l k ≤ M
  | 0, _ => h0
  | k + 1, hk => by
    have h1 := maxD_le h0 h (k := k) (by omega)
    have h2 := h k (by omega)
    simp only [maxD]
    omega
theorem can_canG {l : List FJ} {cores : Int} {til : Nat} (h0 : 0 ≤ cores) (hd : ∀ j, j < l.length → (fjAt l j).d ≤ til) : Can l cores ↔ CanG l cores cores 0 til 0 := by
  have hS : slotsN l ≤ til := by
    have := maxD_le (l := l) (M := til) (by omega) hd (Nat.le_refl l.length)
    unfold slotsN; omega
  constructor
  · rintro ⟨σ, h⟩
    have hroom : ∀ s, sm l.length (fun j => b01 (decide (s < slotsN l) && σ j s)) ≤ cores := fun s => by
      by_cases e : s < slotsN l
      · rw [sm_congr (g := fun j => if σ j s = true then (1 : Int) else 0) (fun j _ => by simp [e, b01])]
        exact h.room s e
      · rw [sm_congr (g := fun _ => (0 : Int)) (fun j _ => by simp [e, b01]), sm_zero]; exact h0
    refine ⟨fun j s => decide (s < slotsN l) && σ j s, fun j s hj hs => ?_, fun j hj => absurd hj (Nat.not_lt_zero _), fun s _ => hroom s, hroom 0, fun j hj => ?_⟩
    · rw [Bool.and_eq_true, decide_eq_true_eq] at hs
      exact ⟨Nat.zero_le _, by omega, h.win j s hj hs.1 hs.2⟩
    · rw [sm_ext hS (fun s h1 _ => by simp [show ¬ s < slotsN l by omega, b01]), sm_congr (g := fun s => if σ j s = true then (1 : Int) else 0) (fun s hs => by simp [hs, b01])]
      exact h.cost j hj
  · rintro ⟨σ, h⟩
    refine ⟨σ, fun j s hj _ hs => (h.win j s hj hs).2.2, fun s hs => ?_, fun j hj => ?_⟩
    · by_cases e : s = 0
      · subst e; exact h.room0
      · exact h.room s (by omega)
    · have := h.cost j hj
      rw [← this]
      refine (sm_ext hS (fun s h1 _ => ?_)).symm
      cases e : σ j s
      · rfl
      · have h2 := (h.win j s hj e).2.2
        unfold winB at h2
        rw [decide_eq_true_eq] at h2
        have h3 := maxD_ge (l := l) (k := l.length) (j := j) hj
        unfold slotsN at h1; omega
end Go.Proofs.Ytobjcdbbdgloiaa
