/- Jobs of tasks that are released together: they have a schedule over the hyperperiod exactly if the demand fits. Plain Lean. Conditions: each theorem's own. -/
import Derived.Test.YtfoadipocpopiaaGreatM00
import Derived.Test.YtfoadipocpopiaaGreatJobs47
import Derived.Test.YtfoadipocpopiaaGreatSchedule
import Derived.Test.YtfoadipocpopiaaGreatM20
namespace Go.Proofs.YtfoadipocpopiaaGreat
theorem sm_win {r d w : Int} (h0 : 0 ≤ r) (h1 : r ≤ d) : ∀ S : Nat, sm S (fun s : Nat => if r ≤ (s : Int) ∧ (s : Int) < d then w else 0) = (min d S - min r S) * w
  | 0 => by
    have : min d ((0 : Nat) : Int) - min r ((0 : Nat) : Int) = 0 := by omega
    rw [this]; simp [sm]
  | S + 1 => by
    rw [sm, sm_win h0 h1 S]
    by_cases e : r ≤ (S : Int) ∧ (S : Int) < d
    · rw [if_pos e, show min d ((S + 1 : Nat) : Int) - min r ((S + 1 : Nat) : Int) = (min d S - min r S) + 1 by omega, Int.add_mul, Int.one_mul]
    · rw [if_neg e, show min d ((S + 1 : Nat) : Int) - min r ((S + 1 : Nat) : Int) = (min d S - min r S) by omega, Int.add_zero]
theorem sumJ_congr {l : List FJ} {f g : FJ → Int} (h : ∀ x ∈ l, f x = g x) : sumJ l f = sumJ l g :=
  sm_congr fun j hj => h _ (by
    unfold fjAt
    rw [List.getD_eq_getElem?_getD, List.getElem?_eq_getElem hj]
    exact List.getElem_mem hj)
def perR (p : Int) (q : Nat) : List Int := (List.range q).map fun k : Nat => (k : Int) * p
/-- The rows of releases of tasks that are released together. -/
def perRows (l : List TT) (H : Nat) (rs : List (List Int)) : Prop := rs.length = l.length ∧ ∀ i, i < l.length → rwAt rs i = perR (tp l i : Nat) (H / tp l i)
theorem perJ_of {t : TT} {p : Nat} {H q : Nat} (hp : t.p = (p : Int)) (hq : q * p ≤ H) : jobRow t (H : Int) (perR (p : Int) q) (perR (p : Int) q).length = perJ (p : Int) t.c q := by
  unfold jobRow perR perJ
  rw [List.take_length, List.filter_eq_self.2, List.map_map]
  · refine List.map_congr_left fun k _ => ?_
    simp only [Function.comp, hp]
  · intro x hx
    obtain ⟨k, hk, rfl⟩ := List.mem_map.1 hx
    have hk : k < q := by simpa using hk
    have h1 : (k + 1) * p ≤ q * p := Nat.mul_le_mul_right _ hk
    rw [Nat.add_mul, Nat.one_mul] at h1
    rw [hp]
    have h2 : ((k * p + p : Nat) : Int) ≤ ((q * p : Nat) : Int) := by omega
    rw [Int.natCast_add, Int.natCast_mul] at h2
    have h3 : ((q * p : Nat) : Int) ≤ (H : Int) := by omega
    exact decide_eq_true (by omega)
section
variable {l : List TT} {H : Nat} {rs : List (List Int)}
theorem jobs_per (hok : tsOK l = true) (hr : perRows l H rs) : ∀ i, i ≤ l.length → jobsTo l rs H i = (List.range i).flatMap fun i => perJ (tp l i : Nat) (tc l i : Nat) (H / tp l i)
  | 0, _ => rfl
  | i + 1, hi => by
    rw [jobsTo_succ, jobs_per hok hr i (by omega), List.range_succ, List.flatMap_append, List.flatMap_singleton, hr.2 i (by omega)]
    obtain ⟨_, _, _, t4, t5⟩ := tsOK_at hok (show i < l.length by omega)
    rw [perJ_of t5 (Nat.div_mul_le_self _ _), t4]
def perAll (l : List TT) (H : Nat) (i : Nat) : List FJ := (List.range i).flatMap fun i => perJ (tp l i : Nat) (tc l i : Nat) (H / tp l i)
theorem perAll_succ (l : List TT) (H i : Nat) : perAll l H (i + 1) = perAll l H i ++ perJ (tp l i : Nat) (tc l i : Nat) (H / tp l i) := by
  unfold perAll; rw [List.range_succ, List.flatMap_append, List.flatMap_singleton]
theorem perAll_mem (hd : ∀ i, i < l.length → tp l i ∣ H) {x : FJ} : ∀ i, i ≤ l.length → x ∈ perAll l H i → ∃ i', i' < l.length ∧ x.c = (tc l i' : Int) ∧ x.d - x.r = (tp l i' : Int) ∧ 0 ≤ x.r ∧ x.d ≤ (H : Int)
  | 0, _, h => by simp [perAll] at h
  | i + 1, hi, h => by
    rw [perAll_succ, List.mem_append] at h
    rcases h with h | h
    · exact perAll_mem hd i (by omega) h
    · obtain ⟨k, hk, rfl⟩ := List.mem_map.1 h
      have hk : k < H / tp l i := by simpa using hk
      refine ⟨i, by omega, rfl, by simp only; omega, Int.mul_nonneg (by omega) (by omega), ?_⟩
      have h1 : (k + 1) * tp l i ≤ H / tp l i * tp l i := Nat.mul_le_mul_right _ hk
      rw [Nat.div_mul_cancel (hd i (by omega)), Nat.add_mul, Nat.one_mul] at h1
      have h2 : ((k * tp l i + tp l i : Nat) : Int) ≤ (H : Int) := by omega
      rw [Int.natCast_add, Int.natCast_mul] at h2
      exact h2
theorem perAll_total : ∀ i, sumJ (perAll l H i) (fun x => x.c) = (dem l H i : Int)
  | 0 => rfl
  | i + 1 => by
    rw [perAll_succ, sumJ_app, perAll_total i, perJ_cost, dem, Int.natCast_add, Int.natCast_mul, Int.mul_comm (tc l i : Int)]
def wfJ (H : Nat) (x : FJ) : Int := x.c * ((H : Int) / (x.d - x.r))
theorem perAll_slot (hok : tsOK l = true) (s : Nat) : ∀ i, i ≤ l.length → sumJ (perAll l H i) (fun x => if x.r ≤ (s : Int) ∧ (s : Int) < x.d then wfJ H x else 0) ≤ (dem l H i : Int)
  | 0, _ => Int.le_refl _
  | i + 1, hi => by
    have ih := perAll_slot hok s i (by omega)
    obtain ⟨t1, t2, _⟩ := tsOK_at hok (show i < l.length by omega)
    rw [perAll_succ, sumJ_app]
    have e : sumJ (perJ (tp l i : Nat) (tc l i : Nat) (H / tp l i)) (fun x => if x.r ≤ (s : Int) ∧ (s : Int) < x.d then wfJ H x else 0) =
        sumJ (perJ (tp l i : Nat) (tc l i : Nat) (H / tp l i)) (fun x => if x.r ≤ (s : Int) ∧ (s : Int) < x.d then ((tc l i * (H / tp l i) : Nat) : Int) else 0) := sumJ_congr fun x hx => by
      obtain ⟨k, hk, rfl⟩ := List.mem_map.1 hx
      have : wfJ H ⟨(k : Int) * (tp l i : Nat), (k : Int) * (tp l i : Nat) + (tp l i : Nat), (tc l i : Nat)⟩ = ((tc l i * (H / tp l i) : Nat) : Int) := by
        unfold wfJ
        simp only
        rw [show ((k : Int) * ((tp l i : Nat) : Int) + ((tp l i : Nat) : Int) - (k : Int) * ((tp l i : Nat) : Int)) = ((tp l i : Nat) : Int) by omega, Int.natCast_mul, Int.natCast_ediv]
      rw [this]
    have h := (perJ_slot (p := (tp l i : Nat)) (c := (tc l i : Nat)) (W := ((tc l i * (H / tp l i) : Nat) : Int)) (by omega) (by omega) s (H / tp l i)).2.1
    rw [e, dem, Int.natCast_add]
    omega
theorem maxD_le {m : List FJ} {B : Int} (h0 : 0 ≤ B) (h : ∀ x ∈ m, x.d ≤ B) : ∀ k, k ≤ m.length → maxD m k ≤ B
  | 0, _ => h0
  | k + 1, hk => by
    have := maxD_le h0 h k (by omega)
    have := h _ (fjAt_mem (show k < m.length by omega))
    rw [maxD]; omega
theorem maxD_nn (m : List FJ) : ∀ k, 0 ≤ maxD m k
  | 0 => Int.le_refl _
  | k + 1 => by have := maxD_nn m k; rw [maxD]; omega
/-- No cut is below the sum of the costs. -/
theorem per_cut (hok : tsOK l = true) (hH : 0 < H) (hd : ∀ i, i < l.length → tp l i ∣ H) {cores : Int} (hf : (dem l H l.length : Int) ≤ cores * H) (T : Nat → Bool) (hT0 : T 0 = true)
    (ht : T (1 + (perAll l H l.length).length + slotsN (perAll l H l.length)) = false) :
    totalC (perAll l H l.length) ≤ cutV (netN (perAll l H l.length) (slotsN (perAll l H l.length))) (netF (perAll l H l.length) (slotsN (perAll l H l.length)) cores) T := by
  refine cut_fluid (H := (H : Int)) (fun j => wfJ H (fjAt (perAll l H l.length) j)) (by omega) (fun j hj => ?_) (fun j hj => ?_) (fun s _ => ?_) T hT0 ht
  · obtain ⟨i, hi, q1, q2, _, _⟩ := perAll_mem hd l.length (Nat.le_refl _) (fjAt_mem hj)
    obtain ⟨t1, t2, _⟩ := tsOK_at hok hi
    unfold wfJ
    rw [q1, q2, ← Int.natCast_ediv, ← Int.natCast_mul]
    have h1 : tc l i * (H / tp l i) ≤ tp l i * (H / tp l i) := Nat.mul_le_mul_right _ t2
    have h2 := Nat.mul_div_le H (tp l i)
    omega
  · obtain ⟨i, hi, q1, q2, q3, q4⟩ := perAll_mem hd l.length (Nat.le_refl _) (fjAt_mem hj)
    obtain ⟨t1, t2, _⟩ := tsOK_at hok hi
    have hmx := maxD_ge (l := perAll l H l.length) hj
    have hS : (fjAt (perAll l H l.length) j).d ≤ (slotsN (perAll l H l.length) : Int) := by unfold slotsN; have := maxD_nn (perAll l H l.length) (perAll l H l.length).length; omega
    have e : sm (slotsN (perAll l H l.length)) (fun s => if winB (perAll l H l.length) j s = true then wfJ H (fjAt (perAll l H l.length) j) else 0) =
        sm (slotsN (perAll l H l.length)) (fun s : Nat => if (fjAt (perAll l H l.length) j).r ≤ (s : Int) ∧ (s : Int) < (fjAt (perAll l H l.length) j).d then wfJ H (fjAt (perAll l H l.length) j) else 0) := sm_congr fun s _ => by
      unfold winB; simp only [decide_eq_true_eq]
    rw [e]
    generalize slotsN (perAll l H l.length) = S at *
    generalize fjAt (perAll l H l.length) j = x at *
    rw [sm_win q3 (by omega) S, show min x.d (S : Int) - min x.r (S : Int) = (tp l i : Int) by omega]
    unfold wfJ
    rw [q1, q2, ← Int.natCast_ediv, ← Int.natCast_mul, ← Int.natCast_mul, ← Int.natCast_mul]
    have h2 : tp l i * (H / tp l i) = H := Nat.mul_div_cancel' (hd i hi)
    have h3 : tp l i * (tc l i * (H / tp l i)) = tc l i * H := by rw [Nat.mul_left_comm, h2]
    omega
  · refine Int.le_trans ?_ hf
    have h := perAll_slot (H := H) hok s l.length (Nat.le_refl _)
    unfold sumJ at h
    refine Int.le_trans (Int.le_of_eq (sm_congr fun j _ => ?_)) h
    unfold winB; simp only [decide_eq_true_eq]
/-- If there is a schedule, the demand fits. -/
theorem per_can (hd : ∀ i, i < l.length → tp l i ∣ H) {cores : Int} (hc : 0 ≤ cores) (h : Can (perAll l H l.length) cores) : (dem l H l.length : Int) ≤ cores * H := by
  obtain ⟨σ, hσ⟩ := h
  have h1 : totalC (perAll l H l.length) = (dem l H l.length : Int) := perAll_total l.length
  have h2 : totalC (perAll l H l.length) = sm (slotsN (perAll l H l.length)) (fun s => sm (perAll l H l.length).length (fun j => if σ j s = true then 1 else 0)) := by
    rw [← sm_swap]
    exact sm_congr fun j hj => (hσ.cost j hj).symm
  have h3 : sm (slotsN (perAll l H l.length)) (fun s => sm (perAll l H l.length).length (fun j => if σ j s = true then 1 else 0)) ≤ cores * (slotsN (perAll l H l.length) : Int) := by
    rw [← sm_const]
    exact sm_le fun s hs => hσ.room s hs
  have h4 : maxD (perAll l H l.length) (perAll l H l.length).length ≤ (H : Int) := maxD_le (by omega) (fun x hx => by
    obtain ⟨_, _, _, _, _, q⟩ := perAll_mem hd l.length (Nat.le_refl _) hx
    exact q) _ (Nat.le_refl _)
  have h5 : (slotsN (perAll l H l.length) : Int) ≤ (H : Int) := by unfold slotsN; omega
  have h6 := Int.mul_le_mul_of_nonneg_left h5 hc
  omega
theorem per_ok (hok : tsOK l = true) (hd : ∀ i, i < l.length → tp l i ∣ H) (hH : 0 < H) (hH2 : H ≤ 200) {cores : Int} (h1 : 1 ≤ cores) (h4 : cores ≤ 4) (hn : (perAll l H l.length).length ≤ 100) : jobsOK (perAll l H l.length) cores = true := by
  unfold jobsOK
  rw [Bool.and_eq_true, decide_eq_true_eq, List.all_eq_true]
  refine ⟨⟨hn, h1, h4⟩, fun j hj => decide_eq_true ?_⟩
  have hj : j < (perAll l H l.length).length := by simpa using hj
  obtain ⟨i, hi, q1, q2, q3, q4⟩ := perAll_mem hd l.length (Nat.le_refl _) (fjAt_mem hj)
  obtain ⟨t1, t2, _⟩ := tsOK_at hok hi
  have := Nat.le_of_dvd hH (hd i hi)
  unfold jobOK
  omega
end
end Go.Proofs.YtfoadipocpopiaaGreat
