/- What a witness counts, and what a schedule counts: plain Lean. Conditions: each theorem's own. -/
import Derived.Test.YtobjcdbbdgloiaaWitness
namespace Go.Proofs.Ytobjcdbbdgloiaa

theorem Lev.sub {n s : Nat} {r : Nat → Nat → Int} {lv lv' : Nat → Int} (h : Lev n r s lv) (h' : Lev n r s lv') : ∀ (k v : Nat), v < n → 0 ≤ lv v → (lv v).toNat = k → 0 ≤ lv' v := by
  intro k
  induction k with
  | zero =>
    intro v hv h0 hk
    rcases h.par v hv h0 with rfl | ⟨u, hu, hu0, hl, _⟩
    · rw [h'.src0]; exact Int.le_refl _
    · omega
  | succ k ih =>
    intro v hv h0 hk
    rcases h.par v hv h0 with rfl | ⟨u, hu, hu0, hl, hp⟩
    · rw [h'.src0]; exact Int.le_refl _
    · exact h'.cls u v hu hv (ih u hu hu0 (by omega)) hp
theorem pick_mem {f : Nat → Bool} {k x : Nat} : x ∈ pick f k ↔ x < k ∧ f x = true := by simp [pick]
theorem pick_sorted (f : Nat → Bool) (k : Nat) : (pick f k).Pairwise (· < ·) := List.pairwise_lt_range.filter _
/-- A sum over a list. -/
def sl (f : Nat → Int) (q : List Nat) (i : Nat) : Int := sm i fun j => f (q.getD j 0)
theorem sl_pick (f : Nat → Int) (g : Nat → Bool) : ∀ k, sl f (pick g k) (pick g k).length = sm k fun j => if g j = true then f j else 0
  | 0 => rfl
  | k + 1 => by
    have ih := sl_pick f g k
    rw [sm, ← ih]
    cases hg : g k
    · rw [pick_no hg]; simp
    · rw [pick_yes hg]
      unfold sl
      rw [List.length_append, List.length_cons, List.length_nil, Nat.zero_add, sm]
      rw [sm_congr (f := fun j => f ((pick g k ++ [k]).getD j 0)) (g := fun j => f ((pick g k).getD j 0)) (fun i hi => by rw [List.getD_eq_getElem?_getD, List.getD_eq_getElem?_getD, List.getElem?_append_left hi])]
      simp
/-- The slots from R to D that are not in a list. -/
def winN (R D : Nat) (q : List Nat) : Int := sm (D - R) fun i => if R + i ∈ q then 0 else 1
theorem winN_eq {R D S : Nat} {q : List Nat} (hRD : R ≤ D) (hD : D ≤ S) : winN R D q = sm S fun s => if s ∉ q ∧ R ≤ s ∧ s < D then 1 else 0 := by
  rw [sm_ext (f := fun s => if s ∉ q ∧ R ≤ s ∧ s < D then (1 : Int) else 0) hD (fun i h1 h2 => if_neg (by omega))]
  rw [show D = R + (D - R) by omega, sm_split, sm_congr (n := R) (f := fun s => if s ∉ q ∧ R ≤ s ∧ s < R + (D - R) then (1 : Int) else 0) (g := fun _ => 0) (fun i hi => if_neg (by omega)), sm_zero]
  unfold winN
  rw [show R + (D - R) - R = D - R by omega, Int.zero_add]
  exact sm_congr fun i hi => by
    by_cases e : R + i ∈ q
    · rw [if_pos e, if_neg (fun h => h.1 e)]
    · rw [if_neg e, if_pos ⟨e, by omega, by omega⟩]
theorem winN_bd (R D : Nat) (q : List Nat) : 0 ≤ winN R D q ∧ winN R D q ≤ (D - R : Nat) := by
  have h1 := sm_nonneg (n := D - R) (f := fun i => if R + i ∈ q then (0 : Int) else 1) (fun i _ => by show 0 ≤ (if _ then (0 : Int) else 1); split <;> omega)
  have h2 := sm_le (n := D - R) (f := fun i => if R + i ∈ q then (0 : Int) else 1) (g := fun _ => 1) (fun i _ => by show (if _ then (0 : Int) else 1) ≤ 1; split <;> omega)
  rw [sm_const] at h2
  unfold winN; omega
/-- The demand of the witness exceeds what is there. -/
theorem wit_more {l : List FJ} {cores val : Int} {r : Nat → Nat → Int} {lv : Nat → Int} (hl : jobsOK l cores = true) (hL : Lev (netN l (slotsN l)) r 0 lv)
    (hs : Sat (netN l (slotsN l)) (netF l (slotsN l) cores) 0 (1 + l.length + slotsN l) val r) (hv : val ≠ totalC l) {p q : List Nat} (hp : p = pick (fun j => decide (0 ≤ lv (1 + j))) l.length) (hq : q = pick (fun s => decide (0 ≤ lv (1 + l.length + s))) (slotsN l)) :
    cores * (q.length : Int) + sl (fun j => winN (fjAt l j).r.toNat (fjAt l j).d.toNat q) p p.length < sl (fun j => (fjAt l j).c) p p.length := by
  obtain ⟨_, hc1, _, hok⟩ := jobsOK_bd hl
  have h0n : 0 < netN l (slotsN l) := by unfold netN; omega
  have htn : 1 + l.length + slotsN l < netN l (slotsN l) := by unfold netN; omega
  have hT0 : decide (0 ≤ lv 0) = true := by simp [hL.src0]
  have hTt : decide (0 ≤ lv (1 + l.length + slotsN l)) = false := by
    obtain ⟨lv', hL', hneg⟩ := hs.lev
    refine decide_eq_false fun h => ?_
    have := hL.sub hL' _ _ htn h rfl
    omega
  have hcut := hs.res.cut_eq (S := fun v => decide (0 ≤ lv v)) h0n htn hT0 hTt (fun u v hu hv h1 h2 => by
    have h1 : 0 ≤ lv u := of_decide_eq_true h1
    have h2 : ¬ 0 ≤ lv v := of_decide_eq_false h2
    have := hs.res.nonneg u v hu hv
    by_cases e : 0 < r u v
    · exact absurd (hL.cls u v hu hv h1 e) h2
    · omega)
  rw [cut_net (fun v => decide (0 ≤ lv v)) hT0 hTt] at hcut
  have hle := net_le hs.res
  have e1 : totalC l = sm l.length (fun j => if decide (0 ≤ lv (1 + j)) = true then 0 else (fjAt l j).c) + sm l.length (fun j => if decide (0 ≤ lv (1 + j)) = true then (fjAt l j).c else 0) := by
    unfold totalC
    rw [← sm_add]
    exact sm_congr fun j _ => by split <;> omega
  have e2 : cores * (q.length : Int) = sm (slotsN l) (fun s => if decide (0 ≤ lv (1 + l.length + s)) = true then cores else 0) := by
    have h := sl_pick (fun _ => cores) (fun s => decide (0 ≤ lv (1 + l.length + s))) (slotsN l)
    rw [← h, ← hq]
    unfold sl
    rw [sm_const]
  have e3 : sl (fun j => winN (fjAt l j).r.toNat (fjAt l j).d.toNat q) p p.length = sm l.length (fun j => if decide (0 ≤ lv (1 + j)) = true then sm (slotsN l) (fun s => if decide (0 ≤ lv (1 + l.length + s)) = false ∧ winB l j s = true then 1 else 0) else 0) := by
    rw [hp, sl_pick]
    refine sm_congr fun j hj => ?_
    split
    · obtain ⟨o1, o2, o3, _, _⟩ := hok j hj
      have hd : (fjAt l j).d.toNat ≤ slotsN l := by
        have := maxD_ge (l := l) (k := l.length) hj
        unfold slotsN; omega
      rw [winN_eq (by omega) hd]
      refine sm_congr fun s hs => ?_
      have hmem : s ∈ q ↔ decide (0 ≤ lv (1 + l.length + s)) = true := by rw [hq, pick_mem]; simp [hs]
      have hwin : winB l j s = true ↔ ((fjAt l j).r.toNat ≤ s ∧ s < (fjAt l j).d.toNat) := by unfold winB; rw [decide_eq_true_eq]; omega
      by_cases a : decide (0 ≤ lv (1 + l.length + s)) = true
      · rw [if_neg (fun h => h.1 (hmem.2 a)), if_neg (fun h => by rw [a] at h; cases h.1)]
      · have a' : decide (0 ≤ lv (1 + l.length + s)) = false := by simpa using a
        by_cases b : winB l j s = true
        · rw [if_pos ⟨fun h => a (hmem.1 h), hwin.1 b⟩, if_pos ⟨a', b⟩]
        · rw [if_neg (fun h => b (hwin.2 h.2)), if_neg (fun h => b h.2)]
    · rfl
  have e4 : sl (fun j => (fjAt l j).c) p p.length = sm l.length (fun j => if decide (0 ≤ lv (1 + j)) = true then (fjAt l j).c else 0) := by rw [hp, sl_pick]
  rw [e2, e3, e4]
  omega
/-! ### What a schedule counts -/
def dnV (l : List FJ) (σ : Nat → Nat → Bool) (t i x : Nat) : Int := sm t (fun s => if σ x s = true then 1 else 0) + if x ∈ (runs l σ t).take i then 1 else 0
theorem dnV_zero (l : List FJ) (σ : Nat → Nat → Bool) (x : Nat) : dnV l σ 0 0 x = 0 := by simp [dnV, sm]
theorem runs_get {l : List FJ} {σ : Nat → Nat → Bool} {t i : Nat} (hi : i < (runs l σ t).length) : (runs l σ t).getD i 0 < l.length ∧ σ ((runs l σ t).getD i 0) t = true := by
  have h : (runs l σ t).getD i 0 ∈ runs l σ t := by
    rw [List.getD_eq_getElem?_getD, List.getElem?_eq_getElem hi]; exact List.getElem_mem hi
  exact pick_mem.1 h
theorem pick_lt {f : Nat → Bool} {k i j : Nat} (hij : i < j) (hj : j < (pick f k).length) : (pick f k).getD i 0 < (pick f k).getD j 0 := by
  have h := List.pairwise_iff_getElem.1 (pick_sorted f k) i j (by omega) hj hij
  rw [List.getD_eq_getElem?_getD, List.getD_eq_getElem?_getD, List.getElem?_eq_getElem hj, List.getElem?_eq_getElem (show i < (pick f k).length by omega)]
  exact h
theorem dnV_step {l : List FJ} {σ : Nat → Nat → Bool} {t i : Nat} (hi : i < (runs l σ t).length) (x : Nat) : dnV l σ t (i + 1) x = if x = (runs l σ t).getD i 0 then dnV l σ t i x + 1 else dnV l σ t i x := by
  have hg : (runs l σ t).take (i + 1) = (runs l σ t).take i ++ [(runs l σ t).getD i 0] := by
    rw [List.take_succ_eq_append_getElem hi, List.getD_eq_getElem?_getD, List.getElem?_eq_getElem hi]; rfl
  unfold dnV
  rw [hg]
  by_cases e : x = (runs l σ t).getD i 0
  · subst e
    have hno : (runs l σ t).getD i 0 ∉ (runs l σ t).take i := fun h => by
      obtain ⟨j, hj, e⟩ := List.mem_iff_getElem.1 h
      rw [List.length_take] at hj
      rw [List.getElem_take] at e
      have := pick_lt (f := fun j => σ j t) (k := l.length) (i := j) (j := i) (by omega) hi
      have e2 : (runs l σ t).getD j 0 = (runs l σ t).getD i 0 := by
        rw [← e, List.getD_eq_getElem?_getD, List.getElem?_eq_getElem (show j < (runs l σ t).length by omega)]; rfl
      unfold runs at e2
      omega
    rw [if_pos rfl, if_neg hno, if_pos (by simp)]; omega
  · rw [if_neg e]
    congr 1
    by_cases h : x ∈ (runs l σ t).take i
    · rw [if_pos h, if_pos (by simp [h])]
    · rw [if_neg h, if_neg (by simp only [List.mem_append, List.mem_singleton]; rintro (h2 | h2); exact h h2; exact e h2)]
theorem dnV_row {l : List FJ} {σ : Nat → Nat → Bool} {t x : Nat} (hx : x < l.length) : dnV l σ t (runs l σ t).length x = dnV l σ (t + 1) 0 x := by
  unfold dnV
  rw [List.take_length, sm, List.take_zero, if_neg (by simp : ¬ x ∈ ([] : List Nat)), Int.add_zero]
  congr 1
  by_cases h : σ x t = true
  · rw [if_pos h, if_pos (show x ∈ runs l σ t from pick_mem.2 ⟨hx, h⟩)]
  · rw [if_neg h, if_neg (show ¬ x ∈ runs l σ t from fun h2 => h (pick_mem.1 h2).2)]
theorem dnV_end {l : List FJ} {S : Nat} {cores : Int} {σ : Nat → Nat → Bool} (h : Sched l S cores σ) {x : Nat} (hx : x < l.length) : dnV l σ S 0 x = (fjAt l x).c := by
  unfold dnV
  rw [List.take_zero, if_neg (by simp : ¬ x ∈ ([] : List Nat)), Int.add_zero]
  exact h.cost x hx
theorem dnV_bd (l : List FJ) (σ : Nat → Nat → Bool) (t i x : Nat) : 0 ≤ dnV l σ t i x ∧ dnV l σ t i x ≤ (t : Int) + 1 := by
  have h1 := sm_nonneg (n := t) (f := fun s => if σ x s = true then (1 : Int) else 0) (fun i _ => by show 0 ≤ (if _ then (1 : Int) else 0); split <;> omega)
  have h2 := sm_le (n := t) (f := fun s => if σ x s = true then (1 : Int) else 0) (g := fun _ => 1) (fun i _ => by show (if _ then (1 : Int) else 0) ≤ 1; split <;> omega)
  rw [sm_const] at h2
  unfold dnV
  split <;> omega
theorem runs_len {l : List FJ} {S : Nat} {cores : Int} {σ : Nat → Nat → Bool} (h : Sched l S cores σ) {t : Nat} (ht : t < S) : ((runs l σ t).length : Int) ≤ cores := by
  have h1 := sl_pick (fun _ => 1) (fun j => σ j t) l.length
  have h2 := h.room t ht
  rw [← h1] at h2
  unfold sl at h2
  rw [sm_const, Int.one_mul] at h2
  exact h2
end Go.Proofs.Ytobjcdbbdgloiaa
