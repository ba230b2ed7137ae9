/- The simulation of slots: bounds of what is reached, the choice is determined, and the sorted candidates give it. Plain Lean. Conditions: each theorem's own. -/
import Derived.Test.YtfoadipocpopiaaGreatSlSort
namespace Go.Proofs.YtfoadipocpopiaaGreat
/-! ### Bounds -/
theorem begJ_bd {p : Int} {r : List Int} {t : Nat} {c : Int} {j : JS} (h : 0 ≤ j.rl ∧ j.rl ≤ t ∧ 0 ≤ j.dn ∧ j.dn ≤ c ∧ j.nx ≤ r.length) (hc : 0 ≤ c) :
    0 ≤ (begJ p r t j).rl ∧ (begJ p r t j).rl ≤ t ∧ 0 ≤ (begJ p r t j).dn ∧ (begJ p r t j).dn ≤ c ∧ (begJ p r t j).nx ≤ r.length := by
  obtain ⟨lv, rl, dn, nx⟩ := j
  obtain ⟨h1, h2, h3, h4, h5⟩ := h
  simp only at h1 h2 h3 h4 h5
  rw [begJ_eq]
  have e : begJ1 p t ⟨lv, rl, dn, nx⟩ = ⟨false, rl, dn, nx⟩ ∨ begJ1 p t ⟨lv, rl, dn, nx⟩ = ⟨lv, rl, dn, nx⟩ := by
    unfold begJ1; split
    · exact .inl rfl
    · exact .inr rfl
  rcases e with e | e <;> rw [e] <;> simp only <;> split
  all_goals (try rename_i hq)
  all_goals simp only
  all_goals omega
/-- The bounds of a job before a slot. -/
def BdJ (l : List TT) (rs : List (List Int)) (t : Nat) (js : Nat → JS) : Prop := ∀ i, i < l.length → 0 ≤ (js i).rl ∧ (js i).rl ≤ t ∧ 0 ≤ (js i).dn ∧ (js i).dn ≤ tc l i ∧ (js i).nx ≤ (rwAt rs i).length
theorem BdJ.beg {l : List TT} {rs : List (List Int)} {t : Nat} {js : Nat → JS} (h : BdJ l rs t js) : BdJ l rs t (begS (tp l) (rwAt rs) t js) := fun i hi =>
  begJ_bd (h i hi) (by omega)
theorem BdJ.wf {l : List TT} {rs : List (List Int)} {t : Nat} {js : Nat → JS} (h : BdJ l rs t js) (hok : tsOK l = true) : WfJ rs l.length t js := fun i hi => by
  obtain ⟨h1, h2, h3, h4, h5⟩ := h i hi
  obtain ⟨t1, t2, t3, _⟩ := tsOK_at hok hi
  exact ⟨h1, h2, h3, by omega, h5⟩
theorem BdJ.run {l : List TT} {rs : List (List Int)} {t : Nat} {js : Nat → JS} {ch : List Nat} (h : BdJ l rs t js) (hs : ∀ i ∈ ch, i < l.length ∧ candJ (tc l i) (tp l i) t (js i) = true) : BdJ l rs (t + 1) (runJ js ch) := fun i hi => by
  obtain ⟨h1, h2, h3, h4, h5⟩ := h i hi
  unfold runJ
  by_cases hc : i ∈ ch
  · rw [if_pos hc]
    have h2' := (hs i hc).2
    unfold candJ at h2'
    simp only [Bool.and_eq_true, decide_eq_true_eq] at h2'
    have := h2'.1.2
    exact ⟨h1, by simp only; omega, by simp only; omega, by simp only; omega, h5⟩
  · rw [if_neg hc]
    exact ⟨h1, by omega, h3, h4, h5⟩
theorem missN_le (n : Nat) (c p : Nat → Nat) (s : Nat) (js : Nat → JS) : missN n c p s js ≤ n := missI_le c p s js n
theorem ReachS.bd {l : List TT} {rs : List (List Int)} {cores t m : Nat} {js : Nat → JS} (h : ReachS l.length cores (tc l) (tp l) (rwAt rs) t js m) : BdJ l rs t js ∧ m ≤ l.length * t := by
  induction h with
  | zero => exact ⟨fun i _ => ⟨by simp, by simp, by simp, by simp, by simp⟩, by simp⟩
  | @step t js m ch hr hp ih =>
    refine ⟨ih.1.beg.run hp.sub, ?_⟩
    have := missN_le l.length (tc l) (tp l) t js
    rw [Nat.mul_add]
    omega
/-! ### The sorted candidates give the choice -/
theorem candsL_mem {l : List TT} {s : Nat} {js : Nat → JS} {k : Nat} {x : CD} : x ∈ candsL l s js k ↔ ∃ i, i < k ∧ candJ (tc l i) (tp l i) s (js i) = true ∧ cdOf l js i = x := by
  unfold candsL
  simp only [List.mem_map, List.mem_filter, List.mem_range, and_assoc]
theorem candsL_nums (l : List TT) (s : Nat) (js : Nat → JS) (k : Nat) : NumsC (candsL l s js k) := by
  unfold NumsC candsL
  rw [List.map_map]
  have e : CD.num ∘ cdOf l js = id := by funext i; rfl
  rw [e, List.map_id]
  exact List.nodup_range.filter _
theorem cand_ok {l : List TT} {rs : List (List Int)} {s : Nat} {js : Nat → JS} (hok : tsOK l = true) (hb : BdJ l rs s js) (hs : s ≤ 100000) {x : CD} (hx : x ∈ candsL l s js l.length) : CDok x := by
  obtain ⟨i, hi, hc, rfl⟩ := candsL_mem.1 hx
  obtain ⟨h1, h2, h3, h4, h5⟩ := hb i hi
  obtain ⟨t1, t2, t3, _⟩ := tsOK_at hok hi
  unfold candJ at hc
  simp only [Bool.and_eq_true, decide_eq_true_eq] at hc
  have hd := hc.1.2
  exact ⟨wE_ok (by unfold vtB; exact decide_eq_true (by simp only [cdOf]; omega)) (by simp only [cdOf]; omega) (by simp only [cdOf]; omega), h1, by simp only [cdOf]; omega⟩
theorem pick_of {l : List TT} {s cores : Nat} {js : Nat → JS} {L : List CD} (hp : L.Perm (candsL l s js l.length)) (hs : SortedC L) :
    PickL l.length cores (bef2 (tc l) (tp l) js) (fun i => candJ (tc l i) (tp l i) s (js i)) ((L.take cores).map CD.num) := by
  have hnd : (L.map CD.num).Nodup := (hp.map CD.num).nodup_iff.2 (candsL_nums l s js l.length)
  have hmem : ∀ x, x ∈ L → ∃ i, i < l.length ∧ candJ (tc l i) (tp l i) s (js i) = true ∧ cdOf l js i = x := fun x hx => candsL_mem.1 (hp.mem_iff.1 hx)
  refine ⟨?_, fun i hi => ?_, by simp; omega, fun i hi hc hn => ?_⟩
  · rw [List.map_take]
    exact hnd.sublist (List.take_sublist ..)
  · obtain ⟨x, hx, rfl⟩ := List.mem_map.1 hi
    obtain ⟨i, h1, h2, rfl⟩ := hmem x (List.mem_of_mem_take hx)
    exact ⟨h1, h2⟩
  · have hx : cdOf l js i ∈ L := hp.mem_iff.2 (candsL_mem.2 ⟨i, hi, hc, rfl⟩)
    have hx2 : cdOf l js i ∈ L.drop cores := by
      rw [← List.take_append_drop cores L] at hx
      rcases List.mem_append.1 hx with h | h
      · exact absurd (List.mem_map.2 ⟨_, h, rfl⟩) hn
      · exact h
    constructor
    · have : 0 < (L.drop cores).length := List.length_pos_of_mem hx2
      simp at this ⊢
      omega
    · intro k hk
      obtain ⟨y, hy, rfl⟩ := List.mem_map.1 hk
      obtain ⟨k, h1, h2, rfl⟩ := hmem y (List.mem_of_mem_take hy)
      unfold SortedC at hs
      rw [← List.take_append_drop cores L, List.pairwise_append] at hs
      exact hs.2.2 _ hy _ hx2
/-! ### The choice is determined -/
/-- A list without a repetition is no longer than one that holds all of it. -/
theorem nodup_len : ∀ {A B : List Nat}, A.Nodup → (∀ x ∈ A, x ∈ B) → A.length ≤ B.length
  | [], _, _, _ => Nat.zero_le _
  | x :: A, B, hA, hs => by
    obtain ⟨h1, h2⟩ := List.nodup_cons.1 hA
    have hx := hs x (List.mem_cons_self ..)
    have ih := nodup_len (A := A) (B := B.erase x) h2 fun y hy => (List.mem_erase_of_ne (fun e => h1 (by rw [← e]; exact hy))).2 (hs y (List.mem_cons_of_mem _ hy))
    rw [List.length_erase_of_mem hx] at ih
    have := List.length_pos_of_mem hx
    rw [List.length_cons]
    omega
theorem PickL.iff {n cores : Nat} {lt : Nat → Nat → Bool} {cand : Nat → Bool} {ch : List Nat} (h : PickL n cores lt cand ch) (has : ∀ i k, i < n → k < n → lt i k = true → lt k i = false) {i : Nat} (hi : i < n) :
    i ∈ ch ↔ cand i = true ∧ (List.range n).countP (fun k => cand k && lt k i) < cores := by
  have hfil : ((List.range n).filter fun k => cand k && lt k i).length = (List.range n).countP (fun k => cand k && lt k i) := by rw [List.countP_eq_length_filter]
  have hndf : ((List.range n).filter fun k => cand k && lt k i).Nodup := List.nodup_range.filter _
  have hmf : ∀ k, k ∈ ((List.range n).filter fun k => cand k && lt k i) ↔ (k < n ∧ cand k = true ∧ lt k i = true) := fun k => by simp [List.mem_filter]
  constructor
  · intro hm
    refine ⟨(h.sub i hm).2, ?_⟩
    rw [← hfil]
    have hsub : ∀ k ∈ i :: ((List.range n).filter fun k => cand k && lt k i), k ∈ ch := fun k hk => by
      rcases List.mem_cons.1 hk with rfl | hk
      · exact hm
      · obtain ⟨q1, q2, q3⟩ := (hmf k).1 hk
        by_cases hkc : k ∈ ch
        · exact hkc
        · have := (h.full k q1 q2 hkc).2 i hm
          rw [has k i q1 hi q3] at this; cases this
    have hnd2 : (i :: ((List.range n).filter fun k => cand k && lt k i)).Nodup := List.nodup_cons.2 ⟨fun hk => by
      obtain ⟨q1, q2, q3⟩ := (hmf i).1 hk
      have := has i i hi hi q3
      rw [q3] at this
      exact Bool.noConfusion this, hndf⟩
    have hle := nodup_len hnd2 hsub
    rw [List.length_cons] at hle
    have := h.le
    omega
  · rintro ⟨hc, hlt⟩
    by_cases hm : i ∈ ch
    · exact hm
    · exfalso
      obtain ⟨f1, f2⟩ := h.full i hi hc hm
      have hsub : ∀ k ∈ ch, k ∈ ((List.range n).filter fun k => cand k && lt k i) := fun k hk => (hmf k).2 ⟨(h.sub k hk).1, (h.sub k hk).2, f2 k hk⟩
      have hle := nodup_len h.nd hsub
      omega
theorem bef2_as (c p : Nat → Nat) (js : Nat → JS) (i k : Nat) (h : bef2 c p js i k = true) : bef2 c p js k i = false := by
  by_cases e : i = k
  · subst e
    unfold bef2 at h
    rw [bf_irr] at h; cases h
  · have := bf_tot (n1 := (i : Int)) (n2 := (k : Int)) (c1 := c i) (p1 := p i) (r1 := (js i).rl) (i1 := (js i).dn + 1) (c2 := c k) (p2 := p k) (r2 := (js k).rl) (i2 := (js k).dn + 1) (by omega)
    unfold bef2 at h ⊢
    rw [h] at this
    generalize bfB k (c k) (p k) (js k).rl ((js k).dn + 1) i (c i) (p i) (js i).rl ((js i).dn + 1) = b at *
    cases b with
    | false => rfl
    | true => cases this
/-- The simulation as a function of lists. -/
def nthJ (l : List JS) (i : Nat) : JS := l.getD i ⟨false, 0, 0, 0⟩
def simStep (n cores : Nat) (c p : Nat → Nat) (r : Nat → List Int) (t : Nat) (l : List JS) : List JS :=
  let b := (List.range n).map fun i => begJ (p i) (r i) t (nthJ l i)
  (List.range n).map fun i =>
    if candJ (c i) (p i) t (nthJ b i) = true ∧ (List.range n).countP (fun k => candJ (c k) (p k) t (nthJ b k) && bef2 c p (nthJ b) k i) < cores then
      ⟨(nthJ b i).lv, (nthJ b i).rl, (nthJ b i).dn + 1, (nthJ b i).nx⟩ else nthJ b i
def simL (n cores : Nat) (c p : Nat → Nat) (r : Nat → List Int) : Nat → List JS × Nat
  | 0 => ((List.range n).map fun _ => ⟨false, 0, 0, 0⟩, 0)
  | t + 1 => let s := simL n cores c p r t
    (simStep n cores c p r t s.1, s.2 + missN n c p t (nthJ s.1))
theorem nthJ_map {n i : Nat} {f : Nat → JS} (hi : i < n) : nthJ ((List.range n).map f) i = f i := by
  unfold nthJ
  rw [List.getD_eq_getElem?_getD, List.getElem?_map, List.getElem?_range hi]; rfl
theorem missN_congr {n : Nat} {c p : Nat → Nat} {t : Nat} {js js' : Nat → JS} (h : ∀ i, i < n → js i = js' i) : missN n c p t js = missN n c p t js' := by
  unfold missN
  exact List.countP_congr fun i hi => by rw [h i (by simpa using hi)]
theorem ReachS.sim {n cores : Nat} {c p : Nat → Nat} {r : Nat → List Int} {t m : Nat} {js : Nat → JS} (h : ReachS n cores c p r t js m) : m = (simL n cores c p r t).2 ∧ ∀ i, i < n → js i = nthJ (simL n cores c p r t).1 i := by
  induction h with
  | zero => exact ⟨rfl, fun i hi => (nthJ_map (f := fun _ => ⟨false, 0, 0, 0⟩) hi).symm⟩
  | @step t js m ch hr hp ih =>
    obtain ⟨hm, hj⟩ := ih
    refine ⟨by rw [simL, hm, missN_congr hj], fun i hi => ?_⟩
    have hb : ∀ i, i < n → nthJ ((List.range n).map fun i => begJ (p i) (r i) t (nthJ (simL n cores c p r t).1 i)) i = begS p r t js i := fun i hi => by
      rw [nthJ_map hi, ← hj i hi]; rfl
    have hpi := hp.iff (fun i k _ _ => bef2_as c p _ i k) hi
    rw [simL]
    simp only [simStep]
    rw [nthJ_map hi]
    simp only [hb i hi]
    have hcnt : (List.range n).countP (fun k => candJ (c k) (p k) t (nthJ ((List.range n).map fun i => begJ (p i) (r i) t (nthJ (simL n cores c p r t).1 i)) k) && bef2 c p (nthJ ((List.range n).map fun i => begJ (p i) (r i) t (nthJ (simL n cores c p r t).1 i))) k i) =
        (List.range n).countP (fun k => candJ (c k) (p k) t (begS p r t js k) && bef2 c p (begS p r t js) k i) := List.countP_congr fun k hk => by
      have hk : k < n := by simpa using hk
      unfold bef2
      rw [hb k hk, hb i hi]
    rw [hcnt]
    unfold runJ
    by_cases hc : i ∈ ch
    · rw [if_pos hc, if_pos (hpi.1 hc)]
    · rw [if_neg hc, if_neg (fun q => hc (hpi.2 q))]
end Go.Proofs.YtfoadipocpopiaaGreat
