/- Windows of spaced releases; the analysis is exact without sections. Conditions: the environment's. -/
import Derived.Test.YtkedcnemldjbeaaSimW
namespace Go.Proofs.Ytkedcnemldjbeaa

section
variable {E : Env}

theorem spaced_far {P : Int} {l : List Int} (hs : ∀ (k : Nat) (x y : Int), l[k]? = some x → l[k + 1]? = some y → x + P ≤ y) {k : Nat} : ∀ {d : Nat} {x y : Int}, l[k]? = some x → l[k + d]? = some y → x + d * P ≤ y
  | 0, x, y, hx, hy => by
    rw [Nat.add_zero, hx] at hy
    simp at hy; subst hy; simp
  | d + 1, x, y, hx, hy => by
    have hlt : k + d < l.length := by
      have := (List.getElem?_eq_some_iff.1 hy).1; omega
    have hz := List.getElem?_eq_getElem hlt
    have h1 := spaced_far hs hx hz
    have h2 := hs (k + d) _ _ hz hy
    have : ((d + 1 : Nat) : Int) * P = d * P + P := by
      rw [show ((d + 1 : Nat) : Int) = (d : Int) + 1 by omega, Int.add_mul]; omega
    omega
theorem count_le {P w t0 : Int} {l : List Int} (hP : 1 ≤ P) (hw : 1 ≤ w) (hs : ∀ (k : Nat) (x y : Int), l[k]? = some x → l[k + 1]? = some y → x + P ≤ y) {N N' : Nat} (hN : N ≤ N') (hl : N' ≤ l.length)
    (h : ∀ k x, N ≤ k → k < N' → l[k]? = some x → t0 ≤ x ∧ x < t0 + w) : (N' : Int) - N ≤ (w + P - 1) / P := by
  by_cases e : N' ≤ N
  · have : 0 ≤ (w + P - 1) / P := Int.ediv_nonneg (by omega) (by omega)
    omega
  · obtain ⟨d, rfl⟩ : ∃ d, N' = N + d + 1 := ⟨N' - N - 1, by omega⟩
    have h0 := List.getElem?_eq_getElem (l := l) (i := N) (by omega)
    have h1 := List.getElem?_eq_getElem (l := l) (i := N + d) (by omega)
    have a := h N _ (Nat.le_refl _) (by omega) h0
    have b := h (N + d) _ (by omega) (by omega) h1
    have c := spaced_far hs h0 h1
    have : ((d : Int) + 1) ≤ (w + P - 1) / P := by
      rw [Int.le_ediv_iff_mul_le (by omega), Int.add_mul]
      omega
    omega

theorem fit_of {L : Nat → Int} {i : Nat} {r : Int} (per : Nat → Int) (hE : EnvOK E) (hi : i < E.n) (hp : ∀ j, j ≤ i → 1 ≤ per j) (hs : ∀ j, j ≤ i → ∀ (k : Nat) (x y : Int), (E.rel j)[k]? = some x → (E.rel j)[k + 1]? = some y → x + per j ≤ y)
    (hr : 1 ≤ r) (hri : r ≤ per i) (hsum : sumN i (fun j => E.cost j * ((r + per j - 1) / per j)) + E.cost i ≤ r - L i) : Fit E L i r := by
  intro N N' t0 h
  have key : ∀ j, j ≤ i → ((N' j : Int) - N j) ≤ (r + per j - 1) / per j := fun j hj => by
    obtain ⟨h1, h2, h3⟩ := h j hj
    exact count_le (hp j hj) hr (hs j hj) h1 h2 h3
  have h1 : sumN i (fun j => E.cost j * ((N' j : Int) - N j)) ≤ sumN i (fun j => E.cost j * ((r + per j - 1) / per j)) := sumN_le fun j hj => by
    have := hE.cost j (by omega)
    exact Int.mul_le_mul_of_nonneg_left (key j (by omega)) (by omega)
  have h2 : ((N' i : Int) - N i) ≤ 1 := by
    have a := key i (Nat.le_refl _)
    have b : (r + per i - 1) / per i ≤ 1 := by
      have := Int.ediv_lt_of_lt_mul (a := r + per i - 1) (b := 2) (c := per i) (by omega) (by omega)
      omega
    omega
  have h3 : E.cost i * ((N' i : Int) - N i) ≤ E.cost i * 1 := Int.mul_le_mul_of_nonneg_left h2 (by have := hE.cost i hi; omega)
  unfold relw
  rw [sumN]
  omega

/-- Without sections the first job of task i, all released from a on, ends when the work released before is done. -/
structure XInv (E : Env) (i : Nat) (a now : Int) (s : Sim) : Prop where
  A : cnt i s.en = 0 → a ≤ now → rmw E s i = relw E (fun _ => 0) s.nx i - (now - a)
  B : ∀ j ∈ s.en, j.tk = i → j.rel = a → ∃ M : Nat → Nat, (∀ j', j' < i → (∀ k x, k < M j' → (E.rel j')[k]? = some x → x < j.en) ∧ (∀ k x, M j' ≤ k → (E.rel j')[k]? = some x → j.en ≤ x) ∧ M j' ≤ (E.rel j').length) ∧
    sumN i (fun j' => E.cost j' * (M j' : Int)) + E.cost i = j.en - a

theorem no_hold {s : Sim} (hact : ∀ (i : Nat) (d : Int), i < E.n → E.act i d = ((i : Int), false)) (hh : ∀ i p r, i < E.n → s.wt i = p :: r → hdOK E i p ∧ ∀ q ∈ r, fresh i q) {i k : Nat} {q : Pd} : ¬ isB E s i k q := fun h => by
  obtain ⟨a1, _⟩ := isB_act hh h
  rw [hact k _ h.2.1] at a1
  cases a1

theorem xinv_step {i : Nat} {a : Int} {now : Int} {s : Sim} (hE : EnvOK E) (hact : ∀ (i : Nat) (d : Int), i < E.n → E.act i d = ((i : Int), false)) (hi : i < E.n) (ha : ∀ j, j ≤ i → ∀ (k : Nat) (x : Int), (E.rel j)[k]? = some x → a ≤ x)
    (h0 : (E.rel i)[0]? = some a) (h : Inv E now s) (hf : futOK E now s) (hx : XInv E i a now s) : XInv E i a (now + 1) (step E now s) := by
  obtain ⟨hI', hf'⟩ := inv_step hE h hf
  have hm := mid_rel hE h hf
  have hrel := rmw_rel (E := E) (now := now) (s := s) hi (fun _ => 0)
  -- at a or later, with the first job not ended, task i is pending behind the releases
  have hpend : a ≤ now → cnt i s.en = 0 → (relK E now s E.n).wt i ≠ [] := by
    intro han hc e
    obtain ⟨g1, g2⟩ := hm.idx i hi
    rw [e] at g1
    have g1' : cnt i s.en + 0 = (relK E now s E.n).nx i := g1
    have := hm.fut i 0 a hi (by omega) h0
    omega
  have hmid : a ≤ now → cnt i s.en = 0 → rmw E (relK E now s E.n) i = relw E (fun _ => 0) (relK E now s E.n).nx i - (now - a) := fun han hc => by
    have := hx.A hc han
    omega
  constructor
  · intro hc han
    by_cases e : now + 1 = a
    · have hz : ∀ j, j ≤ i → (step E now s).nx j = 0 ∧ (step E now s).wt j = [] := fun j hj => by
        obtain ⟨g1, g2⟩ := hI'.idx j (by omega)
        have hn : (step E now s).nx j = 0 := by
          by_cases hn : (step E now s).nx j = 0
          · exact hn
          · exfalso
            have hlt : 0 < (E.rel j).length := by omega
            have hg := List.getElem?_eq_getElem hlt
            have p1 := hI'.past j 0 _ (by omega) (by omega) hg
            have p2 := ha j hj 0 _ hg
            omega
        exact ⟨hn, List.eq_nil_of_length_eq_zero (by omega)⟩
      rw [rmw_empty (fun j hj => (hz j hj).2)]
      have : relw E (fun _ => 0) (step E now s).nx i = relw E (fun _ => 0) (fun _ => 0) i := by
        unfold relw
        exact sumN_congr fun j hj => by rw [(hz j (by omega)).1]
      rw [this, relw_self]; omega
    · have han' : a ≤ now := by omega
      have hc' : cnt i s.en = 0 := by
        unfold step at hc
        split at hc
        · exact hc
        · rename_i t ht
          have := cnt_exec (E := E) (now := now) (s := relK E now s E.n) t i
          have : cnt i s.en ≤ _ := this
          omega
      obtain ⟨t, ht⟩ := chooseK_some (wt := (relK E now s E.n).wt) (k := E.n) hi (hpend han' hc')
      obtain ⟨ht1, ht2⟩ := chooseK_lt ht
      obtain ⟨p, u, hw, hbest⟩ := chooseK_best ht
      have hst : step E now s = exec E now t (relK E now s E.n) := by unfold step; rw [ht]
      rw [hst, rmw_exec hi ht1 hw (hm.head t p u ht1 hw).1.2.1, exec_nx, hmid han' hc']
      by_cases hti : t ≤ i
      · rw [if_pos hti]; omega
      · exact absurd (chosen_blocks hE hm.head ht1 hw hbest (i := i) (by omega) (hpend han' hc')) (no_hold hact hm.head)
  · intro j hj htk hrj
    unfold step at hj
    split at hj
    · exact hx.B j hj htk hrj
    · rename_i t ht
      obtain ⟨ht1, ht2⟩ := chooseK_lt ht
      obtain ⟨p, u, hw, hbest⟩ := chooseK_best ht
      unfold exec at hj
      rw [hw] at hj
      simp only at hj
      split at hj
      · exact hx.B j hj htk hrj
      · rename_i hcost
        rcases List.mem_append.1 hj with hj | hj
        · exact hx.B j hj htk hrj
        · obtain rfl : j = jobOf now t (relK E now s E.n) p := by simpa using hj
          have e : t = i := htk
          subst e
          have hpa : p.rel = a := hrj
          show ∃ M : Nat → Nat, (∀ j', j' < t → (∀ k x, k < M j' → (E.rel j')[k]? = some x → x < now + 1) ∧ (∀ k x, M j' ≤ k → (E.rel j')[k]? = some x → now + 1 ≤ x) ∧ M j' ≤ (E.rel j').length) ∧ sumN t (fun j' => E.cost j' * (M j' : Int)) + E.cost t = now + 1 - a
          have hr0 := hm.rels t 0 p hi (by rw [hw]; rfl)
          have hcen : cnt t s.en = 0 := by
            by_cases e : cnt t s.en = 0
            · exact e
            · exfalso
              have hr0' : (E.rel t)[cnt t s.en]? = some p.rel := hr0
              obtain ⟨d, hd⟩ : ∃ d, cnt t s.en = 0 + d + 1 := ⟨cnt t s.en - 1, by omega⟩
              rw [hd] at hr0'
              have := rel_lt hE hi h0 hr0'
              omega
          have hidx := (hm.idx t hi).1
          have hidx' : cnt t s.en + ((relK E now s E.n).wt t).length = (relK E now s E.n).nx t := hidx
          have han : a ≤ now := by
            have hh := hm.past t 0 a hi (by rw [hw] at hidx'; simp at hidx'; omega) h0
            omega
          have hem : ∀ j', j' < t → (relK E now s E.n).wt j' = [] := fun j' hj' => by
            by_cases e : (relK E now s E.n).wt j' = []
            · exact e
            · exact absurd (chosen_blocks hE hm.head ht1 hw hbest hj' e) (no_hold hact hm.head)
          refine ⟨(relK E now s E.n).nx, fun j' hj' => ⟨fun k x hk hx => hm.past j' k x (by omega) hk hx, fun k x hk hx => hm.fut j' k x (by omega) hk hx, (hm.idx j' (by omega)).2⟩, ?_⟩
          have hA := hmid han hcen
          obtain ⟨⟨p0, p1, _, _⟩, hfr⟩ := hm.head t p u hi hw
          have e1 : rmw E (relK E now s E.n) t = (E.cost t - p.dn) + E.cost t * (u.length : Int) := by
            unfold rmw
            rw [sumN, sumN_congr (g := fun _ => 0) (fun j hj => by rw [hem j hj]; rfl)]
            have ez : ∀ n, sumN n (fun _ => (0 : Int)) = 0 := fun n => by induction n with
              | zero => rfl
              | succ k ih => rw [sumN, ih]; rfl
            rw [ez, hw, sumL]
            have : ∀ v : List Pd, (∀ q ∈ v, fresh t q) → sumL (fun q => E.cost t - q.dn) v = E.cost t * (v.length : Int) := by
              intro v hv
              induction v with
              | nil => simp [sumL]
              | cons q v ih =>
                rw [sumL, ih (fun q hq => hv q (List.mem_cons_of_mem _ hq)), (hv q (List.mem_cons_self ..)).1]
                rw [List.length_cons, show ((v.length + 1 : Nat) : Int) = (v.length : Int) + 1 by omega, Int.mul_add]; omega
            rw [this u hfr]; omega
          have e2 : relw E (fun _ => 0) (relK E now s E.n).nx t = sumN t (fun j' => E.cost j' * ((relK E now s E.n).nx j' : Int)) + E.cost t * (1 + (u.length : Int)) := by
            unfold relw
            rw [sumN]
            have en : (relK E now s E.n).nx t = 1 + u.length := by
              rw [hw] at hidx'
              simp at hidx'; omega
            rw [en, sumN_congr (g := fun j' => E.cost j' * ((relK E now s E.n).nx j' : Int)) (fun j hj => by simp)]
            simp
          rw [Int.mul_add] at e2
          omega
theorem xinv_run {i : Nat} {a : Int} (hE : EnvOK E) (hact : ∀ (i : Nat) (d : Int), i < E.n → E.act i d = ((i : Int), false)) (hi : i < E.n) (ha : ∀ j, j ≤ i → ∀ (k : Nat) (x : Int), (E.rel j)[k]? = some x → a ≤ x)
    (h0 : (E.rel i)[0]? = some a) : ∀ k : Nat, XInv E i a k (run E k)
  | 0 => ⟨fun _ han => by
      have := hE.nonneg i 0 a hi h0
      have e : a = 0 := by omega
      subst e
      rw [rmw_empty (fun _ _ => rfl)]
      show 0 = relw E (fun _ => 0) (fun _ => 0) i - _
      rw [relw_self]; rfl, fun j hj => by simp [run, sim0] at hj⟩
  | k + 1 => by
    have := xinv_step hE hact hi ha h0 (inv_run hE k).1 (inv_run hE k).2 (xinv_run hE hact hi ha h0 k)
    rw [run]
    simpa using this
end
end Go.Proofs.Ytkedcnemldjbeaa
