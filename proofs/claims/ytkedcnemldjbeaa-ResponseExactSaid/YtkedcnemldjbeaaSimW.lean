/- Busy periods of the simulation: a response time is safe; it is exact without sections. Conditions: the environment's. -/
import Derived.Test.YtkedcnemldjbeaaSimB
namespace Go.Proofs.Ytkedcnemldjbeaa

def rmw (E : Env) (s : Sim) (i : Nat) : Int := sumN (i + 1) fun j => sumL (fun p => E.cost j - p.dn) (s.wt j)
def relw (E : Env) (N N' : Nat → Nat) (i : Nat) : Int := sumN (i + 1) fun j => E.cost j * ((N' j : Int) - (N j : Int))
/-- What is released in a window of length r from t0 on leaves room for the blocking. -/
def Fit (E : Env) (L : Nat → Int) (i : Nat) (r : Int) : Prop :=
  ∀ (N N' : Nat → Nat) (t0 : Int), (∀ j, j ≤ i → N j ≤ N' j ∧ N' j ≤ (E.rel j).length ∧ ∀ k x, N j ≤ k → k < N' j → (E.rel j)[k]? = some x → t0 ≤ x ∧ x < t0 + r) → relw E N N' i ≤ r - L i

structure Busy (E : Env) (L : Nat → Int) (rem : Nat → Int → Int) (i : Nat) (r : Int) (now : Int) (s : Sim) (t0 : Int) (N0 : Nat → Nat) (low : Int) : Prop where
  le : t0 ≤ now
  ix : ∀ j, j ≤ i → N0 j ≤ cnt j s.en ∧ ∀ k x, N0 j ≤ k → (E.rel j)[k]? = some x → t0 ≤ x
  eq : rmw E s i = relw E N0 s.nx i - (now - t0 - low)
  low0 : low ≤ L i ∧ ∀ k q, isB E s i k q → low + rem k q.dn ≤ L i
  st : (now = t0 ∧ low = 0) ∨ (0 < rmw E s i ∧ now - t0 < r)

section
variable {E : Env} {L : Nat → Int} {rem : Nat → Int → Int} {now : Int} {s : Sim} {i : Nat} {r : Int}

theorem rmw_nonneg (hh : ∀ i p r, i < E.n → s.wt i = p :: r → hdOK E i p ∧ ∀ q ∈ r, fresh i q) (hE : EnvOK E) (hi : i < E.n) : 0 ≤ rmw E s i ∧ ∀ j, j ≤ i → 0 ≤ sumL (fun p => E.cost j - p.dn) (s.wt j) ∧ (s.wt j ≠ [] → 0 < sumL (fun p => E.cost j - p.dn) (s.wt j)) := by
  have h1 : ∀ j, j ≤ i → 0 ≤ sumL (fun p => E.cost j - p.dn) (s.wt j) ∧ (s.wt j ≠ [] → 0 < sumL (fun p => E.cost j - p.dn) (s.wt j)) := by
    intro j hj
    cases hw : s.wt j with
    | nil => exact ⟨Int.le_refl _, fun h => absurd rfl h⟩
    | cons p u =>
      obtain ⟨g1, g2⟩ := hh j p u (by omega) hw
      have := sumL_nonneg (f := fun p => E.cost j - p.dn) (l := u) (fun q hq => by
        have := (g2 q hq).1
        have := hE.cost j (by omega)
        show 0 ≤ E.cost j - q.dn; omega)
      have := g1.2.1
      rw [sumL]
      refine ⟨by omega, fun _ => by omega⟩
  exact ⟨sumN_nonneg fun j hj => (h1 j (by omega)).1, h1⟩
theorem rmw_zero (hh : ∀ i p r, i < E.n → s.wt i = p :: r → hdOK E i p ∧ ∀ q ∈ r, fresh i q) (hE : EnvOK E) (hi : i < E.n) (h0 : rmw E s i = 0) : ∀ j, j ≤ i → s.wt j = [] := by
  intro j hj
  obtain ⟨_, h1⟩ := rmw_nonneg hh hE hi
  by_cases h : s.wt j = []
  · exact h
  · exfalso
    have hp := (h1 j hj).2 h
    have e : sumN (i + 1) (fun j => sumL (fun p => E.cost j - p.dn) (s.wt j)) = sumN (i + 1) (fun x => if x = j then 0 else sumL (fun p => E.cost x - p.dn) (s.wt x)) + sumL (fun p => E.cost j - p.dn) (s.wt j) :=
      sumN_upd (t := j) (by omega) (fun x _ hne => by show _ = (if x = j then 0 else _); rw [if_neg hne]) (by show _ = (if j = j then 0 else _) + _; rw [if_pos rfl]; omega)
    have := sumN_nonneg (n := i + 1) (f := fun x => if x = j then 0 else sumL (fun p => E.cost x - p.dn) (s.wt x)) (fun x hx => by
      show 0 ≤ (if x = j then 0 else _)
      split
      · omega
      · exact (h1 x (by omega)).1)
    unfold rmw at h0
    omega
theorem rmw_empty (h : ∀ j, j ≤ i → s.wt j = []) : rmw E s i = 0 := by
  unfold rmw
  rw [sumN_congr (g := fun _ => 0) (fun j hj => by rw [h j (by omega)]; rfl)]
  have e : ∀ n, sumN n (fun _ => (0 : Int)) = 0 := fun n => by induction n with
    | zero => rfl
    | succ k ih => rw [sumN, ih]; rfl
  exact e _
theorem relw_self (N : Nat → Nat) : relw E N N i = 0 := by
  unfold relw
  rw [sumN_congr (g := fun _ => 0) (fun j hj => by simp)]
  have e : ∀ n, sumN n (fun _ => (0 : Int)) = 0 := fun n => by induction n with
    | zero => rfl
    | succ k ih => rw [sumN, ih]; rfl
  exact e _

theorem sumN_add {f g : Nat → Int} : ∀ n, sumN n (fun i => f i + g i) = sumN n f + sumN n g
  | 0 => rfl
  | n + 1 => by rw [sumN, sumN, sumN, sumN_add n]; omega

/-- A release adds as much work as releases. -/
theorem rmw_rel (hi : i < E.n) (N : Nat → Nat) : rmw E (relK E now s E.n) i - rmw E s i = relw E N (relK E now s E.n).nx i - relw E N s.nx i := by
  have e1 : rmw E (relK E now s E.n) i = rmw E s i + sumN (i + 1) (fun j => if due E s now j = true then E.cost j else 0) := by
    unfold rmw
    rw [← sumN_add]
    refine sumN_congr fun j hj => ?_
    rw [relK_wt (by omega), sumL_app]
    split
    · simp [sumL, newPd]
    · simp [sumL]
  have e2 : relw E N (relK E now s E.n).nx i = relw E N s.nx i + sumN (i + 1) (fun j => if due E s now j = true then E.cost j else 0) := by
    unfold relw
    rw [← sumN_add]
    refine sumN_congr fun j hj => ?_
    rw [relK_nx (by omega)]
    split
    · have : ((s.nx j + 1 : Nat) : Int) - (N j : Int) = ((s.nx j : Int) - (N j : Int)) + 1 := by omega
      rw [this, Int.mul_add]; simp
    · simp
  rw [e1, e2]; omega

/-- A step of a task up to i takes one unit off; a step of a task above takes none. -/
theorem rmw_exec {t : Nat} {p : Pd} {u : List Pd} (hi : i < E.n) (ht : t < E.n) (hw : s.wt t = p :: u) (hd : p.dn < E.cost t) : rmw E (exec E now t s) i = rmw E s i - if t ≤ i then 1 else 0 := by
  have hrow : ∀ j, j ≠ t → (exec E now t s).wt j = s.wt j := fun j hj => by
    unfold exec
    rw [hw]; simp only
    split <;> simp [upd, hj]
  have hown : sumL (fun p => E.cost t - p.dn) ((exec E now t s).wt t) = sumL (fun p => E.cost t - p.dn) (s.wt t) + (-1) := by
    unfold exec
    rw [hw]; simp only
    split
    · simp only [upd, if_true, sumL, stepPd]; omega
    · simp only [upd, if_true, sumL]; omega
  by_cases h : t ≤ i
  · rw [if_pos h]
    unfold rmw
    rw [sumN_upd (t := t) (d := -1) (f := fun j => sumL (fun p => E.cost j - p.dn) (s.wt j)) (by omega) (fun j _ hne => by rw [hrow j hne]) hown]
    omega
  · rw [if_neg h]
    unfold rmw
    rw [sumN_congr (g := fun j => sumL (fun p => E.cost j - p.dn) (s.wt j)) (fun j hj => by rw [hrow j (by omega)])]
    omega

theorem exec_nx (t : Nat) : (exec E now t s).nx = s.nx := by
  unfold exec
  split
  · rfl
  · split <;> rfl
theorem cnt_exec (t : Nat) (j : Nat) : cnt j s.en ≤ cnt j (exec E now t s).en := by
  unfold exec
  split
  · exact Nat.le_refl _
  · split
    · exact Nat.le_refl _
    · rw [cnt_snoc]; omega

/-- A new busy period may begin where no work is left. -/
theorem busy_new (hE : EnvOK E) (hB : BlkEnv E L rem) (h : Inv E now s) (hf : futOK E now s) (hi : i < E.n) (h0 : rmw E s i = 0) : Busy E L rem i r now s now s.nx 0 where
  le := Int.le_refl _
  ix := fun j hj => by
    have e := rmw_zero h.head hE hi h0 j hj
    obtain ⟨h1, _⟩ := h.idx j (by omega)
    rw [e] at h1
    exact ⟨by simp at h1; omega, fun k x hk hx => hf j k x (by omega) hk hx⟩
  eq := by rw [h0, relw_self]; omega
  low0 := ⟨hB.nonneg i, fun k q hq => by
    obtain ⟨a1, a2⟩ := isB_act h.head hq
    have := hB.bd i k q.dn hq.1 hq.2.1 a1 a2
    omega⟩
  st := .inl ⟨rfl, rfl⟩

theorem busy_step (hE : EnvOK E) (hB : BlkEnv E L rem) (h : Inv E now s) (hf : futOK E now s) (b : BInv E L rem s) (hi : i < E.n) (hr : 1 ≤ r) (hfit : Fit E L i r) (hb : ∃ t0 N0 low, Busy E L rem i r now s t0 N0 low) :
    ∃ t0 N0 low, Busy E L rem i r (now + 1) (step E now s) t0 N0 low := by
  obtain ⟨t0, N0, low, hb⟩ := hb
  obtain ⟨hI', hf'⟩ := inv_step hE h hf
  have hm := mid_rel hE h hf
  have hbm := binv_rel (now := now) hE hB h b
  by_cases h0 : rmw E (step E now s) i = 0
  · exact ⟨_, _, _, busy_new hE hB hI' hf' hi h0⟩
  · refine ⟨t0, N0, ?_⟩
    have hrel := rmw_rel (E := E) (now := now) (s := s) hi N0
    have hpos' := (rmw_nonneg hI'.head hE hi).1
    -- some task up to i is pending behind the releases
    have hW : 0 < rmw E (relK E now s E.n) i := by
      have hge := (rmw_nonneg hm.head hE hi).1
      by_cases e : rmw E (relK E now s E.n) i = 0
      · exfalso
        have hz := rmw_zero hm.head hE hi e
        apply h0
        unfold step
        split
        · exact e
        · rename_i t ht
          obtain ⟨ht1, ht2⟩ := chooseK_lt ht
          cases hw : (relK E now s E.n).wt t with
          | nil => exact absurd hw ht2
          | cons p u =>
            rw [rmw_exec hi ht1 hw (hm.head t p u ht1 hw).1.2.1, e]
            by_cases hti : t ≤ i
            · exact absurd (hz t hti) ht2
            · rw [if_neg hti]; omega
      · omega
    obtain ⟨i', hi', hne⟩ : ∃ i', i' ≤ i ∧ (relK E now s E.n).wt i' ≠ [] := by
      by_cases hall : ∀ j, j ≤ i → (relK E now s E.n).wt j = []
      · rw [rmw_empty hall] at hW; omega
      · simp only [Classical.not_forall] at hall
        obtain ⟨j, hj, hne⟩ := hall
        exact ⟨j, hj, hne⟩
    obtain ⟨t, ht⟩ := chooseK_some (wt := (relK E now s E.n).wt) (k := E.n) (i := i') (by omega) hne
    obtain ⟨ht1, ht2⟩ := chooseK_lt ht
    obtain ⟨p, u, hw, hbest⟩ := chooseK_best ht
    have hst : step E now s = exec E now t (relK E now s E.n) := by unfold step; rw [ht]
    rw [hst] at h0 hpos' hI' ⊢
    have hx := rmw_exec (now := now) hi ht1 hw (hm.head t p u ht1 hw).1.2.1
    have hnx : (exec E now t (relK E now s E.n)).nx = (relK E now s E.n).nx := exec_nx t
    have hbx := binv_exec hE hB hm hbm ht1 hw hbest
    -- blockers behind the step, by what low they leave
    have hlow : ∃ low', low' = low + (if t ≤ i then 0 else 1) ∧ low' ≤ L i ∧ ∀ k q, isB E (exec E now t (relK E now s E.n)) i k q → low' + rem k q.dn ≤ L i := by
      have old : ∀ k q, k ≠ t → isB E (exec E now t (relK E now s E.n)) i k q → isB E (relK E now s E.n) i k q := by
        rintro k q hne ⟨h1, h2, ⟨v, h3⟩, h4, h5⟩
        refine ⟨h1, h2, ⟨v, ?_⟩, h4, h5⟩
        unfold exec at h3
        rw [hw] at h3
        simp only at h3
        split at h3 <;> simpa [upd, hne] using h3
      by_cases hti : t ≤ i
      · refine ⟨low, by rw [if_pos hti]; omega, hb.low0.1, fun k q hq => ?_⟩
        exact hb.low0.2 k q (isB_rel (old k q (fun e => by have := hq.1; omega) hq))
      · -- t > i : t blocks i
        have hib : isB E (relK E now s E.n) i t p := by
          have hib' := chosen_blocks hE hm.head ht1 hw hbest (i := i') (by omega) hne
          exact ⟨by omega, ht1, ⟨u, hw⟩, hib'.2.2.2.1, by have := hib'.2.2.2.2; omega⟩
        obtain ⟨a1, a2⟩ := isB_act hm.head hib
        have d1 := hb.low0.2 t p (isB_rel hib)
        have d2 := hB.pos t p.dn ht1 a1
        refine ⟨low + 1, by rw [if_neg hti], by omega, fun k q hq => ?_⟩
        by_cases e : k = t
        · subst e
          obtain ⟨h1, h2, ⟨v, h3⟩, h4, h5⟩ := hq
          unfold exec at h3
          rw [hw] at h3
          simp only at h3
          split at h3
          · simp only [upd, if_true, List.cons.injEq] at h3
            obtain ⟨rfl, _⟩ := h3
            have := hB.dec k p.dn h2 a1 h4
            show low + 1 + rem k (p.dn + 1) ≤ L i
            omega
          · simp only [upd, if_true] at h3
            have := (hm.head k p u ht1 hw).2 q (by rw [h3]; exact List.mem_cons_self ..)
            rw [this.2.2] at h4; cases h4
        · exact absurd (hbm.uniq i k q t p (old k q e hq) hib) e
    obtain ⟨low', hl1, hl2, hl3⟩ := hlow
    refine ⟨low', ⟨by have := hb.le; omega, fun j hj => ?_, ?_, ⟨hl2, hl3⟩, ?_⟩⟩
    · obtain ⟨h1, h2⟩ := hb.ix j hj
      exact ⟨Nat.le_trans h1 (cnt_exec (s := relK E now s E.n) t j), h2⟩
    · rw [hx, hnx, hl1]
      have := hb.eq
      split <;> omega
    · refine .inr ⟨by omega, ?_⟩
      -- the window is not yet r long
      have hq : rmw E (exec E now t (relK E now s E.n)) i = relw E N0 (exec E now t (relK E now s E.n)).nx i - (now + 1 - t0 - low') := by
        rw [hx, hnx, hl1]
        have := hb.eq
        split <;> omega
      by_cases hlt : now + 1 - t0 < r
      · exact hlt
      · exfalso
        have hwr : now + 1 - t0 = r := by
          rcases hb.st with ⟨e, _⟩ | ⟨_, e⟩ <;> omega
        have hF := hfit N0 (exec E now t (relK E now s E.n)).nx t0 (fun j hj => by
          obtain ⟨h1, h2⟩ := hb.ix j hj
          obtain ⟨g1, g2⟩ := hI'.idx j (by omega)
          have hc := cnt_exec (E := E) (now := now) (s := relK E now s E.n) t j
          have hcc : cnt j s.en ≤ cnt j (exec E now t (relK E now s E.n)).en := hc
          refine ⟨by omega, g2, fun k x hk hk2 hx => ⟨h2 k x hk hx, ?_⟩⟩
          have := hI'.past j k x (by omega) hk2 hx
          omega)
        omega
theorem busy0 (hE : EnvOK E) (hB : BlkEnv E L rem) (hi : i < E.n) : Busy E L rem i r 0 sim0 0 sim0.nx 0 :=
  busy_new hE hB (inv0 E) (fut0 hE) hi (rmw_empty fun _ _ => rfl)
theorem busy_run (hE : EnvOK E) (hB : BlkEnv E L rem) (hi : i < E.n) (hr : 1 ≤ r) (hfit : Fit E L i r) : ∀ k : Nat, ∃ t0 N0 low, Busy E L rem i r k (run E k) t0 N0 low
  | 0 => ⟨_, _, _, busy0 hE hB hi⟩
  | k + 1 => by
    have := busy_step hE hB (inv_run hE k).1 (inv_run hE k).2 (binv_run hE hB k) hi hr hfit (busy_run hE hB hi hr hfit k)
    rw [run]
    simpa using this

/-- A pending job is not yet r old. -/
theorem pend_young (hE : EnvOK E) (hB : BlkEnv E L rem) (hi : i < E.n) (hr : 1 ≤ r) (hfit : Fit E L i r) (k : Nat) {p : Pd} (hp : p ∈ (run E k).wt i) : (k : Int) < p.rel + r := by
  obtain ⟨t0, N0, low, hb⟩ := busy_run hE hB hi hr hfit k
  obtain ⟨hI, _⟩ := inv_run hE k
  obtain ⟨j, hj⟩ := List.mem_iff_getElem?.1 hp
  have h1 := hI.rels i j p hi hj
  obtain ⟨h2, h3⟩ := hb.ix i (Nat.le_refl _)
  have := h3 _ _ (by omega) h1
  rcases hb.st with ⟨e, _⟩ | ⟨_, e⟩ <;> omega
/-- A finished job took at most r. -/
theorem done_safe (hE : EnvOK E) (hB : BlkEnv E L rem) (hi : i < E.n) (hr : 1 ≤ r) (hfit : Fit E L i r) : ∀ (k : Nat), ∀ j ∈ (run E k).en, j.tk = i → j.en - j.rel ≤ r
  | 0, j, hj, _ => by simp [run, sim0] at hj
  | k + 1, j, hj, e => by
    have ih := done_safe hE hB hi hr hfit k
    have hm := mid_rel hE (inv_run hE k).1 (inv_run hE k).2
    rw [run] at hj
    unfold step at hj
    split at hj
    · exact ih j hj e
    · rename_i t ht
      unfold exec at hj
      split at hj
      · exact ih j hj e
      · rename_i p u hw
        split at hj
        · exact ih j hj e
        · rcases List.mem_append.1 hj with hj | hj
          · exact ih j hj e
          · obtain rfl : j = jobOf k t (relK E k (run E k) E.n) p := by simpa using hj
            have e : t = i := e
            subst e
            show (k : Int) + 1 - p.rel ≤ r
            have hpm : p ∈ (run E k).wt t ++ if due E (run E k) k t = true then [newPd (run E k) k t] else [] := by
              rw [← relK_wt hi, hw]; exact List.mem_cons_self ..
            rcases List.mem_append.1 hpm with hpm | hpm
            · have := pend_young hE hB hi hr hfit k hpm; omega
            · split at hpm
              · simp at hpm; subst hpm
                show (k : Int) + 1 - (k : Int) ≤ r; omega
              · cases hpm
theorem cnt_find {i : Nat} : ∀ {en : List Jb} {k : Nat}, k < cnt i en → ∃ x j, en[x]? = some j ∧ j.tk = i ∧ cnt i (en.take x) = k
  | [], k, h => by simp [cnt] at h
  | j :: u, k, h => by
    by_cases e : j.tk = i
    · have hc : ∀ v, cnt i (j :: v) = cnt i v + 1 := fun v => by unfold cnt; rw [List.countP_cons]; simp [e]
      cases k with
      | zero => exact ⟨0, j, rfl, e, by simp [cnt]⟩
      | succ k =>
        rw [hc] at h
        obtain ⟨x, j', h1, h2, h3⟩ := cnt_find (i := i) (en := u) (k := k) (by omega)
        exact ⟨x + 1, j', by simpa using h1, h2, by rw [List.take_succ_cons, hc, h3]⟩
    · have hc : ∀ v, cnt i (j :: v) = cnt i v := fun v => by unfold cnt; rw [List.countP_cons]; simp [e]
      rw [hc] at h
      obtain ⟨x, j', h1, h2, h3⟩ := cnt_find (i := i) (en := u) (k := k) h
      exact ⟨x + 1, j', by simpa using h1, h2, by rw [List.take_succ_cons, hc, h3]⟩
/-- A job that had time enough has ended. -/
theorem done_all (hE : EnvOK E) (hB : BlkEnv E L rem) (hi : i < E.n) (hr : 1 ≤ r) (hfit : Fit E L i r) {u m : Nat} {x : Int} (hx : (E.rel i)[m]? = some x) (hu : x + r ≤ u) : ∃ j ∈ (run E u).en, j.tk = i ∧ j.rel = x := by
  obtain ⟨hI, hF⟩ := inv_run hE u
  obtain ⟨h1, h2⟩ := hI.idx i hi
  have hm : m < (run E u).nx i := by
    by_cases h : m < (run E u).nx i
    · exact h
    · have := hF i m x hi (by omega) hx
      omega
  by_cases hc : m < cnt i (run E u).en
  · obtain ⟨y, j, g1, g2, g3⟩ := cnt_find hc
    refine ⟨j, List.mem_of_getElem? g1, g2, ?_⟩
    have := (hI.jobs y j g1).2.1
    rw [g2, g3, hx] at this
    simpa using this.symm
  · exfalso
    have hlt : m - cnt i (run E u).en < ((run E u).wt i).length := by omega
    have hp := List.getElem?_eq_getElem hlt
    have h3 := hI.rels i _ _ hi hp
    rw [show cnt i (run E u).en + (m - cnt i (run E u).en) = m by omega, hx] at h3
    have := pend_young hE hB hi hr hfit u (List.getElem_mem hlt)
    simp at h3
    omega
end
end Go.Proofs.Ytkedcnemldjbeaa
