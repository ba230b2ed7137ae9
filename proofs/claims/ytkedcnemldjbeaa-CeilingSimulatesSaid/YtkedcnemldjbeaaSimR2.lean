/- The reference's simulation finds the same jobs. Conditions: the environment's. -/
import Derived.Test.YtkedcnemldjbeaaSimR
namespace Go.Proofs.Ytkedcnemldjbeaa

def offs (E : Env) : Nat → Nat
  | 0 => 0
  | i + 1 => offs E i + (E.rel i).length
theorem offs_mono (E : Env) {i j : Nat} (h : i ≤ j) : offs E i ≤ offs E j := by
  induction h with
  | refl => exact Nat.le_refl _
  | step _ ih => rw [offs]; omega
theorem offs_lt (E : Env) {i j k : Nat} (h : i < j) (hk : k < (E.rel i).length) : offs E i + k < offs E j := by
  have := offs_mono E (show i + 1 ≤ j from h)
  rw [offs] at this
  omega
theorem offs_inj (E : Env) {i j k m : Nat} (hk : k < (E.rel i).length) (hm : m < (E.rel j).length) (h : offs E i + k = offs E j + m) : i = j ∧ k = m := by
  rcases Nat.lt_trichotomy i j with hij | hij | hij
  · have := offs_lt E hij hk; omega
  · subst hij; exact ⟨rfl, by omega⟩
  · have := offs_lt E hij hm; omega
theorem offs_split (E : Env) : ∀ {n y : Nat}, y < offs E n → ∃ i k, i < n ∧ k < (E.rel i).length ∧ y = offs E i + k
  | 0, y, h => by simp [offs] at h
  | n + 1, y, h => by
    rw [offs] at h
    by_cases e : y < offs E n
    · obtain ⟨i, k, h1, h2, h3⟩ := offs_split E e
      exact ⟨i, k, by omega, h2, h3⟩
    · exact ⟨n, y - offs E n, by omega, by omega, by omega⟩

structure AtOK (E : Env) (s : Sim) (i k : Nat) (x : Int) (a : RJ) : Prop where
  tk : a.tk = i
  rel : a.rel = x
  past : k < cnt i s.en → a.en ≠ 0
  pend : ∀ p, cnt i s.en ≤ k → (s.wt i)[k - cnt i s.en]? = some p → a.en = 0 ∧ a.dn = p.dn ∧ a.bl = s.lo i - p.lo ∧ (0 < p.dn → a.st = p.st)
  fut : s.nx i ≤ k → a.en = 0 ∧ a.dn = 0 ∧ a.bl = 0
structure RR (E : Env) (s : Sim) (W : List RJ) : Prop where
  len : W.length = offs E E.n
  at_ : ∀ i k x, i < E.n → (E.rel i)[k]? = some x → AtOK E s i k x (rat W (offs E i + k))

section
variable {E : Env} {now : Int} {s : Sim} {W : List RJ}

theorem rr_rel (h : Inv E now s) (r : RR E s W) : RR E (relK E now s E.n) W where
  len := r.len
  at_ := fun i k x hi hx => by
    have a := r.at_ i k x hi hx
    obtain ⟨h1, h2⟩ := h.idx i hi
    refine ⟨a.tk, a.rel, a.past, fun p hk hp => ?_, fun hk => a.fut (by rw [relK_nx hi] at hk; omega)⟩
    have hk : cnt i s.en ≤ k := hk
    have hp : ((relK E now s E.n).wt i)[k - cnt i s.en]? = some p := hp
    rw [relK_wt hi] at hp
    by_cases hlt : k - cnt i s.en < (s.wt i).length
    · rw [List.getElem?_append_left hlt] at hp
      exact a.pend p hk hp
    · rw [List.getElem?_append_right (by omega)] at hp
      split at hp
      · have h0 : k - cnt i s.en - (s.wt i).length = 0 := by
          have := (List.getElem?_eq_some_iff.1 hp).1
          simpa using this
        rw [h0] at hp
        obtain rfl : newPd s now i = p := by simpa using hp
        obtain ⟨b1, b2, b3⟩ := a.fut (by omega)
        refine ⟨b1, b2, ?_, fun hd => absurd hd (by show ¬ (0 : Int) < 0; omega)⟩
        rw [b3]; show 0 = s.lo i - s.lo i; omega
      · simp at hp

/-- Which jobs are ready behind the releases. -/
theorem rdy_iff (hm : Mid E now s) (r : RR E s W) {i k : Nat} {x : Int} (hi : i < E.n) (hx : (E.rel i)[k]? = some x) :
    (rdy now (rat W (offs E i + k)) = true → cnt i s.en ≤ k ∧ ∃ p, (s.wt i)[k - cnt i s.en]? = some p) ∧ (∀ p, cnt i s.en ≤ k → (s.wt i)[k - cnt i s.en]? = some p → rdy now (rat W (offs E i + k)) = true) := by
  have a := r.at_ i k x hi hx
  obtain ⟨h1, h2⟩ := hm.idx i hi
  constructor
  · intro h
    simp only [rdy, Bool.and_eq_true, decide_eq_true_eq] at h
    obtain ⟨g1, g2⟩ := h
    have hc : cnt i s.en ≤ k := by
      by_cases e : k < cnt i s.en
      · exact absurd g2 (a.past e)
      · omega
    refine ⟨hc, ?_⟩
    by_cases e : k < s.nx i
    · have : k - cnt i s.en < (s.wt i).length := by omega
      exact ⟨_, List.getElem?_eq_getElem this⟩
    · have := hm.fut i k x hi (by omega) hx
      rw [a.rel] at g1; omega
  · intro p hk hp
    obtain ⟨b1, _⟩ := a.pend p hk hp
    have hlt := (List.getElem?_eq_some_iff.1 hp).1
    have := hm.past i k x hi (by omega) hx
    simp only [rdy, Bool.and_eq_true, decide_eq_true_eq]
    exact ⟨by rw [a.rel]; omega, b1⟩
theorem rpd_of (hm : Mid E now s) (h0 : ∀ i, i < E.n → E.act i 0 = ((i : Int), false)) (r : RR E s W) {i k : Nat} {x : Int} {p : Pd} (hi : i < E.n) (hx : (E.rel i)[k]? = some x) (hk : cnt i s.en ≤ k) (hp : (s.wt i)[k - cnt i s.en]? = some p) :
    (rpd E (rat W (offs E i + k))).ac = p.ac ∧ (rpd E (rat W (offs E i + k))).ho = p.ho ∧ (rpd E (rat W (offs E i + k))).rel = p.rel := by
  have a := r.at_ i k x hi hx
  obtain ⟨b1, b2, b3, b4⟩ := a.pend p hk hp
  have hrel := hm.rels i _ p hi hp
  rw [show cnt i s.en + (k - cnt i s.en) = k by omega, hx] at hrel
  have hrel : x = p.rel := by simpa using hrel
  have hok : (p.dn = 0 → p.ac = i ∧ p.ho = false) ∧ (0 < p.dn → p.ac = (E.act i p.dn).1 ∧ p.ho = (E.act i p.dn).2) ∧ 0 ≤ p.dn := by
    cases hw : s.wt i with
    | nil => rw [hw] at hp; simp at hp
    | cons q u =>
      obtain ⟨g1, g2⟩ := hm.head i q u hi hw
      rw [hw] at hp
      cases hkk : k - cnt i s.en with
      | zero =>
        rw [hkk] at hp
        obtain rfl : q = p := by simpa using hp
        exact ⟨g1.2.2.1, g1.2.2.2, g1.1⟩
      | succ m =>
        rw [hkk] at hp
        obtain ⟨f1, f2, f3⟩ := g2 p (List.mem_of_getElem? (by simpa using hp))
        exact ⟨fun _ => ⟨f2, f3⟩, fun h => by omega, by omega⟩
  simp only [rpd, a.tk, b2, a.rel]
  refine ⟨?_, ?_, hrel⟩
  · by_cases e : p.dn = 0
    · rw [e, h0 i hi, (hok.1 e).1]
    · rw [(hok.2.1 (by omega)).1]
  · by_cases e : p.dn = 0
    · rw [e, h0 i hi, (hok.1 e).2]
    · rw [(hok.2.1 (by omega)).2]
theorem bef_ext {i j : Nat} {p q p' q' : Pd} (h1 : p'.ac = p.ac) (h2 : p'.ho = p.ho) (h3 : p'.rel = p.rel) (g1 : q'.ac = q.ac) (g2 : q'.ho = q.ho) (g3 : q'.rel = q.rel) : bef i p' j q' = bef i p j q := by
  unfold bef; rw [h1, h2, h3, g1, g2, g3]
/-- The head of a row is before the others of the row. -/
theorem head_first (hE : EnvOK E) (hm : Mid E now s) {i m : Nat} {p q : Pd} {u : List Pd} (hi : i < E.n) (hw : s.wt i = p :: u) (hq : (s.wt i)[m + 1]? = some q) : bef i p i q = true := by
  obtain ⟨g1, g2⟩ := hm.head i p u hi hw
  have hq' : u[m]? = some q := by rw [hw] at hq; simpa using hq
  obtain ⟨f1, f2, f3⟩ := g2 q (List.mem_of_getElem? hq')
  obtain ⟨a1, a2⟩ := head_ac hE hi g1
  have r1 := hm.rels i 0 p hi (by rw [hw]; rfl)
  have r2 := hm.rels i (m + 1) q hi hq
  rw [Nat.add_zero] at r1
  have hlt := rel_lt hE hi r1 (by rw [show cnt i s.en + m + 1 = cnt i s.en + (m + 1) by omega]; exact r2)
  unfold bef
  by_cases e : p.ac = q.ac
  · rw [if_neg (by simpa using e), f3]
    cases ho : p.ho
    · simp; exact hlt
    · simp
  · rw [if_pos e]
    simp; omega
theorem rbest_choose (hE : EnvOK E) (hm : Mid E now s) (h0 : ∀ i, i < E.n → E.act i 0 = ((i : Int), false)) (r : RR E s W) :
    rbestK E now W W.length = (chooseK s.wt E.n).map fun t => offs E t + cnt t s.en := by
  cases hc : chooseK s.wt E.n with
  | none =>
    have he := chooseK_none hc
    refine rbestK_none fun y hy => ?_
    rw [r.len] at hy
    obtain ⟨i, k, hi, hk, rfl⟩ := offs_split E hy
    have hx := List.getElem?_eq_getElem hk
    cases hr : rdy now (rat W (offs E i + k))
    · rfl
    · obtain ⟨_, p, hp⟩ := (rdy_iff hm r hi hx).1 hr
      rw [he i hi] at hp; simp at hp
  | some t =>
    obtain ⟨ht, _⟩ := chooseK_lt hc
    obtain ⟨p, u, hw, hbest⟩ := chooseK_best hc
    have hp0 : (s.wt t)[cnt t s.en - cnt t s.en]? = some p := by rw [Nat.sub_self, hw]; rfl
    have hx := hm.rels t 0 p ht (by rw [hw]; rfl)
    rw [Nat.add_zero] at hx
    have hr := (rdy_iff hm r ht hx).2 p (Nat.le_refl _) hp0
    have hklt := (List.getElem?_eq_some_iff.1 hx).1
    refine rbestK_uniq hr (by rw [r.len]; exact offs_lt E ht hklt) fun y hy hyr hne => ?_
    rw [r.len] at hy
    obtain ⟨i, k, hi, hk, rfl⟩ := offs_split E hy
    have hxi := List.getElem?_eq_getElem hk
    obtain ⟨hck, q, hq⟩ := (rdy_iff hm r hi hxi).1 hyr
    obtain ⟨e1, e2, e3⟩ := rpd_of hm h0 r ht hx (Nat.le_refl _) hp0
    obtain ⟨f1, f2, f3⟩ := rpd_of hm h0 r hi hxi hck hq
    unfold rbef
    rw [(r.at_ t _ _ ht hx).tk, (r.at_ i k _ hi hxi).tk, bef_ext e1 e2 e3 f1 f2 f3]
    cases hz : s.wt i with
    | nil => rw [hz] at hq; simp at hq
    | cons q0 v =>
      by_cases e : i = t
      · subst e
        rw [hw] at hz
        obtain ⟨rfl, rfl⟩ := List.cons.inj hz
        cases hm2 : k - cnt i s.en with
        | zero => exact absurd (by rw [show k = cnt i s.en by omega]) hne
        | succ m =>
          rw [hm2] at hq
          exact head_first hE hm hi hw hq
      · have hb := hbest i hi e q0 v hz
        cases hm2 : k - cnt i s.en with
        | zero =>
          rw [hm2, hz] at hq
          obtain rfl : q0 = q := by simpa using hq
          exact hb
        | succ m =>
          rw [hm2] at hq
          exact bef_tr hb (head_first hE hm hi hz hq)
end
end Go.Proofs.Ytkedcnemldjbeaa
