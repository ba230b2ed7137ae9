/- A search for shortest paths, step by step: plain Lean. Conditions: each theorem's own. -/
import Derived.Test.YtobjcdbbdgloiaaFlowP
namespace Go.Proofs.Ytobjcdbbdgloiaa
/-! ### A search for shortest paths, step by step -/
def cntL (n : Nat) (lv : Nat → Int) : Int := sm n fun v => if 0 ≤ lv v then 1 else 0
def updL (f : Nat → Int) (j : Nat) (x : Int) : Nat → Int := fun v => if v = j then x else f v
theorem cntL_le (n : Nat) (lv : Nat → Int) : 0 ≤ cntL n lv ∧ cntL n lv ≤ n := by
  have h1 := sm_le (n := n) (f := fun v => if 0 ≤ lv v then 1 else 0) (g := fun _ => 1) (fun i _ => by show (if _ then (1 : Int) else 0) ≤ 1; split <;> omega)
  have h2 := sm_const 1 n
  have h3 := sm_nonneg (n := n) (f := fun v => if 0 ≤ lv v then 1 else 0) (fun i _ => by show 0 ≤ (if _ then (1 : Int) else 0); split <;> omega)
  unfold cntL; omega
structure Bfs (n : Nat) (r : Nat → Nat → Int) (src : Nat) (lv : Nat → Int) (q : List Nat) (u j : Nat) : Prop where
  low : ∀ v, v < n → -1 ≤ lv v
  top : ∀ v, v < n → lv v < cntL n lv
  src0 : lv src = 0
  mem : ∀ x ∈ q, x < n ∧ 0 ≤ lv x
  par : ∀ v, v < n → 0 ≤ lv v → v = src ∨ ∃ u, u < n ∧ 0 ≤ lv u ∧ lv v = lv u + 1 ∧ 0 < r u v
  cls : ∀ x, x < n → 0 ≤ lv x → x ∈ q ∨ (∀ v, v < n → 0 < r x v → 0 ≤ lv v) ∨ (x = u ∧ ∀ v, v < j → 0 < r x v → 0 ≤ lv v)
section
variable {n : Nat} {r : Nat → Nat → Int} {src : Nat} {lv : Nat → Int} {q : List Nat} {u j : Nat}
theorem Bfs.init (hs : src < n) : Bfs n r src (updL (fun _ => -1) src 0) [src] n 0 where
  low := fun v _ => by
    show (-1 : Int) ≤ if v = src then 0 else -1
    split <;> omega
  top := fun v hv => by
    have h : cntL n (updL (fun _ => -1) src 0) = 1 := by
      unfold cntL
      rw [sm_one hs (fun i _ hne => by simp [updL, hne])]
      simp [updL]
    rw [h]
    show (if v = src then (0 : Int) else -1) < 1
    split <;> omega
  src0 := by simp [updL]
  mem := fun x hx => by
    simp at hx
    subst hx
    exact ⟨hs, by simp [updL]⟩
  par := fun v _ h0 => by
    by_cases e : v = src
    · exact .inl e
    · simp [updL, e] at h0
  cls := fun x _ h0 => by
    by_cases e : x = src
    · exact .inl (by simp [e])
    · simp [updL, e] at h0
theorem Bfs.pop (h : Bfs n r src lv (u :: q) n 0) : Bfs n r src lv q u 0 ∧ u < n ∧ 0 ≤ lv u := by
  obtain ⟨h1, h2⟩ := h.mem u (List.mem_cons_self ..)
  refine ⟨⟨h.low, h.top, h.src0, fun x hx => h.mem x (List.mem_cons_of_mem _ hx), h.par, fun x hx h0 => ?_⟩, h1, h2⟩
  rcases h.cls x hx h0 with e | e | ⟨e, _⟩
  · rcases List.mem_cons.1 e with rfl | e
    · exact .inr (.inr ⟨rfl, fun v hv => absurd hv (Nat.not_lt_zero _)⟩)
    · exact .inl e
  · exact .inr (.inl e)
  · omega
theorem Bfs.skip (h : Bfs n r src lv q u j) (hj : r u j ≤ 0 ∨ 0 ≤ lv j) : Bfs n r src lv q u (j + 1) := by
  refine ⟨h.low, h.top, h.src0, h.mem, h.par, fun x hx h0 => ?_⟩
  rcases h.cls x hx h0 with e | e | ⟨rfl, e⟩
  · exact .inl e
  · exact .inr (.inl e)
  · refine .inr (.inr ⟨rfl, fun v hv hp => ?_⟩)
    by_cases hvj : v = j
    · subst hvj
      rcases hj with hj | hj
      · omega
      · exact hj
    · exact e v (by omega) hp
theorem Bfs.add (h : Bfs n r src lv q u j) (hjn : j < n) (hu : u < n) (hu0 : 0 ≤ lv u) (hp : 0 < r u j) (hlv : lv j < 0) : Bfs n r src (updL lv j (lv u + 1)) (q ++ [j]) u (j + 1) ∧ cntL n (updL lv j (lv u + 1)) = cntL n lv + 1 := by
  have hc : cntL n (updL lv j (lv u + 1)) = cntL n lv + 1 := by
    unfold cntL
    rw [sm_upd (t := j) (f := fun v => if 0 ≤ lv v then 1 else 0) hjn (fun i _ hne => by simp [updL, hne])]
    have e1 : (if 0 ≤ updL lv j (lv u + 1) j then (1 : Int) else 0) = 1 := by simp [updL]; omega
    have e2 : (if 0 ≤ lv j then (1 : Int) else 0) = 0 := if_neg (by omega)
    rw [e1, e2]; omega
  have hold : ∀ v, 0 ≤ lv v → updL lv j (lv u + 1) v = lv v := fun v hv => if_neg (fun e => by rw [e] at hv; omega)
  have hup : ∀ v, 0 ≤ lv v → 0 ≤ updL lv j (lv u + 1) v := fun v hv => by rw [hold v hv]; exact hv
  refine ⟨⟨fun v hv => ?_, fun v hv => ?_, ?_, fun x hx => ?_, fun v hv h0 => ?_, fun x hx h0 => ?_⟩, hc⟩
  · have := h.low v hv
    unfold updL; split <;> omega
  · have h1 := h.top v hv
    have h2 := h.top u hu
    rw [hc]; unfold updL; split <;> omega
  · rw [hold src (by rw [h.src0]; exact Int.le_refl _)]; exact h.src0
  · rcases List.mem_append.1 hx with hx | hx
    · obtain ⟨h1, h2⟩ := h.mem x hx
      exact ⟨h1, hup x h2⟩
    · simp at hx
      subst hx
      exact ⟨hjn, by simp [updL]; omega⟩
  · by_cases e : v = j
    · subst e
      exact .inr ⟨u, hu, hup u hu0, by rw [hold u hu0]; simp [updL], hp⟩
    · have e1 : updL lv j (lv u + 1) v = lv v := if_neg e
      rw [e1] at h0 ⊢
      rcases h.par v hv h0 with rfl | ⟨p, p1, p2, p3, p4⟩
      · exact .inl rfl
      · exact .inr ⟨p, p1, hup p p2, by rw [hold p p2]; exact p3, p4⟩
  · by_cases e : x = j
    · subst e
      exact .inl (by simp)
    · have e1 : updL lv j (lv u + 1) x = lv x := if_neg e
      rw [e1] at h0
      rcases h.cls x hx h0 with e | e | ⟨rfl, e⟩
      · exact .inl (List.mem_append_left _ e)
      · exact .inr (.inl fun v hv hpv => hup v (e v hv hpv))
      · refine .inr (.inr ⟨rfl, fun v hv hpv => ?_⟩)
        by_cases hvj : v = j
        · subst hvj; simp [updL]; omega
        · exact hup v (e v (by omega) hpv)
theorem Bfs.done (h : Bfs n r src lv q u n) : Bfs n r src lv q n 0 := by
  refine ⟨h.low, h.top, h.src0, h.mem, h.par, fun x hx h0 => ?_⟩
  rcases h.cls x hx h0 with e | e | ⟨_, e⟩
  · exact .inl e
  · exact .inr (.inl e)
  · exact .inr (.inl e)
theorem Bfs.lev (h : Bfs n r src lv [] n 0) : Lev n r src lv where
  low := h.low
  top := fun v hv => Int.lt_of_lt_of_le (h.top v hv) (cntL_le n lv).2
  src0 := h.src0
  par := h.par
  cls := fun x v hx hv h0 hp => by
    rcases h.cls x hx h0 with e | e | ⟨e, _⟩
    · cases e
    · exact e v hv hp
    · omega
end
end Go.Proofs.Ytobjcdbbdgloiaa
