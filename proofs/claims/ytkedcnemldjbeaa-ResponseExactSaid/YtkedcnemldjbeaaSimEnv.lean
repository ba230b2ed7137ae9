/- From a valid list and permitted releases to the simulation's environment; what the walk over Simulate asks. Conditions: each theorem's own. -/
import Derived.Test.YtkedcnemldjbeaaSimMem
import Derived.Test.YtkedcnemldjbeaaSimI
import Derived.Test.YtkedcnemldjbeaaCheck
namespace Go.Proofs.Ytkedcnemldjbeaa
open Go.RowKit

def envOf (l : List CT) (rs : List (List Int)) : Env := ⟨l.length, fun i => (ctAt l i).c, fun i d => actV l i d, fun i => rwAt rs i⟩

theorem actS_le {m : Int → Option Int} {n d : Int} : ∀ {ss : List Sec}, (actS m n d ss).1 ≤ n ∧ ((actS m n d ss).2 = false → (actS m n d ss).1 = n)
  | [] => ⟨Int.le_refl _, fun _ => rfl⟩
  | s :: r => by
    rw [actS]
    split
    · exact ⟨Int.min_le_left .., fun h => by cases h⟩
    · exact actS_le
theorem okAt_mono {P : Int} {r : List Int} (h : spB P r = true) {k : Nat} {x y : Int} (hx : r[k]? = some x) (hy : r[k + 1]? = some y) : x + P ≤ y := by
  have hlt := (List.getElem?_eq_some_iff.1 hy).1
  have h1 := (spB_iff.1 h (k + 1) hlt).2
  rw [getD_get (by omega)] at hx
  rw [getD_get hlt] at hy
  rw [Nat.add_sub_cancel] at h1
  simp at hx hy
  rcases h1 with h1 | h1
  · omega
  · simp at h1; omega
theorem okAt_nonneg {P : Int} {r : List Int} (h : spB P r = true) {k : Nat} {x : Int} (hx : r[k]? = some x) : 0 ≤ x := by
  have hlt := (List.getElem?_eq_some_iff.1 hx).1
  have h1 := (spB_iff.1 h k hlt).1
  rw [getD_get hlt] at hx
  simp at hx h1; omega
theorem env_ok {l : List CT} {rs : List (List Int)} (hv : validL l = true) (hn : rs.length = l.length) (hs : rowsB l rs = true) : EnvOK (envOf l rs) where
  cost := fun i hi => by
    obtain ⟨⟨h1, _⟩, _⟩ := okT_bd ((validL_bd hv).2 _ (ctAt_mem (i := i) hi))
    exact h1
  act_le := fun i d _ => (actS_le (m := ceilM l) (n := i) (d := d) (ss := (ctAt l i).ss)).1
  act_no := fun i d _ => (actS_le (m := ceilM l) (n := i) (d := d) (ss := (ctAt l i).ss)).2
  mono := fun i k x y hi hx hy => by
    have hi : i < l.length := hi
    have h1 := rowsB_iff.1 hs i (by omega)
    have h2 := okAt_mono h1 hx hy
    obtain ⟨⟨_, _, h3, _⟩, _⟩ := okT_bd ((validL_bd hv).2 _ (ctAt_mem (i := i) hi))
    omega
  nonneg := fun i k x hi hx => by
    have hi : i < l.length := hi
    exact okAt_nonneg (rowsB_iff.1 hs i (by omega)) hx
theorem check_ok {l : List CT} {rs : List (List Int)} {un : Int} (h : checkV l rs un = 0) : validL l = true ∧ rs.length = l.length ∧ 0 ≤ un ∧ un ≤ 100000 ∧ rowsB l rs = true := by
  unfold checkV at h
  split at h
  · rename_i h1
    split at h
    · cases h
    · split at h
      · rename_i h2 h3
        exact ⟨h1.1, h1.2, by omega, by omega, h3⟩
      · cases h
  · cases h

/-! ### Counters of a run -/
theorem exec_bd {E : Env} {now : Int} {s : Sim} {t : Nat} : (exec E now t s).en.length ≤ s.en.length + 1 ∧ ∀ i, s.lo i ≤ (exec E now t s).lo i ∧ (exec E now t s).lo i ≤ s.lo i + 1 := by
  unfold exec
  split
  · exact ⟨by omega, fun i => ⟨by omega, by omega⟩⟩
  · have hl : ∀ i, s.lo i ≤ bump s.lo t i ∧ bump s.lo t i ≤ s.lo i + 1 := fun i => by unfold bump; split <;> omega
    split
    · exact ⟨by show s.en.length ≤ _; omega, hl⟩
    · exact ⟨by show (s.en ++ [_]).length ≤ _; simp, hl⟩
theorem exec_nx' {E : Env} {now : Int} {s : Sim} {t : Nat} : (exec E now t s).nx = s.nx := by
  unfold exec
  split
  · rfl
  · split <;> rfl
theorem run_bd (E : Env) : ∀ k : Nat, (run E k).en.length ≤ k ∧ ∀ i, (run E k).nx i ≤ k ∧ 0 ≤ (run E k).lo i ∧ (run E k).lo i ≤ k
  | 0 => ⟨by simp [run, sim0], fun i => by simp [run, sim0]⟩
  | k + 1 => by
    obtain ⟨h1, h2⟩ := run_bd E k
    have hr : ∀ i, (relK E k (run E k) E.n).nx i ≤ k + 1 := fun i => by
      have := (h2 i).1
      have h3 : (relK E k (run E k) E.n).nx i ≤ (run E k).nx i + 1 := by
        unfold relK
        show (if _ then (run E k).nx i + 1 else (run E k).nx i) ≤ _
        split
        · exact Nat.le_refl _
        · exact Nat.le_succ _
      omega
    have hlo : ∀ i, (relK E k (run E k) E.n).lo i = (run E k).lo i := fun _ => rfl
    rw [run]
    unfold step
    split
    · exact ⟨by show (run E k).en.length ≤ _; omega, fun i => ⟨hr i, by rw [hlo]; exact (h2 i).2.1, by rw [hlo]; have := (h2 i).2.2; omega⟩⟩
    · rename_i t ht
      obtain ⟨e1, e2⟩ := exec_bd (E := E) (now := k) (s := relK E k (run E k) E.n) (t := t)
      refine ⟨by have : (relK E k (run E k) E.n).en.length = (run E k).en.length := rfl; omega, fun i => ⟨by rw [exec_nx']; exact hr i, ?_, ?_⟩⟩
      · have := (e2 i).1; rw [hlo] at this; have := (h2 i).2.1; omega
      · have := (e2 i).2; rw [hlo] at this; have := (h2 i).2.2; omega

/-! ### Releases task by task -/
theorem relK_zero (E : Env) (now : Int) (s : Sim) : relK E now s 0 = s := by
  unfold relK
  obtain ⟨a, b, c, d⟩ := s
  simp
theorem relK_skip {E : Env} {now : Int} {s : Sim} {i : Nat} (h : due E s now i = false) : relK E now s (i + 1) = relK E now s i := by
  unfold relK
  congr 1
  · funext j
    by_cases e : j = i
    · subst e; simp [h]
    · have : (j < i + 1 ∧ due E s now j = true) ↔ (j < i ∧ due E s now j = true) := ⟨fun ⟨a, b⟩ => ⟨by omega, b⟩, fun ⟨a, b⟩ => ⟨by omega, b⟩⟩
      simp only [this]
  · funext j
    by_cases e : j = i
    · subst e; simp [h]
    · have : (j < i + 1 ∧ due E s now j = true) ↔ (j < i ∧ due E s now j = true) := ⟨fun ⟨a, b⟩ => ⟨by omega, b⟩, fun ⟨a, b⟩ => ⟨by omega, b⟩⟩
      simp only [this]
theorem relK_take {E : Env} {now : Int} {s : Sim} {i : Nat} (h : due E s now i = true) : relK E now s (i + 1) = ⟨upd (relK E now s i).wt i (s.wt i ++ [newPd s now i]), upd (relK E now s i).nx i (s.nx i + 1), s.lo, s.en⟩ := by
  unfold relK
  congr 1
  · funext j
    unfold upd
    by_cases e : j = i
    · subst e; simp [h]
    · have : (j < i + 1 ∧ due E s now j = true) ↔ (j < i ∧ due E s now j = true) := ⟨fun ⟨a, b⟩ => ⟨by omega, b⟩, fun ⟨a, b⟩ => ⟨by omega, b⟩⟩
      simp only [this, if_neg e]
  · funext j
    unfold upd
    by_cases e : j = i
    · subst e; simp [h]
    · have : (j < i + 1 ∧ due E s now j = true) ↔ (j < i ∧ due E s now j = true) := ⟨fun ⟨a, b⟩ => ⟨by omega, b⟩, fun ⟨a, b⟩ => ⟨by omega, b⟩⟩
      simp only [this, if_neg e]
theorem relK_own {E : Env} {now : Int} {s : Sim} {i : Nat} : (relK E now s i).wt i = s.wt i ∧ (relK E now s i).nx i = s.nx i := by simp [relK]
theorem due_no {E : Env} {s : Sim} {now : Int} {i : Nat} (h : ∀ x, (E.rel i)[s.nx i]? = some x → x ≠ now) : due E s now i = false := by
  unfold due
  cases hq : (E.rel i)[s.nx i]? with
  | none => rfl
  | some x => simp [h x hq]
theorem due_yes {E : Env} {s : Sim} {now : Int} {i : Nat} (h : (E.rel i)[s.nx i]? = some now) : due E s now i = true := by simp [due, h]

theorem SM.wait {b : SB} {mn sz : Nat} {cm : Int → Option Int} {w : World} {tg : Nat → Nat} {V : Nat → Value} {wt : Nat → List Pd} {nx lo : Nat → Int} {ev : Value} {en : List Jb}
    (h : SM b mn sz cm w tg V (fun i => (wt i).length) (fun i => (wt i).flatMap (encP i)) nx lo ev en) : WaitAt w w.heap.size b.W b.n wt := by
  intro i hi
  obtain ⟨hw, _⟩ := h.win i hi
  obtain ⟨a, c, e, _⟩ := hw.form0
  refine ⟨a, c, by rw [h.cellW hi, e], fun p r hp => ?_⟩
  obtain ⟨g, o, cap, e2, hlt, _⟩ := hw.form (by rw [hp]; simp)
  rw [e2] at e
  simp only [Value.slice.injEq] at e
  obtain ⟨rfl, _, _⟩ := e
  rw [e2] at hw
  have k : ∀ j u, (encP i p)[j]? = some u → w.cell? ⟨g, o + j, none⟩ = some u := fun j u hu => by
    refine hw.cell ?_
    rw [hp, List.flatMap_cons, List.getElem?_append_left (by have := (List.getElem?_eq_some_iff.1 hu).1; exact this)]
    exact hu
  exact ⟨g, o, rfl, hlt, k 0 _ rfl, k 1 _ rfl, k 2 _ rfl, k 3 _ rfl, k 4 _ rfl, k 5 _ rfl, k 6 _ rfl, k 7 _ rfl, k 8 _ rfl⟩

/-- The finished jobs lie in memory. -/
def JobsAt (w : World) (N : Nat) (a : Option Addr) (js : List Jb) : Prop :=
  js ≠ [] → ∃ b off, a = some ⟨b, off, none⟩ ∧ b < N ∧ ∀ i j, js[i]? = some j → w.cell? ⟨b, off + i * 5, none⟩ = some (.int .i64 j.tk) ∧ w.cell? ⟨b, off + i * 5 + 1, none⟩ = some (.int .i64 j.rel) ∧ w.cell? ⟨b, off + i * 5 + 2, none⟩ = some (.int .i64 j.st) ∧
    w.cell? ⟨b, off + i * 5 + 3, none⟩ = some (.int .i64 j.en) ∧ w.cell? ⟨b, off + i * 5 + 4, none⟩ = some (.int .i64 j.bl)
theorem JobsAt.keep {w w' : World} {N : Nat} {a : Option Addr} {js : List Jb} (h : JobsAt w N a js) (hb : Below N w w') : JobsAt w' N a js := fun hne => by
  obtain ⟨b, off, e, hlt, hc⟩ := h hne
  refine ⟨b, off, e, hlt, fun i j hj => ?_⟩
  obtain ⟨c0, c1, c2, c3, c4⟩ := hc i j hj
  exact ⟨keep_cellN hb hlt c0, keep_cellN hb hlt c1, keep_cellN hb hlt c2, keep_cellN hb hlt c3, keep_cellN hb hlt c4⟩
theorem JobsAt.more {w : World} {N N' : Nat} {a : Option Addr} {js : List Jb} (h : JobsAt w N a js) (hN : N ≤ N') : JobsAt w N' a js := fun hne => by
  obtain ⟨b, off, e, hlt, hc⟩ := h hne
  exact ⟨b, off, e, by omega, hc⟩
theorem JobsAt.on {w w' : World} {N : Nat} {a : Option Addr} {js : List Jb} (h : JobsAt w N a js) (hb : Below N w w') (hN : N ≤ w'.heap.size) : JobsAt w' w'.heap.size a js := (h.keep hb).more hN
theorem jobs_of_win {w : World} {v : Value} {js : List Jb} (h : Win w 59 5 v js.length (js.flatMap encJ)) : ∃ a c, v = .slice a js.length c ∧ js.length ≤ c ∧ c ≤ 9223372036854775807 ∧ JobsAt w w.heap.size a js := by
  obtain ⟨a, c, e, h1, h2⟩ := h.form0
  refine ⟨a, c, e, h1, h2, fun hne => ?_⟩
  obtain ⟨g, o, cap, e2, hlt, _⟩ := h.form (List.length_pos_iff.2 hne)
  rw [e2] at e h
  simp only [Value.slice.injEq] at e
  obtain ⟨rfl, _, _⟩ := e
  refine ⟨g, o, rfl, hlt, fun i j hj => ?_⟩
  have k : ∀ x u, x < 5 → (encJ j)[x]? = some u → w.cell? ⟨g, o + i * 5 + x, none⟩ = some u := fun x u hx hu => by
    rw [Nat.add_assoc]
    exact h.cell ((flat_get encJ_len hj hx).trans hu)
  exact ⟨k 0 _ (by omega) rfl, k 1 _ (by omega) rfl, k 2 _ (by omega) rfl, k 3 _ (by omega) rfl, k 4 _ (by omega) rfl⟩
end Go.Proofs.Ytkedcnemldjbeaa
