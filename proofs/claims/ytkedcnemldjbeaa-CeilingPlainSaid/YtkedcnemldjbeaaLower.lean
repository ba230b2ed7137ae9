/- Further tasks without sections: the plain part, and lists put together in memory. Conditions: each theorem's own. -/
import Derived.Test.YtkedcnemldjbeaaSimQ
import Derived.Test.YtkedcnemldjbeaaSimMid
import Derived.Test.YtkedcnemldjbeaaWinCat
import Derived.Test.YtkedcnemldjbeaaLawAbove
namespace Go.Proofs.Ytkedcnemldjbeaa
open Go.RowKit

theorem tasksS_app {l r : List CT} : ∀ {i : Nat} {st : (Int → Option Int) × Nat}, tasksS i st (l ++ r) = tasksS (i + l.length) (tasksS i st l) r := by
  induction l with
  | nil => intro i st; rfl
  | cons t l ih =>
    intro i st
    rw [List.cons_append, tasksS, ih, tasksS, List.length_cons]
    congr 1; omega
theorem tasksS_free {r : List CT} (h : ∀ t ∈ r, t.ss = []) : ∀ {i : Nat} {st : (Int → Option Int) × Nat}, tasksS i st r = st := by
  induction r with
  | nil => intro i st; rfl
  | cons t r ih =>
    intro i st
    rw [tasksS, ih (fun x hx => h x (List.mem_cons_of_mem _ hx)), h t (List.mem_cons_self ..)]
    rfl
theorem ceilM_app_free {l r : List CT} (h : ∀ t ∈ r, t.ss = []) : ceilM (l ++ r) = ceilM l := by
  unfold ceilM ceilS
  rw [tasksS_app, tasksS_free h]
theorem ctAt_left {l r : List CT} {i : Nat} (h : i < l.length) : ctAt (l ++ r) i = ctAt l i := by
  unfold ctAt
  rw [List.getD_eq_getElem?_getD, List.getD_eq_getElem?_getD, List.getElem?_append_left h]
theorem rwAt_left {l r : List (List Int)} {i : Nat} (h : i < l.length) : rwAt (l ++ r) i = rwAt l i := by
  unfold rwAt
  rw [List.getD_eq_getElem?_getD, List.getD_eq_getElem?_getD, List.getElem?_append_left h]
theorem ctAt_right {l r : List CT} {i : Nat} (h : l.length ≤ i) (h2 : i < (l ++ r).length) : ctAt (l ++ r) i ∈ r := by
  have := ctAt_get h2
  rw [List.getElem?_append_right h] at this
  exact List.mem_of_getElem? this
theorem proj_lower {l r : List CT} {rs qs : List (List Int)} (hn : rs.length = l.length) (hf : ∀ t ∈ r, t.ss = []) : Proj (envOf (l ++ r) (rs ++ qs)) (envOf l rs) where
  le := by show l.length ≤ (l ++ r).length; simp
  cost := fun i hi => by
    have hi : i < l.length := hi
    show (ctAt (l ++ r) i).c = (ctAt l i).c
    rw [ctAt_left hi]
  act := fun i d hi => by
    have hi : i < l.length := hi
    show actV (l ++ r) i d = actV l i d
    unfold actV
    rw [ceilM_app_free hf, ctAt_left hi]
  rel := fun i hi => by
    have hi : i < l.length := hi
    show rwAt (rs ++ qs) i = rwAt rs i
    exact rwAt_left (by omega)
  low := fun i d h1 h2 => by
    have h1 : l.length ≤ i := h1
    have h2 : i < (l ++ r).length := h2
    show actV (l ++ r) i d = _
    unfold actV
    rw [hf _ (ctAt_right h1 h2)]
    rfl
/-- What is found of the first tasks. -/
theorem lower_same {l r : List CT} {rs qs : List (List Int)} (hn : rs.length = l.length) (hf : ∀ t ∈ r, t.ss = []) (hv : validL (l ++ r) = true) (hq : (rs ++ qs).length = (l ++ r).length) (hs : rowsB (l ++ r) (rs ++ qs) = true) (k : Nat) :
    (run (envOf (l ++ r) (rs ++ qs)) k).en.filter (fun j => decide (j.tk < l.length)) = (run (envOf l rs) k).en :=
  (prel_run (env_ok hv hq hs) (proj_lower hn hf) k).en

/-! ### Lists put together in memory -/
def TaskCells (w : World) (N : Nat) (cs : List Value) (l : List CT) : Prop := ∀ i t, l[i]? = some t →
  cs[i * 4]? = some (.int .i64 t.c) ∧ cs[i * 4 + 1]? = some (.int .i64 t.p) ∧ cs[i * 4 + 2]? = some (.int .i64 t.d) ∧ ∃ sa sc, cs[i * 4 + 3]? = some (.slice sa t.ss.length sc) ∧ t.ss.length ≤ 9223372036854775807 ∧ SecsAt w N sa t.ss
theorem TaskCells.keep {w w' : World} {N : Nat} {cs : List Value} {l : List CT} (h : TaskCells w N cs l) (hb : Below N w w') : TaskCells w' N cs l := fun i t hi => by
  obtain ⟨c0, c1, c2, sa, sc, c3, h1, h2⟩ := h i t hi
  exact ⟨c0, c1, c2, sa, sc, c3, h1, h2.keep hb⟩
theorem cells_read {w : World} {b off n : Nat} (h : ∀ j, j < n → ∃ v, w.cell? ⟨b, off + j, none⟩ = some v ∧ v.oneCell' = true) : ∃ cs : List Value, cs.length = n ∧ (∀ j u, cs[j]? = some u → w.cell? ⟨b, off + j, none⟩ = some u) ∧ ∀ u ∈ cs, u.oneCell' = true := by
  have hx : ∀ j u, ((List.range n).map (fun j => (w.cell? ⟨b, off + j, none⟩).getD (.bool false)))[j]? = some u → w.cell? ⟨b, off + j, none⟩ = some u ∧ u.oneCell' = true := fun j u hj => by
    have hlt : j < n := by
      have := (List.getElem?_eq_some_iff.1 hj).1
      simpa using this
    obtain ⟨v, hv, ho⟩ := h j hlt
    rw [List.getElem?_map, List.getElem?_range hlt] at hj
    simp only [Option.map_some, hv, Option.getD_some, Option.some.injEq] at hj
    subst hj
    exact ⟨hv, ho⟩
  refine ⟨(List.range n).map (fun j => (w.cell? ⟨b, off + j, none⟩).getD (.bool false)), by simp, fun j u hj => (hx j u hj).1, fun u hu => ?_⟩
  obtain ⟨j, hj⟩ := List.mem_iff_getElem?.1 hu
  exact (hx j u hj).2
theorem tasks_cells {w : World} {N : Nat} {a : Option Addr} {l : List CT} (hc : TasksAt w N a l) : ∃ cs : List Value, cs.length = l.length * 4 ∧
    (0 < l.length → ∃ ad, a = some ad ∧ ad.block < N ∧ ∀ j u, cs[j]? = some u → w.cell? (ad.add j) = some u) ∧ (∀ u ∈ cs, u.oneCell' = true) ∧ TaskCells w N cs l := by
  by_cases h0 : l = []
  · subst h0
    exact ⟨[], rfl, fun h => absurd h (Nat.lt_irrefl _), fun u hu => (by cases hu), fun i t hi => by simp at hi⟩
  · obtain ⟨b, off, rfl, hbN, hcell⟩ := hc h0
    have hraw : ∀ j, j < l.length * 4 → ∃ v, w.cell? ⟨b, off + j, none⟩ = some v ∧ v.oneCell' = true := by
      intro j hj
      obtain ⟨c0, c1, c2, sa, sc, c3, _, _⟩ := hcell (j / 4) _ (ctAt_get (show j / 4 < l.length by omega))
      have : j % 4 = 0 ∨ j % 4 = 1 ∨ j % 4 = 2 ∨ j % 4 = 3 := by omega
      rcases this with h | h | h | h
      · exact ⟨_, by rw [show off + j = off + j / 4 * 4 by omega]; exact c0, rfl⟩
      · exact ⟨_, by rw [show off + j = off + j / 4 * 4 + 1 by omega]; exact c1, rfl⟩
      · exact ⟨_, by rw [show off + j = off + j / 4 * 4 + 2 by omega]; exact c2, rfl⟩
      · exact ⟨_, by rw [show off + j = off + j / 4 * 4 + 3 by omega]; exact c3, rfl⟩
    obtain ⟨cs, h1, h2, h3⟩ := cells_read hraw
    have hg : ∀ j, j < l.length * 4 → cs[j]? = w.cell? ⟨b, off + j, none⟩ := fun j hj => by
      have hs := List.getElem?_eq_getElem (show j < cs.length by omega)
      rw [hs, h2 j _ hs]
    refine ⟨cs, h1, fun _ => ⟨_, rfl, hbN, fun j u hj => by rw [addr_add]; exact h2 j u hj⟩, h3, fun i t hi => ?_⟩
    have hlt := (List.getElem?_eq_some_iff.1 hi).1
    obtain ⟨c0, c1, c2, sa, sc, c3, c4, c5⟩ := hcell i t hi
    rw [hg (i * 4) (by omega), hg (i * 4 + 1) (by omega), hg (i * 4 + 2) (by omega), hg (i * 4 + 3) (by omega)]
    exact ⟨c0, c1, c2, sa, sc, c3, c4, c5⟩
theorem tasks_of_cells {w : World} {N : Nat} {T : TypeId} {v : Value} {cs : List Value} {l : List CT} (h : Win w T 4 v l.length cs) (hc : TaskCells w N cs l) (hN : N ≤ w.heap.size) :
    ∃ a c, v = .slice a l.length c ∧ l.length ≤ c ∧ c ≤ 9223372036854775807 ∧ TasksAt w w.heap.size a l := by
  obtain ⟨a, c, e, h1, h2⟩ := h.form0
  refine ⟨a, c, e, h1, h2, fun hne => ?_⟩
  obtain ⟨g, o, cap, e2, hlt, _⟩ := h.form (List.length_pos_iff.2 hne)
  rw [e2] at e h
  simp only [Value.slice.injEq] at e
  obtain ⟨rfl, _, _⟩ := e
  refine ⟨g, o, rfl, hlt, fun i t hi => ?_⟩
  obtain ⟨c0, c1, c2, sa, sc, c3, c4, c5⟩ := hc i t hi
  simp only [Nat.add_assoc]
  exact ⟨h.cell c0, h.cell c1, h.cell c2, sa, sc, h.cell c3, c4, c5.more hN⟩
theorem TaskCells.snoc {w : World} {N : Nat} {cs : List Value} {l : List CT} (h : TaskCells w N cs l) (hl : cs.length = l.length * 4) (c p d : Int) : TaskCells w N (cs ++ [.int .i64 c, .int .i64 p, .int .i64 d, .slice none 0 0]) (l ++ [⟨c, p, d, []⟩]) := fun i t hi => by
  by_cases e : i < l.length
  · rw [List.getElem?_append_left e] at hi
    obtain ⟨c0, c1, c2, sa, sc, c3, c4, c5⟩ := h i t hi
    rw [List.getElem?_append_left (by omega), List.getElem?_append_left (by omega), List.getElem?_append_left (by omega), List.getElem?_append_left (by omega)]
    exact ⟨c0, c1, c2, sa, sc, c3, c4, c5⟩
  · have hlt := (List.getElem?_eq_some_iff.1 hi).1
    obtain rfl : i = l.length := by simp at hlt; omega
    rw [List.getElem?_append_right (by omega), Nat.sub_self] at hi
    obtain rfl : _ = t := by simpa using hi
    rw [← hl]
    refine ⟨by rw [List.getElem?_append_right (by omega), Nat.sub_self]; rfl, by rw [List.getElem?_append_right (by omega), show cs.length + 1 - cs.length = 1 by omega]; rfl, by rw [List.getElem?_append_right (by omega), show cs.length + 2 - cs.length = 2 by omega]; rfl, none, 0, by rw [List.getElem?_append_right (by omega), show cs.length + 3 - cs.length = 3 by omega]; rfl, by simp, fun h => absurd rfl h⟩

/-- A built-in append of a region that draws its order: what is known of its outcome. -/
theorem step_append_ex {P : Program} {ops : Array Oper} {o : Oper} {a : Act} {w : World} {K : Act → World → Prop} {Q : Exit → Act → World → Prop} {E : Prop} (hgd : o.guard = none) (s x : Operand) (t : TypeId)
    (ho : o.op = .call { callee := .builtin .append, args := #[s, x], argTypes := #[t, t] }) {v sl : Value} {F : Value → World → Prop} (hs : a.eval s = v) (hx : a.eval x = sl)
    (hrun : ∃ v' w', (Builtin.append_ #[t, t] o.type #[v, sl]).run P w = .ok v' w' ∧ F v' w') (h : ∀ v' w', F v' w' → K (a.put o.dst v') w') : if Region.wanted o (yielded ops a.tmps) = true then Oper.wp P o a w K Q else E := by
  obtain ⟨v', w', h1, h2⟩ := hrun
  exact step_append_by hgd s x t ho v sl v' w' hs hx h1 (h v' w' h2)

def App1 (w W : World) (n : Nat) (cs : List Value) (v' : Value) (w' : World) : Prop :=
  Win w' 30 4 v' n cs ∧ Below w.heap.size w w' ∧ (∀ k, v'.ownBlock = some k → w.heap.size ≤ k) ∧ W.heap.size ≤ w'.heap.size
def App2 (w : World) (l : List CT) (v' : Value) (w' : World) : Prop :=
  Below w.heap.size w w' ∧ ∃ a2 c2, v' = .slice a2 l.length c2 ∧ l.length ≤ c2 ∧ c2 ≤ 9223372036854775807 ∧ TasksAt w' w'.heap.size a2 l
theorem first_app {w W : World} {a : Option Addr} {cap g0 : Nat} {l : List CT} {cs : List Value} (h8 : l.length ≤ 1000) (h1 : cs.length = l.length * 4)
    (h2 : 0 < l.length → ∃ ad, a = some ad ∧ ad.block < w.heap.size ∧ ∀ j u, cs[j]? = some u → w.cell? (ad.add j) = some u) (h3 : ∀ u ∈ cs, u.oneCell' = true) (hb : Below w.heap.size w W) (hg0 : w.heap.size ≤ g0)
    (hW : Win W 30 4 (.slice (some ⟨g0, 0, none⟩) 0 0) 0 []) :
    ∃ v1 w1, (Builtin.append_ #[22, 22] 22 #[.slice (some ⟨g0, 0, none⟩) 0 0, .slice a l.length cap]).run Try.prog W = .ok v1 w1 ∧ (App1 w W l.length cs v1 w1 ∧ ∀ k, k < W.heap.size → k ≠ g0 → w1.heap[k]? = W.heap[k]?) := by
  obtain ⟨v1, w1, r1, k1, g1, o1⟩ := hW.cat (P := Try.prog) (t := 22) (ty := 22) Try.underlying22 info_task (by simp [Value.cells]) (by decide) a l.length cap cs h1
    (fun h0 => by
      obtain ⟨ad, e, hlt, hr⟩ := h2 h0
      refine ⟨ad, e, fun j u hj => ?_⟩
      have := hb.cell (p := ad.add j) (by unfold Addr.add; split <;> exact hlt)
      rw [this]; exact hr j u hj) h3 (by omega) (by omega)
  have sb := hb.size
  refine ⟨v1, w1, r1, ⟨by simpa using k1, hb.grown g1 sb (fun k hk => by simp [Value.ownBlock] at hk; omega), fun k hk => ?_, g1.size⟩, fun k hk hne => g1.block k hk (fun e => hne (by simp [Value.ownBlock] at e; omega))⟩
  rcases o1 k hk with e | e
  · simp [Value.ownBlock] at e; omega
  · omega
theorem second_app {w w1 : World} {h40 n : Nat} {l : List CT} {cs : List Value} {v1 : Value} {c p d : Int} {W : World} (h8 : l.length ≤ 1000) (hn : n = l.length) (h1 : cs.length = l.length * 4) (h4 : TaskCells w w.heap.size cs l) (ha : App1 w W n cs v1 w1)
    (hblk : w1.heap[h40]? = some (.cells #[.int .i64 c, .int .i64 p, .int .i64 d, .slice none 0 0] 30)) :
    ∃ v2 w2, (Builtin.append_ #[22, 22] 22 #[v1, .slice (some ⟨h40, 0, none⟩) 1 1]).run Try.prog w1 = .ok v2 w2 ∧ App2 w (l ++ [⟨c, p, d, []⟩]) v2 w2 := by
  subst hn
  obtain ⟨k1, b1, hown, _⟩ := ha
  obtain ⟨v2, w2, r2, k2, g2, o2⟩ := k1.cat (P := Try.prog) (t := 22) (ty := 22) Try.underlying22 info_task (by simp [Value.cells]) (by decide) (some ⟨h40, 0, none⟩) 1 1 [.int .i64 c, .int .i64 p, .int .i64 d, .slice none 0 0] rfl
    (fun _ => ⟨_, rfl, fun j u hj => World.news_of_block hblk j u hj⟩) (fun u hu => by
      simp only [List.mem_cons, List.not_mem_nil, or_false] at hu
      rcases hu with rfl | rfl | rfl | rfl <;> rfl) (by omega) (by omega)
  have b2 : Below w.heap.size w w2 := b1.grown g2 b1.size hown
  have e2 : l.length + 1 = (l ++ [(⟨c, p, d, []⟩ : CT)]).length := by simp
  rw [e2] at k2
  exact ⟨v2, w2, r2, b2, tasks_of_cells k2 (((h4.keep b2).snoc h1 c p d)) b2.size⟩

theorem info_rw : (Try.prog.info? 35).map (fun i => (i.zero, i.size, i.bytes)) = some (some (.slice none 0 0), 1, 24) := by kernel_rfl
def RowCells (w : World) (N : Nat) (cs : List Value) (rs : List (List Int)) : Prop := ∀ (i : Nat) (r : List Int), rs[i]? = some r → ∃ (ra : Option Addr) (rc : Nat), cs[i]? = some (Value.slice ra r.length rc) ∧ r.length ≤ rc ∧ rc ≤ 9223372036854775807 ∧ IntsAt w N ra r
theorem RowCells.keep {w w' : World} {N : Nat} {cs : List Value} {l : List (List Int)} (h : RowCells w N cs l) (hb : Below N w w') : RowCells w' N cs l := fun i t hi => by
  obtain ⟨ra, rc, c0, h1, h2, h3⟩ := h i t hi
  exact ⟨ra, rc, c0, h1, h2, h3.keep hb⟩
theorem rows_cells {w : World} {N : Nat} {a : Option Addr} {l : List (List Int)} (hc : RowsAt w N a l) : ∃ cs : List Value, cs.length = l.length ∧
    (0 < l.length → ∃ ad, a = some ad ∧ ad.block < N ∧ ∀ j u, cs[j]? = some u → w.cell? (ad.add j) = some u) ∧ (∀ u ∈ cs, u.oneCell' = true) ∧ RowCells w N cs l := by
  by_cases h0 : l = []
  · subst h0
    exact ⟨[], rfl, fun h => absurd h (Nat.lt_irrefl _), fun u hu => (by cases hu), fun i t hi => by simp at hi⟩
  · obtain ⟨b, off, rfl, hbN, hcell⟩ := hc h0
    have hraw : ∀ j, j < l.length → ∃ v, w.cell? ⟨b, off + j, none⟩ = some v ∧ v.oneCell' = true := by
      intro j hj
      obtain ⟨sa, sc, c3, _, _⟩ := hcell j _ (List.getElem?_eq_getElem hj)
      exact ⟨_, c3, rfl⟩
    obtain ⟨cs, h1, h2, h3⟩ := cells_read hraw
    have hg : ∀ j, j < l.length → cs[j]? = w.cell? ⟨b, off + j, none⟩ := fun j hj => by
      have hs := List.getElem?_eq_getElem (show j < cs.length by omega)
      rw [hs, h2 j _ hs]
    refine ⟨cs, h1, fun _ => ⟨_, rfl, hbN, fun j u hj => by rw [addr_add]; exact h2 j u hj⟩, h3, fun i t hi => ?_⟩
    have hlt := (List.getElem?_eq_some_iff.1 hi).1
    obtain ⟨ra, rc, c0, h5, h6, h7⟩ := hcell i t hi
    exact ⟨ra, rc, (hg i hlt).trans c0, h5, h6, h7⟩
theorem rows_of_cells {w : World} {N : Nat} {T : TypeId} {v : Value} {cs : List Value} {l : List (List Int)} (h : Win w T 1 v l.length cs) (hc : RowCells w N cs l) (hN : N ≤ w.heap.size) :
    ∃ a c, v = .slice a l.length c ∧ l.length ≤ c ∧ c ≤ 9223372036854775807 ∧ RowsAt w w.heap.size a l := by
  obtain ⟨a, c, e, h1, h2⟩ := h.form0
  refine ⟨a, c, e, h1, h2, fun hne => ?_⟩
  obtain ⟨g, o, cap, e2, hlt, _⟩ := h.form (List.length_pos_iff.2 hne)
  rw [e2] at e h
  simp only [Value.slice.injEq] at e
  obtain ⟨rfl, _, _⟩ := e
  refine ⟨g, o, rfl, hlt, fun i t hi => ?_⟩
  obtain ⟨ra, rc, c0, h5, h6, h7⟩ := hc i t hi
  exact ⟨ra, rc, h.cell c0, h5, h6, h7.more hN⟩
theorem RowCells.snoc {w : World} {N : Nat} {cs : List Value} {l : List (List Int)} (h : RowCells w N cs l) (hl : cs.length = l.length) {r : List Int} {ra : Option Addr} {rc : Nat} (h1 : r.length ≤ rc) (h2 : rc ≤ 9223372036854775807) (h3 : IntsAt w N ra r) : RowCells w N (cs ++ [.slice ra r.length rc]) (l ++ [r]) := fun i t hi => by
  by_cases e : i < l.length
  · rw [List.getElem?_append_left e] at hi
    obtain ⟨sa, sc, c3, c4⟩ := h i t hi
    exact ⟨sa, sc, by rw [List.getElem?_append_left (by omega)]; exact c3, c4⟩
  · have hlt := (List.getElem?_eq_some_iff.1 hi).1
    obtain rfl : i = l.length := by simp at hlt; omega
    rw [List.getElem?_append_right (by omega), Nat.sub_self] at hi
    obtain rfl : r = t := by simpa using hi
    exact ⟨ra, rc, by rw [List.getElem?_append_right (by omega), hl, Nat.sub_self]; rfl, h1, h2, h3⟩
/-- 'append(append([][]int{}, rs...), at)'. -/
theorem app2_rows {w : World} {a : Option Addr} {cap : Nat} {l : List (List Int)} (hc : RowsAt w w.heap.size a l) (h8 : l.length ≤ 1000) {r : List Int} {ra : Option Addr} {rc : Nat} (q1 : r.length ≤ rc) (q2 : rc ≤ 9223372036854775807) (q3 : IntsAt w w.heap.size ra r) :
    ∃ v1 w1 v2 w2, (Builtin.append_ #[49, 49] 49 #[.slice (some ⟨w.heap.size, 0, none⟩) 0 0, .slice a l.length cap]).run Try.prog (w.alloc (.cells #[] 35)) = .ok v1 w1 ∧
      (Builtin.append_ #[49, 49] 49 #[v1, .slice (some ⟨w1.heap.size, 0, none⟩) 1 1]).run Try.prog (w1.alloc (.cells #[.slice ra r.length rc] 35)) = .ok v2 w2 ∧
      Below w.heap.size w w1 ∧ Below w.heap.size w w2 ∧ ∃ a2 c2, v2 = .slice a2 (l ++ [r]).length c2 ∧ (l ++ [r]).length ≤ c2 ∧ c2 ≤ 9223372036854775807 ∧ RowsAt w2 w2.heap.size a2 (l ++ [r]) := by
  obtain ⟨cs, h1, h2, h3, h4⟩ := rows_cells hc
  have hbw : Below w.heap.size w (w.alloc (.cells #[] 35)) := (Below.refl _ _).alloc (Nat.le_refl _) _
  obtain ⟨v1, w1, r1, k1, g1, o1⟩ := (Win.lit w 35 1).cat (P := Try.prog) (t := 49) (ty := 49) Try.underlying49 info_rw (by simp [Value.cells]) (by decide) a l.length cap cs (by omega)
    (fun h0 => by
      obtain ⟨ad, e, hlt, hr⟩ := h2 h0
      refine ⟨ad, e, fun j u hj => ?_⟩
      have := hbw.cell (p := ad.add j) (by unfold Addr.add; split <;> exact hlt)
      rw [this]; exact hr j u hj) h3 (by omega) (by omega)
  have b1 : Below w.heap.size w w1 := hbw.grown g1 (by simp) (fun k hk => by simp [Value.ownBlock] at hk; omega)
  have s1 := b1.size
  obtain ⟨v2, w2, r2, k2, g2, o2⟩ := (k1.alloc (.cells #[.slice ra r.length rc] 35)).cat (P := Try.prog) (t := 49) (ty := 49) Try.underlying49 info_rw (by simp [Value.cells]) (by decide) (some ⟨w1.heap.size, 0, none⟩) 1 1 [.slice ra r.length rc] rfl
    (fun _ => ⟨_, rfl, fun j u hj => World.news_of_block (Go.Deep.blk_alloc_new _ _) j u hj⟩) (fun u hu => by
      simp only [List.mem_cons, List.not_mem_nil, or_false] at hu
      rcases hu with rfl <;> rfl) (by omega) (by omega)
  have hown : ∀ k, v1.ownBlock = some k → w.heap.size ≤ k := fun k hk => by
    rcases o1 k hk with e | e
    · simp [Value.ownBlock] at e; omega
    · simp at e; omega
  have b2 : Below w.heap.size w w2 := (b1.alloc s1 _).grown g2 (by simp; omega) hown
  have e2 : 0 + l.length + 1 = (l ++ [r]).length := by simp
  rw [e2] at k2
  exact ⟨v1, w1, v2, w2, r1, r2, b1, b2, rows_of_cells k2 (((h4.keep b2).snoc h1 q1 q2 (q3.keep b2))) b2.size⟩
end Go.Proofs.Ytkedcnemldjbeaa
