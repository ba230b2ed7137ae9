/- Rows of the call's own that hold tasks: a copy by append, stores into it. Conditions: each theorem's own. -/
import Derived.Test.YtkedcnemldjbeaaPlainMono
import Derived.Test.YtkedcnemldjbeaaLawAbove
import Derived.Deep.AppendLies
namespace Go.Proofs.Ytkedcnemldjbeaa
open Go.RowKit

/-- The values f are the cells of the tasks l; their sections lie below N. -/
def TaskRow (w : World) (N : Nat) (f : Nat → Value) (l : List CT) : Prop := ∀ i t, l[i]? = some t →
  f (i * 4) = .int .i64 t.c ∧ f (i * 4 + 1) = .int .i64 t.p ∧ f (i * 4 + 2) = .int .i64 t.d ∧ ∃ sa sc, f (i * 4 + 3) = .slice sa t.ss.length sc ∧ t.ss.length ≤ 9223372036854775807 ∧ SecsAt w N sa t.ss

theorem TaskRow.keep {w w' : World} {N : Nat} {f : Nat → Value} {l : List CT} (h : TaskRow w N f l) (hb : Below N w w') : TaskRow w' N f l := fun i t hi => by
  obtain ⟨h0, h1, h2, sa, sc, h3, h4, h5⟩ := h i t hi
  exact ⟨h0, h1, h2, sa, sc, h3, h4, h5.keep hb⟩
theorem TaskRow.tasks {w : World} {N g n : Nat} {ty : TypeId} {f : Nat → Value} {l : List CT} (h : TaskRow w N f l) (hr : w.rowIs g ty n f) (hn : l.length * 4 ≤ n) (hN : N ≤ w.heap.size) :
    TasksAt w w.heap.size (some ⟨g, 0, none⟩) l := fun _ => by
  refine ⟨g, 0, rfl, hr.lt, fun i t hi => ?_⟩
  have hlt : i < l.length := (List.getElem?_eq_some_iff.1 hi).1
  obtain ⟨h0, h1, h2, sa, sc, h3, h4, h5⟩ := h i t hi
  simp only [Nat.zero_add]
  refine ⟨?_, ?_, ?_, sa, sc, ?_, h4, h5.more hN⟩
  · rw [hr.cell (i := i * 4) (by omega), h0]
  · rw [hr.cell (i := i * 4 + 1) (by omega), h1]
  · rw [hr.cell (i := i * 4 + 2) (by omega), h2]
  · rw [hr.cell (i := i * 4 + 3) (by omega), h3]
theorem TaskRow.setC {w : World} {N J : Nat} {f : Nat → Value} {l : List CT} (h : TaskRow w N f l) (hJ : J < l.length) (c : Int) :
    TaskRow w N (fun j => if j = J * 4 then .int .i64 c else f j) (l.set J ⟨c, (ctAt l J).p, (ctAt l J).d, (ctAt l J).ss⟩) := fun i t hi => by
  rw [List.getElem?_set] at hi
  by_cases e : J = i
  · subst e
    rw [if_pos rfl, if_pos hJ] at hi
    obtain rfl : _ = t := by simpa using hi
    obtain ⟨h0, h1, h2, sa, sc, h3, h4, h5⟩ := h J _ (ctAt_get hJ)
    refine ⟨if_pos rfl, ?_, ?_, sa, sc, ?_, h4, h5⟩
    · show (if J * 4 + 1 = J * 4 then _ else _) = _; rw [if_neg (by omega)]; exact h1
    · show (if J * 4 + 2 = J * 4 then _ else _) = _; rw [if_neg (by omega)]; exact h2
    · show (if J * 4 + 3 = J * 4 then _ else _) = _; rw [if_neg (by omega)]; exact h3
  · rw [if_neg e] at hi
    obtain ⟨h0, h1, h2, sa, sc, h3, h4, h5⟩ := h i t hi
    refine ⟨?_, ?_, ?_, sa, sc, ?_, h4, h5⟩
    · show (if i * 4 = J * 4 then _ else _) = _; rw [if_neg (by omega)]; exact h0
    · show (if i * 4 + 1 = J * 4 then _ else _) = _; rw [if_neg (by omega)]; exact h1
    · show (if i * 4 + 2 = J * 4 then _ else _) = _; rw [if_neg (by omega)]; exact h2
    · show (if i * 4 + 3 = J * 4 then _ else _) = _; rw [if_neg (by omega)]; exact h3
theorem TaskRow.setPD {w : World} {N J : Nat} {f : Nat → Value} {l : List CT} (h : TaskRow w N f l) (hJ : J < l.length) (p d : Int) :
    TaskRow w N (fun j => if j = J * 4 + 2 then .int .i64 d else if j = J * 4 + 1 then .int .i64 p else f j) (l.set J ⟨(ctAt l J).c, p, d, (ctAt l J).ss⟩) := fun i t hi => by
  rw [List.getElem?_set] at hi
  by_cases e : J = i
  · subst e
    rw [if_pos rfl, if_pos hJ] at hi
    obtain rfl : _ = t := by simpa using hi
    obtain ⟨h0, h1, h2, sa, sc, h3, h4, h5⟩ := h J _ (ctAt_get hJ)
    refine ⟨?_, ?_, if_pos rfl, sa, sc, ?_, h4, h5⟩
    · show (if J * 4 = J * 4 + 2 then _ else if J * 4 = J * 4 + 1 then _ else _) = _; rw [if_neg (by omega), if_neg (by omega)]; exact h0
    · show (if J * 4 + 1 = J * 4 + 2 then _ else if J * 4 + 1 = J * 4 + 1 then _ else _) = _; rw [if_neg (by omega), if_pos rfl]
    · show (if J * 4 + 3 = J * 4 + 2 then _ else if J * 4 + 3 = J * 4 + 1 then _ else _) = _; rw [if_neg (by omega), if_neg (by omega)]; exact h3
  · rw [if_neg e] at hi
    obtain ⟨h0, h1, h2, sa, sc, h3, h4, h5⟩ := h i t hi
    refine ⟨?_, ?_, ?_, sa, sc, ?_, h4, h5⟩
    · show (if i * 4 = J * 4 + 2 then _ else if i * 4 = J * 4 + 1 then _ else _) = _; rw [if_neg (by omega), if_neg (by omega)]; exact h0
    · show (if i * 4 + 1 = J * 4 + 2 then _ else if i * 4 + 1 = J * 4 + 1 then _ else _) = _; rw [if_neg (by omega), if_neg (by omega)]; exact h1
    · show (if i * 4 + 2 = J * 4 + 2 then _ else if i * 4 + 2 = J * 4 + 1 then _ else _) = _; rw [if_neg (by omega), if_neg (by omega)]; exact h2
    · show (if i * 4 + 3 = J * 4 + 2 then _ else if i * 4 + 3 = J * 4 + 1 then _ else _) = _; rw [if_neg (by omega), if_neg (by omega)]; exact h3

/-- 'append([]Task{}, l...)': a row of its own with the tasks of l. -/
theorem app_tasks {w : World} {N b off cap : Nat} {l : List CT} (hc : TasksAt w N (some ⟨b, off, none⟩) l) (h0 : 0 < l.length) (h8 : l.length ≤ 8) (hN : N ≤ w.heap.size) :
    ∃ g c f w', (Builtin.append_ #[22, 22] 22 #[.slice (some ⟨w.heap.size, 0, none⟩) 0 0, .slice (some ⟨b, off, none⟩) l.length cap]).run Try.prog (w.alloc (.cells #[] 30)) = .ok (.slice (some ⟨g, 0, none⟩) l.length c) w' ∧
      w'.rowIs g 30 (c * 4) f ∧ TaskRow w N f l ∧ Below w.heap.size w w' ∧ w.heap.size ≤ g ∧ l.length ≤ c ∧ c ≤ 9223372036854775807 := by
  obtain ⟨b', off', e, hbN, hcell⟩ := hc (by intro e; subst e; simp at h0)
  simp only [Option.some.injEq, Addr.mk.injEq] at e
  obtain ⟨rfl, rfl, _⟩ := e
  obtain ⟨i0, hi0, hz0, hz1, hz2⟩ := info_parts info_task
  have hraw : ∀ j, j < l.length * 4 → ∃ v, w.cell? ⟨b, off + j, none⟩ = some v ∧ v.oneCell' = true := by
    intro j hj
    obtain ⟨c0, c1, c2, sa, sc, c3, _, _⟩ := hcell (j / 4) _ (ctAt_get (show j / 4 < l.length by omega))
    have : j % 4 = 0 ∨ j % 4 = 1 ∨ j % 4 = 2 ∨ j % 4 = 3 := by omega
    rcases this with h | h | h | h
    · exact ⟨_, by rw [show off + j = off + j / 4 * 4 by omega]; exact c0, rfl⟩
    · exact ⟨_, by rw [show off + j = off + j / 4 * 4 + 1 by omega]; exact c1, rfl⟩
    · exact ⟨_, by rw [show off + j = off + j / 4 * 4 + 2 by omega]; exact c2, rfl⟩
    · exact ⟨_, by rw [show off + j = off + j / 4 * 4 + 3 by omega]; exact c3, rfl⟩
  have hnews : ∃ news : List Value, news.length = l.length * 4 ∧ ∀ j u, news[j]? = some u → w.cell? ⟨b, off + j, none⟩ = some u ∧ u.oneCell' = true := by
    refine ⟨(List.range (l.length * 4)).map (fun j => (w.cell? ⟨b, off + j, none⟩).getD (.bool false)), by simp, fun j u hj => ?_⟩
    have hlt : j < l.length * 4 := by
      have := (List.getElem?_eq_some_iff.1 hj).1
      simpa using this
    obtain ⟨v, hv, ho⟩ := hraw j hlt
    rw [List.getElem?_map, List.getElem?_range hlt] at hj
    simp only [Option.map_some, hv, Option.getD_some, Option.some.injEq] at hj
    subst hj
    exact ⟨hv, ho⟩
  obtain ⟨news, hl, hn⟩ := hnews
  have hown : (w.alloc (.cells #[] 30)).ownsRow w.heap.size 30 4 (.slice (some ⟨w.heap.size, 0, none⟩) 0 0) 0 [] :=
    ⟨by simp, .inr ⟨w.heap.size, 0, #[], rfl, Nat.le_refl _, Go.Deep.blk_alloc_new _ _, by omega, by unfold maxLen; omega, by simp, by simp⟩⟩
  obtain ⟨g, c, w', hrun, hown', hg, hor, hglt⟩ := run_append_lies (P := Try.prog) (w.alloc (.cells #[] 30)) 22 22 w.heap.size 30 i0 _ 4 48 Try.underlying22 hi0 hz0 hz1 hz2 (by simp [Value.cells]) (by decide)
    _ 0 [] hown ⟨b, off, none⟩ l.length cap news hl (fun j u hj => by
      rw [Addr.add_mid]
      rw [World.cell?_alloc_lt _ _ _ (show b < w.heap.size by omega)]
      exact (hn j u hj).1)
    (fun u hu => by
      obtain ⟨j, hj⟩ := List.mem_iff_getElem?.1 hu
      exact (hn j u hj).2) h0 (by unfold maxLen; omega) (by omega) (by simp) _ rfl
  obtain ⟨q1, q2⟩ := hown'
  rcases q2 with ⟨q2, _⟩ | ⟨g', cap', cur, e1, e2, e3, e4, e5, e6, e7⟩
  · simp at q2
  · simp only [Value.slice.injEq, Option.some.injEq, Addr.mk.injEq] at e1
    obtain ⟨⟨rfl, _⟩, _, rfl⟩ := e1
    rw [Nat.zero_add] at hrun e4 e7
    refine ⟨g, c, fun i => (cur[i]?).getD (.bool false), w', hrun, ⟨cur, e3, e6, fun i hi => by show cur[i]? = some ((cur[i]?).getD (.bool false)); rw [Array.getElem?_eq_getElem (by omega)]; rfl⟩, ?_, ((Below.refl _ w).alloc (Nat.le_refl _) _).grown hg (by simp) (fun k hk => by simp [Value.ownBlock] at hk; omega), e2, e4, by unfold maxLen at e5; omega⟩
    have hcur : ∀ j, j < l.length * 4 → some ((cur[j]?).getD (.bool false)) = w.cell? ⟨b, off + j, none⟩ := by
      intro j hj
      have hx : news[j]? = cur[j]? := by
        have : (cur.toList.take (l.length * 4))[j]? = news[j]? := by rw [e7]; simp
        rw [List.getElem?_take, if_pos hj] at this
        rw [← this]; simp
      have hs : ∃ u, news[j]? = some u := ⟨news[j]'(by omega), List.getElem?_eq_getElem (by omega)⟩
      obtain ⟨u, hu⟩ := hs
      rw [← hx, hu, (hn j u hu).1]; rfl
    intro i t hi
    have hlt : i < l.length := (List.getElem?_eq_some_iff.1 hi).1
    obtain ⟨c0, c1, c2, sa, sc, c3, c4, c5⟩ := hcell i t hi
    have k0 := hcur (i * 4) (by omega)
    have k1 := hcur (i * 4 + 1) (by omega)
    have k2 := hcur (i * 4 + 2) (by omega)
    have k3 := hcur (i * 4 + 3) (by omega)
    rw [show off + (i * 4) = off + i * 4 by omega, c0] at k0
    rw [show off + (i * 4 + 1) = off + i * 4 + 1 by omega, c1] at k1
    rw [show off + (i * 4 + 2) = off + i * 4 + 2 by omega, c2] at k2
    rw [show off + (i * 4 + 3) = off + i * 4 + 3 by omega, c3] at k3
    exact ⟨Option.some.inj k0, Option.some.inj k1, Option.some.inj k2, sa, sc, Option.some.inj k3, c4, c5⟩
end Go.Proofs.Ytkedcnemldjbeaa
