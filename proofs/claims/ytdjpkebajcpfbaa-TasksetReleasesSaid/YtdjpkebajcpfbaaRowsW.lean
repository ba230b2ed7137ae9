/- A growing slice of rows of integers, that lie in blocks of their own. Conditions: each theorem's own. -/
import Derived.Test.YtdjpkebajcpfbaaSwI
namespace Go.Proofs.Ytdjpkebajcpfbaa
open Go.RowKit
def RowsW (N : Nat) (w : World) (v : Value) (R : List (List Int)) : Prop :=
  ∃ vals : List Value, Win w 41 1 v R.length vals ∧ (∀ g, v.ownBlock = some g → N ≤ g) ∧ ∀ (i : Nat) (r : List Int), R[i]? = some r → ∃ (a : Option Addr) (c : Nat), vals[i]? = some (Value.slice a r.length c) ∧ r.length ≤ c ∧ c ≤ 9223372036854775807 ∧ IntsAt w w.heap.size a r ∧ (r ≠ [] → ∀ g o, a = some ⟨g, o, none⟩ → v.ownBlock ≠ some g)
theorem RowsW.nil (N : Nat) (w : World) : RowsW N w (.slice none 0 0) [] :=
  ⟨[], Win.nil _ _ _, fun g h => by simp [Value.ownBlock] at h, fun i r h => by simp at h⟩
theorem RowsW.below {N : Nat} {w w' : World} {v : Value} {R : List (List Int)} (h : RowsW N w v R) (hb : Below w.heap.size w w') : RowsW N w' v R := by
  obtain ⟨vals, h1, h2, h3⟩ := h
  refine ⟨vals, h1.below hb fun g hg => h1.blk_lt hg, h2, fun i r hi => ?_⟩
  obtain ⟨a, c, q1, q2, q3, q4, q5⟩ := h3 i r hi
  exact ⟨a, c, q1, q2, q3, q4.on hb hb.size, q5⟩
/-- append of one row. -/
theorem RowsW.push {N : Nat} {w : World} {v : Value} {R : List (List Int)} (h : RowsW N w v R) (hN : N ≤ w.heap.size) (r : List Int) (a : Option Addr) (c : Nat) (hc : r.length ≤ c) (hcm : c ≤ 9223372036854775807) (hr : IntsAt w w.heap.size a r)
    (hne : r ≠ [] → ∀ g o, a = some ⟨g, o, none⟩ → v.ownBlock ≠ some g) (hm : R.length ≤ 1000000) :
    ∃ v' w', (Builtin.append_ #[40, 40] 40 #[v, .slice (some ⟨w.heap.size, 0, none⟩) 1 1]).run Try.prog (w.alloc (.cells #[.slice a r.length c] 41)) = .ok v' w' ∧ RowsW N w' v' (R ++ [r]) ∧ Below N w w' := by
  obtain ⟨vals, h1, h2, h3⟩ := h
  have hvl := h1.1
  obtain ⟨gg, o, cc, w', hrun, hw', hgr, hl, hlt⟩ := Win.push (P := Try.prog) (t := 40) (ty := 40) Try.underlying40 info_introw (by simp [Value.cells]) (by decide)
    (h1.alloc (.cells #[.slice a r.length c] 41)) ⟨w.heap.size, 0, none⟩ 1 [.slice a r.length c] rfl (fun k u hk => World.news_of_block (Go.Deep.blk_alloc_new _ _) k u hk) (fun u hu => by
      rw [List.mem_singleton.1 hu]; rfl) (by omega) (by omega)
  have hold : ∀ g, g < w.heap.size → v.ownBlock ≠ some g → w'.heap[g]? = w.heap[g]? := fun g hg hn => by
    rw [hgr.block g (by simp; omega) (fun e => hn e.symm)]
    exact Below.heap_alloc _ _ _ hg
  have hsz : w.heap.size ≤ w'.heap.size := by have := hgr.size; simp at this; omega
  have move : ∀ (a' : Option Addr) (r' : List Int), IntsAt w w.heap.size a' r' → (r' ≠ [] → ∀ g o, a' = some ⟨g, o, none⟩ → v.ownBlock ≠ some g) → IntsAt w' w'.heap.size a' r' := fun a' r' hi hn hne' => by
    obtain ⟨g, o', rfl, hg, hcell⟩ := hi hne'
    refine ⟨g, o', rfl, by omega, fun i x hx => ?_⟩
    rw [World.cell?_of_block (w := w) (a := ⟨g, o' + i, none⟩) (hold g hg (hn hne' g o' rfl))]
    exact hcell i x hx
  have own' : ∀ (a' : Option Addr) (r' : List Int), IntsAt w w.heap.size a' r' → (r' ≠ [] → ∀ g o, a' = some ⟨g, o, none⟩ → v.ownBlock ≠ some g) → r' ≠ [] → ∀ g o', a' = some ⟨g, o', none⟩ → (Value.slice (some ⟨gg, o, none⟩) (R.length + 1) cc).ownBlock ≠ some g := fun a' r' hi hn hne' g o' e e2 => by
    simp only [Value.ownBlock, Option.some.injEq] at e2
    obtain ⟨g2, o2, e3, hg, _⟩ := hi hne'
    subst e3
    simp only [Option.some.injEq, Addr.mk.injEq] at e
    obtain ⟨rfl, rfl, _⟩ := e
    rcases hl with hl | hl
    · exact hn hne' g2 o2 rfl (by rw [hl, e2])
    · have hl : gg = w.heap.size + 1 := by simpa using hl
      omega
  refine ⟨_, w', hrun, ⟨vals ++ [.slice a r.length c], by simpa using hw', fun g hg => ?_, fun i r' hi => ?_⟩, ((Below.refl N w).alloc hN _).grown hgr (by simp; omega) h2⟩
  · simp only [Value.ownBlock, Option.some.injEq] at hg
    subst hg
    rcases hl with hl | hl
    · exact h2 gg hl
    · rw [hl]; simp; omega
  · by_cases hlt2 : i < R.length
    · rw [List.getElem?_append_left hlt2] at hi
      obtain ⟨a', c', q1, q2, q3, q4, q5⟩ := h3 i r' hi
      have hv : (vals ++ [.slice a r.length c])[i]? = some (.slice a' r'.length c') := by
        rw [List.getElem?_append_left (by omega)]; exact q1
      exact ⟨a', c', hv, q2, q3, move a' r' q4 q5, own' a' r' q4 q5⟩
    · have hlt3 := (List.getElem?_eq_some_iff.1 hi).1
      rw [List.length_append, List.length_singleton] at hlt3
      obtain rfl : i = R.length := by omega
      rw [List.getElem?_append_right (Nat.le_refl _), Nat.sub_self] at hi
      simp only [List.getElem?_cons_zero, Option.some.injEq] at hi
      subst hi
      have hv : (vals ++ [.slice a r.length c])[R.length]? = some (.slice a r.length c) := by
        rw [List.getElem?_append_right (by omega), show R.length - vals.length = 0 by omega]; rfl
      exact ⟨a, c, hv, hc, hcm, move a r hr hne, own' a r hr hne⟩
theorem RowsW.rows {N : Nat} {w : World} {v : Value} {R : List (List Int)} (h : RowsW N w v R) : ∃ a c, v = .slice a R.length c ∧ R.length ≤ c ∧ c ≤ 9223372036854775807 ∧ RowsAt w w.heap.size a R := by
  obtain ⟨vals, h1, h2, h3⟩ := h
  obtain ⟨a, c, e, q1, q2⟩ := h1.form0
  refine ⟨a, c, e, q1, q2, fun hne => ?_⟩
  obtain ⟨g, o, cap, e2, hlt, _⟩ := h1.form (List.length_pos_iff.2 hne)
  rw [e2] at e h1
  simp only [Value.slice.injEq] at e
  obtain ⟨rfl, _⟩ := e
  refine ⟨g, o, rfl, hlt, fun i r hi => ?_⟩
  obtain ⟨a', c', p1, p2, p3, p4, _⟩ := h3 i r hi
  exact ⟨a', c', h1.cell p1, p2, p3, p4⟩
end Go.Proofs.Ytdjpkebajcpfbaa
