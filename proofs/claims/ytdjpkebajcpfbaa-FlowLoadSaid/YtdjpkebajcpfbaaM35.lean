/- Several texts in one: A growing slice of rows of integers, that lie in blocks of their own. Conditions: each theorem's own. append(v, x...) of a slice that the call made, and of one that lies anywhere. Conditions: each theorem's own. -/
import Derived.Test.YtdjpkebajcpfbaaSwI
import Derived.Test.YtdjpkebajcpfbaaWin
import Derived.Deep.Upon
namespace Go.Proofs.Ytdjpkebajcpfbaa
section
open Go.RowKit
def RowsW (N : Nat) (w : World) (v : Value) (R : List (List Int)) : Prop :=
  ∃ vals : List Value, Win w 41 1 v R.length vals ∧ (∀ g, v.ownBlock = some g → N ≤ g) ∧ ∀ (i : Nat) (r : List Int), R[i]? = some r → ∃ (a : Option Addr) (c : Nat), vals[i]? = some (Value.slice a r.length c) ∧ r.length ≤ c ∧ c ≤ 9223372036854775807 ∧ IntsAt w w.heap.size a r ∧ (r ≠ [] → ∀ g o, a = some ⟨g, o, none⟩ → v.ownBlock ≠ some g)
theorem RowsW.nil (N : Nat) (w : World) : RowsW N w (.slice none 0 0) [] :=
  ⟨[], Win.nil _ _ _, fun g h => by simp [Value.ownBlock] at h, fun i r h => by simp at h⟩
theorem RowsW.below {N : Nat} {w w' : World} {v : Value} {R : List (List Int)} (h : RowsW N w v R) (hb : Below w.heap.size w w') : RowsW N w' v R := by
  obtain ⟨vals, h1, h2, h3⟩ := h
  refine ⟨vals, h1.below hb fun g hg => h1.blk_lt hg, h2, fun i r hi => ?_⟩
  obtain ⟨a, c, q1, q2, q3, q4, q5⟩ := h3 i r hi
  exact ⟨a, c, q1, q2, q3, q4.on hb hb.size, q5⟩
/-- append of one row. -/
theorem RowsW.push {N : Nat} {w : World} {v : Value} {R : List (List Int)} (h : RowsW N w v R) (hN : N ≤ w.heap.size) (r : List Int) (a : Option Addr) (c : Nat) (hc : r.length ≤ c) (hcm : c ≤ 9223372036854775807) (hr : IntsAt w w.heap.size a r)
    (hne : r ≠ [] → ∀ g o, a = some ⟨g, o, none⟩ → v.ownBlock ≠ some g) (hm : R.length ≤ 1000000) :
    ∃ v' w', (Builtin.append_ #[40, 40] 40 #[v, .slice (some ⟨w.heap.size, 0, none⟩) 1 1]).run Try.prog (w.alloc (.cells #[.slice a r.length c] 41)) = .ok v' w' ∧ RowsW N w' v' (R ++ [r]) ∧ Below N w w' := by
  obtain ⟨vals, h1, h2, h3⟩ := h
  have hvl := h1.1
  obtain ⟨gg, o, cc, w', hrun, hw', hgr, hl, hlt⟩ := Win.push (P := Try.prog) (t := 40) (ty := 40) Try.underlying40 info_introw (by simp [Value.cells]) (by decide)
    (h1.alloc (.cells #[.slice a r.length c] 41)) ⟨w.heap.size, 0, none⟩ 1 [.slice a r.length c] rfl (fun k u hk => World.news_of_block (Go.Deep.blk_alloc_new _ _) k u hk) (fun u hu => by
      rw [List.mem_singleton.1 hu]; rfl) (by omega) (by omega)
  have hold : ∀ g, g < w.heap.size → v.ownBlock ≠ some g → w'.heap[g]? = w.heap[g]? := fun g hg hn => by
    rw [hgr.block g (by simp; omega) (fun e => hn e.symm)]
    exact Below.heap_alloc _ _ _ hg
  have hsz : w.heap.size ≤ w'.heap.size := by have := hgr.size; simp at this; omega
  have move : ∀ (a' : Option Addr) (r' : List Int), IntsAt w w.heap.size a' r' → (r' ≠ [] → ∀ g o, a' = some ⟨g, o, none⟩ → v.ownBlock ≠ some g) → IntsAt w' w'.heap.size a' r' := fun a' r' hi hn hne' => by
    obtain ⟨g, o', rfl, hg, hcell⟩ := hi hne'
    refine ⟨g, o', rfl, by omega, fun i x hx => ?_⟩
    rw [World.cell?_of_block (w := w) (a := ⟨g, o' + i, none⟩) (hold g hg (hn hne' g o' rfl))]
    exact hcell i x hx
  have own' : ∀ (a' : Option Addr) (r' : List Int), IntsAt w w.heap.size a' r' → (r' ≠ [] → ∀ g o, a' = some ⟨g, o, none⟩ → v.ownBlock ≠ some g) → r' ≠ [] → ∀ g o', a' = some ⟨g, o', none⟩ → (Value.slice (some ⟨gg, o, none⟩) (R.length + 1) cc).ownBlock ≠ some g := fun a' r' hi hn hne' g o' e e2 => by
    simp only [Value.ownBlock, Option.some.injEq] at e2
    obtain ⟨g2, o2, e3, hg, _⟩ := hi hne'
    subst e3
    simp only [Option.some.injEq, Addr.mk.injEq] at e
    obtain ⟨rfl, rfl, _⟩ := e
    rcases hl with hl | hl
    · exact hn hne' g2 o2 rfl (by rw [hl, e2])
    · have hl : gg = w.heap.size + 1 := by simpa using hl
      omega
  refine ⟨_, w', hrun, ⟨vals ++ [.slice a r.length c], by simpa using hw', fun g hg => ?_, fun i r' hi => ?_⟩, ((Below.refl N w).alloc hN _).grown hgr (by simp; omega) h2⟩
  · simp only [Value.ownBlock, Option.some.injEq] at hg
    subst hg
    rcases hl with hl | hl
    · exact h2 gg hl
    · rw [hl]; simp; omega
  · by_cases hlt2 : i < R.length
    · rw [List.getElem?_append_left hlt2] at hi
      obtain ⟨a', c', q1, q2, q3, q4, q5⟩ := h3 i r' hi
      have hv : (vals ++ [.slice a r.length c])[i]? = some (.slice a' r'.length c') := by
        rw [List.getElem?_append_left (by omega)]; exact q1
      exact ⟨a', c', hv, q2, q3, move a' r' q4 q5, own' a' r' q4 q5⟩
    · have hlt3 := (List.getElem?_eq_some_iff.1 hi).1
      rw [List.length_append, List.length_singleton] at hlt3
      obtain rfl : i = R.length := by omega
      rw [List.getElem?_append_right (Nat.le_refl _), Nat.sub_self] at hi
      simp only [List.getElem?_cons_zero, Option.some.injEq] at hi
      subst hi
      have hv : (vals ++ [.slice a r.length c])[R.length]? = some (.slice a r.length c) := by
        rw [List.getElem?_append_right (by omega), show R.length - vals.length = 0 by omega]; rfl
      exact ⟨a, c, hv, hc, hcm, move a r hr hne, own' a r hr hne⟩
theorem RowsW.rows {N : Nat} {w : World} {v : Value} {R : List (List Int)} (h : RowsW N w v R) : ∃ a c, v = .slice a R.length c ∧ R.length ≤ c ∧ c ≤ 9223372036854775807 ∧ RowsAt w w.heap.size a R := by
  obtain ⟨vals, h1, h2, h3⟩ := h
  obtain ⟨a, c, e, q1, q2⟩ := h1.form0
  refine ⟨a, c, e, q1, q2, fun hne => ?_⟩
  obtain ⟨g, o, cap, e2, hlt, _⟩ := h1.form (List.length_pos_iff.2 hne)
  rw [e2] at e h1
  simp only [Value.slice.injEq] at e
  obtain ⟨rfl, _⟩ := e
  refine ⟨g, o, rfl, hlt, fun i r hi => ?_⟩
  obtain ⟨a', c', p1, p2, p3, p4, _⟩ := h3 i r hi
  exact ⟨a', c', h1.cell p1, p2, p3, p4⟩
end

section
open Go.RowKit

section
variable {P : Program} {w w' : World} {E : TypeId} {size n : Nat} {v : Value} {xs : List Value}

/-- The empty slice literal. -/
theorem Win.lit (w : World) (E : TypeId) (size : Nat) : Win (w.alloc (.cells #[] E)) E size (.slice (some ⟨w.heap.size, 0, none⟩) 0 0) 0 [] :=
  ⟨by simp, .inr ⟨w.heap.size, 0, 0, #[], rfl, Go.Deep.blk_alloc_new _ _, by omega, by unfold maxLen; omega, by simp, fun j u h => by simp at h⟩⟩


/-- append of m elements. -/
theorem Win.cat {t ty : TypeId} {z : Value} {bytes : Nat} (ht : P.underlying t = some (.slice E)) (hinfo : (P.info? E).map (fun i => (i.zero, i.size, i.bytes)) = some (some z, size, bytes)) (hzs : z.cells.size = size) (hsz : 0 < size)
    (h : Win w E size v n xs) (ao : Option Addr) (m c : Nat) (news : List Value) (hl : news.length = m * size) (hm : 0 < m → ∃ ad, ao = some ad ∧ ∀ j u, news[j]? = some u → w.cell? (ad.add j) = some u) (h1 : ∀ u ∈ news, u.oneCell' = true)
    (hn : n + m ≤ 1000000000000) (hby : (n + m) * bytes ≤ 140737488355328) :
    ∃ v' w', (Builtin.append_ #[t, t] ty #[v, .slice ao m c]).run P w = .ok v' w' ∧ Win w' E size v' (n + m) (xs ++ news) ∧
      w.grownBy w' v.ownBlock ∧ (∀ g, v'.ownBlock = some g → v.ownBlock = some g ∨ g = w.heap.size) := by
  obtain ⟨i, hi, hz, hs, hbb⟩ := info_parts hinfo
  by_cases hm0 : m = 0
  · subst hm0
    obtain rfl : news = [] := List.eq_nil_of_length_eq_zero (by omega)
    obtain ⟨a, cap, rfl, hnc, _⟩ := h.form0
    have hr : (Builtin.append_ #[t, t] ty #[.slice a n cap, .slice ao 0 c]).run P w = .ok (.slice a n cap) w := by
      cases a <;> cases ao <;> simp [Builtin.append_, run_underlying ht, sizeOf, typeInfo, hi, Builtin.lenOf, Builtin.firstCells, hnc, storeCells, loadCells, loadCellsFrom]
    exact ⟨_, w, hr, by simpa using h, ⟨rfl, rfl, rfl, Nat.le_refl _, fun _ _ _ => rfl⟩, fun g hg => .inl hg⟩
  obtain ⟨ad, rfl, hnews⟩ := hm (by omega)
  have hl' : news.length = m * i.size := by rw [hs]; omega
  have hxl := h.1
  rcases h.2 with ⟨rfl, rfl⟩ | ⟨g, o, cap, cur, rfl, hb, h2, h3, h4, hc⟩
  · obtain rfl : xs = [] := List.eq_nil_of_length_eq_zero (by omega)
    have hr := run_append_nil (P := P) w t ty E i z ht hi hz ad m c news hl' hnews (by omega) (by omega) (by rw [hbb]; simp at hby; omega)
    have hge := grownCap_ge w m 0 E
    have hle := grownCap_le_maxLen w m 0 E (by unfold maxLen; omega)
    refine ⟨.slice (some ⟨w.heap.size, 0, none⟩) m (grownCap w m 0 E), _, hr, ⟨by simp [hl], .inr ⟨_, 0, _, _, by rw [Nat.zero_add]; rfl, Go.Deep.blk_alloc_new _ _, by omega, hle, ?_, ?_⟩⟩, ?_, fun g hg => by simp [Value.ownBlock] at hg; exact .inr hg.symm⟩
    · have e := size_zeroCells z.cells (grownCap w m 0 E - m)
      simp only [Array.size_append, List.size_toArray, e, hl, hzs]
      have : grownCap w m 0 E = m + (grownCap w m 0 E - m) := by omega
      rw [this, Nat.add_mul]; simp
    · intro j u hj
      have hlt : j < news.length := (List.getElem?_eq_some_iff.1 (by simpa using hj)).1
      rw [Nat.zero_add, Array.getElem?_append_left (by simpa using hlt)]
      simpa using hj
    · exact ⟨rfl, rfl, rfl, by simp, fun k hk _ => by
        show (w.drew.alloc _).heap[k]? = _
        rw [Below.heap_alloc _ _ _ (show k < w.drew.heap.size from hk)]; rfl⟩
  · by_cases hroom : n + m ≤ cap
    · have hf := run_firstCells_some (P := P) w i.size m ad m c news hl' hnews
      rw [hs] at hf
      have hfit : o + n * size + news.length ≤ cur.size := by
        have : (n + m) * size ≤ cap * size := Nat.mul_le_mul_right _ hroom
        rw [Nat.add_mul] at this
        omega
      have hst := run_storeCells_at P g (o + n * size) E news 0 cur w hb (by omega) h1
      simp only [Nat.add_zero] at hst
      have hr : (Builtin.append_ #[t, t] ty #[.slice (some ⟨g, o, none⟩) n cap, .slice (some ad) m c]).run P w = .ok (.slice (some ⟨g, o, none⟩) (n + m) cap) (w.setRow g (cur.toList.take (o + n * size) ++ news ++ cur.toList.drop (o + n * size + news.length)).toArray) := by
        simp [Builtin.append_, run_underlying ht, sizeOf, typeInfo, hi, Builtin.lenOf, hroom, hf, addr_add, hs, hst]
      refine ⟨_, _, hr, ⟨by simp [hxl, hl, Nat.add_mul], .inr ⟨g, o, cap, _, rfl, setRow_heap w g cur _ E _ hb, hroom, h3, ?_, ?_⟩⟩, grown_setRow hb, fun g' hg' => .inl hg'⟩
      · simp; omega
      · intro j u hj
        by_cases hjx : j < xs.length
        · rw [List.getElem?_append_left hjx] at hj
          have := hc j u hj
          rw [List.getElem?_toArray, List.append_assoc, List.getElem?_append_left (by simp; omega), List.getElem?_take, if_pos (by omega)]
          simpa using this
        · rw [List.getElem?_append_right (by omega)] at hj
          have hjn : j - xs.length < news.length := (List.getElem?_eq_some_iff.1 hj).1
          have ht : (cur.toList.take (o + n * size)).length = o + n * size := by simp; omega
          rw [List.getElem?_toArray, List.append_assoc, List.getElem?_append_right (by omega), ht, List.getElem?_append_left (by omega)]
          rw [show o + j - (o + n * size) = j - xs.length by omega]
          exact hj
    · have hge := grownCap_ge w (n + m) cap E
      have hle := grownCap_le_maxLen w (n + m) cap E (by unfold maxLen; omega)
      have hr := run_append_grow (P := P) w t ty E i z ht hi hz ⟨g, o, none⟩ n cap xs (by rw [hs]; exact hxl) (fun j u hj => by
          rw [addr_add]; simp [World.cell?, hb, hc j u hj]) ad m c news hl' hnews (by omega) (by omega) (by
          rw [hbb]; exact growslice_fits (by omega) hby)
      refine ⟨_, _, hr, ⟨by simp [hxl, hl, Nat.add_mul], .inr ⟨_, 0, _, _, rfl, Go.Deep.blk_alloc_new _ _, hge, hle, ?_, ?_⟩⟩, ?_, fun g hg => by simp [Value.ownBlock] at hg; exact .inr hg.symm⟩
      · have e := size_zeroCells z.cells (grownCap w (n + m) cap E - (n + m))
        simp only [Array.size_append, List.size_toArray, e, hl, hzs, hxl]
        have : grownCap w (n + m) cap E = (n + m) + (grownCap w (n + m) cap E - (n + m)) := by omega
        rw [this, Nat.add_mul, Nat.add_mul]; simp
      · intro j u hj
        have hlt : j < (xs ++ news).length := (List.getElem?_eq_some_iff.1 hj).1
        simp only [List.length_append] at hlt
        rw [Nat.zero_add, Array.getElem?_append_left (by simpa using hlt)]
        have : (xs.toArray ++ news.toArray) = (xs ++ news).toArray := by simp
        rw [this, List.getElem?_toArray]
        exact hj
      · exact ⟨rfl, rfl, rfl, by simp, fun k hk _ => by
          show (w.drew.alloc _).heap[k]? = _
          rw [Below.heap_alloc _ _ _ (show k < w.drew.heap.size from hk)]; rfl⟩
end
end
end Go.Proofs.Ytdjpkebajcpfbaa
