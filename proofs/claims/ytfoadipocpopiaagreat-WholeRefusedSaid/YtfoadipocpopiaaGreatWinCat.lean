/- append(v, x...) of a slice that the call made, and of one that lies anywhere. Conditions: each theorem's own. -/
import Derived.Test.YtfoadipocpopiaaGreatWin
import Derived.Deep.Upon
namespace Go.Proofs.YtfoadipocpopiaaGreat
open Go.RowKit

section
variable {P : Program} {w w' : World} {E : TypeId} {size n : Nat} {v : Value} {xs : List Value}

/-- The empty slice literal. -/
theorem Win.lit (w : World) (E : TypeId) (size : Nat) : Win (w.alloc (.cells #[] E)) E size (.slice (some ⟨w.heap.size, 0, none⟩) 0 0) 0 [] :=
  ⟨by simp, .inr ⟨w.heap.size, 0, 0, #[], rfl, Go.Deep.blk_alloc_new _ _, by omega, by unfold maxLen; omega, by simp, fun j u h => by simp at h⟩⟩


/-- append of m elements. -/
theorem Win.cat {t ty : TypeId} {z : Value} {bytes : Nat} (ht : P.underlying t = some (.slice E)) (hinfo : (P.info? E).map (fun i => (i.zero, i.size, i.bytes)) = some (some z, size, bytes)) (hzs : z.cells.size = size) (hsz : 0 < size)
    (h : Win w E size v n xs) (ao : Option Addr) (m c : Nat) (news : List Value) (hl : news.length = m * size) (hm : 0 < m → ∃ ad, ao = some ad ∧ ∀ j u, news[j]? = some u → w.cell? (ad.add j) = some u) (h1 : ∀ u ∈ news, u.oneCell' = true)
    (hn : n + m ≤ 1000000000000) (hby : (n + m) * bytes ≤ 140737488355328) :
    ∃ v' w', (Builtin.append_ #[t, t] ty #[v, .slice ao m c]).run P w = .ok v' w' ∧ Win w' E size v' (n + m) (xs ++ news) ∧
      w.grownBy w' v.ownBlock ∧ (∀ g, v'.ownBlock = some g → v.ownBlock = some g ∨ g = w.heap.size) := by
  obtain ⟨i, hi, hz, hs, hbb⟩ := info_parts hinfo
  by_cases hm0 : m = 0
  · subst hm0
    obtain rfl : news = [] := List.eq_nil_of_length_eq_zero (by omega)
    obtain ⟨a, cap, rfl, hnc, _⟩ := h.form0
    have hr : (Builtin.append_ #[t, t] ty #[.slice a n cap, .slice ao 0 c]).run P w = .ok (.slice a n cap) w := by
      cases a <;> cases ao <;> simp [Builtin.append_, run_underlying ht, sizeOf, typeInfo, hi, Builtin.lenOf, Builtin.firstCells, hnc, storeCells, loadCells, loadCellsFrom]
    exact ⟨_, w, hr, by simpa using h, ⟨rfl, rfl, rfl, Nat.le_refl _, fun _ _ _ => rfl⟩, fun g hg => .inl hg⟩
  obtain ⟨ad, rfl, hnews⟩ := hm (by omega)
  have hl' : news.length = m * i.size := by rw [hs]; omega
  have hxl := h.1
  rcases h.2 with ⟨rfl, rfl⟩ | ⟨g, o, cap, cur, rfl, hb, h2, h3, h4, hc⟩
  · obtain rfl : xs = [] := List.eq_nil_of_length_eq_zero (by omega)
    have hr := run_append_nil (P := P) w t ty E i z ht hi hz ad m c news hl' hnews (by omega) (by omega) (by rw [hbb]; simp at hby; omega)
    have hge := grownCap_ge w m 0 E
    have hle := grownCap_le_maxLen w m 0 E (by unfold maxLen; omega)
    refine ⟨.slice (some ⟨w.heap.size, 0, none⟩) m (grownCap w m 0 E), _, hr, ⟨by simp [hl], .inr ⟨_, 0, _, _, by rw [Nat.zero_add]; rfl, Go.Deep.blk_alloc_new _ _, by omega, hle, ?_, ?_⟩⟩, ?_, fun g hg => by simp [Value.ownBlock] at hg; exact .inr hg.symm⟩
    · have e := size_zeroCells z.cells (grownCap w m 0 E - m)
      simp only [Array.size_append, List.size_toArray, e, hl, hzs]
      have : grownCap w m 0 E = m + (grownCap w m 0 E - m) := by omega
      rw [this, Nat.add_mul]; simp
    · intro j u hj
      have hlt : j < news.length := (List.getElem?_eq_some_iff.1 (by simpa using hj)).1
      rw [Nat.zero_add, Array.getElem?_append_left (by simpa using hlt)]
      simpa using hj
    · exact ⟨rfl, rfl, rfl, by simp, fun k hk _ => by
        show (w.drew.alloc _).heap[k]? = _
        rw [Below.heap_alloc _ _ _ (show k < w.drew.heap.size from hk)]; rfl⟩
  · by_cases hroom : n + m ≤ cap
    · have hf := run_firstCells_some (P := P) w i.size m ad m c news hl' hnews
      rw [hs] at hf
      have hfit : o + n * size + news.length ≤ cur.size := by
        have : (n + m) * size ≤ cap * size := Nat.mul_le_mul_right _ hroom
        rw [Nat.add_mul] at this
        omega
      have hst := run_storeCells_at P g (o + n * size) E news 0 cur w hb (by omega) h1
      simp only [Nat.add_zero] at hst
      have hr : (Builtin.append_ #[t, t] ty #[.slice (some ⟨g, o, none⟩) n cap, .slice (some ad) m c]).run P w = .ok (.slice (some ⟨g, o, none⟩) (n + m) cap) (w.setRow g (cur.toList.take (o + n * size) ++ news ++ cur.toList.drop (o + n * size + news.length)).toArray) := by
        simp [Builtin.append_, run_underlying ht, sizeOf, typeInfo, hi, Builtin.lenOf, hroom, hf, addr_add, hs, hst]
      refine ⟨_, _, hr, ⟨by simp [hxl, hl, Nat.add_mul], .inr ⟨g, o, cap, _, rfl, setRow_heap w g cur _ E _ hb, hroom, h3, ?_, ?_⟩⟩, grown_setRow hb, fun g' hg' => .inl hg'⟩
      · simp; omega
      · intro j u hj
        by_cases hjx : j < xs.length
        · rw [List.getElem?_append_left hjx] at hj
          have := hc j u hj
          rw [List.getElem?_toArray, List.append_assoc, List.getElem?_append_left (by simp; omega), List.getElem?_take, if_pos (by omega)]
          simpa using this
        · rw [List.getElem?_append_right (by omega)] at hj
          have hjn : j - xs.length < news.length := (List.getElem?_eq_some_iff.1 hj).1
          have ht : (cur.toList.take (o + n * size)).length = o + n * size := by simp; omega
          rw [List.getElem?_toArray, List.append_assoc, List.getElem?_append_right (by omega), ht, List.getElem?_append_left (by omega)]
          rw [show o + j - (o + n * size) = j - xs.length by omega]
          exact hj
    · have hge := grownCap_ge w (n + m) cap E
      have hle := grownCap_le_maxLen w (n + m) cap E (by unfold maxLen; omega)
      have hr := run_append_grow (P := P) w t ty E i z ht hi hz ⟨g, o, none⟩ n cap xs (by rw [hs]; exact hxl) (fun j u hj => by
          rw [addr_add]; simp [World.cell?, hb, hc j u hj]) ad m c news hl' hnews (by omega) (by omega) (by
          rw [hbb]; exact growslice_fits (by omega) hby)
      refine ⟨_, _, hr, ⟨by simp [hxl, hl, Nat.add_mul], .inr ⟨_, 0, _, _, rfl, Go.Deep.blk_alloc_new _ _, hge, hle, ?_, ?_⟩⟩, ?_, fun g hg => by simp [Value.ownBlock] at hg; exact .inr hg.symm⟩
      · have e := size_zeroCells z.cells (grownCap w (n + m) cap E - (n + m))
        simp only [Array.size_append, List.size_toArray, e, hl, hzs, hxl]
        have : grownCap w (n + m) cap E = (n + m) + (grownCap w (n + m) cap E - (n + m)) := by omega
        rw [this, Nat.add_mul, Nat.add_mul]; simp
      · intro j u hj
        have hlt : j < (xs ++ news).length := (List.getElem?_eq_some_iff.1 hj).1
        simp only [List.length_append] at hlt
        rw [Nat.zero_add, Array.getElem?_append_left (by simpa using hlt)]
        have : (xs.toArray ++ news.toArray) = (xs ++ news).toArray := by simp
        rw [this, List.getElem?_toArray]
        exact hj
      · exact ⟨rfl, rfl, rfl, by simp, fun k hk _ => by
          show (w.drew.alloc _).heap[k]? = _
          rw [Below.heap_alloc _ _ _ (show k < w.drew.heap.size from hk)]; rfl⟩
end
end Go.Proofs.YtfoadipocpopiaaGreat
