/- append of one element to a slice that the call made, of any length that memory bears. Conditions: each theorem's own. -/
import Derived.Test.YtkedcnemldjbeaaWin
namespace Go.Proofs.Ytkedcnemldjbeaa
open Go.RowKit

section
variable {P : Program} {w w' : World} {E : TypeId} {size n : Nat} {v : Value} {xs : List Value}

theorem Win.pushB {t ty : TypeId} {z : Value} {bytes : Nat} (ht : P.underlying t = some (.slice E)) (hinfo : (P.info? E).map (fun i => (i.zero, i.size, i.bytes)) = some (some z, size, bytes)) (hzs : z.cells.size = size) (hsz : 0 < size)
    (h : Win w E size v n xs) (ad : Addr) (c : Nat) (news : List Value) (hl : news.length = size) (hnews : ∀ j u, news[j]? = some u → w.cell? (ad.add j) = some u) (h1 : ∀ u ∈ news, u.oneCell' = true)
    (hn : n + 1 ≤ 1000000000000000) (hby : (n + 1) * bytes ≤ 140737488355328) :
    ∃ g o cap w', (Builtin.append_ #[t, t] ty #[v, .slice (some ad) 1 c]).run P w = .ok (.slice (some ⟨g, o, none⟩) (n + 1) cap) w' ∧ Win w' E size (.slice (some ⟨g, o, none⟩) (n + 1) cap) (n + 1) (xs ++ news) ∧
      w.grownBy w' v.ownBlock ∧ (v.ownBlock = some g ∨ g = w.heap.size) ∧ g < w'.heap.size := by
  obtain ⟨i, hi, hz, hs, hbb⟩ := info_parts hinfo
  have hl' : news.length = 1 * i.size := by rw [hs]; omega
  have hxl := h.1
  rcases h.2 with ⟨rfl, rfl⟩ | ⟨g, o, cap, cur, rfl, hb, h2, h3, h4, hc⟩
  · obtain rfl : xs = [] := List.eq_nil_of_length_eq_zero (by omega)
    have hr := run_append_nil (P := P) w t ty E i z ht hi hz ad 1 c news hl' hnews (by omega) (by omega) (by rw [hbb]; omega)
    have hge := grownCap_ge w 1 0 E
    have hle := grownCap_le_maxLen w 1 0 E (by unfold maxLen; omega)
    refine ⟨w.heap.size, 0, grownCap w 1 0 E, _, hr, ⟨by simp [hl], .inr ⟨_, 0, _, _, rfl, Go.Deep.blk_alloc_new _ _, by omega, hle, ?_, ?_⟩⟩, ?_, .inr rfl, by simp⟩
    · have e := size_zeroCells z.cells (grownCap w 1 0 E - 1)
      simp only [Array.size_append, List.size_toArray, e, hl, hzs]
      have : grownCap w 1 0 E = 1 + (grownCap w 1 0 E - 1) := by omega
      rw [this, Nat.add_mul]; simp
    · intro j u hj
      have hlt : j < news.length := (List.getElem?_eq_some_iff.1 (by simpa using hj)).1
      rw [Nat.zero_add, Array.getElem?_append_left (by simpa using hlt)]
      simpa using hj
    · exact ⟨rfl, rfl, rfl, by simp, fun k hk _ => by
        show (w.drew.alloc _).heap[k]? = _
        rw [Below.heap_alloc _ _ _ (show k < w.drew.heap.size from hk)]; rfl⟩
  · by_cases hroom : n + 1 ≤ cap
    · have hf := run_firstCells_some (P := P) w i.size 1 ad 1 c news hl' hnews
      rw [hs] at hf
      have hfit : o + n * size + news.length ≤ cur.size := by
        have : (n + 1) * size ≤ cap * size := Nat.mul_le_mul_right _ hroom
        rw [Nat.add_mul] at this
        omega
      have hst := run_storeCells_at P g (o + n * size) E news 0 cur w hb (by omega) h1
      simp only [Nat.add_zero] at hst
      have hr : (Builtin.append_ #[t, t] ty #[.slice (some ⟨g, o, none⟩) n cap, .slice (some ad) 1 c]).run P w = .ok (.slice (some ⟨g, o, none⟩) (n + 1) cap) (w.setRow g (cur.toList.take (o + n * size) ++ news ++ cur.toList.drop (o + n * size + news.length)).toArray) := by
        simp [Builtin.append_, run_underlying ht, sizeOf, typeInfo, hi, Builtin.lenOf, hroom, hf, addr_add, hs, hst]
      refine ⟨g, o, cap, _, hr, ⟨by simp [hxl, hl, Nat.add_mul], .inr ⟨g, o, cap, _, rfl, setRow_heap w g cur _ E _ hb, hroom, h3, ?_, ?_⟩⟩, grown_setRow hb, .inl rfl, by simpa [World.setRow] using (Array.getElem?_eq_some_iff.1 hb).1⟩
      · simp; omega
      · intro j u hj
        by_cases hjx : j < xs.length
        · rw [List.getElem?_append_left hjx] at hj
          have := hc j u hj
          rw [List.getElem?_toArray, List.append_assoc, List.getElem?_append_left (by simp; omega), List.getElem?_take, if_pos (by omega)]
          simpa using this
        · rw [List.getElem?_append_right (by omega)] at hj
          have hjn : j - xs.length < news.length := (List.getElem?_eq_some_iff.1 hj).1
          have ht : (cur.toList.take (o + n * size)).length = o + n * size := by simp; omega
          rw [List.getElem?_toArray, List.append_assoc, List.getElem?_append_right (by omega), ht, List.getElem?_append_left (by omega)]
          rw [show o + j - (o + n * size) = j - xs.length by omega]
          exact hj
    · have hge := grownCap_ge w (n + 1) cap E
      have hle := grownCap_le_maxLen w (n + 1) cap E (by unfold maxLen; omega)
      have hr := run_append_grow (P := P) w t ty E i z ht hi hz ⟨g, o, none⟩ n cap xs (by rw [hs]; exact hxl) (fun j u hj => by
          rw [addr_add]; simp [World.cell?, hb, hc j u hj]) ad 1 c news hl' hnews (by omega) (by omega) (by
          rw [hbb]; exact growslice_fits (by omega) hby)
      refine ⟨w.heap.size, 0, _, _, hr, ⟨by simp [hxl, hl, Nat.add_mul], .inr ⟨_, 0, _, _, rfl, Go.Deep.blk_alloc_new _ _, hge, hle, ?_, ?_⟩⟩, ?_, .inr rfl, by simp⟩
      · have e := size_zeroCells z.cells (grownCap w (n + 1) cap E - (n + 1))
        simp only [Array.size_append, List.size_toArray, e, hl, hzs, hxl]
        have : grownCap w (n + 1) cap E = (n + 1) + (grownCap w (n + 1) cap E - (n + 1)) := by omega
        rw [this, Nat.add_mul, Nat.add_mul]; simp
      · intro j u hj
        have hlt : j < (xs ++ news).length := (List.getElem?_eq_some_iff.1 hj).1
        simp only [List.length_append] at hlt
        rw [Nat.zero_add, Array.getElem?_append_left (by simpa using hlt)]
        have : (xs.toArray ++ news.toArray) = (xs ++ news).toArray := by simp
        rw [this, List.getElem?_toArray]
        exact hj
      · exact ⟨rfl, rfl, rfl, by simp, fun k hk _ => by
          show (w.drew.alloc _).heap[k]? = _
          rw [Below.heap_alloc _ _ _ (show k < w.drew.heap.size from hk)]; rfl⟩
end
end Go.Proofs.Ytkedcnemldjbeaa
