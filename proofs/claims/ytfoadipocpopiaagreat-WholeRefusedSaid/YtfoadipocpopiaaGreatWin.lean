/- Slices that the call itself made, at any offset of their block: appended to, cut at the front, written. Conditions: each theorem's own. -/
import Derived.Test.YtfoadipocpopiaaGreatRows
import Derived.WalkKit
import Derived.OwnWalk
import Derived.Deep.AppendSrc
import Derived.Deep.AppendLies
import Derived.Deep.Heap
namespace Go.Proofs.YtfoadipocpopiaaGreat
open Go.RowKit

/-- The slice v of n elements of size cells each reads as the cells xs; its block is a row, none of it frozen. -/
def Win (w : World) (E : TypeId) (size : Nat) (v : Value) (n : Nat) (xs : List Value) : Prop :=
  xs.length = n * size ∧ ((v = .slice none 0 0 ∧ n = 0) ∨ ∃ g o cap cur, v = .slice (some ⟨g, o, none⟩) n cap ∧ w.heap[g]? = some (.cells cur E (0, 0)) ∧ n ≤ cap ∧ cap ≤ maxLen ∧ o + cap * size ≤ cur.size ∧ ∀ j u, xs[j]? = some u → cur[o + j]? = some u)

theorem addr_add (g o j : Nat) : (⟨g, o, none⟩ : Addr).add j = ⟨g, o + j, none⟩ := by unfold Addr.add; split <;> simp_all

section
variable {P : Program} {w w' : World} {E : TypeId} {size n : Nat} {v : Value} {xs : List Value}

theorem Win.nil (w : World) (E : TypeId) (size : Nat) : Win w E size (.slice none 0 0) 0 [] := ⟨by simp, .inl ⟨rfl, rfl⟩⟩
theorem Win.blk_lt (h : Win w E size v n xs) {g : Nat} (hg : v.ownBlock = some g) : g < w.heap.size := by
  rcases h.2 with ⟨rfl, _⟩ | ⟨g', o, cap, cur, rfl, hb, _⟩
  · simp [Value.ownBlock] at hg
  · simp [Value.ownBlock] at hg
    subst hg
    exact (Array.getElem?_eq_some_iff.1 hb).1
theorem Win.form (h : Win w E size v n xs) (hn : 0 < n) : ∃ g o cap, v = .slice (some ⟨g, o, none⟩) n cap ∧ g < w.heap.size ∧ n ≤ cap ∧ cap ≤ 9223372036854775807 := by
  rcases h.2 with ⟨_, h0⟩ | ⟨g', o, cap, cur, rfl, hb, h1, h2, _⟩
  · omega
  · exact ⟨g', o, cap, rfl, (Array.getElem?_eq_some_iff.1 hb).1, h1, by unfold maxLen at h2; omega⟩
theorem Win.form0 (h : Win w E size v n xs) : ∃ a cap, v = .slice a n cap ∧ n ≤ cap ∧ cap ≤ 9223372036854775807 := by
  rcases h.2 with ⟨rfl, rfl⟩ | ⟨g', o, cap, cur, rfl, hb, h1, h2, _⟩
  · exact ⟨none, 0, rfl, by omega, by omega⟩
  · exact ⟨_, cap, rfl, h1, by unfold maxLen at h2; omega⟩
theorem Win.cell {g o cap : Nat} (h : Win w E size (.slice (some ⟨g, o, none⟩) n cap) n xs) {j : Nat} {u : Value} (hj : xs[j]? = some u) : w.cell? ⟨g, o + j, none⟩ = some u := by
  rcases h.2 with ⟨h0, _⟩ | ⟨g', o', cap', cur, e, hb, _, _, _, hc⟩
  · simp at h0
  · simp only [Value.slice.injEq, Option.some.injEq, Addr.mk.injEq] at e
    obtain ⟨⟨rfl, rfl, _⟩, _, rfl⟩ := e
    simp [World.cell?, hb, hc j u hj]
theorem Win.frozen {g o cap : Nat} (h : Win w E size (.slice (some ⟨g, o, none⟩) n cap) n xs) (j : Nat) : w.frozen? ⟨g, j, none⟩ = false := by
  rcases h.2 with ⟨h0, _⟩ | ⟨g', o', cap', cur, e, hb, _⟩
  · simp at h0
  · simp only [Value.slice.injEq, Option.some.injEq, Addr.mk.injEq] at e
    obtain ⟨⟨rfl, rfl, _⟩, _, rfl⟩ := e
    simp [World.frozen?, hb]
theorem Win.of_block (h : Win w E size v n xs) (hb : ∀ g, v.ownBlock = some g → w'.heap[g]? = w.heap[g]?) : Win w' E size v n xs := by
  refine ⟨h.1, ?_⟩
  rcases h.2 with h0 | ⟨g', o', cap', cur, rfl, hg, h1⟩
  · exact .inl h0
  · exact .inr ⟨g', o', cap', cur, rfl, (hb g' rfl).trans hg, h1⟩
theorem Win.kept {row : Option Nat} (h : Win w E size v n xs) (hg : w.grownBy w' row) (hne : ∀ g, v.ownBlock = some g → row ≠ some g) : Win w' E size v n xs :=
  h.of_block fun g hv => hg.block g (h.blk_lt hv) (fun e => hne g hv e.symm)
theorem Win.alloc (h : Win w E size v n xs) (o : Obj) : Win (w.alloc o) E size v n xs :=
  h.of_block fun g hv => Below.heap_alloc w o g (h.blk_lt hv)
theorem Win.drew (h : Win w E size v n xs) : Win w.drew E size v n xs := h.of_block fun _ _ => rfl
theorem Win.below {B : Nat} (h : Win w E size v n xs) (hb : Below B w w') (hB : ∀ g, v.ownBlock = some g → g < B) : Win w' E size v n xs :=
  h.of_block fun g hv => hb.block g (hB g hv)
theorem Win.setOther (h : Win w E size v n xs) {a : Addr} (hne : ∀ g, v.ownBlock = some g → g ≠ a.block) (u : Value) : Win (w.setCell a u) E size v n xs :=
  h.of_block fun g hv => Below.heap_setCell w a u g (hne g hv)
theorem Win.set {g o cap : Nat} (h : Win w E size (.slice (some ⟨g, o, none⟩) n cap) n xs) (j : Nat) (u : Value) : Win (w.setCell ⟨g, o + j, none⟩ u) E size (.slice (some ⟨g, o, none⟩) n cap) n (xs.set j u) := by
  refine ⟨by simp [h.1], ?_⟩
  rcases h.2 with ⟨h0, _⟩ | ⟨g', o', cap', cur, e, hb, h1, h2, h3, hc⟩
  · simp at h0
  · simp only [Value.slice.injEq, Option.some.injEq, Addr.mk.injEq] at e
    obtain ⟨⟨rfl, rfl, _⟩, _, rfl⟩ := e
    refine .inr ⟨g, o, cap, cur.setIfInBounds (o + j) u, rfl, ?_, h1, h2, by simpa using h3, ?_⟩
    · rw [setCell_eq_setRow w g (o + j) cur E (0, 0) u hb]
      exact setRow_heap w g cur _ E _ hb
    · intro i x hi
      rw [List.getElem?_set] at hi
      by_cases e : j = i
      · subst e
        rw [if_pos rfl] at hi
        split at hi
        · rename_i hlt
          have : cur[o + j]? = some xs[j] := hc j _ (List.getElem?_eq_getElem hlt)
          have hlt2 : o + j < cur.size := (Array.getElem?_eq_some_iff.1 this).1
          simp [hlt2]
          simpa using hi
        · simp at hi
      · rw [if_neg e] at hi
        rw [Array.getElem?_setIfInBounds_ne (by omega)]
        exact hc i x hi

theorem grown_setRow {g : Nat} {cur cur' : Array Value} {t : TypeId} {fr : Nat × Nat} (hb : w.heap[g]? = some (.cells cur t fr)) : w.grownBy (w.setRow g cur') (some g) :=
  ⟨rfl, rfl, rfl, by simp [World.setRow], fun k _ hne => by
    have : g ≠ k := fun e => hne (by rw [e])
    simp [World.setRow, Array.getElem?_modify, this]⟩

/-- append of one element. -/
theorem Win.push {t ty : TypeId} {z : Value} {bytes : Nat} (ht : P.underlying t = some (.slice E)) (hinfo : (P.info? E).map (fun i => (i.zero, i.size, i.bytes)) = some (some z, size, bytes)) (hzs : z.cells.size = size) (hsz : 0 < size)
    (h : Win w E size v n xs) (ad : Addr) (c : Nat) (news : List Value) (hl : news.length = size) (hnews : ∀ j u, news[j]? = some u → w.cell? (ad.add j) = some u) (h1 : ∀ u ∈ news, u.oneCell' = true)
    (hn : n + 1 ≤ 1000000000000) (hby : (n + 1) * bytes ≤ 140737488355328) :
    ∃ g o cap w', (Builtin.append_ #[t, t] ty #[v, .slice (some ad) 1 c]).run P w = .ok (.slice (some ⟨g, o, none⟩) (n + 1) cap) w' ∧ Win w' E size (.slice (some ⟨g, o, none⟩) (n + 1) cap) (n + 1) (xs ++ news) ∧
      w.grownBy w' v.ownBlock ∧ (v.ownBlock = some g ∨ g = w.heap.size) ∧ g < w'.heap.size := by
  obtain ⟨i, hi, hz, hs, hbb⟩ := info_parts hinfo
  have hl' : news.length = 1 * i.size := by rw [hs]; omega
  have hxl := h.1
  rcases h.2 with ⟨rfl, rfl⟩ | ⟨g, o, cap, cur, rfl, hb, h2, h3, h4, hc⟩
  · obtain rfl : xs = [] := List.eq_nil_of_length_eq_zero (by omega)
    have hr := run_append_nil (P := P) w t ty E i z ht hi hz ad 1 c news hl' hnews (by omega) (by omega) (by rw [hbb]; omega)
    have hge := grownCap_ge w 1 0 E
    have hle := grownCap_le_maxLen w 1 0 E (by unfold maxLen; omega)
    refine ⟨w.heap.size, 0, grownCap w 1 0 E, _, hr, ⟨by simp [hl], .inr ⟨_, 0, _, _, rfl, Go.Deep.blk_alloc_new _ _, by omega, hle, ?_, ?_⟩⟩, ?_, .inr rfl, by simp⟩
    · have e := size_zeroCells z.cells (grownCap w 1 0 E - 1)
      simp only [Array.size_append, List.size_toArray, e, hl, hzs]
      have : grownCap w 1 0 E = 1 + (grownCap w 1 0 E - 1) := by omega
      rw [this, Nat.add_mul]; simp
    · intro j u hj
      have hlt : j < news.length := (List.getElem?_eq_some_iff.1 (by simpa using hj)).1
      rw [Nat.zero_add, Array.getElem?_append_left (by simpa using hlt)]
      simpa using hj
    · exact ⟨rfl, rfl, rfl, by simp, fun k hk _ => by
        show (w.drew.alloc _).heap[k]? = _
        rw [Below.heap_alloc _ _ _ (show k < w.drew.heap.size from hk)]; rfl⟩
  · by_cases hroom : n + 1 ≤ cap
    · have hf := run_firstCells_some (P := P) w i.size 1 ad 1 c news hl' hnews
      rw [hs] at hf
      have hfit : o + n * size + news.length ≤ cur.size := by
        have : (n + 1) * size ≤ cap * size := Nat.mul_le_mul_right _ hroom
        rw [Nat.add_mul] at this
        omega
      have hst := run_storeCells_at P g (o + n * size) E news 0 cur w hb (by omega) h1
      simp only [Nat.add_zero] at hst
      have hr : (Builtin.append_ #[t, t] ty #[.slice (some ⟨g, o, none⟩) n cap, .slice (some ad) 1 c]).run P w = .ok (.slice (some ⟨g, o, none⟩) (n + 1) cap) (w.setRow g (cur.toList.take (o + n * size) ++ news ++ cur.toList.drop (o + n * size + news.length)).toArray) := by
        simp [Builtin.append_, run_underlying ht, sizeOf, typeInfo, hi, Builtin.lenOf, hroom, hf, addr_add, hs, hst]
      refine ⟨g, o, cap, _, hr, ⟨by simp [hxl, hl, Nat.add_mul], .inr ⟨g, o, cap, _, rfl, setRow_heap w g cur _ E _ hb, hroom, h3, ?_, ?_⟩⟩, grown_setRow hb, .inl rfl, by simpa [World.setRow] using (Array.getElem?_eq_some_iff.1 hb).1⟩
      · simp; omega
      · intro j u hj
        by_cases hjx : j < xs.length
        · rw [List.getElem?_append_left hjx] at hj
          have := hc j u hj
          rw [List.getElem?_toArray, List.append_assoc, List.getElem?_append_left (by simp; omega), List.getElem?_take, if_pos (by omega)]
          simpa using this
        · rw [List.getElem?_append_right (by omega)] at hj
          have hjn : j - xs.length < news.length := (List.getElem?_eq_some_iff.1 hj).1
          have ht : (cur.toList.take (o + n * size)).length = o + n * size := by simp; omega
          rw [List.getElem?_toArray, List.append_assoc, List.getElem?_append_right (by omega), ht, List.getElem?_append_left (by omega)]
          rw [show o + j - (o + n * size) = j - xs.length by omega]
          exact hj
    · have hge := grownCap_ge w (n + 1) cap E
      have hle := grownCap_le_maxLen w (n + 1) cap E (by unfold maxLen; omega)
      have hr := run_append_grow (P := P) w t ty E i z ht hi hz ⟨g, o, none⟩ n cap xs (by rw [hs]; exact hxl) (fun j u hj => by
          rw [addr_add]; simp [World.cell?, hb, hc j u hj]) ad 1 c news hl' hnews (by omega) (by omega) (by
          rw [hbb]; exact growslice_fits (by omega) hby)
      refine ⟨w.heap.size, 0, _, _, hr, ⟨by simp [hxl, hl, Nat.add_mul], .inr ⟨_, 0, _, _, rfl, Go.Deep.blk_alloc_new _ _, hge, hle, ?_, ?_⟩⟩, ?_, .inr rfl, by simp⟩
      · have e := size_zeroCells z.cells (grownCap w (n + 1) cap E - (n + 1))
        simp only [Array.size_append, List.size_toArray, e, hl, hzs, hxl]
        have : grownCap w (n + 1) cap E = (n + 1) + (grownCap w (n + 1) cap E - (n + 1)) := by omega
        rw [this, Nat.add_mul, Nat.add_mul]; simp
      · intro j u hj
        have hlt : j < (xs ++ news).length := (List.getElem?_eq_some_iff.1 hj).1
        simp only [List.length_append] at hlt
        rw [Nat.zero_add, Array.getElem?_append_left (by simpa using hlt)]
        have : (xs.toArray ++ news.toArray) = (xs ++ news).toArray := by simp
        rw [this, List.getElem?_toArray]
        exact hj
      · exact ⟨rfl, rfl, rfl, by simp, fun k hk _ => by
          show (w.drew.alloc _).heap[k]? = _
          rw [Below.heap_alloc _ _ _ (show k < w.drew.heap.size from hk)]; rfl⟩

/-- v[1:]. -/
theorem Win.pop {T : TypeId} (ht : P.underlying T = some (.slice E)) (hsize : P.cellsOf E = size) (hinfo : ∃ z bytes, (P.info? E).map (fun i => (i.zero, i.size, i.bytes)) = some (some z, size, bytes)) (h : Win w E size v (n + 1) xs) :
    ∃ v', (Instr.slice T v (some (.int .i64 1)) none none).run P w = .ok v' w ∧ Win w E size v' n (xs.drop size) ∧ v'.ownBlock = v.ownBlock := by
  obtain ⟨z, bytes, hinfo⟩ := hinfo
  obtain ⟨i, hi, hz, hs, hbb⟩ := info_parts hinfo
  have hxl := h.1
  rcases h.2 with ⟨_, h0⟩ | ⟨g, o, cap, cur, rfl, hb, h2, h3, h4, hc⟩
  · omega
  · by_cases h1 : cap = 1
    · refine ⟨.slice (some ⟨g, o, none⟩) n (cap - 1), ?_, ⟨by simp [hxl, Nat.add_mul], .inr ⟨g, o, cap - 1, cur, rfl, hb, by omega, by omega, ?_, fun j u hj => ?_⟩⟩, rfl⟩
      · simp [Instr.slice, Instr.sliceBounds, Instr.sliceBound, asIntOf, run_underlying ht, sizeOf, typeInfo, hi, h1]
        omega
      · rw [h1]; simp; rw [h1] at h4; omega
      · rw [List.getElem?_drop] at hj
        have : size + j < xs.length := (List.getElem?_eq_some_iff.1 hj).1
        have : n = 0 := by omega
        subst this
        simp at hxl
        omega
    · refine ⟨.slice (some ⟨g, o + size, none⟩) n (cap - 1), ?_, ⟨by simp [hxl, Nat.add_mul], .inr ⟨g, o + size, cap - 1, cur, rfl, hb, by omega, by omega, ?_, fun j u hj => ?_⟩⟩, rfl⟩
      · simp [Instr.slice, Instr.sliceBounds, Instr.sliceBound, asIntOf, run_underlying ht, sizeOf, typeInfo, hi, h1, hs, addr_add]
        omega
      · have : cap = (cap - 1) + 1 := by omega
        rw [this, Nat.add_mul] at h4
        omega
      · rw [List.getElem?_drop] at hj
        rw [Nat.add_assoc]
        exact hc _ u hj
end

/-! ### Rows of records -/
section
variable {α : Type} {enc : α → List Value} {size : Nat}
theorem flat_len (hs : ∀ a, (enc a).length = size) : ∀ (l : List α), (l.flatMap enc).length = l.length * size
  | [] => by simp
  | a :: l => by rw [List.flatMap_cons, List.length_append, hs, flat_len hs l, List.length_cons, Nat.add_mul]; omega
theorem flat_get (hs : ∀ a, (enc a).length = size) : ∀ {l : List α} {i j : Nat} {a : α}, l[i]? = some a → j < size → (l.flatMap enc)[i * size + j]? = (enc a)[j]?
  | [], i, j, a, h, _ => by simp at h
  | x :: l, 0, j, a, h, hj => by
    obtain rfl : x = a := by simpa using h
    rw [List.flatMap_cons, List.getElem?_append_left (by rw [hs]; omega)]; simp
  | x :: l, i + 1, j, a, h, hj => by
    have h' : l[i]? = some a := by simpa using h
    rw [List.flatMap_cons, List.getElem?_append_right (by rw [hs, Nat.add_mul]; omega), hs]
    rw [show (i + 1) * size + j - size = i * size + j by rw [Nat.add_mul]; omega]
    exact flat_get hs h' hj
theorem flat_set (hs : ∀ a, (enc a).length = size) : ∀ {l : List α} {i j : Nat} {a b : α} {u : Value}, l[i]? = some a → j < size → enc b = (enc a).set j u → (l.flatMap enc).set (i * size + j) u = (l.set i b).flatMap enc
  | [], i, j, a, b, u, h, _, _ => by simp at h
  | x :: l, 0, j, a, b, u, h, hj, e => by
    obtain rfl : x = a := by simpa using h
    rw [List.flatMap_cons, List.set_cons_zero, List.flatMap_cons, List.set_append, if_pos (by rw [hs]; omega), e]; simp
  | x :: l, i + 1, j, a, b, u, h, hj, e => by
    have h' : l[i]? = some a := by simpa using h
    rw [List.flatMap_cons, List.set_cons_succ, List.flatMap_cons, List.set_append, if_neg (by rw [hs, Nat.add_mul]; omega), hs]
    rw [show (i + 1) * size + j - size = i * size + j by rw [Nat.add_mul]; omega, flat_set hs h' hj e]
end
end Go.Proofs.YtfoadipocpopiaaGreat
