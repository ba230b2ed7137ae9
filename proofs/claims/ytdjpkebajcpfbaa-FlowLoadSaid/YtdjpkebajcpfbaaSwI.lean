/- Slices of integers in a row, each growing in blocks of its own. Conditions: each theorem's own. -/
import Derived.Test.YtdjpkebajcpfbaaWin
import Derived.Test.YtdjpkebajcpfbaaM02
import Derived.Deep.OwnRows
import Derived.Deep.Heap
namespace Go.Proofs.Ytdjpkebajcpfbaa
open Go.RowKit

theorem info_introw : (Try.prog.info? 41).map (fun i => (i.zero, i.size, i.bytes)) = some (some (.slice none 0 0), 1, 24) := by kernel_rfl
def cellsI (q : List Int) : List Value := q.map fun x => Value.int .i64 x
theorem cellsI_app (q : List Int) (x : Int) : cellsI (q ++ [x]) = cellsI q ++ [.int .i64 x] := by simp [cellsI]
/-- append of one integer to a slice that the call made. -/
theorem int_push {w : World} {v : Value} {q : List Int} {N : Nat} (hw : Win w 3 1 v q.length (cellsI q)) (hv : ∀ g, v.ownBlock = some g → N ≤ g) (hN : N ≤ w.heap.size) (x : Int) (hq : q.length ≤ 1000000) :
    ∃ v' w', (Builtin.append_ #[41, 41] 41 #[v, .slice (some ⟨w.heap.size, 0, none⟩) 1 1]).run Try.prog (w.alloc (.cells #[.int .i64 x] 3)) = .ok v' w' ∧ Win w' 3 1 v' (q ++ [x]).length (cellsI (q ++ [x])) ∧ Below N w w' ∧
      (∀ g, g < w.heap.size → v.ownBlock ≠ some g → w'.heap[g]? = w.heap[g]?) ∧ (∀ g, v'.ownBlock = some g → v.ownBlock = some g ∨ w.heap.size ≤ g) := by
  obtain ⟨gg, o, c, w', hr, hw', hgr, hl, hlt⟩ := Win.push (P := Try.prog) (t := 41) (ty := 41) Try.underlying41 info_int (by simp [Value.cells]) (by decide)
    (hw.alloc (.cells #[.int .i64 x] 3)) ⟨w.heap.size, 0, none⟩ 1 [.int .i64 x] rfl (fun k u hk => World.news_of_block (Go.Deep.blk_alloc_new _ _) k u hk) (fun u hu => by
      simp only [List.mem_cons, List.not_mem_nil, or_false] at hu
      rcases hu with rfl <;> rfl) (by omega) (by omega)
  refine ⟨_, w', hr, by rw [cellsI_app]; simpa using hw', ((Below.refl N w).alloc hN _).grown hgr (by simp; omega) hv, fun g hg hne => ?_, fun g hg => ?_⟩
  · rw [hgr.block g (by simp; omega) (fun e => hne e.symm)]
    exact Below.heap_alloc _ _ _ hg
  · simp only [Value.ownBlock, Option.some.injEq] at hg
    subst hg
    rcases hl with hl | hl
    · exact .inl hl
    · exact .inr (by rw [hl]; simp)
theorem cellsI_ints {w : World} {v : Value} {q : List Int} (h : Win w 3 1 v q.length (cellsI q)) : ∃ a c, v = .slice a q.length c ∧ q.length ≤ c ∧ c ≤ 9223372036854775807 ∧ IntsAt w w.heap.size a q := by
  obtain ⟨a, c, e, h1, h2⟩ := h.form0
  refine ⟨a, c, e, h1, h2, fun hne => ?_⟩
  obtain ⟨g, o, cap, e2, hlt, _⟩ := h.form (List.length_pos_iff.2 hne)
  rw [e2] at e h
  simp only [Value.slice.injEq] at e
  obtain ⟨rfl, _⟩ := e
  refine ⟨g, o, rfl, hlt, fun i x hi => h.cell ?_⟩
  unfold cellsI
  rw [List.getElem?_map, hi]; rfl
def updI {α : Type} (f : Nat → α) (s : Nat) (v : α) : Nat → α := fun i => if i = s then v else f i
structure SI (N G S : Nat) (w : World) (tg : Nat → Nat) (V : Nat → Value) (R : Nat → List Int) : Prop where
  out : w.rowIs G 41 S V
  win : ∀ s, s < S → Win w 3 1 (V s) (R s).length (cellsI (R s))
  own : ∀ s, s < S → ∀ g, (V s).ownBlock = some g → tg g = s + 1 ∧ N ≤ g
  tG : tg G = 0
  nG : N ≤ G
theorem SI.same {N G S : Nat} {w w' : World} {tg : Nat → Nat} {V : Nat → Value} {R : Nat → List Int} (h : SI N G S w tg V R) (hb : ∀ g, g < w.heap.size → w'.heap[g]? = w.heap[g]?) : SI N G S w' tg V R :=
  ⟨h.out.of_block (hb _ h.out.lt), fun s hs => (h.win s hs).of_block fun g hg => hb g ((h.win s hs).blk_lt hg), h.own, h.tG, h.nG⟩
theorem SI.push {N G S : Nat} {w : World} {tg : Nat → Nat} {V : Nat → Value} {R : Nat → List Int} (h : SI N G S w tg V R) {s : Nat} (hs : s < S) (x : Int) (hq : (R s).length ≤ 1000000) :
    ∃ v' w', (Builtin.append_ #[41, 41] 41 #[V s, .slice (some ⟨w.heap.size, 0, none⟩) 1 1]).run Try.prog (w.alloc (.cells #[.int .i64 x] 3)) = .ok v' w' ∧ Below N w w' ∧ w'.heap[G]? = w.heap[G]? ∧ (∀ g, g < w.heap.size → tg g = S + 1 → w'.heap[g]? = w.heap[g]?) ∧
      ∃ tg', SI N G S (w'.setCell ⟨G, s, none⟩ v') tg' (updI V s v') (updI R s (R s ++ [x])) ∧ ∀ g, g < w.heap.size → tg' g = tg g := by
  have hGl := h.out.lt
  obtain ⟨v', w', hr, hw', hb, hold, hown⟩ := int_push (h.win s hs) (fun g hg => (h.own s hs g hg).2) (by have := h.nG; omega) x hq
  have hG : w'.heap[G]? = w.heap[G]? := hold G hGl (fun e => by have := (h.own s hs G e).1; rw [h.tG] at this; omega)
  refine ⟨v', w', hr, hb, hG, fun g hg ht => hold g hg (fun e => by have := (h.own s hs g e).1; omega), fun g => if g < w.heap.size then tg g else s + 1, ⟨?_, fun i hi => ?_, fun i hi g hg => ?_, ?_, h.nG⟩, fun g hg => if_pos hg⟩
  · exact ((h.out.of_block hG).set s v').congr fun i _ => rfl
  · by_cases e : i = s
    · subst e
      simp only [updI, if_true]
      refine hw'.setOther (fun g hg => ?_) _
      rcases hown g hg with e | e
      · have := (h.own i hi g e).1
        intro e2; rw [show g = G from e2, h.tG] at this; omega
      · show g ≠ G; omega
    · simp only [updI, if_neg e]
      have hwi := h.win i hi
      refine (hwi.of_block fun g hg => hold g (hwi.blk_lt hg) (fun e2 => ?_)).setOther (fun g hg => ?_) _
      · have h1 := (h.own i hi g hg).1
        have h2 := (h.own s hs g e2).1
        omega
      · have h1 := (h.own i hi g hg).1
        intro e2; rw [show g = G from e2, h.tG] at h1; omega
  · by_cases e : i = s
    · subst e
      simp only [updI, if_true] at hg
      rcases hown g hg with e | e
      · rw [if_pos ((h.win i hi).blk_lt e)]; exact h.own i hi g e
      · rw [if_neg (by omega)]; exact ⟨rfl, by have := h.nG; omega⟩
    · simp only [updI, if_neg e] at hg
      rw [if_pos ((h.win i hi).blk_lt hg)]; exact h.own i hi g hg
  · rw [if_pos hGl]; exact h.tG
/-- A new block gets a tag of its own. -/
theorem SI.mark {N G S : Nat} {w : World} {tg : Nat → Nat} {V : Nat → Value} {R : Nat → List Int} (h : SI N G S w tg V R) (o : Obj) : SI N G S (w.alloc o) (fun g => if g = w.heap.size then S + 1 else tg g) V R := by
  have h' := h.same (w' := w.alloc o) (fun g hg => Below.heap_alloc _ _ _ hg)
  refine ⟨h'.out, h'.win, fun s hs g hg => ?_, ?_, h.nG⟩
  · have := (h.win s hs).blk_lt hg
    rw [if_neg (by omega)]; exact h.own s hs g hg
  · have := h.out.lt
    rw [if_neg (by omega)]; exact h.tG
theorem SI.made {N : Nat} (w : World) (S : Nat) (hN : N ≤ w.heap.size) : SI N w.heap.size S (w.alloc (.cells (madeCells #[.slice none 0 0] S) 41)) (fun _ => 0) (fun _ => .slice none 0 0) (fun _ => []) :=
  ⟨World.rowIs_made _ _ _ _, fun s hs => Win.nil _ _ _, fun s hs g hg => by simp [Value.ownBlock] at hg, rfl, hN⟩
def rowsI (S : Nat) (R : Nat → List Int) : List (List Int) := (List.range S).map R
theorem rowsI_len (S : Nat) (R : Nat → List Int) : (rowsI S R).length = S := by simp [rowsI]
theorem rowsI_get {S : Nat} {R : Nat → List Int} {i : Nat} (h : i < S) : (rowsI S R)[i]? = some (R i) := by
  unfold rowsI; rw [List.getElem?_map, List.getElem?_range h]; rfl
theorem rowsI_at {S : Nat} {R : Nat → List Int} {i : Nat} (h : i < S) : rwAt (rowsI S R) i = R i := by
  unfold rwAt; rw [List.getD_eq_getElem?_getD, rowsI_get h]; rfl
theorem rowsI_congr {S : Nat} {R R' : Nat → List Int} (h : ∀ s, s < S → R s = R' s) : rowsI S R = rowsI S R' :=
  List.map_congr_left fun s hs => h s (by simpa using hs)
theorem SI.rows {N G S : Nat} {w : World} {tg : Nat → Nat} {V : Nat → Value} {R : Nat → List Int} (h : SI N G S w tg V R) : RowsAt w w.heap.size (some ⟨G, 0, none⟩) (rowsI S R) := fun _ =>
  ⟨G, 0, rfl, h.out.lt, fun i r hi => by
    have hlt : i < S := by
      have := (List.getElem?_eq_some_iff.1 hi).1
      simpa [rowsI] using this
    rw [rowsI_get hlt] at hi
    injection hi with hi
    subst hi
    obtain ⟨a, c, e, h1, h2, h3⟩ := cellsI_ints (h.win i hlt)
    exact ⟨a, c, by rw [Nat.zero_add, h.out.cell hlt, e], h1, h2, h3⟩⟩
end Go.Proofs.Ytdjpkebajcpfbaa
