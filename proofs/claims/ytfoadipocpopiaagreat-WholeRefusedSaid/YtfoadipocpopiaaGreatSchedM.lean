/- Slices of integers that grow, many at a time. Conditions: each theorem's own. -/
import Derived.Test.YtfoadipocpopiaaGreatFlowSat
namespace Go.Proofs.YtfoadipocpopiaaGreat
open Go.RowKit Go.Deep

def natV (q : List Nat) : List Value := q.map fun x : Nat => Value.int .i64 (x : Int)
theorem natV_app (q : List Nat) (x : Nat) : natV (q ++ [x]) = natV q ++ [.int .i64 (x : Int)] := by simp [natV]
theorem natV_len (q : List Nat) : (natV q).length = q.length := by simp [natV]
/-- append of one number to a slice that the call made. -/
theorem nat_push {w : World} {v : Value} {q : List Nat} {N : Nat} (hw : Win w 3 1 v q.length (natV q)) (hv : ∀ g, v.ownBlock = some g → N ≤ g) (hN : N ≤ w.heap.size) (x : Nat) (hq : q.length ≤ 1000000) :
    ∃ v' w', (Builtin.append_ #[42, 42] 42 #[v, .slice (some ⟨w.heap.size, 0, none⟩) 1 1]).run Tryz.prog (w.alloc (.cells #[.int .i64 (x : Int)] 3)) = .ok v' w' ∧ Win w' 3 1 v' (q ++ [x]).length (natV (q ++ [x])) ∧ Below N w w' ∧
      (∀ g, g < w.heap.size → v.ownBlock ≠ some g → w'.heap[g]? = w.heap[g]?) ∧ (∀ g, v'.ownBlock = some g → v.ownBlock = some g ∨ w.heap.size ≤ g) := by
  obtain ⟨gg, o, c, w', hr, hw', hgr, hl, hlt⟩ := Win.push (P := Tryz.prog) (t := 42) (ty := 42) Tryz.underlying42 info_int (by simp [Value.cells]) (by decide)
    (hw.alloc (.cells #[.int .i64 (x : Int)] 3)) ⟨w.heap.size, 0, none⟩ 1 [.int .i64 (x : Int)] rfl (fun k u hk => World.news_of_block (Go.Deep.blk_alloc_new _ _) k u hk) (fun u hu => by
      simp only [List.mem_cons, List.not_mem_nil, or_false] at hu
      rcases hu with rfl <;> rfl) (by omega) (by omega)
  refine ⟨_, w', hr, by rw [natV_app]; simpa using hw', ((Below.refl N w).alloc hN _).grown hgr (by simp; omega) hv, fun g hg hne => ?_, fun g hg => ?_⟩
  · rw [hgr.block g (by simp; omega) (fun e => hne e.symm)]
    exact Below.heap_alloc _ _ _ hg
  · simp only [Value.ownBlock, Option.some.injEq] at hg
    subst hg
    rcases hl with hl | hl
    · exact .inl hl
    · exact .inr (by rw [hl]; simp)
theorem natV_ints {w : World} {v : Value} {q : List Nat} (h : Win w 3 1 v q.length (natV q)) : ∃ a c, v = .slice a q.length c ∧ q.length ≤ c ∧ c ≤ 9223372036854775807 ∧ IntsAt w w.heap.size a (q.map fun x : Nat => (x : Int)) := by
  obtain ⟨a, c, e, h1, h2⟩ := h.form0
  refine ⟨a, c, e, h1, h2, fun hne => ?_⟩
  obtain ⟨g, o, cap, e2, hlt, _⟩ := h.form (by
    cases q with
    | nil => simp at hne
    | cons x q => simp)
  rw [e2] at e h
  simp only [Value.slice.injEq] at e
  obtain ⟨rfl, _, _⟩ := e
  refine ⟨g, o, rfl, hlt, fun i x hi => h.cell ?_⟩
  rw [List.getElem?_map] at hi
  unfold natV
  rw [List.getElem?_map]
  cases hq : q[i]? with
  | none => rw [hq] at hi; cases hi
  | some y => rw [hq] at hi; simp at hi; subst hi; rfl

def updV {α : Type} (f : Nat → α) (s : Nat) (v : α) : Nat → α := fun i => if i = s then v else f i
/-- S slices of numbers in the row G, each in blocks of its own. -/
structure SW (N G S : Nat) (w : World) (tg : Nat → Nat) (V : Nat → Value) (R : Nat → List Nat) : Prop where
  out : w.rowIs G 42 S V
  win : ∀ s, s < S → Win w 3 1 (V s) (R s).length (natV (R s))
  own : ∀ s, s < S → ∀ g, (V s).ownBlock = some g → tg g = s + 1 ∧ N ≤ g
  tG : tg G = 0
  nG : N ≤ G
theorem SW.same {N G S : Nat} {w w' : World} {tg : Nat → Nat} {V : Nat → Value} {R : Nat → List Nat} (h : SW N G S w tg V R) (hb : ∀ g, g < w.heap.size → w'.heap[g]? = w.heap[g]?) : SW N G S w' tg V R :=
  ⟨h.out.of_block (hb _ h.out.lt), fun s hs => (h.win s hs).of_block fun g hg => hb g ((h.win s hs).blk_lt hg), h.own, h.tG, h.nG⟩
theorem SW.push {N G S : Nat} {w : World} {tg : Nat → Nat} {V : Nat → Value} {R : Nat → List Nat} (h : SW N G S w tg V R) {s : Nat} (hs : s < S) (x : Nat) (hq : (R s).length ≤ 1000000) :
    ∃ v' w', (Builtin.append_ #[42, 42] 42 #[V s, .slice (some ⟨w.heap.size, 0, none⟩) 1 1]).run Tryz.prog (w.alloc (.cells #[.int .i64 (x : Int)] 3)) = .ok v' w' ∧ Below N w w' ∧ w'.heap[G]? = w.heap[G]? ∧
      ∃ tg', SW N G S (w'.setCell ⟨G, s, none⟩ v') tg' (updV V s v') (updV R s (R s ++ [x])) := by
  have hGl := h.out.lt
  obtain ⟨v', w', hr, hw', hb, hold, hown⟩ := nat_push (h.win s hs) (fun g hg => (h.own s hs g hg).2) (by have := h.nG; omega) x hq
  have hG : w'.heap[G]? = w.heap[G]? := hold G hGl (fun e => by have := (h.own s hs G e).1; rw [h.tG] at this; omega)
  refine ⟨v', w', hr, hb, hG, fun g => if g < w.heap.size then tg g else s + 1, ?_, fun i hi => ?_, fun i hi g hg => ?_, ?_, h.nG⟩
  · exact ((h.out.of_block hG).set s v').congr fun i _ => rfl
  · by_cases e : i = s
    · subst e
      simp only [updV, if_true]
      refine hw'.setOther (fun g hg => ?_) _
      rcases hown g hg with e | e
      · have := (h.own i hi g e).1
        intro e2; rw [show g = G from e2, h.tG] at this; omega
      · show g ≠ G; omega
    · simp only [updV, if_neg e]
      have hwi := h.win i hi
      refine (hwi.of_block fun g hg => hold g (hwi.blk_lt hg) (fun e2 => ?_)).setOther (fun g hg => ?_) _
      · have h1 := (h.own i hi g hg).1
        have h2 := (h.own s hs g e2).1
        omega
      · have h1 := (h.own i hi g hg).1
        intro e2; rw [show g = G from e2, h.tG] at h1; omega
  · by_cases e : i = s
    · subst e
      simp only [updV, if_true] at hg
      rcases hown g hg with e | e
      · rw [if_pos ((h.win i hi).blk_lt e)]; exact h.own i hi g e
      · rw [if_neg (by omega)]; exact ⟨rfl, by have := h.nG; omega⟩
    · simp only [updV, if_neg e] at hg
      rw [if_pos ((h.win i hi).blk_lt hg)]; exact h.own i hi g hg
  · rw [if_pos hGl]; exact h.tG
theorem SW.made {N : Nat} (w : World) (S : Nat) (hN : N ≤ w.heap.size) : SW N w.heap.size S (w.alloc (.cells (madeCells #[.slice none 0 0] S) 42)) (fun _ => 0) (fun _ => .slice none 0 0) (fun _ => []) :=
  ⟨World.rowIs_made _ _ _ _, fun s hs => Win.nil _ _ _, fun s hs g hg => by simp [Value.ownBlock] at hg, rfl, hN⟩
/-- The rows as lists. -/
def rowsOf (S : Nat) (R : Nat → List Nat) : List (List Int) := (List.range S).map fun s => (R s).map fun x : Nat => (x : Int)
theorem SW.rows {N G S : Nat} {w : World} {tg : Nat → Nat} {V : Nat → Value} {R : Nat → List Nat} (h : SW N G S w tg V R) : RowsAt w w.heap.size (some ⟨G, 0, none⟩) (rowsOf S R) := fun _ =>
  ⟨G, 0, rfl, h.out.lt, fun i r hi => by
    have hlt : i < S := by
      have := (List.getElem?_eq_some_iff.1 hi).1
      simpa [rowsOf] using this
    unfold rowsOf at hi
    rw [List.getElem?_map, List.getElem?_range hlt] at hi
    simp at hi
    subst hi
    obtain ⟨a, c, e, h1, h2, h3⟩ := natV_ints (h.win i hlt)
    refine ⟨a, c, ?_, by simpa using h1, h2, h3⟩
    rw [Nat.zero_add, h.out.cell hlt, e]; simp⟩
/-- Two growing slices of numbers. -/
structure P2 (N : Nat) (w : World) (v1 : Value) (q1 : List Nat) (v2 : Value) (q2 : List Nat) : Prop where
  w1 : Win w 3 1 v1 q1.length (natV q1)
  w2 : Win w 3 1 v2 q2.length (natV q2)
  o1 : ∀ g, v1.ownBlock = some g → N ≤ g
  o2 : ∀ g, v2.ownBlock = some g → N ≤ g
  ne : ∀ g, v1.ownBlock = some g → v2.ownBlock ≠ some g
theorem P2.nil (N : Nat) (w : World) : P2 N w (.slice none 0 0) [] (.slice none 0 0) [] := ⟨Win.nil _ _ _, Win.nil _ _ _, fun g h => by simp [Value.ownBlock] at h, fun g h => by simp [Value.ownBlock] at h, fun g h => by simp [Value.ownBlock] at h⟩
theorem P2.push1 {N : Nat} {w : World} {v1 v2 : Value} {q1 q2 : List Nat} (h : P2 N w v1 q1 v2 q2) (hN : N ≤ w.heap.size) (x : Nat) (hq : q1.length ≤ 1000000) :
    ∃ v' w', (Builtin.append_ #[42, 42] 42 #[v1, .slice (some ⟨w.heap.size, 0, none⟩) 1 1]).run Tryz.prog (w.alloc (.cells #[.int .i64 (x : Int)] 3)) = .ok v' w' ∧ P2 N w' v' (q1 ++ [x]) v2 q2 ∧ Below N w w' := by
  obtain ⟨v', w', hr, hw', hb, hold, hown⟩ := nat_push h.w1 h.o1 hN x hq
  refine ⟨v', w', hr, ⟨hw', h.w2.of_block fun g hg => hold g (h.w2.blk_lt hg) (fun e => h.ne g e hg), fun g hg => ?_, h.o2, fun g hg e => ?_⟩, hb⟩
  · rcases hown g hg with e | e
    · exact h.o1 g e
    · omega
  · rcases hown g hg with e2 | e2
    · exact h.ne g e2 e
    · have := h.w2.blk_lt e; omega
theorem P2.push2 {N : Nat} {w : World} {v1 v2 : Value} {q1 q2 : List Nat} (h : P2 N w v1 q1 v2 q2) (hN : N ≤ w.heap.size) (x : Nat) (hq : q2.length ≤ 1000000) :
    ∃ v' w', (Builtin.append_ #[42, 42] 42 #[v2, .slice (some ⟨w.heap.size, 0, none⟩) 1 1]).run Tryz.prog (w.alloc (.cells #[.int .i64 (x : Int)] 3)) = .ok v' w' ∧ P2 N w' v1 q1 v' (q2 ++ [x]) ∧ Below N w w' := by
  obtain ⟨v', w', hr, hw', hb, hold, hown⟩ := nat_push h.w2 h.o2 hN x hq
  refine ⟨v', w', hr, ⟨h.w1.of_block fun g hg => hold g (h.w1.blk_lt hg) (fun e => h.ne g hg e), hw', h.o1, fun g hg => ?_, fun g hg e => ?_⟩, hb⟩
  · rcases hown g hg with e | e
    · exact h.o2 g e
    · omega
  · rcases hown g e with e2 | e2
    · exact h.ne g hg e2
    · have := h.w1.blk_lt hg; omega
/-- The numbers below k that f picks. -/
def pick (f : Nat → Bool) (k : Nat) : List Nat := (List.range k).filter f
theorem pick_yes {f : Nat → Bool} {k : Nat} (h : f k = true) : pick f (k + 1) = pick f k ++ [k] := by simp [pick, List.range_succ, h]
theorem pick_no {f : Nat → Bool} {k : Nat} (h : f k = false) : pick f (k + 1) = pick f k := by simp [pick, List.range_succ, h]
theorem pick_len (f : Nat → Bool) (k : Nat) : (pick f k).length ≤ k := by
  unfold pick
  have := List.length_filter_le f (List.range k)
  simpa using this
end Go.Proofs.YtfoadipocpopiaaGreat
