/- A bag of growing slices of one-cell elements, each in blocks of its own. Conditions: each theorem's own. -/
import Derived.Test.YtobjcdbbdgloiaaLawCut
namespace Go.Proofs.Ytobjcdbbdgloiaa
open Go.RowKit Go.Deep

structure WinD where
  T : TypeId
  v : Value
  xs : List Value
structure Bag (N : Nat) (w : World) (tg : Nat → Nat) (F : Nat → WinD) : Prop where
  win : ∀ id, Win w (F id).T 1 (F id).v (F id).xs.length (F id).xs
  own : ∀ id g, (F id).v.ownBlock = some g → tg g = id ∧ N ≤ g
def updF (F : Nat → WinD) (id : Nat) (x : WinD) : Nat → WinD := fun i => if i = id then x else F i
theorem updF_same (F : Nat → WinD) (id : Nat) (x : WinD) : updF F id x id = x := if_pos rfl
theorem updF_ne (F : Nat → WinD) {id i : Nat} (x : WinD) (h : i ≠ id) : updF F id x i = F i := if_neg h

section
variable {N : Nat} {w w' : World} {tg : Nat → Nat} {F : Nat → WinD}
theorem Bag.nil (N : Nat) (w : World) (T : Nat → TypeId) : Bag N w (fun _ => 0) (fun id => ⟨T id, .slice none 0 0, []⟩) :=
  ⟨fun _ => Win.nil _ _ _, fun _ g h => by simp [Value.ownBlock] at h⟩
theorem Bag.below (h : Bag N w tg F) (hb : Below w.heap.size w w') : Bag N w' tg F :=
  ⟨fun id => (h.win id).below hb fun _ hg => (h.win id).blk_lt hg, h.own⟩
/-- append of one cell to the slice of the number id. -/
theorem Bag.push (h : Bag N w tg F) (hN : N ≤ w.heap.size) (id : Nat) (T S : TypeId) (hT : (F id).T = T) (u : Value) (hu : u.oneCell' = true) (hS : Try.prog.underlying S = some (.slice T)) {z : Value} {bytes : Nat} (hz : z.cells.size = 1)
    (hinfo : (Try.prog.info? T).map (fun i => (i.zero, i.size, i.bytes)) = some (some z, 1, bytes)) (hb8 : bytes ≤ 24) (hm : (F id).xs.length ≤ 1000000) :
    ∃ v' w', (Builtin.append_ #[S, S] S #[(F id).v, .slice (some ⟨w.heap.size, 0, none⟩) 1 1]).run Try.prog (w.alloc (.cells #[u] T)) = .ok v' w' ∧ (∃ tg', Bag N w' tg' (updF F id ⟨T, v', (F id).xs ++ [u]⟩)) ∧ Below N w w' ∧ ∃ g o c, v' = .slice (some ⟨g, o, none⟩) ((F id).xs.length + 1) c := by
  have hw := h.win id
  rw [hT] at hw
  obtain ⟨g, o, c, w', hr, hw', hg, hl, hlt⟩ := Win.push (P := Try.prog) (t := S) (ty := S) hS hinfo hz (by decide)
    (hw.alloc (.cells #[u] T)) ⟨w.heap.size, 0, none⟩ 1 [u] rfl (fun k x hk => World.news_of_block (Go.Deep.blk_alloc_new _ _) k x hk) (fun x hx => by
      rw [List.mem_singleton.1 hx]; exact hu) (by omega) (by
      have : ((F id).xs.length + 1) * bytes ≤ 1000001 * 24 := Nat.mul_le_mul (by omega) hb8
      omega)
  have hb : Below N w w' := ((Below.refl N w).alloc hN _).grown hg (by simp; omega) fun k hk => (h.own id k hk).2
  refine ⟨_, w', hr, ⟨fun x => if x < w.heap.size then tg x else id, fun i => ?_, fun i x hx => ?_⟩, hb, g, o, c, rfl⟩
  · by_cases e : i = id
    · subst e
      rw [updF_same]
      simpa using hw'
    · rw [updF_ne _ _ e]
      refine ((h.win i).alloc _).kept hg fun k hk e2 => ?_
      have h1 := (h.own i k hk).1
      have h2 := (h.own id k e2).1
      omega
  · by_cases e : i = id
    · subst e
      rw [updF_same] at hx
      simp only [Value.ownBlock, Option.some.injEq] at hx
      subst hx
      rcases hl with hl | hl
      · rw [if_pos ((h.win i).blk_lt hl)]; exact h.own i _ hl
      · rw [if_neg (by rw [hl]; simp)]; exact ⟨rfl, by rw [hl]; simp; omega⟩
    · rw [updF_ne _ _ e] at hx
      rw [if_pos ((h.win i).blk_lt hx)]; exact h.own i x hx
/-- A store into the slice of the number id. -/
theorem Bag.set {g o n c : Nat} (h : Bag N w tg F) {id : Nat} (he : (F id).v = .slice (some ⟨g, o, none⟩) n c) (j : Nat) (u : Value) :
    Bag N (w.setCell ⟨g, o + j, none⟩ u) tg (updF F id ⟨(F id).T, (F id).v, (F id).xs.set j u⟩) := by
  have hw := h.win id
  have hn : n = (F id).xs.length := by
    rw [he] at hw
    rcases hw.2 with ⟨h0, _⟩ | ⟨_, _, _, _, e, _⟩
    · simp at h0
    · injection e
  subst hn
  rw [he] at hw
  have hg := h.own id g (by rw [he]; rfl)
  refine ⟨fun i => ?_, fun i x hx => ?_⟩
  · by_cases e : i = id
    · subst e
      rw [updF_same]
      simp only
      rw [he, List.length_set]
      exact hw.set j u
    · rw [updF_ne _ _ e]
      refine (h.win i).setOther (fun k hk e2 => ?_) _
      have h1 := (h.own i k hk).1
      rw [show k = g from e2] at h1
      omega
  · by_cases e : i = id
    · subst e
      rw [updF_same] at hx
      exact h.own i x hx
    · rw [updF_ne _ _ e] at hx; exact h.own i x hx
end
/-! ### Three matrices, row by row -/
def rowV (m : Nat → Nat → Nat → Int) (k i j : Nat) : List Value := (List.range j).map fun x => .int .i64 (m k i x)
theorem rowV_succ (m : Nat → Nat → Nat → Int) (k i j : Nat) : rowV m k i (j + 1) = rowV m k i j ++ [.int .i64 (m k i j)] := by simp [rowV, List.range_succ]
theorem rowV_len (m : Nat → Nat → Nat → Int) (k i j : Nat) : (rowV m k i j).length = j := by simp [rowV]
theorem rowV_get {m : Nat → Nat → Nat → Int} {k i j x : Nat} (h : x < j) : (rowV m k i j)[x]? = some (.int .i64 (m k i x)) := by
  unfold rowV
  rw [List.getElem?_map, List.getElem?_range h]; rfl
/-- The matrices' first a rows are done, and of the next one the first b_k entries. -/
structure Mats (TR TI : TypeId) (n a : Nat) (b : Nat → Nat) (m : Nat → Nat → Nat → Int) (F : Nat → WinD) : Prop where
  tr : ∀ k, k < 3 → (F k).T = TR
  ti : ∀ i, (F (3 + i)).T = TI
  out : ∀ k, k < 3 → (F k).xs = (List.range a).map fun i => (F (3 + (i * 3 + k))).v
  done : ∀ i k, i < a → k < 3 → (F (3 + (i * 3 + k))).xs = rowV m k i n
  cur : ∀ k, k < 3 → (F (3 + (a * 3 + k))).xs = rowV m k a (b k)
  fut : ∀ i k, a < i → k < 3 → F (3 + (i * 3 + k)) = ⟨TI, .slice none 0 0, []⟩
  fresh : ∀ k, k < 3 → b k = 0 → (F (3 + (a * 3 + k))).v = .slice none 0 0
section
variable {TR TI : TypeId} {n a : Nat} {b : Nat → Nat} {m : Nat → Nat → Nat → Int} {F : Nat → WinD}
theorem Mats.init (TR TI : TypeId) (n : Nat) (m : Nat → Nat → Nat → Int) : Mats TR TI n 0 (fun _ => 0) m (fun id => ⟨if id < 3 then TR else TI, .slice none 0 0, []⟩) :=
  ⟨fun k hk => if_pos hk, fun i => if_neg (by omega), fun k hk => rfl, fun i k hi => absurd hi (Nat.not_lt_zero _), fun k hk => rfl, fun i k hi hk => by show (⟨if 3 + (i * 3 + k) < 3 then TR else TI, _, _⟩ : WinD) = _; rw [if_neg (by omega)], fun k hk _ => rfl⟩
theorem Mats.add (h : Mats TR TI n a b m F) {k : Nat} (hk : k < 3) {v : Value} : Mats TR TI n a (fun i => if i = k then b i + 1 else b i) m (updF F (3 + (a * 3 + k)) ⟨TI, v, (F (3 + (a * 3 + k))).xs ++ [.int .i64 (m k a (b k))]⟩) := by
  refine ⟨fun x hx => ?_, fun i => ?_, fun x hx => ?_, fun i x hi hx => ?_, fun x hx => ?_, fun i x hi hx => ?_, fun x hx hb => ?_⟩
  · rw [updF_ne _ _ (by omega)]; exact h.tr x hx
  · by_cases e : 3 + i = 3 + (a * 3 + k)
    · rw [e, updF_same]
    · rw [updF_ne _ _ e]; exact h.ti i
  · rw [updF_ne _ _ (by omega), h.out x hx]
    refine List.map_congr_left fun i hi => ?_
    have hi : i < a := by simpa using hi
    rw [updF_ne _ _ (by omega)]
  · rw [updF_ne _ _ (by omega)]; exact h.done i x hi hx
  · by_cases e : x = k
    · subst e
      rw [updF_same, if_pos rfl, rowV_succ, h.cur x hx]
    · rw [updF_ne _ _ (by omega), if_neg e]; exact h.cur x hx
  · rw [updF_ne _ _ (by omega)]; exact h.fut i x hi hx
  · by_cases e : x = k
    · subst e; simp at hb
    · rw [if_neg e] at hb
      rw [updF_ne _ _ (by omega)]; exact h.fresh x hx hb
/-- The rows are put into the matrices. -/
theorem Mats.next (h : Mats TR TI n a (fun _ => n) m F) {v0 v1 v2 : Value} :
    Mats TR TI n (a + 1) (fun _ => 0) m (updF (updF (updF F 0 ⟨TR, v0, (F 0).xs ++ [(F (3 + (a * 3 + 0))).v]⟩) 1 ⟨TR, v1, (F 1).xs ++ [(F (3 + (a * 3 + 1))).v]⟩) 2 ⟨TR, v2, (F 2).xs ++ [(F (3 + (a * 3 + 2))).v]⟩) := by
  have big : ∀ i, updF (updF (updF F 0 ⟨TR, v0, (F 0).xs ++ [(F (3 + (a * 3 + 0))).v]⟩) 1 ⟨TR, v1, (F 1).xs ++ [(F (3 + (a * 3 + 1))).v]⟩) 2 ⟨TR, v2, (F 2).xs ++ [(F (3 + (a * 3 + 2))).v]⟩ (3 + i) = F (3 + i) := fun i => by
    rw [updF_ne _ _ (by omega), updF_ne _ _ (by omega), updF_ne _ _ (by omega)]
  refine ⟨fun x hx => ?_, fun i => by rw [big]; exact h.ti i, fun x hx => ?_, fun i x hi hx => ?_, fun x hx => ?_, fun i x hi hx => by rw [big]; exact h.fut i x (by omega) hx, fun x hx _ => by rw [big, h.fut (a + 1) x (by omega) hx]⟩
  · match x, hx with
    | 0, _ => rw [updF_ne _ _ (by decide), updF_ne _ _ (by decide), updF_same]
    | 1, _ => rw [updF_ne _ _ (by decide), updF_same]
    | 2, _ => rw [updF_same]
  · have hm : (fun i => (updF (updF (updF F 0 ⟨TR, v0, (F 0).xs ++ [(F (3 + (a * 3 + 0))).v]⟩) 1 ⟨TR, v1, (F 1).xs ++ [(F (3 + (a * 3 + 1))).v]⟩) 2 ⟨TR, v2, (F 2).xs ++ [(F (3 + (a * 3 + 2))).v]⟩ (3 + (i * 3 + x))).v) = fun i => (F (3 + (i * 3 + x))).v := funext fun i => by rw [big]
    rw [hm, List.range_succ, List.map_append, ← h.out x hx]
    match x, hx with
    | 0, _ => rw [updF_ne _ _ (by decide), updF_ne _ _ (by decide), updF_same]; rfl
    | 1, _ => rw [updF_ne _ _ (by decide), updF_same]; rfl
    | 2, _ => rw [updF_same]; rfl
  · rw [big]
    by_cases e : i = a
    · subst e; exact h.cur x hx
    · exact h.done i x (by omega) hx
  · rw [big, h.fut (a + 1) x (by omega) hx]; rfl
/-- The rows of a matrix as lists. -/
def rowsM (n : Nat) (c : Nat → Nat → Int) : List (List Int) := (List.range n).map fun i => (List.range n).map (c i)
theorem rowsM_len (n : Nat) (c : Nat → Nat → Int) : (rowsM n c).length = n := by simp [rowsM]
theorem rowsM_at {n : Nat} {c : Nat → Nat → Int} {i : Nat} (hi : i < n) : rwAt (rowsM n c) i = (List.range n).map (c i) := by
  unfold rwAt rowsM
  rw [List.getD_eq_getElem?_getD, List.getElem?_map, List.getElem?_range hi]; rfl
theorem rowsM_cap {n : Nat} {c : Nat → Nat → Int} {i j : Nat} (hi : i < n) (hj : j < n) : capOf (rowsM n c) i j = c i j := by
  unfold capOf
  rw [rowsM_at hi, List.getD_eq_getElem?_getD, List.getElem?_map, List.getElem?_range hj]; rfl
theorem rowsM_ok {n most : Nat} {c : Nat → Nat → Int} (h2 : 2 ≤ n) (hm : n ≤ most) (hd : ∀ i, i < n → c i i = 0) (hb : ∀ i j, i < n → j < n → 0 ≤ c i j ∧ c i j ≤ 1073741824) : netOK most (rowsM n c) = true := by
  unfold netOK
  rw [rowsM_len, Bool.and_eq_true, decide_eq_true_eq, List.all_eq_true]
  refine ⟨⟨h2, hm⟩, fun i hi => ?_⟩
  have hi : i < n := by simpa using hi
  unfold rowOK
  rw [rowsM_at hi, Bool.and_eq_true, decide_eq_true_eq, List.all_eq_true]
  refine ⟨⟨by simp, ?_⟩, fun x hx => ?_⟩
  · rw [List.getD_eq_getElem?_getD, List.getElem?_map, List.getElem?_range hi]
    exact hd i hi
  · obtain ⟨j, hj, rfl⟩ := List.mem_map.1 hx
    simp only [cellOK, decide_eq_true_eq]
    exact hb i j hi (by simpa using hj)
theorem rowsM_fit {n : Nat} {c : Nat → Nat → Int} (hb : ∀ i j, i < n → j < n → 0 ≤ c i j ∧ c i j ≤ 1073741824) : ∀ r ∈ rowsM n c, FitI r := by
  intro r hr x hx
  obtain ⟨i, hi, rfl⟩ := List.mem_map.1 hr
  obtain ⟨j, hj, rfl⟩ := List.mem_map.1 hx
  have := hb i j (by simpa using hi) (by simpa using hj)
  omega
theorem Bag.rows {N : Nat} {w : World} {tg : Nat → Nat} {F : Nat → WinD} {m : Nat → Nat → Nat → Int} (hB : Bag N w tg F) (h : Mats TR TI n n (fun _ => 0) m F) {k : Nat} (hk : k < 3) (hn : 0 < n) :
    ∃ a c, (F k).v = .slice a n c ∧ n ≤ c ∧ c ≤ 9223372036854775807 ∧ RowsAt w w.heap.size a (rowsM n (m k)) := by
  have hw := hB.win k
  have hl : (F k).xs.length = n := by rw [h.out k hk]; simp
  rw [hl] at hw
  obtain ⟨g, o, c, e, hlt, h1, h2⟩ := hw.form hn
  rw [e] at hw
  refine ⟨_, c, e, h1, h2, fun _ => ⟨g, o, rfl, hlt, fun i r hi => ?_⟩⟩
  have hin : i < n := by
    have := (List.getElem?_eq_some_iff.1 hi).1
    rwa [rowsM_len] at this
  unfold rowsM at hi
  rw [List.getElem?_map, List.getElem?_range hin] at hi
  simp only [Option.map_some, Option.some.injEq] at hi
  subst hi
  have hr := hB.win (3 + (i * 3 + k))
  rw [h.done i k hin hk, rowV_len] at hr
  obtain ⟨rg, ro, rc, re, rlt, r1, r2⟩ := hr.form hn
  refine ⟨some ⟨rg, ro, none⟩, rc, ?_, by simpa using r1, r2, fun _ => ⟨rg, ro, rfl, rlt, fun j x hj => ?_⟩⟩
  · have := hw.cell (j := i) (u := (F (3 + (i * 3 + k))).v) (by rw [h.out k hk, List.getElem?_map, List.getElem?_range hin]; rfl)
    rw [this, re]; simp
  · have hjn : j < n := by
      have := (List.getElem?_eq_some_iff.1 hj).1
      simpa using this
    rw [List.getElem?_map, List.getElem?_range hjn] at hj
    simp only [Option.map_some, Option.some.injEq] at hj
    subst hj
    rw [re] at hr
    exact hr.cell (rowV_get hjn)
theorem IsCut.congr {n : Nat} {c c' : Nat → Nat → Int} {s t : Nat} {val : Int} (h : IsCut n c s t val) (e : ∀ u v, u < n → v < n → c u v = c' u v) : IsCut n c' s t val := by
  obtain ⟨⟨S, s1, s2, s3⟩, s4⟩ := h
  exact ⟨⟨S, s1, s2, by rw [← cut_congr e S]; exact s3⟩, fun T t1 t2 => by rw [← cut_congr e T]; exact s4 T t1 t2⟩
end
end Go.Proofs.Ytobjcdbbdgloiaa
