/- A map from pairs of ints to bool that the call made, all its elements true, as a set. Conditions: each theorem's own. -/
import Derived.Test.YtkedcnemldjbeaaTk
import Derived.Maps.Own
import Derived.Maps.OwnOps
import Derived.Maps.OwnSet
import Derived.Laws.StructEq
import Derived.Laws.Tables
import Derived.Laws.Cover2
namespace Go.Proofs.Ytkedcnemldjbeaa
open Go.RowKit Go.Maps
open Go.ChangeMaps Go.MapKept

def prV (a b : Int) : Value := .agg #[.int .i64 a, .int .i64 b]
theorem prV_inj {a b c d : Int} (h : prV a b = prV c d) : a = c ∧ b = d := by
  unfold prV at h
  simp at h
  exact h
theorem eq_pair (a b c d : Int) (w : World) : (Op.equal 73 (prV a b) (prV c d)).run Try.prog w = .ok (a == c && b == d) w := by
  have u3 := Try.underlying3
  have a3 := Try.isAgg3
  have z3 := Try.sizeOf3
  show (Op.equalIn 10000 73 (.agg #[.int .i64 a, .int .i64 b]) (.agg #[.int .i64 c, .int .i64 d])).run Try.prog w = _
  rw [show (10000 : Nat) = 9999 + 1 from rfl, Op.equalIn]
  simp only [Sem.run_bind, run_underlying Try.underlying73, Result.andThen_ok]
  simp only [Std.Legacy.Range.forIn_eq_forIn_range', Std.Legacy.Range.size, Nat.sub_zero, Nat.add_sub_cancel, Nat.div_one, List.range'_succ, List.range'_zero, List.forIn_cons, List.forIn_nil]
  go_simp
  by_cases h1 : a = c <;> by_cases h2 : b = d <;> simp [h1, h2]
theorem check_int (em : Bool) (n : Nat) (a : Int) (w : World) : (Instr.checkKey em (n + 1) 3 (.int .i64 a)).run Try.prog w = .ok () w := by
  rw [Instr.checkKey]
  simp [run_underlying Try.underlying3]
theorem check_pair (em : Bool) (a b : Int) (w : World) : (Instr.checkKey em 10000 73 (prV a b)).run Try.prog w = .ok () w := by
  have u3 := Try.underlying3
  have a3 := Try.isAgg3
  have z3 := Try.sizeOf3
  unfold prV
  rw [show (10000 : Nat) = 9998 + 1 + 1 from rfl, Instr.checkKey]
  simp only [Sem.run_bind, run_underlying Try.underlying73, Result.andThen_ok]
  simp only [Std.Legacy.Range.forIn_eq_forIn_range', Std.Legacy.Range.size, Nat.sub_zero, Nat.add_sub_cancel, Nat.div_one, List.range'_succ, List.range'_zero, List.forIn_cons, List.forIn_nil]
  have hc := fun a w => check_int em 9998 a w
  go_simp
theorem stay_pair (a b : Int) (w : World) : (Instr.keyThatStays (prV a b) (prV a b)).run Try.prog w = .ok (prV a b) w := by
  have h : Instr.sameBits 10000 (prV a b) (prV a b) = true := by
    unfold prV
    rw [show (10000 : Nat) = 9998 + 1 + 1 from rfl, Instr.sameBits]
    simp [Instr.sameBits]
  unfold Instr.keyThatStays
  simp [h]
def pairKeys (es : List MapEntry) : Prop := ∀ e ∈ es, (∃ x y, e.key = prV x y) ∧ e.val = .bool true
theorem find_pair (a b : Int) (w : World) : ∀ (es : List MapEntry) (i : Nat), pairKeys es →
    ((Instr.findAsking 73 (prV a b) es i).run Try.prog w = .ok none w ∧ ∀ e ∈ es, e.key ≠ prV a b) ∨
      ∃ j e0, es[j]? = some e0 ∧ e0.key = prV a b ∧ (Instr.findAsking 73 (prV a b) es i).run Try.prog w = .ok (some (i + j, e0.val)) w
  | [], i, _ => .inl ⟨by simp [Instr.findAsking], fun e h => by cases h⟩
  | e :: es, i, h => by
    obtain ⟨⟨x, y, hk⟩, _⟩ := h e (List.mem_cons_self ..)
    by_cases he : a = x ∧ b = y
    · obtain ⟨rfl, rfl⟩ := he
      refine .inr ⟨0, e, rfl, hk, ?_⟩
      rw [Instr.findAsking]
      simp [hk, eq_pair]
    · have hf : (a == x && b == y) = false := by
        rw [Bool.and_eq_false_iff]
        by_cases h1 : a = x
        · exact .inr (beq_eq_false_iff_ne.2 fun h2 => he ⟨h1, h2⟩)
        · exact .inl (beq_eq_false_iff_ne.2 h1)
      have hr : (Instr.findAsking 73 (prV a b) (e :: es) i).run Try.prog w = (Instr.findAsking 73 (prV a b) es (i + 1)).run Try.prog w := by
        rw [Instr.findAsking]
        simp [hk, eq_pair, hf]
      rcases find_pair a b w es (i + 1) (fun e' h' => h e' (List.mem_cons_of_mem _ h')) with ⟨h1, h2⟩ | ⟨j, e0, h1, h2, h3⟩
      · refine .inl ⟨hr.trans h1, fun e' h' => ?_⟩
        rcases List.mem_cons.1 h' with rfl | h'
        · rw [hk]; exact fun e => he ⟨(prV_inj e).1.symm, (prV_inj e).2.symm⟩
        · exact h2 e' h'
      · exact .inr ⟨j + 1, e0, by simpa using h1, h2, by rw [hr, h3]; congr 3; omega⟩
theorem findKey_pair (a b : Int) (w : World) (es : List MapEntry) (h : pairKeys es) : (Instr.findKey 73 (prV a b) es).run Try.prog w = (Instr.findAsking 73 (prV a b) es).run Try.prog w := by
  unfold Instr.findKey
  simp only [Sem.run_bind, run_underlying Try.underlying73, Result.andThen_ok]
  cases es with
  | nil => simp [Instr.findNow, Instr.findAsking]
  | cons e es => simp [Instr.findNow, Instr.sameNow]
/-- Block b is a map of at most n entries whose keys are the pairs of S, each with true. -/
def PMap (w : World) (b n : Nat) (S : Int → Int → Prop) : Prop :=
  ∃ es clock, w.heap[b]? = some (.map es clock) ∧ es.size ≤ n ∧ pairKeys es.toList ∧ ∀ x y, S x y ↔ ∃ e ∈ es.toList, e.key = prV x y
section
variable {w w' : World} {b n N : Nat} {S : Int → Int → Prop}
theorem PMap.new (w : World) : PMap (w.alloc (.map #[] 0)) w.heap.size 0 (fun _ _ => False) :=
  ⟨#[], 0, (MapKept.heap_alloc w _).1, by simp, fun e h => by simp at h, fun x y => by simp⟩
theorem PMap.same (h : PMap w b n S) (hb : w'.heap[b]? = w.heap[b]?) : PMap w' b n S := by
  obtain ⟨es, c, h1, h2⟩ := h
  exact ⟨es, c, hb.trans h1, h2⟩
theorem PMap.keep (h : PMap w b n S) (hb : Below N w w') (hlt : b < N) : PMap w' b n S := h.same (hb.block b hlt)
theorem PMap.lt (h : PMap w b n S) : b < w.heap.size := by
  obtain ⟨es, c, h1, _⟩ := h
  exact (Array.getElem?_eq_some_iff.1 h1).1
theorem zero_bool' (w : World) : (zeroValue 4).run Try.prog w = .ok (.bool false) w := by kernel_rfl
theorem PMap.look (h : PMap w b n S) (x y : Int) : ∃ r : Bool, (Instr.lookup 72 (.map (some b)) (prV x y) false).run Try.prog w = .ok (.bool r) w ∧ (r = true ↔ S x y) := by
  obtain ⟨es, c, hb, _, hk, hS⟩ := h
  rcases find_pair x y w es.toList 0 hk with ⟨h1, h2⟩ | ⟨j, e0, h1, h2, h3⟩
  · refine ⟨false, ?_, ⟨fun h => (by cases h), fun h => ?_⟩⟩
    · rw [← findKey_pair x y w _ hk] at h1
      simp [Instr.lookup, run_underlying Try.underlying72, MapKept.run_getObj_map hb, check_pair, h1, zero_bool', Result.andThen]
    · obtain ⟨e, he, hke⟩ := (hS x y).1 h
      exact absurd hke (h2 e he)
  · have hv := (hk e0 (List.mem_of_getElem? h1)).2
    refine ⟨true, ?_, ⟨fun _ => (hS x y).2 ⟨e0, List.mem_of_getElem? h1, h2⟩, fun _ => rfl⟩⟩
    rw [← findKey_pair x y w _ hk] at h3
    simp [Instr.lookup, run_underlying Try.underlying72, MapKept.run_getObj_map hb, check_pair, h3, hv, Result.andThen]
theorem PMap.put (h : PMap w b n S) (x y : Int) : ∃ w', (Instr.mapUpdate 72 (.map (some b)) (prV x y) (.bool true)).run Try.prog w = .ok () w' ∧ PMap w' b (n + 1) (fun x' y' => (x' = x ∧ y' = y) ∨ S x' y') ∧ w.grownBy w' (some b) := by
  obtain ⟨es, c, hb, hn, hk, hS⟩ := h
  rcases find_pair x y w es.toList 0 hk with ⟨h1, h2⟩ | ⟨j, e0, h1, h2, h3⟩
  · rw [← findKey_pair x y w _ hk] at h1
    refine ⟨setBlock w b (.map (es.push ⟨prV x y, .bool true, c⟩) (c + 1)), ?_, ⟨_, _, heap_setBlock_same hb _, by simp; omega, fun e he => ?_, fun x' y' => ?_⟩, ⟨rfl, rfl, rfl, by simp [setBlock], fun i _ hi => heap_setBlock_other hb _ (fun e => hi (by rw [e]))⟩⟩
    · simp [Instr.mapUpdate, run_underlying Try.underlying72, MapKept.run_getObj_map hb, check_pair, h1, MapKept.run_setObj_map _ hb, Result.andThen, setBlock]
    · simp only [Array.toList_push, List.mem_append, List.mem_singleton] at he
      rcases he with he | rfl
      · exact hk e he
      · exact ⟨⟨x, y, rfl⟩, rfl⟩
    · show (x' = x ∧ y' = y) ∨ S x' y' ↔ _
      rw [hS]
      simp only [Array.toList_push, List.mem_append, List.mem_singleton]
      constructor
      · rintro (⟨rfl, rfl⟩ | ⟨e, he, hke⟩)
        · exact ⟨_, .inr rfl, rfl⟩
        · exact ⟨e, .inl he, hke⟩
      · rintro ⟨e, he | rfl, hke⟩
        · exact .inr ⟨e, he, hke⟩
        · obtain ⟨h1, h2⟩ := prV_inj hke
          exact .inl ⟨h1.symm, h2.symm⟩
  · rw [← findKey_pair x y w _ hk] at h3
    have hj : es[j]? = some e0 := by simpa using h1
    have hlist : (es.modify j (fun e' => { e' with key := prV x y, val := .bool true })).toList = es.toList.set j { e0 with key := prV x y, val := .bool true } := by rw [Array.toList_modify, modify_eq_set _ _ _ _ h1]
    have hv := (hk e0 (List.mem_of_getElem? h1)).2
    have he0 : ({ e0 with key := prV x y, val := .bool true } : MapEntry) = e0 := by rw [← h2, ← hv]
    have hsame : es.toList.set j e0 = es.toList := by
      apply List.ext_getElem?
      intro i
      rw [List.getElem?_set]
      split
      · rename_i e; subst e
        rw [h1]
        have := (List.getElem?_eq_some_iff.1 h1).1
        simp at this
        simp [this]
      · rfl
    rw [he0, hsame] at hlist
    refine ⟨setBlock w b (.map (es.modify j (fun e' => { e' with key := prV x y, val := .bool true })) c), ?_, ⟨_, _, heap_setBlock_same hb _, by simp; omega, by rw [hlist]; exact hk, fun x' y' => ?_⟩, ⟨rfl, rfl, rfl, by simp [setBlock], fun i _ hi => heap_setBlock_other hb _ (fun e => hi (by rw [e]))⟩⟩
    · simp [Instr.mapUpdate, run_underlying Try.underlying72, MapKept.run_getObj_map hb, check_pair, h3, hj, h2, stay_pair, MapKept.run_setObj_map _ hb, Result.andThen, setBlock]
    · rw [hlist, ← hS]
      constructor
      · rintro (⟨rfl, rfl⟩ | h)
        · exact (hS _ _).2 ⟨e0, List.mem_of_getElem? h1, h2⟩
        · exact h
      · exact .inr
end
end Go.Proofs.Ytkedcnemldjbeaa
