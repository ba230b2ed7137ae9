/- Several texts in one: Tasks with sections as data, and how they lie in memory; small lemmas of the walks. Conditions: each theorem's own. Rows of the call's own: appended to, read back. Conditions: few elements. Rows of integers in memory. Conditions: each theorem's own. Tasks of a set in memory; the walk over taskset.Valid. Conditions: the tasks lie in memory. -/
import Derived.Test.YtfoadipocpopiaaGreatRows
import Derived.WalkKit
import Derived.WalkSpells
import Derived.WalkLawsBesides
import Derived.Lib.Hide
import Derived.Deep.QuietTactic
import Derived.BigQuiet
import Derived.Deep.AppendLies
import Derived.Outline
import Derived.Deep.Heap
import Derived.Deep.DeepCutAuto
namespace Go.Proofs.YtfoadipocpopiaaGreat
section
open Go.RowKit

theorem ret_bool {a b : Bool} (h : a = b) : Ending.returned (.bool a) = .returned (.bool b) := by rw [h]
theorem ret_int {a b : Int} (h : a = b) : Ending.returned (.int .i64 a) = .returned (.int .i64 b) := by rw [h]
theorem ret_tup2 {a b c d : Int} (h1 : a = c) (h2 : b = d) : Ending.returned (.tuple #[.int .i64 a, .int .i64 b]) = .returned (.tuple #[.int .i64 c, .int .i64 d]) := by subst h1 h2; rfl
theorem bcell {W w1 : World} (hb : Below W.heap.size W w1) : (∀ b o, b < W.heap.size → w1.cell? ⟨b, o, none⟩ = W.cell? ⟨b, o, none⟩) ∧ (∀ b o, b < W.heap.size → w1.frozen? ⟨b, o, none⟩ = W.frozen? ⟨b, o, none⟩) :=
  ⟨fun b o h => hb.cell (p := ⟨b, o, none⟩) h, fun b o h => hb.frozen (p := ⟨b, o, none⟩) h⟩
theorem below_drewN {B : Nat} {a w : World} (h : Below B a w) (n : Nat) : Below B a (w.drewN n) := ⟨h.os, h.tape, h.output, h.size, h.block⟩
theorem keep_cell {w w' : World} {b o : Nat} {v : Value} (hb : Below w.heap.size w w') (hlt : b < w.heap.size) (h : w.cell? ⟨b, o, none⟩ = some v) : w'.cell? ⟨b, o, none⟩ = some v :=
  (hb.cell (p := ⟨b, o, none⟩) hlt).trans h
theorem keep_cellN {N : Nat} {w w' : World} {b o : Nat} {v : Value} (hb : Below N w w') (hlt : b < N) (h : w.cell? ⟨b, o, none⟩ = some v) : w'.cell? ⟨b, o, none⟩ = some v :=
  (hb.cell (p := ⟨b, o, none⟩) hlt).trans h

theorem World.cell?_alloc_40 (w : World) (x0 x1 x2 x3 : Value) (t : TypeId) : (w.alloc (.cells #[x0, x1, x2, x3] t)).cell? ⟨w.heap.size, 0, none⟩ = some x0 := by simp [go_sem]
theorem World.cell?_alloc_41 (w : World) (x0 x1 x2 x3 : Value) (t : TypeId) : (w.alloc (.cells #[x0, x1, x2, x3] t)).cell? ⟨w.heap.size, 1, none⟩ = some x1 := by simp [go_sem]
theorem World.cell?_alloc_42 (w : World) (x0 x1 x2 x3 : Value) (t : TypeId) : (w.alloc (.cells #[x0, x1, x2, x3] t)).cell? ⟨w.heap.size, 2, none⟩ = some x2 := by simp [go_sem]
theorem World.cell?_alloc_43 (w : World) (x0 x1 x2 x3 : Value) (t : TypeId) : (w.alloc (.cells #[x0, x1, x2, x3] t)).cell? ⟨w.heap.size, 3, none⟩ = some x3 := by simp [go_sem]
theorem World.cell?_alloc_30 (w : World) (x0 x1 x2 : Value) (t : TypeId) : (w.alloc (.cells #[x0, x1, x2] t)).cell? ⟨w.heap.size, 0, none⟩ = some x0 := by simp [go_sem]
theorem World.cell?_alloc_31 (w : World) (x0 x1 x2 : Value) (t : TypeId) : (w.alloc (.cells #[x0, x1, x2] t)).cell? ⟨w.heap.size, 1, none⟩ = some x1 := by simp [go_sem]
theorem World.cell?_alloc_32 (w : World) (x0 x1 x2 : Value) (t : TypeId) : (w.alloc (.cells #[x0, x1, x2] t)).cell? ⟨w.heap.size, 2, none⟩ = some x2 := by simp [go_sem]

structure Sec where
  o : Int
  f : Int
  t : Int
structure CT where
  c : Int
  p : Int
  d : Int
  ss : List Sec

/-- The sections ss lie at an address, in a block below N. -/
def SecsAt (w : World) (N : Nat) (a : Option Addr) (ss : List Sec) : Prop :=
  ss ≠ [] → ∃ b off, a = some ⟨b, off, none⟩ ∧ b < N ∧ ∀ j s, ss[j]? = some s → w.cell? ⟨b, off + j * 3, none⟩ = some (.int .i64 s.o) ∧ w.cell? ⟨b, off + j * 3 + 1, none⟩ = some (.int .i64 s.f) ∧ w.cell? ⟨b, off + j * 3 + 2, none⟩ = some (.int .i64 s.t)
/-- The tasks l lie at an address, in a block below N, their sections below N. -/
def TasksAt (w : World) (N : Nat) (a : Option Addr) (l : List CT) : Prop :=
  l ≠ [] → ∃ b off, a = some ⟨b, off, none⟩ ∧ b < N ∧ ∀ i t, l[i]? = some t →
    w.cell? ⟨b, off + i * 4, none⟩ = some (.int .i64 t.c) ∧ w.cell? ⟨b, off + i * 4 + 1, none⟩ = some (.int .i64 t.p) ∧ w.cell? ⟨b, off + i * 4 + 2, none⟩ = some (.int .i64 t.d) ∧
      ∃ sa sc, w.cell? ⟨b, off + i * 4 + 3, none⟩ = some (.slice sa t.ss.length sc) ∧ t.ss.length ≤ 9223372036854775807 ∧ SecsAt w N sa t.ss

section
variable {w w' : World} {N N' : Nat} {a : Option Addr} {l : List CT} {ss : List Sec}
theorem SecsAt.keep (h : SecsAt w N a ss) (hb : Below N w w') : SecsAt w' N a ss := fun hne => by
  obtain ⟨b, off, e, hlt, hc⟩ := h hne
  refine ⟨b, off, e, hlt, fun j s hj => ?_⟩
  obtain ⟨c0, c1, c2⟩ := hc j s hj
  exact ⟨keep_cellN hb hlt c0, keep_cellN hb hlt c1, keep_cellN hb hlt c2⟩
theorem SecsAt.more (h : SecsAt w N a ss) (hN : N ≤ N') : SecsAt w N' a ss := fun hne => by
  obtain ⟨b, off, e, hlt, hc⟩ := h hne
  exact ⟨b, off, e, by omega, hc⟩
theorem TasksAt.keep (h : TasksAt w N a l) (hb : Below N w w') : TasksAt w' N a l := fun hne => by
  obtain ⟨b, off, e, hlt, hc⟩ := h hne
  refine ⟨b, off, e, hlt, fun j s hj => ?_⟩
  obtain ⟨c0, c1, c2, sa, sc, c3, hl, hs⟩ := hc j s hj
  exact ⟨keep_cellN hb hlt c0, keep_cellN hb hlt c1, keep_cellN hb hlt c2, sa, sc, keep_cellN hb hlt c3, hl, hs.keep hb⟩
theorem TasksAt.more (h : TasksAt w N a l) (hN : N ≤ N') : TasksAt w N' a l := fun hne => by
  obtain ⟨b, off, e, hlt, hc⟩ := h hne
  refine ⟨b, off, e, by omega, fun j s hj => ?_⟩
  obtain ⟨c0, c1, c2, sa, sc, c3, hl, hs⟩ := hc j s hj
  exact ⟨c0, c1, c2, sa, sc, c3, hl, hs.more hN⟩
/-- The tasks in a later world, with all that lies there. -/
theorem TasksAt.on (h : TasksAt w N a l) (hb : Below N w w') (hN : N ≤ w'.heap.size) : TasksAt w' w'.heap.size a l := (h.keep hb).more hN
end

/-! ### Validity -/
def secOK (e c : Int) (s : Sec) : Bool := decide (e ≤ s.f ∧ s.f < s.t ∧ s.t ≤ c ∧ 0 ≤ s.o ∧ s.o ≤ 1000)
def secsOK (e c : Int) : List Sec → Bool
  | [] => true
  | s :: r => secOK e c s && secsOK s.t c r
def headOK (t : CT) : Bool := decide (1 ≤ t.c ∧ t.c ≤ 1000 ∧ 1 ≤ t.p ∧ t.p ≤ 1000 ∧ 1 ≤ t.d ∧ t.d ≤ t.p ∧ t.ss.length ≤ 8)
def okT (t : CT) : Bool := headOK t && secsOK 0 t.c t.ss
def validL (l : List CT) : Bool := decide (l.length ≤ 20) && l.all okT

theorem validL_no {l : List CT} {k : Nat} (h : k < l.length) (hv : okT l[k] = false) : validL l = false := by
  unfold validL
  have : l.all okT = false := by
    rw [List.all_eq_false]
    exact ⟨l[k], List.getElem_mem h, by simp [hv]⟩
  simp [this]
theorem take_ok {l : List CT} {k : Nat} (h : k < l.length) (ha : (l.take k).all okT = true) (hv : okT l[k] = true) : (l.take (k + 1)).all okT = true := by
  rw [List.take_succ_eq_append_getElem h, List.all_append, ha]; simp [hv]
theorem validL_yes {l : List CT} (h : l.length ≤ 20) (ha : (l.take l.length).all okT = true) : validL l = true := by
  rw [List.take_of_length_le (Nat.le_refl _)] at ha
  simp [validL, h, ha]
theorem secs_step {e c : Int} {ss : List Sec} {j : Nat} (h : j < ss.length) (hok : secOK e c ss[j] = true) : secsOK e c (ss.drop j) = secsOK ss[j].t c (ss.drop (j + 1)) := by
  rw [List.drop_eq_getElem_cons h, secsOK, hok]; simp
theorem secs_no {e c : Int} {ss : List Sec} {j : Nat} (h : j < ss.length) (hok : secOK e c ss[j] = false) : secsOK e c (ss.drop j) = false := by
  rw [List.drop_eq_getElem_cons h, secsOK, hok]; simp
theorem secOK_yes {e c : Int} {s : Sec} (h : e ≤ s.f ∧ s.f < s.t ∧ s.t ≤ c ∧ 0 ≤ s.o ∧ s.o ≤ 1000) : secOK e c s = true := by simp [secOK]; omega
theorem secOK_not {e c : Int} {s : Sec} (h : ¬ (e ≤ s.f ∧ s.f < s.t ∧ s.t ≤ c ∧ 0 ≤ s.o ∧ s.o ≤ 1000)) : secOK e c s = false := by simp only [secOK]; exact decide_eq_false h
theorem headOK_not {t : CT} (h : ¬ (1 ≤ t.c ∧ t.c ≤ 1000 ∧ 1 ≤ t.p ∧ t.p ≤ 1000 ∧ 1 ≤ t.d ∧ t.d ≤ t.p ∧ t.ss.length ≤ 8)) : okT t = false := by
  have : headOK t = false := decide_eq_false h
  simp [okT, this]
end

section
open Go.RowKit

theorem info_int : (Tryz.prog.info? 3).map (fun i => (i.zero, i.size, i.bytes)) = some (some (.int .i64 0), 1, 8) := by kernel_rfl

/-- The integers xs lie at an address, in a block below N. -/
def IntsAt (w : World) (N : Nat) (a : Option Addr) (xs : List Int) : Prop :=
  xs ≠ [] → ∃ b off, a = some ⟨b, off, none⟩ ∧ b < N ∧ ∀ i x, xs[i]? = some x → w.cell? ⟨b, off + i, none⟩ = some (.int .i64 x)
theorem IntsAt.keep {w w' : World} {N : Nat} {a : Option Addr} {xs : List Int} (h : IntsAt w N a xs) (hb : Below N w w') : IntsAt w' N a xs := fun hne => by
  obtain ⟨b, off, e, hlt, hc⟩ := h hne
  exact ⟨b, off, e, hlt, fun i x hi => keep_cellN hb hlt (hc i x hi)⟩
theorem IntsAt.more {w : World} {N N' : Nat} {a : Option Addr} {xs : List Int} (h : IntsAt w N a xs) (hN : N ≤ N') : IntsAt w N' a xs := fun hne => by
  obtain ⟨b, off, e, hlt, hc⟩ := h hne
  exact ⟨b, off, e, by omega, hc⟩
theorem IntsAt.on {w w' : World} {N : Nat} {a : Option Addr} {xs : List Int} (h : IntsAt w N a xs) (hb : Below N w w') (hN : N ≤ w'.heap.size) : IntsAt w' w'.heap.size a xs := (h.keep hb).more hN

theorem own_below {w w' : World} {base B size n : Nat} {e : TypeId} {v : Value} {xs : List Value} (h : w.ownsRow base e size v n xs) (hb : Below B w w') (hB : w.heap.size ≤ B) : w'.ownsRow base e size v n xs := by
  refine ⟨h.1, ?_⟩
  rcases h.2 with h0 | ⟨g, cap, cur, hv, h1, h2, h3⟩
  · exact .inl h0
  · have hlt : g < w.heap.size := by
      rcases Nat.lt_or_ge g w.heap.size with h | h
      · exact h
      · rw [Array.getElem?_eq_none h] at h2; cases h2
    exact .inr ⟨g, cap, cur, hv, h1, (hb.block g (by omega)).trans h2, h3⟩
theorem own_ints {w : World} {base n : Nat} {v : Value} {xs : List Int} (h : w.ownsRow base 3 1 v n (xs.map (Value.int .i64))) : ∃ a cap, v = .slice a xs.length cap ∧ IntsAt w w.heap.size a xs ∧ xs.length ≤ cap ∧ cap ≤ 9223372036854775807 := by
  have hn : n = xs.length := by have := h.1; simp at this; omega
  subst hn
  rcases h.2 with ⟨hv, h0⟩ | ⟨g, cap, cur, hv, h1, h2, h3, h4, _⟩
  · refine ⟨none, 0, by rw [hv, h0], fun hne => ?_, by omega, by omega⟩
    exact absurd (List.eq_nil_of_length_eq_zero h0) hne
  · have hlt : g < w.heap.size := by
      rcases Nat.lt_or_ge g w.heap.size with h | h
      · exact h
      · rw [Array.getElem?_eq_none h] at h2; cases h2
    refine ⟨some ⟨g, 0, none⟩, cap, hv, fun _ => ⟨g, 0, rfl, hlt, fun i x hi => ?_⟩, h3, by unfold maxLen at h4; omega⟩
    subst hv
    have hlt2 : i < xs.length := (List.getElem?_eq_some_iff.1 hi).1
    have := h.cellAt i (by omega)
    rw [Nat.zero_add, this, List.getElem?_map, hi]; rfl

/-- 'append(v, x)' of one integer, onto a row of the call's own. -/
theorem app_int {w : World} {base n : Nat} {v : Value} {xs : List Int} (h : w.ownsRow base 3 1 v n (xs.map (Value.int .i64))) (x : Int) (hn : n ≤ 1000000000) (hbase : base ≤ w.heap.size) :
    ∃ v' w', (Builtin.append_ #[42, 42] 42 #[v, .slice (some ⟨w.heap.size, 0, none⟩) 1 1]).run Tryz.prog (w.alloc (.cells #[.int .i64 x] 3)) = .ok v' w' ∧
      w'.ownsRow base 3 1 v' (n + 1) ((xs ++ [x]).map (Value.int .i64)) ∧ Below base w w' := by
  obtain ⟨i0, hi, hz0, hz1, hz2⟩ := info_parts info_int
  obtain ⟨v', w', hrun, hown, hg, _⟩ := run_append_own (P := Tryz.prog) (w.alloc (.cells #[.int .i64 x] 3)) base 42 42 3 i0 (.int .i64 0) 1 8 Tryz.underlying42 hi hz0 hz1 hz2 rfl (by decide) v n _ (h.alloc _) ⟨w.heap.size, 0, none⟩ 1 1 [.int .i64 x] rfl
    (fun j u hj => by
      match j, hj with
      | 0, hj => obtain rfl : _ = u := by simpa using hj
                 simp [Addr.add, go_sem])
    (by simp [Value.oneCell']) (by unfold maxLen; omega) (by omega) (by simp; omega)
  refine ⟨v', w', hrun, by simpa using hown, ((Below.refl base w).alloc hbase _).grown hg (by simp; omega) (fun k hk => ?_)⟩
  rcases h.2 with ⟨rfl, _⟩ | ⟨g, cap, cur, rfl, hb, _⟩
  · simp [Value.ownBlock] at hk
  · simp [Value.ownBlock] at hk; omega

/-- A built-in append whose run is known, met in a walk. -/
theorem wpList_append_by {P : Program} {w : World} {ops : Array Oper} {rest : List Oper} {o : Oper} {a : Act} {Q : Exit → Act → World → Prop} (hgd : o.guard = none) (s x : Operand) (t : TypeId)
    (ho : o.op = .call { callee := .builtin .append, args := #[s, x], argTypes := #[t, t] }) (v sl v' : Value) (w' : World) (hs : a.eval s = v) (hx : a.eval x = sl)
    (hrun : (Builtin.append_ #[t, t] o.type #[v, sl]).run P w = .ok v' w') (h : wpList P ops Q rest (a.put o.dst v') w') : wpList P ops Q (o :: rest) a w := by
  refine wpList_plain hgd fun K hK => ?_
  unfold Oper.wp execOp
  simp only [ho, resolve, invoke, builtin, Sem.run_bind, Sem.run_pure, Result.andThen_ok, List.map_toArray, List.map_cons, List.map_nil, hs, hx, hrun]
  exact hK _ _ h
end

section
open Go.RowKit

def FitI (r : List Int) : Prop := ∀ x ∈ r, -9223372036854775808 ≤ x ∧ x ≤ 9223372036854775807
def RowsAt (w : World) (N : Nat) (a : Option Addr) (rs : List (List Int)) : Prop :=
  rs ≠ [] → ∃ b off, a = some ⟨b, off, none⟩ ∧ b < N ∧ ∀ i r, rs[i]? = some r → ∃ ra rc, w.cell? ⟨b, off + i, none⟩ = some (.slice ra r.length rc) ∧ r.length ≤ rc ∧ rc ≤ 9223372036854775807 ∧ IntsAt w N ra r
theorem RowsAt.keep {w w' : World} {N : Nat} {a : Option Addr} {rs : List (List Int)} (h : RowsAt w N a rs) (hb : Below N w w') : RowsAt w' N a rs := fun hne => by
  obtain ⟨b, off, e, hlt, hc⟩ := h hne
  refine ⟨b, off, e, hlt, fun i r hi => ?_⟩
  obtain ⟨ra, rc, c0, c1, c2, c3⟩ := hc i r hi
  exact ⟨ra, rc, keep_cellN hb hlt c0, c1, c2, c3.keep hb⟩
theorem RowsAt.more {w : World} {N N' : Nat} {a : Option Addr} {rs : List (List Int)} (h : RowsAt w N a rs) (hN : N ≤ N') : RowsAt w N' a rs := fun hne => by
  obtain ⟨b, off, e, hlt, hc⟩ := h hne
  refine ⟨b, off, e, by omega, fun i r hi => ?_⟩
  obtain ⟨ra, rc, c0, c1, c2, c3⟩ := hc i r hi
  exact ⟨ra, rc, c0, c1, c2, c3.more hN⟩
theorem RowsAt.on {w w' : World} {N : Nat} {a : Option Addr} {rs : List (List Int)} (h : RowsAt w N a rs) (hb : Below N w w') (hN : N ≤ w'.heap.size) : RowsAt w' w'.heap.size a rs := (h.keep hb).more hN
def rwAt (rs : List (List Int)) (i : Nat) : List Int := rs.getD i []
theorem rwAt_get {rs : List (List Int)} {i : Nat} (h : i < rs.length) : rs[i]? = some (rwAt rs i) := by
  rw [rwAt, List.getD_eq_getElem?_getD, List.getElem?_eq_getElem h]; rfl
theorem rwAt_mem {rs : List (List Int)} {i : Nat} (h : i < rs.length) : rwAt rs i ∈ rs := List.mem_of_getElem? (rwAt_get h)

theorem getD_get {r : List Int} {k : Nat} (h : k < r.length) : r[k]? = some (r.getD k 0) := by
  rw [List.getD_eq_getElem?_getD, List.getElem?_eq_getElem h]; rfl
theorem getD_fit {r : List Int} (h : FitI r) {k : Nat} (hk : k < r.length) : -9223372036854775808 ≤ r.getD k 0 ∧ r.getD k 0 ≤ 9223372036854775807 :=
  h _ (List.mem_of_getElem? (getD_get hk))
end

section
open Go.RowKit

structure TT where
  nm : ByteArray
  c : Int
  p : Int
def ttAt (l : List TT) (j : Nat) : TT := l.getD j ⟨ByteArray.empty, 0, 0⟩
def TSAt (w : World) (N : Nat) (a : Option Addr) (l : List TT) : Prop :=
  l ≠ [] → ∃ b off, a = some ⟨b, off, none⟩ ∧ b < N ∧ ∀ i t, l[i]? = some t → w.cell? ⟨b, off + i * 3, none⟩ = some (.string t.nm) ∧ w.cell? ⟨b, off + i * 3 + 1, none⟩ = some (.int .i64 t.c) ∧ w.cell? ⟨b, off + i * 3 + 2, none⟩ = some (.int .i64 t.p)
theorem TSAt.keep {w w' : World} {N : Nat} {a : Option Addr} {l : List TT} (h : TSAt w N a l) (hb : Below N w w') : TSAt w' N a l := fun hne => by
  obtain ⟨b, off, e, hlt, hc⟩ := h hne
  refine ⟨b, off, e, hlt, fun i j hj => ?_⟩
  obtain ⟨c0, c1, c2⟩ := hc i j hj
  exact ⟨keep_cellN hb hlt c0, keep_cellN hb hlt c1, keep_cellN hb hlt c2⟩
theorem TSAt.more {w : World} {N N' : Nat} {a : Option Addr} {l : List TT} (h : TSAt w N a l) (hN : N ≤ N') : TSAt w N' a l := fun hne => by
  obtain ⟨b, off, e, hlt, hc⟩ := h hne
  exact ⟨b, off, e, by omega, hc⟩
theorem TSAt.on {w w' : World} {N : Nat} {a : Option Addr} {l : List TT} (h : TSAt w N a l) (hb : Below N w w') (hN : N ≤ w'.heap.size) : TSAt w' w'.heap.size a l := (h.keep hb).more hN
theorem ttAt_get {l : List TT} {i : Nat} (h : i < l.length) : l[i]? = some (ttAt l i) := by
  rw [ttAt, List.getD_eq_getElem?_getD, List.getElem?_eq_getElem h]; rfl
theorem ttAt_mem {l : List TT} {i : Nat} (h : i < l.length) : ttAt l i ∈ l := List.mem_of_getElem? (ttAt_get h)
def ttOK (t : TT) : Prop := 1 ≤ t.c ∧ t.c ≤ t.p ∧ t.p ≤ 1000
instance (t : TT) : Decidable (ttOK t) := by unfold ttOK; infer_instance
def tsOK (l : List TT) : Bool := decide (l.length ≤ 40) && (List.range l.length).all fun i => decide (ttOK (ttAt l i))
theorem tsOK_size {l : List TT} (h : ¬ l.length ≤ 40) : tsOK l = false := by simp only [tsOK, decide_eq_false h, Bool.false_and]
theorem tsOK_no {l : List TT} {i : Nat} (hi : i < l.length) (h : ¬ ttOK (ttAt l i)) : tsOK l = false := by
  unfold tsOK
  rw [Bool.and_eq_false_iff]
  right
  rw [List.all_eq_false]
  exact ⟨i, by simpa using hi, by simp [h]⟩
theorem tsOK_mk {l : List TT} (h : l.length ≤ 40) (hj : ∀ i, i < l.length → ttOK (ttAt l i)) : tsOK l = true := by
  unfold tsOK
  rw [decide_eq_true h, Bool.true_and, List.all_eq_true]
  intro i hi
  exact decide_eq_true (hj i (by simpa using hi))
theorem tsOK_bd {l : List TT} (h : tsOK l = true) : l.length ≤ 40 ∧ ∀ i, i < l.length → ttOK (ttAt l i) := by
  unfold tsOK at h
  rw [Bool.and_eq_true, decide_eq_true_eq, List.all_eq_true] at h
  exact ⟨h.1, fun i hi => of_decide_eq_true (h.2 i (by simpa using hi))⟩
theorem blkT {w : World} {g : Nat} {x y z : Value} {t : TypeId} (h : w.heap[g]? = some (.cells #[x, y, z] t (0, 0))) : w.cell? ⟨g, 0, none⟩ = some x ∧ w.cell? ⟨g, 1, none⟩ = some y ∧ w.cell? ⟨g, 2, none⟩ = some z := by
  simp [World.cell?, h]

set_option maxRecDepth 100000 in
set_option maxHeartbeats 6400000 in
theorem tvalid_any (l : List TT) (a : Option Addr) (cap : Nat) (w : World) (hl : l.length ≤ 9223372036854775807) (hc : TSAt w w.heap.size a l) :
    Calls Tryz.prog 13 #[.slice a l.length cap] w fun e w' => e = .returned (.bool (tsOK l)) ∧ Below w.heap.size w w' := by
  have hlI : (l.length : Int) ≤ 9223372036854775807 := by omega
  by_cases h1 : l.length ≤ 40
  · have h1' : (l.length : Int) ≤ 40 := by omega
    go_enter Tryz.func13, Tryz.ntmps13
    go_wp2_with fail
    go_loopw [10] (fun u wr => ∃ k : Nat, u = .int .i64 k ∧ k ≤ l.length ∧ Hid (∀ i, i < k → ttOK (ttAt l i)) ∧ Below w.heap.size w wr) (fun u _ => l.length - (intOf u).toNat)
    case atStart => exact ⟨0, rfl, by omega, fun i hi => absurd hi (Nat.not_lt_zero _), Below.refl _ _⟩
    case round =>
      obtain ⟨k, rfl, hk, hall, hbl⟩ := hrel
      have hbs := hbl.size
      by_cases hlt : k < l.length
      · have k0 : (0 : Int) ≤ (k : Int) := by omega
        have k1 : (k : Int) < (l.length : Int) := by omega
        obtain ⟨b, off, rfl, hbN, hcell⟩ := hc (by intro e; simp [e] at hlt)
        obtain ⟨c0, c1, c2⟩ := hcell k _ (ttAt_get hlt)
        have c0 := keep_cellN hbl hbN c0
        have c1 := keep_cellN hbl hbN c1
        have c2 := keep_cellN hbl hbN c2
        have hbr : b < wr.heap.size := by omega
        have HNO := Lib.hid (fun h => tsOK_no hlt h)
        have HST := Lib.hid (fun (h : ttOK (ttAt l k)) i (hi : i < k + 1) => show ttOK (ttAt l i) from by
          by_cases e : i = k
          · subst e; exact h
          · exact hall.out i (by omega))
        clear hcell hall
        generalize ttAt l k = j at *
        obtain ⟨jn, jc, jp⟩ := j
        simp only at c0 c1 c2
        have bj := hbl.alloc hbs (.cells #[.string jn, .int .i64 jc, .int .i64 jp] 41)
        have jcl := Go.Deep.blk_alloc_new wr (.cells #[.string jn, .int .i64 jc, .int .i64 jp] 41)
        have hsj : wr.heap.size < (wr.alloc (.cells #[.string jn, .int .i64 jc, .int .i64 jp] 41)).heap.size := by simp
        clear hbl
        go_upto_region 6 with fail
        generalize wr.alloc (.cells #[.string jn, .int .i64 jc, .int .i64 jp] 41) = wj at *
        obtain ⟨g0, g1, g2⟩ := blkT jcl
        clear jcl c0 c1 c2
        by_cases p1 : 1 ≤ jc
        · by_cases p2 : jc ≤ jp
          · by_cases p3 : jp ≤ 1000
            · have HS2 := Lib.hid (HST.out ⟨p1, p2, p3⟩)
              clear HST
              go_wp2_with fail
              go_roundw
              case rel => exact ⟨k + 1, by go_num, by omega, HS2.out, bj⟩
              case measure => simp [intOf]; omega
            · have HN := Lib.hid (HNO.out (fun h => p3 h.2.2))
              clear HST
              go_wp2_with fail
              go_ret
              exact ⟨ret_bool HN.out.symm, bj⟩
          · have HN := Lib.hid (HNO.out (fun h => p2 h.2.1))
            clear HST
            go_wp2_with fail
            go_ret
            exact ⟨ret_bool HN.out.symm, bj⟩
        · have HN := Lib.hid (HNO.out (fun h => p1 h.1))
          clear HST
          go_wp2_with fail
          go_ret
          exact ⟨ret_bool HN.out.symm, bj⟩
      · obtain rfl : k = l.length := by omega
        have HN := Lib.hid (tsOK_mk h1 hall.out)
        clear hall
        go_wp2_with fail
        go_ret
        exact ⟨ret_bool HN.out.symm, hbl⟩
  · have h1' : ¬ (l.length : Int) ≤ 40 := by omega
    have HN := Lib.hid (tsOK_size h1)
    go_enter Tryz.func13, Tryz.ntmps13
    go_wp2_with fail
    go_ret
    exact ⟨ret_bool HN.out.symm, Below.refl _ _⟩
end
end Go.Proofs.YtfoadipocpopiaaGreat
