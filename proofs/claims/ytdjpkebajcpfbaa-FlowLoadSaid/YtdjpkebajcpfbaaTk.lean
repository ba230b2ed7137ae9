/- Tasks with sections as data, and how they lie in memory; small lemmas of the walks. Conditions: each theorem's own. -/
import Derived.Test.YtdjpkebajcpfbaaRows
import Derived.WalkKit
import Derived.WalkSpells
import Derived.WalkLawsBesides
import Derived.Lib.Hide
import Derived.Deep.QuietTactic
import Derived.BigQuiet
namespace Go.Proofs.Ytdjpkebajcpfbaa
open Go.RowKit

theorem ret_bool {a b : Bool} (h : a = b) : Ending.returned (.bool a) = .returned (.bool b) := by rw [h]
theorem ret_int {a b : Int} (h : a = b) : Ending.returned (.int .i64 a) = .returned (.int .i64 b) := by rw [h]
theorem ret_tup2 {a b c d : Int} (h1 : a = c) (h2 : b = d) : Ending.returned (.tuple #[.int .i64 a, .int .i64 b]) = .returned (.tuple #[.int .i64 c, .int .i64 d]) := by subst h1 h2; rfl
theorem bcell {W w1 : World} (hb : Below W.heap.size W w1) : (∀ b o, b < W.heap.size → w1.cell? ⟨b, o, none⟩ = W.cell? ⟨b, o, none⟩) ∧ (∀ b o, b < W.heap.size → w1.frozen? ⟨b, o, none⟩ = W.frozen? ⟨b, o, none⟩) :=
  ⟨fun b o h => hb.cell (p := ⟨b, o, none⟩) h, fun b o h => hb.frozen (p := ⟨b, o, none⟩) h⟩
theorem below_drewN {B : Nat} {a w : World} (h : Below B a w) (n : Nat) : Below B a (w.drewN n) := ⟨h.os, h.tape, h.output, h.size, h.block⟩
theorem keep_cell {w w' : World} {b o : Nat} {v : Value} (hb : Below w.heap.size w w') (hlt : b < w.heap.size) (h : w.cell? ⟨b, o, none⟩ = some v) : w'.cell? ⟨b, o, none⟩ = some v :=
  (hb.cell (p := ⟨b, o, none⟩) hlt).trans h
theorem keep_cellN {N : Nat} {w w' : World} {b o : Nat} {v : Value} (hb : Below N w w') (hlt : b < N) (h : w.cell? ⟨b, o, none⟩ = some v) : w'.cell? ⟨b, o, none⟩ = some v :=
  (hb.cell (p := ⟨b, o, none⟩) hlt).trans h

theorem World.cell?_alloc_40 (w : World) (x0 x1 x2 x3 : Value) (t : TypeId) : (w.alloc (.cells #[x0, x1, x2, x3] t)).cell? ⟨w.heap.size, 0, none⟩ = some x0 := by simp [go_sem]
theorem World.cell?_alloc_41 (w : World) (x0 x1 x2 x3 : Value) (t : TypeId) : (w.alloc (.cells #[x0, x1, x2, x3] t)).cell? ⟨w.heap.size, 1, none⟩ = some x1 := by simp [go_sem]
theorem World.cell?_alloc_42 (w : World) (x0 x1 x2 x3 : Value) (t : TypeId) : (w.alloc (.cells #[x0, x1, x2, x3] t)).cell? ⟨w.heap.size, 2, none⟩ = some x2 := by simp [go_sem]
theorem World.cell?_alloc_43 (w : World) (x0 x1 x2 x3 : Value) (t : TypeId) : (w.alloc (.cells #[x0, x1, x2, x3] t)).cell? ⟨w.heap.size, 3, none⟩ = some x3 := by simp [go_sem]
theorem World.cell?_alloc_30 (w : World) (x0 x1 x2 : Value) (t : TypeId) : (w.alloc (.cells #[x0, x1, x2] t)).cell? ⟨w.heap.size, 0, none⟩ = some x0 := by simp [go_sem]
theorem World.cell?_alloc_31 (w : World) (x0 x1 x2 : Value) (t : TypeId) : (w.alloc (.cells #[x0, x1, x2] t)).cell? ⟨w.heap.size, 1, none⟩ = some x1 := by simp [go_sem]
theorem World.cell?_alloc_32 (w : World) (x0 x1 x2 : Value) (t : TypeId) : (w.alloc (.cells #[x0, x1, x2] t)).cell? ⟨w.heap.size, 2, none⟩ = some x2 := by simp [go_sem]

structure Sec where
  o : Int
  f : Int
  t : Int
structure CT where
  c : Int
  p : Int
  d : Int
  ss : List Sec

/-- The sections ss lie at an address, in a block below N. -/
def SecsAt (w : World) (N : Nat) (a : Option Addr) (ss : List Sec) : Prop :=
  ss ≠ [] → ∃ b off, a = some ⟨b, off, none⟩ ∧ b < N ∧ ∀ j s, ss[j]? = some s → w.cell? ⟨b, off + j * 3, none⟩ = some (.int .i64 s.o) ∧ w.cell? ⟨b, off + j * 3 + 1, none⟩ = some (.int .i64 s.f) ∧ w.cell? ⟨b, off + j * 3 + 2, none⟩ = some (.int .i64 s.t)
/-- The tasks l lie at an address, in a block below N, their sections below N. -/
def TasksAt (w : World) (N : Nat) (a : Option Addr) (l : List CT) : Prop :=
  l ≠ [] → ∃ b off, a = some ⟨b, off, none⟩ ∧ b < N ∧ ∀ i t, l[i]? = some t →
    w.cell? ⟨b, off + i * 4, none⟩ = some (.int .i64 t.c) ∧ w.cell? ⟨b, off + i * 4 + 1, none⟩ = some (.int .i64 t.p) ∧ w.cell? ⟨b, off + i * 4 + 2, none⟩ = some (.int .i64 t.d) ∧
      ∃ sa sc, w.cell? ⟨b, off + i * 4 + 3, none⟩ = some (.slice sa t.ss.length sc) ∧ t.ss.length ≤ 9223372036854775807 ∧ SecsAt w N sa t.ss

section
variable {w w' : World} {N N' : Nat} {a : Option Addr} {l : List CT} {ss : List Sec}
theorem SecsAt.keep (h : SecsAt w N a ss) (hb : Below N w w') : SecsAt w' N a ss := fun hne => by
  obtain ⟨b, off, e, hlt, hc⟩ := h hne
  refine ⟨b, off, e, hlt, fun j s hj => ?_⟩
  obtain ⟨c0, c1, c2⟩ := hc j s hj
  exact ⟨keep_cellN hb hlt c0, keep_cellN hb hlt c1, keep_cellN hb hlt c2⟩
theorem SecsAt.more (h : SecsAt w N a ss) (hN : N ≤ N') : SecsAt w N' a ss := fun hne => by
  obtain ⟨b, off, e, hlt, hc⟩ := h hne
  exact ⟨b, off, e, by omega, hc⟩
theorem TasksAt.keep (h : TasksAt w N a l) (hb : Below N w w') : TasksAt w' N a l := fun hne => by
  obtain ⟨b, off, e, hlt, hc⟩ := h hne
  refine ⟨b, off, e, hlt, fun j s hj => ?_⟩
  obtain ⟨c0, c1, c2, sa, sc, c3, hl, hs⟩ := hc j s hj
  exact ⟨keep_cellN hb hlt c0, keep_cellN hb hlt c1, keep_cellN hb hlt c2, sa, sc, keep_cellN hb hlt c3, hl, hs.keep hb⟩
theorem TasksAt.more (h : TasksAt w N a l) (hN : N ≤ N') : TasksAt w N' a l := fun hne => by
  obtain ⟨b, off, e, hlt, hc⟩ := h hne
  refine ⟨b, off, e, by omega, fun j s hj => ?_⟩
  obtain ⟨c0, c1, c2, sa, sc, c3, hl, hs⟩ := hc j s hj
  exact ⟨c0, c1, c2, sa, sc, c3, hl, hs.more hN⟩
/-- The tasks in a later world, with all that lies there. -/
theorem TasksAt.on (h : TasksAt w N a l) (hb : Below N w w') (hN : N ≤ w'.heap.size) : TasksAt w' w'.heap.size a l := (h.keep hb).more hN
end

/-! ### Validity -/
def secOK (e c : Int) (s : Sec) : Bool := decide (e ≤ s.f ∧ s.f < s.t ∧ s.t ≤ c ∧ 0 ≤ s.o ∧ s.o ≤ 1000)
def secsOK (e c : Int) : List Sec → Bool
  | [] => true
  | s :: r => secOK e c s && secsOK s.t c r
def headOK (t : CT) : Bool := decide (1 ≤ t.c ∧ t.c ≤ 1000 ∧ 1 ≤ t.p ∧ t.p ≤ 1000 ∧ 1 ≤ t.d ∧ t.d ≤ t.p ∧ t.ss.length ≤ 8)
def okT (t : CT) : Bool := headOK t && secsOK 0 t.c t.ss
def validL (l : List CT) : Bool := decide (l.length ≤ 20) && l.all okT

theorem validL_no {l : List CT} {k : Nat} (h : k < l.length) (hv : okT l[k] = false) : validL l = false := by
  unfold validL
  have : l.all okT = false := by
    rw [List.all_eq_false]
    exact ⟨l[k], List.getElem_mem h, by simp [hv]⟩
  simp [this]
theorem take_ok {l : List CT} {k : Nat} (h : k < l.length) (ha : (l.take k).all okT = true) (hv : okT l[k] = true) : (l.take (k + 1)).all okT = true := by
  rw [List.take_succ_eq_append_getElem h, List.all_append, ha]; simp [hv]
theorem validL_yes {l : List CT} (h : l.length ≤ 20) (ha : (l.take l.length).all okT = true) : validL l = true := by
  rw [List.take_of_length_le (Nat.le_refl _)] at ha
  simp [validL, h, ha]
theorem secs_step {e c : Int} {ss : List Sec} {j : Nat} (h : j < ss.length) (hok : secOK e c ss[j] = true) : secsOK e c (ss.drop j) = secsOK ss[j].t c (ss.drop (j + 1)) := by
  rw [List.drop_eq_getElem_cons h, secsOK, hok]; simp
theorem secs_no {e c : Int} {ss : List Sec} {j : Nat} (h : j < ss.length) (hok : secOK e c ss[j] = false) : secsOK e c (ss.drop j) = false := by
  rw [List.drop_eq_getElem_cons h, secsOK, hok]; simp
theorem secOK_yes {e c : Int} {s : Sec} (h : e ≤ s.f ∧ s.f < s.t ∧ s.t ≤ c ∧ 0 ≤ s.o ∧ s.o ≤ 1000) : secOK e c s = true := by simp [secOK]; omega
theorem secOK_not {e c : Int} {s : Sec} (h : ¬ (e ≤ s.f ∧ s.f < s.t ∧ s.t ≤ c ∧ 0 ≤ s.o ∧ s.o ≤ 1000)) : secOK e c s = false := by simp only [secOK]; exact decide_eq_false h
theorem headOK_not {t : CT} (h : ¬ (1 ≤ t.c ∧ t.c ≤ 1000 ∧ 1 ≤ t.p ∧ t.p ≤ 1000 ∧ 1 ≤ t.d ∧ t.d ≤ t.p ∧ t.ss.length ≤ 8)) : okT t = false := by
  have : headOK t = false := decide_eq_false h
  simp [okT, this]
end Go.Proofs.Ytdjpkebajcpfbaa
