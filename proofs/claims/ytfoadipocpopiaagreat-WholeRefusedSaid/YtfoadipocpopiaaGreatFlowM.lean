/- What the search for flow keeps in memory. Conditions: each theorem's own. -/
import Derived.Test.YtfoadipocpopiaaGreatM00
import Derived.Test.YtfoadipocpopiaaGreatM01
import Derived.Test.YtfoadipocpopiaaGreatWinCat
import Derived.Deep.OwnRows
import Derived.Deep.Heap
namespace Go.Proofs.YtfoadipocpopiaaGreat
open Go.RowKit Go.Deep

/-- n integers of the block b from the offset o on. -/
def RowI (w : World) (b o n : Nat) (f : Nat → Int) : Prop := ∃ cur : Array Value, w.heap[b]? = some (.cells cur 3 (0, 0)) ∧ o + n ≤ cur.size ∧ ∀ j, j < n → cur[o + j]? = some (.int .i64 (f j))
section
variable {w w' : World} {b o n : Nat} {f g : Nat → Int}
theorem RowI.cell (h : RowI w b o n f) {j : Nat} (hj : j < n) : w.cell? ⟨b, o + j, none⟩ = some (.int .i64 (f j)) := by
  obtain ⟨cur, hb, _, hc⟩ := h
  simp [World.cell?, hb, hc j hj]
theorem RowI.frozen (h : RowI w b o n f) (j : Nat) : w.frozen? ⟨b, j, none⟩ = false := by
  obtain ⟨cur, hb, _, _⟩ := h
  simp [World.frozen?, hb]
theorem RowI.lt (h : RowI w b o n f) : b < w.heap.size := by
  obtain ⟨cur, hb, _, _⟩ := h
  exact (Array.getElem?_eq_some_iff.1 hb).1
theorem RowI.congr (h : RowI w b o n f) (e : ∀ j, j < n → f j = g j) : RowI w b o n g := by
  obtain ⟨cur, hb, h1, hc⟩ := h
  exact ⟨cur, hb, h1, fun j hj => by rw [hc j hj, e j hj]⟩
theorem RowI.of_block (h : RowI w b o n f) (e : w'.heap[b]? = w.heap[b]?) : RowI w' b o n f := by
  obtain ⟨cur, hb, h1, hc⟩ := h
  exact ⟨cur, e.trans hb, h1, hc⟩
theorem RowI.set (h : RowI w b o n f) {j : Nat} (hj : j < n) (x : Int) : RowI (w.setCell ⟨b, o + j, none⟩ (.int .i64 x)) b o n (fun k => if k = j then x else f k) := by
  obtain ⟨cur, hb, h1, hc⟩ := h
  refine ⟨cur.setIfInBounds (o + j) (.int .i64 x), by simp [World.setCell, Array.getElem?_modify, hb], by simpa using h1, fun k hk => ?_⟩
  rw [Array.getElem?_setIfInBounds]
  by_cases e : k = j
  · subst e
    simp; omega
  · rw [if_neg (by omega), hc k hk]
    simp [e]
theorem RowI.of_win {cap : Nat} {xs : List Value} (h : Win w 3 1 (.slice (some ⟨b, o, none⟩) n cap) n xs) (hx : ∀ j, j < n → xs[j]? = some (.int .i64 (f j))) : RowI w b o n f := by
  obtain ⟨h1, h2 | ⟨g, o', c, cur, e, hb, h2, h3, h4, h5⟩⟩ := h
  · simp at h2
  · simp only [Value.slice.injEq, Option.some.injEq, Addr.mk.injEq] at e
    obtain ⟨⟨rfl, rfl, _⟩, _, rfl⟩ := e
    exact ⟨cur, hb, by omega, fun j hj => h5 j _ (hx j hj)⟩
end

/-- The blocks of tag 0 are as they were. -/
structure Kept (tg : Nat → Nat) (w w' : World) : Prop where
  os : w'.os = w.os
  tape : w'.tape = w.tape
  output : w'.output = w.output
  size : w.heap.size ≤ w'.heap.size
  block : ∀ g, g < w.heap.size → tg g = 0 → w'.heap[g]? = w.heap[g]?
section
variable {tg : Nat → Nat} {w w' w'' : World}
theorem Kept.refl (tg : Nat → Nat) (w : World) : Kept tg w w := ⟨rfl, rfl, rfl, Nat.le_refl _, fun _ _ _ => rfl⟩
theorem Kept.trans (h : Kept tg w w') (h' : Kept tg w' w'') : Kept tg w w'' :=
  ⟨h'.os.trans h.os, h'.tape.trans h.tape, h'.output.trans h.output, Nat.le_trans h.size h'.size, fun g hg ht => (h'.block g (Nat.lt_of_lt_of_le hg h.size) ht).trans (h.block g hg ht)⟩
theorem Kept.drew (h : Kept tg w w') : Kept tg w w'.drew := ⟨h.os, h.tape, h.output, h.size, h.block⟩
theorem Kept.drewN (h : Kept tg w w') (n : Nat) : Kept tg w (w'.drewN n) := ⟨h.os, h.tape, h.output, h.size, h.block⟩
theorem Kept.setCell (h : Kept tg w w') {a : Addr} (ha : tg a.block ≠ 0) (v : Value) : Kept tg w (w'.setCell a v) :=
  ⟨h.os, h.tape, h.output, by simpa using h.size, fun g hg ht => (blk_setCell_other _ _ _ _ (fun e => ha (by rw [← e]; exact ht))).trans (h.block g hg ht)⟩
theorem Kept.cell (h : Kept tg w w') {b o : Nat} {v : Value} (ht : tg b = 0) (hc : w.cell? ⟨b, o, none⟩ = some v) : w'.cell? ⟨b, o, none⟩ = some v := by
  have hlt := World.block_lt_of_cell? w _ hc
  rw [World.cell?_of_block (w := w) (h.block b hlt ht)]; exact hc
theorem Kept.of_below {B : Nat} (h : Below B w w') (hB : B = w.heap.size) : Kept tg w w' := ⟨h.os, h.tape, h.output, by subst hB; exact h.size, fun g hg _ => h.block g (by omega)⟩
theorem Kept.below {B : Nat} (h : Kept tg w w') (hB : B ≤ w.heap.size) (ht : ∀ g, g < B → tg g = 0) : Below B w w' := ⟨h.os, h.tape, h.output, h.size, fun g hg => h.block g (by omega) (ht g hg)⟩
end

structure FB where
  n : Nat
  t : Nat
  lv : Nat → Int
  bs : Nat
  bn : Nat
  br : Nat
  bl : Nat
  bp : Nat
  NB : Nat
  O : Nat
  L : Nat
  lo : Nat
  lc : Nat
  B : Nat → Nat
  F : Nat → Nat
  C : Nat → Nat

/-- The variables that 'push' reaches: the sink, the next edges, what is left of the capacities, the levels, and itself. -/
structure AW (b : FB) (tg : Nat → Nat) (w : World) (s : St) : Prop where
  cs : w.cell? ⟨b.bs, 0, none⟩ = some (.int .i64 b.t)
  cn : w.cell? ⟨b.bn, 0, none⟩ = some (.slice (some ⟨b.NB, 0, none⟩) b.n b.n)
  cr : w.cell? ⟨b.br, 0, none⟩ = some (.slice (some ⟨b.O, 0, none⟩) b.n b.n)
  cl : w.cell? ⟨b.bl, 0, none⟩ = some (.slice (some ⟨b.L, b.lo, none⟩) b.n b.lc)
  cp : w.cell? ⟨b.bp, 0, none⟩ = some (.func (.func 84) #[] #[.pointer (some ⟨b.bs, 0, none⟩), .pointer (some ⟨b.bn, 0, none⟩), .pointer (some ⟨b.br, 0, none⟩), .pointer (some ⟨b.bl, 0, none⟩), .pointer (some ⟨b.bp, 0, none⟩)])
  out : ∀ i, i < b.n → w.cell? ⟨b.O, i, none⟩ = some (.slice (some ⟨b.B i, b.F i, none⟩) b.n (b.C i))
  lev : ∀ i, i < b.n → w.cell? ⟨b.L, b.lo + i, none⟩ = some (.int .i64 (b.lv i))
  nxt : w.rowIs b.NB 3 b.n (fun i => .int .i64 (s.nx i))
  row : ∀ i, i < b.n → RowI w (b.B i) (b.F i) b.n (s.r i)
  tN : tg b.NB = 1
  tB : ∀ i, i < b.n → tg (b.B i) = 2 + i
  t0 : tg b.bs = 0 ∧ tg b.bn = 0 ∧ tg b.br = 0 ∧ tg b.bl = 0 ∧ tg b.bp = 0 ∧ tg b.O = 0 ∧ tg b.L = 0

section
variable {b : FB} {tg : Nat → Nat} {w w' : World} {s : St}
/-- Nothing but blocks of another tag has changed. -/
theorem AW.same (h : AW b tg w s) (hb : ∀ g, g < w.heap.size → w'.heap[g]? = w.heap[g]?) : AW b tg w' s := by
  have hc : ∀ {g o : Nat} {v : Value}, w.cell? ⟨g, o, none⟩ = some v → w'.cell? ⟨g, o, none⟩ = some v := fun {g o v} hc => by
    have hlt := World.block_lt_of_cell? w _ hc
    rw [World.cell?_of_block (w := w) (hb g hlt)]; exact hc
  exact ⟨hc h.cs, hc h.cn, hc h.cr, hc h.cl, hc h.cp, fun i hi => hc (h.out i hi), fun i hi => hc (h.lev i hi), h.nxt.of_block (hb _ h.nxt.lt), fun i hi => (h.row i hi).of_block (hb _ (h.row i hi).lt), h.tN, h.tB, h.t0⟩
theorem AW.drew (h : AW b tg w s) : AW b tg w.drew s := h.same fun _ _ => rfl
theorem AW.drewN (h : AW b tg w s) (n : Nat) : AW b tg (w.drewN n) s := h.same fun _ _ => rfl
theorem AW.setN (h : AW b tg w s) {u : Nat} (k : Nat) : AW b tg (w.setCell ⟨b.NB, u, none⟩ (.int .i64 k)) ⟨s.r, updN s.nx u k⟩ := by
  obtain ⟨z1, z2, z3, z4, z5, z6, z7⟩ := h.t0
  have hc : ∀ {g o : Nat} {v : Value}, tg g = 0 → w.cell? ⟨g, o, none⟩ = some v → (w.setCell ⟨b.NB, u, none⟩ (.int .i64 k)).cell? ⟨g, o, none⟩ = some v := fun {g o v} ht hc => by
    rw [World.cell?_of_block (w := w) (blk_setCell_other _ _ _ _ (fun e => by have := h.tN; rw [show g = b.NB from e] at ht; omega))]; exact hc
  refine ⟨hc z1 h.cs, hc z2 h.cn, hc z3 h.cr, hc z4 h.cl, hc z5 h.cp, fun i hi => hc z6 (h.out i hi), fun i hi => hc z7 (h.lev i hi), (h.nxt.set u _).congr (fun i _ => ?_), fun i hi => (h.row i hi).of_block (blk_setCell_other _ _ _ _ (fun e => by have h1 := h.tN; have h2 := h.tB i hi; rw [show b.B i = b.NB from e] at h2; omega)), h.tN, h.tB, h.t0⟩
  show (if i = u then _ else _) = Value.int .i64 ((updN s.nx u k i : Nat) : Int)
  unfold updN
  split <;> rfl
/-- One entry of what is left. -/
def upd2 (r : Nat → Nat → Int) (i j : Nat) (x : Int) : Nat → Nat → Int := fun p q => if p = i ∧ q = j then x else r p q
theorem AW.setR (h : AW b tg w s) {i j : Nat} (hi : i < b.n) (hj : j < b.n) (x : Int) : AW b tg (w.setCell ⟨b.B i, b.F i + j, none⟩ (.int .i64 x)) ⟨upd2 s.r i j x, s.nx⟩ := by
  obtain ⟨z1, z2, z3, z4, z5, z6, z7⟩ := h.t0
  have hi2 := h.tB i hi
  have hc : ∀ {g o : Nat} {v : Value}, tg g = 0 → w.cell? ⟨g, o, none⟩ = some v → (w.setCell ⟨b.B i, b.F i + j, none⟩ (.int .i64 x)).cell? ⟨g, o, none⟩ = some v := fun {g o v} ht hc => by
    rw [World.cell?_of_block (w := w) (blk_setCell_other _ _ _ _ (fun e => by rw [← show g = b.B i from e] at hi2; omega))]; exact hc
  refine ⟨hc z1 h.cs, hc z2 h.cn, hc z3 h.cr, hc z4 h.cl, hc z5 h.cp, fun i hi => hc z6 (h.out i hi), fun i hi => hc z7 (h.lev i hi), h.nxt.setOther (fun e => by have := h.tN; rw [show b.NB = b.B i from e] at this; omega) _, fun p hp => ?_, h.tN, h.tB, h.t0⟩
  by_cases e : p = i
  · subst e
    refine ((h.row p hp).set hj x).congr fun q _ => ?_
    show (if q = j then x else s.r p q) = upd2 s.r p j x p q
    simp [upd2]
  · refine ((h.row p hp).of_block (blk_setCell_other _ _ _ _ (fun e2 => by have h3 := h.tB p hp; rw [show b.B p = b.B i from e2] at h3; omega))).congr fun q _ => ?_
    show s.r p q = upd2 s.r i j x p q
    simp [upd2, e]
/-- Both entries of an edge. -/
theorem push1_upd2 {r : Nat → Nat → Int} {u v : Nat} (hne : u ≠ v) (x : Int) : upd2 (upd2 r u v (r u v - x)) v u (r v u + x) = push1 r u v x := by
  funext p q
  unfold upd2 push1
  by_cases e1 : p = v ∧ q = u
  · obtain ⟨rfl, rfl⟩ := e1
    simp [Ne.symm hne]
  · rw [if_neg e1, if_neg e1]
    by_cases e2 : p = u ∧ q = v
    · obtain ⟨rfl, rfl⟩ := e2
      simp
    · rw [if_neg e2, if_neg e2]; omega
end
end Go.Proofs.YtfoadipocpopiaaGreat
