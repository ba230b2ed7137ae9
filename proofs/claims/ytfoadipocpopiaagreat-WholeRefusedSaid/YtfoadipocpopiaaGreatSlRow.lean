/- A slot of the schedule while it is filled. Conditions: each theorem's own. -/
import Derived.Test.YtfoadipocpopiaaGreatSlQ
import Derived.Test.YtfoadipocpopiaaGreatM15
import Derived.Test.YtfoadipocpopiaaGreatM16
import Derived.Laws.MakeOwn
namespace Go.Proofs.YtfoadipocpopiaaGreat
open Go.RowKit Go.Deep
/-- Below B only the blocks gj and gs are written. -/
structure Aside (B gj gs : Nat) (w w' : World) : Prop where
  os : w'.os = w.os
  tape : w'.tape = w.tape
  output : w'.output = w.output
  size : w.heap.size ≤ w'.heap.size
  bsz : B ≤ w.heap.size
  block : ∀ k, k < B → k ≠ gj → k ≠ gs → w'.heap[k]? = w.heap[k]?
section
variable {B gj gs N : Nat} {w w' w2 : World}
theorem Aside.refl (h : B ≤ w.heap.size) : Aside B gj gs w w := ⟨rfl, rfl, rfl, Nat.le_refl _, h, fun _ _ _ _ => rfl⟩
theorem Aside.below (h : Aside B gj gs w w') (h1 : N ≤ B) (h2 : N ≤ gj) (h3 : N ≤ gs) : Below N w w' := ⟨h.os, h.tape, h.output, h.size, fun k hk => h.block k (by omega) (by omega) (by omega)⟩
theorem Aside.step (h : Aside B gj gs w w') (hb : Below B w' w2) : Aside B gj gs w w2 :=
  ⟨hb.os.trans h.os, hb.tape.trans h.tape, hb.output.trans h.output, Nat.le_trans h.size hb.size, h.bsz, fun k h1 h2 h3 => (hb.block k h1).trans (h.block k h1 h2 h3)⟩
theorem Aside.set (h : Aside B gj gs w w') {p : Addr} (hp : p.block = gj ∨ p.block = gs) (u : Value) : Aside B gj gs w (w'.setCell p u) :=
  ⟨h.os, h.tape, h.output, by simpa [World.setCell] using h.size, h.bsz, fun k h1 h2 h3 => (Below.heap_setCell w' p u k (by rcases hp with e | e <;> rw [e] <;> assumption)).trans (h.block k h1 h2 h3)⟩
/-- The blocks of a model lie below B. -/
structure LowM (B gm gj gs : Nat) (mv : Value) : Prop where
  m : gm < B
  j : gj < B
  s : gs < B
  v : ∀ g, mv.ownBlock = some g → g < B
variable {gm n m : Nat} {ob : Array Value} {tv rv mv : Value} {js : Nat → JS}
theorem SMo.low (h : SMo w N gm gj gs ob tv rv n js mv m) : LowM w.heap.size gm gj gs mv := ⟨h.mlt, h.jlt, h.slt, fun _ hg => h.vlt hg⟩
theorem SMo.belowB (h : SMo w N gm gj gs ob tv rv n js mv m) (hl : LowM B gm gj gs mv) (hb : Below B w w') : SMo w' N gm gj gs ob tv rv n js mv m := by
  refine ⟨(hb.block _ hl.m).trans h.mod, h.jobs.of_block fun g hg => ?_, ?_, h.own, (hb.block _ hl.s).trans h.ob, h.lay, Nat.lt_of_lt_of_le h.jlt hb.size⟩
  · simp only [Value.ownBlock, Option.some.injEq] at hg
    subst hg
    exact hb.block _ hl.j
  · obtain ⟨xs, hx⟩ := h.miss
    exact ⟨xs, hx.of_block fun g hg => hb.block g (hl.v g hg)⟩
/-- A cell of the schedule is written. -/
theorem SMo.put (h : SMo w N gm gj gs ob tv rv n js mv m) (t : Nat) (u : Value) : SMo (w.setCell ⟨gs, t, none⟩ u) N gm gj gs (ob.setIfInBounds t u) tv rv n js mv m := by
  obtain ⟨l1, l2, l3, l4, l5, l6⟩ := h.lay
  refine ⟨(Below.heap_setCell w ⟨gs, t, none⟩ u gm l5).trans h.mod, h.jobs.setOther (fun g hg => ?_) u, ?_, h.own, ?_, h.lay, by simpa [World.setCell] using h.jlt⟩
  · simp only [Value.ownBlock, Option.some.injEq] at hg
    subst hg; exact l6
  · obtain ⟨xs, hx⟩ := h.miss
    exact ⟨xs, hx.setOther (fun g hg => (h.own g hg).2.2.2) u⟩
  · rw [setCell_eq_setRow w gs t _ _ _ _ h.ob]
    exact setRow_heap w gs _ _ _ _ h.ob
theorem SMo.cellS (h : SMo w N gm gj gs ob tv rv n js mv m) {t : Nat} {u : Value} (ht : ob[t]? = some u) : w.cell? ⟨gs, t, none⟩ = some u := by
  simp [World.cell?, h.ob, ht]
theorem SMo.frozenS (h : SMo w N gm gj gs ob tv rv n js mv m) (t : Nat) : w.frozen? ⟨gs, t, none⟩ = false := by
  simp [World.frozen?, h.ob]
theorem runJ_nil (js : Nat → JS) : runJ js [] = js := by funext i; simp [runJ]
theorem runJ_not {js : Nat → JS} {ch : List Nat} {i : Nat} (h : i ∉ ch) : runJ js ch i = js i := if_neg h
theorem runJ_snoc {js : Nat → JS} {ch : List Nat} {i : Nat} (h : i ∉ ch) : updS (runJ js ch) i ⟨(js i).lv, (js i).rl, (js i).dn + 1, (js i).nx⟩ = runJ js (ch ++ [i]) := by
  funext k
  unfold updS runJ
  by_cases e : k = i
  · subst e; simp
  · simp [e]
/-- While a slot is filled: the jobs ch have run, k numbers are in the row v. -/
structure RunM (w0 w : World) (N gm gj gs B t k : Nat) (ob : Array Value) (tv rv : Value) (n : Nat) (js : Nat → JS) (ch : List Nat) (mv : Value) (m : Nat) (v : Value) : Prop where
  ms : SMo w N gm gj gs (ob.setIfInBounds t v) tv rv n (runJ js ch) mv m
  row : ∃ xs : List Int, xs.length = k ∧ Win w 3 1 v k (cellsI xs)
  own : ∀ g, v.ownBlock = some g → B ≤ g
  asd : Aside B gj gs w0 w
  low : LowM B gm gj gs mv
variable {w0 : World} {t k : Nat} {ch : List Nat} {v : Value}
theorem RunM.start (h : SMo w N gm gj gs ob tv rv n js mv m) (hv : ob[t]? = some (.slice none 0 0)) : RunM w w N gm gj gs w.heap.size t 0 ob tv rv n js [] mv m (.slice none 0 0) := by
  have e : ob.setIfInBounds t (.slice none 0 0) = ob := by
    refine Array.ext_getElem? fun i => ?_
    rw [Array.getElem?_setIfInBounds]
    split
    · rename_i e; subst e
      obtain ⟨hlt, _⟩ := Array.getElem?_eq_some_iff.1 hv
      rw [if_pos hlt, hv]
    · rfl
  exact ⟨by rw [runJ_nil, e]; exact h, ⟨[], rfl, Win.nil _ _ _⟩, fun g hg => by simp [Value.ownBlock] at hg, Aside.refl (Nat.le_refl _), h.low⟩
theorem RunM.next (h : RunM w0 w N gm gj gs B t k ob tv rv n js ch mv m v) (hb : Below w.heap.size w w') : RunM w0 w' N gm gj gs B t k ob tv rv n js ch mv m v := by
  obtain ⟨xs, h1, h2⟩ := h.row
  have hB : B ≤ w.heap.size := Nat.le_trans h.asd.bsz h.asd.size
  exact ⟨h.ms.below hb, ⟨xs, h1, h2.below hb fun g hg => h2.blk_lt hg⟩, h.own, h.asd.step (hb.mono hB), h.low⟩
/-- A number is appended, and stored. -/
theorem RunM.push (h : RunM w0 w N gm gj gs B t k ob tv rv n js ch mv m v) (hk : k ≤ 1000000) (x : Int) :
    ∃ v' w', (Builtin.append_ #[42, 42] 42 #[v, .slice (some ⟨w.heap.size, 0, none⟩) 1 1]).run Tryz.prog (w.alloc (.cells #[.int .i64 x] 3)) = .ok v' w' ∧
      RunM w0 (w'.setCell ⟨gs, t, none⟩ v') N gm gj gs B t (k + 1) ob tv rv n js ch mv m v' ∧ Below B w w' ∧ (∀ g, g < w.heap.size → v.ownBlock ≠ some g → w'.heap[g]? = w.heap[g]?) := by
  obtain ⟨xs, h1, h2⟩ := h.row
  have hB : B ≤ w.heap.size := Nat.le_trans h.asd.bsz h.asd.size
  obtain ⟨v', w', hrun, g1, g2, g3, g4⟩ := int_push (q := xs) (by rw [h1]; exact h2) h.own hB x (by omega)
  refine ⟨v', w', hrun, ⟨?_, ⟨xs ++ [x], by simp [h1], ?_⟩, fun g hg => ?_, (h.asd.step g2).set (.inr rfl) v', h.low⟩, g2, g3⟩
  · have := (h.ms.belowB h.low g2).put t v'
    rwa [Array.setIfInBounds_setIfInBounds] at this
  · rw [List.length_append, h1, List.length_singleton] at g1
    exact g1.setOther (fun g hg e => by
      have hs := h.low.s
      have e2 : g = gs := e
      rcases g4 g hg with h5 | h5
      · have := h.own g h5; omega
      · omega) v'
  · rcases g4 g hg with h5 | h5
    · exact h.own g h5
    · omega
/-- A job runs. -/
theorem RunM.ran (h : RunM w0 w N gm gj gs B t k ob tv rv n js ch mv m v) {i : Nat} (hi : i < n) (hn : i ∉ ch) : RunM w0 (w.setCell ⟨gj, i * 4 + 2, none⟩ (.int .i64 ((js i).dn + 1))) N gm gj gs B t k ob tv rv n js (ch ++ [i]) mv m v := by
  have h2 := h.ms.set hi 2 (by omega) (.int .i64 ((js i).dn + 1)) ⟨(js i).lv, (js i).rl, (js i).dn + 1, (js i).nx⟩ (by rw [runJ_not hn]; rfl)
  rw [runJ_snoc hn] at h2
  obtain ⟨xs, h3, h4⟩ := h.row
  refine ⟨h2, ⟨xs, h3, h4.setOther (fun g hg e => ?_) _⟩, h.own, h.asd.set (.inl rfl) _, h.low⟩
  have := h.own g hg
  have := h.low.j
  have e2 : g = gj := e
  omega
end
/-! ### The start -/
theorem blkA {w : World} {H : Nat} {o : Obj} (h : w.heap.size = H) : (w.alloc o).heap[H]? = some o := by subst h; exact Go.Deep.blk_alloc_new w o
theorem blkU {w : World} {k : Nat} {o x : Obj} (hk : k < w.heap.size) (h : w.heap[k]? = some x) : (w.alloc o).heap[k]? = some x := (Below.heap_alloc _ _ _ hk).trans h
theorem info_job : (Tryz.prog.info? 75).map (fun i => (i.zero, i.size, i.bytes)) = some (some (.agg #[.bool false, .int .i64 0, .int .i64 0, .int .i64 0]), 4, 32) := by kernel_rfl
def jobZ : Array Value := #[.bool false, .int .i64 0, .int .i64 0, .int .i64 0]
theorem make_job (n : Nat) (hn : n ≤ 1000) (W : World) : (Instr.makeSlice 76 (.int .i64 (n : Int)) (.int .i64 (n : Int))).run Tryz.prog W = .ok (.slice (some ⟨W.heap.size, 0, none⟩) n n) (W.alloc (.cells (madeCells jobZ (n * 4)) 75)) := by
  obtain ⟨i1, hi1, hz0, hz1, hz2⟩ := info_parts info_job
  have h := run_make (P := Tryz.prog) W 76 75 i1 _ Tryz.underlying76 hi1 hz0 .i64 .i64 n n (by omega) (by omega) (by rw [hz2]; omega) (by omega)
  simp only [Int.toNat_natCast, hz1, Value.cells] at h
  exact h
theorem info_introw2 : (Tryz.prog.info? 42).map (fun i => (i.zero, i.size, i.bytes)) = some (some (.slice none 0 0), 1, 24) := by kernel_rfl
theorem make_sched (n : Nat) (hn : n ≤ 100000) (W : World) : (Instr.makeSlice 36 (.int .i64 (n : Int)) (.int .i64 (n : Int))).run Tryz.prog W = .ok (.slice (some ⟨W.heap.size, 0, none⟩) n n) (W.alloc (.cells (madeCells #[.slice none 0 0] n) 42)) := by
  obtain ⟨i1, hi1, hz0, hz1, hz2⟩ := info_parts info_introw2
  have h := run_make (P := Tryz.prog) W 36 42 i1 _ Tryz.underlying36 hi1 hz0 .i64 .i64 n n (by omega) (by omega) (by rw [hz2]; omega) (by omega)
  simp only [Int.toNat_natCast, hz1, Value.cells, Nat.mul_one] at h
  exact h
def js0 : Nat → JS := fun _ => ⟨false, 0, 0, 0⟩
theorem madeJ {n i r : Nat} (hi : i < n) (hr : r < 4) : (madeCells jobZ (n * 4))[i * 4 + r]? = (encJS (js0 i))[r]? := by
  have hlt : i * 4 + r < n * 4 := by omega
  unfold madeCells
  have hm : (i * 4 + r) % 4 = r := by omega
  have hs : jobZ.size = 4 := rfl
  rw [Array.getElem?_map, Array.getElem?_range, if_pos hlt]
  simp only [Option.map_some, hs, hm]
  match r, hr with
  | 0, _ => rfl
  | 1, _ => rfl
  | 2, _ => rfl
  | 3, _ => rfl
theorem jobs_win {w : World} {g n : Nat} (hn : n ≤ 1000) (hb : w.heap[g]? = some (.cells (madeCells jobZ (n * 4)) 75 (0, 0))) : Win w 75 4 (.slice (some ⟨g, 0, none⟩) n n) n ((jsL js0 n).flatMap encJS) := by
  have hlen : ((jsL js0 n).flatMap encJS).length = n * 4 := by rw [flat_len encJS_len, jsL_len]
  refine ⟨hlen, .inr ⟨g, 0, n, _, rfl, hb, Nat.le_refl _, by unfold maxLen; omega, by rw [size_madeCells]; omega, fun j u hj => ?_⟩⟩
  have hlt := (List.getElem?_eq_some_iff.1 hj).1
  rw [hlen] at hlt
  have e : j = j / 4 * 4 + j % 4 := by omega
  rw [e] at hj ⊢
  rw [flat_get encJS_len (jsL_get (show j / 4 < n by omega)) (by omega)] at hj
  rw [Nat.zero_add, madeJ (by omega) (by omega)]
  exact hj
/-- The model behind start, but for the schedule. -/
structure MS0 (w : World) (N gm gj : Nat) (tv rv : Value) (n : Nat) : Prop where
  mod : w.heap[gm]? = some (.cells #[tv, rv, .slice (some ⟨gj, 0, none⟩) n n, .slice none 0 0] 78 (0, 0))
  jobs : w.heap[gj]? = some (.cells (madeCells jobZ (n * 4)) 75 (0, 0))
  lay : N ≤ gm ∧ N ≤ gj ∧ gm ≠ gj
theorem MS0.next {w w' : World} {N gm gj n : Nat} {tv rv : Value} (h : MS0 w N gm gj tv rv n) (hb : Below w.heap.size w w') : MS0 w' N gm gj tv rv n :=
  ⟨(hb.block _ (Array.getElem?_eq_some_iff.1 h.mod).1).trans h.mod, (hb.block _ (Array.getElem?_eq_some_iff.1 h.jobs).1).trans h.jobs, h.lay⟩
theorem MS0.ms {w : World} {N gm gj n U : Nat} {tv rv : Value} (h : MS0 w N gm gj tv rv n) (hn : n ≤ 1000) : SMo (w.alloc (.cells (madeCells #[.slice none 0 0] U) 42)) N gm gj w.heap.size (madeCells #[.slice none 0 0] U) tv rv n js0 (.slice none 0 0) 0 := by
  have hb : Below w.heap.size w (w.alloc (.cells (madeCells #[.slice none 0 0] U) 42)) := (Below.refl _ _).alloc (Nat.le_refl _) _
  have h2 := h.next hb
  obtain ⟨l1, l2, l3⟩ := h.lay
  have m1 := (Array.getElem?_eq_some_iff.1 h.mod).1
  have m2 := (Array.getElem?_eq_some_iff.1 h.jobs).1
  exact ⟨h2.mod, jobs_win hn h2.jobs, ⟨[], Win.nil _ _ _⟩, fun g hg => by simp [Value.ownBlock] at hg, Go.Deep.blk_alloc_new _ _, ⟨l1, l2, by omega, l3, by omega, by omega⟩, by have := hb.size; omega⟩
theorem made_nil {U t : Nat} (h : t < U) : (madeCells #[.slice none 0 0] U)[t]? = some (.slice none 0 0) := by
  unfold madeCells
  rw [Array.getElem?_map, Array.getElem?_range, if_pos h]
  simp [Nat.mod_one]

set_option maxRecDepth 100000 in
set_option maxHeartbeats 3200000 in
theorem start_any (n : Nat) (a : Option Addr) (cap : Nat) (ra : Option Addr) (rn rcap : Nat) (w : World) (hn : n ≤ 1000) :
    Calls Tryz.prog 25 #[.slice a n cap, .slice ra rn rcap] w fun e w' => ∃ gm gj, e = .returned (.pointer (some ⟨gm, 0, none⟩)) ∧ Below w.heap.size w w' ∧ MS0 w' w.heap.size gm gj (.slice a n cap) (.slice ra rn rcap) n := by
  have hnI : (n : Int) ≤ 1000 := by omega
  have MK := Lib.hid (fun W => make_job n hn W)
  go_enter Tryz.func25, Tryz.ntmps25
  have mk := MK.out
  go_wp2_with fail
  go_ret
  refine ⟨w.heap.size + 1, w.heap.size, rfl, ((Below.refl _ _).alloc (Nat.le_refl _) _).alloc (by simp) _, ⟨?_, ?_, ?_⟩⟩
  · exact blkA (by simp)
  · exact blkU (by simp) (blkA rfl)
  · omega
end Go.Proofs.YtfoadipocpopiaaGreat
