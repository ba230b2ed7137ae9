/- Several texts in one: A queue of vertices, and a matrix that is read. Conditions: each theorem's own. The walk over flow.augment. Conditions: the matrix and the levels lie in memory. -/
import Derived.Test.YtfoadipocpopiaaGreatFlowM
import Derived.Test.YtfoadipocpopiaaGreatM00
import Derived.Test.YtfoadipocpopiaaGreatFlowPush
import Derived.Laws.EntriesVeiled
namespace Go.Proofs.YtfoadipocpopiaaGreat
section
open Go.RowKit Go.Deep

/-- The matrix r of n rows lies in the slice at O, o, in blocks below N. -/
def MatAt (w : World) (N O o n : Nat) (r : Nat → Nat → Int) : Prop := O < N ∧ ∀ i, i < n → ∃ b f c, w.cell? ⟨O, o + i, none⟩ = some (.slice (some ⟨b, f, none⟩) n c) ∧ n ≤ c ∧ c ≤ 9223372036854775807 ∧ b < N ∧ ∀ j, j < n → w.cell? ⟨b, f + j, none⟩ = some (.int .i64 (r i j))
theorem MatAt.keep {w w' : World} {N O o n : Nat} {r : Nat → Nat → Int} (h : MatAt w N O o n r) (hb : Below N w w') : MatAt w' N O o n r :=
  ⟨h.1, fun i hi => by
    obtain ⟨b, f, c, h1, h2, h3, h4, h5⟩ := h.2 i hi
    exact ⟨b, f, c, keep_cellN hb h.1 h1, h2, h3, h4, fun j hj => keep_cellN hb h4 (h5 j hj)⟩⟩
theorem MatAt.more {w : World} {N N' O o n : Nat} {r : Nat → Nat → Int} (h : MatAt w N O o n r) (hN : N ≤ N') : MatAt w N' O o n r :=
  ⟨by have := h.1; omega, fun i hi => by
    obtain ⟨b, f, c, h1, h2, h3, h4, h5⟩ := h.2 i hi
    exact ⟨b, f, c, h1, h2, h3, by omega, h5⟩⟩

def QW (N g : Nat) (w : World) (v : Value) (q : List Nat) : Prop := Win w 3 1 v q.length (q.map fun x : Nat => Value.int .i64 (x : Int)) ∧ ∀ k, v.ownBlock = some k → N ≤ k ∧ k ≠ g
section
variable {N g : Nat} {w w' : World} {v : Value} {q : List Nat}
theorem QW.below {B : Nat} (h : QW N g w v q) (hb : Below w.heap.size w w') : QW N g w' v q := ⟨h.1.below hb fun _ hg => h.1.blk_lt hg, h.2⟩
theorem QW.drewN (h : QW N g w v q) (n : Nat) : QW N g (w.drewN n) v q := ⟨h.1.of_block fun _ _ => rfl, h.2⟩
theorem QW.set (h : QW N g w v q) (j : Nat) (u : Value) : QW N g (w.setCell ⟨g, j, none⟩ u) v q := ⟨h.1.setOther (fun k hk => (h.2 k hk).2) u, h.2⟩
theorem QW.one (w : World) {H : Nat} (hH : w.heap.size = H) (hN : N ≤ H) (hg : g ≠ H) (x : Nat) : QW N g (w.alloc (.cells #[.int .i64 (x : Int)] 3)) (.slice (some ⟨H, 0, none⟩) 1 1) [x] := by
  subst hH
  refine ⟨⟨by simp, .inr ⟨w.heap.size, 0, 1, #[.int .i64 (x : Int)], rfl, Go.Deep.blk_alloc_new _ _, by simp, by unfold maxLen; omega, by simp, fun j u h => ?_⟩⟩, fun k hk => ?_⟩
  · match j with
    | 0 => simpa using h
    | j + 1 => simp at h
  · simp [Value.ownBlock] at hk
    subst hk
    exact ⟨hN, fun e => hg e.symm⟩
theorem QW.pop {u : Nat} (h : QW N g w v (u :: q)) : ∃ b o cap, v = .slice (some ⟨b, o, none⟩) (q.length + 1) cap ∧ b < w.heap.size ∧ w.cell? ⟨b, o, none⟩ = some (.int .i64 u) ∧
    ∃ v', (Instr.slice 42 v (some (.int .i64 1)) none none).run Tryz.prog w = .ok v' w ∧ QW N g w v' q := by
  obtain ⟨h1, h2⟩ := h
  obtain ⟨b, o, cap, rfl, hlt, _⟩ := h1.form (by simp)
  obtain ⟨v', r1, r2, r3⟩ := Win.pop (P := Tryz.prog) Tryz.underlying42 (by kernel_rfl) ⟨_, _, info_int⟩ h1
  refine ⟨b, o, cap, rfl, hlt, h1.cell (j := 0) rfl, v', r1, by simpa using r2, fun k hk => h2 k (by rw [← r3]; exact hk)⟩
theorem QW.push (h : QW N g w v q) (hN : N ≤ w.heap.size) (hg : g < w.heap.size) (x : Nat) (hq : q.length ≤ 1000000) :
    ∃ v' w', (Builtin.append_ #[42, 42] 42 #[v, .slice (some ⟨w.heap.size, 0, none⟩) 1 1]).run Tryz.prog (w.alloc (.cells #[.int .i64 (x : Int)] 3)) = .ok v' w' ∧ QW N g w' v' (q ++ [x]) ∧ Below N w w' ∧ w'.heap[g]? = w.heap[g]? := by
  obtain ⟨hw, hv⟩ := h
  obtain ⟨gg, o, c, w', hr, hw', hgr, hl, hlt⟩ := Win.push (P := Tryz.prog) (t := 42) (ty := 42) Tryz.underlying42 info_int (by simp [Value.cells]) (by decide)
    (hw.alloc (.cells #[.int .i64 (x : Int)] 3)) ⟨w.heap.size, 0, none⟩ 1 [.int .i64 (x : Int)] rfl (fun k u hk => World.news_of_block (Go.Deep.blk_alloc_new _ _) k u hk) (fun u hu => by
      simp only [List.mem_cons, List.not_mem_nil, or_false] at hu
      rcases hu with rfl <;> rfl) (by omega) (by omega)
  refine ⟨_, w', hr, ⟨by simpa using hw', fun k hk => ?_⟩, ((Below.refl N w).alloc hN _).grown hgr (by simp; omega) fun k hk => (hv k hk).1, ?_⟩
  · simp only [Value.ownBlock, Option.some.injEq] at hk
    subst hk
    rcases hl with hl | hl
    · exact hv _ hl
    · rw [hl]; simp; omega
  · rw [hgr.block g (by simp; omega) (fun e => (hv g e.symm).2 rfl)]
    exact Below.heap_alloc _ _ _ hg
end
end

section
open Go.RowKit Go.Deep

/-- A matrix whose rows the call itself made: row i in a block of tag 2 + i. -/
structure RM (tg : Nat → Nat) (w : World) (O n : Nat) (B F C : Nat → Nat) (r : Nat → Nat → Int) : Prop where
  out : ∀ i, i < n → w.cell? ⟨O, i, none⟩ = some (.slice (some ⟨B i, F i, none⟩) n (C i))
  cap : ∀ i, i < n → n ≤ C i ∧ C i ≤ 9223372036854775807
  row : ∀ i, i < n → RowI w (B i) (F i) n (r i)
  tO : tg O = 0
  tB : ∀ i, i < n → tg (B i) = 2 + i
section
variable {tg : Nat → Nat} {w w' : World} {O n : Nat} {B F C : Nat → Nat} {r r' : Nat → Nat → Int}
theorem RM.same (h : RM tg w O n B F C r) (hb : ∀ g, g < w.heap.size → w'.heap[g]? = w.heap[g]?) : RM tg w' O n B F C r :=
  ⟨fun i hi => by
    have hc := h.out i hi
    have hlt := World.block_lt_of_cell? w _ hc
    rw [World.cell?_of_block (w := w) (hb O hlt)]; exact hc, h.cap, fun i hi => (h.row i hi).of_block (hb _ (h.row i hi).lt), h.tO, h.tB⟩
theorem RM.mat (h : RM tg w O n B F C r) (hn : 0 < n) : MatAt w w.heap.size O 0 n r :=
  ⟨World.block_lt_of_cell? w _ (h.out 0 hn), fun i hi => ⟨B i, F i, C i, by rw [Nat.zero_add]; exact h.out i hi, (h.cap i hi).1, (h.cap i hi).2, (h.row i hi).lt, fun j hj => (h.row i hi).cell hj⟩⟩
theorem RM.below (h : RM tg w O n B F C r) (hb : Below w.heap.size w w') : RM tg w' O n B F C r := h.same fun g hg => hb.block g hg
end
theorem blk_at {w : World} {H : Nat} {o : Obj} (h : w.heap.size = H) : (w.alloc o).heap[H]? = some o := by subst h; exact Go.Deep.blk_alloc_new w o
theorem blk_up {w : World} {k : Nat} {o x : Obj} (hk : k < w.heap.size) (h : w.heap[k]? = some x) : (w.alloc o).heap[k]? = some x := (Below.heap_alloc _ _ _ hk).trans h
theorem cell_blk {w : World} {g : Nat} {v : Value} {t : TypeId} (h : w.heap[g]? = some (.cells #[v] t (0, 0))) : w.cell? ⟨g, 0, none⟩ = some v := by simp [World.cell?, h]

def fbOf (n t : Nat) (lv : Nat → Int) (H O L lc : Nat) (B F C : Nat → Nat) : FB := ⟨n, t, lv, H + 1 + 1, H + 1 + 1 + 1 + 1, H, H + 1, H + 1 + 1 + 1 + 1 + 1, H + 1 + 1 + 1, O, L, 0, lc, B, F, C⟩
def tgUp (tg : Nat → Nat) (H : Nat) : Nat → Nat := fun x => if x < H then tg x else if x = H + 1 + 1 + 1 then 1 else 0
theorem tgUp_lt {tg : Nat → Nat} {H x : Nat} (h : x < H) : tgUp tg H x = tg x := if_pos h
theorem tgUp_ge {tg : Nat → Nat} {H x : Nat} (h : H ≤ x) (hx : x ≠ H + 1 + 1 + 1) : tgUp tg H x = 0 := by unfold tgUp; rw [if_neg (by omega), if_neg hx]

theorem start_aw {tg : Nat → Nat} {w w6 : World} {H O L lc n t : Nat} {lv : Nat → Int} {B F C : Nat → Nat} {r : Nat → Nat → Int} (hH : w.heap.size = H) (hb : Below H w w6) (hm : RM tg w O n B F C r) (hn : 0 < n) (hl : ∀ i, i < n → w.cell? ⟨L, 0 + i, none⟩ = some (.int .i64 (lv i))) (tL : tg L = 0)
    (b0 : w6.heap[H]? = some (.cells #[.slice (some ⟨O, 0, none⟩) n n] 30 (0, 0))) (b1 : w6.heap[H + 1]? = some (.cells #[.slice (some ⟨L, 0, none⟩) n lc] 42 (0, 0))) (b2 : w6.heap[H + 1 + 1]? = some (.cells #[.int .i64 t] 3 (0, 0)))
    (b3 : w6.heap[H + 1 + 1 + 1]? = some (.cells (madeCells #[.int .i64 0] n) 3 (0, 0))) (b4 : w6.heap[H + 1 + 1 + 1 + 1]? = some (.cells #[.slice (some ⟨H + 1 + 1 + 1, 0, none⟩) n n] 42 (0, 0)))
    {ft : TypeId} (b5 : w6.heap[H + 1 + 1 + 1 + 1 + 1]? = some (.cells #[.func (.func 84) #[] #[.pointer (some ⟨H + 1 + 1, 0, none⟩), .pointer (some ⟨H + 1 + 1 + 1 + 1, 0, none⟩), .pointer (some ⟨H, 0, none⟩), .pointer (some ⟨H + 1, 0, none⟩), .pointer (some ⟨H + 1 + 1 + 1 + 1 + 1, 0, none⟩)]] ft (0, 0))) :
    AW (fbOf n t lv H O L lc B F C) (tgUp tg H) w6 ⟨r, fun _ => 0⟩ := by
  have hO : O < H := by have h := World.block_lt_of_cell? w _ (hm.out 0 hn); rw [hH] at h; exact h
  have hL : L < H := by have h := World.block_lt_of_cell? w _ (hl 0 hn); rw [hH] at h; exact h
  have hB : ∀ i, i < n → B i < H := fun i hi => by have := (hm.row i hi).lt; omega
  refine ⟨cell_blk b2, cell_blk b4, cell_blk b0, cell_blk b1, cell_blk b5, fun i hi => keep_cellN hb hO (hm.out i hi), fun i hi => keep_cellN hb hL (hl i hi), ⟨_, b3, size_madeCells _ _, fun i hi => by simp [madeCells, show i < n from hi, Nat.mod_one]⟩, fun i hi => (hm.row i hi).of_block (hb.block _ (hB i hi)), ?_, fun i hi => ?_, ?_⟩
  · show tgUp tg H (H + 1 + 1 + 1) = 1
    unfold tgUp; rw [if_neg (by omega), if_pos rfl]
  · show tgUp tg H (B i) = 2 + i
    rw [tgUp_lt (hB i hi)]; exact hm.tB i hi
  · exact ⟨tgUp_ge (show H ≤ H + 1 + 1 by omega) (show H + 1 + 1 ≠ H + 1 + 1 + 1 by omega), tgUp_ge (show H ≤ H + 1 + 1 + 1 + 1 by omega) (show H + 1 + 1 + 1 + 1 ≠ H + 1 + 1 + 1 by omega), tgUp_ge (Nat.le_refl H) (show H ≠ H + 1 + 1 + 1 by omega), tgUp_ge (show H ≤ H + 1 by omega) (show H + 1 ≠ H + 1 + 1 + 1 by omega), tgUp_ge (show H ≤ H + 1 + 1 + 1 + 1 + 1 by omega) (show H + 1 + 1 + 1 + 1 + 1 ≠ H + 1 + 1 + 1 by omega), (tgUp_lt hO).trans hm.tO, (tgUp_lt hL).trans tL⟩

def augW (w : World) (O L n lc : Nat) (t : Int) : World := ((((((w.alloc (.cells #[.slice (some ⟨O, 0, none⟩) n n] 30)).alloc (.cells #[.slice (some ⟨L, 0, none⟩) n lc] 42)).alloc (.cells #[.int .i64 t] 3)).alloc (.cells (madeCells #[.int .i64 0] n) 3)).alloc (.cells #[.slice (some ⟨w.heap.size + 1 + 1 + 1, 0, none⟩) n n] 42)).alloc
    (.cells #[.func (.func 84) #[] #[.pointer (some ⟨w.heap.size + 1 + 1, 0, none⟩), .pointer (some ⟨w.heap.size + 1 + 1 + 1 + 1, 0, none⟩), .pointer (some ⟨w.heap.size, 0, none⟩), .pointer (some ⟨w.heap.size + 1, 0, none⟩), .pointer (some ⟨w.heap.size + 1 + 1 + 1 + 1 + 1, 0, none⟩)]] 44))
theorem augW_below (w : World) (O L n lc : Nat) (t : Int) : Below w.heap.size w (augW w O L n lc t) := (((((((Below.refl _ _).alloc (Nat.le_refl _) _).alloc (by simp) _).alloc (by simp <;> omega) _).alloc (by simp <;> omega) _).alloc (by simp <;> omega) _).alloc (by simp <;> omega) _)
theorem augW_aw {tg : Nat → Nat} {w : World} {O L lc n t : Nat} {lv : Nat → Int} {B F C : Nat → Nat} {r : Nat → Nat → Int} (hm : RM tg w O n B F C r) (hn : 0 < n) (hl : ∀ i, i < n → w.cell? ⟨L, 0 + i, none⟩ = some (.int .i64 (lv i))) (tL : tg L = 0) :
    AW (fbOf n t lv w.heap.size O L lc B F C) (tgUp tg w.heap.size) (augW w O L n lc t) ⟨r, fun _ => 0⟩ := by
  refine start_aw rfl (augW_below w O L n lc t) hm hn hl tL ?_ ?_ ?_ ?_ ?_ (ft := 44) ?_
  all_goals unfold augW
  all_goals
    first
    | exact blk_at (by simp)
    | exact blk_up (by simp) (blk_at (by simp))
    | exact blk_up (by simp) (blk_up (by simp) (blk_at (by simp)))
    | exact blk_up (by simp) (blk_up (by simp) (blk_up (by simp) (blk_at (by simp))))
    | exact blk_up (by simp) (blk_up (by simp) (blk_up (by simp) (blk_up (by simp) (blk_at (by simp)))))
    | exact blk_up (by simp <;> omega) (blk_up (by simp <;> omega) (blk_up (by simp <;> omega) (blk_up (by simp <;> omega) (blk_up (by simp <;> omega) (blk_at rfl)))))

def AugPost (n t src : Nat) (c : Nat → Nat → Int) (lv : Nat → Int) (tg : Nat → Nat) (O : Nat) (B F C : Nat → Nat) (r : Nat → Nat → Int) (w : World) (e : Ending) (w' : World) : Prop :=
  ∃ x s', e = .returned (.int .i64 x) ∧ x ≤ 429496729600 ∧ PR n c lv t src x ⟨r, fun _ => 0⟩ s' ∧ RM tg w' O n B F C s'.r ∧ Kept tg w w' ∧ (x < 429496729600 → src ≠ t ∧ n ≤ s'.nx src)

set_option maxRecDepth 100000 in
set_option maxHeartbeats 6400000 in
theorem augment_any (n t src O L lc : Nat) (c : Nat → Nat → Int) (lv : Nat → Int) (tg : Nat → Nat) (B F C : Nat → Nat) (r : Nat → Nat → Int) (ex : Nat → Int) (w : World) (hn : n ≤ 402) (ht : t < n) (hs : src < n) (hlc : n ≤ lc) (hcb : ∀ p q, p < n → q < n → 0 ≤ c p q ∧ c p q ≤ 1073741824)
    (hlv : ∀ v, v < n → -1 ≤ lv v ∧ lv v < n) (hl0 : 0 ≤ lv src) (hres : Res n c r ex) (hm : RM tg w O n B F C r) (hl : ∀ i, i < n → w.cell? ⟨L, 0 + i, none⟩ = some (.int .i64 (lv i))) (tL : tg L = 0) :
    Calls Tryz.prog 58 #[.slice (some ⟨O, 0, none⟩) n n, .slice (some ⟨L, 0, none⟩) n lc, .int .i64 src, .int .i64 t] w (AugPost n t src c lv tg O B F C r w) := by
  have hnI : (n : Int) ≤ 402 := by omega
  have hsI : (src : Int) < (n : Int) := by omega
  have htI : (t : Int) < (n : Int) := by omega
  have HM := Lib.hid hm
  have HL := Lib.hid hl
  have HLV := Lib.hid hlv
  have HCB := Lib.hid hcb
  have HRES := Lib.hid hres
  clear hm hl hlv hcb hres
  obtain ⟨i0, hi0, hz0, hz1, hz2⟩ := info_parts info_int
  have hmk : ∀ W : World, (Instr.makeSlice 42 (.int .i64 (n : Int)) (.int .i64 (n : Int))).run Tryz.prog W = .ok (.slice (some ⟨W.heap.size, 0, none⟩) n n) (W.alloc (.cells (madeCells #[.int .i64 0] n) 3)) := fun W => by
    have h := run_make (P := Tryz.prog) W 42 3 i0 _ Tryz.underlying42 hi0 hz0 .i64 .i64 n n (by omega) (by omega) (by rw [hz2]; omega) (by omega)
    simp only [Int.toNat_natCast, hz1, Value.cells, Nat.mul_one] at h
    exact h
  clear hi0 hz0 hz1 hz2
  go_enter Tryz.func58, Tryz.ntmps58
  go_wp2_with fail
  have HAW := Lib.hid (augW_aw (t := t) (lc := lc) HM.out (by omega) HL.out tL)
  have HBW := Lib.hid (augW_below w O L n lc t)
  have hch : ((((((w.alloc (.cells #[.slice (some ⟨O, 0, none⟩) n n] 30)).alloc (.cells #[.slice (some ⟨L, 0, none⟩) n lc] 42)).alloc (.cells #[.int .i64 t] 3)).alloc (.cells (madeCells #[.int .i64 0] n) 3)).alloc (.cells #[.slice (some ⟨w.heap.size + 1 + 1 + 1, 0, none⟩) n n] 42)).alloc  (.cells #[.func (.func 84) #[] #[.pointer (some ⟨w.heap.size + 1 + 1, 0, none⟩), .pointer (some ⟨w.heap.size + 1 + 1 + 1 + 1, 0, none⟩), .pointer (some ⟨w.heap.size, 0, none⟩), .pointer (some ⟨w.heap.size + 1, 0, none⟩), .pointer (some ⟨w.heap.size + 1 + 1 + 1 + 1 + 1, 0, none⟩)]] 44)) = augW w O L n lc t := rfl
  rw [hch]
  clear hch
  have CALL := push_any (fbOf n t lv w.heap.size O L lc B F C) (tgUp tg w.heap.size) c hn ht hlc HCB.out HLV.out _ src 429496729600 ⟨r, fun _ => 0⟩ ex (augW w O L n lc t) hs hl0 (Nat.le_refl _) (by decide) (by decide) HRES.out ⟨HRES.out.nonneg, fun _ _ => Nat.zero_le _, fun _ _ j hj => absurd hj (Nat.not_lt_zero _)⟩ HAW.out
  refine CALL.mono ?_
  rintro e w' ⟨x, s', rfl, h1, h2, h3, h4, h5⟩
  have HPOST := Lib.hid (show AugPost n t src c lv tg O B F C r w (.returned (.int .i64 x)) w' from
    ⟨x, s', rfl, h1, h2, ⟨h3.out, fun i hi => (HM.out.cap i hi), h3.row, HM.out.tO, HM.out.tB⟩, ⟨h4.os.trans HBW.out.os, h4.tape.trans HBW.out.tape, h4.output.trans HBW.out.output, Nat.le_trans HBW.out.size h4.size, fun g hg hz => (h4.block g (Nat.lt_of_lt_of_le hg HBW.out.size) ((tgUp_lt hg).trans hz)).trans (HBW.out.block g hg)⟩, h5⟩)
  clear h1 h2 h3 h4 h5
  go_wp2_with fail
  go_ret
  exact HPOST.out
end
end Go.Proofs.YtfoadipocpopiaaGreat
