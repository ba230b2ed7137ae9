/- The walks over rational.Rat's Add and Cmp (printed by wip/genadd41.py). Conditions: the numbers lie in memory. -/
import Derived.Test.YtfoadipocpopiaaGreatM36
namespace Go.Proofs.YtfoadipocpopiaaGreat
open Go.RowKit Go.Deep

theorem IntV.alc {w : World} {v : Value} {z : Int} {K : Nat} (o : Obj) (h : IntV w w.heap.size v z K) : IntV (w.alloc o) (w.alloc o).heap.size v z K := h.dk (Dk.below ((Below.refl _ _).alloc (Nat.le_refl _) o))
theorem RatV.tight {w : World} {v : Value} {p : Int} {q K K' : Nat} (h : RatV w v p q K) (hp : p.natAbs < BB ^ K') (hq : q < BB ^ K') : RatV w v p q K' := by
  obtain ⟨g1, a1, n1, c1, g2, a2, n2, c2, qd, e, h1, h2, h3, h4⟩ := h
  refine ⟨g1, a1, n1, c1, g2, a2, n2, c2, qd, e, h1.tight hp, h2.tight ?_, h3, h4⟩
  rw [Int.natAbs_natCast]
  rcases h3 with h | h <;> omega

def BoxZ (w : World) (g : Nat) : Prop := w.heap[g]? = some (.cells #[.bool false, .slice none 0 0] 48 (0, 0))
theorem BoxZ.made (w : World) : BoxZ (w.alloc (.cells #[.bool false, .slice none 0 0] 48)) w.heap.size := blk_lies rfl
theorem BoxZ.next {w w' : World} {g : Nat} (hb : Below w.heap.size w w') (h : BoxZ w g) : BoxZ w' g := (hb.block g (box_res h).2.2.2).trans h
theorem BoxZ.put {w : World} {g : Nat} (h : BoxZ w g) (u : Bool) (a : Option Addr) (n c : Nat) : Box ((w.setCell ⟨g, 0, none⟩ (.bool u)).setCell ⟨g, 1, none⟩ (.slice a n c)) g u a n c ∧ Dk w ((w.setCell ⟨g, 0, none⟩ (.bool u)).setCell ⟨g, 1, none⟩ (.slice a n c)) := by
  obtain ⟨c0, c1, cf, cl⟩ := box_res h
  exact ⟨⟨by simp [go_sem, c0, c1], by simp [go_sem, c0, c1], by simpa using cl⟩, Dk.box h _ _⟩
def SR (w : World) (xg1 : Bool) (xa1 : Option Addr) (xn1 xc1 : Nat) (xg2 : Bool) (xa2 : Option Addr) (xn2 xc2 : Nat) (yg1 : Bool) (ya1 : Option Addr) (yn1 yc1 : Nat) (yg2 : Bool) (ya2 : Option Addr) (yn2 yc2 : Nat) (W : World) : Prop := Below w.heap.size w W ∧ w.heap.size + 1 < W.heap.size ∧ W.cell? ⟨w.heap.size, 0, none⟩ = some (.bool xg1) ∧ W.cell? ⟨w.heap.size, 1, none⟩ = some (.slice xa1 xn1 xc1) ∧ W.cell? ⟨w.heap.size, 2, none⟩ = some (.bool xg2) ∧ W.cell? ⟨w.heap.size, 3, none⟩ = some (.slice xa2 xn2 xc2) ∧ W.cell? ⟨w.heap.size + 1, 0, none⟩ = some (.bool yg1) ∧ W.cell? ⟨w.heap.size + 1, 1, none⟩ = some (.slice ya1 yn1 yc1) ∧ W.cell? ⟨w.heap.size + 1, 2, none⟩ = some (.bool yg2) ∧ W.cell? ⟨w.heap.size + 1, 3, none⟩ = some (.slice ya2 yn2 yc2)
def SA (w : World) (xg1 : Bool) (xa1 : Option Addr) (xn1 xc1 : Nat) (xg2 : Bool) (xa2 : Option Addr) (xn2 xc2 : Nat) (yg1 : Bool) (ya1 : Option Addr) (yn1 yc1 : Nat) (yg2 : Bool) (ya2 : Option Addr) (yn2 yc2 : Nat) (W : World) : Prop := Below w.heap.size w W ∧ w.heap.size + 1 < W.heap.size ∧ W.cell? ⟨w.heap.size, 0, none⟩ = some (.bool xg1) ∧ W.cell? ⟨w.heap.size, 1, none⟩ = some (.slice xa1 xn1 xc1) ∧ W.cell? ⟨w.heap.size, 2, none⟩ = some (.bool xg2) ∧ W.cell? ⟨w.heap.size, 3, none⟩ = some (.slice xa2 xn2 xc2) ∧ W.cell? ⟨w.heap.size + 1, 0, none⟩ = some (.bool yg1) ∧ W.cell? ⟨w.heap.size + 1, 1, none⟩ = some (.slice ya1 yn1 yc1) ∧ W.cell? ⟨w.heap.size + 1, 2, none⟩ = some (.bool yg2) ∧ W.cell? ⟨w.heap.size + 1, 3, none⟩ = some (.slice ya2 yn2 yc2) ∧ Box4 W (w.heap.size + 1 + 1)
section
variable {w W W' : World} {xg1 yg1 xg2 yg2 : Bool} {xa1 xa2 ya1 ya2 : Option Addr} {xn1 xc1 xn2 xc2 yn1 yc1 yn2 yc2 : Nat}
theorem SR.start : SR w xg1 xa1 xn1 xc1 xg2 xa2 xn2 xc2 yg1 ya1 yn1 yc1 yg2 ya2 yn2 yc2 ((w.alloc (.cells #[.bool xg1, .slice xa1 xn1 xc1, .bool xg2, .slice xa2 xn2 xc2] 50)).alloc (.cells #[.bool yg1, .slice ya1 yn1 yc1, .bool yg2, .slice ya2 yn2 yc2] 50)) := by
  refine ⟨((Below.refl w.heap.size w).alloc (Nat.le_refl _) _).alloc (by simp) _, by simp, ?_⟩
  refine ⟨?_, ?_, ?_, ?_, ?_, ?_, ?_, ?_⟩
  all_goals simp [go_sem]
theorem SR.next (h : SR w xg1 xa1 xn1 xc1 xg2 xa2 xn2 xc2 yg1 ya1 yn1 yc1 yg2 ya2 yn2 yc2 W) (hb : Below W.heap.size W W') : SR w xg1 xa1 xn1 xc1 xg2 xa2 xn2 xc2 yg1 ya1 yn1 yc1 yg2 ya2 yn2 yc2 W' := by
  obtain ⟨h1, h2, h3, h4, h5, h6, h7, h8, h9, h10⟩ := h
  exact ⟨h1.trans (hb.mono h1.size), by have := hb.size; omega, keep_cell hb (by omega) h3, keep_cell hb (by omega) h4, keep_cell hb (by omega) h5, keep_cell hb (by omega) h6, keep_cell hb (by omega) h7, keep_cell hb (by omega) h8, keep_cell hb (by omega) h9, keep_cell hb (by omega) h10⟩
theorem SR.drew (h : SR w xg1 xa1 xn1 xc1 xg2 xa2 xn2 xc2 yg1 ya1 yn1 yc1 yg2 ya2 yn2 yc2 W) : SR w xg1 xa1 xn1 xc1 xg2 xa2 xn2 xc2 yg1 ya1 yn1 yc1 yg2 ya2 yn2 yc2 W.drew := h.next (Below.refl _ _).drew
theorem SA.sr (h : SA w xg1 xa1 xn1 xc1 xg2 xa2 xn2 xc2 yg1 ya1 yn1 yc1 yg2 ya2 yn2 yc2 W) : SR w xg1 xa1 xn1 xc1 xg2 xa2 xn2 xc2 yg1 ya1 yn1 yc1 yg2 ya2 yn2 yc2 W := by
  obtain ⟨h1, h2, h3, h4, h5, h6, h7, h8, h9, h10, h11⟩ := h
  exact ⟨h1, h2, h3, h4, h5, h6, h7, h8, h9, h10⟩
theorem SA.res (h : SA w xg1 xa1 xn1 xc1 xg2 xa2 xn2 xc2 yg1 ya1 yn1 yc1 yg2 ya2 yn2 yc2 W) : Box4 W (w.heap.size + 1 + 1) := h.2.2.2.2.2.2.2.2.2.2
theorem SA.mk (h : SR w xg1 xa1 xn1 xc1 xg2 xa2 xn2 xc2 yg1 ya1 yn1 yc1 yg2 ya2 yn2 yc2 W) (hb : Box4 W (w.heap.size + 1 + 1)) : SA w xg1 xa1 xn1 xc1 xg2 xa2 xn2 xc2 yg1 ya1 yn1 yc1 yg2 ya2 yn2 yc2 W := by
  obtain ⟨h1, h2, h3, h4, h5, h6, h7, h8, h9, h10⟩ := h
  exact ⟨h1, h2, h3, h4, h5, h6, h7, h8, h9, h10, hb⟩
theorem SA.next (h : SA w xg1 xa1 xn1 xc1 xg2 xa2 xn2 xc2 yg1 ya1 yn1 yc1 yg2 ya2 yn2 yc2 W) (hb : Below W.heap.size W W') : SA w xg1 xa1 xn1 xc1 xg2 xa2 xn2 xc2 yg1 ya1 yn1 yc1 yg2 ya2 yn2 yc2 W' := SA.mk (h.sr.next hb) (h.res.next hb)
theorem SA.drew (h : SA w xg1 xa1 xn1 xc1 xg2 xa2 xn2 xc2 yg1 ya1 yn1 yc1 yg2 ya2 yn2 yc2 W) : SA w xg1 xa1 xn1 xc1 xg2 xa2 xn2 xc2 yg1 ya1 yn1 yc1 yg2 ya2 yn2 yc2 W.drew := h.next (Below.refl _ _).drew
theorem SA.alloc (h : SA w xg1 xa1 xn1 xc1 xg2 xa2 xn2 xc2 yg1 ya1 yn1 yc1 yg2 ya2 yn2 yc2 W) (o : Obj) : SA w xg1 xa1 xn1 xc1 xg2 xa2 xn2 xc2 yg1 ya1 yn1 yc1 yg2 ya2 yn2 yc2 (W.alloc o) := h.next ((Below.refl _ _).alloc (Nat.le_refl _) o)
theorem SA.start : SA w xg1 xa1 xn1 xc1 xg2 xa2 xn2 xc2 yg1 ya1 yn1 yc1 yg2 ya2 yn2 yc2 (((w.alloc (.cells #[.bool xg1, .slice xa1 xn1 xc1, .bool xg2, .slice xa2 xn2 xc2] 50)).alloc (.cells #[.bool yg1, .slice ya1 yn1 yc1, .bool yg2, .slice ya2 yn2 yc2] 50)).alloc (.cells #[.bool false, .slice none 0 0, .bool false, .slice none 0 0] 50)) :=
  SA.mk (SR.next SR.start ((Below.refl _ _).alloc (Nat.le_refl _) _)) ⟨false, none, 0, 0, false, none, 0, 0, blk_lies (by simp)⟩
theorem SA.nextN {N : Nat} (h : SA w xg1 xa1 xn1 xc1 xg2 xa2 xn2 xc2 yg1 ya1 yn1 yc1 yg2 ya2 yn2 yc2 W) (hb : Below N W W') (hN : w.heap.size + 1 + 1 < N) : SA w xg1 xa1 xn1 xc1 xg2 xa2 xn2 xc2 yg1 ya1 yn1 yc1 yg2 ya2 yn2 yc2 W' := by
  have hl := h.res.lt
  obtain ⟨h1, h2, h3, h4, h5, h6, h7, h8, h9, h10, ⟨u1, b1, m1, d1, u2, b2, m2, d2, e⟩⟩ := h
  exact ⟨h1.trans (hb.mono (by omega)), by have := hb.size; omega, keep_cellN hb (by omega) h3, keep_cellN hb (by omega) h4, keep_cellN hb (by omega) h5, keep_cellN hb (by omega) h6, keep_cellN hb (by omega) h7, keep_cellN hb (by omega) h8, keep_cellN hb (by omega) h9, keep_cellN hb (by omega) h10, ⟨u1, b1, m1, d1, u2, b2, m2, d2, (hb.block _ hN).trans e⟩⟩
theorem SA.far {g : Nat} (h : SA w xg1 xa1 xn1 xc1 xg2 xa2 xn2 xc2 yg1 ya1 yn1 yc1 yg2 ya2 yn2 yc2 W) (hz : BoxZ W g) (hg : w.heap.size + 1 + 1 ≤ g) : w.heap.size + 1 + 1 < g := by
  obtain ⟨u1, b1, m1, d1, u2, b2, m2, d2, e⟩ := h.res
  rcases Nat.lt_or_ge (w.heap.size + 1 + 1) g with h1 | h1
  · exact h1
  · obtain rfl : g = w.heap.size + 1 + 1 := by omega
    rw [show W.heap[w.heap.size + 1 + 1]? = _ from hz] at e
    simp at e
theorem SA.put (h : SA w xg1 xa1 xn1 xc1 xg2 xa2 xn2 xc2 yg1 ya1 yn1 yc1 yg2 ya2 yn2 yc2 W) {g : Nat} (hg : w.heap.size + 1 + 1 < g) (x y : Value) : SA w xg1 xa1 xn1 xc1 xg2 xa2 xn2 xc2 yg1 ya1 yn1 yc1 yg2 ya2 yn2 yc2 ((W.setCell ⟨g, 0, none⟩ x).setCell ⟨g, 1, none⟩ y) :=
  h.nextN (below_set2 (Below.refl g W) (Nat.le_refl _) x y) hg
theorem SA.put4 (h : SA w xg1 xa1 xn1 xc1 xg2 xa2 xn2 xc2 yg1 ya1 yn1 yc1 yg2 ya2 yn2 yc2 W) (u1 : Bool) (b1 : Option Addr) (m1 d1 : Nat) (u2 : Bool) (b2 : Option Addr) (m2 d2 : Nat) : SA w xg1 xa1 xn1 xc1 xg2 xa2 xn2 xc2 yg1 ya1 yn1 yc1 yg2 ya2 yn2 yc2 ((((W.setCell ⟨w.heap.size + 1 + 1, 0, none⟩ (.bool u1)).setCell ⟨w.heap.size + 1 + 1, 1, none⟩ (.slice b1 m1 d1)).setCell ⟨w.heap.size + 1 + 1, 2, none⟩ (.bool u2)).setCell ⟨w.heap.size + 1 + 1, 3, none⟩ (.slice b2 m2 d2)) := by
  have hl := h.res.lt
  have hb := Below.set4 (Below.refl (w.heap.size + 1 + 1) W) (Nat.le_refl _) (.bool u1) (.slice b1 m1 d1) (.bool u2) (.slice b2 m2 d2)
  obtain ⟨h1, h2, h3, h4, h5, h6, h7, h8, h9, h10, ⟨v1, e1, k1, f1, v2, e2, k2, f2, e⟩⟩ := h
  exact ⟨h1.trans (hb.mono (by omega)), by have := hb.size; omega, keep_cellN hb (by omega) h3, keep_cellN hb (by omega) h4, keep_cellN hb (by omega) h5, keep_cellN hb (by omega) h6, keep_cellN hb (by omega) h7, keep_cellN hb (by omega) h8, keep_cellN hb (by omega) h9, keep_cellN hb (by omega) h10, ⟨u1, b1, m1, d1, u2, b2, m2, d2, by simp [World.setCell, Array.getElem?_modify, e]⟩⟩
def SB (w : World) (xg1 : Bool) (xa1 : Option Addr) (xn1 xc1 : Nat) (xg2 : Bool) (xa2 : Option Addr) (xn2 xc2 : Nat) (yg1 : Bool) (ya1 : Option Addr) (yn1 yc1 : Nat) (yg2 : Bool) (ya2 : Option Addr) (yn2 yc2 : Nat) (bd : Nat) (gg : Bool) (ga : Option Addr) (gn gc : Nat) (W : World) : Prop := Below w.heap.size w W ∧ w.heap.size + 1 < W.heap.size ∧ W.cell? ⟨w.heap.size, 0, none⟩ = some (.bool xg1) ∧ W.cell? ⟨w.heap.size, 1, none⟩ = some (.slice xa1 xn1 xc1) ∧ W.cell? ⟨w.heap.size, 2, none⟩ = some (.bool xg2) ∧ W.cell? ⟨w.heap.size, 3, none⟩ = some (.slice xa2 xn2 xc2) ∧ W.cell? ⟨w.heap.size + 1, 0, none⟩ = some (.bool yg1) ∧ W.cell? ⟨w.heap.size + 1, 1, none⟩ = some (.slice ya1 yn1 yc1) ∧ W.cell? ⟨w.heap.size + 1, 2, none⟩ = some (.bool yg2) ∧ W.cell? ⟨w.heap.size + 1, 3, none⟩ = some (.slice ya2 yn2 yc2) ∧ Box4 W (w.heap.size + 1 + 1) ∧ W.cell? ⟨bd, 0, none⟩ = some (.bool gg) ∧ W.cell? ⟨bd, 1, none⟩ = some (.slice ga gn gc) ∧ bd < W.heap.size
section
variable {bd : Nat} {gg : Bool} {ga : Option Addr} {gn gc : Nat}
theorem SB.mk (h : SA w xg1 xa1 xn1 xc1 xg2 xa2 xn2 xc2 yg1 ya1 yn1 yc1 yg2 ya2 yn2 yc2 W) (hb : Box W bd gg ga gn gc) : SB w xg1 xa1 xn1 xc1 xg2 xa2 xn2 xc2 yg1 ya1 yn1 yc1 yg2 ya2 yn2 yc2 bd gg ga gn gc W := by
  obtain ⟨h1, h2, h3, h4, h5, h6, h7, h8, h9, h10, h11⟩ := h
  exact ⟨h1, h2, h3, h4, h5, h6, h7, h8, h9, h10, h11, hb.1, hb.2.1, hb.2.2⟩
theorem SB.sa (h : SB w xg1 xa1 xn1 xc1 xg2 xa2 xn2 xc2 yg1 ya1 yn1 yc1 yg2 ya2 yn2 yc2 bd gg ga gn gc W) : SA w xg1 xa1 xn1 xc1 xg2 xa2 xn2 xc2 yg1 ya1 yn1 yc1 yg2 ya2 yn2 yc2 W := by
  obtain ⟨h1, h2, h3, h4, h5, h6, h7, h8, h9, h10, h11, _⟩ := h
  exact ⟨h1, h2, h3, h4, h5, h6, h7, h8, h9, h10, h11⟩
theorem SB.box (h : SB w xg1 xa1 xn1 xc1 xg2 xa2 xn2 xc2 yg1 ya1 yn1 yc1 yg2 ya2 yn2 yc2 bd gg ga gn gc W) : Box W bd gg ga gn gc := h.2.2.2.2.2.2.2.2.2.2.2
theorem SB.next (h : SB w xg1 xa1 xn1 xc1 xg2 xa2 xn2 xc2 yg1 ya1 yn1 yc1 yg2 ya2 yn2 yc2 bd gg ga gn gc W) (hb : Below W.heap.size W W') : SB w xg1 xa1 xn1 xc1 xg2 xa2 xn2 xc2 yg1 ya1 yn1 yc1 yg2 ya2 yn2 yc2 bd gg ga gn gc W' := SB.mk (h.sa.next hb) (h.box.next hb)
theorem SB.drew (h : SB w xg1 xa1 xn1 xc1 xg2 xa2 xn2 xc2 yg1 ya1 yn1 yc1 yg2 ya2 yn2 yc2 bd gg ga gn gc W) : SB w xg1 xa1 xn1 xc1 xg2 xa2 xn2 xc2 yg1 ya1 yn1 yc1 yg2 ya2 yn2 yc2 bd gg ga gn gc W.drew := h.next (Below.refl _ _).drew
theorem SB.put4 (h : SB w xg1 xa1 xn1 xc1 xg2 xa2 xn2 xc2 yg1 ya1 yn1 yc1 yg2 ya2 yn2 yc2 bd gg ga gn gc W) (hbd : w.heap.size + 1 + 1 < bd) (u1 : Bool) (b1 : Option Addr) (m1 d1 : Nat) (u2 : Bool) (b2 : Option Addr) (m2 d2 : Nat) : SB w xg1 xa1 xn1 xc1 xg2 xa2 xn2 xc2 yg1 ya1 yn1 yc1 yg2 ya2 yn2 yc2 bd gg ga gn gc ((((W.setCell ⟨w.heap.size + 1 + 1, 0, none⟩ (.bool u1)).setCell ⟨w.heap.size + 1 + 1, 1, none⟩ (.slice b1 m1 d1)).setCell ⟨w.heap.size + 1 + 1, 2, none⟩ (.bool u2)).setCell ⟨w.heap.size + 1 + 1, 3, none⟩ (.slice b2 m2 d2)) := by
  refine SB.mk (h.sa.put4 u1 b1 m1 d1 u2 b2 m2 d2) ?_
  obtain ⟨c0, c1, cl⟩ := h.box
  have hne : ∀ o p, (⟨w.heap.size + 1 + 1, o, none⟩ : Addr) ≠ ⟨bd, p, none⟩ := fun o p e => by
    injection e with e1
    omega
  refine ⟨?_, ?_, by simpa [World.setCell] using cl⟩
  · rw [World.cell?_setCell_other _ _ _ _ (hne _ _), World.cell?_setCell_other _ _ _ _ (hne _ _), World.cell?_setCell_other _ _ _ _ (hne _ _), World.cell?_setCell_other _ _ _ _ (hne _ _)]
    exact c0
  · rw [World.cell?_setCell_other _ _ _ _ (hne _ _), World.cell?_setCell_other _ _ _ _ (hne _ _), World.cell?_setCell_other _ _ _ _ (hne _ _), World.cell?_setCell_other _ _ _ _ (hne _ _)]
    exact c1
end
theorem SA.bel (h : SA w xg1 xa1 xn1 xc1 xg2 xa2 xn2 xc2 yg1 ya1 yn1 yc1 yg2 ya2 yn2 yc2 W) : Below w.heap.size w W := h.1
theorem SR.bel (h : SR w xg1 xa1 xn1 xc1 xg2 xa2 xn2 xc2 yg1 ya1 yn1 yc1 yg2 ya2 yn2 yc2 W) : Below w.heap.size w W := h.1
end

set_option maxRecDepth 100000 in
set_option maxHeartbeats 6400000 in
theorem rcmp_any (x y : Value) (p1 p2 : Int) (q1 q2 K : Nat) (w : World) (hK : K ≤ 4000) (hK2 : 2 ≤ K) (hx : RatV w x p1 q1 K) (hy : RatV w y p2 q2 K) :
    Calls Tryz.prog 20 #[x, y] w fun e w' => e = .returned (.int .i64 (cmpZ (p1 * q2) (p2 * q1))) ∧ Below w.heap.size w w' := by
  have HDX := fun W (hb : Below w.heap.size w W) => rden_any x p1 q1 K W (by omega) hK2 (hx.dk ⟨hb.size, fun _ _ _ h => keep_cellN hb (cell_lt h) h⟩)
  have HDY := fun W (hb : Below w.heap.size w W) => rden_any y p2 q2 K W (by omega) hK2 (hy.dk ⟨hb.size, fun _ _ _ h => keep_cellN hb (cell_lt h) h⟩)
  obtain ⟨xg1, xa1, xn1, xc1, xg2, xa2, xn2, xc2, xd, rfl, hxn, hxd, _⟩ := hx
  obtain ⟨yg1, ya1, yn1, yc1, yg2, ya2, yn2, yc2, yd, rfl, hyn, hyd, _⟩ := hy
  have HMX := fun W v (hb : Below w.heap.size w W) (hv : IntV W W.heap.size v q2 K) => mul_any _ v p1 q2 K K W (by omega) (by omega) (hxn.on hb hb.size) hv
  have HMY := fun W v (hb : Below w.heap.size w W) (hv : IntV W W.heap.size v q1 K) => mul_any _ v p2 q1 K K W (by omega) (by omega) (hyn.on hb hb.size) hv
  have HC := fun W u v (hu : IntV W W.heap.size u (p1 * q2) (K + K)) (hv : IntV W W.heap.size v (p2 * q1) (K + K)) => cmp_any u v (p1 * q2) (p2 * q1) (K + K) W (by omega) hu hv
  have s0 := SR.start (w := w) (xg1 := xg1) (xa1 := xa1) (xn1 := xn1) (xc1 := xc1) (xg2 := xg2) (xa2 := xa2) (xn2 := xn2) (xc2 := xc2) (yg1 := yg1) (ya1 := ya1) (yn1 := yn1) (yc1 := yc1) (yg2 := yg2) (ya2 := ya2) (yn2 := yn2) (yc2 := yc2)
  clear hxn hxd hyn hyd
  have HDX := fun W (h : Below w.heap.size w W ∧ w.heap.size + 1 < W.heap.size ∧ W.cell? ⟨w.heap.size, 0, none⟩ = some (.bool xg1) ∧ W.cell? ⟨w.heap.size, 1, none⟩ = some (.slice xa1 xn1 xc1) ∧ W.cell? ⟨w.heap.size, 2, none⟩ = some (.bool xg2) ∧ W.cell? ⟨w.heap.size, 3, none⟩ = some (.slice xa2 xn2 xc2) ∧ W.cell? ⟨w.heap.size + 1, 0, none⟩ = some (.bool yg1) ∧ W.cell? ⟨w.heap.size + 1, 1, none⟩ = some (.slice ya1 yn1 yc1) ∧ W.cell? ⟨w.heap.size + 1, 2, none⟩ = some (.bool yg2) ∧ W.cell? ⟨w.heap.size + 1, 3, none⟩ = some (.slice ya2 yn2 yc2)) => HDX W h.1
  have HDY := fun W (h : Below w.heap.size w W ∧ w.heap.size + 1 < W.heap.size ∧ W.cell? ⟨w.heap.size, 0, none⟩ = some (.bool xg1) ∧ W.cell? ⟨w.heap.size, 1, none⟩ = some (.slice xa1 xn1 xc1) ∧ W.cell? ⟨w.heap.size, 2, none⟩ = some (.bool xg2) ∧ W.cell? ⟨w.heap.size, 3, none⟩ = some (.slice xa2 xn2 xc2) ∧ W.cell? ⟨w.heap.size + 1, 0, none⟩ = some (.bool yg1) ∧ W.cell? ⟨w.heap.size + 1, 1, none⟩ = some (.slice ya1 yn1 yc1) ∧ W.cell? ⟨w.heap.size + 1, 2, none⟩ = some (.bool yg2) ∧ W.cell? ⟨w.heap.size + 1, 3, none⟩ = some (.slice ya2 yn2 yc2)) => HDY W h.1
  have HMX := fun W v (h : Below w.heap.size w W ∧ w.heap.size + 1 < W.heap.size ∧ W.cell? ⟨w.heap.size, 0, none⟩ = some (.bool xg1) ∧ W.cell? ⟨w.heap.size, 1, none⟩ = some (.slice xa1 xn1 xc1) ∧ W.cell? ⟨w.heap.size, 2, none⟩ = some (.bool xg2) ∧ W.cell? ⟨w.heap.size, 3, none⟩ = some (.slice xa2 xn2 xc2) ∧ W.cell? ⟨w.heap.size + 1, 0, none⟩ = some (.bool yg1) ∧ W.cell? ⟨w.heap.size + 1, 1, none⟩ = some (.slice ya1 yn1 yc1) ∧ W.cell? ⟨w.heap.size + 1, 2, none⟩ = some (.bool yg2) ∧ W.cell? ⟨w.heap.size + 1, 3, none⟩ = some (.slice ya2 yn2 yc2)) => HMX W v h.1
  have HMY := fun W v (h : Below w.heap.size w W ∧ w.heap.size + 1 < W.heap.size ∧ W.cell? ⟨w.heap.size, 0, none⟩ = some (.bool xg1) ∧ W.cell? ⟨w.heap.size, 1, none⟩ = some (.slice xa1 xn1 xc1) ∧ W.cell? ⟨w.heap.size, 2, none⟩ = some (.bool xg2) ∧ W.cell? ⟨w.heap.size, 3, none⟩ = some (.slice xa2 xn2 xc2) ∧ W.cell? ⟨w.heap.size + 1, 0, none⟩ = some (.bool yg1) ∧ W.cell? ⟨w.heap.size + 1, 1, none⟩ = some (.slice ya1 yn1 yc1) ∧ W.cell? ⟨w.heap.size + 1, 2, none⟩ = some (.bool yg2) ∧ W.cell? ⟨w.heap.size + 1, 3, none⟩ = some (.slice ya2 yn2 yc2)) => HMY W v h.1
  generalize cmpZ (p1 * q2) (p2 * q1) = R at *
  generalize p1 * (q2 : Int) = M1 at *
  generalize p2 * (q1 : Int) = M2 at *
  go_enter Tryz.func20, Tryz.ntmps20
  go_upto_region 1 with fail
  generalize (w.alloc _).alloc _ = w1 at *
  go_region_held3 (fun W => (Below w.heap.size w W ∧ w.heap.size + 1 < W.heap.size ∧ W.cell? ⟨w.heap.size, 0, none⟩ = some (.bool xg1) ∧ W.cell? ⟨w.heap.size, 1, none⟩ = some (.slice xa1 xn1 xc1) ∧ W.cell? ⟨w.heap.size, 2, none⟩ = some (.bool xg2) ∧ W.cell? ⟨w.heap.size, 3, none⟩ = some (.slice xa2 xn2 xc2) ∧ W.cell? ⟨w.heap.size + 1, 0, none⟩ = some (.bool yg1) ∧ W.cell? ⟨w.heap.size + 1, 1, none⟩ = some (.slice ya1 yn1 yc1) ∧ W.cell? ⟨w.heap.size + 1, 2, none⟩ = some (.bool yg2) ∧ W.cell? ⟨w.heap.size + 1, 3, none⟩ = some (.slice ya2 yn2 yc2)))
    (first
      | exact s0
      | exact s0.drew
      | assumption
      | exact SR.next (by assumption) (by assumption))
    (first
      | (go_at_call 36; (with_reducible refine (HDY _ (by assumption)).mono ?_); rintro e w2 ⟨v, rfl, hv2, hb2⟩; obtain ⟨g3, a3, n3, c3, hvv⟩ := IntV.form hv2; subst hvv)
      | (go_at_call 35; (with_reducible refine (HMX _ _ (by assumption) hv2).mono ?_); rintro e w3 ⟨v, rfl, hv3, hb3⟩; obtain ⟨g4, a4, n4, c4, hvv⟩ := IntV.form hv3; subst hvv)
      | (go_at_call 36; (with_reducible refine (HDX _ (by assumption)).mono ?_); rintro e w4 ⟨v, rfl, hv4, hb4⟩; obtain ⟨g5, a5, n5, c5, hvv⟩ := IntV.form hv4; subst hvv)
      | (go_at_call 35; (with_reducible refine (HMY _ _ (by assumption) hv4).mono ?_); rintro e w5 ⟨v, rfl, hv5, hb5⟩; obtain ⟨g6, a6, n6, c6, hvv⟩ := IntV.form hv5; subst hvv)
      | (go_at_call 38; (with_reducible refine (HC _ _ _ (IntV.nxt hb5 (IntV.nxt hb4 hv3)) hv5).mono ?_); rintro e w6 ⟨rfl, hb6⟩; have s6 := SR.next (show SR w xg1 xa1 xn1 xc1 xg2 xa2 xn2 xc2 yg1 ya1 yn1 yc1 yg2 ya2 yn2 yc2 _ by assumption) hb6))
  have q := s6.1
  clear HDX HDY HMX HMY HC hv2 hv3 hv4 hv5
  go_wp2_with fail
  go_ret
  exact ⟨rfl, q⟩

set_option maxRecDepth 100000 in
set_option maxHeartbeats 6400000 in
theorem radd_any (x y : Value) (p1 p2 q1 q2 K : Nat) (w : World) (hK : K ≤ 1000) (hK2 : 2 ≤ K) (hx : RatV w x p1 q1 K) (hy : RatV w y p2 q2 K) :
    Calls Tryz.prog 19 #[x, y] w fun e w' => ∃ v, e = .returned v ∧ RatV w' v (((p1 * q2 + p2 * q1) / Nat.gcd (p1 * q2 + p2 * q1) (q1 * q2) : Nat) : Int) (q1 * q2 / Nat.gcd (p1 * q2 + p2 * q1) (q1 * q2)) (K + K + (K + K) + 1) ∧ Below w.heap.size w w' := by
  have HDX := fun W (hb : Below w.heap.size w W) => rden_any x p1 q1 K W (by omega) hK2 (hx.dk ⟨hb.size, fun _ _ _ h => keep_cellN hb (cell_lt h) h⟩)
  have HDY := fun W (hb : Below w.heap.size w W) => rden_any y p2 q2 K W (by omega) hK2 (hy.dk ⟨hb.size, fun _ _ _ h => keep_cellN hb (cell_lt h) h⟩)
  obtain ⟨xg1, xa1, xn1, xc1, xg2, xa2, xn2, xc2, xd, rfl, hxn, hxd, _, hq1⟩ := hx
  obtain ⟨yg1, ya1, yn1, yc1, yg2, ya2, yn2, yc2, yd, rfl, hyn, hyd, _, hq2⟩ := hy
  have HMX := fun W v (hb : Below w.heap.size w W) (hv : IntV W W.heap.size v (q2 : Int) K) => mul_any _ v p1 q2 K K W (by omega) (by omega) (hxn.on hb hb.size) hv
  have HMY := fun W v (hb : Below w.heap.size w W) (hv : IntV W W.heap.size v (q1 : Int) K) => mul_any _ v p2 q1 K K W (by omega) (by omega) (hyn.on hb hb.size) hv
  have HMD := fun W u v (hu : IntV W W.heap.size u (q1 : Int) K) (hv : IntV W W.heap.size v (q2 : Int) K) => mul_any u v q1 q2 K K W (by omega) (by omega) hu hv
  simp only [← Int.natCast_mul] at HMX HMY HMD
  have HDX := fun W (h : Below w.heap.size w W ∧ w.heap.size + 1 < W.heap.size ∧ W.cell? ⟨w.heap.size, 0, none⟩ = some (.bool xg1) ∧ W.cell? ⟨w.heap.size, 1, none⟩ = some (.slice xa1 xn1 xc1) ∧ W.cell? ⟨w.heap.size, 2, none⟩ = some (.bool xg2) ∧ W.cell? ⟨w.heap.size, 3, none⟩ = some (.slice xa2 xn2 xc2) ∧ W.cell? ⟨w.heap.size + 1, 0, none⟩ = some (.bool yg1) ∧ W.cell? ⟨w.heap.size + 1, 1, none⟩ = some (.slice ya1 yn1 yc1) ∧ W.cell? ⟨w.heap.size + 1, 2, none⟩ = some (.bool yg2) ∧ W.cell? ⟨w.heap.size + 1, 3, none⟩ = some (.slice ya2 yn2 yc2) ∧ Box4 W (w.heap.size + 1 + 1)) => HDX W h.1
  have HDY := fun W (h : Below w.heap.size w W ∧ w.heap.size + 1 < W.heap.size ∧ W.cell? ⟨w.heap.size, 0, none⟩ = some (.bool xg1) ∧ W.cell? ⟨w.heap.size, 1, none⟩ = some (.slice xa1 xn1 xc1) ∧ W.cell? ⟨w.heap.size, 2, none⟩ = some (.bool xg2) ∧ W.cell? ⟨w.heap.size, 3, none⟩ = some (.slice xa2 xn2 xc2) ∧ W.cell? ⟨w.heap.size + 1, 0, none⟩ = some (.bool yg1) ∧ W.cell? ⟨w.heap.size + 1, 1, none⟩ = some (.slice ya1 yn1 yc1) ∧ W.cell? ⟨w.heap.size + 1, 2, none⟩ = some (.bool yg2) ∧ W.cell? ⟨w.heap.size + 1, 3, none⟩ = some (.slice ya2 yn2 yc2) ∧ Box4 W (w.heap.size + 1 + 1)) => HDY W h.1
  have HMX := fun W v (h : Below w.heap.size w W ∧ w.heap.size + 1 < W.heap.size ∧ W.cell? ⟨w.heap.size, 0, none⟩ = some (.bool xg1) ∧ W.cell? ⟨w.heap.size, 1, none⟩ = some (.slice xa1 xn1 xc1) ∧ W.cell? ⟨w.heap.size, 2, none⟩ = some (.bool xg2) ∧ W.cell? ⟨w.heap.size, 3, none⟩ = some (.slice xa2 xn2 xc2) ∧ W.cell? ⟨w.heap.size + 1, 0, none⟩ = some (.bool yg1) ∧ W.cell? ⟨w.heap.size + 1, 1, none⟩ = some (.slice ya1 yn1 yc1) ∧ W.cell? ⟨w.heap.size + 1, 2, none⟩ = some (.bool yg2) ∧ W.cell? ⟨w.heap.size + 1, 3, none⟩ = some (.slice ya2 yn2 yc2) ∧ Box4 W (w.heap.size + 1 + 1)) => HMX W v h.1
  have HMY := fun W v (h : Below w.heap.size w W ∧ w.heap.size + 1 < W.heap.size ∧ W.cell? ⟨w.heap.size, 0, none⟩ = some (.bool xg1) ∧ W.cell? ⟨w.heap.size, 1, none⟩ = some (.slice xa1 xn1 xc1) ∧ W.cell? ⟨w.heap.size, 2, none⟩ = some (.bool xg2) ∧ W.cell? ⟨w.heap.size, 3, none⟩ = some (.slice xa2 xn2 xc2) ∧ W.cell? ⟨w.heap.size + 1, 0, none⟩ = some (.bool yg1) ∧ W.cell? ⟨w.heap.size + 1, 1, none⟩ = some (.slice ya1 yn1 yc1) ∧ W.cell? ⟨w.heap.size + 1, 2, none⟩ = some (.bool yg2) ∧ W.cell? ⟨w.heap.size + 1, 3, none⟩ = some (.slice ya2 yn2 yc2) ∧ Box4 W (w.heap.size + 1 + 1)) => HMY W v h.1
  have hqq : 0 < q1 * q2 := Nat.mul_pos hq1 hq2
  generalize p1 * q2 = M1 at *
  generalize p2 * q1 = M2 at *
  generalize q1 * q2 = DD at *
  have HA := fun W u v (hu : IntV W W.heap.size u (M1 : Int) (K + K)) (hv : IntV W W.heap.size v (M2 : Int) (K + K)) => add_any u v M1 M2 (K + K) (K + K) W (by omega) (by omega) (by omega) (by omega) hu hv
  simp only [← Int.natCast_add] at HA
  have HR := fun W u v (hu : IntV W W.heap.size u ((M1 + M2 : Nat) : Int) (K + K + (K + K) + 1)) (hv : IntV W W.heap.size v (DD : Int) (K + K + (K + K) + 1)) => reduced_any u v _ DD _ W (by omega) (by omega) hqq hu hv
  simp only [Int.natAbs_natCast, ← Int.ofNat_tdiv] at HR
  generalize DD / Nat.gcd (M1 + M2) DD = QQ at *
  generalize (M1 + M2) / Nat.gcd (M1 + M2) DD = PP at *
  generalize M1 + M2 = MM at *
  have hKK : K + K ≤ K + K + (K + K) + 1 := by omega
  have s0 := SA.start (w := w) (xg1 := xg1) (xa1 := xa1) (xn1 := xn1) (xc1 := xc1) (xg2 := xg2) (xa2 := xa2) (xn2 := xn2) (xc2 := xc2) (yg1 := yg1) (ya1 := ya1) (yn1 := yn1) (yc1 := yc1) (yg2 := yg2) (ya2 := ya2) (yn2 := yn2) (yc2 := yc2)
  clear hxn hxd hyn hyd hqq hq1 hq2
  go_enter Tryz.func19, Tryz.ntmps19
  go_upto_region 1 with fail
  generalize ((w.alloc _).alloc _).alloc _ = w1 at *
  go_cut [5] (fun u wx => ∃ (bd : Nat) (gg : Bool) (ga : Option Addr) (gn gc : Nat), u = .pointer (some ⟨bd, 0, none⟩) ∧ Box wx bd gg ga gn gc ∧ IntV wx wx.heap.size (.agg #[.bool gg, .slice ga gn gc]) (MM : Int) (K + K + (K + K) + 1) ∧ SA w xg1 xa1 xn1 xc1 xg2 xa2 xn2 xc2 yg1 ya1 yn1 yc1 yg2 ya2 yn2 yc2 wx ∧ w.heap.size + 1 + 1 < bd)
  case first =>
    clear HR HMD hKK
    go_region_held3 (fun W => (Below w.heap.size w W ∧ w.heap.size + 1 < W.heap.size ∧ W.cell? ⟨w.heap.size, 0, none⟩ = some (.bool xg1) ∧ W.cell? ⟨w.heap.size, 1, none⟩ = some (.slice xa1 xn1 xc1) ∧ W.cell? ⟨w.heap.size, 2, none⟩ = some (.bool xg2) ∧ W.cell? ⟨w.heap.size, 3, none⟩ = some (.slice xa2 xn2 xc2) ∧ W.cell? ⟨w.heap.size + 1, 0, none⟩ = some (.bool yg1) ∧ W.cell? ⟨w.heap.size + 1, 1, none⟩ = some (.slice ya1 yn1 yc1) ∧ W.cell? ⟨w.heap.size + 1, 2, none⟩ = some (.bool yg2) ∧ W.cell? ⟨w.heap.size + 1, 3, none⟩ = some (.slice ya2 yn2 yc2) ∧ Box4 W (w.heap.size + 1 + 1)))
      (first
        | exact s0
        | exact s0.drew
        | assumption
        | exact SA.next (by assumption) (by assumption)
        | exact SA.alloc (by assumption) _
        | exact SA.alloc s6 _
        | exact SA.put (by assumption) hg5 _ _)
      (first
        | (go_at_call 36; (have l2 := (SA.res (show SA w xg1 xa1 xn1 xc1 xg2 xa2 xn2 xc2 yg1 ya1 yn1 yc1 yg2 ya2 yn2 yc2 _ by assumption)).lt); (with_reducible refine (HDY _ (by assumption)).mono ?_); rintro e w2 ⟨v, rfl, hv2, hb2⟩; obtain ⟨g3, a3, n3, c3, hvv⟩ := IntV.form hv2; subst hvv)
        | (go_at_call 35; (have l3 := (SA.res (show SA w xg1 xa1 xn1 xc1 xg2 xa2 xn2 xc2 yg1 ya1 yn1 yc1 yg2 ya2 yn2 yc2 _ by assumption)).lt); (with_reducible refine (HMX _ _ (by assumption) (by first | exact hv2 | exact IntV.alc _ hv2)).mono ?_); rintro e w3 ⟨v, rfl, hv3, hb3⟩; obtain ⟨g4, a4, n4, c4, hvv⟩ := IntV.form hv3; subst hvv)
        | (go_at_call 36; (have l4 := (SA.res (show SA w xg1 xa1 xn1 xc1 xg2 xa2 xn2 xc2 yg1 ya1 yn1 yc1 yg2 ya2 yn2 yc2 _ by assumption)).lt); (with_reducible refine (HDX _ (by assumption)).mono ?_); rintro e w4 ⟨v, rfl, hv4, hb4⟩; obtain ⟨g5, a5, n5, c5, hvv⟩ := IntV.form hv4; subst hvv)
        | (go_at_call 35; (have l5 := (SA.res (show SA w xg1 xa1 xn1 xc1 xg2 xa2 xn2 xc2 yg1 ya1 yn1 yc1 yg2 ya2 yn2 yc2 _ by assumption)).lt); (with_reducible refine (HMY _ _ (by assumption) (by first | exact hv4 | exact IntV.alc _ hv4)).mono ?_); rintro e w5 ⟨v, rfl, hv5, hb5⟩; obtain ⟨g6, a6, n6, c6, hvv⟩ := IntV.form hv5; subst hvv)
        | (go_at_call 37; (have l6 := (SA.res (show SA w xg1 xa1 xn1 xc1 xg2 xa2 xn2 xc2 yg1 ya1 yn1 yc1 yg2 ya2 yn2 yc2 _ by assumption)).lt); (with_reducible refine (HA _ _ _ (by first | exact IntV.nxt hb5 (IntV.nxt hb4 hv3) | exact IntV.nxt hb5 (IntV.nxt hb4 (IntV.alc _ hv3)) | exact IntV.nxt hb5 (IntV.alc _ (IntV.nxt hb4 hv3)) | exact IntV.alc _ (IntV.nxt hb5 (IntV.nxt hb4 hv3))) (by first | exact hv5 | exact IntV.alc _ hv5)).mono ?_); rintro e w6 ⟨v, rfl, hv6, hb6⟩; obtain ⟨g7, a7, n7, c7, hvv⟩ := IntV.form hv6; subst hvv; have s6 := SA.next (show SA w xg1 xa1 xn1 xc1 xg2 xa2 xn2 xc2 yg1 ya1 yn1 yc1 yg2 ya2 yn2 yc2 _ by assumption) hb6;
            (first
              | (have hbz := BoxZ.next hb6 (BoxZ.made _); have hg5 := SA.far s6 hbz (Nat.le_of_lt_succ (by simpa using l6)); have z0 := (box_res hbz).1; have z1 := (box_res hbz).2.1; have zf := (box_res hbz).2.2.1; have zl := (box_res hbz).2.2.2)
              | (have hbz := BoxZ.next hb6 (BoxZ.next hb5 (BoxZ.made _)); have hg5 := SA.far s6 hbz (Nat.le_of_lt_succ (by simpa using l5)); have z0 := (box_res hbz).1; have z1 := (box_res hbz).2.1; have zf := (box_res hbz).2.2.1; have zl := (box_res hbz).2.2.2)
              | (have hbz := BoxZ.next hb6 (BoxZ.next hb5 (BoxZ.next hb4 (BoxZ.made _))); have hg5 := SA.far s6 hbz (Nat.le_of_lt_succ (by simpa using l4)); have z0 := (box_res hbz).1; have z1 := (box_res hbz).2.1; have zf := (box_res hbz).2.2.1; have zl := (box_res hbz).2.2.2)
              | (have hbz := BoxZ.next hb6 (BoxZ.next hb5 (BoxZ.next hb4 (BoxZ.next hb3 (BoxZ.made _)))); have hg5 := SA.far s6 hbz (Nat.le_of_lt_succ (by simpa using l3)); have z0 := (box_res hbz).1; have z1 := (box_res hbz).2.1; have zf := (box_res hbz).2.2.1; have zl := (box_res hbz).2.2.2)
              | (have hbz := BoxZ.next hb6 (BoxZ.next hb5 (BoxZ.next hb4 (BoxZ.next hb3 (BoxZ.next hb2 (BoxZ.made _))))); have hg5 := SA.far s6 hbz (Nat.le_of_lt_succ (by simpa using l2)); have z0 := (box_res hbz).1; have z1 := (box_res hbz).2.1; have zf := (box_res hbz).2.2.1; have zl := (box_res hbz).2.2.2)
              | skip))
        )
    all_goals go_wp2_with fail
    all_goals go_meet
    all_goals (
      first
        | exact ⟨_, g7, a7, n7, c7, rfl, (BoxZ.put hbz _ _ _ _).1, hv6.dk (BoxZ.put hbz _ _ _ _).2, SA.put s6 hg5 _ _, hg5⟩
        | exact ⟨_, g7, a7, n7, c7, rfl, Box.made _ _ _ _ _ _, IntV.alc _ hv6, SA.alloc s6 _, s6.res.lt⟩)
  case rest =>
    obtain ⟨bd, gg, ga, gn, gc, rfl, hbx, hsum, s1, hbd⟩ := hcut
    clear HMX HMY HA s0
    generalize wc = w1 at *
    have s0 : SB w xg1 xa1 xn1 xc1 xg2 xa2 xn2 xc2 yg1 ya1 yn1 yc1 yg2 ya2 yn2 yc2 bd gg ga gn gc w1 := SB.mk s1 hbx
    clear hbx s1
    have HBX := fun W (h : Below w.heap.size w W ∧ w.heap.size + 1 < W.heap.size ∧ W.cell? ⟨w.heap.size, 0, none⟩ = some (.bool xg1) ∧ W.cell? ⟨w.heap.size, 1, none⟩ = some (.slice xa1 xn1 xc1) ∧ W.cell? ⟨w.heap.size, 2, none⟩ = some (.bool xg2) ∧ W.cell? ⟨w.heap.size, 3, none⟩ = some (.slice xa2 xn2 xc2) ∧ W.cell? ⟨w.heap.size + 1, 0, none⟩ = some (.bool yg1) ∧ W.cell? ⟨w.heap.size + 1, 1, none⟩ = some (.slice ya1 yn1 yc1) ∧ W.cell? ⟨w.heap.size + 1, 2, none⟩ = some (.bool yg2) ∧ W.cell? ⟨w.heap.size + 1, 3, none⟩ = some (.slice ya2 yn2 yc2) ∧ Box4 W (w.heap.size + 1 + 1) ∧ W.cell? ⟨bd, 0, none⟩ = some (.bool gg) ∧ W.cell? ⟨bd, 1, none⟩ = some (.slice ga gn gc) ∧ bd < W.heap.size) => HDX W (SB.sa (show SB w xg1 xa1 xn1 xc1 xg2 xa2 xn2 xc2 yg1 ya1 yn1 yc1 yg2 ya2 yn2 yc2 bd gg ga gn gc W from h))
    have HBY := fun W (h : Below w.heap.size w W ∧ w.heap.size + 1 < W.heap.size ∧ W.cell? ⟨w.heap.size, 0, none⟩ = some (.bool xg1) ∧ W.cell? ⟨w.heap.size, 1, none⟩ = some (.slice xa1 xn1 xc1) ∧ W.cell? ⟨w.heap.size, 2, none⟩ = some (.bool xg2) ∧ W.cell? ⟨w.heap.size, 3, none⟩ = some (.slice xa2 xn2 xc2) ∧ W.cell? ⟨w.heap.size + 1, 0, none⟩ = some (.bool yg1) ∧ W.cell? ⟨w.heap.size + 1, 1, none⟩ = some (.slice ya1 yn1 yc1) ∧ W.cell? ⟨w.heap.size + 1, 2, none⟩ = some (.bool yg2) ∧ W.cell? ⟨w.heap.size + 1, 3, none⟩ = some (.slice ya2 yn2 yc2) ∧ Box4 W (w.heap.size + 1 + 1) ∧ W.cell? ⟨bd, 0, none⟩ = some (.bool gg) ∧ W.cell? ⟨bd, 1, none⟩ = some (.slice ga gn gc) ∧ bd < W.heap.size) => HDY W (SB.sa (show SB w xg1 xa1 xn1 xc1 xg2 xa2 xn2 xc2 yg1 ya1 yn1 yc1 yg2 ya2 yn2 yc2 bd gg ga gn gc W from h))
    clear HDX HDY
    go_upto_region 2 with fail
    go_region_held3 (fun W => (Below w.heap.size w W ∧ w.heap.size + 1 < W.heap.size ∧ W.cell? ⟨w.heap.size, 0, none⟩ = some (.bool xg1) ∧ W.cell? ⟨w.heap.size, 1, none⟩ = some (.slice xa1 xn1 xc1) ∧ W.cell? ⟨w.heap.size, 2, none⟩ = some (.bool xg2) ∧ W.cell? ⟨w.heap.size, 3, none⟩ = some (.slice xa2 xn2 xc2) ∧ W.cell? ⟨w.heap.size + 1, 0, none⟩ = some (.bool yg1) ∧ W.cell? ⟨w.heap.size + 1, 1, none⟩ = some (.slice ya1 yn1 yc1) ∧ W.cell? ⟨w.heap.size + 1, 2, none⟩ = some (.bool yg2) ∧ W.cell? ⟨w.heap.size + 1, 3, none⟩ = some (.slice ya2 yn2 yc2) ∧ Box4 W (w.heap.size + 1 + 1) ∧ W.cell? ⟨bd, 0, none⟩ = some (.bool gg) ∧ W.cell? ⟨bd, 1, none⟩ = some (.slice ga gn gc) ∧ bd < W.heap.size))
      (first
        | exact s0
        | exact s0.drew
        | assumption
        | exact SB.next (by assumption) (by assumption)
        | exact SB.put4 (by assumption) hbd _ _ _ _ _ _ _ _)
      (first
        | (go_at_call 36; (with_reducible refine (HBX _ (by assumption)).mono ?_); rintro e w2 ⟨v, rfl, hv2, hb2⟩; obtain ⟨g3, a3, n3, c3, hvv⟩ := IntV.form hv2; subst hvv)
        | (go_at_call 36; (with_reducible refine (HBY _ (by assumption)).mono ?_); rintro e w3 ⟨v, rfl, hv3, hb3⟩; obtain ⟨g4, a4, n4, c4, hvv⟩ := IntV.form hv3; subst hvv)
        | (go_at_call 35; (with_reducible refine (HMD _ _ _ (IntV.nxt hb3 hv2) hv3).mono ?_); rintro e w4 ⟨v, rfl, hv4, hb4⟩; obtain ⟨g5, a5, n5, c5, hvv⟩ := IntV.form hv4; subst hvv)
        | (go_at_call 32; (with_reducible refine (HR _ _ _ (IntV.nxt hb4 (IntV.nxt hb3 (IntV.nxt hb2 (by first | exact hsum | exact IntV.nxt (Below.refl _ _).drew hsum)))) (IntV.wide hv4 hKK)).mono ?_); rintro e w5 ⟨v, rfl, hv5, hb5⟩; obtain ⟨k1, f1, m1, d1, k2, f2, m2, d2, hvv⟩ := RatV.form hv5; subst hvv; have s5 := SB.next (show SB w xg1 xa1 xn1 xc1 xg2 xa2 xn2 xc2 yg1 ya1 yn1 yc1 yg2 ya2 yn2 yc2 bd gg ga gn gc _ by assumption) hb5; obtain ⟨⟨z0, z1, z2, z3, r0, r1, r2, r3⟩, rf⟩ := Box4.cells (SA.res (SB.sa s5)); have rlt := Box4.lt (SA.res (SB.sa s5))))
    all_goals go_wp2_with fail
    have hdk := (SA.res (SB.sa s5)).set (.bool k1) (.slice f1 m1 d1) (.bool k2) (.slice f2 m2 d2)
    exact bodyPost_ret (v := .agg #[.bool k1, .slice f1 m1 d1, .bool k2, .slice f2 m2 d2]) (by simp [results, Tryz.results19, go_sem, r0, r1, r2, r3]) rfl ⟨_, rfl, hv5.dk hdk, Below.set4 (SA.bel (SB.sa s5)) (by omega) _ _ _ _⟩
end Go.Proofs.YtfoadipocpopiaaGreat
