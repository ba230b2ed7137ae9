/- Rational numbers in memory; the walk over rational.reduced. Conditions: the integers lie in memory, the denominator is positive. -/
import Derived.Test.YtdjpkebajcpfbaaBigToInt
namespace Go.Proofs.Ytdjpkebajcpfbaa
open Go.RowKit Go.Deep

/-- v is the number p / q; a denominator 0 in memory stands for 1. -/
def RatV (w : World) (v : Value) (p : Int) (q K : Nat) : Prop :=
  ∃ (g1 : Bool) (a1 : Option Addr) (n1 c1 : Nat) (g2 : Bool) (a2 : Option Addr) (n2 c2 qd : Nat), v = .agg #[.bool g1, .slice a1 n1 c1, .bool g2, .slice a2 n2 c2] ∧ IntV w w.heap.size (.agg #[.bool g1, .slice a1 n1 c1]) p K ∧ IntV w w.heap.size (.agg #[.bool g2, .slice a2 n2 c2]) qd K ∧ (qd = q ∨ (qd = 0 ∧ q = 1)) ∧ 0 < q
section
variable {w w' : World} {v : Value} {p : Int} {q K K' : Nat}
theorem RatV.dk (h : RatV w v p q K) (hk : Dk w w') : RatV w' v p q K := by
  obtain ⟨g1, a1, n1, c1, g2, a2, n2, c2, qd, e, h1, h2, h3⟩ := h
  exact ⟨g1, a1, n1, c1, g2, a2, n2, c2, qd, e, h1.dk hk, h2.dk hk, h3⟩
theorem RatV.nxt (hb : Below w.heap.size w w') (h : RatV w v p q K) : RatV w' v p q K := h.dk (Dk.below hb)
theorem RatV.wide (h : RatV w v p q K) (hK : K ≤ K') : RatV w v p q K' := by
  obtain ⟨g1, a1, n1, c1, g2, a2, n2, c2, qd, e, h1, h2, h3⟩ := h
  exact ⟨g1, a1, n1, c1, g2, a2, n2, c2, qd, e, h1.wide hK, h2.wide hK, h3⟩
theorem RatV.form (h : RatV w v p q K) : ∃ (g1 : Bool) (a1 : Option Addr) (n1 c1 : Nat) (g2 : Bool) (a2 : Option Addr) (n2 c2 : Nat), v = .agg #[.bool g1, .slice a1 n1 c1, .bool g2, .slice a2 n2 c2] := by
  obtain ⟨g1, a1, n1, c1, g2, a2, n2, c2, qd, e, _⟩ := h
  exact ⟨g1, a1, n1, c1, g2, a2, n2, c2, e⟩
end
theorem IntV.zero (w : World) (N K : Nat) : IntV w N (.agg #[.bool false, .slice none 0 0]) 0 K :=
  ⟨false, none, 0, 0, fun _ => 0, rfl, by omega, Nrm.zero, by omega, by omega, DAt.zero _ _ _ _, rfl, fun h => by cases h⟩
theorem RatV.zero (w : World) (K : Nat) : RatV w (.agg #[.bool false, .slice none 0 0, .bool false, .slice none 0 0]) 0 1 K :=
  ⟨false, none, 0, 0, false, none, 0, 0, 0, rfl, IntV.zero _ _ _, IntV.zero _ _ _, .inr ⟨rfl, rfl⟩, by omega⟩

/-- The block g is a box of an integer. -/
def Box (w : World) (g : Nat) (u : Bool) (a : Option Addr) (n c : Nat) : Prop := w.cell? ⟨g, 0, none⟩ = some (.bool u) ∧ w.cell? ⟨g, 1, none⟩ = some (.slice a n c) ∧ g < w.heap.size
/-- The block g holds four cells of a rational number and can be written. -/
def Box4 (w : World) (g : Nat) : Prop := ∃ (g1 : Bool) (a1 : Option Addr) (n1 c1 : Nat) (g2 : Bool) (a2 : Option Addr) (n2 c2 : Nat), w.heap[g]? = some (.cells #[.bool g1, .slice a1 n1 c1, .bool g2, .slice a2 n2 c2] 56 (0, 0))
section
variable {w w' : World} {g : Nat} {u : Bool} {a : Option Addr} {n c : Nat}
theorem Box.next (h : Box w g u a n c) (hb : Below w.heap.size w w') : Box w' g u a n c :=
  ⟨keep_cellN hb h.2.2 h.1, keep_cellN hb h.2.2 h.2.1, by have := hb.size; have := h.2.2; omega⟩
theorem Box.made (w : World) (u : Bool) (a : Option Addr) (n c : Nat) (t : TypeId) : Box (w.alloc (.cells #[.bool u, .slice a n c] t)) w.heap.size u a n c :=
  ⟨by simp [go_sem], by simp [go_sem], by simp⟩
theorem Box4.lt (h : Box4 w g) : g < w.heap.size := by
  obtain ⟨g1, a1, n1, c1, g2, a2, n2, c2, e⟩ := h
  exact (Array.getElem?_eq_some_iff.1 e).1
theorem Box4.next (h : Box4 w g) (hb : Below w.heap.size w w') : Box4 w' g := by
  have hl := h.lt
  obtain ⟨g1, a1, n1, c1, g2, a2, n2, c2, e⟩ := h
  exact ⟨g1, a1, n1, c1, g2, a2, n2, c2, (hb.block g hl).trans e⟩
theorem Box4.cells (h : Box4 w g) : (∃ v0 v1 v2 v3, w.cell? ⟨g, 0, none⟩ = some v0 ∧ w.cell? ⟨g, 1, none⟩ = some v1 ∧ w.cell? ⟨g, 2, none⟩ = some v2 ∧ w.cell? ⟨g, 3, none⟩ = some v3) ∧ ∀ j, w.frozen? ⟨g, j, none⟩ = false := by
  obtain ⟨g1, a1, n1, c1, g2, a2, n2, c2, e⟩ := h
  exact ⟨⟨_, _, _, _, by simp only [World.cell?, e]; rfl, by simp only [World.cell?, e]; rfl, by simp only [World.cell?, e]; rfl, by simp only [World.cell?, e]; rfl⟩, fun j => by simp [World.frozen?, e]⟩
theorem no_u32_4 {g1 g2 : Bool} {a1 a2 : Option Addr} {n1 c1 n2 c2 : Nat} {t : TypeId} (h : w.heap[g]? = some (.cells #[.bool g1, .slice a1 n1 c1, .bool g2, .slice a2 n2 c2] t (0, 0))) (o : Nat) (i : Int) : w.cell? ⟨g, o, none⟩ ≠ some (.int .u32 i) := by
  simp only [World.cell?, h]
  match o with
  | 0 => simp
  | 1 => simp
  | 2 => simp
  | 3 => simp
  | k + 4 => simp
/-- Four cells written: numbers stay, and all else below. -/
theorem Box4.set (h : Box4 w g) (x0 x1 x2 x3 : Value) : Dk w ((((w.setCell ⟨g, 0, none⟩ x0).setCell ⟨g, 1, none⟩ x1).setCell ⟨g, 2, none⟩ x2).setCell ⟨g, 3, none⟩ x3) := by
  obtain ⟨g1, a1, n1, c1, g2, a2, n2, c2, e⟩ := h
  refine ⟨by simp [World.setCell], fun b o i hc => ?_⟩
  have hne : b ≠ g := by
    rintro rfl
    exact no_u32_4 e o i hc
  rw [World.cell?_setCell_other, World.cell?_setCell_other, World.cell?_setCell_other, World.cell?_setCell_other]
  · exact hc
  all_goals (intro e; injection e with e1; exact hne e1.symm)
end
theorem Below.set4 {N g : Nat} {w w' : World} (h : Below N w w') (hg : N ≤ g) (x0 x1 x2 x3 : Value) : Below N w ((((w'.setCell ⟨g, 0, none⟩ x0).setCell ⟨g, 1, none⟩ x1).setCell ⟨g, 2, none⟩ x2).setCell ⟨g, 3, none⟩ x3) :=
  (((h.setCell (p := (⟨g, 0, none⟩ : Addr)) hg x0).setCell (p := (⟨g, 1, none⟩ : Addr)) hg x1).setCell (p := (⟨g, 2, none⟩ : Addr)) hg x2).setCell (p := (⟨g, 3, none⟩ : Addr)) hg x3
end Go.Proofs.Ytdjpkebajcpfbaa
