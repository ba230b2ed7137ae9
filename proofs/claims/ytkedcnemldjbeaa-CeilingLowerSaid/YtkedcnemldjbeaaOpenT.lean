/- A task by value, and a row of integers, opened. Conditions: none. -/
import Derived.Test.YtkedcnemldjbeaaOpenR
namespace Go.Proofs.Ytkedcnemldjbeaa
open Go.ChangeShapes Go.WideShapes Go.ChangeAt Go.RowKit Go.Deep

section
variable {H : Type} {enc : TypeId × Value → H} {W : World} {base : Nat} {spare : Nat → Bool} {held : Bool}

theorem open_intsv {v : Value} {d : DataW H} {p : List MemPlace} {r0 : Reach} {b0 : Nat} (hv : Value.okWide Try.prog W r0 b0 35 v) (h : DataW.Trod enc Try.prog W base spare held 35 v d p) :
    ∃ (a : Option Addr) (r : List Int) (cap : Nat), v = .slice a r.length cap ∧ r.length ≤ cap ∧ cap ≤ 9223372036854775807 ∧ IntsAt W W.heap.size a r ∧ FitI r := by
  obtain ⟨a0, n0, cap0, rfl⟩ := okWide_slice Try.underlying35 hv
  obtain ⟨fuel, hf⟩ := h
  obtain ⟨a, r, cap, e, h1, h2, h3, h4⟩ := open_introw hf
  have e : Value.slice a0 n0 cap0 = .slice a r.length cap := by
    simp [Value.cells] at e
    rw [e.1, e.2.1, e.2.2]
  exact ⟨a, r, cap, e, h1, h2, h3, h4⟩

theorem open_taskv {v : Value} {d : DataW H} {p : List MemPlace} {r0 : Reach} {b0 : Nat} (hv : Value.okWide Try.prog W r0 b0 30 v) (h : DataW.Trod enc Try.prog W base spare held 30 v d p) :
    ∃ (c pe de : Int) (sv : Value), v = .agg #[.int .i64 c, .int .i64 pe, .int .i64 de, sv] := by
  obtain ⟨cs, rfl, hsz⟩ := okWide_struct Try.underlying30 hv
  rw [Try.cellsTask] at hsz
  obtain ⟨fuel, ht⟩ := h
  obtain ⟨ys, k, _, _, _, hyl, hg⟩ := DataW.trod_struct Try.underlying30 ht
  obtain ⟨cs⟩ := cs
  match cs, hsz, ys, hyl with
  | [c0, c1, c2, c3], _, [y0, y1, y2, y3], _ =>
    have g0 := hg 0 _ rfl
    have g1 := hg 1 _ rfl
    have g2 := hg 2 _ rfl
    simp [Try.cellsInt, Value.cells] at g0 g1 g2
    obtain ⟨v0, e0, _, _⟩ := DataW.trod_int Try.underlying3 g0
    obtain ⟨v1, e1, _, _⟩ := DataW.trod_int Try.underlying3 g1
    obtain ⟨v2, e2, _, _⟩ := DataW.trod_int Try.underlying3 g2
    simp at e0 e1 e2
    subst e0 e1 e2
    exact ⟨v0, v1, v2, c3, rfl⟩
end
end Go.Proofs.Ytkedcnemldjbeaa
