/- An argument that is a task of a set, opened. Conditions: none. -/
import Derived.Test.YtdjpkebajcpfbaaOpenTs
namespace Go.Proofs.Ytdjpkebajcpfbaa
open Go.ChangeShapes Go.WideShapes Go.ChangeAt Go.RowKit Go.Deep

set_option maxRecDepth 100000
section
variable {H : Type} {enc : TypeId × Value → H} {W : World} {base : Nat} {spare : Nat → Bool} {held : Bool}
theorem open_tv {v : Value} {d : DataW H} {p : List MemPlace} {r0 : Reach} {b0 : Nat} (hv : Value.okWide Try.prog W r0 b0 37 v) (h : DataW.Trod enc Try.prog W base spare held 37 v d p) :
    ∃ (nm : ByteArray) (c pe : Int), v = .agg #[.string nm, .int .i64 c, .int .i64 pe] := by
  obtain ⟨cs, rfl, hsz⟩ := okWide_struct Try.underlying37 hv
  rw [Try.cellsTS] at hsz
  obtain ⟨fuel, ht⟩ := h
  obtain ⟨ys, k, _, _, _, hyl, hg⟩ := DataW.trod_struct Try.underlying37 ht
  obtain ⟨cs⟩ := cs
  match cs, hsz, ys, hyl with
  | [c0, c1, c2], _, [y0, y1, y2], _ =>
    have g0 := hg 0 _ rfl
    have g1 := hg 1 _ rfl
    have g2 := hg 2 _ rfl
    simp [Try.cellsInt, Try.cellsStr, Value.cells] at g0 g1 g2
    obtain ⟨v0, e0, _, _⟩ := DataW.trod_string Try.underlying9 g0
    obtain ⟨v1, e1, _, _⟩ := DataW.trod_int Try.underlying3 g1
    obtain ⟨v2, e2, _, _⟩ := DataW.trod_int Try.underlying3 g2
    simp at e0 e1 e2
    subst e0 e1 e2
    exact ⟨v0, v1, v2, rfl⟩
end
end Go.Proofs.Ytdjpkebajcpfbaa
