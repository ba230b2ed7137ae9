/- A candidate as an argument, opened to its six numbers and its name. Conditions: none. -/
import Derived.Test.YtoiahkndabbklaaProofWindow
namespace Go.Proofs.Ytoiahkndabbklaa
open Go.ChangeShapes Go.WideShapes Go.ChangeAt Go.RowKit Go.Joins

theorem Try.cellsCand : Try.prog.cellsOf 42 = 6 := by kernel_rfl
theorem Try.cellsInt : Try.prog.cellsOf 3 = 1 := by kernel_rfl
theorem Try.cellsStr : Try.prog.cellsOf 9 = 1 := by kernel_rfl

theorem open_cand {H : Type} {enc : TypeId × Value → H} {W : World} {r0 : Reach} {b0 base : Nat} {spare : Nat → Bool} {held : Bool} {v : Value} {d : DataW H} {p : List MemPlace}
    (hv : Value.okWide Try.prog W r0 b0 42 v) (h : DataW.Trod enc Try.prog W base spare held 42 v d p) :
    ∃ (n : Int) (nm : ByteArray) (c q r i : Int), v = .agg #[.int .i64 n, .string nm, .int .i64 c, .int .i64 q, .int .i64 r, .int .i64 i] := by
  obtain ⟨cs, rfl, hsz⟩ := okWide_struct Try.underlying42 hv
  rw [Try.cellsCand] at hsz
  obtain ⟨l⟩ := cs
  match l, hsz with
  | [c0, c1, c2, c3, c4, c5], _ =>
    obtain ⟨fuel, hf⟩ := h
    obtain ⟨xs, n, _, _, _, hlen, hg⟩ := DataW.trod_struct Try.underlying42 hf
    match xs, hlen with
    | [x0, x1, x2, x3], _ =>
      have g0 := hg 0 _ rfl
      have g1 := hg 1 _ rfl
      have g2 := hg 2 _ rfl
      have g3 := hg 3 _ rfl
      simp [Value.cells, Try.cellsInt, Try.cellsTask] at g0 g1 g2 g3
      obtain ⟨ys, m, _, _, _, hlen', hk⟩ := DataW.trod_struct Try.underlying23 g1
      match ys, hlen' with
      | [y0, y1, y2], _ =>
        have k0 := hk 0 _ rfl
        have k1 := hk 1 _ rfl
        have k2 := hk 2 _ rfl
        simp [Try.cellsInt, Try.cellsStr] at k0 k1 k2
        obtain ⟨a0, e0, _, _⟩ := DataW.trod_int Try.underlying3 g0
        obtain ⟨a1, e1, _, _⟩ := DataW.trod_string Try.underlying9 k0
        obtain ⟨a2, e2, _, _⟩ := DataW.trod_int Try.underlying3 k1
        obtain ⟨a3, e3, _, _⟩ := DataW.trod_int Try.underlying3 k2
        obtain ⟨a4, e4, _, _⟩ := DataW.trod_int Try.underlying3 g2
        obtain ⟨a5, e5, _, _⟩ := DataW.trod_int Try.underlying3 g3
        simp at e0 e1 e2 e3 e4 e5
        subst e0 e1 e2 e3 e4 e5
        exact ⟨a0, a1, a2, a3, a4, a5, rfl⟩
end Go.Proofs.Ytoiahkndabbklaa
