/- An argument that is a list of tasks of a set, opened. Conditions: none. -/
import Derived.Test.YtdjpkebajcpfbaaTs
import Derived.Test.YtdjpkebajcpfbaaOpenF
namespace Go.Proofs.Ytdjpkebajcpfbaa
open Go.ChangeShapes Go.WideShapes Go.ChangeAt Go.RowKit Go.Deep

set_option maxRecDepth 100000
theorem Try.cellsTS : Try.prog.cellsOf 37 = 3 := by kernel_rfl
theorem Try.cellsStr : Try.prog.cellsOf 9 = 1 := by kernel_rfl

section
variable {H : Type} {enc : TypeId × Value → H} {W : World} {base : Nat} {spare : Nat → Bool} {held : Bool}
def FitT (t : TT) : Prop := -9223372036854775808 ≤ t.c ∧ t.c ≤ 9223372036854775807 ∧ -9223372036854775808 ≤ t.p ∧ t.p ≤ 9223372036854775807
theorem open_ts {v : Value} {d : DataW H} {p : List MemPlace} {r0 : Reach} {b0 : Nat} (hv : Value.okWide Try.prog W r0 b0 22 v) (h : DataW.Trod enc Try.prog W base spare held 22 v d p) :
    ∃ (a : Option Addr) (ss : List TT) (cap : Nat), v = .slice a ss.length cap ∧ ss.length ≤ cap ∧ cap ≤ 9223372036854775807 ∧ TSAt W W.heap.size a ss ∧ ∀ t ∈ ss, FitT t := by
  obtain ⟨a0, n0, cap0, rfl⟩ := okWide_slice Try.underlying22 hv
  obtain ⟨fuel, hf⟩ := h
  rcases open_slice Try.underlying22 hf with ⟨e, _⟩ | ⟨a, len, cap, m, n, D, Pl, e, hb, hl, hm, hmm, _, hi⟩
  · simp [Value.cells] at e
    obtain ⟨rfl, rfl, rfl⟩ := e
    exact ⟨none, [], 0, rfl, by simp, by omega, fun h => absurd rfl h, fun j hj => by cases hj⟩
  · simp [Value.cells] at e
    obtain ⟨rfl, rfl, rfl⟩ := e
    have hlm : n0 ≤ m := by rw [hmm]; split <;> omega
    have hel : ∀ i, i < n0 → ∃ s : TT, (∃ b off, a = ⟨b, off, none⟩ ∧ b < W.heap.size ∧ W.cell? ⟨b, off + i * 3, none⟩ = some (.string s.nm) ∧ W.cell? ⟨b, off + i * 3 + 1, none⟩ = some (.int .i64 s.c) ∧ W.cell? ⟨b, off + i * 3 + 2, none⟩ = some (.int .i64 s.p)) ∧ FitT s := by
      intro i hlt
      obtain ⟨cs0, hc0, ht0⟩ := hi 0 (by omega)
      rw [Try.cellsTS] at hc0
      obtain ⟨ab, ao, rfl, hab⟩ := base_plain hc0 (by omega)
      clear hc0 ht0 cs0
      obtain ⟨cs', hc, ht⟩ := hi i (by omega)
      rw [Try.cellsTS] at hc
      obtain ⟨_, hlen, hcell⟩ := World.cells?_some hc
      obtain ⟨ys, k, _, _, _, hyl, hg⟩ := DataW.trod_struct Try.underlying37 ht
      match cs', hlen, ys, hyl with
      | [c0, c1, c2], _, [y0, y1, y2], _ =>
        have g0 := hg 0 _ rfl
        have g1 := hg 1 _ rfl
        have g2 := hg 2 _ rfl
        simp [Try.cellsInt, Try.cellsStr] at g0 g1 g2
        obtain ⟨v0, e0, _, _⟩ := DataW.trod_string Try.underlying9 g0
        obtain ⟨v1, e1, _, f1⟩ := DataW.trod_int Try.underlying3 g1
        obtain ⟨v2, e2, _, f2⟩ := DataW.trod_int Try.underlying3 g2
        simp at e0 e1 e2
        subst e0 e1 e2
        have k0 := hcell 0 (by omega)
        have k1 := hcell 1 (by omega)
        have k2 := hcell 2 (by omega)
        simp [add_plain] at k0 k1 k2
        exact ⟨⟨v0, v1, v2⟩, ⟨ab, ao, rfl, hab, k0, k1, k2⟩, (wf_i64 f1).1, (wf_i64 f1).2, (wf_i64 f2).1, (wf_i64 f2).2⟩
    obtain ⟨ss, hsl, hss⟩ := list_of hel
    subst hsl
    refine ⟨some a, ss, cap0, rfl, hl, by unfold maxLen at hm; omega, fun hne => ?_, fun j hj => ?_⟩
    · have h0 : 0 < ss.length := List.length_pos_iff.2 hne
      obtain ⟨⟨b, off, rfl, hlt, _⟩, _⟩ := hss 0 ss[0] (List.getElem?_eq_getElem h0)
      refine ⟨b, off, rfl, hlt, fun j s hj => ?_⟩
      obtain ⟨⟨b', off', e, _, h1, h2, h3⟩, _⟩ := hss j s hj
      simp only [Addr.mk.injEq] at e
      obtain ⟨rfl, rfl, _⟩ := e
      exact ⟨h1, h2, h3⟩
    · obtain ⟨i, hi⟩ := List.mem_iff_getElem?.1 hj
      exact (hss i j hi).2
end
end Go.Proofs.Ytdjpkebajcpfbaa
