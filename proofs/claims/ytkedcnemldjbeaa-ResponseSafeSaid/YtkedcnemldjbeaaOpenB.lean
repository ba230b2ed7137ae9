/- A slice of bytes, opened. Conditions: none. -/
import Derived.Test.YtkedcnemldjbeaaOpenR
import Derived.Test.YtkedcnemldjbeaaRels
namespace Go.Proofs.Ytkedcnemldjbeaa
open Go.ChangeShapes Go.WideShapes Go.ChangeAt Go.RowKit Go.Deep

theorem Try.cellsU8 : Try.prog.cellsOf 5 = 1 := by kernel_rfl
section
variable {H : Type} {enc : TypeId × Value → H} {W : World} {base : Nat} {spare : Nat → Bool} {held : Bool}
theorem open_bytesv {v : Value} {d : DataW H} {p : List MemPlace} {r0 : Reach} {b0 : Nat} (hv : Value.okWide Try.prog W r0 b0 70 v) (h : DataW.Trod enc Try.prog W base spare held 70 v d p) :
    ∃ (a : Option Addr) (r : List Int) (cap : Nat), v = .slice a r.length cap ∧ r.length ≤ cap ∧ cap ≤ 9223372036854775807 ∧ BytesAt W W.heap.size a r ∧ FitB r := by
  obtain ⟨a0, n0, cap0, rfl⟩ := okWide_slice Try.underlying70 hv
  obtain ⟨fuel, hf⟩ := h
  rcases open_slice Try.underlying70 hf with ⟨e, _⟩ | ⟨a, len, cap, m, n, D, Pl, e, hb, hl, hm, hmm, _, hi⟩
  · simp [Value.cells] at e
    obtain ⟨rfl, rfl, rfl⟩ := e
    exact ⟨none, [], 0, rfl, by simp, by omega, fun h => absurd rfl h, fun x hx => by cases hx⟩
  · simp [Value.cells] at e
    obtain ⟨rfl, rfl, rfl⟩ := e
    have hlm : n0 ≤ m := by rw [hmm]; split <;> omega
    have hel : ∀ i, i < n0 → ∃ x : Int, (∃ b off, a = ⟨b, off, none⟩ ∧ b < W.heap.size ∧ W.cell? ⟨b, off + i, none⟩ = some (.int .u8 x)) ∧ 0 ≤ x ∧ x ≤ 255 := by
      intro i hlt
      obtain ⟨cs0, hc0, ht0⟩ := hi 0 (by omega)
      rw [Try.cellsU8] at hc0
      obtain ⟨ab, ao, rfl, hab⟩ := base_plain hc0 (by omega)
      clear hc0 ht0 cs0
      obtain ⟨cs', hc, ht⟩ := hi i (by omega)
      rw [Try.cellsU8] at hc
      obtain ⟨_, hlen, hcell⟩ := World.cells?_some hc
      match cs', hlen with
      | [c0], _ =>
        obtain ⟨v0, e0, _, hwf⟩ := DataW.trod_int Try.underlying5 ht
        simp at e0
        subst e0
        have k0 := hcell 0 (by omega)
        simp [add_plain] at k0
        exact ⟨v0, ⟨ab, ao, rfl, hab, k0⟩, by have := hwf; simp [Lit.wf, IntKind.min, IntKind.max, IntKind.signed, IntKind.bits] at this; omega, by have := hwf; simp [Lit.wf, IntKind.min, IntKind.max, IntKind.signed, IntKind.bits] at this; omega⟩
    obtain ⟨r, hsl, hss⟩ := list_of hel
    subst hsl
    refine ⟨some a, r, cap0, rfl, hl, by unfold maxLen at hm; omega, fun hne => ?_, fun x hx => ?_⟩
    · have h0 : 0 < r.length := List.length_pos_iff.2 hne
      obtain ⟨⟨b, off, rfl, hlt, _⟩, _⟩ := hss 0 r[0] (List.getElem?_eq_getElem h0)
      refine ⟨b, off, rfl, hlt, fun j s hj => ?_⟩
      obtain ⟨⟨b', off', e, _, h1⟩, _⟩ := hss j s hj
      simp only [Addr.mk.injEq] at e
      obtain ⟨rfl, rfl, _⟩ := e
      exact h1
    · obtain ⟨j, hj⟩ := List.mem_iff_getElem?.1 hx
      exact (hss j x hj).2
end
end Go.Proofs.Ytkedcnemldjbeaa
