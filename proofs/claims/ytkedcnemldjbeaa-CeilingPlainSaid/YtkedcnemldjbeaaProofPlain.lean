/- CeilingPlain returns true for every input. Conditions: none. -/
import Derived.Test.YtkedcnemldjbeaaOpenR
import Derived.Test.YtkedcnemldjbeaaLawPlain
import Derived.SizedLaws
import Derived.Deep.Slices
namespace Go.Proofs.Ytkedcnemldjbeaa
open Go.ChangeShapes Go.WideShapes Go.ChangeAt Go.RowKit Go.Joins

theorem len_of_trod {H : Type} {enc : TypeId × Value → H} {W : World} {base : Nat} {spare : Nat → Bool} {held : Bool} {T E : TypeId} {a : Option Addr} {n cap : Nat} {d : DataW H} {p : List MemPlace} (ht : Try.prog.underlying T = some (.slice E)) (h : DataW.Trod enc Try.prog W base spare held T (.slice a n cap) d p) :
    n = 0 ∨ ∃ elems sp, d = .slice elems sp ∧ elems.length = n := by
  obtain ⟨fuel, hf⟩ := h
  rcases Go.Deep.open_slice ht hf with ⟨e, _⟩ | ⟨a, len, cap, m, k, D, Pl, e, hb, hl, hm, hmm, hx, hi⟩
  · simp [Value.cells] at e
    exact .inl e.2.1
  · simp [Value.cells] at e
    simp only [Prod.mk.injEq] at hx
    exact .inr ⟨_, _, hx.1, by simp [e.2.1]⟩
theorem bytes_task : Try.prog.bytesOf 30 = 48 := by kernel_rfl

set_option maxRecDepth 100000 in
theorem plain43_lifted (os : Os) (started : os.Started) (H : Type) (enc : TypeId × Value → H) :
    ReturnsInHanded {} Try.checked os 13 .any (Rows.ceilingPlainSpec.pre6 enc Try.prog Try.f13 Rows.ceilingPlainRow.domain false) (Rows.ceilingPlainSpec.post enc Try.prog Try.f13 false true false false) := by
  refine returnsInHanded_of_change_sized (C := Try.checked) Try.own started (by kernel_rfl) Try.func13
    (ChangeSpec.witness6 (enc := enc) (C := Try.checked) false ⟨#[], #[.slice none 0 0, .slice none 0 0, .int .i64 0, .int .u8 0], []⟩ 8 (by kernel_rfl) (by kernel_rfl) (by kernel_rfl) (by kernel_rfl)) ?_
  intro W base args ds gs before hval hW _ hsz _
  have hW' := hW
  obtain ⟨p, q, hA0, hV, rfl, hfz, hnd⟩ := hW
  have hA : DataW.TrodAll enc Try.prog W 0 (fun _ => true) true Try.f13.params.toList args.toList ds p := hA0
  rw [Try.params13] at hA
  obtain ⟨args⟩ := args
  simp only [] at hA
  obtain ⟨v0, vs0, d0, ds0, p0, q0, rfl, rfl, rfl, h0, hA0⟩ := trodAll_cons hA
  obtain ⟨v1, vs1, d1, ds1, p1, q1, rfl, rfl, rfl, h1, hA1⟩ := trodAll_cons hA0
  obtain ⟨v2, vs2, d2, ds2, p2, q2, rfl, rfl, rfl, h2, hA2⟩ := trodAll_cons hA1
  obtain ⟨v3, vs3, d3, ds3, p3, q3, rfl, rfl, rfl, h3, hA3⟩ := trodAll_cons hA2
  obtain ⟨rfl, rfl, rfl⟩ := trodAll_nil hA3
  obtain ⟨rfl, rfl⟩ := trodVars_none hV
  obtain ⟨a0, l0, cap0, rfl, q10, q20, q30⟩ := open_tasks (hval 0 _ v0 rfl rfl) h0
  obtain ⟨a1, l1, cap1, rfl, q11, q21, q31, q41⟩ := open_rows (hval 1 _ v1 rfl rfl) h1
  obtain ⟨i2, rfl, rfl, rfl, w2⟩ := open_int Try.underlying3 (hval 2 _ v2 rfl rfl) h2
  obtain ⟨i3, rfl, rfl, rfl, w3⟩ := open_int Try.underlying5 (hval 3 _ v3 rfl rfl) h3
  obtain ⟨x3, y3⟩ := bounds_u8 w3
  have hbig : l0.length ≤ 2932031007317 := by
    rcases len_of_trod Try.underlying22 h0 with e | ⟨el, sp, rfl, e⟩
    · omega
    · have := sized_slice hsz (j := 0) (t := 22) (e := 30) rfl rfl Try.underlying22
      rw [show Try.checked.prog.bytesOf 30 = 48 from bytes_task] at this
      simp only [reachBytes] at this
      omega
  refine (law_plain l0 a0 cap0 l1 a1 cap1 i2 i3 W hbig q10 q20 q30 q11 q21 q31 q41 x3 y3).mono fun e W' ⟨he, hb⟩ => ⟨_, he, ?_⟩
  exact law_post Try.laidOut (by kernel_rfl) rfl Try.underlying4 rfl rfl hW' hb

/-- CeilingPlain returns true for every input. -/
theorem plain43_holds : Rows.CeilingPlainSaid :=
  OpenClaim.holds_of_wide 13 Try.f13 rfl rfl rfl rfl rfl rfl rfl ⟨rfl, rfl, rfl, rfl, rfl⟩ rfl rfl rfl rfl rfl (by kernel_rfl) Try.func13 (by kernel_rfl)
    (of_decide_eq_true (by kernel_rfl)) (by unfold Func.isWrapper; first | (rw [if_pos (by decide +kernel)]; kernel_rfl) | (rw [if_neg (by decide +kernel)]; exact ⟨rfl, rfl⟩))
    (fun os started H enc _ => plain43_lifted os started H enc)
end Go.Proofs.Ytkedcnemldjbeaa
