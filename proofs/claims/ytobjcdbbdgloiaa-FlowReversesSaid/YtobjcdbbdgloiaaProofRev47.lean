/- FlowReverses returns true for every input. Conditions: none. -/
import Derived.Test.YtobjcdbbdgloiaaOpenF
import Derived.Test.YtobjcdbbdgloiaaLawRev
namespace Go.Proofs.Ytobjcdbbdgloiaa
open Go.ChangeShapes Go.WideShapes Go.ChangeAt Go.RowKit Go.Joins

set_option maxRecDepth 100000 in
theorem rev47_lifted (os : Os) (started : os.Started) (H : Type) (enc : TypeId × Value → H) :
    ReturnsInHanded {} Try.checked os 5 .any (Rows.flowReversesSpec.pre6 enc Try.prog Try.f5 Rows.flowReversesRow.domain false) (Rows.flowReversesSpec.post enc Try.prog Try.f5 false true false false) := by
  refine returnsInHanded_of_change (C := Try.checked) Try.own started (by kernel_rfl) Try.func5
    (ChangeSpec.witness6 (enc := enc) (C := Try.checked) false ⟨#[], #[.slice none 0 0, .int .u8 0, .int .u8 0, .int .u8 0, .int .u8 0, .int .u8 0], []⟩ 8 (by kernel_rfl) (by kernel_rfl) (by kernel_rfl) (by kernel_rfl)) ?_
  intro W base args ds gs before hval hW _ _
  have hW' := hW
  obtain ⟨p, q, hA0, hV, rfl, hfz, hnd⟩ := hW
  have hA : DataW.TrodAll enc Try.prog W 0 (fun _ => true) true Try.f5.params.toList args.toList ds p := hA0
  rw [Try.params5] at hA
  obtain ⟨args⟩ := args
  simp only [] at hA
  obtain ⟨v0, vs0, d0, ds0, p0, q0, rfl, rfl, rfl, h0, hA0⟩ := trodAll_cons hA
  obtain ⟨v1, vs1, d1, ds1, p1, q1, rfl, rfl, rfl, h1, hA1⟩ := trodAll_cons hA0
  obtain ⟨v2, vs2, d2, ds2, p2, q2, rfl, rfl, rfl, h2, hA2⟩ := trodAll_cons hA1
  obtain ⟨v3, vs3, d3, ds3, p3, q3, rfl, rfl, rfl, h3, hA3⟩ := trodAll_cons hA2
  obtain ⟨v4, vs4, d4, ds4, p4, q4, rfl, rfl, rfl, h4, hA4⟩ := trodAll_cons hA3
  obtain ⟨v5, vs5, d5, ds5, p5, q5, rfl, rfl, rfl, h5, hA5⟩ := trodAll_cons hA4
  obtain ⟨rfl, rfl, rfl⟩ := trodAll_nil hA5
  obtain ⟨rfl, rfl⟩ := trodVars_none hV
  obtain ⟨a0, l0, cap0, rfl, q10, q20, q30, q40⟩ := open_rows (hval 0 _ v0 rfl rfl) h0
  obtain ⟨i1, rfl, rfl, rfl, w1⟩ := open_int Try.underlying5 (hval 1 _ v1 rfl rfl) h1
  obtain ⟨x1, y1⟩ := bounds_u8 w1
  obtain ⟨i2, rfl, rfl, rfl, w2⟩ := open_int Try.underlying5 (hval 2 _ v2 rfl rfl) h2
  obtain ⟨x2, y2⟩ := bounds_u8 w2
  obtain ⟨i3, rfl, rfl, rfl, w3⟩ := open_int Try.underlying5 (hval 3 _ v3 rfl rfl) h3
  obtain ⟨x3, y3⟩ := bounds_u8 w3
  obtain ⟨i4, rfl, rfl, rfl, w4⟩ := open_int Try.underlying5 (hval 4 _ v4 rfl rfl) h4
  obtain ⟨x4, y4⟩ := bounds_u8 w4
  obtain ⟨i5, rfl, rfl, rfl, w5⟩ := open_int Try.underlying5 (hval 5 _ v5 rfl rfl) h5
  obtain ⟨x5, y5⟩ := bounds_u8 w5
  refine (law_rev l0 a0 cap0 i1 i2 i3 i4 i5 W q10 q20 q30 q40 x1 y1 x2 y2 x3 y3 x4 y4 x5 y5).mono fun e W' ⟨he, hb⟩ => ⟨_, he, ?_⟩
  exact law_post Try.laidOut (by kernel_rfl) rfl Try.underlying4 rfl rfl hW' hb

/-- FlowReverses returns true for every input. -/
theorem rev47_holds : Rows.FlowReversesSaid :=
  OpenClaim.holds_of_wide 5 Try.f5 rfl rfl rfl rfl rfl rfl rfl ⟨rfl, rfl, rfl, rfl, rfl⟩ rfl rfl rfl rfl rfl (by kernel_rfl) Try.func5 (by kernel_rfl)
    (of_decide_eq_true (by kernel_rfl)) (by unfold Func.isWrapper; first | (rw [if_pos (by decide +kernel)]; kernel_rfl) | (rw [if_neg (by decide +kernel)]; exact ⟨rfl, rfl⟩))
    (fun os started H enc _ => rev47_lifted os started H enc)
end Go.Proofs.Ytobjcdbbdgloiaa
