/- WholeRefused returns true for every input. Conditions: none. -/
import Derived.Test.YtfoadipocpopiaaGreatM04
import Derived.Test.YtfoadipocpopiaaGreatLawWhole
namespace Go.Proofs.YtfoadipocpopiaaGreat
open Go.ChangeShapes Go.WideShapes Go.ChangeAt Go.RowKit Go.Joins

set_option maxRecDepth 100000 in
theorem whole_lifted (os : Os) (started : os.Started) (H : Type) (enc : TypeId × Value → H) :
    ReturnsInHanded {} Tryz.checked os 3 .any (Rows.wholeRefusedSpec.pre6 enc Tryz.prog Tryz.f3 Rows.wholeRefusedRow.domain false) (Rows.wholeRefusedSpec.post enc Tryz.prog Tryz.f3 false true false false) := by
  refine returnsInHanded_of_change (C := Tryz.checked) Tryz.own started (by kernel_rfl) Tryz.func3
    (ChangeSpec.witness6 (enc := enc) (C := Tryz.checked) false ⟨#[], #[.slice none 0 0, .int .i64 0], []⟩ 8 (by kernel_rfl) (by kernel_rfl) (by kernel_rfl) (by kernel_rfl)) ?_
  intro W base args ds gs before hval hW _ _
  have hW' := hW
  obtain ⟨p, q, hA0, hV, rfl, hfz, hnd⟩ := hW
  have hA : DataW.TrodAll enc Tryz.prog W 0 (fun _ => true) true Tryz.f3.params.toList args.toList ds p := hA0
  rw [Tryz.params3] at hA
  obtain ⟨args⟩ := args
  simp only [] at hA
  obtain ⟨v0, vs0, d0, ds0, p0, q0, rfl, rfl, rfl, h0, hA0⟩ := trodAll_cons hA
  obtain ⟨v1, vs1, d1, ds1, p1, q1, rfl, rfl, rfl, h1, hA1⟩ := trodAll_cons hA0
  obtain ⟨rfl, rfl, rfl⟩ := trodAll_nil hA1
  obtain ⟨rfl, rfl⟩ := trodVars_none hV
  obtain ⟨a0, l0, cap0, rfl, q10, q20, q30, q40⟩ := open_ts (hval 0 _ v0 rfl rfl) h0
  obtain ⟨i1, rfl, rfl, rfl, w1⟩ := open_int Tryz.underlying3 (hval 1 _ v1 rfl rfl) h1
  refine (law_whole l0 a0 cap0 i1 W q10 q20 q30 (bounds_i64 w1)).mono fun e W' ⟨he, hb⟩ => ⟨_, he, ?_⟩
  exact law_post Tryz.laidOut (by kernel_rfl) rfl Tryz.underlying4 rfl rfl hW' hb

/-- WholeRefused returns true for every input. -/
theorem whole_holds : Rows.WholeRefusedSaid :=
  OpenClaim.holds_of_wide 3 Tryz.f3 rfl rfl rfl rfl rfl rfl rfl ⟨rfl, rfl, rfl, rfl, rfl⟩ rfl rfl rfl rfl rfl (by kernel_rfl) Tryz.func3 (by kernel_rfl)
    (of_decide_eq_true (by kernel_rfl)) (by unfold Func.isWrapper; first | (rw [if_pos (by decide +kernel)]; kernel_rfl) | (rw [if_neg (by decide +kernel)]; exact ⟨rfl, rfl⟩))
    (fun os started H enc _ => whole_lifted os started H enc)
end Go.Proofs.YtfoadipocpopiaaGreat
