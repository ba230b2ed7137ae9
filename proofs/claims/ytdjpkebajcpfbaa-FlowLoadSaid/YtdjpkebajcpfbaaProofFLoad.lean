/- FlowLoad returns true for every input. Conditions: none. -/
import Derived.Test.YtdjpkebajcpfbaaM06
import Derived.Test.YtdjpkebajcpfbaaLawFLoad
namespace Go.Proofs.Ytdjpkebajcpfbaa
open Go.ChangeShapes Go.WideShapes Go.ChangeAt Go.RowKit Go.Joins

set_option maxRecDepth 100000 in
theorem fload_lifted (os : Os) (started : os.Started) (H : Type) (enc : TypeId × Value → H) :
    ReturnsInHanded {} Try.checked os 11 .any (Rows.flowLoadSpec.pre6 enc Try.prog Try.f11 Rows.flowLoadRow.domain false) (Rows.flowLoadSpec.post enc Try.prog Try.f11 false true false false) := by
  refine returnsInHanded_of_change (C := Try.checked) Try.own started (by kernel_rfl) Try.func11
    (ChangeSpec.witness6 (enc := enc) (C := Try.checked) false ⟨#[], #[.slice none 0 0, .int .i64 0], []⟩ 8 (by kernel_rfl) (by kernel_rfl) (by kernel_rfl) (by kernel_rfl)) ?_
  intro W base args ds gs before hval hW _ _
  have hW' := hW
  obtain ⟨p, q, hA0, hV, rfl, hfz, hnd⟩ := hW
  have hA : DataW.TrodAll enc Try.prog W 0 (fun _ => true) true Try.f11.params.toList args.toList ds p := hA0
  rw [Try.params11] at hA
  obtain ⟨args⟩ := args
  simp only [] at hA
  obtain ⟨v0, vs0, d0, ds0, p0, q0, rfl, rfl, rfl, h0, hA0⟩ := trodAll_cons hA
  obtain ⟨v1, vs1, d1, ds1, p1, q1, rfl, rfl, rfl, h1, hA1⟩ := trodAll_cons hA0
  obtain ⟨rfl, rfl, rfl⟩ := trodAll_nil hA1
  obtain ⟨rfl, rfl⟩ := trodVars_none hV
  obtain ⟨a0, l0, cap0, rfl, q10, q20, q30, q40⟩ := open_ts (hval 0 _ v0 rfl rfl) h0
  obtain ⟨i1, rfl, rfl, rfl, w1⟩ := open_int Try.underlying3 (hval 1 _ v1 rfl rfl) h1
  refine (law_fload l0 a0 cap0 i1 W q10 q20 q30 (bounds_i64 w1)).mono fun e W' ⟨he, hb⟩ => ⟨_, he, ?_⟩
  exact law_post Try.laidOut (by kernel_rfl) rfl Try.underlying4 rfl rfl hW' hb

/-- FlowLoad returns true for every input. -/
theorem fload_holds : Rows.FlowLoadSaid :=
  OpenClaim.holds_of_wide 11 Try.f11 rfl rfl rfl rfl rfl rfl rfl ⟨rfl, rfl, rfl, rfl, rfl⟩ rfl rfl rfl rfl rfl (by kernel_rfl) Try.func11 (by kernel_rfl)
    (of_decide_eq_true (by kernel_rfl)) (by unfold Func.isWrapper; first | (rw [if_pos (by decide +kernel)]; kernel_rfl) | (rw [if_neg (by decide +kernel)]; exact ⟨rfl, rfl⟩))
    (fun os started H enc _ => fload_lifted os started H enc)
end Go.Proofs.Ytdjpkebajcpfbaa
