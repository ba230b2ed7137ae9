/- PfairDeadlines returns true for every input. Conditions: none. -/
import Derived.Test.YtoiahkndabbklaaProofWindow
import Derived.Test.YtoiahkndabbklaaLawDead
import Derived.Test.YtoiahkndabbklaaOpenCand
namespace Go.Proofs.Ytoiahkndabbklaa
open Go.ChangeShapes Go.WideShapes Go.ChangeAt Go.RowKit Go.Joins

set_option maxRecDepth 100000 in
theorem dead_lifted (os : Os) (started : os.Started) (H : Type) (enc : TypeId × Value → H) :
    ReturnsInHanded {} Try.checked os 10 .any (Rows.pfairDeadlinesSpec.pre6 enc Try.prog Try.f10 Rows.pfairDeadlinesRow.domain false) (Rows.pfairDeadlinesSpec.post enc Try.prog Try.f10 false true false false) := by
  refine returnsInHanded_of_change (C := Try.checked) Try.own started (by kernel_rfl) Try.func10
    (ChangeSpec.witness6 (enc := enc) (C := Try.checked) false ⟨#[], #[.agg #[.int .i64 0, .string ByteArray.empty, .int .i64 0, .int .i64 0, .int .i64 0, .int .i64 0], .agg #[.int .i64 0, .string ByteArray.empty, .int .i64 0, .int .i64 0, .int .i64 0, .int .i64 0]], []⟩ 8 (by kernel_rfl) (by kernel_rfl) (by kernel_rfl) (by kernel_rfl)) ?_
  intro W base args ds gs before hval hW _ _
  have hW' := hW
  obtain ⟨p, q, hA0, hV, rfl, hfz, hnd⟩ := hW
  have hA : DataW.TrodAll enc Try.prog W 0 (fun _ => true) true Try.f10.params.toList args.toList ds p := hA0
  rw [Try.params10] at hA
  obtain ⟨v0, v1, d0, d1, p0, p1, rfl, rfl, rfl, h0, h1⟩ := trodAll_two hA
  obtain ⟨rfl, rfl⟩ := trodVars_none hV
  obtain ⟨n0, nm0, c0, q0, r0, i0, rfl⟩ := open_cand (hval 0 _ v0 rfl rfl) h0
  obtain ⟨n1, nm1, c1, q1, r1, i1, rfl⟩ := open_cand (hval 1 _ v1 rfl rfl) h1
  refine (law_dead n0 nm0 c0 q0 r0 i0 n1 nm1 c1 q1 r1 i1 W).mono fun e W' ⟨he, hb⟩ => ⟨_, he, ?_⟩
  exact law_post Try.laidOut (by kernel_rfl) rfl Try.underlying4 rfl rfl hW' hb

/-- PfairDeadlines returns true for every input. -/
theorem dead_holds : Rows.PfairDeadlinesSaid :=
  OpenClaim.holds_of_wide 10 Try.f10 rfl rfl rfl rfl rfl rfl rfl ⟨rfl, rfl, rfl, rfl, rfl⟩ rfl rfl rfl rfl rfl (by kernel_rfl) Try.func10 (by kernel_rfl)
    (of_decide_eq_true (by kernel_rfl)) (by unfold Func.isWrapper; first | (rw [if_pos (by decide +kernel)]; kernel_rfl) | (rw [if_neg (by decide +kernel)]; exact ⟨rfl, rfl⟩))
    (fun os started H enc _ => dead_lifted os started H enc)
end Go.Proofs.Ytoiahkndabbklaa
