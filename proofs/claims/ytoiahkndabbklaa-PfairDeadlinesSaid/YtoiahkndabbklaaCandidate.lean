/- The walks over the law's candidate and plain. Conditions: none. -/
import Derived.Test.YtoiahkndabbklaaBefore
import Derived.Outline
namespace Go.Proofs.Ytoiahkndabbklaa
open Go.RowKit

def candP (n c p r i : Int) : Prop := 1 ≤ c ∧ c ≤ p ∧ p ≤ 60 ∧ 1 ≤ i ∧ i ≤ c ∧ n ≤ 1099511627776 ∧ r ≤ 1099511627776 ∧ -1099511627776 ≤ n ∧ -1099511627776 ≤ r
theorem candP_E {n c p r i : Int} (h : candP n c p r i) : wE c p i = 0 := by
  obtain ⟨h1, h2, h3, h4, h5, _⟩ := h
  exact wE_ok (by simp [vtB]; omega) h4 h5

/-- law's plain. -/
theorem plain_any (n : Int) (nm : ByteArray) (c p r i : Int) (w : World) :
    Calls Try.prog 25 #[.agg #[.int .i64 n, .string nm, .int .i64 c, .int .i64 p, .int .i64 r, .int .i64 i]] w
      fun e w' => e = .returned (.agg #[.int .i64 n, .int .i64 c, .int .i64 p, .int .i64 r, .int .i64 i]) ∧ Below w.heap.size w w' := by
  go_enter Try.func25, Try.ntmps25
  go_wp2_with fail
  refine bodyPost_ret (v := .agg #[.int .i64 n, .int .i64 c, .int .i64 p, .int .i64 r, .int .i64 i]) (by simp [results, Try.results25, go_sem]) rfl ⟨rfl, ?_⟩
  exact ((Below.refl _ _).alloc (Nat.le_refl _) _).alloc (by simp) _

set_option maxRecDepth 100000 in
set_option maxHeartbeats 3200000 in
/-- law's candidate of a good candidate. -/
theorem cand_yes (n : Int) (nm : ByteArray) (c p r i : Int) (w : World) (h : candP n c p r i) :
    Calls Try.prog 23 #[.agg #[.int .i64 n, .string nm, .int .i64 c, .int .i64 p, .int .i64 r, .int .i64 i]] w
      fun e w' => e = .returned (.int .i64 1) ∧ Below w.heap.size w w' := by
  obtain ⟨h1, h2, h3, h4, h5, h6, h7, h8, h9⟩ := h
  have HV := Lib.hid (show vtB c p = true by simp [vtB]; omega)
  go_enter Try.func23, Try.ntmps23
  go_wp2_with fail
  refine (rvalid_any c p _).mono ?_
  rintro e w' ⟨rfl, rfl⟩
  rw [HV.out]
  go_wp2_with fail
  all_goals
    go_ret
    exact ⟨rfl, (Below.refl _ _).alloc (Nat.le_refl _) _⟩

set_option maxRecDepth 100000 in
set_option maxHeartbeats 6400000 in
/-- law's candidate of a bad candidate. -/
theorem cand_no (n : Int) (nm : ByteArray) (c p r i : Int) (w : World) (h : ¬ candP n c p r i) :
    Calls Try.prog 23 #[.agg #[.int .i64 n, .string nm, .int .i64 c, .int .i64 p, .int .i64 r, .int .i64 i]] w
      fun e w' => e = .returned (.int .i64 0) ∧ Below w.heap.size w w' := by
  cases hv : vtB c p
  · have HV := Lib.hid hv
    clear hv h
    go_enter Try.func23, Try.ntmps23
    go_wp2_with fail
    refine (rvalid_any c p _).mono ?_
    rintro e w' ⟨rfl, rfl⟩
    rw [HV.out]
    go_wp2_with fail
    go_ret
    exact ⟨rfl, (Below.refl _ _).alloc (Nat.le_refl _) _⟩
  · obtain ⟨v1, v2, v3⟩ := vtB_true hv
    have HV := Lib.hid hv
    have hq : 60 < p ∨ (p ≤ 60 ∧ i < 1) ∨ (p ≤ 60 ∧ 1 ≤ i ∧ c < i) ∨ (p ≤ 60 ∧ 1 ≤ i ∧ i ≤ c ∧ (1099511627776 < n ∨ (n ≤ 1099511627776 ∧ 1099511627776 < r))) ∨
        (p ≤ 60 ∧ 1 ≤ i ∧ i ≤ c ∧ n ≤ 1099511627776 ∧ r ≤ 1099511627776 ∧ (n < -1099511627776 ∨ (-1099511627776 ≤ n ∧ r < -1099511627776))) := by
      unfold candP at h; omega
    clear hv h
    rcases hq with h1 | ⟨h1, h2⟩ | ⟨h1, h2, h3⟩ | ⟨h1, h2, h3, h4 | ⟨h4, h5⟩⟩ | ⟨h1, h2, h3, h4, h5, h6 | ⟨h6, h7⟩⟩
    all_goals
      go_enter Try.func23, Try.ntmps23
      go_wp2_with fail
      refine (rvalid_any c p _).mono ?_
      rintro e w' ⟨rfl, rfl⟩
      rw [HV.out]
      go_wp2_with fail
      all_goals
        go_ret
        exact ⟨rfl, (Below.refl _ _).alloc (Nat.le_refl _) _⟩

end Go.Proofs.Ytoiahkndabbklaa
