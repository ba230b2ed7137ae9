/- The plain laws of the order, and the walks over PfairBefore. Conditions: none. -/
import Derived.Test.YtoiahkndabbklaaRBefore
namespace Go.Proofs.Ytoiahkndabbklaa
open Go.RowKit

theorem o01_bd (b : Bool) : 0 ≤ o01 b ∧ o01 b ≤ 1 := by cases b <;> simp [o01]
section
variable {n1 c1 p1 r1 i1 n2 c2 p2 r2 i2 n3 c3 p3 r3 i3 : Int}
theorem bf_irr : bfB n1 c1 p1 r1 i1 n1 c1 p1 r1 i1 = false := by
  unfold bfB; rw [decide_eq_false_iff_not]; unfold bfP; omega
theorem bf_tot (h : n1 ≠ n2) : (bfB n1 c1 p1 r1 i1 n2 c2 p2 r2 i2 == bfB n2 c2 p2 r2 i2 n1 c1 p1 r1 i1) = false := by
  have a := o01_bd (ovB c1 p1 i1)
  have b := o01_bd (ovB c2 p2 i2)
  have e : (bfP n1 c1 p1 r1 i1 n2 c2 p2 r2 i2 ∧ ¬ bfP n2 c2 p2 r2 i2 n1 c1 p1 r1 i1) ∨ (¬ bfP n1 c1 p1 r1 i1 n2 c2 p2 r2 i2 ∧ bfP n2 c2 p2 r2 i2 n1 c1 p1 r1 i1) := by
    unfold bfP; omega
  rcases e with ⟨e1, e2⟩ | ⟨e1, e2⟩ <;> simp [bfB, e1, e2]
theorem bf_trans (h1 : bfB n1 c1 p1 r1 i1 n2 c2 p2 r2 i2 = true) (h2 : bfB n2 c2 p2 r2 i2 n3 c3 p3 r3 i3 = true) : bfB n1 c1 p1 r1 i1 n3 c3 p3 r3 i3 = true := by
  have a := o01_bd (ovB c1 p1 i1)
  have b := o01_bd (ovB c2 p2 i2)
  have c := o01_bd (ovB c3 p3 i3)
  unfold bfB at h1 h2 ⊢
  rw [decide_eq_true_iff] at h1 h2 ⊢
  unfold bfP at h1 h2 ⊢
  omega
theorem bf_early (h : r1 + wD c1 p1 i1 < r2 + wD c2 p2 i2 ∨ (r1 + wD c1 p1 i1 = r2 + wD c2 p2 i2 ∧ ovB c1 p1 i1 = true ∧ ovB c2 p2 i2 = false)) :
    bfB n1 c1 p1 r1 i1 n2 c2 p2 r2 i2 = true ∧ bfB n2 c2 p2 r2 i2 n1 c1 p1 r1 i1 = false := by
  unfold bfB
  rw [decide_eq_true_iff, decide_eq_false_iff_not]
  unfold bfP
  rcases h with h | ⟨h1, h2, h3⟩
  · omega
  · rw [h2, h3]; simp only [o01]; simp; omega
end

set_option maxRecDepth 100000 in
set_option maxHeartbeats 3200000 in
theorem law_before_err (n1 : Int) (nm1 : ByteArray) (c1 p1 r1 i1 : Int) (n2 : Int) (nm2 : ByteArray) (c2 p2 r2 i2 : Int) (w : World) (hq : ¬ (wE c1 p1 i1 = 0 ∧ wE c2 p2 i2 = 0)) :
    Calls Try.prog 8 #[.agg #[.int .i64 n1, .string nm1, .int .i64 c1, .int .i64 p1, .int .i64 r1, .int .i64 i1], .agg #[.int .i64 n2, .string nm2, .int .i64 c2, .int .i64 p2, .int .i64 r2, .int .i64 i2]] w fun e w' => e = .returned (.bool true) ∧ Below w.heap.size w w' := by
  have hcs : vtB c1 p1 = false ∨ (vtB c1 p1 = true ∧ vtB c2 p2 = false) ∨ (vtB c1 p1 = true ∧ vtB c2 p2 = true ∧ (i1 < 1 ∨ (1 ≤ i1 ∧ c1 < i1) ∨ (1 ≤ i1 ∧ i1 ≤ c1 ∧ i2 < 1) ∨ (1 ≤ i1 ∧ i1 ≤ c1 ∧ 1 ≤ i2 ∧ c2 < i2))) := by
    rcases wE_cases c1 p1 i1 with ⟨_, h1⟩ | ⟨_, h1, h2⟩ | ⟨h0, h1, h2, h3⟩
    · exact .inl h1
    · cases h2' : vtB c2 p2
      · exact .inr (.inl ⟨h1, rfl⟩)
      · exact .inr (.inr ⟨h1, rfl, by omega⟩)
    · rcases wE_cases c2 p2 i2 with ⟨_, k1⟩ | ⟨_, k1, k2⟩ | ⟨k0, _⟩
      · exact .inr (.inl ⟨h1, k1⟩)
      · exact .inr (.inr ⟨h1, k1, by omega⟩)
      · exact absurd ⟨h0, k0⟩ hq
  have HQ := Lib.hid hq
  clear hq
  go_enter Try.func8, Try.ntmps8
  go_wp2_with fail
  refine (awake_any _).mono ?_
  rintro e w1 ⟨rfl, hb1⟩
  have hz1 : w.heap.size + 1 < w1.heap.size := by have := hb1.size; simp at this; omega
  have A1 := ((CandAt.new w n1 nm1 c1 p1 r1 i1 42).alloc (by simp) _).keep hb1 (by simp; omega)
  have A2 := (CandAt.new (w.alloc _) n2 nm2 c2 p2 r2 i2 42).keep hb1 (by simp)
  simp only [World.size_alloc] at A2
  have b1 : Below w.heap.size w w1 := (((Below.refl _ _).alloc (Nat.le_refl _) _).alloc (by simp) _).trans (hb1.mono (by simp; omega))
  clear hb1
  have X1 := Lib.hid A1
  have X2 := Lib.hid A2
  clear A1 A2
  obtain ⟨a10, a11, a12, a13, a14, a15⟩ := X1.out
  obtain ⟨a20, a21, a22, a23, a24, a25⟩ := X2.out
  have x0 : w.heap.size < w1.heap.size := by omega
  rcases hcs with hv | ⟨hv, hu⟩ | ⟨hv, hu, hi⟩
  · have HV := Lib.hid hv
    clear hv
    go_wp2_with fail
    refine (rvalid_any c1 p1 _).mono ?_
    rintro e w' ⟨rfl, rfl⟩
    rw [HV.out]
    go_wp2_with fail
    refine (before_err n1 nm1 c1 p1 r1 i1 n2 nm2 c2 p2 r2 i2 _ HQ.out).mono ?_
    rintro e w2 ⟨rfl, hb2⟩
    go_wp2_with fail
    go_ret
    exact ⟨rfl, b1.trans (hb2.mono (by omega))⟩
  · have HV := Lib.hid hv
    have HU := Lib.hid hu
    clear hv hu
    go_wp2_with fail
    refine (rvalid_any c1 p1 _).mono ?_
    rintro e w' ⟨rfl, rfl⟩
    rw [HV.out]
    go_wp2_with fail
    refine (rvalid_any c2 p2 _).mono ?_
    rintro e w' ⟨rfl, rfl⟩
    rw [HU.out]
    go_wp2_with fail
    refine (before_err n1 nm1 c1 p1 r1 i1 n2 nm2 c2 p2 r2 i2 _ HQ.out).mono ?_
    rintro e w2 ⟨rfl, hb2⟩
    go_wp2_with fail
    go_ret
    exact ⟨rfl, b1.trans (hb2.mono (by omega))⟩
  · have HV := Lib.hid hv
    have HU := Lib.hid hu
    clear hv hu
    rcases hi with h1 | ⟨h1, h2⟩ | ⟨h1, h2, h3⟩ | ⟨h1, h2, h3, h4⟩
    all_goals
      go_wp2_with fail
      refine (rvalid_any c1 p1 _).mono ?_
      rintro e w' ⟨rfl, rfl⟩
      rw [HV.out]
      go_wp2_with fail
      refine (rvalid_any c2 p2 _).mono ?_
      rintro e w' ⟨rfl, rfl⟩
      rw [HU.out]
      go_wp2_with fail
      refine (before_err n1 nm1 c1 p1 r1 i1 n2 nm2 c2 p2 r2 i2 _ HQ.out).mono ?_
      rintro e w2 ⟨rfl, hb2⟩
      go_wp2_with fail
      go_ret
      exact ⟨rfl, b1.trans (hb2.mono (by omega))⟩

set_option maxRecDepth 100000 in
set_option maxHeartbeats 6400000 in
theorem law_before_ok (n1 : Int) (nm1 : ByteArray) (c1 p1 r1 i1 : Int) (n2 : Int) (nm2 : ByteArray) (c2 p2 r2 i2 : Int) (w : World) (hE1 : wE c1 p1 i1 = 0) (hE2 : wE c2 p2 i2 = 0) :
    Calls Try.prog 8 #[.agg #[.int .i64 n1, .string nm1, .int .i64 c1, .int .i64 p1, .int .i64 r1, .int .i64 i1], .agg #[.int .i64 n2, .string nm2, .int .i64 c2, .int .i64 p2, .int .i64 r2, .int .i64 i2]] w fun e w' => e = .returned (.bool true) ∧ Below w.heap.size w w' := by
  have E1 := wE0 hE1
  have E2 := wE0 hE2
  have HV := Lib.hid (show vtB c1 p1 = true by simp [vtB]; omega)
  have HU := Lib.hid (show vtB c2 p2 = true by simp [vtB]; omega)
  obtain ⟨_, _, _, j1, j2⟩ := E1
  obtain ⟨_, _, _, j3, j4⟩ := E2
  have H1 := Lib.hid hE1
  have H2 := Lib.hid hE2
  clear hE1 hE2
  go_enter Try.func8, Try.ntmps8
  go_wp2_with fail
  refine (awake_any _).mono ?_
  rintro e w1 ⟨rfl, hb1⟩
  have hz1 : w.heap.size + 1 < w1.heap.size := by have := hb1.size; simp at this; omega
  have A1 := ((CandAt.new w n1 nm1 c1 p1 r1 i1 42).alloc (by simp) _).keep hb1 (by simp; omega)
  have A2 := (CandAt.new (w.alloc _) n2 nm2 c2 p2 r2 i2 42).keep hb1 (by simp)
  simp only [World.size_alloc] at A2
  have b1 : Below w.heap.size w w1 := (((Below.refl _ _).alloc (Nat.le_refl _) _).alloc (by simp) _).trans (hb1.mono (by simp; omega))
  clear hb1
  have X1 := Lib.hid A1
  have X2 := Lib.hid A2
  clear A1 A2
  obtain ⟨a10, a11, a12, a13, a14, a15⟩ := X1.out
  obtain ⟨a20, a21, a22, a23, a24, a25⟩ := X2.out
  have x0 : w.heap.size < w1.heap.size := by omega
  go_wp2_with fail
  refine (rvalid_any c1 p1 _).mono ?_
  rintro e w' ⟨rfl, rfl⟩
  rw [HV.out]
  go_wp2_with fail
  refine (rvalid_any c2 p2 _).mono ?_
  rintro e w' ⟨rfl, rfl⟩
  rw [HU.out]
  go_wp2_with fail
  by_cases hc1 : candP n1 c1 p1 r1 i1
  · by_cases hc2 : candP n2 c2 p2 r2 i2
    · have q := hc1
      have q' := hc2
      unfold candP at q q'
      obtain ⟨_, _, _, _, _, _, u2, _, u1⟩ := q
      obtain ⟨_, _, _, _, _, _, u4, _, u3⟩ := q'
      have hbb : (bfB n1 c1 p1 r1 i1 n2 c2 p2 r2 i2 == bfB n1 c1 p1 r1 i1 n2 c2 p2 r2 i2) = true := by simp
      refine (cand_yes n1 nm1 c1 p1 r1 i1 _ hc1).mono ?_
      clear hc1
      rintro e w2 ⟨rfl, hb2⟩
      clear a10 a11 a12 a13 a14 a15 a20 a21 a22 a23 a24 a25
      have s2 := hb2.size
      have X1 := Lib.hid (X1.out.keep hb2 (by omega))
      have X2 := Lib.hid (X2.out.keep hb2 (by omega))
      have b2 := b1.trans (hb2.mono (by omega))
      clear b1 hb2
      have y2 : w.heap.size < w2.heap.size := by omega
      have z2 : w.heap.size + 1 < w2.heap.size := by omega
      obtain ⟨a10, a11, a12, a13, a14, a15⟩ := X1.out
      obtain ⟨a20, a21, a22, a23, a24, a25⟩ := X2.out
      have C2 := Lib.hid hc2
      clear hc2
      go_wp2_with fail
      refine (cand_yes n2 nm2 c2 p2 r2 i2 _ C2.out).mono ?_
      rintro e w3 ⟨rfl, hb3⟩
      clear a10 a11 a12 a13 a14 a15 a20 a21 a22 a23 a24 a25
      have s3 := hb3.size
      have X1 := Lib.hid (X1.out.keep hb3 (by omega))
      have X2 := Lib.hid (X2.out.keep hb3 (by omega))
      have b3 := b2.trans (hb3.mono (by omega))
      clear b2 hb3
      have y3 : w.heap.size < w3.heap.size := by omega
      have z3 : w.heap.size + 1 < w3.heap.size := by omega
      obtain ⟨a10, a11, a12, a13, a14, a15⟩ := X1.out
      obtain ⟨a20, a21, a22, a23, a24, a25⟩ := X2.out
      go_wp2_with fail
      refine wp_region_quiet (C := fun W => Below w3.heap.size w3 W) (by kernel_rfl) (by kernel_rfl) (Below.refl _ _).drew ?_
      repeat (
        refine wpQuiet_step (fun K hK => ?_)
        go_simp
        first
          | (refine hK _ ?_; clear hK K)
          | (apply Exists.intro
             refine ⟨fun W q0 => ?_, hK _ ?_⟩
             (first
               | rfl
               | (have qc := (bcell q0).1; go_simp; rfl)
               | (go_at_call 22; ((with_reducible refine (before_ok n1 nm1 c1 p1 r1 i1 n2 nm2 c2 p2 r2 i2 _ H1.out H2.out u1 u2 u3 u4).mono ?_)); rintro e w5 ⟨rfl, hb5⟩; exact ⟨rfl, q0.trans (hb5.mono q0.size)⟩)
               | (go_at_call 25; ((with_reducible refine (plain_any n1 nm1 c1 p1 r1 i1 _).mono ?_)); rintro e w5 ⟨rfl, hb5⟩; exact ⟨rfl, q0.trans (hb5.mono q0.size)⟩)
               | (go_at_call 25; ((with_reducible refine (plain_any n2 nm2 c2 p2 r2 i2 _).mono ?_)); rintro e w5 ⟨rfl, hb5⟩; exact ⟨rfl, q0.trans (hb5.mono q0.size)⟩)
               | (go_at_call 24; ((with_reducible refine (rbefore_ok n1 c1 p1 r1 i1 n2 c2 p2 r2 i2 _ H1.out H2.out u1 u2 u3 u4).mono ?_)); rintro e w5 ⟨rfl, hb5⟩; exact ⟨rfl, q0.trans (hb5.mono q0.size)⟩))
             clear hK K))
      refine wpQuiet_nil ?_
      intro w4 hb4
      go_wp2_with fail
      go_ret
      exact ⟨rfl, b3.trans (hb4.mono (by omega))⟩
    · refine (cand_yes n1 nm1 c1 p1 r1 i1 _ hc1).mono ?_
      clear hc1
      rintro e w2 ⟨rfl, hb2⟩
      clear a10 a11 a12 a13 a14 a15 a20 a21 a22 a23 a24 a25
      have s2 := hb2.size
      have X1 := Lib.hid (X1.out.keep hb2 (by omega))
      have X2 := Lib.hid (X2.out.keep hb2 (by omega))
      have b2 := b1.trans (hb2.mono (by omega))
      clear b1 hb2
      have y2 : w.heap.size < w2.heap.size := by omega
      have z2 : w.heap.size + 1 < w2.heap.size := by omega
      obtain ⟨a10, a11, a12, a13, a14, a15⟩ := X1.out
      obtain ⟨a20, a21, a22, a23, a24, a25⟩ := X2.out
      have C2 := Lib.hid hc2
      clear hc2
      go_wp2_with fail
      refine (cand_no n2 nm2 c2 p2 r2 i2 _ C2.out).mono ?_
      rintro e w3 ⟨rfl, hb3⟩
      go_wp2_with fail
      go_ret
      exact ⟨rfl, b2.trans (hb3.mono (by omega))⟩
  · refine (cand_no n1 nm1 c1 p1 r1 i1 _ hc1).mono ?_
    clear hc1
    rintro e w2 ⟨rfl, hb2⟩
    go_wp2_with fail
    go_ret
    exact ⟨rfl, b1.trans (hb2.mono (by omega))⟩

theorem law_before (n1 : Int) (nm1 : ByteArray) (c1 p1 r1 i1 : Int) (n2 : Int) (nm2 : ByteArray) (c2 p2 r2 i2 : Int) (w : World) :
    Calls Try.prog 8 #[.agg #[.int .i64 n1, .string nm1, .int .i64 c1, .int .i64 p1, .int .i64 r1, .int .i64 i1], .agg #[.int .i64 n2, .string nm2, .int .i64 c2, .int .i64 p2, .int .i64 r2, .int .i64 i2]] w fun e w' => e = .returned (.bool true) ∧ Below w.heap.size w w' := by
  by_cases h : wE c1 p1 i1 = 0 ∧ wE c2 p2 i2 = 0
  · exact law_before_ok n1 nm1 c1 p1 r1 i1 n2 nm2 c2 p2 r2 i2 w h.1 h.2
  · exact law_before_err n1 nm1 c1 p1 r1 i1 n2 nm2 c2 p2 r2 i2 w h
end Go.Proofs.Ytoiahkndabbklaa
