/- The walk over PfairDeadlines. Conditions: none. -/
import Derived.Test.YtoiahkndabbklaaLawBefore
namespace Go.Proofs.Ytoiahkndabbklaa
open Go.RowKit

set_option maxRecDepth 100000 in
set_option maxHeartbeats 6400000 in
theorem law_dead_no1 (n1 : Int) (nm1 : ByteArray) (c1 p1 r1 i1 : Int) (n2 : Int) (nm2 : ByteArray) (c2 p2 r2 i2 : Int) (w : World) (hc1 : ¬ candP n1 c1 p1 r1 i1) :
    Calls Try.prog 10 #[.agg #[.int .i64 n1, .string nm1, .int .i64 c1, .int .i64 p1, .int .i64 r1, .int .i64 i1], .agg #[.int .i64 n2, .string nm2, .int .i64 c2, .int .i64 p2, .int .i64 r2, .int .i64 i2]] w fun e w' => e = .returned (.bool true) ∧ Below w.heap.size w w' := by
  go_enter Try.func10, Try.ntmps10
  go_wp2_with fail
  refine (awake_any _).mono ?_
  rintro e w1 ⟨rfl, hb1⟩
  have hz1 : w.heap.size + 1 < w1.heap.size := by have := hb1.size; simp at this; omega
  have A1 := ((CandAt.new w n1 nm1 c1 p1 r1 i1 42).alloc (by simp) _).keep hb1 (by simp; omega)
  have A2 := (CandAt.new (w.alloc _) n2 nm2 c2 p2 r2 i2 42).keep hb1 (by simp)
  simp only [World.size_alloc] at A2
  have b1 : Below w.heap.size w w1 := (((Below.refl _ _).alloc (Nat.le_refl _) _).alloc (by simp) _).trans (hb1.mono (by simp; omega))
  clear hb1
  have X1 := Lib.hid A1
  have X2 := Lib.hid A2
  clear A1 A2
  obtain ⟨a10, a11, a12, a13, a14, a15⟩ := X1.out
  obtain ⟨a20, a21, a22, a23, a24, a25⟩ := X2.out
  have x0 : w.heap.size < w1.heap.size := by omega
  have C1 := Lib.hid hc1
  clear hc1
  go_wp2_with fail
  refine (cand_no n1 nm1 c1 p1 r1 i1 _ C1.out).mono ?_
  rintro e w2 ⟨rfl, hb2⟩
  go_wp2_with fail
  go_ret
  exact ⟨rfl, b1.trans (hb2.mono (by omega))⟩

set_option maxRecDepth 100000 in
set_option maxHeartbeats 6400000 in
theorem law_dead_no2 (n1 : Int) (nm1 : ByteArray) (c1 p1 r1 i1 : Int) (n2 : Int) (nm2 : ByteArray) (c2 p2 r2 i2 : Int) (w : World) (hc1 : candP n1 c1 p1 r1 i1) (hc2 : ¬ candP n2 c2 p2 r2 i2) :
    Calls Try.prog 10 #[.agg #[.int .i64 n1, .string nm1, .int .i64 c1, .int .i64 p1, .int .i64 r1, .int .i64 i1], .agg #[.int .i64 n2, .string nm2, .int .i64 c2, .int .i64 p2, .int .i64 r2, .int .i64 i2]] w fun e w' => e = .returned (.bool true) ∧ Below w.heap.size w w' := by
  go_enter Try.func10, Try.ntmps10
  go_wp2_with fail
  refine (awake_any _).mono ?_
  rintro e w1 ⟨rfl, hb1⟩
  have hz1 : w.heap.size + 1 < w1.heap.size := by have := hb1.size; simp at this; omega
  have A1 := ((CandAt.new w n1 nm1 c1 p1 r1 i1 42).alloc (by simp) _).keep hb1 (by simp; omega)
  have A2 := (CandAt.new (w.alloc _) n2 nm2 c2 p2 r2 i2 42).keep hb1 (by simp)
  simp only [World.size_alloc] at A2
  have b1 : Below w.heap.size w w1 := (((Below.refl _ _).alloc (Nat.le_refl _) _).alloc (by simp) _).trans (hb1.mono (by simp; omega))
  clear hb1
  have X1 := Lib.hid A1
  have X2 := Lib.hid A2
  clear A1 A2
  obtain ⟨a10, a11, a12, a13, a14, a15⟩ := X1.out
  obtain ⟨a20, a21, a22, a23, a24, a25⟩ := X2.out
  have x0 : w.heap.size < w1.heap.size := by omega
  have C1 := Lib.hid hc1
  clear hc1
  go_wp2_with fail
  refine (cand_yes n1 nm1 c1 p1 r1 i1 _ C1.out).mono ?_
  rintro e w2 ⟨rfl, hb2⟩
  clear a10 a11 a12 a13 a14 a15 a20 a21 a22 a23 a24 a25
  have s2 := hb2.size
  have X1 := Lib.hid (X1.out.keep hb2 (by omega))
  have X2 := Lib.hid (X2.out.keep hb2 (by omega))
  have b2 := b1.trans (hb2.mono (by omega))
  clear b1 hb2
  have y2 : w.heap.size < w2.heap.size := by omega
  have z2 : w.heap.size + 1 < w2.heap.size := by omega
  obtain ⟨a10, a11, a12, a13, a14, a15⟩ := X1.out
  obtain ⟨a20, a21, a22, a23, a24, a25⟩ := X2.out
  have C2 := Lib.hid hc2
  clear hc2
  go_wp2_with fail
  refine (cand_no n2 nm2 c2 p2 r2 i2 _ C2.out).mono ?_
  rintro e w3 ⟨rfl, hb3⟩
  go_wp2_with fail
  go_ret
  exact ⟨rfl, b2.trans (hb3.mono (by omega))⟩

set_option maxRecDepth 100000 in
set_option maxHeartbeats 6400000 in
theorem law_dead_ok (n1 : Int) (nm1 : ByteArray) (c1 p1 r1 i1 : Int) (n2 : Int) (nm2 : ByteArray) (c2 p2 r2 i2 : Int) (w : World) (hc1 : candP n1 c1 p1 r1 i1) (hc2 : candP n2 c2 p2 r2 i2) :
    Calls Try.prog 10 #[.agg #[.int .i64 n1, .string nm1, .int .i64 c1, .int .i64 p1, .int .i64 r1, .int .i64 i1], .agg #[.int .i64 n2, .string nm2, .int .i64 c2, .int .i64 p2, .int .i64 r2, .int .i64 i2]] w fun e w' => e = .returned (.bool true) ∧ Below w.heap.size w w' := by
  have H1 := Lib.hid (candP_E hc1)
  have Q1a : -1099511627776 ≤ r1 := by unfold candP at hc1; omega
  have Q1b : r1 ≤ 1099511627776 := by unfold candP at hc1; omega
  obtain ⟨d1a, d1b⟩ := wD_bd H1.out
  have P1 : p1 ≤ 1000 := (wE0 H1.out).2.2.1
  have H2 := Lib.hid (candP_E hc2)
  have Q2a : -1099511627776 ≤ r2 := by unfold candP at hc2; omega
  have Q2b : r2 ≤ 1099511627776 := by unfold candP at hc2; omega
  obtain ⟨d2a, d2b⟩ := wD_bd H2.out
  have P2 : p2 ≤ 1000 := (wE0 H2.out).2.2.1
  go_enter Try.func10, Try.ntmps10
  go_wp2_with fail
  refine (awake_any _).mono ?_
  rintro e w1 ⟨rfl, hb1⟩
  have hz1 : w.heap.size + 1 < w1.heap.size := by have := hb1.size; simp at this; omega
  have A1 := ((CandAt.new w n1 nm1 c1 p1 r1 i1 42).alloc (by simp) _).keep hb1 (by simp; omega)
  have A2 := (CandAt.new (w.alloc _) n2 nm2 c2 p2 r2 i2 42).keep hb1 (by simp)
  simp only [World.size_alloc] at A2
  have b1 : Below w.heap.size w w1 := (((Below.refl _ _).alloc (Nat.le_refl _) _).alloc (by simp) _).trans (hb1.mono (by simp; omega))
  clear hb1
  have X1 := Lib.hid A1
  have X2 := Lib.hid A2
  clear A1 A2
  obtain ⟨a10, a11, a12, a13, a14, a15⟩ := X1.out
  obtain ⟨a20, a21, a22, a23, a24, a25⟩ := X2.out
  have x0 : w.heap.size < w1.heap.size := by omega
  have C1 := Lib.hid hc1
  clear hc1
  go_wp2_with fail
  refine (cand_yes n1 nm1 c1 p1 r1 i1 _ C1.out).mono ?_
  rintro e w2 ⟨rfl, hb2⟩
  clear a10 a11 a12 a13 a14 a15 a20 a21 a22 a23 a24 a25
  have s2 := hb2.size
  have X1 := Lib.hid (X1.out.keep hb2 (by omega))
  have X2 := Lib.hid (X2.out.keep hb2 (by omega))
  have b2 := b1.trans (hb2.mono (by omega))
  clear b1 hb2
  have y2 : w.heap.size < w2.heap.size := by omega
  have z2 : w.heap.size + 1 < w2.heap.size := by omega
  obtain ⟨a10, a11, a12, a13, a14, a15⟩ := X1.out
  obtain ⟨a20, a21, a22, a23, a24, a25⟩ := X2.out
  have C2 := Lib.hid hc2
  clear hc2
  go_wp2_with fail
  refine (cand_yes n2 nm2 c2 p2 r2 i2 _ C2.out).mono ?_
  rintro e w3 ⟨rfl, hb3⟩
  clear a10 a11 a12 a13 a14 a15 a20 a21 a22 a23 a24 a25
  have s3 := hb3.size
  have X1 := Lib.hid (X1.out.keep hb3 (by omega))
  have X2 := Lib.hid (X2.out.keep hb3 (by omega))
  have b3 := b2.trans (hb3.mono (by omega))
  clear b2 hb3
  have y3 : w.heap.size < w3.heap.size := by omega
  have z3 : w.heap.size + 1 < w3.heap.size := by omega
  obtain ⟨a10, a11, a12, a13, a14, a15⟩ := X1.out
  obtain ⟨a20, a21, a22, a23, a24, a25⟩ := X2.out
  go_wp2_with fail
  refine (window_any nm1 c1 p1 i1 _).mono ?_
  rintro e w4 ⟨rfl, hb4⟩
  rw [H1.out]
  clear a10 a11 a12 a13 a14 a15 a20 a21 a22 a23 a24 a25
  have s4 := hb4.size
  have X1 := Lib.hid (X1.out.keep hb4 (by omega))
  have X2 := Lib.hid (X2.out.keep hb4 (by omega))
  have b4 := b3.trans (hb4.mono (by omega))
  clear b3 hb4
  have y4 : w.heap.size < w4.heap.size := by omega
  have z4 : w.heap.size + 1 < w4.heap.size := by omega
  obtain ⟨a10, a11, a12, a13, a14, a15⟩ := X1.out
  obtain ⟨a20, a21, a22, a23, a24, a25⟩ := X2.out
  go_wp2_with fail
  refine (window_any nm2 c2 p2 i2 _).mono ?_
  rintro e w5 ⟨rfl, hb5⟩
  rw [H2.out]
  have hz5 : w4.heap.size < w5.heap.size := by have := hb5.size; simp at this; omega
  clear a10 a11 a12 a13 a14 a15 a20 a21 a22 a23 a24 a25
  have X1 := (X1.out.alloc (by omega) _).keep hb5 (by simp; omega)
  have X2 := (X2.out.alloc (by omega) _).keep hb5 (by simp; omega)
  have D1 := ((bcell hb5).1 w4.heap.size 2 (by simp)).trans (World.cell?_alloc_2 w4 _ _ _ _)
  have b5 : Below w.heap.size w w5 := (b4.alloc (by omega) _).trans (hb5.mono (by simp; omega))
  clear b4 hb5
  go_wp2_with fail
  have X1 := Lib.hid (X1.alloc (by omega) (.cells #[.int .i64 (wI c2 p2 i2), .int .i64 (wR c2 p2 i2), .int .i64 (wD c2 p2 i2)] 26))
  have X2 := Lib.hid (X2.alloc (by omega) (.cells #[.int .i64 (wI c2 p2 i2), .int .i64 (wR c2 p2 i2), .int .i64 (wD c2 p2 i2)] 26))
  have D1' := (World.cell?_alloc_lt w5 (.cells #[.int .i64 (wI c2 p2 i2), .int .i64 (wR c2 p2 i2), .int .i64 (wD c2 p2 i2)] 26) _ hz5).trans D1
  have D2' := World.cell?_alloc_2 w5 (.int .i64 (wI c2 p2 i2)) (.int .i64 (wR c2 p2 i2)) (.int .i64 (wD c2 p2 i2)) 26
  have hz6 : w5.heap.size < (w5.alloc (.cells #[.int .i64 (wI c2 p2 i2), .int .i64 (wR c2 p2 i2), .int .i64 (wD c2 p2 i2)] 26)).heap.size := by simp
  have b6 : Below w.heap.size w (w5.alloc (.cells #[.int .i64 (wI c2 p2 i2), .int .i64 (wR c2 p2 i2), .int .i64 (wD c2 p2 i2)] 26)) := b5.alloc (by omega) _
  clear b5 D1
  generalize w5.alloc (.cells #[.int .i64 (wI c2 p2 i2), .int .i64 (wR c2 p2 i2), .int .i64 (wD c2 p2 i2)] 26) = w6 at *
  have y6 : w.heap.size < w6.heap.size := by omega
  have z6 : w.heap.size + 1 < w6.heap.size := by omega
  have v6 : w4.heap.size < w6.heap.size := by omega
  obtain ⟨a10, a11, a12, a13, a14, a15⟩ := X1.out
  obtain ⟨a20, a21, a22, a23, a24, a25⟩ := X2.out
  have g1 : IntKind.i64.wrap (r1 + wD c1 p1 i1) = r1 + wD c1 p1 i1 := IntWalk.i64_in _ (by omega)
  have g2 : IntKind.i64.wrap (r2 + wD c2 p2 i2) = r2 + wD c2 p2 i2 := IntWalk.i64_in _ (by omega)
  refine wp_region_quiet (C := fun W => Below w6.heap.size w6 W) (by kernel_rfl) (by kernel_rfl) (Below.refl _ _).drew ?_
  repeat (
    refine wpQuiet_step (fun K hK => ?_)
    go_simp
    first
      | (refine hK _ ?_; clear hK K)
      | (apply Exists.intro
         refine ⟨fun W q0 => ?_, hK _ ?_⟩
         (first
           | rfl
           | (have qc := (bcell q0).1; go_simp; rfl))
         clear hK K))
  refine wpQuiet_nil ?_
  intro w7 hb7
  clear g1 g2 D1' D2'
  clear a10 a11 a12 a13 a14 a15 a20 a21 a22 a23 a24 a25
  have s7 := hb7.size
  have X1 := Lib.hid (X1.out.keep hb7 (by omega))
  have X2 := Lib.hid (X2.out.keep hb7 (by omega))
  have b7 := b6.trans (hb7.mono (by omega))
  clear b6 hb7
  have y7 : w.heap.size < w7.heap.size := by omega
  have z7 : w.heap.size + 1 < w7.heap.size := by omega
  obtain ⟨a10, a11, a12, a13, a14, a15⟩ := X1.out
  obtain ⟨a20, a21, a22, a23, a24, a25⟩ := X2.out
  go_wp2_with fail
  refine wp_region_quiet (C := fun W => Below w7.heap.size w7 W) (by kernel_rfl) (by kernel_rfl) (Below.refl _ _).drew ?_
  repeat (
    refine wpQuiet_step (fun K hK => ?_)
    go_simp
    first
      | (refine hK _ ?_; clear hK K)
      | (apply Exists.intro
         refine ⟨fun W q0 => ?_, hK _ ?_⟩
         (first
           | rfl
           | (have qc := (bcell q0).1; go_simp; rfl)
           | (go_at_call 16; ((with_reducible refine (overlaps_any nm1 c1 p1 i1 _).mono ?_)); rintro e w5 ⟨rfl, hb5⟩; exact ⟨rfl, q0.trans (hb5.mono q0.size)⟩)
           | (go_at_call 16; ((with_reducible refine (overlaps_any nm2 c2 p2 i2 _).mono ?_)); rintro e w5 ⟨rfl, hb5⟩; exact ⟨rfl, q0.trans (hb5.mono q0.size)⟩))
         clear hK K))
  refine wpQuiet_nil ?_
  intro w8 hb8
  clear a10 a11 a12 a13 a14 a15 a20 a21 a22 a23 a24 a25
  have s8 := hb8.size
  have X1 := Lib.hid (X1.out.keep hb8 (by omega))
  have X2 := Lib.hid (X2.out.keep hb8 (by omega))
  have b8 := b7.trans (hb8.mono (by omega))
  clear b7 hb8
  have y8 : w.heap.size < w8.heap.size := by omega
  have z8 : w.heap.size + 1 < w8.heap.size := by omega
  obtain ⟨a10, a11, a12, a13, a14, a15⟩ := X1.out
  obtain ⟨a20, a21, a22, a23, a24, a25⟩ := X2.out
  have HB := Lib.hid (bf_early (n1 := n1) (c1 := c1) (p1 := p1) (r1 := r1) (i1 := i1) (n2 := n2) (c2 := c2) (p2 := p2) (r2 := r2) (i2 := i2))
  generalize hs : r1 + wD c1 p1 i1 = s at *
  generalize ht : r2 + wD c2 p2 i2 = t at *
  have Hs := Lib.hid hs
  have Ht := Lib.hid ht
  clear hs ht
  generalize ho1 : ovB c1 p1 i1 = o1 at *
  generalize ho2 : ovB c2 p2 i2 = o2 at *
  have Ho1 := Lib.hid ho1
  have Ho2 := Lib.hid ho2
  clear ho1 ho2
  rcases Int.lt_trichotomy s t with hst | hst | hst
  · have G1 := Lib.hid (HB.out (.inl hst)).1
    have G2 := Lib.hid (HB.out (.inl hst)).2
    clear HB
    go_wp2_with fail
    refine (before_ok n1 nm1 c1 p1 r1 i1 n2 nm2 c2 p2 r2 i2 _ H1.out H2.out Q1a Q1b Q2a Q2b).mono ?_
    rintro e w9 ⟨rfl, hb9⟩
    rw [G1.out]
    clear a10 a11 a12 a13 a14 a15 a20 a21 a22 a23 a24 a25
    have s9 := hb9.size
    have X1 := Lib.hid (X1.out.keep hb9 (by omega))
    have X2 := Lib.hid (X2.out.keep hb9 (by omega))
    have b9 := b8.trans (hb9.mono (by omega))
    clear b8 hb9
    have y9 : w.heap.size < w9.heap.size := by omega
    have z9 : w.heap.size + 1 < w9.heap.size := by omega
    obtain ⟨a10, a11, a12, a13, a14, a15⟩ := X1.out
    obtain ⟨a20, a21, a22, a23, a24, a25⟩ := X2.out
    go_wp2_with fail
    refine (before_ok n2 nm2 c2 p2 r2 i2 n1 nm1 c1 p1 r1 i1 _ H2.out H1.out Q2a Q2b Q1a Q1b).mono ?_
    rintro e w10 ⟨rfl, hb10⟩
    rw [G2.out]
    go_wp2_with fail
    go_ret
    exact ⟨rfl, b9.trans (hb10.mono (by omega))⟩
  · have e1 : (s == t) = true := by simp [hst]
    have e2 : s ≤ t := by omega
    have e3 : t ≤ s := by omega
    have HC := Lib.hid (fun (h : o1 = true ∧ o2 = false) => HB.out (.inr ⟨hst, h⟩))
    clear HB hst
    cases o1 <;> cases o2
    · go_wp2_with fail
      go_ret
      exact ⟨rfl, b8⟩
    · go_wp2_with fail
      go_ret
      exact ⟨rfl, b8⟩
    · have G1 := Lib.hid (HC.out ⟨rfl, rfl⟩).1
      have G2 := Lib.hid (HC.out ⟨rfl, rfl⟩).2
      clear HC
      go_wp2_with fail
      refine (before_ok n1 nm1 c1 p1 r1 i1 n2 nm2 c2 p2 r2 i2 _ H1.out H2.out Q1a Q1b Q2a Q2b).mono ?_
      rintro e w9 ⟨rfl, hb9⟩
      rw [G1.out]
      clear a10 a11 a12 a13 a14 a15 a20 a21 a22 a23 a24 a25
      have s9 := hb9.size
      have X1 := Lib.hid (X1.out.keep hb9 (by omega))
      have X2 := Lib.hid (X2.out.keep hb9 (by omega))
      have b9 := b8.trans (hb9.mono (by omega))
      clear b8 hb9
      have y9 : w.heap.size < w9.heap.size := by omega
      have z9 : w.heap.size + 1 < w9.heap.size := by omega
      obtain ⟨a10, a11, a12, a13, a14, a15⟩ := X1.out
      obtain ⟨a20, a21, a22, a23, a24, a25⟩ := X2.out
      go_wp2_with fail
      refine (before_ok n2 nm2 c2 p2 r2 i2 n1 nm1 c1 p1 r1 i1 _ H2.out H1.out Q2a Q2b Q1a Q1b).mono ?_
      rintro e w10 ⟨rfl, hb10⟩
      rw [G2.out]
      go_wp2_with fail
      go_ret
      exact ⟨rfl, b9.trans (hb10.mono (by omega))⟩
    · go_wp2_with fail
      go_ret
      exact ⟨rfl, b8⟩
  · have e1 : (s == t) = false := by simp; omega
    clear HB
    go_wp2_with fail
    go_ret
    exact ⟨rfl, b8⟩

theorem law_dead (n1 : Int) (nm1 : ByteArray) (c1 p1 r1 i1 : Int) (n2 : Int) (nm2 : ByteArray) (c2 p2 r2 i2 : Int) (w : World) :
    Calls Try.prog 10 #[.agg #[.int .i64 n1, .string nm1, .int .i64 c1, .int .i64 p1, .int .i64 r1, .int .i64 i1], .agg #[.int .i64 n2, .string nm2, .int .i64 c2, .int .i64 p2, .int .i64 r2, .int .i64 i2]] w fun e w' => e = .returned (.bool true) ∧ Below w.heap.size w w' := by
  by_cases hc1 : candP n1 c1 p1 r1 i1
  · by_cases hc2 : candP n2 c2 p2 r2 i2
    · exact law_dead_ok n1 nm1 c1 p1 r1 i1 n2 nm2 c2 p2 r2 i2 w hc1 hc2
    · exact law_dead_no2 n1 nm1 c1 p1 r1 i1 n2 nm2 c2 p2 r2 i2 w hc1 hc2
  · exact law_dead_no1 n1 nm1 c1 p1 r1 i1 n2 nm2 c2 p2 r2 i2 w hc1
end Go.Proofs.Ytoiahkndabbklaa
