/- The walk over PfairOrder. Conditions: none. -/
import Derived.Test.YtoiahkndabbklaaLawBefore
namespace Go.Proofs.Ytoiahkndabbklaa
open Go.RowKit

set_option maxRecDepth 100000 in
set_option maxHeartbeats 6400000 in
theorem law_order_no1 (n1 : Int) (nm1 : ByteArray) (c1 p1 r1 i1 : Int) (n2 : Int) (nm2 : ByteArray) (c2 p2 r2 i2 : Int) (n3 : Int) (nm3 : ByteArray) (c3 p3 r3 i3 : Int) (w : World) (hc1 : ¬ candP n1 c1 p1 r1 i1) :
    Calls Try.prog 9 #[.agg #[.int .i64 n1, .string nm1, .int .i64 c1, .int .i64 p1, .int .i64 r1, .int .i64 i1], .agg #[.int .i64 n2, .string nm2, .int .i64 c2, .int .i64 p2, .int .i64 r2, .int .i64 i2], .agg #[.int .i64 n3, .string nm3, .int .i64 c3, .int .i64 p3, .int .i64 r3, .int .i64 i3]] w fun e w' => e = .returned (.bool true) ∧ Below w.heap.size w w' := by
  go_enter Try.func9, Try.ntmps9
  go_wp2_with fail
  refine (awake_any _).mono ?_
  rintro e w1 ⟨rfl, hb1⟩
  have hz1 : w.heap.size + 1 < w1.heap.size := by have := hb1.size; simp at this; omega
  have A1 := (((CandAt.new w n1 nm1 c1 p1 r1 i1 42).alloc (by simp) _).alloc (by simp <;> omega) _).keep hb1 (by simp <;> omega)
  have A2 := ((CandAt.new (w.alloc _) n2 nm2 c2 p2 r2 i2 42).alloc (by simp) _).keep hb1 (by simp <;> omega)
  have A3 := (CandAt.new ((w.alloc _).alloc _) n3 nm3 c3 p3 r3 i3 42).keep hb1 (by simp)
  simp only [World.size_alloc] at A2 A3
  have b1 : Below w.heap.size w w1 := ((((Below.refl _ _).alloc (Nat.le_refl _) _).alloc (by simp) _).alloc (by simp; omega) _).trans (hb1.mono (by simp; omega))
  have u1 : w.heap.size + 1 + 1 < w1.heap.size := by have := hb1.size; simp at this; omega
  clear hb1
  have X1 := Lib.hid A1
  have X2 := Lib.hid A2
  have X3 := Lib.hid A3
  clear A1 A2 A3
  obtain ⟨a10, a11, a12, a13, a14, a15⟩ := X1.out
  obtain ⟨a20, a21, a22, a23, a24, a25⟩ := X2.out
  obtain ⟨a30, a31, a32, a33, a34, a35⟩ := X3.out
  have x0 : w.heap.size < w1.heap.size := by omega
  have C1 := Lib.hid hc1
  clear hc1
  go_wp2_with fail
  refine (cand_no n1 nm1 c1 p1 r1 i1 _ C1.out).mono ?_
  rintro e w2 ⟨rfl, hb2⟩
  go_wp2_with fail
  go_ret
  exact ⟨rfl, b1.trans (hb2.mono (by omega))⟩

set_option maxRecDepth 100000 in
set_option maxHeartbeats 6400000 in
theorem law_order_no2 (n1 : Int) (nm1 : ByteArray) (c1 p1 r1 i1 : Int) (n2 : Int) (nm2 : ByteArray) (c2 p2 r2 i2 : Int) (n3 : Int) (nm3 : ByteArray) (c3 p3 r3 i3 : Int) (w : World) (hc1 : candP n1 c1 p1 r1 i1) (hc2 : ¬ candP n2 c2 p2 r2 i2) :
    Calls Try.prog 9 #[.agg #[.int .i64 n1, .string nm1, .int .i64 c1, .int .i64 p1, .int .i64 r1, .int .i64 i1], .agg #[.int .i64 n2, .string nm2, .int .i64 c2, .int .i64 p2, .int .i64 r2, .int .i64 i2], .agg #[.int .i64 n3, .string nm3, .int .i64 c3, .int .i64 p3, .int .i64 r3, .int .i64 i3]] w fun e w' => e = .returned (.bool true) ∧ Below w.heap.size w w' := by
  go_enter Try.func9, Try.ntmps9
  go_wp2_with fail
  refine (awake_any _).mono ?_
  rintro e w1 ⟨rfl, hb1⟩
  have hz1 : w.heap.size + 1 < w1.heap.size := by have := hb1.size; simp at this; omega
  have A1 := (((CandAt.new w n1 nm1 c1 p1 r1 i1 42).alloc (by simp) _).alloc (by simp <;> omega) _).keep hb1 (by simp <;> omega)
  have A2 := ((CandAt.new (w.alloc _) n2 nm2 c2 p2 r2 i2 42).alloc (by simp) _).keep hb1 (by simp <;> omega)
  have A3 := (CandAt.new ((w.alloc _).alloc _) n3 nm3 c3 p3 r3 i3 42).keep hb1 (by simp)
  simp only [World.size_alloc] at A2 A3
  have b1 : Below w.heap.size w w1 := ((((Below.refl _ _).alloc (Nat.le_refl _) _).alloc (by simp) _).alloc (by simp; omega) _).trans (hb1.mono (by simp; omega))
  have u1 : w.heap.size + 1 + 1 < w1.heap.size := by have := hb1.size; simp at this; omega
  clear hb1
  have X1 := Lib.hid A1
  have X2 := Lib.hid A2
  have X3 := Lib.hid A3
  clear A1 A2 A3
  obtain ⟨a10, a11, a12, a13, a14, a15⟩ := X1.out
  obtain ⟨a20, a21, a22, a23, a24, a25⟩ := X2.out
  obtain ⟨a30, a31, a32, a33, a34, a35⟩ := X3.out
  have x0 : w.heap.size < w1.heap.size := by omega
  have C1 := Lib.hid hc1
  clear hc1
  go_wp2_with fail
  refine (cand_yes n1 nm1 c1 p1 r1 i1 _ C1.out).mono ?_
  rintro e w2 ⟨rfl, hb2⟩
  clear a10 a11 a12 a13 a14 a15 a20 a21 a22 a23 a24 a25 a30 a31 a32 a33 a34 a35
  have s2 := hb2.size
  have X1 := Lib.hid (X1.out.keep hb2 (by omega))
  have X2 := Lib.hid (X2.out.keep hb2 (by omega))
  have X3 := Lib.hid (X3.out.keep hb2 (by omega))
  have b2 := b1.trans (hb2.mono (by omega))
  clear b1 hb2
  have y2 : w.heap.size < w2.heap.size := by omega
  have z2 : w.heap.size + 1 < w2.heap.size := by omega
  have u2 : w.heap.size + 1 + 1 < w2.heap.size := by omega
  obtain ⟨a10, a11, a12, a13, a14, a15⟩ := X1.out
  obtain ⟨a20, a21, a22, a23, a24, a25⟩ := X2.out
  obtain ⟨a30, a31, a32, a33, a34, a35⟩ := X3.out
  have C2 := Lib.hid hc2
  clear hc2
  go_wp2_with fail
  refine (cand_no n2 nm2 c2 p2 r2 i2 _ C2.out).mono ?_
  rintro e w3 ⟨rfl, hb3⟩
  go_wp2_with fail
  go_ret
  exact ⟨rfl, b2.trans (hb3.mono (by omega))⟩

set_option maxRecDepth 100000 in
set_option maxHeartbeats 6400000 in
theorem law_order_no3 (n1 : Int) (nm1 : ByteArray) (c1 p1 r1 i1 : Int) (n2 : Int) (nm2 : ByteArray) (c2 p2 r2 i2 : Int) (n3 : Int) (nm3 : ByteArray) (c3 p3 r3 i3 : Int) (w : World) (hc1 : candP n1 c1 p1 r1 i1) (hc2 : candP n2 c2 p2 r2 i2) (hc3 : ¬ candP n3 c3 p3 r3 i3) :
    Calls Try.prog 9 #[.agg #[.int .i64 n1, .string nm1, .int .i64 c1, .int .i64 p1, .int .i64 r1, .int .i64 i1], .agg #[.int .i64 n2, .string nm2, .int .i64 c2, .int .i64 p2, .int .i64 r2, .int .i64 i2], .agg #[.int .i64 n3, .string nm3, .int .i64 c3, .int .i64 p3, .int .i64 r3, .int .i64 i3]] w fun e w' => e = .returned (.bool true) ∧ Below w.heap.size w w' := by
  go_enter Try.func9, Try.ntmps9
  go_wp2_with fail
  refine (awake_any _).mono ?_
  rintro e w1 ⟨rfl, hb1⟩
  have hz1 : w.heap.size + 1 < w1.heap.size := by have := hb1.size; simp at this; omega
  have A1 := (((CandAt.new w n1 nm1 c1 p1 r1 i1 42).alloc (by simp) _).alloc (by simp <;> omega) _).keep hb1 (by simp <;> omega)
  have A2 := ((CandAt.new (w.alloc _) n2 nm2 c2 p2 r2 i2 42).alloc (by simp) _).keep hb1 (by simp <;> omega)
  have A3 := (CandAt.new ((w.alloc _).alloc _) n3 nm3 c3 p3 r3 i3 42).keep hb1 (by simp)
  simp only [World.size_alloc] at A2 A3
  have b1 : Below w.heap.size w w1 := ((((Below.refl _ _).alloc (Nat.le_refl _) _).alloc (by simp) _).alloc (by simp; omega) _).trans (hb1.mono (by simp; omega))
  have u1 : w.heap.size + 1 + 1 < w1.heap.size := by have := hb1.size; simp at this; omega
  clear hb1
  have X1 := Lib.hid A1
  have X2 := Lib.hid A2
  have X3 := Lib.hid A3
  clear A1 A2 A3
  obtain ⟨a10, a11, a12, a13, a14, a15⟩ := X1.out
  obtain ⟨a20, a21, a22, a23, a24, a25⟩ := X2.out
  obtain ⟨a30, a31, a32, a33, a34, a35⟩ := X3.out
  have x0 : w.heap.size < w1.heap.size := by omega
  have C1 := Lib.hid hc1
  clear hc1
  go_wp2_with fail
  refine (cand_yes n1 nm1 c1 p1 r1 i1 _ C1.out).mono ?_
  rintro e w2 ⟨rfl, hb2⟩
  clear a10 a11 a12 a13 a14 a15 a20 a21 a22 a23 a24 a25 a30 a31 a32 a33 a34 a35
  have s2 := hb2.size
  have X1 := Lib.hid (X1.out.keep hb2 (by omega))
  have X2 := Lib.hid (X2.out.keep hb2 (by omega))
  have X3 := Lib.hid (X3.out.keep hb2 (by omega))
  have b2 := b1.trans (hb2.mono (by omega))
  clear b1 hb2
  have y2 : w.heap.size < w2.heap.size := by omega
  have z2 : w.heap.size + 1 < w2.heap.size := by omega
  have u2 : w.heap.size + 1 + 1 < w2.heap.size := by omega
  obtain ⟨a10, a11, a12, a13, a14, a15⟩ := X1.out
  obtain ⟨a20, a21, a22, a23, a24, a25⟩ := X2.out
  obtain ⟨a30, a31, a32, a33, a34, a35⟩ := X3.out
  have C2 := Lib.hid hc2
  clear hc2
  go_wp2_with fail
  refine (cand_yes n2 nm2 c2 p2 r2 i2 _ C2.out).mono ?_
  rintro e w3 ⟨rfl, hb3⟩
  clear a10 a11 a12 a13 a14 a15 a20 a21 a22 a23 a24 a25 a30 a31 a32 a33 a34 a35
  have s3 := hb3.size
  have X1 := Lib.hid (X1.out.keep hb3 (by omega))
  have X2 := Lib.hid (X2.out.keep hb3 (by omega))
  have X3 := Lib.hid (X3.out.keep hb3 (by omega))
  have b3 := b2.trans (hb3.mono (by omega))
  clear b2 hb3
  have y3 : w.heap.size < w3.heap.size := by omega
  have z3 : w.heap.size + 1 < w3.heap.size := by omega
  have u3 : w.heap.size + 1 + 1 < w3.heap.size := by omega
  obtain ⟨a10, a11, a12, a13, a14, a15⟩ := X1.out
  obtain ⟨a20, a21, a22, a23, a24, a25⟩ := X2.out
  obtain ⟨a30, a31, a32, a33, a34, a35⟩ := X3.out
  have C3 := Lib.hid hc3
  clear hc3
  go_wp2_with fail
  refine (cand_no n3 nm3 c3 p3 r3 i3 _ C3.out).mono ?_
  rintro e w4 ⟨rfl, hb4⟩
  go_wp2_with fail
  go_ret
  exact ⟨rfl, b3.trans (hb4.mono (by omega))⟩

set_option maxRecDepth 100000 in
set_option maxHeartbeats 6400000 in
theorem law_order_same (n1 : Int) (nm1 : ByteArray) (c1 p1 r1 i1 : Int) (n2 : Int) (nm2 : ByteArray) (c2 p2 r2 i2 : Int) (n3 : Int) (nm3 : ByteArray) (c3 p3 r3 i3 : Int) (w : World) (hc1 : candP n1 c1 p1 r1 i1) (hc2 : candP n2 c2 p2 r2 i2) (hc3 : candP n3 c3 p3 r3 i3) (hq : n1 = n2 ∨ (n1 ≠ n2 ∧ n2 = n3) ∨ (n1 ≠ n2 ∧ n2 ≠ n3 ∧ n1 = n3)) :
    Calls Try.prog 9 #[.agg #[.int .i64 n1, .string nm1, .int .i64 c1, .int .i64 p1, .int .i64 r1, .int .i64 i1], .agg #[.int .i64 n2, .string nm2, .int .i64 c2, .int .i64 p2, .int .i64 r2, .int .i64 i2], .agg #[.int .i64 n3, .string nm3, .int .i64 c3, .int .i64 p3, .int .i64 r3, .int .i64 i3]] w fun e w' => e = .returned (.bool true) ∧ Below w.heap.size w w' := by
  have hq' : (n1 == n2) = true ∨ ((n1 == n2) = false ∧ (n2 == n3) = true) ∨ ((n1 == n2) = false ∧ (n2 == n3) = false ∧ (n1 == n3) = true) := by
    rcases hq with h | ⟨h, h'⟩ | ⟨h, h', h''⟩
    · exact .inl (by simp [h])
    · exact .inr (.inl ⟨by simp [h], by simp [h']⟩)
    · exact .inr (.inr ⟨by simp [h], by simp [h'], by simp [h'']⟩)
  clear hq
  go_enter Try.func9, Try.ntmps9
  go_wp2_with fail
  refine (awake_any _).mono ?_
  rintro e w1 ⟨rfl, hb1⟩
  have hz1 : w.heap.size + 1 < w1.heap.size := by have := hb1.size; simp at this; omega
  have A1 := (((CandAt.new w n1 nm1 c1 p1 r1 i1 42).alloc (by simp) _).alloc (by simp <;> omega) _).keep hb1 (by simp <;> omega)
  have A2 := ((CandAt.new (w.alloc _) n2 nm2 c2 p2 r2 i2 42).alloc (by simp) _).keep hb1 (by simp <;> omega)
  have A3 := (CandAt.new ((w.alloc _).alloc _) n3 nm3 c3 p3 r3 i3 42).keep hb1 (by simp)
  simp only [World.size_alloc] at A2 A3
  have b1 : Below w.heap.size w w1 := ((((Below.refl _ _).alloc (Nat.le_refl _) _).alloc (by simp) _).alloc (by simp; omega) _).trans (hb1.mono (by simp; omega))
  have u1 : w.heap.size + 1 + 1 < w1.heap.size := by have := hb1.size; simp at this; omega
  clear hb1
  have X1 := Lib.hid A1
  have X2 := Lib.hid A2
  have X3 := Lib.hid A3
  clear A1 A2 A3
  obtain ⟨a10, a11, a12, a13, a14, a15⟩ := X1.out
  obtain ⟨a20, a21, a22, a23, a24, a25⟩ := X2.out
  obtain ⟨a30, a31, a32, a33, a34, a35⟩ := X3.out
  have x0 : w.heap.size < w1.heap.size := by omega
  have C1 := Lib.hid hc1
  clear hc1
  go_wp2_with fail
  refine (cand_yes n1 nm1 c1 p1 r1 i1 _ C1.out).mono ?_
  rintro e w2 ⟨rfl, hb2⟩
  clear a10 a11 a12 a13 a14 a15 a20 a21 a22 a23 a24 a25 a30 a31 a32 a33 a34 a35
  have s2 := hb2.size
  have X1 := Lib.hid (X1.out.keep hb2 (by omega))
  have X2 := Lib.hid (X2.out.keep hb2 (by omega))
  have X3 := Lib.hid (X3.out.keep hb2 (by omega))
  have b2 := b1.trans (hb2.mono (by omega))
  clear b1 hb2
  have y2 : w.heap.size < w2.heap.size := by omega
  have z2 : w.heap.size + 1 < w2.heap.size := by omega
  have u2 : w.heap.size + 1 + 1 < w2.heap.size := by omega
  obtain ⟨a10, a11, a12, a13, a14, a15⟩ := X1.out
  obtain ⟨a20, a21, a22, a23, a24, a25⟩ := X2.out
  obtain ⟨a30, a31, a32, a33, a34, a35⟩ := X3.out
  have C2 := Lib.hid hc2
  clear hc2
  go_wp2_with fail
  refine (cand_yes n2 nm2 c2 p2 r2 i2 _ C2.out).mono ?_
  rintro e w3 ⟨rfl, hb3⟩
  clear a10 a11 a12 a13 a14 a15 a20 a21 a22 a23 a24 a25 a30 a31 a32 a33 a34 a35
  have s3 := hb3.size
  have X1 := Lib.hid (X1.out.keep hb3 (by omega))
  have X2 := Lib.hid (X2.out.keep hb3 (by omega))
  have X3 := Lib.hid (X3.out.keep hb3 (by omega))
  have b3 := b2.trans (hb3.mono (by omega))
  clear b2 hb3
  have y3 : w.heap.size < w3.heap.size := by omega
  have z3 : w.heap.size + 1 < w3.heap.size := by omega
  have u3 : w.heap.size + 1 + 1 < w3.heap.size := by omega
  obtain ⟨a10, a11, a12, a13, a14, a15⟩ := X1.out
  obtain ⟨a20, a21, a22, a23, a24, a25⟩ := X2.out
  obtain ⟨a30, a31, a32, a33, a34, a35⟩ := X3.out
  have C3 := Lib.hid hc3
  clear hc3
  go_wp2_with fail
  refine (cand_yes n3 nm3 c3 p3 r3 i3 _ C3.out).mono ?_
  rintro e w4 ⟨rfl, hb4⟩
  clear a10 a11 a12 a13 a14 a15 a20 a21 a22 a23 a24 a25 a30 a31 a32 a33 a34 a35
  have s4 := hb4.size
  have X1 := Lib.hid (X1.out.keep hb4 (by omega))
  have X2 := Lib.hid (X2.out.keep hb4 (by omega))
  have X3 := Lib.hid (X3.out.keep hb4 (by omega))
  have b4 := b3.trans (hb4.mono (by omega))
  clear b3 hb4
  have y4 : w.heap.size < w4.heap.size := by omega
  have z4 : w.heap.size + 1 < w4.heap.size := by omega
  have u4 : w.heap.size + 1 + 1 < w4.heap.size := by omega
  obtain ⟨a10, a11, a12, a13, a14, a15⟩ := X1.out
  obtain ⟨a20, a21, a22, a23, a24, a25⟩ := X2.out
  obtain ⟨a30, a31, a32, a33, a34, a35⟩ := X3.out
  rcases hq' with h1 | ⟨h1, h2⟩ | ⟨h1, h2, h3⟩
  all_goals
    go_wp2_with fail
    go_ret
    exact ⟨rfl, b4⟩

set_option maxRecDepth 100000 in
set_option maxHeartbeats 6400000 in
theorem law_order_ok (n1 : Int) (nm1 : ByteArray) (c1 p1 r1 i1 : Int) (n2 : Int) (nm2 : ByteArray) (c2 p2 r2 i2 : Int) (n3 : Int) (nm3 : ByteArray) (c3 p3 r3 i3 : Int) (w : World) (hc1 : candP n1 c1 p1 r1 i1) (hc2 : candP n2 c2 p2 r2 i2) (hc3 : candP n3 c3 p3 r3 i3) (h12 : n1 ≠ n2) (h23 : n2 ≠ n3) (h13 : n1 ≠ n3) :
    Calls Try.prog 9 #[.agg #[.int .i64 n1, .string nm1, .int .i64 c1, .int .i64 p1, .int .i64 r1, .int .i64 i1], .agg #[.int .i64 n2, .string nm2, .int .i64 c2, .int .i64 p2, .int .i64 r2, .int .i64 i2], .agg #[.int .i64 n3, .string nm3, .int .i64 c3, .int .i64 p3, .int .i64 r3, .int .i64 i3]] w fun e w' => e = .returned (.bool true) ∧ Below w.heap.size w w' := by
  have H1 := Lib.hid (candP_E hc1)
  have Q1a : -1099511627776 ≤ r1 := by unfold candP at hc1; omega
  have Q1b : r1 ≤ 1099511627776 := by unfold candP at hc1; omega
  have H2 := Lib.hid (candP_E hc2)
  have Q2a : -1099511627776 ≤ r2 := by unfold candP at hc2; omega
  have Q2b : r2 ≤ 1099511627776 := by unfold candP at hc2; omega
  have H3 := Lib.hid (candP_E hc3)
  have Q3a : -1099511627776 ≤ r3 := by unfold candP at hc3; omega
  have Q3b : r3 ≤ 1099511627776 := by unfold candP at hc3; omega
  have e12 : (n1 == n2) = false := by simp [h12]
  have e23 : (n2 == n3) = false := by simp [h23]
  have e13 : (n1 == n3) = false := by simp [h13]
  have HT := Lib.hid (bf_tot (c1 := c1) (p1 := p1) (r1 := r1) (i1 := i1) (c2 := c2) (p2 := p2) (r2 := r2) (i2 := i2) h12)
  have HI := Lib.hid (bf_irr (n1 := n1) (c1 := c1) (p1 := p1) (r1 := r1) (i1 := i1))
  have HR := Lib.hid (bf_trans (n1 := n1) (c1 := c1) (p1 := p1) (r1 := r1) (i1 := i1) (n2 := n2) (c2 := c2) (p2 := p2) (r2 := r2) (i2 := i2) (n3 := n3) (c3 := c3) (p3 := p3) (r3 := r3) (i3 := i3))
  clear h12 h23 h13
  go_enter Try.func9, Try.ntmps9
  go_wp2_with fail
  refine (awake_any _).mono ?_
  rintro e w1 ⟨rfl, hb1⟩
  have hz1 : w.heap.size + 1 < w1.heap.size := by have := hb1.size; simp at this; omega
  have A1 := (((CandAt.new w n1 nm1 c1 p1 r1 i1 42).alloc (by simp) _).alloc (by simp <;> omega) _).keep hb1 (by simp <;> omega)
  have A2 := ((CandAt.new (w.alloc _) n2 nm2 c2 p2 r2 i2 42).alloc (by simp) _).keep hb1 (by simp <;> omega)
  have A3 := (CandAt.new ((w.alloc _).alloc _) n3 nm3 c3 p3 r3 i3 42).keep hb1 (by simp)
  simp only [World.size_alloc] at A2 A3
  have b1 : Below w.heap.size w w1 := ((((Below.refl _ _).alloc (Nat.le_refl _) _).alloc (by simp) _).alloc (by simp; omega) _).trans (hb1.mono (by simp; omega))
  have u1 : w.heap.size + 1 + 1 < w1.heap.size := by have := hb1.size; simp at this; omega
  clear hb1
  have X1 := Lib.hid A1
  have X2 := Lib.hid A2
  have X3 := Lib.hid A3
  clear A1 A2 A3
  obtain ⟨a10, a11, a12, a13, a14, a15⟩ := X1.out
  obtain ⟨a20, a21, a22, a23, a24, a25⟩ := X2.out
  obtain ⟨a30, a31, a32, a33, a34, a35⟩ := X3.out
  have x0 : w.heap.size < w1.heap.size := by omega
  have C1 := Lib.hid hc1
  clear hc1
  go_wp2_with fail
  refine (cand_yes n1 nm1 c1 p1 r1 i1 _ C1.out).mono ?_
  rintro e w2 ⟨rfl, hb2⟩
  clear a10 a11 a12 a13 a14 a15 a20 a21 a22 a23 a24 a25 a30 a31 a32 a33 a34 a35
  have s2 := hb2.size
  have X1 := Lib.hid (X1.out.keep hb2 (by omega))
  have X2 := Lib.hid (X2.out.keep hb2 (by omega))
  have X3 := Lib.hid (X3.out.keep hb2 (by omega))
  have b2 := b1.trans (hb2.mono (by omega))
  clear b1 hb2
  have y2 : w.heap.size < w2.heap.size := by omega
  have z2 : w.heap.size + 1 < w2.heap.size := by omega
  have u2 : w.heap.size + 1 + 1 < w2.heap.size := by omega
  obtain ⟨a10, a11, a12, a13, a14, a15⟩ := X1.out
  obtain ⟨a20, a21, a22, a23, a24, a25⟩ := X2.out
  obtain ⟨a30, a31, a32, a33, a34, a35⟩ := X3.out
  have C2 := Lib.hid hc2
  clear hc2
  go_wp2_with fail
  refine (cand_yes n2 nm2 c2 p2 r2 i2 _ C2.out).mono ?_
  rintro e w3 ⟨rfl, hb3⟩
  clear a10 a11 a12 a13 a14 a15 a20 a21 a22 a23 a24 a25 a30 a31 a32 a33 a34 a35
  have s3 := hb3.size
  have X1 := Lib.hid (X1.out.keep hb3 (by omega))
  have X2 := Lib.hid (X2.out.keep hb3 (by omega))
  have X3 := Lib.hid (X3.out.keep hb3 (by omega))
  have b3 := b2.trans (hb3.mono (by omega))
  clear b2 hb3
  have y3 : w.heap.size < w3.heap.size := by omega
  have z3 : w.heap.size + 1 < w3.heap.size := by omega
  have u3 : w.heap.size + 1 + 1 < w3.heap.size := by omega
  obtain ⟨a10, a11, a12, a13, a14, a15⟩ := X1.out
  obtain ⟨a20, a21, a22, a23, a24, a25⟩ := X2.out
  obtain ⟨a30, a31, a32, a33, a34, a35⟩ := X3.out
  have C3 := Lib.hid hc3
  clear hc3
  go_wp2_with fail
  refine (cand_yes n3 nm3 c3 p3 r3 i3 _ C3.out).mono ?_
  rintro e w4 ⟨rfl, hb4⟩
  clear a10 a11 a12 a13 a14 a15 a20 a21 a22 a23 a24 a25 a30 a31 a32 a33 a34 a35
  have s4 := hb4.size
  have X1 := Lib.hid (X1.out.keep hb4 (by omega))
  have X2 := Lib.hid (X2.out.keep hb4 (by omega))
  have X3 := Lib.hid (X3.out.keep hb4 (by omega))
  have b4 := b3.trans (hb4.mono (by omega))
  clear b3 hb4
  have y4 : w.heap.size < w4.heap.size := by omega
  have z4 : w.heap.size + 1 < w4.heap.size := by omega
  have u4 : w.heap.size + 1 + 1 < w4.heap.size := by omega
  obtain ⟨a10, a11, a12, a13, a14, a15⟩ := X1.out
  obtain ⟨a20, a21, a22, a23, a24, a25⟩ := X2.out
  obtain ⟨a30, a31, a32, a33, a34, a35⟩ := X3.out
  go_wp2_with fail
  have hT := HT.out
  have hI := HI.out
  refine wp_region_quiet (C := fun W => Below w4.heap.size w4 W) (by kernel_rfl) (by kernel_rfl) (Below.refl _ _).drew ?_
  repeat (
    refine wpQuiet_step (fun K hK => ?_)
    go_simp
    first
      | (refine hK _ ?_; clear hK K)
      | (apply Exists.intro
         refine ⟨fun W q0 => ?_, hK _ ?_⟩
         (first
           | rfl
           | (have qc := (bcell q0).1; go_simp; rfl)
           | (go_at_call 22; ((with_reducible refine (before_ok n1 nm1 c1 p1 r1 i1 n1 nm1 c1 p1 r1 i1 _ H1.out H1.out Q1a Q1b Q1a Q1b).mono ?_)); rintro e w5 ⟨rfl, hb5⟩; exact ⟨rfl, q0.trans (hb5.mono q0.size)⟩)
           | (go_at_call 22; ((with_reducible refine (before_ok n1 nm1 c1 p1 r1 i1 n2 nm2 c2 p2 r2 i2 _ H1.out H2.out Q1a Q1b Q2a Q2b).mono ?_)); rintro e w5 ⟨rfl, hb5⟩; exact ⟨rfl, q0.trans (hb5.mono q0.size)⟩)
           | (go_at_call 22; ((with_reducible refine (before_ok n2 nm2 c2 p2 r2 i2 n1 nm1 c1 p1 r1 i1 _ H2.out H1.out Q2a Q2b Q1a Q1b).mono ?_)); rintro e w5 ⟨rfl, hb5⟩; exact ⟨rfl, q0.trans (hb5.mono q0.size)⟩))
         clear hK K))
  refine wpQuiet_nil ?_
  intro w5 hb5
  clear a10 a11 a12 a13 a14 a15 a20 a21 a22 a23 a24 a25 a30 a31 a32 a33 a34 a35
  have s5 := hb5.size
  have X1 := Lib.hid (X1.out.keep hb5 (by omega))
  have X2 := Lib.hid (X2.out.keep hb5 (by omega))
  have X3 := Lib.hid (X3.out.keep hb5 (by omega))
  have b5 := b4.trans (hb5.mono (by omega))
  clear b4 hb5
  have y5 : w.heap.size < w5.heap.size := by omega
  have z5 : w.heap.size + 1 < w5.heap.size := by omega
  have u5 : w.heap.size + 1 + 1 < w5.heap.size := by omega
  obtain ⟨a10, a11, a12, a13, a14, a15⟩ := X1.out
  obtain ⟨a20, a21, a22, a23, a24, a25⟩ := X2.out
  obtain ⟨a30, a31, a32, a33, a34, a35⟩ := X3.out
  clear hT hI
  go_wp2_with fail
  refine (before_ok n1 nm1 c1 p1 r1 i1 n2 nm2 c2 p2 r2 i2 _ H1.out H2.out Q1a Q1b Q2a Q2b).mono ?_
  rintro e w6 ⟨rfl, hb6⟩
  clear a10 a11 a12 a13 a14 a15 a20 a21 a22 a23 a24 a25 a30 a31 a32 a33 a34 a35
  have s6 := hb6.size
  have X1 := Lib.hid (X1.out.keep hb6 (by omega))
  have X2 := Lib.hid (X2.out.keep hb6 (by omega))
  have X3 := Lib.hid (X3.out.keep hb6 (by omega))
  have b6 := b5.trans (hb6.mono (by omega))
  clear b5 hb6
  have y6 : w.heap.size < w6.heap.size := by omega
  have z6 : w.heap.size + 1 < w6.heap.size := by omega
  have u6 : w.heap.size + 1 + 1 < w6.heap.size := by omega
  obtain ⟨a10, a11, a12, a13, a14, a15⟩ := X1.out
  obtain ⟨a20, a21, a22, a23, a24, a25⟩ := X2.out
  obtain ⟨a30, a31, a32, a33, a34, a35⟩ := X3.out
  cases g1 : bfB n1 c1 p1 r1 i1 n2 c2 p2 r2 i2
  · clear g1
    go_wp2_with fail
    go_ret
    exact ⟨rfl, b6⟩
  · have G1 := Lib.hid g1
    clear g1
    go_wp2_with fail
    refine (before_ok n2 nm2 c2 p2 r2 i2 n3 nm3 c3 p3 r3 i3 _ H2.out H3.out Q2a Q2b Q3a Q3b).mono ?_
    rintro e w7 ⟨rfl, hb7⟩
    clear a10 a11 a12 a13 a14 a15 a20 a21 a22 a23 a24 a25 a30 a31 a32 a33 a34 a35
    have s7 := hb7.size
    have X1 := Lib.hid (X1.out.keep hb7 (by omega))
    have X2 := Lib.hid (X2.out.keep hb7 (by omega))
    have X3 := Lib.hid (X3.out.keep hb7 (by omega))
    have b7 := b6.trans (hb7.mono (by omega))
    clear b6 hb7
    have y7 : w.heap.size < w7.heap.size := by omega
    have z7 : w.heap.size + 1 < w7.heap.size := by omega
    have u7 : w.heap.size + 1 + 1 < w7.heap.size := by omega
    obtain ⟨a10, a11, a12, a13, a14, a15⟩ := X1.out
    obtain ⟨a20, a21, a22, a23, a24, a25⟩ := X2.out
    obtain ⟨a30, a31, a32, a33, a34, a35⟩ := X3.out
    cases g2 : bfB n2 c2 p2 r2 i2 n3 c3 p3 r3 i3
    · clear g2
      go_wp2_with fail
      go_ret
      exact ⟨rfl, b7⟩
    · have G3 := Lib.hid (HR.out G1.out g2)
      clear g2
      go_wp2_with fail
      refine (before_ok n1 nm1 c1 p1 r1 i1 n3 nm3 c3 p3 r3 i3 _ H1.out H3.out Q1a Q1b Q3a Q3b).mono ?_
      rintro e w8 ⟨rfl, hb8⟩
      rw [G3.out]
      go_wp2_with fail
      go_ret
      exact ⟨rfl, b7.trans (hb8.mono (by omega))⟩

theorem law_order (n1 : Int) (nm1 : ByteArray) (c1 p1 r1 i1 : Int) (n2 : Int) (nm2 : ByteArray) (c2 p2 r2 i2 : Int) (n3 : Int) (nm3 : ByteArray) (c3 p3 r3 i3 : Int) (w : World) :
    Calls Try.prog 9 #[.agg #[.int .i64 n1, .string nm1, .int .i64 c1, .int .i64 p1, .int .i64 r1, .int .i64 i1], .agg #[.int .i64 n2, .string nm2, .int .i64 c2, .int .i64 p2, .int .i64 r2, .int .i64 i2], .agg #[.int .i64 n3, .string nm3, .int .i64 c3, .int .i64 p3, .int .i64 r3, .int .i64 i3]] w fun e w' => e = .returned (.bool true) ∧ Below w.heap.size w w' := by
  by_cases hc1 : candP n1 c1 p1 r1 i1
  · by_cases hc2 : candP n2 c2 p2 r2 i2
    · by_cases hc3 : candP n3 c3 p3 r3 i3
      · by_cases hq : n1 = n2 ∨ (n1 ≠ n2 ∧ n2 = n3) ∨ (n1 ≠ n2 ∧ n2 ≠ n3 ∧ n1 = n3)
        · exact law_order_same n1 nm1 c1 p1 r1 i1 n2 nm2 c2 p2 r2 i2 n3 nm3 c3 p3 r3 i3 w hc1 hc2 hc3 hq
        · exact law_order_ok n1 nm1 c1 p1 r1 i1 n2 nm2 c2 p2 r2 i2 n3 nm3 c3 p3 r3 i3 w hc1 hc2 hc3 (by omega) (by omega) (by omega)
      · exact law_order_no3 n1 nm1 c1 p1 r1 i1 n2 nm2 c2 p2 r2 i2 n3 nm3 c3 p3 r3 i3 w hc1 hc2 hc3
    · exact law_order_no2 n1 nm1 c1 p1 r1 i1 n2 nm2 c2 p2 r2 i2 n3 nm3 c3 p3 r3 i3 w hc1 hc2
  · exact law_order_no1 n1 nm1 c1 p1 r1 i1 n2 nm2 c2 p2 r2 i2 n3 nm3 c3 p3 r3 i3 w hc1
end Go.Proofs.Ytoiahkndabbklaa
