/- Several texts in one: The walk over pfair.Before of valid candidates. Conditions: releases at most 2^40. The walk over the comparison that Simulate sorts by. Conditions: valid candidates with different numbers. -/
import Derived.Test.YtfoadipocpopiaaGreatM10
import Derived.Test.YtfoadipocpopiaaGreatSlCand
namespace Go.Proofs.YtfoadipocpopiaaGreat
section
open Go.RowKit
set_option maxRecDepth 100000 in
set_option maxHeartbeats 6400000 in
/-- pfair.Before of valid candidates. -/
theorem before_ok (n1 : Int) (nm1 : ByteArray) (c1 p1 r1 i1 n2 : Int) (nm2 : ByteArray) (c2 p2 r2 i2 : Int) (w : World) (hE1 : wE c1 p1 i1 = 0) (hE2 : wE c2 p2 i2 = 0)
    (q1 : -1099511627776 ≤ r1) (q2 : r1 ≤ 1099511627776) (q3 : -1099511627776 ≤ r2) (q4 : r2 ≤ 1099511627776) :
    Calls Tryz.prog 30 #[.agg #[.int .i64 n1, .string nm1, .int .i64 c1, .int .i64 p1, .int .i64 r1, .int .i64 i1], .agg #[.int .i64 n2, .string nm2, .int .i64 c2, .int .i64 p2, .int .i64 r2, .int .i64 i2]] w
      fun e w' => e = .returned (.bool (bfB n1 c1 p1 r1 i1 n2 c2 p2 r2 i2)) ∧ Below w.heap.size w w' := by
  have H1 := Lib.hid hE1
  have H2 := Lib.hid hE2
  have d1 := wD_bd hE1
  have d2 := wD_bd hE2
  have v1 := wE0 hE1
  have v2 := wE0 hE2
  obtain ⟨d1a, d1b⟩ := d1
  obtain ⟨d2a, d2b⟩ := d2
  have u1 : p1 ≤ 1000 := v1.2.2.1
  have u2 : p2 ≤ 1000 := v2.2.2.1
  clear hE1 hE2 v1 v2
  go_enter Tryz.func30, Tryz.ntmps30
  go_wp2_with fail
  refine (window_any nm1 c1 p1 i1 _).mono ?_
  rintro e w1 ⟨rfl, hb1⟩
  rw [H1.out]
  have hz1 : w.heap.size + 1 < w1.heap.size := by have := hb1.size; simp at this; omega
  have A1 := ((CandAt.new w n1 nm1 c1 p1 r1 i1 71).alloc (by simp) _).keep hb1 (by simp; omega)
  have A2 := (CandAt.new (w.alloc _) n2 nm2 c2 p2 r2 i2 71).keep hb1 (by simp)
  simp only [World.size_alloc] at A2
  have b1 : Below w.heap.size w w1 := (((Below.refl _ _).alloc (Nat.le_refl _) _).alloc (by simp) _).trans (hb1.mono (by simp; omega))
  clear hb1
  have X1 := Lib.hid A1
  obtain ⟨a0, a1, a2, a3, a4, a5⟩ := A2
  have X2 : Hid (CandAt w1 (w.heap.size + 1) n2 nm2 c2 p2 r2 i2) := ⟨a0, a1, a2, a3, a4, a5⟩
  clear A1
  go_wp2_with fail
  clear a0 a1 a2 a3 a4 a5
  refine (window_any nm2 c2 p2 i2 _).mono ?_
  rintro e w2 ⟨rfl, hb2⟩
  rw [H2.out]
  have hz2 : w1.heap.size < w2.heap.size := by have := hb2.size; simp at this; omega
  have Y1 := (X1.out.alloc (by omega) _).keep hb2 (by simp; omega)
  have Y2 := (X2.out.alloc (by omega) _).keep hb2 (by simp; omega)
  have D1 := ((bcell hb2).1 w1.heap.size 2 (by simp)).trans (World.cell?_alloc_2 w1 _ _ _ _)
  have b2 : Below w.heap.size w w2 := (b1.alloc (by omega) _).trans (hb2.mono (by simp; omega))
  clear X1 X2 b1 hb2
  go_wp2_with fail
  have Z1 := Y1.alloc (by omega) (.cells #[.int .i64 (wI c2 p2 i2), .int .i64 (wR c2 p2 i2), .int .i64 (wD c2 p2 i2)] 93)
  have Z2 := Y2.alloc (by omega) (.cells #[.int .i64 (wI c2 p2 i2), .int .i64 (wR c2 p2 i2), .int .i64 (wD c2 p2 i2)] 93)
  have D1' := (World.cell?_alloc_lt w2 (.cells #[.int .i64 (wI c2 p2 i2), .int .i64 (wR c2 p2 i2), .int .i64 (wD c2 p2 i2)] 93) _ hz2).trans D1
  have D2' := World.cell?_alloc_2 w2 (.int .i64 (wI c2 p2 i2)) (.int .i64 (wR c2 p2 i2)) (.int .i64 (wD c2 p2 i2)) 93
  have hz3 : w2.heap.size < (w2.alloc (.cells #[.int .i64 (wI c2 p2 i2), .int .i64 (wR c2 p2 i2), .int .i64 (wD c2 p2 i2)] 93)).heap.size := by simp
  have b3 : Below w.heap.size w (w2.alloc (.cells #[.int .i64 (wI c2 p2 i2), .int .i64 (wR c2 p2 i2), .int .i64 (wD c2 p2 i2)] 93)) := b2.alloc (by omega) _
  clear Y1 Y2 D1 b2
  generalize w2.alloc (.cells #[.int .i64 (wI c2 p2 i2), .int .i64 (wR c2 p2 i2), .int .i64 (wD c2 p2 i2)] 93) = w3 at *
  have y0 : w.heap.size < w3.heap.size := by omega
  have y1 : w.heap.size + 1 < w3.heap.size := by omega
  have y2 : w1.heap.size < w3.heap.size := by omega
  have X1 := Lib.hid Z1
  have X2 := Lib.hid Z2
  obtain ⟨a0, a1, a2, a3, a4, a5⟩ := Z1
  obtain ⟨e0, e1, e2, e3, e4, e5⟩ := Z2
  have g1 : IntKind.i64.wrap (r1 + wD c1 p1 i1) = r1 + wD c1 p1 i1 := IntWalk.i64_in _ (by omega)
  have g2 : IntKind.i64.wrap (r2 + wD c2 p2 i2) = r2 + wD c2 p2 i2 := IntWalk.i64_in _ (by omega)
  refine wp_region_quiet (C := fun W => Below w3.heap.size w3 W) (by kernel_rfl) (by kernel_rfl) (Below.refl _ _).drew ?_
  repeat (
    refine wpQuiet_step (fun K hK => ?_)
    go_simp
    first
      | (refine hK _ ?_; clear hK K)
      | (apply Exists.intro
         refine ⟨fun W q0 => ?_, hK _ ?_⟩
         (first
           | rfl
           | (have qc := (bcell q0).1; go_simp; rfl))
         clear hK K))
  refine wpQuiet_nil ?_
  intro w4 hb4
  clear g1 g2 a0 a1 a2 a3 a4 a5 e0 e1 e2 e3 e4 e5 D1' D2'
  have b4 := b3.trans (hb4.mono (by omega))
  have s4 := hb4.size
  have X1 := Lib.hid (X1.out.keep hb4 (by omega))
  have X2 := Lib.hid (X2.out.keep hb4 (by omega))
  clear b3 hb4 y2
  by_cases hs : r1 + wD c1 p1 i1 = r2 + wD c2 p2 i2
  · have hq : (r1 + wD c1 p1 i1 != r2 + wD c2 p2 i2) = false := by simp [hs]
    have HS := Lib.hid hs
    clear hs
    obtain ⟨a0, a1, a2, a3, a4, a5⟩ := X1.out
    obtain ⟨e0, e1, e2, e3, e4, e5⟩ := X2.out
    have x0 : w.heap.size < w4.heap.size := by omega
    have x1 : w.heap.size + 1 < w4.heap.size := by omega
    go_wp2_with fail
    refine wp_region_quiet (C := fun W => Below w4.heap.size w4 W) (by kernel_rfl) (by kernel_rfl) (Below.refl _ _).drew ?_
    repeat (
      refine wpQuiet_step (fun K hK => ?_)
      go_simp
      first
        | (refine hK _ ?_; clear hK K)
        | (apply Exists.intro
           refine ⟨fun W q0 => ?_, hK _ ?_⟩
           (first
             | rfl
             | (have qc := (bcell q0).1; go_simp; rfl)
             | (go_at_call 44; ((with_reducible refine (overlaps_any nm1 c1 p1 i1 _).mono ?_)); rintro e w5 ⟨rfl, hb5⟩; exact ⟨rfl, q0.trans (hb5.mono q0.size)⟩)
             | (go_at_call 44; ((with_reducible refine (overlaps_any nm2 c2 p2 i2 _).mono ?_)); rintro e w5 ⟨rfl, hb5⟩; exact ⟨rfl, q0.trans (hb5.mono q0.size)⟩))
           clear hK K))
    refine wpQuiet_nil ?_
    intro w5 hb5
    clear a0 a1 a2 a3 a4 a5 e0 e1 e2 e3 e4 e5
    have b5 := b4.trans (hb5.mono (by omega))
    have s5 := hb5.size
    have X1 := Lib.hid (X1.out.keep hb5 (by omega))
    have X2 := Lib.hid (X2.out.keep hb5 (by omega))
    clear b4 hb5
    have z0 : w.heap.size < w5.heap.size := by omega
    have z1 : w.heap.size + 1 < w5.heap.size := by omega
    obtain ⟨a0, a1, a2, a3, a4, a5⟩ := X1.out
    obtain ⟨e0, e1, e2, e3, e4, e5⟩ := X2.out
    cases ho1 : ovB c1 p1 i1 <;> cases ho2 : ovB c2 p2 i2
    · have HF := Lib.hid (bf5 (n1 := n1) (n2 := n2) HS.out ho1 ho2)
      clear ho1 ho2
      go_wp2_with fail
      go_ret
      exact ⟨ret_bool HF.out.symm, b5⟩
    · have HF := Lib.hid (bf2 (n1 := n1) (n2 := n2) HS.out ho1 ho2 (by decide))
      clear ho1 ho2
      go_wp2_with fail
      go_ret
      exact ⟨ret_bool HF.out.symm, b5⟩
    · have HF := Lib.hid (bf2 (n1 := n1) (n2 := n2) HS.out ho1 ho2 (by decide))
      clear ho1 ho2
      go_wp2_with fail
      go_ret
      exact ⟨ret_bool HF.out.symm, b5⟩
    · have HF3 := Lib.hid (bf3 (n1 := n1) (n2 := n2) HS.out ho1 ho2)
      have HF4 := Lib.hid (bf4 (n1 := n1) (n2 := n2) HS.out ho1 ho2)
      clear ho1 ho2
      go_wp2_with fail
      refine wp_region_quiet (C := fun W => Below w5.heap.size w5 W) (by kernel_rfl) (by kernel_rfl) (Below.refl _ _).drew ?_
      repeat (
        refine wpQuiet_step (fun K hK => ?_)
        go_simp
        first
          | (refine hK _ ?_; clear hK K)
          | (apply Exists.intro
             refine ⟨fun W q0 => ?_, hK _ ?_⟩
             (first
               | rfl
               | (have qc := (bcell q0).1; go_simp; rfl)
               | (go_at_call 45; ((with_reducible refine (ends_any n1 nm1 c1 p1 r1 i1 _ q1 q2).mono ?_)); rintro e w5 ⟨rfl, hb5⟩; exact ⟨rfl, q0.trans (hb5.mono q0.size)⟩)
               | (go_at_call 45; ((with_reducible refine (ends_any n2 nm2 c2 p2 r2 i2 _ q3 q4).mono ?_)); rintro e w5 ⟨rfl, hb5⟩; exact ⟨rfl, q0.trans (hb5.mono q0.size)⟩))
             clear hK K))
      refine wpQuiet_nil ?_
      intro w6 hb6
      clear a0 a1 a2 a3 a4 a5 e0 e1 e2 e3 e4 e5
      have b6 := b5.trans (hb6.mono (by omega))
      have s6 := hb6.size
      obtain ⟨a0, a1, a2, a3, a4, a5⟩ := X1.out.keep hb6 (by omega)
      obtain ⟨e0, e1, e2, e3, e4, e5⟩ := X2.out.keep hb6 (by omega)
      clear b5 hb6
      generalize endsV c1 p1 r1 i1 = E1 at *
      generalize endsV c2 p2 r2 i2 = E2 at *
      by_cases he : E1 = E2
      · have hq2 : (E1 != E2) = false := by simp [he]
        have HF := Lib.hid (HF4.out he)
        clear he HF3 HF4
        go_wp2_with fail
        go_ret
        exact ⟨ret_bool HF.out.symm, b6⟩
      · have hq2 : (E1 != E2) = true := by simp [he]
        have HF := Lib.hid (HF3.out he)
        clear he HF3 HF4
        go_wp2_with fail
        go_ret
        exact ⟨ret_bool HF.out.symm, b6⟩
  · have hq : (r1 + wD c1 p1 i1 != r2 + wD c2 p2 i2) = true := by simp [hs]
    have HF := Lib.hid (bf1 (n1 := n1) (n2 := n2) hs)
    clear hs
    go_wp2_with fail
    go_ret
    exact ⟨ret_bool HF.out.symm, b4⟩
end

section
open Go.RowKit Go.Deep
/-- A candidate that the walk can bear. -/
def CDok (x : CD) : Prop := wE x.c x.p x.i = 0 ∧ 0 ≤ x.r ∧ x.r ≤ 1000000
def ltC (x y : CD) : Bool := bfB x.num x.c x.p x.r x.i y.num y.c y.p y.r y.i

set_option maxRecDepth 100000 in
set_option maxHeartbeats 6400000 in
theorem ccmp_any (x y : CD) (w : World) (hx : CDok x) (hy : CDok y) (hne : x.num ≠ y.num) :
    Calls Tryz.prog 29 #[.agg #[.int .i64 (x.num : Int), .string x.nm, .int .i64 (x.c : Int), .int .i64 (x.p : Int), .int .i64 x.r, .int .i64 x.i], .agg #[.int .i64 (y.num : Int), .string y.nm, .int .i64 (y.c : Int), .int .i64 (y.p : Int), .int .i64 y.r, .int .i64 y.i]] w
      fun e w' => e = .returned (.int .i64 (if ltC x y = true then -1 else 1)) ∧ Below w.heap.size w w' := by
  obtain ⟨hx1, hx2, hx3⟩ := hx
  obtain ⟨hy1, hy2, hy3⟩ := hy
  have HB := Lib.hid (fun W => before_ok (x.num : Int) x.nm x.c x.p x.r x.i (y.num : Int) y.nm y.c y.p y.r y.i W hx1 hy1 (by omega) (by omega) (by omega) (by omega))
  have hl : bfB x.num x.c x.p x.r x.i y.num y.c y.p y.r y.i = ltC x y := rfl
  rw [hl] at HB
  obtain ⟨n1, m1, c1, p1, r1, i1⟩ := x
  obtain ⟨n2, m2, c2, p2, r2, i2⟩ := y
  simp only at hne HB ⊢
  generalize ltC ⟨n1, m1, c1, p1, r1, i1⟩ ⟨n2, m2, c2, p2, r2, i2⟩ = B at *
  have hneI : ((n1 : Int) == (n2 : Int)) = false := beq_eq_false_iff_ne.2 (by omega)
  have hneN : (n1 == n2) = false := beq_eq_false_iff_ne.2 hne
  clear hx1 hx2 hx3 hy1 hy2 hy3 hl hne
  go_enter Tryz.func29, Tryz.ntmps29
  go_wp2_with fail
  refine (HB.out _).mono ?_
  rintro e w1 ⟨rfl, hb1⟩
  have b1 : Below w.heap.size w w1 := (((Below.refl _ _).alloc (Nat.le_refl _) _).alloc (by simp) _).trans (hb1.mono (by simp; omega))
  clear HB hb1
  cases B with
  | true =>
    go_wp2_with fail
    go_ret
    exact ⟨rfl, b1⟩
  | false =>
    go_wp2_with fail
    go_ret
    exact ⟨rfl, b1⟩
end
end Go.Proofs.YtfoadipocpopiaaGreat
