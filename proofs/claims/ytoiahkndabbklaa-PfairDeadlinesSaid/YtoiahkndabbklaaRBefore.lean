/- The walk over the reference's Before, of valid candidates. Conditions: releases at most 2^40. -/
import Derived.Test.YtoiahkndabbklaaCandidate
namespace Go.Proofs.Ytoiahkndabbklaa
open Go.RowKit

def RCandAt (w : World) (b : Nat) (n c p r i : Int) : Prop :=
  w.cell? ⟨b, 0, none⟩ = some (.int .i64 n) ∧ w.cell? ⟨b, 1, none⟩ = some (.int .i64 c) ∧ w.cell? ⟨b, 2, none⟩ = some (.int .i64 p) ∧ w.cell? ⟨b, 3, none⟩ = some (.int .i64 r) ∧ w.cell? ⟨b, 4, none⟩ = some (.int .i64 i)
section
variable {w w' : World} {b : Nat} {n c p r i : Int}
theorem RCandAt.keep (h : RCandAt w b n c p r i) (hb : Below w.heap.size w w') (hlt : b < w.heap.size) : RCandAt w' b n c p r i := by
  obtain ⟨a0, a1, a2, a3, a4⟩ := h
  exact ⟨keep_cell hb hlt a0, keep_cell hb hlt a1, keep_cell hb hlt a2, keep_cell hb hlt a3, keep_cell hb hlt a4⟩
theorem RCandAt.alloc (h : RCandAt w b n c p r i) (hlt : b < w.heap.size) (o : Obj) : RCandAt (w.alloc o) b n c p r i := by
  obtain ⟨a0, a1, a2, a3, a4⟩ := h
  exact ⟨(World.cell?_alloc_lt _ _ _ hlt).trans a0, (World.cell?_alloc_lt _ _ _ hlt).trans a1, (World.cell?_alloc_lt _ _ _ hlt).trans a2, (World.cell?_alloc_lt _ _ _ hlt).trans a3, (World.cell?_alloc_lt _ _ _ hlt).trans a4⟩
theorem RCandAt.new (w : World) (n c p r i : Int) (t : TypeId) : RCandAt (w.alloc (.cells #[.int .i64 n, .int .i64 c, .int .i64 p, .int .i64 r, .int .i64 i] t)) w.heap.size n c p r i := by
  refine ⟨?_, ?_, ?_, ?_, ?_⟩ <;> simp [go_sem]
end
theorem ends_heavy {c p r i : Int} (h : hvB c p = true) : endsV c p r i = r + grp c p i := by simp [endsV, h]
theorem ends_light {c p r i : Int} (h : hvB c p = false) : endsV c p r i = 0 := by simp [endsV, h]

theorem rwindow_b (c p i : Int) (w : World) (hE : wE c p i = 0) :
    Calls Try.prog 18 #[.int .i64 c, .int .i64 p, .int .i64 i] w fun e w' => e = .returned (.tuple #[.int .i64 (wR c p i), .int .i64 (wD c p i)]) ∧ Below w.heap.size w w' :=
  (rwindow_any c p i w hE).mono fun e w' ⟨he, k, hk⟩ => ⟨he, by rw [hk]; exact below_drewN (Below.refl _ _) k⟩

set_option maxRecDepth 100000 in
set_option maxHeartbeats 6400000 in
/-- ref.Before of valid candidates. -/
theorem rbefore_ok (n1 c1 p1 r1 i1 n2 c2 p2 r2 i2 : Int) (w : World) (hE1 : wE c1 p1 i1 = 0) (hE2 : wE c2 p2 i2 = 0)
    (q1 : -1099511627776 ≤ r1) (q2 : r1 ≤ 1099511627776) (q3 : -1099511627776 ≤ r2) (q4 : r2 ≤ 1099511627776) :
    Calls Try.prog 24 #[.agg #[.int .i64 n1, .int .i64 c1, .int .i64 p1, .int .i64 r1, .int .i64 i1], .agg #[.int .i64 n2, .int .i64 c2, .int .i64 p2, .int .i64 r2, .int .i64 i2]] w
      fun e w' => e = .returned (.bool (bfB n1 c1 p1 r1 i1 n2 c2 p2 r2 i2)) ∧ Below w.heap.size w w' := by
  have H1 := Lib.hid hE1
  have H2 := Lib.hid hE2
  have d1 := wD_bd hE1
  have d2 := wD_bd hE2
  have v1 := wE0 hE1
  have v2 := wE0 hE2
  have V1 := Lib.hid (show vtB c1 p1 = true by simp [vtB]; omega)
  have V2 := Lib.hid (show vtB c2 p2 = true by simp [vtB]; omega)
  obtain ⟨d1a, d1b⟩ := d1
  obtain ⟨d2a, d2b⟩ := d2
  have u1 : p1 ≤ 1000 := v1.2.2.1
  have u2 : p2 ≤ 1000 := v2.2.2.1
  obtain ⟨k1a, k1b⟩ := grp_bd (c := c1) (p := p1) (i := i1)
  obtain ⟨k2a, k2b⟩ := grp_bd (c := c2) (p := p2) (i := i2)
  clear hE1 hE2 v1 v2
  go_enter Try.func24, Try.ntmps24
  go_wp2_with fail
  refine (rwindow_b c1 p1 i1 _ H1.out).mono ?_
  rintro e w1 ⟨rfl, hb1⟩
  have hz1 : w.heap.size + 1 < w1.heap.size := by have := hb1.size; simp at this; omega
  have A1 := ((RCandAt.new w n1 c1 p1 r1 i1 47).alloc (by simp) _).keep hb1 (by simp; omega)
  have A2 := (RCandAt.new (w.alloc _) n2 c2 p2 r2 i2 47).keep hb1 (by simp)
  simp only [World.size_alloc] at A2
  have b1 : Below w.heap.size w w1 := (((Below.refl _ _).alloc (Nat.le_refl _) _).alloc (by simp) _).trans (hb1.mono (by simp; omega))
  clear hb1
  have X1 := Lib.hid A1
  have X2 := Lib.hid A2
  clear A1 A2
  obtain ⟨a0, a1, a2, a3, a4⟩ := X1.out
  obtain ⟨e0, e1, e2, e3, e4⟩ := X2.out
  go_wp2_with fail
  refine (rwindow_b c2 p2 i2 _ H2.out).mono ?_
  rintro e w2 ⟨rfl, hb2⟩
  clear a0 a1 a2 a3 a4 e0 e1 e2 e3 e4
  have s2 := hb2.size
  have X1 := Lib.hid (X1.out.keep hb2 (by omega))
  have X2 := Lib.hid (X2.out.keep hb2 (by omega))
  have b2 := b1.trans (hb2.mono (by omega))
  clear b1 hb2
  have x0 : w.heap.size < w2.heap.size := by omega
  have x1 : w.heap.size + 1 < w2.heap.size := by omega
  obtain ⟨a0, a1, a2, a3, a4⟩ := X1.out
  obtain ⟨e0, e1, e2, e3, e4⟩ := X2.out
  have g1 : IntKind.i64.wrap (r1 + wD c1 p1 i1) = r1 + wD c1 p1 i1 := IntWalk.i64_in _ (by omega)
  have g2 : IntKind.i64.wrap (r2 + wD c2 p2 i2) = r2 + wD c2 p2 i2 := IntWalk.i64_in _ (by omega)
  by_cases hs : r1 + wD c1 p1 i1 = r2 + wD c2 p2 i2
  · have hq : (r1 + wD c1 p1 i1 != r2 + wD c2 p2 i2) = false := by simp [hs]
    have HS := Lib.hid hs
    clear hs
    go_wp2_with fail
    clear g1 g2
    refine wp_region_quiet (C := fun W => Below w2.heap.size w2 W) (by kernel_rfl) (by kernel_rfl) (Below.refl _ _).drew ?_
    repeat (
      refine wpQuiet_step (fun K hK => ?_)
      go_simp
      first
        | (refine hK _ ?_; clear hK K)
        | (apply Exists.intro
           refine ⟨fun W q0 => ?_, hK _ ?_⟩
           (first
             | rfl
             | (have qc := (bcell q0).1; go_simp; rfl)
             | (go_at_call 19; ((with_reducible refine (roverlaps_any c1 p1 i1 _ H1.out).mono ?_)); rintro e w' ⟨rfl, rfl⟩; exact ⟨rfl, q0⟩)
             | (go_at_call 19; ((with_reducible refine (roverlaps_any c2 p2 i2 _ H2.out).mono ?_)); rintro e w' ⟨rfl, rfl⟩; exact ⟨rfl, q0⟩))
           clear hK K))
    refine wpQuiet_nil ?_
    intro w3 hb3
    clear a0 a1 a2 a3 a4 e0 e1 e2 e3 e4
    have b3 := b2.trans (hb3.mono (by omega))
    have s3 := hb3.size
    have X1 := Lib.hid (X1.out.keep hb3 (by omega))
    have X2 := Lib.hid (X2.out.keep hb3 (by omega))
    clear b2 hb3
    have z0 : w.heap.size < w3.heap.size := by omega
    have z1 : w.heap.size + 1 < w3.heap.size := by omega
    obtain ⟨a0, a1, a2, a3, a4⟩ := X1.out
    obtain ⟨e0, e1, e2, e3, e4⟩ := X2.out
    cases ho1 : ovB c1 p1 i1 <;> cases ho2 : ovB c2 p2 i2
    · have HF := Lib.hid (bf5 (n1 := n1) (n2 := n2) HS.out ho1 ho2)
      clear ho1 ho2
      go_wp2_with fail
      go_ret
      exact ⟨ret_bool HF.out.symm, b3⟩
    · have HF := Lib.hid (bf2 (n1 := n1) (n2 := n2) HS.out ho1 ho2 (by decide))
      clear ho1 ho2
      go_wp2_with fail
      go_ret
      exact ⟨ret_bool HF.out.symm, b3⟩
    · have HF := Lib.hid (bf2 (n1 := n1) (n2 := n2) HS.out ho1 ho2 (by decide))
      clear ho1 ho2
      go_wp2_with fail
      go_ret
      exact ⟨ret_bool HF.out.symm, b3⟩
    · have HF3 := Lib.hid (bf3 (n1 := n1) (n2 := n2) HS.out ho1 ho2)
      have HF4 := Lib.hid (bf4 (n1 := n1) (n2 := n2) HS.out ho1 ho2)
      clear ho1 ho2
      have hw1 : IntKind.i64.wrap (r1 + grp c1 p1 i1) = r1 + grp c1 p1 i1 := IntWalk.i64_in _ (by omega)
      have hw2 : IntKind.i64.wrap (r2 + grp c2 p2 i2) = r2 + grp c2 p2 i2 := IntWalk.i64_in _ (by omega)
      cases hv1 : hvB c1 p1 <;> cases hv2 : hvB c2 p2
      · have T1 := Lib.hid (ends_light (r := r1) (i := i1) hv1)
        have T2 := Lib.hid (ends_light (r := r2) (i := i2) hv2)
        have HF3 := Lib.hid (by have h := HF3.out; rw [T1.out, T2.out] at h; exact h)
        have HF4 := Lib.hid (by have h := HF4.out; rw [T1.out, T2.out] at h; exact h)
        have G1 := Lib.hid hv1
        have G2 := Lib.hid hv2
        clear hv1 hv2 T1 T2
        go_wp2_with fail
        refine (rheavy_any c1 p1 _ V1.out).mono ?_
        rintro e w' ⟨rfl, rfl⟩
        rw [G1.out]
        go_wp2_with fail
        refine (rheavy_any c2 p2 _ V2.out).mono ?_
        rintro e w' ⟨rfl, rfl⟩
        rw [G2.out]
        go_wp2_with fail
        have HF := Lib.hid (HF4.out (by trivial))
        go_wp2_with fail
        go_ret
        exact ⟨ret_bool HF.out.symm, b3⟩
      · have T1 := Lib.hid (ends_light (r := r1) (i := i1) hv1)
        have T2 := Lib.hid (ends_heavy (r := r2) (i := i2) hv2)
        have HF3 := Lib.hid (by have h := HF3.out; rw [T1.out, T2.out] at h; exact h)
        have HF4 := Lib.hid (by have h := HF4.out; rw [T1.out, T2.out] at h; exact h)
        have G1 := Lib.hid hv1
        have G2 := Lib.hid hv2
        clear hv1 hv2 T1 T2
        go_wp2_with fail
        refine (rheavy_any c1 p1 _ V1.out).mono ?_
        rintro e w' ⟨rfl, rfl⟩
        rw [G1.out]
        go_wp2_with fail
        refine (rheavy_any c2 p2 _ V2.out).mono ?_
        rintro e w' ⟨rfl, rfl⟩
        rw [G2.out]
        go_wp2_with fail
        refine wp_region_quiet (C := fun W => Below w3.heap.size w3 W) (by kernel_rfl) (by kernel_rfl) (Below.refl _ _).drew ?_
        repeat (
          refine wpQuiet_step (fun K hK => ?_)
          go_simp
          first
            | (refine hK _ ?_; clear hK K)
            | (apply Exists.intro
               refine ⟨fun W q0 => ?_, hK _ ?_⟩
               (first
                 | rfl
                 | (have qc := (bcell q0).1; go_simp; rfl)
                 | (go_at_call 20; ((with_reducible refine (rgroup_any c2 p2 i2 _ H2.out).mono ?_)); rintro e w' ⟨rfl, hb5⟩; exact ⟨rfl, q0.trans (hb5.below.mono q0.size)⟩))
               clear hK K))
        refine wpQuiet_nil ?_
        intro w5 hb5
        clear a0 a1 a2 a3 a4 e0 e1 e2 e3 e4
        have b5 := b3.trans (hb5.mono (by omega))
        have s5 := hb5.size
        have X1 := Lib.hid (X1.out.keep hb5 (by omega))
        have X2 := Lib.hid (X2.out.keep hb5 (by omega))
        clear b3 hb5
        obtain ⟨a0, a1, a2, a3, a4⟩ := X1.out
        obtain ⟨e0, e1, e2, e3, e4⟩ := X2.out
        rcases Int.lt_trichotomy (0) (r2 + grp c2 p2 i2) with he | he | he
        · have HF := Lib.hid (HF3.out (Int.ne_of_lt he))
          clear HF3 HF4
          go_wp2_with fail
          all_goals
            go_ret
            exact ⟨ret_bool (by rw [HF.out] <;> first | rfl | (exfalso; omega) | (exfalso; rename_i hx; rw [hq2] at hx; cases hx) | (symm; rw [decide_eq_true_iff] <;> omega) | (symm; rw [decide_eq_false_iff_not] <;> omega)), b5⟩
        · have HF := Lib.hid (HF4.out he)
          have hq2 : ((0 : Int) != r2 + grp c2 p2 i2) = false := by simp [he]
          have he1 : 0 ≤ r2 + grp c2 p2 i2 := by omega
          have he2 : r2 + grp c2 p2 i2 ≤ 0 := by omega
          clear he HF3 HF4
          go_wp2_with fail
          all_goals
            go_ret
            exact ⟨ret_bool (by rw [HF.out] <;> first | rfl | (exfalso; omega) | (exfalso; rename_i hx; rw [hq2] at hx; cases hx) | (symm; rw [decide_eq_true_iff] <;> omega) | (symm; rw [decide_eq_false_iff_not] <;> omega)), b5⟩
        · have HF := Lib.hid (HF3.out (Int.ne_of_gt he))
          clear HF3 HF4
          go_wp2_with fail
          all_goals
            go_ret
            exact ⟨ret_bool (by rw [HF.out] <;> first | rfl | (exfalso; omega) | (exfalso; rename_i hx; rw [hq2] at hx; cases hx) | (symm; rw [decide_eq_true_iff] <;> omega) | (symm; rw [decide_eq_false_iff_not] <;> omega)), b5⟩
      · have T1 := Lib.hid (ends_heavy (r := r1) (i := i1) hv1)
        have T2 := Lib.hid (ends_light (r := r2) (i := i2) hv2)
        have HF3 := Lib.hid (by have h := HF3.out; rw [T1.out, T2.out] at h; exact h)
        have HF4 := Lib.hid (by have h := HF4.out; rw [T1.out, T2.out] at h; exact h)
        have G1 := Lib.hid hv1
        have G2 := Lib.hid hv2
        clear hv1 hv2 T1 T2
        go_wp2_with fail
        refine (rheavy_any c1 p1 _ V1.out).mono ?_
        rintro e w' ⟨rfl, rfl⟩
        rw [G1.out]
        go_wp2_with fail
        refine wp_region_quiet (C := fun W => Below w3.heap.size w3 W) (by kernel_rfl) (by kernel_rfl) (Below.refl _ _).drew ?_
        repeat (
          refine wpQuiet_step (fun K hK => ?_)
          go_simp
          first
            | (refine hK _ ?_; clear hK K)
            | (apply Exists.intro
               refine ⟨fun W q0 => ?_, hK _ ?_⟩
               (first
                 | rfl
                 | (have qc := (bcell q0).1; go_simp; rfl)
                 | (go_at_call 20; ((with_reducible refine (rgroup_any c1 p1 i1 _ H1.out).mono ?_)); rintro e w' ⟨rfl, hb5⟩; exact ⟨rfl, q0.trans (hb5.below.mono q0.size)⟩))
               clear hK K))
        refine wpQuiet_nil ?_
        intro w4 hb4
        clear a0 a1 a2 a3 a4 e0 e1 e2 e3 e4 hw1
        have b4 := b3.trans (hb4.mono (by omega))
        have s4 := hb4.size
        have X1 := Lib.hid (X1.out.keep hb4 (by omega))
        have X2 := Lib.hid (X2.out.keep hb4 (by omega))
        clear b3 hb4
        have z2 : w.heap.size < w4.heap.size := by omega
        have z3 : w.heap.size + 1 < w4.heap.size := by omega
        obtain ⟨a0, a1, a2, a3, a4⟩ := X1.out
        obtain ⟨e0, e1, e2, e3, e4⟩ := X2.out
        go_wp2_with fail
        refine (rheavy_any c2 p2 _ V2.out).mono ?_
        rintro e w' ⟨rfl, rfl⟩
        rw [G2.out]
        rcases Int.lt_trichotomy (r1 + grp c1 p1 i1) (0) with he | he | he
        · have HF := Lib.hid (HF3.out (Int.ne_of_lt he))
          clear HF3 HF4
          go_wp2_with fail
          all_goals
            go_ret
            exact ⟨ret_bool (by rw [HF.out] <;> first | rfl | (exfalso; omega) | (exfalso; rename_i hx; rw [hq2] at hx; cases hx) | (symm; rw [decide_eq_true_iff] <;> omega) | (symm; rw [decide_eq_false_iff_not] <;> omega)), b4⟩
        · have HF := Lib.hid (HF4.out he)
          have hq2 : ((r1 + grp c1 p1 i1 : Int) != 0) = false := by simp [he]
          have he1 : r1 + grp c1 p1 i1 ≤ 0 := by omega
          have he2 : 0 ≤ r1 + grp c1 p1 i1 := by omega
          clear he HF3 HF4
          go_wp2_with fail
          all_goals
            go_ret
            exact ⟨ret_bool (by rw [HF.out] <;> first | rfl | (exfalso; omega) | (exfalso; rename_i hx; rw [hq2] at hx; cases hx) | (symm; rw [decide_eq_true_iff] <;> omega) | (symm; rw [decide_eq_false_iff_not] <;> omega)), b4⟩
        · have HF := Lib.hid (HF3.out (Int.ne_of_gt he))
          clear HF3 HF4
          go_wp2_with fail
          all_goals
            go_ret
            exact ⟨ret_bool (by rw [HF.out] <;> first | rfl | (exfalso; omega) | (exfalso; rename_i hx; rw [hq2] at hx; cases hx) | (symm; rw [decide_eq_true_iff] <;> omega) | (symm; rw [decide_eq_false_iff_not] <;> omega)), b4⟩
      · have T1 := Lib.hid (ends_heavy (r := r1) (i := i1) hv1)
        have T2 := Lib.hid (ends_heavy (r := r2) (i := i2) hv2)
        have HF3 := Lib.hid (by have h := HF3.out; rw [T1.out, T2.out] at h; exact h)
        have HF4 := Lib.hid (by have h := HF4.out; rw [T1.out, T2.out] at h; exact h)
        have G1 := Lib.hid hv1
        have G2 := Lib.hid hv2
        clear hv1 hv2 T1 T2
        go_wp2_with fail
        refine (rheavy_any c1 p1 _ V1.out).mono ?_
        rintro e w' ⟨rfl, rfl⟩
        rw [G1.out]
        go_wp2_with fail
        refine wp_region_quiet (C := fun W => Below w3.heap.size w3 W) (by kernel_rfl) (by kernel_rfl) (Below.refl _ _).drew ?_
        repeat (
          refine wpQuiet_step (fun K hK => ?_)
          go_simp
          first
            | (refine hK _ ?_; clear hK K)
            | (apply Exists.intro
               refine ⟨fun W q0 => ?_, hK _ ?_⟩
               (first
                 | rfl
                 | (have qc := (bcell q0).1; go_simp; rfl)
                 | (go_at_call 20; ((with_reducible refine (rgroup_any c1 p1 i1 _ H1.out).mono ?_)); rintro e w' ⟨rfl, hb5⟩; exact ⟨rfl, q0.trans (hb5.below.mono q0.size)⟩))
               clear hK K))
        refine wpQuiet_nil ?_
        intro w4 hb4
        clear a0 a1 a2 a3 a4 e0 e1 e2 e3 e4 hw1
        have b4 := b3.trans (hb4.mono (by omega))
        have s4 := hb4.size
        have X1 := Lib.hid (X1.out.keep hb4 (by omega))
        have X2 := Lib.hid (X2.out.keep hb4 (by omega))
        clear b3 hb4
        have z2 : w.heap.size < w4.heap.size := by omega
        have z3 : w.heap.size + 1 < w4.heap.size := by omega
        obtain ⟨a0, a1, a2, a3, a4⟩ := X1.out
        obtain ⟨e0, e1, e2, e3, e4⟩ := X2.out
        go_wp2_with fail
        refine (rheavy_any c2 p2 _ V2.out).mono ?_
        rintro e w' ⟨rfl, rfl⟩
        rw [G2.out]
        go_wp2_with fail
        refine wp_region_quiet (C := fun W => Below w4.heap.size w4 W) (by kernel_rfl) (by kernel_rfl) (Below.refl _ _).drew ?_
        repeat (
          refine wpQuiet_step (fun K hK => ?_)
          go_simp
          first
            | (refine hK _ ?_; clear hK K)
            | (apply Exists.intro
               refine ⟨fun W q0 => ?_, hK _ ?_⟩
               (first
                 | rfl
                 | (have qc := (bcell q0).1; go_simp; rfl)
                 | (go_at_call 20; ((with_reducible refine (rgroup_any c2 p2 i2 _ H2.out).mono ?_)); rintro e w' ⟨rfl, hb5⟩; exact ⟨rfl, q0.trans (hb5.below.mono q0.size)⟩))
               clear hK K))
        refine wpQuiet_nil ?_
        intro w5 hb5
        clear a0 a1 a2 a3 a4 e0 e1 e2 e3 e4
        have b5 := b4.trans (hb5.mono (by omega))
        have s5 := hb5.size
        have X1 := Lib.hid (X1.out.keep hb5 (by omega))
        have X2 := Lib.hid (X2.out.keep hb5 (by omega))
        clear b4 hb5
        obtain ⟨a0, a1, a2, a3, a4⟩ := X1.out
        obtain ⟨e0, e1, e2, e3, e4⟩ := X2.out
        rcases Int.lt_trichotomy (r1 + grp c1 p1 i1) (r2 + grp c2 p2 i2) with he | he | he
        · have HF := Lib.hid (HF3.out (Int.ne_of_lt he))
          clear HF3 HF4
          go_wp2_with fail
          all_goals
            go_ret
            exact ⟨ret_bool (by rw [HF.out] <;> first | rfl | (exfalso; omega) | (exfalso; rename_i hx; rw [hq2] at hx; cases hx) | (symm; rw [decide_eq_true_iff] <;> omega) | (symm; rw [decide_eq_false_iff_not] <;> omega)), b5⟩
        · have HF := Lib.hid (HF4.out he)
          have hq2 : ((r1 + grp c1 p1 i1 : Int) != r2 + grp c2 p2 i2) = false := by simp [he]
          have he1 : r1 + grp c1 p1 i1 ≤ r2 + grp c2 p2 i2 := by omega
          have he2 : r2 + grp c2 p2 i2 ≤ r1 + grp c1 p1 i1 := by omega
          clear he HF3 HF4
          go_wp2_with fail
          all_goals
            go_ret
            exact ⟨ret_bool (by rw [HF.out] <;> first | rfl | (exfalso; omega) | (exfalso; rename_i hx; rw [hq2] at hx; cases hx) | (symm; rw [decide_eq_true_iff] <;> omega) | (symm; rw [decide_eq_false_iff_not] <;> omega)), b5⟩
        · have HF := Lib.hid (HF3.out (Int.ne_of_gt he))
          clear HF3 HF4
          go_wp2_with fail
          all_goals
            go_ret
            exact ⟨ret_bool (by rw [HF.out] <;> first | rfl | (exfalso; omega) | (exfalso; rename_i hx; rw [hq2] at hx; cases hx) | (symm; rw [decide_eq_true_iff] <;> omega) | (symm; rw [decide_eq_false_iff_not] <;> omega)), b5⟩
  · have hq : (r1 + wD c1 p1 i1 != r2 + wD c2 p2 i2) = true := by simp [hs]
    have HF := Lib.hid (bf1 (n1 := n1) (n2 := n2) hs)
    clear hs
    go_wp2_with fail
    go_ret
    exact ⟨ret_bool HF.out.symm, b2⟩
end Go.Proofs.Ytoiahkndabbklaa
