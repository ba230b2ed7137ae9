/- Walks over pfair.ends, pfair.Before and their reference; the order as a plain predicate. Conditions: releases at most 2^40 where they are added. -/
import Derived.Test.YtoiahkndabbklaaLawScales
namespace Go.Proofs.Ytoiahkndabbklaa
open Go.RowKit

def endsV (c p r i : Int) : Int := if hvB c p then r + grp c p i else 0
def o01 (b : Bool) : Int := if b then 1 else 0
/-- Priority, as the chapter orders it. -/
def bfP (n1 c1 p1 r1 i1 n2 c2 p2 r2 i2 : Int) : Prop :=
  r1 + wD c1 p1 i1 < r2 + wD c2 p2 i2 ∨ (r1 + wD c1 p1 i1 = r2 + wD c2 p2 i2 ∧
    (o01 (ovB c2 p2 i2) < o01 (ovB c1 p1 i1) ∨ (o01 (ovB c1 p1 i1) = o01 (ovB c2 p2 i2) ∧
      ((o01 (ovB c1 p1 i1) = 1 ∧ endsV c2 p2 r2 i2 < endsV c1 p1 r1 i1) ∨ ((o01 (ovB c1 p1 i1) = 0 ∨ endsV c1 p1 r1 i1 = endsV c2 p2 r2 i2) ∧ n1 < n2)))))
instance (n1 c1 p1 r1 i1 n2 c2 p2 r2 i2 : Int) : Decidable (bfP n1 c1 p1 r1 i1 n2 c2 p2 r2 i2) := by unfold bfP; infer_instance
def bfB (n1 c1 p1 r1 i1 n2 c2 p2 r2 i2 : Int) : Bool := decide (bfP n1 c1 p1 r1 i1 n2 c2 p2 r2 i2)

def CandAt (w : World) (b : Nat) (n : Int) (nm : ByteArray) (c p r i : Int) : Prop :=
  w.cell? ⟨b, 0, none⟩ = some (.int .i64 n) ∧ w.cell? ⟨b, 1, none⟩ = some (.string nm) ∧ w.cell? ⟨b, 2, none⟩ = some (.int .i64 c) ∧ w.cell? ⟨b, 3, none⟩ = some (.int .i64 p) ∧ w.cell? ⟨b, 4, none⟩ = some (.int .i64 r) ∧ w.cell? ⟨b, 5, none⟩ = some (.int .i64 i)
section
variable {w w' : World} {b : Nat} {n : Int} {nm : ByteArray} {c p r i : Int}
theorem CandAt.keep (h : CandAt w b n nm c p r i) (hb : Below w.heap.size w w') (hlt : b < w.heap.size) : CandAt w' b n nm c p r i := by
  obtain ⟨a0, a1, a2, a3, a4, a5⟩ := h
  exact ⟨keep_cell hb hlt a0, keep_cell hb hlt a1, keep_cell hb hlt a2, keep_cell hb hlt a3, keep_cell hb hlt a4, keep_cell hb hlt a5⟩
theorem CandAt.alloc (h : CandAt w b n nm c p r i) (hlt : b < w.heap.size) (o : Obj) : CandAt (w.alloc o) b n nm c p r i := by
  obtain ⟨a0, a1, a2, a3, a4, a5⟩ := h
  exact ⟨(World.cell?_alloc_lt _ _ _ hlt).trans a0, (World.cell?_alloc_lt _ _ _ hlt).trans a1, (World.cell?_alloc_lt _ _ _ hlt).trans a2, (World.cell?_alloc_lt _ _ _ hlt).trans a3, (World.cell?_alloc_lt _ _ _ hlt).trans a4, (World.cell?_alloc_lt _ _ _ hlt).trans a5⟩
theorem CandAt.new (w : World) (n : Int) (nm : ByteArray) (c p r i : Int) (t : TypeId) : CandAt (w.alloc (.cells #[.int .i64 n, .string nm, .int .i64 c, .int .i64 p, .int .i64 r, .int .i64 i] t)) w.heap.size n nm c p r i := by
  refine ⟨?_, ?_, ?_, ?_, ?_, ?_⟩ <;> simp [go_sem]
end

theorem grp_bd {c p i : Int} : 0 ≤ grp c p i ∧ grp c p i ≤ 1000 := by
  by_cases h : wE c p i = 0 ∧ hvB c p = true
  · obtain ⟨a1, a2, _, _⟩ := grp_spec h.2 h.1
    obtain ⟨b1, b2, b3, b4⟩ := hv_bd h.2
    have := (wD_bd h.1).1
    omega
  · simp [grp, h]

set_option maxHeartbeats 1600000 in
/-- pfair.ends. -/
theorem ends_any (n : Int) (nm : ByteArray) (c p r i : Int) (w : World) (h0 : -1099511627776 ≤ r) (h1 : r ≤ 1099511627776) :
    Calls Try.prog 31 #[.agg #[.int .i64 n, .string nm, .int .i64 c, .int .i64 p, .int .i64 r, .int .i64 i]] w fun e w' => e = .returned (.int .i64 (endsV c p r i)) ∧ Below w.heap.size w w' := by
  cases hv : hvB c p
  · have HF := Lib.hid (show endsV c p r i = 0 by simp [endsV, hv])
    have HV := Lib.hid hv
    clear hv
    go_enter Try.func31, Try.ntmps31
    go_wp2_with fail
    refine (heavy_any nm c p _).mono ?_
    rintro e w1 ⟨rfl, hb1⟩
    rw [HV.out]
    go_wp2_with fail
    go_ret
    exact ⟨ret_int HF.out.symm, ((Below.refl _ _).alloc (Nat.le_refl _) _).trans (hb1.mono (by simp))⟩
  · have HF := Lib.hid (show endsV c p r i = r + grp c p i by simp [endsV, hv])
    have HV := Lib.hid hv
    clear hv
    obtain ⟨g0, g1⟩ := grp_bd (c := c) (p := p) (i := i)
    go_enter Try.func31, Try.ntmps31
    go_wp2_with fail
    refine (heavy_any nm c p _).mono ?_
    rintro e w1 ⟨rfl, hb1⟩
    rw [HV.out]
    have hz1 : w.heap.size < w1.heap.size := by have := hb1.size; simp at this; omega
    obtain ⟨a0, a1, a2, a3, a4, a5⟩ := (CandAt.new w n nm c p r i 42).keep hb1 (by simp)
    have b1 : Below w.heap.size w w1 := ((Below.refl _ _).alloc (Nat.le_refl _) _).trans (hb1.mono (by simp))
    clear hb1
    have hw : IntKind.i64.wrap (r + grp c p i) = r + grp c p i := IntWalk.i64_in _ (by omega)
    go_wp2_with fail
    refine wp_region_quiet (C := fun W => Below w1.heap.size w1 W) (by kernel_rfl) (by kernel_rfl) (Below.refl _ _).drew ?_
    repeat (
      refine wpQuiet_step (fun K hK => ?_)
      go_simp
      first
        | (refine hK _ ?_; clear hK K)
        | (apply Exists.intro
           refine ⟨fun W q0 => ?_, hK _ ?_⟩
           (first
             | rfl
             | (have qc := (bcell q0).1; go_simp; rfl)
             | (go_at_call 17; ((with_reducible refine (group_any nm c p i _).mono ?_)); rintro e w5 ⟨rfl, hb5⟩; exact ⟨rfl, q0.trans (hb5.mono q0.size)⟩))
           clear hK K))
    refine wpQuiet_nil ?_
    intro W hW
    go_wp2_with fail
    go_ret
    exact ⟨ret_int HF.out.symm, b1.trans (hW.mono (by omega))⟩

/-- pfair.Before of candidates that are not valid. -/
theorem before_err (n1 : Int) (nm1 : ByteArray) (c1 p1 r1 i1 n2 : Int) (nm2 : ByteArray) (c2 p2 r2 i2 : Int) (w : World) (h : ¬ (wE c1 p1 i1 = 0 ∧ wE c2 p2 i2 = 0)) :
    Calls Try.prog 22 #[.agg #[.int .i64 n1, .string nm1, .int .i64 c1, .int .i64 p1, .int .i64 r1, .int .i64 i1], .agg #[.int .i64 n2, .string nm2, .int .i64 c2, .int .i64 p2, .int .i64 r2, .int .i64 i2]] w
      fun e w' => e = .returned (.bool false) ∧ Below w.heap.size w w' := by
  by_cases h1 : wE c1 p1 i1 = 0
  · have h2 : (wE c2 p2 i2 != 0) = true := by simp; exact fun e => h ⟨h1, e⟩
    have H1 := Lib.hid h1
    clear h h1
    go_enter Try.func22, Try.ntmps22
    go_wp2_with fail
    refine (window_any nm1 c1 p1 i1 _).mono ?_
    rintro e w1 ⟨rfl, hb1⟩
    rw [H1.out]
    have hz1 : w.heap.size + 1 < w1.heap.size := by have := hb1.size; simp at this; omega
    obtain ⟨a0, a1, a2, a3, a4, a5⟩ := (CandAt.new (w.alloc _) n2 nm2 c2 p2 r2 i2 42).keep hb1 (by simp)
    simp only [World.size_alloc] at a0 a1 a2 a3 a4 a5
    have b1 : Below w.heap.size w w1 := (((Below.refl _ _).alloc (Nat.le_refl _) _).alloc (by simp) _).trans (hb1.mono (by simp; omega))
    clear hb1
    go_wp2_with fail
    refine (window_any nm2 c2 p2 i2 _).mono ?_
    rintro e w2 ⟨rfl, hb2⟩
    go_wp2_with fail
    go_ret
    have hs := hb2.size
    simp at hs
    exact ⟨rfl, ((b1.alloc (by omega) _).trans (hb2.mono (by simp; omega))).alloc (by omega) _⟩
  · have h2 : (wE c1 p1 i1 != 0) = true := by simp [h1]
    clear h h1
    go_enter Try.func22, Try.ntmps22
    go_wp2_with fail
    refine (window_any nm1 c1 p1 i1 _).mono ?_
    rintro e w1 ⟨rfl, hb1⟩
    have hz1 : w.heap.size + 1 < w1.heap.size := by have := hb1.size; simp at this; omega
    have b1 : Below w.heap.size w w1 := (((Below.refl _ _).alloc (Nat.le_refl _) _).alloc (by simp) _).trans (hb1.mono (by simp; omega))
    clear hb1
    go_wp2_with fail
    go_ret
    exact ⟨rfl, b1.alloc (by omega) _⟩
end Go.Proofs.Ytoiahkndabbklaa
