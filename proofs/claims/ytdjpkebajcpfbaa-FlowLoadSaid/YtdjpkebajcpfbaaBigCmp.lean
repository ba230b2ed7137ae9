/- The walks over bigint.Int's Cmp and Int. Conditions: the integers lie in memory. -/
import Derived.Test.YtdjpkebajcpfbaaBigDiv
namespace Go.Proofs.Ytdjpkebajcpfbaa
open Go.RowKit Go.Deep

def cmpZ (a b : Int) : Int := if a < b then -1 else if b < a then 1 else 0
theorem cmpZ_sgn_pos (a b : Nat) : cmpZ (sgn false a) (sgn false b) = cmpN a b := by
  unfold cmpZ cmpN sgn
  simp
theorem cmpZ_sgn_neg (a b : Nat) : cmpZ (sgn true a) (sgn true b) = cmpN b a := by
  have h1 : (-(a : Int) < -(b : Int)) ↔ b < a := by omega
  have h2 : (-(b : Int) < -(a : Int)) ↔ a < b := by omega
  simp only [cmpZ, cmpN, sgn, if_true, h1, h2]
theorem cmpZ_sg_lt {a b : Int} (h : sg a < sg b) : cmpZ a b = -1 := by
  unfold cmpZ
  rw [if_pos]
  unfold sg at h
  split at h <;> split at h <;> (try split at h) <;> (try split at h) <;> omega
theorem cmpZ_sg_gt {a b : Int} (h : sg b < sg a) : cmpZ a b = 1 := by
  have hh : b < a := by
    unfold sg at h
    split at h <;> split at h <;> (try split at h) <;> (try split at h) <;> omega
  unfold cmpZ
  rw [if_neg (by omega), if_pos hh]
theorem sg_ne_neg (a : Nat) : sg (sgn false a) ≠ -1 := by
  rcases Nat.eq_zero_or_pos a with e | e
  · subst e; decide
  · rw [sg_pos (by simp only [sgn]; simpa using e)]; decide
theorem sg_eq_cases {xg yg : Bool} {a b : Nat} (hx : xg = true → 0 < a) (hy : yg = true → 0 < b) (h : sg (sgn xg a) = sg (sgn yg b)) : xg = yg := by
  cases xg <;> cases yg
  · rfl
  · have h1 := hy rfl
    rw [sg_neg (z := sgn true b) (by simp only [sgn, if_true]; omega)] at h
    exact absurd h (sg_ne_neg a)
  · have h1 := hx rfl
    rw [sg_neg (z := sgn true a) (by simp only [sgn, if_true]; omega)] at h
    exact absurd h.symm (sg_ne_neg b)
  · rfl

def SC (w : World) (xg yg : Bool) (xa ya : Option Addr) (xn xc yn yc : Nat) (W : World) : Prop := Below w.heap.size w W ∧ w.heap.size + 1 < W.heap.size ∧ W.cell? ⟨w.heap.size, 0, none⟩ = some (.bool xg) ∧ W.cell? ⟨w.heap.size, 1, none⟩ = some (.slice xa xn xc) ∧ W.cell? ⟨w.heap.size + 1, 0, none⟩ = some (.bool yg) ∧ W.cell? ⟨w.heap.size + 1, 1, none⟩ = some (.slice ya yn yc)
section
variable {w W W' : World} {xg yg : Bool} {xa ya : Option Addr} {xn xc yn yc : Nat}
theorem SC.start : SC w xg yg xa ya xn xc yn yc ((w.alloc (.cells #[.bool xg, .slice xa xn xc] 54)).alloc (.cells #[.bool yg, .slice ya yn yc] 54)) := by
  refine ⟨((Below.refl w.heap.size w).alloc (Nat.le_refl _) _).alloc (by simp) _, by simp, ?_, ?_, ?_, ?_⟩
  all_goals simp [go_sem]
theorem SC.next (h : SC w xg yg xa ya xn xc yn yc W) (hb : Below W.heap.size W W') : SC w xg yg xa ya xn xc yn yc W' := by
  obtain ⟨h1, h2, h3, h4, h5, h6⟩ := h
  exact ⟨h1.trans (hb.mono h1.size), by have := hb.size; omega, keep_cell hb (by omega) h3, keep_cell hb (by omega) h4, keep_cell hb (by omega) h5, keep_cell hb (by omega) h6⟩
theorem SC.drew (h : SC w xg yg xa ya xn xc yn yc W) : SC w xg yg xa ya xn xc yn yc W.drew := h.next (Below.refl _ _).drew
end

set_option maxRecDepth 100000 in
set_option maxHeartbeats 6400000 in
theorem cmp_any (x y : Value) (a b : Int) (K : Nat) (w : World) (hK : K ≤ 10000) (hx : IntV w w.heap.size x a K) (hy : IntV w w.heap.size y b K) :
    Calls Try.prog 45 #[x, y] w fun e w' => e = .returned (.int .i64 (cmpZ a b)) ∧ Below w.heap.size w w' := by
  have HX := fun W => sign_any x a K W w hK hx
  have HY := fun W => sign_any y b K W w hK hy
  obtain ⟨xg, xa, xn, xc, f, rfl, hx1, hx2, hx3, hx4, hx5, rfl, hx7⟩ := hx
  obtain ⟨yg, ya, yn, yc, g, rfl, hy1, hy2, hy3, hy4, hy5, rfl, hy7⟩ := hy
  have s0 := SC.start (w := w) (xg := xg) (yg := yg) (xa := xa) (ya := ya) (xn := xn) (xc := xc) (yn := yn) (yc := yc)
  have HC1 := Lib.hid (fun W (h : SC w xg yg xa ya xn xc yn yc W) => compare_any xn yn f g xa ya xc yc W (by omega) (by omega) hx2 hy2 (hx5.on h.1 h.1.size) (hy5.on h.1 h.1.size))
  have HC2 := Lib.hid (fun W (h : SC w xg yg xa ya xn xc yn yc W) => compare_any yn xn g f ya xa yc xc W (by omega) (by omega) hy2 hx2 (hy5.on h.1 h.1.size) (hx5.on h.1 h.1.size))
  have HSG := Lib.hid (sg_eq_cases (xg := xg) (yg := yg) (a := vl f xn) (b := vl g yn) (fun h => vl_pos hx2 (hx7 h)) (fun h => vl_pos hy2 (hy7 h)))
  have HLT := Lib.hid (fun (h : sg (sgn xg (vl f xn)) < sg (sgn yg (vl g yn))) => cmpZ_sg_lt h)
  have HGT := Lib.hid (fun (h : sg (sgn yg (vl g yn)) < sg (sgn xg (vl f xn))) => cmpZ_sg_gt h)
  generalize hs1 : sg (sgn xg (vl f xn)) = s1 at *
  generalize hs2 : sg (sgn yg (vl g yn)) = s2 at *
  clear hx2 hx5 hx7 hy2 hy5 hy7 hs1 hs2
  go_enter Try.func45, Try.ntmps45
  go_upto_region 1 with fail
  generalize (w.alloc _).alloc _ = w1 at *
  go_region_held3 (fun W => (Below w.heap.size w W ∧ w.heap.size + 1 < W.heap.size ∧ W.cell? ⟨w.heap.size, 0, none⟩ = some (.bool xg) ∧ W.cell? ⟨w.heap.size, 1, none⟩ = some (.slice xa xn xc) ∧ W.cell? ⟨w.heap.size + 1, 0, none⟩ = some (.bool yg) ∧ W.cell? ⟨w.heap.size + 1, 1, none⟩ = some (.slice ya yn yc)))
    (first
      | exact s0
      | exact s0.drew
      | assumption
      | exact SC.next (by assumption) (by assumption))
    (first
      | (go_at_call 46; (with_reducible refine (HX _).mono ?_); rintro e w2 ⟨rfl, hb2⟩)
      | (go_at_call 46; (with_reducible refine (HY _).mono ?_); rintro e w3 ⟨rfl, hb3⟩; have s3 := SC.next (show SC w xg yg xa ya xn xc yn yc _ by assumption) hb3))
  by_cases he : s1 = s2
  · have hbo : (s1 != s2) = false := by simp [he]
    obtain rfl := HSG.out he
    have q := s3
    obtain ⟨q1, q2, q3, q4, q5, q6⟩ := q
    clear HSG HLT HGT he hb2 hb3
    cases xg with
    | false =>
      have HE := Lib.hid (cmpZ_sgn_pos (vl f xn) (vl g yn))
      go_wp2_with (go_at_call 58; refine (HC1.out _ s3).mono ?_; rintro e w4 ⟨rfl, hb4⟩)
      go_ret
      exact ⟨ret_int HE.out.symm, q1.trans (hb4.mono q1.size)⟩
    | true =>
      have HE := Lib.hid (cmpZ_sgn_neg (vl f xn) (vl g yn))
      go_wp2_with (go_at_call 58; refine (HC2.out _ s3).mono ?_; rintro e w4 ⟨rfl, hb4⟩)
      go_ret
      exact ⟨ret_int HE.out.symm, q1.trans (hb4.mono q1.size)⟩
  · have hbo : (s1 != s2) = true := by simp [he]
    clear HSG HC1 HC2 hb2 hb3
    go_upto_region 2 with fail
    go_region_held3 (fun W => (Below w.heap.size w W ∧ w.heap.size + 1 < W.heap.size ∧ W.cell? ⟨w.heap.size, 0, none⟩ = some (.bool xg) ∧ W.cell? ⟨w.heap.size, 1, none⟩ = some (.slice xa xn xc) ∧ W.cell? ⟨w.heap.size + 1, 0, none⟩ = some (.bool yg) ∧ W.cell? ⟨w.heap.size + 1, 1, none⟩ = some (.slice ya yn yc)))
      (first
        | exact s3
        | exact s3.drew
        | assumption
        | exact SC.next (by assumption) (by assumption))
      (first
        | (go_at_call 46; (with_reducible refine (HX _).mono ?_); rintro e w4 ⟨rfl, hb4⟩)
        | (go_at_call 46; (with_reducible refine (HY _).mono ?_); rintro e w5 ⟨rfl, hb5⟩; have s5 := SC.next (show SC w xg yg xa ya xn xc yn yc _ by assumption) hb5))
    have q1 := s5.1
    by_cases hl : s1 < s2
    · have HV := Lib.hid (HLT.out hl)
      have hd : decide (s1 < s2) = true := decide_eq_true hl
      clear HLT HGT
      go_wp2_with fail
      go_ret
      exact ⟨ret_int HV.out.symm, q1⟩
    · have HV := Lib.hid (HGT.out (by omega))
      have hd : decide (s1 < s2) = false := decide_eq_false hl
      clear HLT HGT
      go_wp2_with fail
      go_ret
      exact ⟨ret_int HV.out.symm, q1⟩
end Go.Proofs.Ytdjpkebajcpfbaa
