/- The walk over the reference's Group: it returns the closed form. Conditions: a valid task, an index in its range. -/
import Derived.Test.YtoiahkndabbklaaRef
import Derived.Test.YtoiahkndabbklaaPlain
namespace Go.Proofs.Ytoiahkndabbklaa
open Go.RowKit

def NoHit (c p d t k : Int) : Prop := (∀ t', d ≤ t' → t' < t → ∀ k, 1 ≤ k → k ≤ c → hitB c p t' k = false) ∧ ∀ k', 1 ≤ k' → k' < k → hitB c p t k' = false
theorem NoHit.next {c p d t k : Int} (h : NoHit c p d t k) (hk : hitB c p t k = false) : NoHit c p d t (k + 1) :=
  ⟨h.1, fun k' h1 h2 => by
    by_cases e : k' = k
    · rw [e]; exact hk
    · exact h.2 k' h1 (by omega)⟩
theorem NoHit.row {c p d t k : Int} (h : NoHit c p d t k) (hk : c < k) : NoHit c p d (t + 1) 1 :=
  ⟨fun t' h1 h2 k h3 h4 => by
    by_cases e : t' = t
    · rw [e]; exact h.2 k h3 (by omega)
    · exact h.1 t' h1 (by omega) k h3 h4, fun k' h1 h2 => by omega⟩
def DrewTo (w wr : World) : Prop := ∃ k, wr = w.drewN k
theorem DrewTo.refl (w : World) : DrewTo w w := ⟨0, rfl⟩
theorem DrewTo.step {w wr : World} (h : DrewTo w wr) (n : Nat) : DrewTo w (wr.drewN n) := by
  obtain ⟨k, rfl⟩ := h; exact ⟨k + n, by simp⟩

theorem wR_bd {c p k : Int} (h : wE c p k = 0) : 0 ≤ wR c p k ∧ wR c p k ≤ 1000000 := by
  obtain ⟨v1, v2, v3, hi, hj⟩ := wE0 h
  obtain ⟨m1a, m1b⟩ := mul_bd (i := k - 1) (p := p) (by omega) (by omega) (by omega) (by omega)
  have e : wR c p k = (k - 1) * p / c := by simp [wR, h]
  rw [e]
  have q0 : 0 ≤ (k - 1) * p / c := Int.ediv_nonneg m1a (by omega)
  have q1 : (k - 1) * p / c ≤ (k - 1) * p := Int.ediv_le_self _ m1a
  omega

set_option maxHeartbeats 1600000 in
/-- ref.Group. -/
theorem rgroup_any (c p i : Int) (w : World) (hE : wE c p i = 0) :
    Calls Try.prog 20 #[.int .i64 c, .int .i64 p, .int .i64 i] w fun e w' => e = .returned (.int .i64 (grp c p i)) ∧ DrewTo w w' := by
  obtain ⟨v1, v2, v3, hi, hj⟩ := wE0 hE
  have hvt : vtB c p = true := by simp [vtB]; omega
  by_cases hv : hvB c p = true
  · obtain ⟨d1, d2⟩ := wD_bd hE
    have hfirst := Lib.hid (fun t k => grp_first (t := t) (k := k) hv hE)
    have hnone := Lib.hid (grp_none hv hE)
    generalize hg : grp c p i = G at *
    clear hg
    have HE := Lib.hid hE
    have HV := Lib.hid hvt
    clear hE
    generalize hd : wD c p i = d at *
    have Hd := Lib.hid hd
    clear hd
    go_enter Try.func20, Try.ntmps20
    go_wp2_with fail
    refine (rheavy_any c p _ hvt).mono ?_
    rintro e w' ⟨rfl, rfl⟩
    go_wp2_with fail
    refine (rwindow_any c p i _ HE.out).mono ?_
    rintro e w' ⟨rfl, k0, rfl⟩
    rw [Hd.out]
    clear hvt
    go_wp2_with fail
    go_loopw [9] (fun u wr => ∃ t : Int, u = .int .i64 t ∧ d ≤ t ∧ t ≤ p + 1 ∧ NoHit c p d t 1 ∧ DrewTo w wr) (fun u _ => (p + 1 - intOf u).toNat)
    case atStart => exact ⟨d, rfl, by omega, by omega, ⟨fun t' h1 h2 => by omega, fun k' h1 h2 => by omega⟩, (DrewTo.refl w).step _⟩
    case round =>
      obtain ⟨t, rfl, t1, t2, hno, hdr⟩ := hrel
      by_cases htp : t ≤ p
      · go_wp2_with fail
        rename World => wr
        go_loopw [10] (fun u wq => ∃ k : Int, u = .int .i64 k ∧ 1 ≤ k ∧ k ≤ c + 1 ∧ NoHit c p d t k ∧ DrewTo w wq) (fun u _ => (c + 1 - intOf u).toNat)
        case atStart => exact ⟨1, rfl, by omega, by omega, hno, hdr⟩
        case round =>
          obtain ⟨k, rfl, k1, k2, hno', hdr'⟩ := hrel
          by_cases hkc : k ≤ c
          · have hEk : wE c p k = 0 := wE_ok HV.out k1 hkc
            have HEk := Lib.hid hEk
            clear hEk
            have Hfin := Lib.hid (fun hh : hitB c p t k = true => hfirst.out t k t1 htp k1 hkc hh hno'.1)
            have Hnext := Lib.hid (fun hh : hitB c p t k = false => hno'.next hh)
            clear hno hno' hdr
            have hbd : 1 ≤ wD c p k ∧ wD c p k ≤ p := wD_bd HEk.out
            have hbr : 0 ≤ wR c p k ∧ wR c p k ≤ 1000000 := wR_bd HEk.out
            obtain ⟨bd1, bd2⟩ := hbd
            obtain ⟨br1, br2⟩ := hbr
            by_cases h1 : t = wD c p k
            · have b1 : (t == wD c p k) = true := by simp [h1]
              cases ho : ovB c p k with
              | false =>
                have hh : hitB c p t k = true := by simp [hitB, h1, ho]
                have Hh := Lib.hid hh
                clear h1 hh
                have Ho := Lib.hid ho
                clear ho
                go_wp2_with fail
                refine (rwindow_any c p k _ HEk.out).mono ?_
                rintro e w' ⟨rfl, k3, rfl⟩
                go_wp2_with fail
                refine (roverlaps_any c p k _ HEk.out).mono ?_
                rintro e w' ⟨rfl, rfl⟩
                rw [Ho.out]
                go_wp2_with fail
                go_ret
                exact ⟨ret_int (Hfin.out Hh.out).symm, hdr'.step _⟩
              | true =>
                have hh : hitB c p t k = false := by simp [hitB, ho]; omega
                have Hh := Lib.hid hh
                have b2 : (t + 1 == wD c p k) = false := by simp; omega
                clear h1 hh
                have Ho := Lib.hid ho
                clear ho
                go_wp2_with fail
                refine (rwindow_any c p k _ HEk.out).mono ?_
                rintro e w' ⟨rfl, k3, rfl⟩
                go_wp2_with fail
                refine (roverlaps_any c p k _ HEk.out).mono ?_
                rintro e w' ⟨rfl, rfl⟩
                rw [Ho.out]
                go_wp2_with fail
                go_roundw
                case rel => exact ⟨k + 1, rfl, by omega, by omega, Hnext.out Hh.out, hdr'.step _⟩
                case measure => simp [intOf]; omega
            · have b1 : (t == wD c p k) = false := by simp [h1]
              by_cases h2 : t + 1 = wD c p k
              · have b2 : (t + 1 == wD c p k) = true := by simp [h2]
                by_cases h3 : wD c p k - wR c p k = 3
                · have hh : hitB c p t k = true := by simp [hitB, h2, h3]
                  have Hh := Lib.hid hh
                  have b3 : (wD c p k - wR c p k == 3) = true := by simp [h3]
                  clear h1 h2 h3 hh
                  go_wp2_with fail
                  refine (rwindow_any c p k _ HEk.out).mono ?_
                  rintro e w' ⟨rfl, k3, rfl⟩
                  go_wp2_with fail
                  go_ret
                  exact ⟨ret_int (Hfin.out Hh.out).symm, hdr'.step _⟩
                · have hh : hitB c p t k = false := by simp [hitB, h1, h3]
                  have Hh := Lib.hid hh
                  have b3 : (wD c p k - wR c p k == 3) = false := by simp [h3]
                  clear h1 h2 h3 hh
                  go_wp2_with fail
                  refine (rwindow_any c p k _ HEk.out).mono ?_
                  rintro e w' ⟨rfl, k3, rfl⟩
                  go_wp2_with fail
                  go_roundw
                  case rel => exact ⟨k + 1, rfl, by omega, by omega, Hnext.out Hh.out, hdr'.step _⟩
                  case measure => simp [intOf]; omega
              · have b2 : (t + 1 == wD c p k) = false := by simp [h2]
                have hh : hitB c p t k = false := by simp [hitB, h1, h2]
                have Hh := Lib.hid hh
                clear h1 h2 hh
                go_wp2_with fail
                refine (rwindow_any c p k _ HEk.out).mono ?_
                rintro e w' ⟨rfl, k3, rfl⟩
                go_wp2_with fail
                go_roundw
                case rel => exact ⟨k + 1, rfl, by omega, by omega, Hnext.out Hh.out, hdr'.step _⟩
                case measure => simp [intOf]; omega
          · go_wp2_with fail
            go_roundw
            case rel => exact ⟨t + 1, rfl, by omega, by omega, hno'.row (by omega), hdr'⟩
            case measure => simp [intOf]; omega
      · go_wp2_with fail
        go_ret
        exact ((hnone.out fun t' h1 h2 k h3 h4 => hno.1 t' h1 (by omega) k h3 h4).elim)
  · have hv : hvB c p = false := by simpa using hv
    have hfin := Lib.hid (grp_light (i := i) hv)
    go_enter Try.func20, Try.ntmps20
    go_wp2_with fail
    refine (rheavy_any c p _ hvt).mono ?_
    rintro e w' ⟨rfl, rfl⟩
    go_wp2_with fail
    go_ret
    exact ⟨ret_int hfin.out.symm, DrewTo.refl _⟩
end Go.Proofs.Ytoiahkndabbklaa
