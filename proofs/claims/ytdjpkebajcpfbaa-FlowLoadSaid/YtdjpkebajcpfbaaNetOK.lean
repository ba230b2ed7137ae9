/- The walks over flow.valid and the law's network. Conditions: the rows lie in memory. -/
import Derived.Test.YtdjpkebajcpfbaaM02
import Derived.Outline
namespace Go.Proofs.Ytdjpkebajcpfbaa
open Go.RowKit

def cellOK (x : Int) : Bool := decide (0 ≤ x ∧ x ≤ 1073741824)
def rowOK (n u : Nat) (row : List Int) : Bool := decide (row.length = n ∧ row.getD u 0 = 0) && row.all cellOK
def netOK (most : Nat) (rs : List (List Int)) : Bool := decide (2 ≤ rs.length ∧ rs.length ≤ most) && (List.range rs.length).all fun u => rowOK rs.length u (rwAt rs u)
theorem netOK_size {most : Nat} {rs : List (List Int)} (h : ¬ (2 ≤ rs.length ∧ rs.length ≤ most)) : netOK most rs = false := by simp only [netOK, decide_eq_false h, Bool.false_and]
theorem netOK_row {most : Nat} {rs : List (List Int)} {u : Nat} (hu : u < rs.length) (h : rowOK rs.length u (rwAt rs u) = false) : netOK most rs = false := by
  unfold netOK
  rw [Bool.and_eq_false_iff]
  right
  rw [List.all_eq_false]
  exact ⟨u, by simpa using hu, by simp [h]⟩
theorem netOK_mk {most : Nat} {rs : List (List Int)} (h : 2 ≤ rs.length ∧ rs.length ≤ most) (hr : ∀ u, u < rs.length → rowOK rs.length u (rwAt rs u) = true) : netOK most rs = true := by
  unfold netOK
  rw [decide_eq_true h, Bool.true_and, List.all_eq_true]
  intro u hu
  exact hr u (by simpa using hu)
theorem rowOK_head {n u : Nat} {row : List Int} (h : ¬ (row.length = n ∧ row.getD u 0 = 0)) : rowOK n u row = false := by simp only [rowOK, decide_eq_false h, Bool.false_and]
theorem rowOK_cell {n u j : Nat} {row : List Int} (hj : j < row.length) (h : ¬ (0 ≤ row.getD j 0 ∧ row.getD j 0 ≤ 1073741824)) : rowOK n u row = false := by
  unfold rowOK
  rw [Bool.and_eq_false_iff]
  right
  rw [List.all_eq_false]
  exact ⟨_, List.mem_of_getElem? (getD_get hj), by simp only [cellOK]; simpa using h⟩
theorem rowOK_mk {n u : Nat} {row : List Int} (h : row.length = n ∧ row.getD u 0 = 0) (hc : ∀ j, j < row.length → 0 ≤ row.getD j 0 ∧ row.getD j 0 ≤ 1073741824) : rowOK n u row = true := by
  unfold rowOK
  rw [decide_eq_true h, Bool.true_and, List.all_eq_true]
  intro x hx
  obtain ⟨j, hj⟩ := List.mem_iff_getElem?.1 hx
  have hlt := (List.getElem?_eq_some_iff.1 hj).1
  have := hc j hlt
  rw [getD_get hlt] at hj
  injection hj with hj
  subst hj
  simp only [cellOK]; simpa using this

set_option maxRecDepth 100000 in
set_option maxHeartbeats 6400000 in
theorem fvalid_any (rs : List (List Int)) (a : Option Addr) (cap : Nat) (w : World) (hl : rs.length ≤ 9223372036854775807) (hr : RowsAt w w.heap.size a rs) (hrr : ∀ r ∈ rs, FitI r) :
    Calls Try.prog 60 #[.slice a rs.length cap] w fun e w' => e = .returned (.bool (netOK 400 rs)) ∧ w = w' := by
  have hlI : (rs.length : Int) ≤ 9223372036854775807 := by omega
  have HRR := Lib.hid hrr
  clear hrr
  by_cases h2 : 2 ≤ rs.length
  · by_cases h4 : rs.length ≤ 400
    · have h2' : ¬ (rs.length : Int) < 2 := by omega
      have h4' : (rs.length : Int) ≤ 400 := by omega
      have hsmall : (rs.length : Int) ≤ 1000 := by omega
      go_enter Try.func60, Try.ntmps60
      go_wp2_with fail
      go_loop [18] (fun u => ∃ k : Nat, u = .int .i64 k ∧ k ≤ rs.length ∧ Hid (∀ u, u < k → rowOK rs.length u (rwAt rs u) = true)) (fun u => rs.length - (intOf u).toNat)
      case atStart => exact ⟨0, rfl, by omega, fun u hu => absurd hu (Nat.not_lt_zero _)⟩
      case round =>
        obtain ⟨k, rfl, hk, hrow⟩ := hrel
        by_cases hlt : k < rs.length
        · have k0 : (0 : Int) ≤ (k : Int) := by omega
          have k1 : (k : Int) < (rs.length : Int) := by omega
          obtain ⟨rb, roff, rfl, hrN, hrcell⟩ := hr (by intro e; simp [e] at hlt)
          obtain ⟨xa, xc, r0, hxc, hxc2, hxs⟩ := hrcell k _ (rwAt_get hlt)
          have hfit := HRR.out _ (rwAt_mem hlt)
          have HNO := Lib.hid (fun h => netOK_row (most := 400) hlt h)
          have hRW : ∃ r, rwAt rs k = r := ⟨_, rfl⟩
          obtain ⟨r, hRW⟩ := hRW
          rw [hRW] at r0 hxc hxs hfit HNO
          have HRW := Lib.hid hRW
          clear hRW hrcell
          have hrl : (r.length : Int) ≤ 9223372036854775807 := by omega
          by_cases hln : r.length = rs.length
          · have q1 : ((r.length : Int) != (rs.length : Int)) = false := by simp [hln]
            have q1' : (r.length != rs.length) = false := by simp [hln]
            have hk2 : k < r.length := by omega
            obtain ⟨xb, xoff, rfl, hxN, hxcell⟩ := hxs (by intro e; rw [e] at hk2; simp at hk2)
            have x0 := hxcell k _ (getD_get hk2)
            have HX := Lib.hid hxcell
            have HLN := Lib.hid hln
            have HF := Lib.hid hfit
            have kr : (k : Int) < (r.length : Int) := by omega
            clear hxcell hln hfit hxs
            obtain ⟨z, hzz⟩ : ∃ z, r.getD k 0 = z := ⟨_, rfl⟩
            rw [hzz] at x0
            have HZZ := Lib.hid hzz
            clear hzz
            by_cases hz : z = 0
            · have q2 : (z != 0) = false := by rw [hz]; rfl
              have HZ := Lib.hid (HZZ.out.trans hz)
              clear hz
              go_wp2_with fail
              go_loop [36] (fun v => ∃ j : Nat, v = .int .i64 j ∧ j ≤ r.length ∧ Hid (∀ u, u < j → 0 ≤ r.getD u 0 ∧ r.getD u 0 ≤ 1073741824)) (fun v => r.length - (intOf v).toNat)
              case atStart => exact ⟨0, rfl, by omega, fun u hu => absurd hu (Nat.not_lt_zero _)⟩
              case round =>
                obtain ⟨j, rfl, hj, hcl⟩ := hrel
                clear x0
                by_cases hjl : j < r.length
                · have j0 : (0 : Int) ≤ (j : Int) := by omega
                  have j1 : (j : Int) < (r.length : Int) := by omega
                  have y0 := HX.out j _ (getD_get hjl)
                  obtain ⟨f1, f2⟩ := getD_fit HF.out hjl
                  have HCB := Lib.hid (fun h => HNO.out (rowOK_cell (n := rs.length) (u := k) hjl h))
                  have HST := Lib.hid (fun (h : 0 ≤ r.getD j 0 ∧ r.getD j 0 ≤ 1073741824) u (hu : u < j + 1) => show 0 ≤ r.getD u 0 ∧ r.getD u 0 ≤ 1073741824 from by
                    by_cases e : u = j
                    · subst e; exact h
                    · exact hcl.out u (by omega))
                  clear hcl
                  generalize r.getD j 0 = x at *
                  by_cases p1 : 0 ≤ x
                  · by_cases p2 : x ≤ 1073741824
                    · have HS2 := Lib.hid (HST.out ⟨p1, p2⟩)
                      clear HST
                      go_wp2_with fail
                      go_round
                      case rel => exact ⟨j + 1, by go_num, by omega, HS2.out⟩
                      case measure => simp [intOf]; omega
                    · have HN := Lib.hid (HCB.out (fun h => p2 h.2))
                      clear HST
                      go_wp2_with fail
                      go_ret
                      exact ⟨ret_bool HN.out.symm, rfl⟩
                  · have HN := Lib.hid (HCB.out (fun h => p1 h.1))
                    clear HST
                    go_wp2_with fail
                    go_ret
                    exact ⟨ret_bool HN.out.symm, rfl⟩
                · obtain rfl : j = r.length := by omega
                  have HROW := Lib.hid (rowOK_mk (n := rs.length) (u := k) ⟨HLN.out, HZ.out⟩ hcl.out)
                  have HST := Lib.hid (fun u (hu : u < k + 1) => show rowOK rs.length u (rwAt rs u) = true from by
                    by_cases e : u = k
                    · subst e; rw [HRW.out]; exact HROW.out
                    · exact hrow.out u (by omega))
                  clear hcl hrow HROW
                  go_wp2_with fail
                  go_round
                  case rel => exact ⟨k + 1, by go_num, by omega, HST.out⟩
                  case measure => simp [intOf]; omega
            · have q2 : (z != 0) = true := bne_iff_ne.2 hz
              have HN := Lib.hid (HNO.out (rowOK_head (fun h => hz (HZZ.out.symm.trans h.2))))
              clear hz
              go_wp2_with fail
              go_ret
              exact ⟨ret_bool HN.out.symm, rfl⟩
          · have q1 : ((r.length : Int) != (rs.length : Int)) = true := by simp; omega
            have q1' : (r.length != rs.length) = true := by simp [hln]
            have HN := Lib.hid (HNO.out (rowOK_head (fun h => hln h.1)))
            clear hln
            go_wp2_with fail
            go_ret
            exact ⟨ret_bool HN.out.symm, rfl⟩
        · obtain rfl : k = rs.length := by omega
          have HY := Lib.hid (netOK_mk (most := 400) ⟨h2, h4⟩ hrow.out)
          clear hrow
          go_wp2_with fail
          go_ret
          exact ⟨ret_bool HY.out.symm, rfl⟩
    · have h2' : ¬ (rs.length : Int) < 2 := by omega
      have h4' : ¬ (rs.length : Int) ≤ 400 := by omega
      have HN := Lib.hid (netOK_size (most := 400) (rs := rs) (fun h => h4 h.2))
      go_enter Try.func60, Try.ntmps60
      go_wp2_with fail
      go_ret
      exact ⟨ret_bool HN.out.symm, rfl⟩
  · have h2' : (rs.length : Int) < 2 := by omega
    have HN := Lib.hid (netOK_size (most := 400) (rs := rs) (fun h => h2 h.1))
    go_enter Try.func60, Try.ntmps60
    go_wp2_with fail
    go_ret
    exact ⟨ret_bool HN.out.symm, rfl⟩
end Go.Proofs.Ytdjpkebajcpfbaa
