/- The walk over the reference's Ints. Conditions: the rows lie in memory. -/
import Derived.Test.YtdjpkebajcpfbaaRowsI
import Derived.Outline
import Derived.Deep.Heap
import Derived.BigQuiet
import Derived.Deep.DeepCutAuto
namespace Go.Proofs.Ytdjpkebajcpfbaa
open Go.RowKit

set_option maxRecDepth 100000 in
set_option maxHeartbeats 6400000 in
theorem ints_any (xs ys : List Int) (a b : Option Addr) (ca cb : Nat) (w : World) (hx : xs.length ≤ 9223372036854775807) (hy : ys.length ≤ 9223372036854775807) (ha : IntsAt w w.heap.size a xs) (hb : IntsAt w w.heap.size b ys) :
    Calls Try.prog 23 #[.slice a xs.length ca, .slice b ys.length cb] w fun e w' => e = .returned (.bool (decide (xs = ys))) ∧ Below w.heap.size w w' := by
  have hxI : (xs.length : Int) ≤ 9223372036854775807 := by omega
  have hyI : (ys.length : Int) ≤ 9223372036854775807 := by omega
  by_cases hne : xs.length = ys.length
  · have hneI : (xs.length : Int) = (ys.length : Int) := by omega
    have hneb : ((xs.length : Int) != (ys.length : Int)) = false := by simp [hneI]
    have HNE := Lib.hid hne
    have HA := Lib.hid ha
    have HB := Lib.hid hb
    clear hne ha hb
    go_enter Try.func23, Try.ntmps23
    go_upto_region 3 with fail
    clear hneI hneb
    go_wp2_with fail
    go_loopw [5] (fun u wr => ∃ k : Nat, u = .int .i64 k ∧ k ≤ xs.length ∧ Hid (∀ j, j < k → xs.getD j 0 = ys.getD j 0) ∧ Below w.heap.size w wr) (fun u _ => xs.length - (intOf u).toNat)
    case atStart => exact ⟨0, rfl, by omega, Lib.hid (fun j hj => absurd hj (Nat.not_lt_zero _)), Below.refl _ _⟩
    case round =>
      obtain ⟨k, rfl, hk, hall, hbl⟩ := hrel
      by_cases h0 : k < xs.length
      · have h0I : (k : Int) < (xs.length : Int) := by omega
        have h0y : k < ys.length := by have := HNE.out; omega
        have h0yI : (k : Int) < (ys.length : Int) := by omega
        obtain ⟨g, o, rfl, hgN, hc⟩ := HA.out (by intro e; simp [e] at h0)
        obtain ⟨g', o', rfl, hgN', hc'⟩ := HB.out (by intro e; simp [e] at h0y)
        have x0 := keep_cellN hbl hgN (hc k _ (getD_get h0))
        have y0 := keep_cellN hbl hgN' (hc' k _ (getD_get h0y))
        have hg : g < wr.heap.size := by have := hbl.size; omega
        have hg' : g' < wr.heap.size := by have := hbl.size; omega
        have HD := Lib.hid (fun (h : ¬ xs.getD k 0 = ys.getD k 0) => show ¬ xs = ys from fun e => h (by rw [e]))
        have HS := Lib.hid (fun (h : xs.getD k 0 = ys.getD k 0) j (hj : j < k + 1) => show xs.getD j 0 = ys.getD j 0 from by
          by_cases e : j = k
          · subst e; exact h
          · exact hall.out j (by omega))
        clear hc hc' hall h0y
        generalize xs.getD k 0 = x at *
        generalize ys.getD k 0 = y at *
        by_cases hxy : x = y
        · subst hxy
          have HS := Lib.hid (HS.out rfl)
          clear HD
          go_upto_region 6 with fail
          go_quiet (fail)
          go_wp2_with fail
          go_roundw
          case rel => exact ⟨k + 1, by go_num, by omega, HS, below_drewN hbl _⟩
          case measure => simp [intOf]; omega
        · have hb0 : (x != y) = true := by simp [hxy]
          have HD := Lib.hid (decide_eq_false (HD.out hxy))
          clear HS
          go_upto_region 6 with fail
          go_quiet (fail)
          go_wp2_with fail
          go_ret
          exact ⟨ret_bool HD.out.symm, below_drewN hbl _⟩
      · obtain rfl : k = xs.length := by omega
        have HE := Lib.hid (decide_eq_true (show xs = ys from List.ext_getElem HNE.out fun j h1 h2 => by
          have h3 := hall.out j h1
          rw [List.getD_eq_getElem?_getD, List.getD_eq_getElem?_getD, List.getElem?_eq_getElem h1, List.getElem?_eq_getElem h2] at h3
          exact h3))
        clear hall
        go_wp2_with fail
        go_ret
        exact ⟨ret_bool HE.out.symm, hbl⟩
  · have hneI : ¬ (xs.length : Int) = (ys.length : Int) := by omega
    have hneb : ((xs.length : Int) != (ys.length : Int)) = true := by simp [hneI]
    have HE := Lib.hid (decide_eq_false (show ¬ xs = ys from fun e => hne (by rw [e])))
    clear hne ha hb
    go_enter Try.func23, Try.ntmps23
    go_wp2_with fail
    go_ret
    exact ⟨ret_bool HE.out.symm, Below.refl _ _⟩
end Go.Proofs.Ytdjpkebajcpfbaa
