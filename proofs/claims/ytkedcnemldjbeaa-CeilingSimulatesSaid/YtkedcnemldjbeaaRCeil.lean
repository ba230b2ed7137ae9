/- The walk over the reference's Ceiling. Conditions: the tasks lie in memory; few. -/
import Derived.Test.YtkedcnemldjbeaaTkValid
namespace Go.Proofs.Ytkedcnemldjbeaa
open Go.RowKit

def hasO (o : Int) (ss : List Sec) : Bool := ss.any fun s => s.o == o
def ceilR (l : List CT) (o : Int) : Nat := l.findIdx fun t => hasO o t.ss

theorem hasO_yes {o : Int} {ss : List Sec} {j : Nat} (h : j < ss.length) (e : ss[j].o = o) : hasO o ss = true := by
  rw [hasO, List.any_eq_true]; exact ⟨ss[j], List.getElem_mem h, by simp [e]⟩
theorem hasO_no {o : Int} {ss : List Sec} (h : ∀ j, (hj : j < ss.length) → ss[j].o ≠ o) : hasO o ss = false := by
  rw [hasO, List.any_eq_false]
  intro s hs
  obtain ⟨j, hj, rfl⟩ := List.getElem_of_mem hs
  simpa using h j hj
theorem ceilR_eq {l : List CT} {o : Int} {k : Nat} (hk : k < l.length) (hno : ∀ i, (hi : i < l.length) → i < k → hasO o l[i].ss = false) (h : hasO o l[k].ss = true) : ceilR l o = k := by
  rw [ceilR, List.findIdx_eq hk]
  exact ⟨h, fun j hj => hno j (by omega) hj⟩
theorem ceilR_none {l : List CT} {o : Int} (hno : ∀ i, (hi : i < l.length) → hasO o l[i].ss = false) : ceilR l o = l.length := by
  rw [ceilR, List.findIdx_eq_length]
  intro t ht
  obtain ⟨j, hj, rfl⟩ := List.getElem_of_mem ht
  exact hno j hj

set_option maxRecDepth 100000 in
set_option maxHeartbeats 3200000 in
theorem rceil_any (l : List CT) (a : Option Addr) (cap : Nat) (o : Int) (w : World) (hl : l.length ≤ 1000) (hc : TasksAt w w.heap.size a l) :
    Calls Try.prog 41 #[.slice a l.length cap, .int .i64 o] w fun e w' => e = .returned (.int .i64 (ceilR l o)) ∧ w = w' := by
  have hlen : (l.length : Int) ≤ 1000 := by omega
  go_enter Try.func41, Try.ntmps41
  go_wp2_with fail
  go_loop [5] (fun u => ∃ k : Nat, u = .int .i64 k ∧ k ≤ l.length ∧ Hid (∀ i, (hi : i < l.length) → i < k → hasO o l[i].ss = false)) (fun u => l.length - (intOf u).toNat)
  case atStart => exact ⟨0, rfl, by omega, fun i hi h => by omega⟩
  case round =>
    obtain ⟨k, rfl, hk, hno⟩ := hrel
    by_cases hlt : k < l.length
    · obtain ⟨b, off, rfl, hbN, hcell⟩ := hc (by intro e; simp [e] at hlt)
      obtain ⟨c0, c1, c2, sa, sc, c3, hsl, hss⟩ := hcell k l[k] (List.getElem?_eq_getElem hlt)
      clear hcell
      have HY := Lib.hid (ceilR_eq hlt hno.out)
      have HN := Lib.hid (show hasO o l[k].ss = false → ∀ i, (hi : i < l.length) → i < k + 1 → hasO o l[i].ss = false from fun h i hi hik => by
        by_cases e : i = k
        · subst e; exact h
        · exact hno.out i hi (by omega))
      clear hno
      generalize hq : l[k] = t at *
      have Hq := Lib.hid hq
      clear hq
      have hlt' : (k : Int) < (l.length : Int) := by omega
      have hsl' : (t.ss.length : Int) ≤ 9223372036854775807 := by omega
      go_wp2_with fail
      go_loop [6] (fun u => ∃ j : Nat, u = .int .i64 j ∧ j ≤ t.ss.length ∧ Hid (∀ i, (hi : i < t.ss.length) → i < j → t.ss[i].o ≠ o)) (fun u => t.ss.length - (intOf u).toNat)
      case atStart => exact ⟨0, rfl, by omega, fun i hi h => by omega⟩
      case round =>
        obtain ⟨j, rfl, hj, hno⟩ := hrel
        by_cases hjl : j < t.ss.length
        · obtain ⟨sb, soff, rfl, hsN, hscell⟩ := hss (by intro e; simp [e] at hjl)
          obtain ⟨s0, s1, s2⟩ := hscell j t.ss[j] (List.getElem?_eq_getElem hjl)
          clear hscell
          have hjl' : (j : Int) < (t.ss.length : Int) := by omega
          by_cases he : t.ss[j].o = o
          · have HR := Lib.hid (HY.out (hasO_yes hjl he))
            rw [he] at s0
            clear he hno HN HY
            go_wp2_with fail
            go_ret
            exact ⟨ret_int (by rw [HR.out]), rfl⟩
          · have HN2 := Lib.hid (show ∀ i, (hi : i < t.ss.length) → i < j + 1 → t.ss[i].o ≠ o from fun i hi hij => by
              by_cases e : i = j
              · subst e; exact he
              · exact hno.out i hi (by omega))
            have hq : (t.ss[j].o == o) = false := beq_eq_false_iff_ne.2 he
            clear he hno
            generalize t.ss[j] = s at *
            go_wp2_with fail
            go_round
            case rel => exact ⟨j + 1, by go_num, by omega, HN2.out⟩
            case measure => simp [intOf]; omega
        · have HF := Lib.hid (HN.out (hasO_no (fun i hi => hno.out i hi (by omega))))
          have hjl' : ¬ (j : Int) < (t.ss.length : Int) := by omega
          clear hno
          go_wp2_with fail
          go_round
          case rel => exact ⟨k + 1, by go_num, by omega, HF.out⟩
          case measure => simp [intOf]; omega
    · have HF := Lib.hid (ceilR_none (fun i hi => hno.out i hi (by omega)))
      have hlt' : ¬ (k : Int) < (l.length : Int) := by omega
      clear hno
      go_wp2_with fail
      go_ret
      exact ⟨ret_int (by rw [HF.out]), rfl⟩
end Go.Proofs.Ytkedcnemldjbeaa
