/- The walk over the law's great, and plain laws of interference. Conditions: the tasks lie in memory. -/
import Derived.Test.YtkedcnemldjbeaaSample
namespace Go.Proofs.Ytkedcnemldjbeaa
open Go.RowKit

def greatB (l : List CT) : Bool := decide (8 < l.length) || l.any fun t => decide (10 < t.ss.length)
theorem great_yes {l : List CT} {k : Nat} (h : k < l.length) (hv : 10 < l[k].ss.length) : greatB l = true := by
  have : (l.any fun t => decide (10 < t.ss.length)) = true := by
    rw [List.any_eq_true]; exact ⟨l[k], List.getElem_mem h, by simp [hv]⟩
  simp [greatB, this]
theorem great_no {l : List CT} (h : l.length ≤ 8) (ha : ∀ j, (hj : j < l.length) → l[j].ss.length ≤ 10) : greatB l = false := by
  have : (l.any fun t => decide (10 < t.ss.length)) = false := by
    rw [List.any_eq_false]
    intro t ht
    obtain ⟨j, hj, rfl⟩ := List.getElem_of_mem ht
    have := ha j hj
    simp; omega
  simp [greatB, this]; omega
theorem great_bd {l : List CT} (h : greatB l = false) : l.length ≤ 8 := by
  simp only [greatB, Bool.or_eq_false_iff, decide_eq_false_iff_not] at h; omega

set_option maxRecDepth 100000 in
set_option maxHeartbeats 3200000 in
theorem great_any (l : List CT) (a : Option Addr) (cap : Nat) (w : World) (hl : l.length ≤ 9223372036854775807) (hc : TasksAt w w.heap.size a l) :
    Calls Try.prog 19 #[.slice a l.length cap] w fun e w' => e = .returned (.bool (greatB l)) ∧ Below w.heap.size w w' := by
  have hlen : (l.length : Int) ≤ 9223372036854775807 := by omega
  by_cases h8 : l.length ≤ 8
  · go_enter Try.func19, Try.ntmps19
    go_wp2_with fail
    go_loopw [10] (fun u wr => ∃ k : Nat, u = .int .i64 k ∧ k ≤ l.length ∧ Hid (∀ j, (hj : j < l.length) → j < k → l[j].ss.length ≤ 10) ∧ Below w.heap.size w wr) (fun u _ => l.length - (intOf u).toNat)
    case atStart => exact ⟨0, rfl, by omega, fun j hj h => by omega, Below.refl _ _⟩
    case round =>
      obtain ⟨k, rfl, hk, hno, hbl⟩ := hrel
      have hbs := hbl.size
      by_cases hlt : k < l.length
      · obtain ⟨b, off, rfl, hbN, hcell⟩ := hc (by intro e; simp [e] at hlt)
        obtain ⟨c0, c1, c2, sa, sc, c3, hsl, hss⟩ := hcell k l[k] (List.getElem?_eq_getElem hlt)
        have c0 := keep_cellN hbl hbN c0
        have c1 := keep_cellN hbl hbN c1
        have c2 := keep_cellN hbl hbN c2
        have c3 := keep_cellN hbl hbN c3
        clear hcell hss
        have HY := Lib.hid (great_yes hlt)
        have HN := Lib.hid (show l[k].ss.length ≤ 10 → ∀ j, (hj : j < l.length) → j < k + 1 → l[j].ss.length ≤ 10 from fun h j hj hjk => by
          by_cases e : j = k
          · subst e; exact h
          · exact hno.out j hj (by omega))
        clear hno
        have HT := Lib.hid (show l[k] = l[k] from rfl)
        generalize hq : l[k] = t at *
        have Hq := Lib.hid hq
        clear hq HT
        obtain ⟨tc, tp, td, ss⟩ := t
        simp only at c0 c1 c2 c3 hsl
        by_cases h10 : (10 : Int) < ss.length
        · have HF := Lib.hid (HY.out (by show 10 < ss.length; omega))
          clear HY HN
          go_wp2_with fail
          go_ret
          exact ⟨ret_bool HF.out.symm, hbl.alloc hbs _⟩
        · have HF := Lib.hid (HN.out (by show ss.length ≤ 10; omega))
          clear HY HN
          go_wp2_with fail
          go_roundw
          case rel => exact ⟨k + 1, by go_num, by omega, HF.out, hbl.alloc hbs _⟩
          case measure => simp [intOf]; omega
      · have HF := Lib.hid (great_no h8 (fun j hj => hno.out j hj (by omega)))
        clear hno
        go_wp2_with fail
        go_ret
        exact ⟨ret_bool HF.out.symm, hbl⟩
  · have HF := Lib.hid (show greatB l = true by simp [greatB]; omega)
    have h8' : (8 : Int) < l.length := by omega
    go_enter Try.func19, Try.ntmps19
    go_wp2_with fail
    go_ret
    exact ⟨ret_bool HF.out.symm, Below.refl _ _⟩

/-! ### plain laws of interference -/
theorem intV_in {l : List CT} {i : Nat} {v : Int} (hx : exB l i = true) (h0 : 0 ≤ v) (h1 : v ≤ 100000) : intV l i v = intL v 0 (l.take i) := by
  rw [intV, if_pos ⟨hx, h0, h1⟩]; rfl
theorem intL_zero : ∀ {l : List CT}, (∀ t ∈ l, okT t = true) → intL 0 0 l = 0
  | [], _ => rfl
  | t :: r, h => by
    rw [intL_cons, intL_zero (fun t ht => h t (List.mem_cons_of_mem _ ht))]
    obtain ⟨⟨_, _, t3, _⟩, _⟩ := okT_bd (h t (List.mem_cons_self ..))
    rw [Int.ediv_eq_zero_of_lt (by omega) (by omega)]; simp
theorem ceil_sub {v w p : Int} (hp : 1 ≤ p) : (v + w + p - 1) / p ≤ (v + p - 1) / p + (w + p - 1) / p := by
  have a := Int.lt_ediv_add_one_mul_self (v + p - 1) (show 0 < p by omega)
  have b := Int.lt_ediv_add_one_mul_self (w + p - 1) (show 0 < p by omega)
  have c : (v + w + p - 1) / p < (v + p - 1) / p + (w + p - 1) / p + 1 := by
    rw [Int.ediv_lt_iff_lt_mul (by omega)]
    rw [Int.add_mul] at a b
    rw [Int.add_mul, Int.add_mul]
    omega
  omega
theorem intL_sub {v w : Int} : ∀ {l : List CT}, (∀ t ∈ l, okT t = true) → intL (v + w) 0 l ≤ intL v 0 l + intL w 0 l
  | [], _ => by simp [intL]
  | t :: r, h => by
    rw [intL_cons, intL_cons, intL_cons]
    have ih := intL_sub (v := v) (w := w) (l := r) (fun t ht => h t (List.mem_cons_of_mem _ ht))
    obtain ⟨⟨t1, _, t3, _⟩, _⟩ := okT_bd (h t (List.mem_cons_self ..))
    have a := Int.mul_le_mul_of_nonneg_left (ceil_sub (v := v) (w := w) t3) (show 0 ≤ t.c by omega)
    rw [Int.mul_add] at a
    omega
end Go.Proofs.Ytkedcnemldjbeaa
