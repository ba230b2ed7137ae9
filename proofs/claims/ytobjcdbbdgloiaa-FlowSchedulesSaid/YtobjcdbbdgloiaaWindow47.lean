/- The walk over the reference's Window. Conditions: the slots lie in memory. -/
import Derived.Test.YtobjcdbbdgloiaaWitP
import Derived.Test.YtobjcdbbdgloiaaPlain
namespace Go.Proofs.Ytobjcdbbdgloiaa
open Go.RowKit Go.Deep

theorem mem_take_step {q : List Nat} {i x : Nat} (hi : i < q.length) : decide (x ∈ q.take (i + 1)) = (decide (x ∈ q.take i) || (q.getD i 0 == x)) := by
  rw [List.take_succ_eq_append_getElem hi, List.getD_eq_getElem?_getD, List.getElem?_eq_getElem hi]
  rw [show (some q[i]).getD 0 = q[i] from rfl]
  generalize q.take i = L
  generalize q[i] = y
  by_cases h : x ∈ L
  · rw [decide_eq_true h, decide_eq_true (List.mem_append_left _ h)]; rfl
  · rw [decide_eq_false h, Bool.false_or]
    by_cases e : y = x
    · subst e
      rw [decide_eq_true (List.mem_append_right _ (List.mem_singleton_self _))]; simp
    · rw [decide_eq_false (by
        rw [List.mem_append, List.mem_singleton]
        rintro (h2 | h2)
        · exact h h2
        · exact e h2.symm), beq_eq_false_iff_ne.2 e]

set_option maxRecDepth 100000 in
set_option maxHeartbeats 6400000 in
theorem window_any (R D : Nat) (jc : Int) (q : List Nat) (a : Option Addr) (cap : Nat) (w : World) (hRD : R ≤ D) (hD : D ≤ 1000) (hq : q.length ≤ 1000000) (hqb : ∀ x ∈ q, x ≤ 1000000) (hc : IntsAt w w.heap.size a (q.map fun x : Nat => (x : Int))) :
    Calls Try.prog 20 #[.agg #[.int .i64 R, .int .i64 D, .int .i64 jc], .slice a q.length cap] w fun e w' => e = .returned (.int .i64 (winN R D q)) ∧ Below w.heap.size w w' := by
  have hqI : (q.length : Int) ≤ 1000000 := by omega
  have hDI : (D : Int) ≤ 1000 := by omega
  have jcl := blk3 (Go.Deep.blk_alloc_new w (.cells #[.int .i64 R, .int .i64 D, .int .i64 jc] 46))
  have hb1 : Below w.heap.size w (w.alloc (.cells #[.int .i64 R, .int .i64 D, .int .i64 jc] 46)) := (Below.refl _ _).alloc (Nat.le_refl _) _
  have hsj : w.heap.size < (w.alloc (.cells #[.int .i64 R, .int .i64 D, .int .i64 jc] 46)).heap.size := by simp
  have HC := Lib.hid (hc.on hb1 (by omega))
  have HQB := Lib.hid hqb
  clear hc hqb
  go_enter Try.func20, Try.ntmps20
  go_upto_region 2 with fail
  generalize w.alloc (.cells #[.int .i64 R, .int .i64 D, .int .i64 jc] 46) = w1 at *
  obtain ⟨g0, g1, g2⟩ := jcl
  generalize hH : w.heap.size = H at *
  have HH := Lib.hid hH
  clear hH
  go_wp2_with fail
  go_loop [6, 5] (fun u v => ∃ T : Nat, u = .int .i64 T ∧ v = .int .i64 (sm (T - R) fun i => if R + i ∈ q then 0 else 1) ∧ R ≤ T ∧ T ≤ D) (fun u _ => D - (intOf u).toNat)
  case atStart => exact ⟨R, rfl, by rw [Nat.sub_self]; rfl, Nat.le_refl _, hRD⟩
  case round =>
    obtain ⟨T, rfl, rfl, hT1, hT2⟩ := hrel
    obtain ⟨n0, n1⟩ := winN_bd R T q
    have HST := Lib.hid (show T < D → sm (T + 1 - R) (fun i => if R + i ∈ q then (0 : Int) else 1) = sm (T - R) (fun i => if R + i ∈ q then (0 : Int) else 1) + if T ∈ q then 0 else 1 from fun _ => by
      rw [show T + 1 - R = (T - R) + 1 by omega, sm, show R + (T - R) = T by omega])
    have HW := Lib.hid (show T = D → winN R D q = sm (T - R) (fun i => if R + i ∈ q then (0 : Int) else 1) from fun e => by rw [e]; rfl)
    unfold winN at n0 n1
    generalize sm (T - R) (fun i => if R + i ∈ q then (0 : Int) else 1) = A at *
    by_cases hlt : T < D
    · have hTI : (T : Int) < (D : Int) := by omega
      have HST2 := Lib.hid (HST.out hlt)
      clear HST
      go_wp2_with fail
      go_loop [8, 7] (fun u v => ∃ i : Nat, u = .int .i64 i ∧ v = .bool (decide (T ∈ q.take i)) ∧ i ≤ q.length) (fun u _ => q.length - (intOf u).toNat)
      case atStart => exact ⟨0, rfl, by simp, Nat.zero_le _⟩
      case round =>
        obtain ⟨i, rfl, rfl, hi⟩ := hrel
        by_cases hlq : i < q.length
        · have hiI : (i : Int) < (q.length : Int) := by omega
          have hi0 : (0 : Int) ≤ (i : Int) := by omega
          obtain ⟨b, off, rfl, hbN, hcell⟩ := HC.out (by intro e; rw [List.map_eq_nil_iff] at e; subst e; simp at hlq)
          have hx := hcell i (q.getD i 0 : Nat) (by rw [List.getElem?_map, List.getD_eq_getElem?_getD, List.getElem?_eq_getElem hlq]; rfl)
          have hstep := Lib.hid (mem_take_step (x := T) hlq)
          clear hcell HC
          generalize q.getD i 0 = x at *
          generalize decide (T ∈ q.take i) = bo at *
          by_cases he : x = T
          · subst he
            have HS := Lib.hid (show decide (x ∈ q.take (i + 1)) = true by rw [hstep.out]; simp)
            clear hstep
            go_wp2_with fail
            go_round
            case rel => exact ⟨i + 1, by go_num, by rw [HS.out], by omega⟩
            case measure => simp [intOf]; omega
          · have HS := Lib.hid (show decide (T ∈ q.take (i + 1)) = bo by rw [hstep.out, beq_eq_false_iff_ne.2 he]; simp)
            have he1 : ((x : Int) == (T : Int)) = false := beq_eq_false_iff_ne.2 (by omega)
            clear hstep
            go_wp2_with fail
            go_round
            case rel => exact ⟨i + 1, by go_num, by rw [HS.out], by omega⟩
            case measure => simp [intOf]; omega
        · obtain rfl : i = q.length := by omega
          rw [List.take_length]
          by_cases hin : T ∈ q
          · have hd : decide (T ∈ q) = true := decide_eq_true hin
            rw [hd]
            have HE := Lib.hid (show sm (T + 1 - R) (fun i => if R + i ∈ q then (0 : Int) else 1) = A by rw [HST2.out, if_pos hin]; omega)
            clear HST2 hd hin
            go_wp2_with fail
            go_round
            case rel => exact ⟨T + 1, by go_num, by rw [HE.out], by omega, by omega⟩
            case measure => simp [intOf]; omega
          · have hd : decide (T ∈ q) = false := decide_eq_false hin
            rw [hd]
            have HE := Lib.hid (show sm (T + 1 - R) (fun i => if R + i ∈ q then (0 : Int) else 1) = A + 1 by rw [HST2.out, if_neg hin])
            clear HST2 hd hin
            go_wp2_with fail
            go_round
            case rel => exact ⟨T + 1, by go_num, by rw [HE.out], by omega, by omega⟩
            case measure => simp [intOf]; omega
    · obtain rfl : T = D := by omega
      clear HST
      have HB := hb1
      go_wp2_with fail
      go_ret
      exact ⟨by rw [HW.out trivial]; rfl, by rw [HH.out]; exact HB⟩
end Go.Proofs.Ytobjcdbbdgloiaa
