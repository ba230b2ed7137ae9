/- Jobs in memory; the walks over flow.jobsValid and the law's valid. Conditions: the jobs lie in memory. -/
import Derived.Test.YtfoadipocpopiaaGreatM00
import Derived.Test.YtfoadipocpopiaaGreatM01
import Derived.Outline
import Derived.Deep.Heap
import Derived.Deep.DeepCutAuto
namespace Go.Proofs.YtfoadipocpopiaaGreat
open Go.RowKit

def FJobsAt (w : World) (N : Nat) (a : Option Addr) (l : List FJ) : Prop :=
  l ≠ [] → ∃ b off, a = some ⟨b, off, none⟩ ∧ b < N ∧ ∀ i j, l[i]? = some j → w.cell? ⟨b, off + i * 3, none⟩ = some (.int .i64 j.r) ∧ w.cell? ⟨b, off + i * 3 + 1, none⟩ = some (.int .i64 j.d) ∧ w.cell? ⟨b, off + i * 3 + 2, none⟩ = some (.int .i64 j.c)
theorem FJobsAt.keep {w w' : World} {N : Nat} {a : Option Addr} {l : List FJ} (h : FJobsAt w N a l) (hb : Below N w w') : FJobsAt w' N a l := fun hne => by
  obtain ⟨b, off, e, hlt, hc⟩ := h hne
  refine ⟨b, off, e, hlt, fun i j hj => ?_⟩
  obtain ⟨c0, c1, c2⟩ := hc i j hj
  exact ⟨keep_cellN hb hlt c0, keep_cellN hb hlt c1, keep_cellN hb hlt c2⟩
theorem FJobsAt.more {w : World} {N N' : Nat} {a : Option Addr} {l : List FJ} (h : FJobsAt w N a l) (hN : N ≤ N') : FJobsAt w N' a l := fun hne => by
  obtain ⟨b, off, e, hlt, hc⟩ := h hne
  exact ⟨b, off, e, by omega, hc⟩
theorem FJobsAt.on {w w' : World} {N : Nat} {a : Option Addr} {l : List FJ} (h : FJobsAt w N a l) (hb : Below N w w') (hN : N ≤ w'.heap.size) : FJobsAt w' w'.heap.size a l := (h.keep hb).more hN
theorem fjAt_get {l : List FJ} {i : Nat} (h : i < l.length) : l[i]? = some (fjAt l i) := by
  rw [fjAt, List.getD_eq_getElem?_getD, List.getElem?_eq_getElem h]; rfl
theorem fjAt_mem {l : List FJ} {i : Nat} (h : i < l.length) : fjAt l i ∈ l := List.mem_of_getElem? (fjAt_get h)
def jobOK (j : FJ) : Prop := 0 ≤ j.r ∧ j.r ≤ j.d ∧ j.d ≤ 200 ∧ 0 ≤ j.c ∧ j.c ≤ 200
instance (j : FJ) : Decidable (jobOK j) := by unfold jobOK; infer_instance
def jobsOK (l : List FJ) (cores : Int) : Bool := decide (l.length ≤ 100 ∧ 1 ≤ cores ∧ cores ≤ 4) && (List.range l.length).all fun i => decide (jobOK (fjAt l i))
theorem jobsOK_size {l : List FJ} {cores : Int} (h : ¬ (l.length ≤ 100 ∧ 1 ≤ cores ∧ cores ≤ 4)) : jobsOK l cores = false := by simp only [jobsOK, decide_eq_false h, Bool.false_and]
theorem jobsOK_no {l : List FJ} {cores : Int} {i : Nat} (hi : i < l.length) (h : ¬ jobOK (fjAt l i)) : jobsOK l cores = false := by
  unfold jobsOK
  rw [Bool.and_eq_false_iff]
  right
  rw [List.all_eq_false]
  exact ⟨i, by simpa using hi, by simp [h]⟩
theorem jobsOK_mk {l : List FJ} {cores : Int} (h : l.length ≤ 100 ∧ 1 ≤ cores ∧ cores ≤ 4) (hj : ∀ i, i < l.length → jobOK (fjAt l i)) : jobsOK l cores = true := by
  unfold jobsOK
  rw [decide_eq_true h, Bool.true_and, List.all_eq_true]
  intro i hi
  exact decide_eq_true (hj i (by simpa using hi))
theorem jobsOK_bd {l : List FJ} {cores : Int} (h : jobsOK l cores = true) : l.length ≤ 100 ∧ 1 ≤ cores ∧ cores ≤ 4 ∧ ∀ i, i < l.length → jobOK (fjAt l i) := by
  unfold jobsOK at h
  rw [Bool.and_eq_true, decide_eq_true_eq, List.all_eq_true] at h
  exact ⟨h.1.1, h.1.2.1, h.1.2.2, fun i hi => of_decide_eq_true (h.2 i (by simpa using hi))⟩
theorem blk3 {w : World} {g : Nat} {x y z : Value} {t : TypeId} (h : w.heap[g]? = some (.cells #[x, y, z] t (0, 0))) : w.cell? ⟨g, 0, none⟩ = some x ∧ w.cell? ⟨g, 1, none⟩ = some y ∧ w.cell? ⟨g, 2, none⟩ = some z := by
  simp [World.cell?, h]

set_option maxRecDepth 100000 in
set_option maxHeartbeats 6400000 in
theorem jvalid_any (l : List FJ) (a : Option Addr) (cap : Nat) (cores : Int) (w : World) (hl : l.length ≤ 9223372036854775807) (hc : FJobsAt w w.heap.size a l) :
    Calls Tryz.prog 22 #[.slice a l.length cap, .int .i64 cores] w fun e w' => e = .returned (.bool (jobsOK l cores)) ∧ Below w.heap.size w w' := by
  have hlI : (l.length : Int) ≤ 9223372036854775807 := by omega
  by_cases h1 : l.length ≤ 100
  · have h1' : (l.length : Int) ≤ 100 := by omega
    by_cases h2 : 1 ≤ cores
    · by_cases h3 : cores ≤ 4
      · go_enter Tryz.func22, Tryz.ntmps22
        go_wp2_with fail
        go_loopw [20] (fun u wr => ∃ k : Nat, u = .int .i64 k ∧ k ≤ l.length ∧ Hid (∀ i, i < k → jobOK (fjAt l i)) ∧ Below w.heap.size w wr) (fun u _ => l.length - (intOf u).toNat)
        case atStart => exact ⟨0, rfl, by omega, fun i hi => absurd hi (Nat.not_lt_zero _), Below.refl _ _⟩
        case round =>
          obtain ⟨k, rfl, hk, hall, hbl⟩ := hrel
          have hbs := hbl.size
          by_cases hlt : k < l.length
          · skip
            have k0 : (0 : Int) ≤ (k : Int) := by omega
            have k1 : (k : Int) < (l.length : Int) := by omega
            obtain ⟨b, off, rfl, hbN, hcell⟩ := hc (by intro e; simp [e] at hlt)
            obtain ⟨c0, c1, c2⟩ := hcell k _ (fjAt_get hlt)
            have c0 := keep_cellN hbl hbN c0
            have c1 := keep_cellN hbl hbN c1
            have c2 := keep_cellN hbl hbN c2
            have hbr : b < wr.heap.size := by omega
            have HNO := Lib.hid (fun h => jobsOK_no (cores := cores) hlt h)
            have HST := Lib.hid (fun (h : jobOK (fjAt l k)) i (hi : i < k + 1) => show jobOK (fjAt l i) from by
              by_cases e : i = k
              · subst e; exact h
              · exact hall.out i (by omega))
            clear hcell hall
            generalize fjAt l k = j at *
            obtain ⟨jr, jd, jc⟩ := j
            simp only at c0 c1 c2
            have bj := hbl.alloc hbs (.cells #[.int .i64 jr, .int .i64 jd, .int .i64 jc] 58)
            have jcl := Go.Deep.blk_alloc_new wr (.cells #[.int .i64 jr, .int .i64 jd, .int .i64 jc] 58)
            have hsj : wr.heap.size < (wr.alloc (.cells #[.int .i64 jr, .int .i64 jd, .int .i64 jc] 58)).heap.size := by simp
            clear hbl
            go_upto_region 6 with fail
            generalize wr.alloc (.cells #[.int .i64 jr, .int .i64 jd, .int .i64 jc] 58) = wj at *
            obtain ⟨g0, g1, g2⟩ := blk3 jcl
            clear jcl c0 c1 c2
            by_cases p1 : 0 ≤ jr
            · skip
              by_cases p2 : jr ≤ jd
              · skip
                by_cases p3 : jd ≤ 200
                · skip
                  by_cases p4 : 0 ≤ jc
                  · skip
                    by_cases p5 : jc ≤ 200
                    · skip
                      have HS2 := Lib.hid (HST.out ⟨p1, p2, p3, p4, p5⟩)
                      clear HST
                      go_wp2_with fail
                      go_roundw
                      case rel => exact ⟨k + 1, by go_num, by omega, HS2.out, bj⟩
                      case measure => simp [intOf]; omega
                    · skip
                      have HN := Lib.hid (HNO.out (fun h => by obtain ⟨h1, h2, h3, h4, h5⟩ := h; simp only at h1 h2 h3 h4 h5; omega))
                      clear HST
                      go_wp2_with fail
                      go_ret
                      exact ⟨ret_bool HN.out.symm, bj⟩
                  · skip
                    have HN := Lib.hid (HNO.out (fun h => by obtain ⟨h1, h2, h3, h4, h5⟩ := h; simp only at h1 h2 h3 h4 h5; omega))
                    clear HST
                    go_wp2_with fail
                    go_ret
                    exact ⟨ret_bool HN.out.symm, bj⟩
                · skip
                  have HN := Lib.hid (HNO.out (fun h => by obtain ⟨h1, h2, h3, h4, h5⟩ := h; simp only at h1 h2 h3 h4 h5; omega))
                  clear HST
                  go_wp2_with fail
                  go_ret
                  exact ⟨ret_bool HN.out.symm, bj⟩
              · skip
                have HN := Lib.hid (HNO.out (fun h => by obtain ⟨h1, h2, h3, h4, h5⟩ := h; simp only at h1 h2 h3 h4 h5; omega))
                clear HST
                go_wp2_with fail
                go_ret
                exact ⟨ret_bool HN.out.symm, bj⟩
            · skip
              have HN := Lib.hid (HNO.out (fun h => by obtain ⟨h1, h2, h3, h4, h5⟩ := h; simp only at h1 h2 h3 h4 h5; omega))
              clear HST
              go_wp2_with fail
              go_ret
              exact ⟨ret_bool HN.out.symm, bj⟩
          · obtain rfl : k = l.length := by omega
            have HY := Lib.hid (jobsOK_mk (cores := cores) ⟨h1, h2, h3⟩ hall.out)
            clear hall
            go_wp2_with fail
            go_ret
            exact ⟨ret_bool HY.out.symm, hbl⟩
      · have HN := Lib.hid (jobsOK_size (l := l) (cores := cores) (fun h => h3 h.2.2))
        go_enter Tryz.func22, Tryz.ntmps22
        go_wp2_with fail
        go_ret
        exact ⟨ret_bool HN.out.symm, Below.refl _ _⟩
    · have HN := Lib.hid (jobsOK_size (l := l) (cores := cores) (fun h => h2 h.2.1))
      go_enter Tryz.func22, Tryz.ntmps22
      go_wp2_with fail
      go_ret
      exact ⟨ret_bool HN.out.symm, Below.refl _ _⟩
  · have h1' : ¬ (l.length : Int) ≤ 100 := by omega
    have HN := Lib.hid (jobsOK_size (l := l) (cores := cores) (fun h => h1 h.1))
    go_enter Tryz.func22, Tryz.ntmps22
    go_wp2_with fail
    go_ret
    exact ⟨ret_bool HN.out.symm, Below.refl _ _⟩
end Go.Proofs.YtfoadipocpopiaaGreat
