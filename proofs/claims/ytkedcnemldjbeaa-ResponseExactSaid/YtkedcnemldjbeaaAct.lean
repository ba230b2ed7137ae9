/- The walks over ceiling.active and pending.before. Conditions: the tasks and the ceilings lie in memory. -/
import Derived.Test.YtkedcnemldjbeaaCeil
import Derived.Test.YtkedcnemldjbeaaResp
import Derived.Test.YtkedcnemldjbeaaSimP
namespace Go.Proofs.Ytkedcnemldjbeaa
open Go.RowKit

def actS (m : Int → Option Int) (n d : Int) : List Sec → Int × Bool
  | [] => (n, false)
  | s :: r => if s.f < d ∧ d < s.t then (min n ((m s.o).getD 0), true) else actS m n d r
def actV (l : List CT) (n : Nat) (d : Int) : Int × Bool := actS (ceilM l) n d (ctAt l n).ss
theorem actS_hit {m : Int → Option Int} {n d : Int} {ss : List Sec} {j : Nat} (h : j < ss.length) (hc : ss[j].f < d ∧ d < ss[j].t) : actS m n d (ss.drop j) = (min n ((m ss[j].o).getD 0), true) := by
  rw [List.drop_eq_getElem_cons h, actS, if_pos hc]
theorem actS_skip {m : Int → Option Int} {n d : Int} {ss : List Sec} {j : Nat} (h : j < ss.length) (hc : ¬ (ss[j].f < d ∧ d < ss[j].t)) : actS m n d (ss.drop j) = actS m n d (ss.drop (j + 1)) := by
  rw [List.drop_eq_getElem_cons h, actS, if_neg hc]
theorem ret_ib {a b : Int} {x y : Bool} (h : (a, x) = (b, y)) : Ending.returned (.tuple #[.int .i64 a, .bool x]) = .returned (.tuple #[.int .i64 b, .bool y]) := by cases h; rfl

set_option maxRecDepth 100000 in
set_option maxHeartbeats 3200000 in
theorem active_any (l : List CT) (a : Option Addr) (cap mb mn sz n : Nat) (d : Int) (w : World) (hv : validL l = true) (hn : n < l.length) (hc : TasksAt w w.heap.size a l) (hI : IMap w mb mn (ceilM l) sz) :
    Calls Try.prog 50 #[.slice a l.length cap, .map (some mb), .int .i64 n, .int .i64 d] w fun e w' => e = .returned (.tuple #[.int .i64 (actV l n d).1, .bool (actV l n d).2]) ∧ Below w.heap.size w w' := by
  obtain ⟨h20, hok⟩ := validL_bd hv
  obtain ⟨b, off, rfl, hbN, hcell⟩ := hc (by intro e; subst e; simp at hn)
  obtain ⟨c0, c1, c2, sa, sc, c3, hsl, hss⟩ := hcell n _ (ctAt_get hn)
  have htb := okT_bd (hok _ (ctAt_mem hn))
  have h8 : (ctAt l n).ss.length ≤ 8 := htb.1.2.2.2.2.2.2
  have HM := Lib.hid (secsOK_mem htb.2 (Int.le_refl 0))
  have HI := Lib.hid hI
  have HV := Lib.hid (show actV l n d = actS (ceilM l) n d (ctAt l n).ss from rfl)
  have hml := hI.lt
  clear hcell htb hok hv c0 c1 c2 hI
  generalize (ctAt l n).ss = ss at *
  have hlen : (l.length : Int) ≤ 20 := by omega
  have hn8 : (ss.length : Int) ≤ 8 := by omega
  have hn' : (n : Int) < (l.length : Int) := by omega
  have n0 : (0 : Int) ≤ (n : Int) := by omega
  go_enter Try.func50, Try.ntmps50
  go_wp2_with fail
  clear c3
  go_loopw [18] (fun u wr => ∃ j : Nat, u = .int .i64 j ∧ j ≤ ss.length ∧ Hid (actS (ceilM l) n d ss = actS (ceilM l) n d (ss.drop j)) ∧ Below w.heap.size w wr) (fun u _ => ss.length - (intOf u).toNat)
  case atStart => exact ⟨0, rfl, by omega, rfl, Below.refl _ _⟩
  case round =>
    obtain ⟨j, rfl, hj, hst, hbl⟩ := hrel
    have hbs := hbl.size
    by_cases hjl : j < ss.length
    · obtain ⟨sb, soff, rfl, hsN, hscell⟩ := hss (by intro e; simp [e] at hjl)
      obtain ⟨s0, s1, s2⟩ := hscell j ss[j] (List.getElem?_eq_getElem hjl)
      have s0 := keep_cellN hbl hsN s0
      have s1 := keep_cellN hbl hsN s1
      have s2 := keep_cellN hbl hsN s2
      clear hscell
      have H1 := Lib.hid (actS_hit (m := ceilM l) (n := n) (d := d) hjl)
      have H2 := Lib.hid (actS_skip (m := ceilM l) (n := n) (d := d) hjl)
      have hsm := HM.out ss[j] (List.getElem_mem hjl)
      generalize ss[j] = s at *
      obtain ⟨so, sf, st1⟩ := s
      simp only at s0 s1 s2 hsm
      obtain ⟨o1, o2, f1, f2, f3⟩ := hsm
      have hI3 := HI.out.keep (N := w.heap.size) (hbl.alloc (by omega) (.cells #[.int .i64 so, .int .i64 sf, .int .i64 st1] 63)) hml
      have hlook := hI3.look1 (k := so) (wf64 (by omega) (by omega))
      clear hI3
      by_cases hcd : sf < d ∧ d < st1
      · have HF := Lib.hid (HV.out.trans (hst.out.trans (H1.out hcd)))
        obtain ⟨g1, g2⟩ := hcd
        generalize hg : (ceilM l so).getD 0 = g at *
        have HG := Lib.hid hg
        clear H1 H2 hst hg
        by_cases hgn : (n : Int) ≤ g
        · have HF2 := Lib.hid (show actV l n d = ((n : Int), true) by rw [HF.out, Int.min_eq_left hgn])
          clear HF
          go_wp2_with fail
          all_goals
            go_ret2
            exact ⟨by rw [HF2.out]; first | rfl | (refine ret_ib ?_; congr 1; omega), hbl.alloc (by omega) _⟩
        · have HF2 := Lib.hid (show actV l n d = (g, true) by rw [HF.out, Int.min_eq_right (by omega)])
          clear HF
          go_wp2_with fail
          all_goals
            go_ret2
            exact ⟨by rw [HF2.out]; first | rfl | (refine ret_ib ?_; congr 1; omega), hbl.alloc (by omega) _⟩
      · have HF := Lib.hid (hst.out.trans (H2.out hcd))
        have hcd' : d ≤ sf ∨ (sf < d ∧ st1 ≤ d) := by omega
        clear H1 H2 hst hcd hlook
        rcases hcd' with g1 | ⟨g1, g2⟩
        all_goals
          go_wp2_with fail
          go_roundw
          case rel => exact ⟨j + 1, by go_num, by omega, HF.out, hbl.alloc (by omega) _⟩
          case measure => simp [intOf]; omega
    · have HF := Lib.hid (show actV l n d = ((n : Int), false) by rw [HV.out, hst.out, List.drop_of_length_le (by omega)]; rfl)
      clear hst
      go_wp2_with fail
      go_ret2
      exact ⟨by rw [HF.out]; rfl, hbl⟩

/-- A pending job of task i as a value. -/
abbrev pdVal (i : Nat) (p : Pd) : Value := .agg #[.int .i64 i, .int .i64 p.rel, .int .i64 p.st, .int .i64 0, .int .i64 0, .int .i64 p.dn, .int .i64 p.lo, .int .i64 p.ac, .bool p.ho]

set_option maxRecDepth 100000 in
set_option maxHeartbeats 3200000 in
theorem pbefore_any (i j : Nat) (p q : Pd) (w : World) :
    Calls Try.prog 53 #[pdVal i p, pdVal j q] w fun e w' => e = .returned (.bool (bef i p j q)) ∧ Below w.heap.size w w' := by
  obtain ⟨r1, s1, d1, l1, a1, h1⟩ := p
  obtain ⟨r2, s2, d2, l2, a2, h2⟩ := q
  unfold pdVal
  by_cases ha : a1 = a2
  · subst ha
    cases h1 <;> cases h2
    · by_cases hij : i = j
      · subst hij
        have HF := Lib.hid (show bef i ⟨r1, s1, d1, l1, a1, false⟩ i ⟨r2, s2, d2, l2, a1, false⟩ = decide (r1 < r2) by simp [bef])
        go_enter Try.func53, Try.ntmps53
        go_wp2_with fail
        go_ret
        exact ⟨ret_bool HF.out.symm, ((Below.refl _ _).alloc (Nat.le_refl _) _).alloc (by simp) _⟩
      · have HF := Lib.hid (show bef i ⟨r1, s1, d1, l1, a1, false⟩ j ⟨r2, s2, d2, l2, a1, false⟩ = decide ((i : Int) < (j : Int)) by simp [bef, hij])
        have hq : ((i : Int) != (j : Int)) = true := by simp; omega
        go_enter Try.func53, Try.ntmps53
        go_wp2_with fail
        go_ret
        exact ⟨ret_bool (by rw [HF.out]; simp), ((Below.refl _ _).alloc (Nat.le_refl _) _).alloc (by simp) _⟩
    · have HF := Lib.hid (show bef i ⟨r1, s1, d1, l1, a1, false⟩ j ⟨r2, s2, d2, l2, a1, true⟩ = false by simp [bef])
      go_enter Try.func53, Try.ntmps53
      go_wp2_with fail
      go_ret
      exact ⟨ret_bool HF.out.symm, ((Below.refl _ _).alloc (Nat.le_refl _) _).alloc (by simp) _⟩
    · have HF := Lib.hid (show bef i ⟨r1, s1, d1, l1, a1, true⟩ j ⟨r2, s2, d2, l2, a1, false⟩ = true by simp [bef])
      go_enter Try.func53, Try.ntmps53
      go_wp2_with fail
      go_ret
      exact ⟨ret_bool HF.out.symm, ((Below.refl _ _).alloc (Nat.le_refl _) _).alloc (by simp) _⟩
    · by_cases hij : i = j
      · subst hij
        have HF := Lib.hid (show bef i ⟨r1, s1, d1, l1, a1, true⟩ i ⟨r2, s2, d2, l2, a1, true⟩ = decide (r1 < r2) by simp [bef])
        go_enter Try.func53, Try.ntmps53
        go_wp2_with fail
        go_ret
        exact ⟨ret_bool HF.out.symm, ((Below.refl _ _).alloc (Nat.le_refl _) _).alloc (by simp) _⟩
      · have HF := Lib.hid (show bef i ⟨r1, s1, d1, l1, a1, true⟩ j ⟨r2, s2, d2, l2, a1, true⟩ = decide ((i : Int) < (j : Int)) by simp [bef, hij])
        have hq : ((i : Int) != (j : Int)) = true := by simp; omega
        go_enter Try.func53, Try.ntmps53
        go_wp2_with fail
        go_ret
        exact ⟨ret_bool (by rw [HF.out]; simp), ((Below.refl _ _).alloc (Nat.le_refl _) _).alloc (by simp) _⟩
  · have HF := Lib.hid (show bef i ⟨r1, s1, d1, l1, a1, h1⟩ j ⟨r2, s2, d2, l2, a2, h2⟩ = decide (a1 < a2) by simp [bef, ha])
    have hq : (a1 != a2) = true := by simp [ha]
    clear ha
    go_enter Try.func53, Try.ntmps53
    go_wp2_with fail
    go_ret
    exact ⟨ret_bool HF.out.symm, ((Below.refl _ _).alloc (Nat.le_refl _) _).alloc (by simp) _⟩
end Go.Proofs.Ytkedcnemldjbeaa
