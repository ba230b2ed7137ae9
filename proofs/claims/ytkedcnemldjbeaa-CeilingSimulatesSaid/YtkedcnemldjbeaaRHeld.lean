/- The walks over the reference's Held and Active. Conditions: a valid list of tasks lies in memory. -/
import Derived.Test.YtkedcnemldjbeaaRResp
import Derived.Test.YtkedcnemldjbeaaAct
import Derived.StillTailTactics
import Derived.Outline
import Derived.Test.YtkedcnemldjbeaaCopy44
import Derived.Deep.Heap
namespace Go.Proofs.Ytkedcnemldjbeaa
open Go.RowKit

def heldS (d : Int) : List Sec → Option Sec
  | [] => none
  | s :: r => if s.f < d ∧ d < s.t then some s else heldS d r
def heldO (d : Int) (ss : List Sec) : Int := match heldS d ss with | none => 0 | some s => s.o
def heldB (d : Int) (ss : List Sec) : Bool := (heldS d ss).isSome
theorem heldS_hit {d : Int} {ss : List Sec} {j : Nat} (h : j < ss.length) (hc : ss[j].f < d ∧ d < ss[j].t) : heldS d (ss.drop j) = some ss[j] := by
  rw [List.drop_eq_getElem_cons h, heldS, if_pos hc]
theorem heldS_skip {d : Int} {ss : List Sec} {j : Nat} (h : j < ss.length) (hc : ¬ (ss[j].f < d ∧ d < ss[j].t)) : heldS d (ss.drop j) = heldS d (ss.drop (j + 1)) := by
  rw [List.drop_eq_getElem_cons h, heldS, if_neg hc]
theorem actS_held {m : Int → Option Int} {n d : Int} : ∀ {ss : List Sec}, actS m n d ss = match heldS d ss with | none => (n, false) | some s => (min n ((m s.o).getD 0), true)
  | [] => rfl
  | s :: r => by
    rw [actS, heldS]
    split
    · rfl
    · exact actS_held
theorem heldS_mem {d : Int} {s : Sec} : ∀ {ss : List Sec}, heldS d ss = some s → s ∈ ss
  | x :: r, h => by
    rw [heldS] at h
    split at h
    · simp at h; subst h; exact List.mem_cons_self ..
    · exact List.mem_cons_of_mem _ (heldS_mem h)

set_option maxRecDepth 100000 in
set_option maxHeartbeats 3200000 in
theorem rheld_any (c p dl d : Int) (ss : List Sec) (sa : Option Addr) (sc : Nat) (w : World) (h8 : ss.length ≤ 1000) (hss : SecsAt w w.heap.size sa ss) :
    Calls Try.prog 52 #[.agg #[.int .i64 c, .int .i64 p, .int .i64 dl, .slice sa ss.length sc], .int .i64 d] w fun e w' => e = .returned (.tuple #[.int .i64 (heldO d ss), .bool (heldB d ss)]) ∧ Below w.heap.size w w' := by
  have hn8 : (ss.length : Int) ≤ 1000 := by omega
  go_enter Try.func52, Try.ntmps52
  go_wp2_with fail
  have jcl := Go.Deep.blk_alloc_new w (.cells #[.int .i64 c, .int .i64 p, .int .i64 dl, .slice sa ss.length sc] 79)
  have hbw : Below w.heap.size w (w.alloc (.cells #[.int .i64 c, .int .i64 p, .int .i64 dl, .slice sa ss.length sc] 79)) := (Below.refl _ _).alloc (Nat.le_refl _) _
  have hsw : w.heap.size < (w.alloc (.cells #[.int .i64 c, .int .i64 p, .int .i64 dl, .slice sa ss.length sc] 79)).heap.size := by simp
  generalize w.alloc (.cells #[.int .i64 c, .int .i64 p, .int .i64 dl, .slice sa ss.length sc] 79) = w1 at *
  have t3 := row_cell jcl (j := 3) rfl
  clear jcl
  simp only [List.getElem_toArray, List.getElem_cons_succ, List.getElem_cons_zero] at t3
  go_loop [6] (fun u => ∃ j : Nat, u = .int .i64 j ∧ j ≤ ss.length ∧ Hid (heldS d ss = heldS d (ss.drop j))) (fun u => ss.length - (intOf u).toNat)
  case atStart => exact ⟨0, rfl, by omega, rfl⟩
  case round =>
    obtain ⟨j, rfl, hj, hst⟩ := hrel
    by_cases hjl : j < ss.length
    · obtain ⟨sb, soff, rfl, hsN, hscell⟩ := hss (by intro e; simp [e] at hjl)
      obtain ⟨s0, s1, s2⟩ := hscell j ss[j] (List.getElem?_eq_getElem hjl)
      have s0 := keep_cellN hbw hsN s0
      have s1 := keep_cellN hbw hsN s1
      have s2 := keep_cellN hbw hsN s2
      clear hscell
      have j0 : (0 : Int) ≤ (j : Int) := by omega
      have j1 : (j : Int) < (ss.length : Int) := by omega
      have hsb : sb < w1.heap.size := by omega
      have H1 := Lib.hid (heldS_hit (d := d) hjl)
      have H2 := Lib.hid (heldS_skip (d := d) hjl)
      generalize ss[j] = s at *
      obtain ⟨so, sf, st1⟩ := s
      simp only at s0 s1 s2 H1 H2
      by_cases a1 : sf < d
      · by_cases a2 : d < st1
        · have HR := Lib.hid (hst.out.trans (H1.out ⟨a1, a2⟩))
          clear hst H1 H2
          go_wp2_with fail
          go_ret2
          exact ⟨by unfold heldO heldB; rw [HR.out]; rfl, hbw⟩
        · have HR := Lib.hid (hst.out.trans (H2.out (fun h => a2 h.2)))
          clear hst H1 H2
          go_wp2_with fail
          go_round
          case rel => exact ⟨j + 1, by go_num, by omega, HR.out⟩
          case measure => simp [intOf]; omega
      · have HR := Lib.hid (hst.out.trans (H2.out (fun h => a1 h.1)))
        clear hst H1 H2
        go_wp2_with fail
        go_round
        case rel => exact ⟨j + 1, by go_num, by omega, HR.out⟩
        case measure => simp [intOf]; omega
    · obtain rfl : j = ss.length := by omega
      have HR := Lib.hid (hst.out.trans (show heldS d (ss.drop ss.length) = none by rw [List.drop_length]; rfl))
      clear hst
      go_wp2_with fail
      go_ret2
      exact ⟨by unfold heldO heldB; rw [HR.out]; rfl, hbw⟩

set_option maxRecDepth 100000 in
set_option maxHeartbeats 3200000 in
theorem ractive_any (l : List CT) (a : Option Addr) (cap n : Nat) (d : Int) (w : World) (hv : validL l = true) (hn : n < l.length) (hc : TasksAt w w.heap.size a l) :
    Calls Try.prog 42 #[.slice a l.length cap, .int .i64 n, .int .i64 d] w fun e w' => e = .returned (.int .i64 (actV l n d).1) ∧ Below w.heap.size w w' := by
  obtain ⟨h20, hok⟩ := validL_bd hv
  have hct := hc
  obtain ⟨b, off, rfl, hbN, hcell⟩ := hc (by intro e; subst e; simp at hn)
  obtain ⟨c0, c1, c2, sa, sc, c3, hsl, hss⟩ := hcell n _ (ctAt_get hn)
  have htb := okT_bd (hok _ (ctAt_mem hn))
  have h8 : (ctAt l n).ss.length ≤ 8 := htb.1.2.2.2.2.2.2
  have HH := Lib.hid (fun W (hW : SecsAt W W.heap.size sa (ctAt l n).ss) => rheld_any (ctAt l n).c (ctAt l n).p (ctAt l n).d d (ctAt l n).ss sa sc W (by omega) hW)
  have HS := Lib.hid hss
  have HA := Lib.hid (actS_held (m := ceilM l) (n := (n : Int)) (d := d) (ss := (ctAt l n).ss))
  have HCE := Lib.hid (fun s (h : heldS d (ctAt l n).ss = some s) => ceilM_eq (l := l) (o := s.o) ⟨_, ctAt_mem hn, hasO_mem (heldS_mem h)⟩)
  have HAV := Lib.hid (show actV l n d = actS (ceilM l) n d (ctAt l n).ss from rfl)
  have hlen : (l.length : Int) ≤ 20 := by omega
  have hn' : (n : Int) < (l.length : Int) := by omega
  have n0 : (0 : Int) ≤ (n : Int) := by omega
  clear hcell htb hok hss hsl
  go_enter Try.func42, Try.ntmps42
  go_wp2_with fail
  refine (HH.out _ HS.out).mono ?_
  rintro e w1 ⟨rfl, hb1⟩
  have s1 := hb1.size
  generalize (ctAt l n).ss = ss at *
  cases hh : heldS d ss with
  | none =>
    have HF := Lib.hid (HAV.out.trans (by rw [HA.out, hh] : actS (ceilM l) n d ss = ((n : Int), false)))
    have e1 : heldB d ss = false := by unfold heldB; rw [hh]; rfl
    rw [e1]
    clear hh e1
    go_wp2_with fail
    go_ret
    exact ⟨by rw [HF.out]; rfl, hb1⟩
  | some s =>
    have HC := Lib.hid (HCE.out s hh)
    have HF := Lib.hid (HAV.out.trans (by rw [HA.out, hh] : actS (ceilM l) n d ss = (min (n : Int) ((ceilM l s.o).getD 0), true)))
    have e1 : heldB d ss = true := by unfold heldB; rw [hh]; rfl
    have e2 : heldO d ss = s.o := by unfold heldO; rw [hh]
    rw [e1, e2]
    clear hh e1 e2
    go_wp2_with fail
    refine (rceil_any l (some ⟨b, off, none⟩) cap s.o _ (by omega) (hct.on hb1 s1)).mono ?_
    rintro e w2 ⟨rfl, rfl⟩
    by_cases hlt : ceilR l s.o < n
    · have hlt' : (ceilR l s.o : Int) < (n : Int) := by omega
      have HX := Lib.hid (show min (n : Int) ((ceilM l s.o).getD 0) = (ceilR l s.o : Int) by rw [HC.out]; show min (n : Int) (ceilR l s.o : Int) = _; omega)
      go_wp2_with fail
      go_ret
      exact ⟨by rw [HF.out, HX.out]; rfl, hb1⟩
    · have hlt' : ¬ (ceilR l s.o : Int) < (n : Int) := by omega
      have HX := Lib.hid (show min (n : Int) ((ceilM l s.o).getD 0) = (n : Int) by rw [HC.out]; show min (n : Int) (ceilR l s.o : Int) = _; omega)
      go_wp2_with fail
      go_ret
      exact ⟨by rw [HF.out, HX.out]; rfl, hb1⟩
end Go.Proofs.Ytkedcnemldjbeaa
