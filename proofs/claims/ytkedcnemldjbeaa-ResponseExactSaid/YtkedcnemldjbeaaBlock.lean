/- The walks over response.exists and response.Blocking. Conditions: the tasks lie in memory. -/
import Derived.Test.YtkedcnemldjbeaaCeil
namespace Go.Proofs.Ytkedcnemldjbeaa
open Go.RowKit

def exB (l : List CT) (i : Int) : Bool := validL l && decide (0 ≤ i) && decide (i < l.length)
theorem exB_true {l : List CT} {i : Int} (h : exB l i = true) : validL l = true ∧ 0 ≤ i ∧ i < l.length := by
  simp only [exB, Bool.and_eq_true, decide_eq_true_eq] at h; exact ⟨h.1.1, h.1.2, h.2⟩

theorem exists_any (l : List CT) (a : Option Addr) (cap : Nat) (i : Int) (w : World) (hl : l.length ≤ 9223372036854775807) (hc : TasksAt w w.heap.size a l) :
    Calls Try.prog 45 #[.slice a l.length cap, .int .i64 i] w fun e w' => e = .returned (.bool (exB l i)) ∧ Below w.heap.size w w' := by
  have hlen : (l.length : Int) ≤ 9223372036854775807 := by omega
  cases hv : validL l
  · have HV := Lib.hid hv
    have HF := Lib.hid (show exB l i = false by simp [exB, hv])
    clear hv
    go_enter Try.func45, Try.ntmps45
    go_wp2_with fail
    refine (valid_any l a cap _ hl hc).mono ?_
    rintro e w1 ⟨rfl, hb1⟩
    rw [HV.out]
    go_wp2_with fail
    go_ret
    exact ⟨ret_bool HF.out.symm, hb1⟩
  · have HV := Lib.hid hv
    by_cases h0 : 0 ≤ i
    · have HF := Lib.hid (show exB l i = decide (i < l.length) by simp [exB, hv, h0])
      clear hv
      go_enter Try.func45, Try.ntmps45
      go_wp2_with fail
      refine (valid_any l a cap _ hl hc).mono ?_
      rintro e w1 ⟨rfl, hb1⟩
      rw [HV.out]
      go_wp2_with fail
      go_ret
      exact ⟨ret_bool HF.out.symm, hb1⟩
    · have HF := Lib.hid (show exB l i = false by simp [exB, h0])
      clear hv
      go_enter Try.func45, Try.ntmps45
      go_wp2_with fail
      refine (valid_any l a cap _ hl hc).mono ?_
      rintro e w1 ⟨rfl, hb1⟩
      rw [HV.out]
      go_wp2_with fail
      go_ret
      exact ⟨ret_bool HF.out.symm, hb1⟩

/-- The longest delay by the sections of tasks. -/
def blkS (m : Int → Option Int) (i : Int) (acc : Int) (s : Sec) : Int := if (m s.o).getD 0 ≤ i then max acc (s.t - s.f - 1) else acc
def blkSs (m : Int → Option Int) (i : Int) (acc : Int) (ss : List Sec) : Int := ss.foldl (blkS m i) acc
def blkTs (m : Int → Option Int) (i : Int) (acc : Int) (l : List CT) : Int := l.foldl (fun acc t => blkSs m i acc t.ss) acc
def blkV (l : List CT) (i : Int) : Int := if exB l i then blkTs (ceilM l) i 0 (l.drop (i.toNat + 1)) else -1

theorem blkTs_step {m : Int → Option Int} {i acc : Int} {l : List CT} {k : Nat} (h : k < l.length) : blkTs m i acc (l.drop k) = blkTs m i (blkSs m i acc l[k].ss) (l.drop (k + 1)) := by
  rw [List.drop_eq_getElem_cons h, blkTs, List.foldl_cons]; rfl
theorem blkSs_step {m : Int → Option Int} {i acc : Int} {ss : List Sec} {j : Nat} (h : j < ss.length) : blkSs m i acc (ss.drop j) = blkSs m i (blkS m i acc ss[j]) (ss.drop (j + 1)) := by
  rw [List.drop_eq_getElem_cons h, blkSs, List.foldl_cons]; rfl

/-- The tasks from k on lie where the slice from k on lies. -/
theorem TasksAt.cut {w : World} {N b off : Nat} {l : List CT} (h : TasksAt w N (some ⟨b, off, none⟩) l) (k : Nat) : TasksAt w N (some ⟨b, off + k * 4, none⟩) (l.drop k) := fun hne => by
  have hl : l ≠ [] := by intro e; subst e; simp at hne
  obtain ⟨b', off', e, hlt, hc⟩ := h hl
  simp only [Option.some.injEq, Addr.mk.injEq] at e
  obtain ⟨rfl, rfl, _⟩ := e
  refine ⟨b, off + k * 4, rfl, hlt, fun i t hi => ?_⟩
  rw [List.getElem?_drop] at hi
  have := hc (k + i) t hi
  rw [show off + k * 4 + i * 4 = off + (k + i) * 4 by omega]
  exact this

set_option maxRecDepth 100000 in
set_option maxHeartbeats 6400000 in
theorem blocking_any (l : List CT) (a : Option Addr) (cap : Nat) (i : Int) (w : World) (hl : l.length ≤ cap) (hcap : cap ≤ 9223372036854775807) (hc : TasksAt w w.heap.size a l) :
    Calls Try.prog 22 #[.slice a l.length cap, .int .i64 i] w fun e w' => e = .returned (.int .i64 (blkV l i)) ∧ Below w.heap.size w w' := by
  have hlen : (l.length : Int) ≤ 9223372036854775807 := by omega
  cases hx : exB l i
  · have HF := Lib.hid (show blkV l i = -1 by simp [blkV, hx])
    have HX := Lib.hid hx
    clear hx
    go_enter Try.func22, Try.ntmps22
    go_wp2_with fail
    refine (exists_any l a cap i _ (by omega) hc).mono ?_
    rintro e w1 ⟨rfl, hb1⟩
    rw [HX.out]
    go_wp2_with fail
    go_ret
    exact ⟨ret_int HF.out.symm, hb1⟩
  · obtain ⟨hv, i0, i1⟩ := exB_true hx
    obtain ⟨n, rfl⟩ := Int.eq_ofNat_of_zero_le i0
    have HF := Lib.hid (show blkV l n = blkTs (ceilM l) n 0 (l.drop (n + 1)) by simp [blkV, hx])
    have HX := Lib.hid hx
    have HV := Lib.hid hv
    obtain ⟨h20, hok⟩ := validL_bd hv
    have HOK := Lib.hid hok
    obtain ⟨b, off, rfl, hbN, -⟩ := hc (by intro e; subst e; simp at i1; omega)
    clear hx hv hok
    go_enter Try.func22, Try.ntmps22
    go_wp2_with fail
    refine (exists_any l _ cap n _ (by omega) hc).mono ?_
    rintro e w1 ⟨rfl, hb1⟩
    rw [HX.out]
    go_wp2_with fail
    refine (ceilings_any l _ cap _ (by omega) (hc.on hb1 hb1.size)).mono ?_
    rintro e w2 ⟨mb, mn, rfl, hmb, hI, hb2⟩
    have hI := Lib.hid (show IMap w2 mb mn (ceilM l) (ceilS l).2 by have := hI; rwa [HV.out] at this)
    have hz2 := hb1.size
    have b2 : Below w.heap.size w w2 := hb1.trans (hb2.mono hz2)
    have hz3 := b2.size
    have hml := hI.out.lt
    clear hb1 hb2
    have hdl : (l.drop (n + 1)).length = l.length - (n + 1) := by simp
    by_cases hcn : cap = n + 1
    · subst hcn
      have hd : l.drop (n + 1) = [] := List.drop_of_length_le (by omega)
      have HF2 := Lib.hid (show blkV l n = 0 by rw [HF.out, hd]; rfl)
      have hz : l.length - (n + 1) = 0 := by omega
      clear hd hdl
      go_wp2_with fail
      refine wp_loop_rounds 1 ?_
      rw [rounds_succ]
      go_wp2_with fail
      go_ret
      exact ⟨ret_int HF2.out.symm, b2⟩
    · have HDL := Lib.hid hdl
      clear hdl
      have hcut := (hc.keep b2).cut (n + 1)
      generalize hLd : l.drop (n + 1) = L at *
      have hLm : ∀ t ∈ L, okT t = true := fun t ht => HOK.out t (List.mem_of_mem_drop (by rw [hLd]; exact ht))
      have HLm := Lib.hid hLm
      clear hLd hLm
      have C := Lib.hid hcut
      clear hcut
      go_wp2_with fail
      generalize hq : l.length - (n + 1) = q at *
      have hql : q ≤ 20 := by omega
      have HQ := Lib.hid hq
      clear hq
      go_loopw [22, 6] (fun u v wr => ∃ (k : Nat) (acc : Int), u = .int .i64 k ∧ v = .int .i64 acc ∧ k ≤ q ∧ Hid (blkV l n = blkTs (ceilM l) n acc (L.drop k)) ∧ Hid (IMap wr mb mn (ceilM l) (ceilS l).2) ∧ Below w2.heap.size w2 wr ∧ mb < wr.heap.size) (fun u _ _ => q - (intOf u).toNat)
      case atStart => exact ⟨0, 0, rfl, rfl, by omega, HF.out, hI.out, Below.refl _ _, hml⟩
      case round =>
        obtain ⟨k, acc, rfl, rfl, hk, hst, hI, hbl, hz⟩ := hrel
        have hbs := hbl.size
        by_cases hlt : k < q
        · have hlt' : k < L.length := by have := HDL.out; omega
          obtain ⟨b', off', e, -, hcell⟩ := C.out (by intro e; simp [e] at hlt')
          simp only [Option.some.injEq, Addr.mk.injEq] at e
          obtain ⟨rfl, rfl, _⟩ := e
          obtain ⟨c0, c1, c2, sa, sc, c3, hsl, hss⟩ := hcell k L[k] (List.getElem?_eq_getElem hlt')
          have c0 := keep_cellN hbl (by omega) c0
          have c1 := keep_cellN hbl (by omega) c1
          have c2 := keep_cellN hbl (by omega) c2
          have c3 := keep_cellN hbl (by omega) c3
          clear hcell
          have HS := Lib.hid (hst.out.trans (blkTs_step hlt'))
          have htb := okT_bd (HLm.out L[k] (List.getElem_mem hlt'))
          clear hst
          obtain ⟨wo, rfl⟩ : ∃ wo : World, wo = wr := ⟨_, rfl⟩
          generalize L[k] = t at *
          obtain ⟨tc, tp, td, ss⟩ := t
          simp only at c0 c1 c2 c3 hsl
          have h8 : ss.length ≤ 8 := htb.1.2.2.2.2.2.2
          have htc : tc ≤ 1000 := htb.1.2.1
          have HM := Lib.hid (secsOK_mem htb.2 (Int.le_refl 0))
          clear htb
          go_wp2_with fail
          have hbb : Below w2.heap.size w2 (wo.alloc (.cells #[.int .i64 tc, .int .i64 tp, .int .i64 td, .slice sa ss.length sc] 30)) := hbl.alloc (by omega) _
          have hI2 := Lib.hid (hI.out.keep (N := wo.heap.size) ((Below.refl _ _).alloc (Nat.le_refl _) (.cells #[.int .i64 tc, .int .i64 tp, .int .i64 td, .slice sa ss.length sc] 30)) hz)
          have hz5 : mb < (wo.alloc (.cells #[.int .i64 tc, .int .i64 tp, .int .i64 td, .slice sa ss.length sc] 30)).heap.size := by simp; omega
          clear c0 c1 c2 c3 hI hbl hz hbs
          generalize wo.alloc (.cells #[.int .i64 tc, .int .i64 tp, .int .i64 td, .slice sa ss.length sc] 30) = wb at *
          go_loopw [29, 6] (fun u v wq => ∃ (j : Nat) (ac : Int), u = .int .i64 j ∧ v = .int .i64 ac ∧ j ≤ ss.length ∧ Hid (blkSs (ceilM l) n acc ss = blkSs (ceilM l) n ac (ss.drop j)) ∧ Hid (IMap wq mb mn (ceilM l) (ceilS l).2) ∧ Below w2.heap.size w2 wq ∧ mb < wq.heap.size) (fun u _ _ => ss.length - (intOf u).toNat)
          case atStart => exact ⟨0, acc, rfl, rfl, by omega, rfl, hI2.out, hbb, hz5⟩
          case round =>
            obtain ⟨j, ac, rfl, rfl, hj, hst, hI, hbl, hz⟩ := hrel
            have hbs := hbl.size
            clear hI2 hbb hz5
            by_cases hjl : j < ss.length
            · obtain ⟨sb, soff, rfl, hsN, hscell⟩ := hss (by intro e; simp [e] at hjl)
              obtain ⟨s0, s1, s2⟩ := hscell j ss[j] (List.getElem?_eq_getElem hjl)
              have s0 := keep_cellN hbl (by omega) s0
              have s1 := keep_cellN hbl (by omega) s1
              have s2 := keep_cellN hbl (by omega) s2
              clear hscell
              have HT := Lib.hid (hst.out.trans (blkSs_step hjl))
              have hsm := HM.out ss[j] (List.getElem_mem hjl)
              clear hst
              generalize ss[j] = s at *
              obtain ⟨so, sf, st1⟩ := s
              simp only at s0 s1 s2 hsm
              obtain ⟨o1, o2, f1, f2, f3⟩ := hsm
              have hI3 := hI.out.keep (N := wr.heap.size) ((Below.refl _ _).alloc (Nat.le_refl _) (.cells #[.int .i64 so, .int .i64 sf, .int .i64 st1] 63)) hz
              have hlook := hI3.look1 (k := so) (wf64 (by omega) (by omega))
              have hbb : Below w2.heap.size w2 (wr.alloc (.cells #[.int .i64 so, .int .i64 sf, .int .i64 st1] 63)) := hbl.alloc (by omega) _
              have HI3 := Lib.hid hI3
              clear hI3 hI
              generalize hg : (ceilM l so).getD 0 = g at *
              have HG := Lib.hid hg
              clear hg
              by_cases hgn : g ≤ n
              · by_cases hmx : ac ≤ st1 - sf - 1
                · have HT2 := Lib.hid (show blkSs (ceilM l) n acc ss = blkSs (ceilM l) n (st1 - sf - 1) (ss.drop (j + 1)) by rw [HT.out]; simp only [blkS, HG.out, if_pos hgn]; rw [Int.max_eq_right hmx])
                  clear HT
                  go_wp2_with fail
                  all_goals
                    go_roundw
                    case rel => exact ⟨j + 1, st1 - sf - 1, by go_num, by first | rfl | (congr 1; omega), by omega, HT2.out, HI3.out, hbb, by simp; omega⟩
                    case measure => simp [intOf]; omega
                · have HT2 := Lib.hid (show blkSs (ceilM l) n acc ss = blkSs (ceilM l) n ac (ss.drop (j + 1)) by rw [HT.out]; simp only [blkS, HG.out, if_pos hgn]; rw [Int.max_eq_left (by omega)])
                  clear HT
                  go_wp2_with fail
                  all_goals
                    go_roundw
                    case rel => exact ⟨j + 1, ac, by go_num, by first | rfl | (congr 1; omega), by omega, HT2.out, HI3.out, hbb, by simp; omega⟩
                    case measure => simp [intOf]; omega
              · have HT2 := Lib.hid (show blkSs (ceilM l) n acc ss = blkSs (ceilM l) n ac (ss.drop (j + 1)) by rw [HT.out]; simp only [blkS, HG.out, if_neg hgn])
                clear HT
                go_wp2_with fail
                go_roundw
                case rel => exact ⟨j + 1, ac, by go_num, rfl, by omega, HT2.out, HI3.out, hbb, by simp; omega⟩
                case measure => simp [intOf]; omega
            · have HT := Lib.hid (show blkSs (ceilM l) n acc ss = ac by rw [hst.out, List.drop_of_length_le (by omega)]; rfl)
              clear hst
              go_wp2_with fail
              go_roundw
              case rel => exact ⟨k + 1, ac, by go_num, rfl, by omega, by rw [← HT.out]; exact HS.out, hI.out, hbl, hz⟩
              case measure => simp [intOf]; omega
        · have HT := Lib.hid (show blkV l n = acc by rw [hst.out, List.drop_of_length_le (by have := HDL.out; omega)]; rfl)
          clear hst
          go_wp2_with fail
          go_ret
          exact ⟨ret_int HT.out.symm, b2.trans (hbl.mono hz3)⟩
end Go.Proofs.Ytkedcnemldjbeaa
