/- The walk over CeilingBlocks. Conditions: the arguments lie in memory. -/
import Derived.Test.YtkedcnemldjbeaaLawOrder43
import Derived.Test.YtkedcnemldjbeaaSimBlk
namespace Go.Proofs.Ytkedcnemldjbeaa
open Go.RowKit

theorem limV_bd {l : List CT} (hv : validL l = true) (i : Nat) : 0 ≤ limV l i ∧ limV l i ≤ 1000 :=
  blkTs_bd (fun t ht => (validL_bd hv).2 t (List.mem_of_mem_drop ht)) (by decide) (by decide)

set_option maxRecDepth 100000 in
set_option maxHeartbeats 6400000 in
theorem law_blocks (l : List CT) (a : Option Addr) (cap : Nat) (rs : List (List Int)) (ra : Option Addr) (rcap : Nat) (un : Int) (w : World) (hl : l.length ≤ cap) (hcap : cap ≤ 9223372036854775807) (hc : TasksAt w w.heap.size a l)
    (hrl : rs.length ≤ rcap) (hrcap : rcap ≤ 9223372036854775807) (hr : RowsAt w w.heap.size ra rs) (hrr : ∀ r ∈ rs, FitI r) :
    Calls Try.prog 10 #[.slice a l.length cap, .slice ra rs.length rcap, .int .i64 un] w fun e w' => e = .returned (.bool true) ∧ Below w.heap.size w w' := by
  have hlen : (l.length : Int) ≤ 9223372036854775807 := by omega
  have hrlen : (rs.length : Int) ≤ 9223372036854775807 := by omega
  have HRR := Lib.hid hrr
  clear hrr
  go_enter Try.func10, Try.ntmps10
  go_wp2_with fail
  refine (awake43_any _).mono ?_
  rintro e w1 ⟨rfl, hb1⟩
  have s1 := hb1.size
  go_wp2_with fail
  refine (fits_any l a cap rs ra rcap un _ (by omega) (by omega) HRR.out (hc.on hb1 s1) (hr.on hb1 s1)).mono ?_
  rintro e w2 ⟨rfl, hb2⟩
  have b2 := hb1.trans (hb2.mono s1)
  have s2 := b2.size
  clear hb1 hb2
  cases hfit : fitsB l rs un
  · go_wp2_with fail
    refine (awake43_any _).mono ?_
    rintro e w3 ⟨rfl, hb3⟩
    go_wp2_with fail
    go_ret
    exact ⟨rfl, b2.trans (hb3.mono s2)⟩
  · obtain ⟨hfew, hck⟩ := fits_check hfit
    obtain ⟨hv, hn, u0, u1, hs⟩ := check_ok hck
    obtain ⟨q1, q2, q3, q4, q5⟩ := fewB_bd hfew
    obtain ⟨un, rfl⟩ := Int.eq_ofNat_of_zero_le u0
    have HCK := Lib.hid hck
    have HV := Lib.hid hv
    have HJF := Lib.hid (fun k j h => job_facts (env_ok hv hn hs) (un := un) (k := k) (j := j) h)
    have HBJ := Lib.hid (binv_run (env_ok hv hn hs) (blk_env rs hv) un).jobs
    have HCO := Lib.hid (env_ok hv hn hs).cost
    have HOK := Lib.hid (validL_bd hv).2
    have HLB := Lib.hid (fun i => limV_bd hv i)
    have hl6 : (l.length : Int) ≤ 6 := by omega
    clear hfit hfew hck hv hn hs q4 q5 u0
    go_wp2_with fail
    refine (simulate_any l a cap rs ra rcap un _ (by omega) (by omega) HRR.out (hc.on b2 s2) (hr.on b2 s2)).mono ?_
    rintro e w3 ⟨hb3, ⟨h, _⟩ | ⟨_, ja, jc, rfl, hj1, hj2, hj3⟩⟩
    · exact absurd HCK.out h
    · have b3 := b2.trans (hb3.mono s2)
      have s3 := b3.size
      have hjl : (run (envOf l rs) un).en.length ≤ un := (run_bd (envOf l rs) un).1
      rw [Int.toNat_natCast] at hj1 hj3 ⊢
      have HEn := Lib.hid (show (envOf l rs).n = l.length from rfl)
      have HJ3 := Lib.hid hj3
      clear hb3 hj3 b2
      generalize envOf l rs = E at *
      generalize (run E un).en = js at *
      have hjlI : (js.length : Int) ≤ 300 := by omega
      go_wp2_with fail
      refine (ceilings_any l a cap _ (by omega) (hc.on b3 s3)).mono ?_
      rintro e w4 ⟨mb, mn, rfl, hmb, hI, hb4⟩
      rw [HV.out] at hI
      simp only [if_true] at hI
      have HI := Lib.hid hI
      have b4 := b3.trans (hb4.mono s3)
      have s4 := b4.size
      have HJ4 := Lib.hid (HJ3.out.on hb4 hb4.size)
      have hml := hI.lt
      clear hI hb4 b3 HJ3
      go_wp2_with fail
      go_loopw [38] (fun u wr => ∃ k : Nat, u = .int .i64 k ∧ k ≤ js.length ∧ Hid (IMap wr mb mn (ceilM l) (ceilS l).2) ∧ Below w.heap.size w wr ∧ Below w4.heap.size w4 wr) (fun u _ => js.length - (intOf u).toNat)
      case atStart => exact ⟨0, rfl, by omega, HI.out, b4, Below.refl _ _⟩
      case round =>
        obtain ⟨k, rfl, hk, hI, hbl, hcl⟩ := hrel
        have hbs := hbl.size
        have hcs := hcl.size
        clear HI b4
        by_cases hlt : k < js.length
        · have hget := List.getElem?_eq_getElem hlt
          obtain ⟨jb, jo, rfl, hjN, hjcell⟩ := HJ4.out (by intro e; simp [e] at hlt)
          obtain ⟨a0, a1, a2, a3, a4⟩ := hjcell k _ hget
          have a0 := keep_cellN hcl hjN a0
          have a1 := keep_cellN hcl hjN a1
          have a2 := keep_cellN hcl hjN a2
          have a3 := keep_cellN hcl hjN a3
          have a4 := keep_cellN hcl hjN a4
          obtain ⟨f1, _, f3, f4, f5, f6, f7, f8, _⟩ := HJF.out k _ hget
          obtain ⟨g1, g2⟩ := HBJ.out _ (List.getElem_mem hlt)
          rw [HEn.out] at f1
          clear hjcell hget
          generalize js[k] = j at *
          obtain ⟨tk, rel, st, en, bl⟩ := j
          simp only at a0 a1 a2 a3 a4 f1 f3 f4 f5 f6 f7 f8 g1 g2
          obtain ⟨LB0, LB1⟩ := HLB.out tk
          have hco := HCO.out tk (by rw [HEn.out]; exact f1)
          have hst300 : st ≤ 300 := by omega
          clear f5 f6 hco
          have t0 : (0 : Int) ≤ (tk : Int) := by omega
          have htl : (tk : Int) < (l.length : Int) := by omega
          have hd1 : decide (l.length ≤ tk) = false := decide_eq_false (by omega)
          have hI2 := hI.out.keep (N := wr.heap.size) ((Below.refl _ _).alloc (Nat.le_refl _) (.cells #[.int .i64 tk, .int .i64 rel, .int .i64 st, .int .i64 en, .int .i64 bl] 59)) (by omega)
          have HI2 := Lib.hid hI2
          have jcl := Go.Deep.blk_alloc_new wr (.cells #[.int .i64 tk, .int .i64 rel, .int .i64 st, .int .i64 en, .int .i64 bl] 59)
          have JCL := Lib.hid jcl
          have bj : Below w.heap.size w (wr.alloc (.cells #[.int .i64 tk, .int .i64 rel, .int .i64 st, .int .i64 en, .int .i64 bl] 59)) := hbl.alloc hbs _
          have cj : Below w4.heap.size w4 (wr.alloc (.cells #[.int .i64 tk, .int .i64 rel, .int .i64 st, .int .i64 en, .int .i64 bl] 59)) := hcl.alloc hcs _
          have hsj : wr.heap.size < (wr.alloc (.cells #[.int .i64 tk, .int .i64 rel, .int .i64 st, .int .i64 en, .int .i64 bl] 59)).heap.size := by simp
          clear hI2 jcl hI
          go_upto_region 8 with fail
          clear a0 a1 a2 a3 a4
          generalize wr.alloc (.cells #[.int .i64 tk, .int .i64 rel, .int .i64 st, .int .i64 en, .int .i64 bl] 59) = wj at *
          have g0' := row_cell JCL.out (j := 0) rfl
          have hbj := bj.size
          have hcj := cj.size
          go_upto_region 11 with fail
          obtain ⟨b, off, rfl, hbN, -⟩ := hc (by intro e; rw [e] at f1; simp at f1)
          have HGO := Lib.hid (show limV l tk = blkTs (ceilM l) tk 0 (l.drop (tk + 1)) from rfl)
          have hdl : (l.drop (tk + 1)).length = l.length - (tk + 1) := by simp
          have hbjw : b < wj.heap.size := by omega
          have hcapI : (cap : Int) ≤ 9223372036854775807 := by omega
          have htk1 : (tk : Int) + 1 ≤ (l.length : Int) := by omega
          by_cases hcn : cap = tk + 1
          · have hd : l.drop (tk + 1) = [] := List.drop_of_length_le (by omega)
            have hl0 : limV l tk = 0 := by rw [HGO.out, hd]; rfl
            rw [hl0] at g1 LB0 LB1
            have hz : l.length - (tk + 1) = 0 := by omega
            have g3 := row_cell JCL.out (j := 1) rfl
            have g4 := row_cell JCL.out (j := 2) rfl
            have g5 := row_cell JCL.out (j := 4) rfl
            have hIj := HI2
            have hdb : bl = 0 := by omega
            subst hdb
            subst hcn
            clear hd hl0 hdl
            go_wp2_with fail
            go_loop [58, 12] (fun u x => u = .int .i64 0 ∧ x = .int .i64 0) (fun u _ => 0)
            case atStart => exact ⟨rfl, rfl⟩
            case round =>
              obtain ⟨rfl, rfl⟩ := hrel
              have hsr : 0 ≤ st - rel := by omega
              have BJ := Lib.hid bj
              have CJ := Lib.hid cj
              clear hIj g0' LB0 LB1 g1 g2 f7 hbjw hcapI htk1 bj cj hbl hcl hbj hcj hd1 htl
              go_wp2_with fail
              go_roundw
              case rel => exact ⟨k + 1, by go_num, by omega, HI2.out, BJ.out, CJ.out⟩
              case measure => simp [intOf]; omega
          · have HDL := Lib.hid hdl
            clear hdl
            have hcut := (hc.keep bj).cut (tk + 1)
            generalize hLd : l.drop (tk + 1) = L at *
            have hLm : ∀ t ∈ L, okT t = true := fun t ht => HOK.out t (List.mem_of_mem_drop (by rw [hLd]; exact ht))
            have HLm := Lib.hid hLm
            clear hLd hLm
            have C := Lib.hid hcut
            clear hcut
            go_wp2_with fail
            generalize hq : l.length - (tk + 1) = q at *
            have hql : q ≤ 20 := by omega
            have HQ := Lib.hid hq
            clear hq
            have hmj : mb < wj.heap.size := by omega
            go_loopw [58, 12] (fun u v wq => ∃ (i : Nat) (acc : Int), u = .int .i64 i ∧ v = .int .i64 acc ∧ i ≤ q ∧ Hid (limV l tk = blkTs (ceilM l) tk acc (L.drop i)) ∧ Hid (IMap wq mb mn (ceilM l) (ceilS l).2) ∧ Below wj.heap.size wj wq ∧ mb < wq.heap.size) (fun u _ _ => q - (intOf u).toNat)
            case atStart => exact ⟨0, 0, rfl, rfl, by omega, HGO.out, HI2.out, Below.refl _ _, hmj⟩
            case round =>
              obtain ⟨i, acc, rfl, rfl, hi, hst, hI, hbl', hz⟩ := hrel
              have hbs' := hbl'.size
              by_cases hlt2 : i < q
              · have hlt' : i < L.length := by have := HDL.out; have := HQ.out; omega
                obtain ⟨b', off', e, -, hcell⟩ := C.out (by intro e; simp [e] at hlt')
                simp only [Option.some.injEq, Addr.mk.injEq] at e
                obtain ⟨rfl, rfl, _⟩ := e
                obtain ⟨c0, c1, c2, sa, sc, c3, hsl, hss⟩ := hcell i L[i] (List.getElem?_eq_getElem hlt')
                have c0 := keep_cellN hbl' (by omega) c0
                have c1 := keep_cellN hbl' (by omega) c1
                have c2 := keep_cellN hbl' (by omega) c2
                have c3 := keep_cellN hbl' (by omega) c3
                clear hcell
                have HS := Lib.hid (hst.out.trans (blkTs_step hlt'))
                have htb := okT_bd (HLm.out L[i] (List.getElem_mem hlt'))
                clear hst
                obtain ⟨wo, rfl⟩ : ∃ wo : World, wo = wr := ⟨_, rfl⟩
                generalize L[i] = t at *
                obtain ⟨tc, tp, td, ss⟩ := t
                simp only at c0 c1 c2 c3 hsl
                have h8 : ss.length ≤ 8 := htb.1.2.2.2.2.2.2
                have htc : tc ≤ 1000 := htb.1.2.1
                have HM := Lib.hid (secsOK_mem htb.2 (Int.le_refl 0))
                clear htb
                go_wp2_with fail
                have hbb : Below wj.heap.size wj (wo.alloc (.cells #[.int .i64 tc, .int .i64 tp, .int .i64 td, .slice sa ss.length sc] 30)) := hbl'.alloc (by omega) _
                have hI3 := Lib.hid (hI.out.keep (N := wo.heap.size) ((Below.refl _ _).alloc (Nat.le_refl _) (.cells #[.int .i64 tc, .int .i64 tp, .int .i64 td, .slice sa ss.length sc] 30)) hz)
                have hz5 : mb < (wo.alloc (.cells #[.int .i64 tc, .int .i64 tp, .int .i64 td, .slice sa ss.length sc] 30)).heap.size := by simp; omega
                clear c0 c1 c2 c3 hI hbl' hz hbs'
                generalize wo.alloc (.cells #[.int .i64 tc, .int .i64 tp, .int .i64 td, .slice sa ss.length sc] 30) = wb at *
                go_loopw [65, 12] (fun u v wq => ∃ (j : Nat) (ac : Int), u = .int .i64 j ∧ v = .int .i64 ac ∧ j ≤ ss.length ∧ Hid (blkSs (ceilM l) tk acc ss = blkSs (ceilM l) tk ac (ss.drop j)) ∧ Hid (IMap wq mb mn (ceilM l) (ceilS l).2) ∧ Below wj.heap.size wj wq ∧ mb < wq.heap.size) (fun u _ _ => ss.length - (intOf u).toNat)
                case atStart => exact ⟨0, acc, rfl, rfl, by omega, rfl, hI3.out, hbb, hz5⟩
                case round =>
                  obtain ⟨j, ac, rfl, rfl, hj, hst, hI, hbl', hz⟩ := hrel
                  have hbs' := hbl'.size
                  clear hI3 hbb hz5
                  have g0' := keep_cell hbl' hsj g0'
                  have hsw : b < wr.heap.size := by omega
                  by_cases hjl : j < ss.length
                  · obtain ⟨sb, soff, rfl, hsN, hscell⟩ := hss (by intro e; simp [e] at hjl)
                    obtain ⟨s0, s1, s2⟩ := hscell j ss[j] (List.getElem?_eq_getElem hjl)
                    have s0 := keep_cellN hbl' (by omega) s0
                    have s1 := keep_cellN hbl' (by omega) s1
                    have s2 := keep_cellN hbl' (by omega) s2
                    clear hscell
                    have HT := Lib.hid (hst.out.trans (blkSs_step hjl))
                    have hsm := HM.out ss[j] (List.getElem_mem hjl)
                    clear hst
                    generalize ss[j] = s at *
                    obtain ⟨so, sf, st1⟩ := s
                    simp only at s0 s1 s2 hsm
                    obtain ⟨o1, o2, z1, z2, z3⟩ := hsm
                    have hI4 := hI.out.keep (N := wr.heap.size) ((Below.refl _ _).alloc (Nat.le_refl _) (.cells #[.int .i64 so, .int .i64 sf, .int .i64 st1] 63)) hz
                    have hlook := hI4.look1 (k := so) (wf64 (by omega) (by omega))
                    have hbb : Below wj.heap.size wj (wr.alloc (.cells #[.int .i64 so, .int .i64 sf, .int .i64 st1] 63)) := hbl'.alloc (by omega) _
                    have HI3 := Lib.hid hI4
                    clear hI4 hI
                    generalize hg : (ceilM l so).getD 0 = g at *
                    have HG := Lib.hid hg
                    clear hg
                    have hjw : wo.heap.size < wr.heap.size ∨ True := .inr trivial
                    have hJw : ∀ x, x < wj.heap.size → x < wr.heap.size := fun x hx => by omega
                    have hJ0 := hJw _ hsj
                    clear hJw hjw
                    by_cases hgn : g ≤ tk
                    · by_cases hmx : ac ≤ st1 - sf - 1
                      · have HT2 := Lib.hid (show blkSs (ceilM l) tk acc ss = blkSs (ceilM l) tk (st1 - sf - 1) (ss.drop (j + 1)) by rw [HT.out]; simp only [blkS, HG.out, if_pos hgn]; rw [Int.max_eq_right hmx])
                        clear HT
                        go_wp2_with fail
                        all_goals
                          go_roundw
                          case rel => exact ⟨j + 1, st1 - sf - 1, by go_num, by first | rfl | (congr 1; omega), by omega, HT2.out, HI3.out, hbb, by simp; omega⟩
                          case measure => simp [intOf]; omega
                      · have HT2 := Lib.hid (show blkSs (ceilM l) tk acc ss = blkSs (ceilM l) tk ac (ss.drop (j + 1)) by rw [HT.out]; simp only [blkS, HG.out, if_pos hgn]; rw [Int.max_eq_left (by omega)])
                        clear HT
                        go_wp2_with fail
                        all_goals
                          go_roundw
                          case rel => exact ⟨j + 1, ac, by go_num, by first | rfl | (congr 1; omega), by omega, HT2.out, HI3.out, hbb, by simp; omega⟩
                          case measure => simp [intOf]; omega
                    · have HT2 := Lib.hid (show blkSs (ceilM l) tk acc ss = blkSs (ceilM l) tk ac (ss.drop (j + 1)) by rw [HT.out]; simp only [blkS, HG.out, if_neg hgn])
                      clear HT
                      go_wp2_with fail
                      go_roundw
                      case rel => exact ⟨j + 1, ac, by go_num, rfl, by omega, HT2.out, HI3.out, hbb, by simp; omega⟩
                      case measure => simp [intOf]; omega
                  · have HT := Lib.hid (show blkSs (ceilM l) tk acc ss = ac by rw [hst.out, List.drop_of_length_le (by omega)]; rfl)
                    clear hst
                    go_wp2_with fail
                    go_roundw
                    case rel => exact ⟨i + 1, ac, by go_num, rfl, by omega, by rw [← HT.out]; exact HS.out, hI.out, hbl', hz⟩
                    case measure => simp [intOf]; omega
              · have HT : limV l tk = acc := by rw [hst.out, List.drop_of_length_le (by have := HDL.out; have := HQ.out; omega)]; rfl
                rw [HT] at g1 LB0 LB1
                have g3 := keep_cell hbl' hsj (row_cell JCL.out (j := 1) rfl)
                have g4 := keep_cell hbl' hsj (row_cell JCL.out (j := 2) rfl)
                have g5 := keep_cell hbl' hsj (row_cell JCL.out (j := 4) rfl)
                have HIe := Lib.hid hI.out
                have b9 := bj.trans (hbl'.mono (by omega))
                have c9 := cj.trans (hbl'.mono (by omega))
                clear hst HT
                go_wp2_with fail
                go_roundw
                case rel => exact ⟨k + 1, by go_num, by omega, HIe.out, b9, c9⟩
                case measure => simp [intOf]; omega
        · go_wp2_with fail
          go_ret
          exact ⟨rfl, hbl⟩
end Go.Proofs.Ytkedcnemldjbeaa
