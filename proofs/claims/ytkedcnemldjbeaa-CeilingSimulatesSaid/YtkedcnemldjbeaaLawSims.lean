/- The walk over CeilingSimulates. Conditions: the arguments lie in memory. -/
import Derived.Test.YtkedcnemldjbeaaAwake43
import Derived.Test.YtkedcnemldjbeaaFits2
import Derived.Test.YtkedcnemldjbeaaRSim
import Derived.Deep.DeepCutAuto
namespace Go.Proofs.Ytkedcnemldjbeaa
open Go.RowKit

set_option maxRecDepth 100000 in
set_option maxHeartbeats 6400000 in
theorem law_sims (l : List CT) (a : Option Addr) (cap : Nat) (rs : List (List Int)) (ra : Option Addr) (rcap : Nat) (un : Int) (w : World) (hl : l.length ≤ cap) (hcap : cap ≤ 9223372036854775807) (hc : TasksAt w w.heap.size a l)
    (hrl : rs.length ≤ rcap) (hrcap : rcap ≤ 9223372036854775807) (hr : RowsAt w w.heap.size ra rs) (hrr : ∀ r ∈ rs, FitI r) :
    Calls Try.prog 9 #[.slice a l.length cap, .slice ra rs.length rcap, .int .i64 un] w fun e w' => e = .returned (.bool true) ∧ Below w.heap.size w w' := by
  have hlen : (l.length : Int) ≤ 9223372036854775807 := by omega
  have hrlen : (rs.length : Int) ≤ 9223372036854775807 := by omega
  have HRR := Lib.hid hrr
  clear hrr
  go_enter Try.func9, Try.ntmps9
  go_wp2_with fail
  refine (awake43_any _).mono ?_
  rintro e w1 ⟨rfl, hb1⟩
  have s1 := hb1.size
  go_wp2_with fail
  refine (fits_any l a cap rs ra rcap un _ (by omega) (by omega) HRR.out (hc.on hb1 s1) (hr.on hb1 s1)).mono ?_
  rintro e w2 ⟨rfl, hb2⟩
  have b2 := hb1.trans (hb2.mono s1)
  have s2 := b2.size
  clear hb1 hb2
  cases hfit : fitsB l rs un
  · go_wp2_with fail
    refine (awake43_any _).mono ?_
    rintro e w3 ⟨rfl, hb3⟩
    go_wp2_with fail
    go_ret
    exact ⟨rfl, b2.trans (hb3.mono s2)⟩
  · obtain ⟨hfew, hck⟩ := fits_check hfit
    obtain ⟨hv, hn, u0, u1, hs⟩ := check_ok hck
    obtain ⟨q1, q2, q3, q4, q5⟩ := fewB_bd hfew
    obtain ⟨un, rfl⟩ := Int.eq_ofNat_of_zero_le u0
    have HCK := Lib.hid hck
    have HQ4 := Lib.hid q4
    have RSI := Lib.hid (fun a' c' W h1 h2 => rsimulate_any l a' c' rs ra rcap un W hv hn q1 hs q5 (by omega) HRR.out h1 h2)
    have hl6 : (l.length : Int) ≤ 6 := by omega
    clear hfit hfew hck hv hn hs q4 q5 u0
    go_wp2_with fail
    refine (simulate_any l a cap rs ra rcap un _ (by omega) (by omega) HRR.out (hc.on b2 s2) (hr.on b2 s2)).mono ?_
    rintro e w3 ⟨hb3, ⟨h, _⟩ | ⟨_, ja, jc, rfl, hj1, hj2, hj3⟩⟩
    · exact absurd HCK.out h
    · have b3 := b2.trans (hb3.mono s2)
      have s3 := b3.size
      have hjl : (run (envOf l rs) un).en.length ≤ un := (run_bd (envOf l rs) un).1
      have HJ3 := Lib.hid hj3
      rw [Int.toNat_natCast] at hj1 HJ3 ⊢
      have HP := Lib.hid (plain43_any l a cap w3 (by omega) HQ4.out (hc.on b3 s3))
      have HRA := Lib.hid (hr.on b3 s3)
      clear hb3 hj3 b2
      go_wp2_with fail
      refine HP.out.mono ?_
      rintro e w4 ⟨a4, c4, rfl, t1, t2, t3, hb4⟩
      have R4 := Lib.hid (RSI.out a4 c4 w4 t3 (HRA.out.on hb4 hb4.size))
      have b4 := b3.trans (hb4.mono s3)
      have s4 := b4.size
      have HJ4 := Lib.hid (HJ3.out.on hb4 hb4.size)
      clear HP RSI hb4 t3 HJ3 HRA
      go_wp2_with fail
      refine R4.out.mono ?_
      rintro e w5 ⟨oa, oc, rv, rfl, o1, o2, o3, hb5⟩
      have b5 := b4.trans (hb5.mono s4)
      have s5 := b5.size
      have HJ5 := Lib.hid (HJ4.out.on hb5 hb5.size)
      have HO5 := Lib.hid o3
      clear R4 HJ4 o3 hb5
      generalize (run (envOf l rs) un).en = js at *
      have hjI : (js.length : Int) ≤ 300 := by omega
      have hq : ((js.length : Int) != (js.length : Int)) = false := by simp
      go_wp2_with fail
      clear hq
      go_loopw [49] (fun u wr => ∃ k : Nat, u = .int .i64 k ∧ k ≤ js.length ∧ Below w5.heap.size w5 wr) (fun u _ => js.length - (intOf u).toNat)
      case atStart => exact ⟨0, rfl, by omega, Below.refl _ _⟩
      case round =>
        obtain ⟨k, rfl, hk, hbl⟩ := hrel
        have hbs := hbl.size
        by_cases hlt : k < js.length
        · have k0 : (0 : Int) ≤ (k : Int) := by omega
          have k1 : (k : Int) < (js.length : Int) := by omega
          have hne : js ≠ [] := by intro e; rw [e] at hlt; simp at hlt
          obtain ⟨jb, jo, rfl, hjN, hjc⟩ := HJ5.out hne
          obtain ⟨ob, oo, rfl, hoN, hoc⟩ := HO5.out hne
          obtain ⟨a0, a1, a2, a3, a4⟩ := hjc k _ (List.getElem?_eq_getElem hlt)
          obtain ⟨c0, c1, c2, c3, c4'⟩ := hoc k _ (List.getElem?_eq_getElem hlt)
          have c0 := keep_cellN hbl hoN c0
          have c1 := keep_cellN hbl hoN c1
          have c2 := keep_cellN hbl hoN c2
          have c3 := keep_cellN hbl hoN c3
          have c4' := keep_cellN hbl hoN c4'
          have a0 := keep_cellN hbl hjN a0
          have a1 := keep_cellN hbl hjN a1
          have a2 := keep_cellN hbl hjN a2
          have a3 := keep_cellN hbl hjN a3
          have a4 := keep_cellN hbl hjN a4
          have hjw : jb < wr.heap.size := by omega
          have how : ob < wr.heap.size := by omega
          clear hjc hoc hne
          generalize js[k] = j at *
          obtain ⟨tk, rel, st, en, bl⟩ := j
          simp only at a0 a1 a2 a3 a4 c0 c1 c2 c3 c4'
          have jcl := Go.Deep.blk_alloc_new wr (.cells #[.int .i64 tk, .int .i64 rel, .int .i64 st, .int .i64 en, .int .i64 bl] 58)
          have hbj : Below wr.heap.size wr (wr.alloc (.cells #[.int .i64 tk, .int .i64 rel, .int .i64 st, .int .i64 en, .int .i64 bl] 58)) := (Below.refl _ _).alloc (Nat.le_refl _) _
          have hsj : wr.heap.size < (wr.alloc (.cells #[.int .i64 tk, .int .i64 rel, .int .i64 st, .int .i64 en, .int .i64 bl] 58)).heap.size := by simp
          go_upto_region 10 with fail
          clear c0 c1 c2 c3 c4'
          generalize wr.alloc (.cells #[.int .i64 tk, .int .i64 rel, .int .i64 st, .int .i64 en, .int .i64 bl] 58) = wj at *
          have g0 := row_cell jcl (j := 0) rfl
          have g1 := row_cell jcl (j := 1) rfl
          have g2 := row_cell jcl (j := 2) rfl
          have g3 := row_cell jcl (j := 3) rfl
          have g4 := row_cell jcl (j := 4) rfl
          simp only [List.getElem_toArray, List.getElem_cons_succ, List.getElem_cons_zero] at g0 g1 g2 g3 g4
          have a0 := keep_cell hbj hjw a0
          have a1 := keep_cell hbj hjw a1
          have a2 := keep_cell hbj hjw a2
          have a3 := keep_cell hbj hjw a3
          have a4 := keep_cell hbj hjw a4
          have hjw' : jb < wj.heap.size := by omega
          have b9 := hbl.trans (hbj.mono hbs)
          clear jcl hbj hbl
          go_quiet (fail)
          have b10 := below_drewN b9 nq
          generalize wj.drewN nq = w9 at *
          go_wp2_with fail
          go_roundw
          case rel => exact ⟨k + 1, by go_num, by omega, b10⟩
          case measure => simp [intOf]; omega
        · obtain rfl : k = js.length := by omega
          go_wp2_with fail
          go_ret
          exact ⟨rfl, b5.trans (hbl.mono s5)⟩
end Go.Proofs.Ytkedcnemldjbeaa
