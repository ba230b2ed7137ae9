/- The walk over CeilingPlain. Conditions: the arguments lie in memory, and the list of tasks is one that memory bears. -/
import Derived.Test.YtkedcnemldjbeaaBare
import Derived.Test.YtkedcnemldjbeaaEqJobs
import Derived.Test.YtkedcnemldjbeaaJobWin
import Derived.Test.YtkedcnemldjbeaaAwake43
import Derived.Test.YtkedcnemldjbeaaFits2
import Derived.Deep.DeepCutAuto
import Derived.Deep.RegionLaw
import Derived.Lib.SmallJoins
namespace Go.Proofs.Ytkedcnemldjbeaa
open Go.RowKit Go.Joins Go.Lib

theorem set_block4 {w : World} {g : Nat} {c p d x y : Value} {t : TypeId} (h : w.heap[g]? = some (.cells #[c, p, d, x] t (0, 0))) : (w.setCell ⟨g, 3, none⟩ y).heap[g]? = some (.cells #[c, p, d, y] t (0, 0)) := by
  simp [World.setCell, Array.getElem?_modify, h]
theorem slice_to {w : World} {T E : TypeId} {a : Option Addr} {n cap k : Nat} (ht : Try.prog.underlying T = some (.slice E)) {i : TypeInfo} (hi : Try.prog.info? E = some i) (hk : k ≤ cap) : (Instr.slice T (.slice a n cap) none (some (.int .i64 k)) none).run Try.prog w = .ok (.slice a k cap) w := by
  have e : Option.map (fun x : Addr => x.add 0) a = a := by cases a <;> simp [Addr.add]
  have h0 : ¬ (k : Int) < 0 := by omega
  have h1 : ¬ (cap : Int) < (k : Int) := by omega
  simp [Instr.slice, run_underlying ht, Instr.sliceBounds, Instr.sliceBound, asIntOf, sizeOf, typeInfo, hi, h0, h1, e, go_sem]
  intro h; omega

theorem simulate_len (l : List CT) (a : Option Addr) (cap : Nat) (rs : List (List Int)) (ra : Option Addr) (rcap : Nat) (un : Int) (w : World) {k : Nat} (hk : l.length = k) (hk2 : rs.length = k) (hl : k ≤ 9223372036854775807) (hrr : ∀ r ∈ rs, FitI r)
    (hc : TasksAt w w.heap.size a l) (hr : RowsAt w w.heap.size ra rs) :
    Calls Try.prog 32 #[.slice a k cap, .slice ra k rcap, .int .i64 un] w (SimPost l rs un w) := by
  have := simulate_any l a cap rs ra rcap un w (by omega) (by omega) hrr hc hr
  rw [hk, hk2] at this
  exact this

set_option maxRecDepth 100000 in
set_option maxHeartbeats 6400000 in
theorem law_plain (l : List CT) (a : Option Addr) (cap : Nat) (rs : List (List Int)) (ra : Option Addr) (rcap : Nat) (un nn : Int) (w : World) (hbig : l.length ≤ 2932031007317) (hl : l.length ≤ cap) (hcap : cap ≤ 9223372036854775807) (hc : TasksAt w w.heap.size a l)
    (hrl : rs.length ≤ rcap) (hrcap : rcap ≤ 9223372036854775807) (hr : RowsAt w w.heap.size ra rs) (hrr : ∀ r ∈ rs, FitI r) (n0 : 0 ≤ nn) (n1 : nn ≤ 255) :
    Calls Try.prog 13 #[.slice a l.length cap, .slice ra rs.length rcap, .int .i64 un, .int .u8 nn] w fun e w' => e = .returned (.bool true) ∧ Below w.heap.size w w' := by
  have hlen : (l.length : Int) ≤ 2932031007317 := by omega
  have hrlen : (rs.length : Int) ≤ 9223372036854775807 := by omega
  have HRR := Lib.hid hrr
  clear hrr
  go_enter Try.func13, Try.ntmps13
  go_wp2_with fail
  go_loopw [22, 9] (fun u v wr => ∃ k : Nat, u = .int .i64 k ∧ k ≤ l.length ∧ Hid (BW w.heap.size wr v (bareL (l.take k))) ∧ Below w.heap.size w wr) (fun u _ _ => l.length - (intOf u).toNat)
  case atStart => exact ⟨0, rfl, by omega, BW.nil _ _, Below.refl _ _⟩
  case round =>
    obtain ⟨k, rfl, hk, hbw, hbl⟩ := hrel
    have hbs := hbl.size
    by_cases hlt : k < l.length
    · obtain ⟨b, off, rfl, hbN, hcell⟩ := hc (by intro e; simp [e] at hlt)
      obtain ⟨c0, c1, c2, sa, sc, c3, _, _⟩ := hcell k _ (List.getElem?_eq_getElem hlt)
      have c0 := keep_cellN hbl hbN c0
      have c1 := keep_cellN hbl hbN c1
      have c2 := keep_cellN hbl hbN c2
      have c3 := keep_cellN hbl hbN c3
      have HT := Lib.hid (bareL_take_succ hlt)
      have hlt' : (k : Int) < (l.length : Int) := by omega
      have hbr : b < wr.heap.size := by omega
      have hLl : (bareL (l.take k)).length ≤ 2932031007317 := by rw [bareL_len]; simp; omega
      clear hcell
      generalize l[k] = t at *
      obtain ⟨tc, tp, td, ts⟩ := t
      simp only [bareT] at c0 c1 c2 c3 HT
      generalize hL : bareL (l.take k) = L at *
      clear hL
      go_upto_region 5 with fail
      have hfj := unfrozen_of_block (Go.Deep.blk_alloc_new wr (.cells #[.int .i64 tc, .int .i64 tp, .int .i64 td, .slice sa ts.length sc] 30)) 3
      go_upto_region 6 with fail
      have hzj := Go.Deep.blk_alloc_new wr (.cells #[.int .i64 tc, .int .i64 tp, .int .i64 td, .slice none 0 0] 30)
      have hbz : Below wr.heap.size wr (wr.alloc (.cells #[.int .i64 tc, .int .i64 tp, .int .i64 td, .slice none 0 0] 30)) := (Below.refl _ _).alloc (Nat.le_refl _) _
      have hsz : wr.heap.size < (wr.alloc (.cells #[.int .i64 tc, .int .i64 tp, .int .i64 td, .slice none 0 0] 30)).heap.size := by simp
      clear hfj c0 c1 c2 c3
      generalize wr.alloc (.cells #[.int .i64 tc, .int .i64 tp, .int .i64 td, .slice none 0 0] 30) = wz at *
      have g0 := row_cell hzj (j := 0) rfl
      have g1 := row_cell hzj (j := 1) rfl
      have g2 := row_cell hzj (j := 2) rfl
      have g3 := row_cell hzj (j := 3) rfl
      have bz := hbl.trans (hbz.mono hbs)
      have sz := bz.size
      obtain ⟨v', w', hrun, hbw', hb'⟩ := (hbw.out.below hbz).push sz ⟨tc, tp, td, []⟩ hLl
      have HB' := Lib.hid hbw'
      have b' := bz.trans hb'
      clear hzj hbz bz hbw' hb' hbl hbw
      go_wp2_with (at_builtin; refine wpList_append_by rfl (.tmp 27) (.tmp 29) 22 rfl u9 (.slice (some ⟨wz.heap.size, 0, none⟩) 1 1) _ w' rfl rfl hrun ?_)
      go_roundw
      case rel => exact ⟨k + 1, by go_num, by omega, by rw [HT.out]; exact HB'.out, b'⟩
      case measure => simp [intOf]; omega
    · obtain rfl : k = l.length := by omega
      have hm := hbw.out
      rw [List.take_length] at hm
      have hf := bareL_free l
      obtain ⟨ma, mc, rfl, m1, m2, m3⟩ := hm.tasks hf
      have hml := bareL_len l
      have hmI : ((bareL l).length : Int) ≤ 2932031007317 := by omega
      have HF := Lib.hid hf
      clear hbw hm hml hf
      generalize bareL l = m at *
      clear hc hcap hl
      have n0' : (0 : Int) ≤ nn % ((m.length : Int) + 1) := Int.emod_nonneg _ (by omega)
      have n1' : nn % ((m.length : Int) + 1) < (m.length : Int) + 1 := Int.emod_lt_of_pos _ (by omega)
      generalize hnk : nn % ((m.length : Int) + 1) = nk at *
      have HNK := Lib.hid hnk
      clear hnk
      obtain ⟨n, rfl⟩ := Int.eq_ofNat_of_zero_le n0'
      have hnm : n ≤ m.length := by omega
      have hr0 := hr.on hbl hbs
      go_wp2_with fail
      refine (awake43_any _).mono ?_
      rintro e w1 ⟨rfl, hb1⟩
      have b1 := hbl.trans (hb1.mono hbs)
      have m31 := m3.on hb1 hb1.size
      have s1 := b1.size
      clear hb1 hr0 m3
      go_wp2_with fail
      refine (fits_any m ma mc rs ra rcap un _ (by omega) (by omega) HRR.out m31 (hr.on b1 s1)).mono ?_
      rintro e w2 ⟨rfl, hb2⟩
      have b2 := b1.trans (hb2.mono s1)
      have m32 := m31.on hb2 hb2.size
      have s2 := b2.size
      clear hb2 b1 m31
      cases hfit : fitsB m rs un
      · go_wp2_with fail
        refine (awake43_any _).mono ?_
        rintro e w3 ⟨rfl, hb3⟩
        go_wp2_with fail
        go_ret
        exact ⟨rfl, b2.trans (hb3.mono s2)⟩
      · obtain ⟨hfew, hck⟩ := fits_check hfit
        obtain ⟨hv, hn, u0, u1, hs⟩ := check_ok hck
        obtain ⟨q1, q2, q3, q4, q5⟩ := fewB_bd hfew
        obtain ⟨un, rfl⟩ := Int.eq_ofNat_of_zero_le u0
        have HCK := Lib.hid hck
        have HZ := Lib.hid (bare_zero (rs := rs) HF.out hv hn hs un)
        have HS := Lib.hid (bare_same (rs := rs) HF.out hv hn hs hnm un)
        have HCT := Lib.hid (take_check hv hn hs u0 u1 n)
        have hl6 : (m.length : Int) ≤ 6 := by omega
        have hnr : n ≤ rs.length := by rw [hn]; exact hnm
        clear hfit hfew hck hv hn hs q4 q5 u0 hlen
        go_wp2_with fail
        refine (simulate_any m ma mc rs ra rcap un _ (by omega) (by omega) HRR.out m32 (hr.on b2 s2)).mono ?_
        rintro e w3 ⟨hb3, ⟨h, _⟩ | ⟨_, ja, jc, rfl, hj1, hj2, hj3⟩⟩
        · exact absurd HCK.out h
        · have b3 := b2.trans (hb3.mono s2)
          have m33 := m32.on hb3 hb3.size
          have s3 := b3.size
          clear hb3 b2 m32
          have wn : IntKind.i64.wrap nn = nn := IntWalk.i64_in _ (by omega)
          have htd : nn.tmod ((m.length : Int) + 1) = n := by rw [Int.tmod_eq_emod_of_nonneg n0]; exact HNK.out
          have htd2 : nn % ((m.length : Int) + 1) = n := HNK.out
          have hd0 : ¬ (m.length : Int) + 1 = 0 := by omega
          go_upto_region 12 with fail
          have hs1 : ∀ W : World, (Instr.slice 22 (.slice ma m.length mc) none (some (.int .i64 n)) none).run Try.prog W = .ok (.slice ma n mc) W := fun W => (by obtain ⟨i1, hi1, _, _, _⟩ := info_parts info_task; exact slice_to Try.underlying22 hi1 (by omega))
          have hs2 : ∀ W : World, (Instr.slice 49 (.slice ra rs.length rcap) none (some (.int .i64 n)) none).run Try.prog W = .ok (.slice ra n rcap) W := fun W => (by obtain ⟨i2, hi2, _, _, _⟩ := info_parts info_rw; exact slice_to Try.underlying49 hi2 (by omega))
          have hb4 : Below w3.heap.size w3 w3.drew := (Below.refl _ _).drew
          have b4 := b3.trans (hb4.mono s3)
          have HSIM := Lib.hid (fun W (hb : Below w3.heap.size w3 W) => simulate_len (m.take n) ma mc (rs.take n) ra rcap un W (k := n) (by simp; omega) (by simp; omega) (by omega) (fun r hr => HRR.out r (List.mem_of_mem_take hr)) ((m33.on hb hb.size).take n) ((hr.on (b3.trans (hb.mono s3)) (by have := hb.size; omega)).take n))
          clear wn htd htd2 hd0
          go_cut [15, 16] (fun u v wx => v = .int .i64 0 ∧ Below w3.heap.size w3 wx ∧ ∃ sa sc, u = .slice sa (run (envOf (m.take n) (rs.take n)) un).en.length sc ∧ (run (envOf (m.take n) (rs.take n)) un).en.length ≤ sc ∧ sc ≤ 9223372036854775807 ∧ JobsAt wx wx.heap.size sa (run (envOf (m.take n) (rs.take n)) un).en)
          case first =>
            go_region_with (go_at_call 32; refine (HSIM.out _ hb4).mono ?_; rintro e w4 ⟨hb5, ⟨h, _⟩ | ⟨_, ka, kc, rfl, hk1, hk2, hk3⟩⟩; exact absurd HCT.out h)
            all_goals
              go_wp2_with fail
              go_meet
              case rel => exact ⟨rfl, hb4.trans (hb5.mono hb4.size), ka, kc, rfl, hk1, hk2, hk3⟩
          case rest =>
            obtain ⟨rfl, hb5, sa, sc, rfl, hk1, hk2, hk3⟩ := hcut
            obtain ⟨w5, rfl⟩ : ∃ w5 : World, w5 = wc := ⟨_, rfl⟩
            have b5 := b3.trans (hb5.mono s3)
            have s5 := b5.size
            have hj5 := hj3.on hb5 hb5.size
            have hjl : (run (envOf m rs) un).en.length ≤ un := (run_bd (envOf m rs) un).1
            have hkl : (run (envOf (m.take n) (rs.take n)) un).en.length ≤ un := (run_bd (envOf (m.take n) (rs.take n)) un).1
            rw [Int.toNat_natCast] at hj1 hj5
            have HJ := Lib.hid hj5
            have HK := Lib.hid hk3
            clear hb5 b4 b3 m33 hs1 hs2 HSIM hj3 hj5 hk3 hb4
            generalize (run (envOf m rs) un).en = js at *
            generalize (run (envOf (m.take n) (rs.take n)) un).en = ks at *
            have hjI : (js.length : Int) ≤ 300 := by omega
            have hkI : (ks.length : Int) ≤ 300 := by omega
            go_wp2_with fail
            go_loopw [68, 17] (fun u v wr => ∃ k : Nat, u = .int .i64 k ∧ k ≤ js.length ∧ Hid (JW w5.heap.size wr v (lowF js n k)) ∧ Below w.heap.size w wr ∧ Below w5.heap.size w5 wr) (fun u _ _ => js.length - (intOf u).toNat)
            case atStart => exact ⟨0, rfl, by omega, JW.nil _ _, b5, Below.refl _ _⟩
            case round =>
              obtain ⟨k, rfl, hk, hjw, hbl, hcl⟩ := hrel
              have hbs := hbl.size
              have hcs := hcl.size
              clear b5
              by_cases hlt : k < js.length
              · have hget := List.getElem?_eq_getElem hlt
                obtain ⟨jb, jo, rfl, hjN, hjcell⟩ := HJ.out (by intro e; simp [e] at hlt)
                obtain ⟨a0, a1, a2, a3, a4⟩ := hjcell k _ hget
                have a0 := keep_cellN hcl hjN a0
                have a1 := keep_cellN hcl hjN a1
                have a2 := keep_cellN hcl hjN a2
                have a3 := keep_cellN hcl hjN a3
                have a4 := keep_cellN hcl hjN a4
                have HY := Lib.hid (fun h => lowF_yes (n := n) hlt h)
                have HNo := Lib.hid (fun h => lowF_no (n := n) hlt h)
                have hz := HZ.out _ (List.getElem_mem hlt)
                have hll := lowF_len js n k
                have hjbw : jb < wr.heap.size := by omega
                have hlt' : (k : Int) < (js.length : Int) := by omega
                clear hjcell hget
                generalize js[k] = j at *
                obtain ⟨tk, rel, st, en, bl⟩ := j
                simp only at a0 a1 a2 a3 a4 HY HNo hz
                subst hz
                generalize lowF js n k = L at *
                go_upto_region 17 with fail
                have jcl := Go.Deep.blk_alloc_new wr (.cells #[.int .i64 tk, .int .i64 rel, .int .i64 st, .int .i64 en, .int .i64 0] 59)
                have hbj : Below wr.heap.size wr (wr.alloc (.cells #[.int .i64 tk, .int .i64 rel, .int .i64 st, .int .i64 en, .int .i64 0] 59)) := (Below.refl _ _).alloc (Nat.le_refl _) _
                have hsj : wr.heap.size < (wr.alloc (.cells #[.int .i64 tk, .int .i64 rel, .int .i64 st, .int .i64 en, .int .i64 0] 59)).heap.size := by simp
                generalize wr.alloc (.cells #[.int .i64 tk, .int .i64 rel, .int .i64 st, .int .i64 en, .int .i64 0] 59) = wj at *
                have g0 := row_cell jcl (j := 0) rfl
                have g1 := row_cell jcl (j := 1) rfl
                have g2 := row_cell jcl (j := 2) rfl
                have g3 := row_cell jcl (j := 3) rfl
                have g4 := row_cell jcl (j := 4) rfl
                have bj := hbl.trans (hbj.mono hbs)
                have cj := hcl.trans (hbj.mono hcs)
                have hjwj := Lib.hid (hjw.out.below hbj)
                have hsj3 : w5.heap.size ≤ wj.heap.size := by omega
                clear jcl a0 a1 a2 a3 a4 hbl hcl hjw hbj
                by_cases htl : tk < n
                · have htl' : (tk : Int) < (n : Int) := by omega
                  obtain ⟨v', w', hrun, hjw', hb'⟩ := hjwj.out.push hsj3 ⟨tk, rel, st, en, 0⟩ (by omega)
                  have hb15 := cj.trans hb'
                  have HJ' := Lib.hid hjw'
                  have b' := bj.trans (hb'.mono s5)
                  clear hjw' hb'
                  go_wp2_with (at_builtin; refine wpList_append_by rfl (.tmp 79) (.tmp 81) 51 rfl u17 (.slice (some ⟨wj.heap.size, 0, none⟩) 1 1) _ w' rfl rfl hrun ?_)
                  go_roundw
                  case rel => exact ⟨k + 1, by go_num, by omega, by rw [HY.out htl]; exact HJ'.out, b', hb15⟩
                  case measure => simp [intOf]; omega
                · have htl' : ¬ (tk : Int) < (n : Int) := by omega
                  have HNN := Lib.hid (HNo.out htl)
                  go_wp2_with fail
                  go_roundw
                  case rel => exact ⟨k + 1, by go_num, by omega, by rw [HNN.out]; exact hjwj.out, bj, cj⟩
                  case measure => simp [intOf]; omega
              · obtain rfl : k = js.length := by omega
                have hL : lowF js n js.length = ks := by rw [lowF, List.take_length]; exact HS.out
                rw [hL] at hjw
                obtain ⟨pa, pc, rfl, z1, z2, z3⟩ := hjw.out.jobs
                have hjr := HK.out.on hcl hcs
                clear hjw hL
                go_wp2_with fail
                refine (eqjobs_any ks ks pa sa pc sc _ (by omega) (by omega) z3 hjr).mono ?_
                rintro e w16 ⟨rfl, hb16⟩
                go_wp2_with fail
                go_ret
                exact ⟨by first | rfl | exact ret_bool (by simp), hbl.trans (hb16.mono hbs)⟩
end Go.Proofs.Ytkedcnemldjbeaa
