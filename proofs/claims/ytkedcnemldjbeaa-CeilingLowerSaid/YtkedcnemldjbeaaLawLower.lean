/- The walk over CeilingLower. Conditions: the arguments lie in memory. -/
import Derived.Test.YtkedcnemldjbeaaLower
import Derived.Test.YtkedcnemldjbeaaEqJobs
import Derived.Test.YtkedcnemldjbeaaJobWin
import Derived.Test.YtkedcnemldjbeaaAwake43
import Derived.Test.YtkedcnemldjbeaaFits2
import Derived.Deep.DeepCutAuto
import Derived.Deep.RegionLaw
import Derived.Lib.SmallJoins
namespace Go.Proofs.Ytkedcnemldjbeaa
open Go.RowKit Go.Joins Go.Lib

theorem set_block {w : World} {g j : Nat} {cur : Array Value} {t : TypeId} (h : w.heap[g]? = some (.cells cur t (0, 0))) (v : Value) : (w.setCell ⟨g, j, none⟩ v).heap[g]? = some (.cells (cur.setIfInBounds j v) t (0, 0)) := by
  simp [World.setCell, Array.getElem?_modify, h]

theorem Win.lit' {w : World} {H : Nat} (E : TypeId) (size : Nat) (h : w.heap.size = H) : Win (w.alloc (.cells #[] E)) E size (.slice (some ⟨H, 0, none⟩) 0 0) 0 [] := by
  subst h; exact Win.lit w E size
theorem App1.alloc {w W w1 : World} {n : Nat} {cs : List Value} {v : Value} (h : App1 w W n cs v w1) (o : Obj) : App1 w W n cs v (w1.alloc o) :=
  ⟨h.1.alloc o, h.2.1.alloc h.2.1.size o, h.2.2.1, by have := h.2.2.2; simp; omega⟩
theorem blk_at {w : World} {H : Nat} {o : Obj} (h : w.heap.size = H) : (w.alloc o).heap[H]? = some o := by subst h; exact Go.Deep.blk_alloc_new w o

set_option maxRecDepth 100000 in
set_option maxHeartbeats 6400000 in
theorem law_lower (l : List CT) (a : Option Addr) (cap : Nat) (rs : List (List Int)) (ra : Option Addr) (rcap : Nat) (un : Int) (mc mp md : Int) (mv : Value) (xs : List Int) (xa : Option Addr) (xc : Nat) (w : World) (hl : l.length ≤ cap) (hcap : cap ≤ 9223372036854775807) (hc : TasksAt w w.heap.size a l)
    (hrl : rs.length ≤ rcap) (hrcap : rcap ≤ 9223372036854775807) (hr : RowsAt w w.heap.size ra rs) (hrr : ∀ r ∈ rs, FitI r) (hxl : xs.length ≤ xc) (hxc : xc ≤ 9223372036854775807) (hxs : IntsAt w w.heap.size xa xs) (hxf : FitI xs) :
    Calls Try.prog 12 #[.slice a l.length cap, .slice ra rs.length rcap, .int .i64 un, .agg #[.int .i64 mc, .int .i64 mp, .int .i64 md, mv], .slice xa xs.length xc] w fun e w' => e = .returned (.bool true) ∧ Below w.heap.size w w' := by
  have hlen : (l.length : Int) ≤ 9223372036854775807 := by omega
  have hrlen : (rs.length : Int) ≤ 9223372036854775807 := by omega
  have hxlen : (xs.length : Int) ≤ 9223372036854775807 := by omega
  have HRR := Lib.hid hrr
  have HXF := Lib.hid hxf
  have HLEN := Lib.hid hlen
  clear hrr hxf
  go_enter Try.func12, Try.ntmps12
  go_wp2_with fail
  have jcl := Go.Deep.blk_alloc_new w (.cells #[.int .i64 mc, .int .i64 mp, .int .i64 md, mv] 30)
  have b0 : Below w.heap.size w (w.alloc (.cells #[.int .i64 mc, .int .i64 mp, .int .i64 md, mv] 30)) := (Below.refl _ _).alloc (Nat.le_refl _) _
  have s0 : w.heap.size < (w.alloc (.cells #[.int .i64 mc, .int .i64 mp, .int .i64 md, mv] 30)).heap.size := by simp
  have JC := Lib.hid jcl
  clear jcl
  generalize w.alloc (.cells #[.int .i64 mc, .int .i64 mp, .int .i64 md, mv] 30) = w0 at *
  refine (awake43_any _).mono ?_
  rintro e w1 ⟨rfl, hb1⟩
  have b1 := b0.trans (hb1.mono (by omega))
  have J1 := Lib.hid ((hb1.block _ s0).trans JC.out)
  have s1 := hb1.size
  clear hb1 b0 JC
  go_wp2_with fail
  refine (fits_any l a cap rs ra rcap un _ (by omega) (by omega) HRR.out (hc.on b1 (by omega)) (hr.on b1 (by omega))).mono ?_
  rintro e w2 ⟨rfl, hb2⟩
  have b2 := b1.trans (hb2.mono (by omega))
  have J2 := Lib.hid ((hb2.block _ (by omega)).trans J1.out)
  have s2 := hb2.size
  clear hb2 b1 J1
  cases hfit : fitsB l rs un
  · go_wp2_with fail
    refine (awake43_any _).mono ?_
    rintro e w3 ⟨rfl, hb3⟩
    go_wp2_with fail
    go_ret
    exact ⟨rfl, b2.trans (hb3.mono (by omega))⟩
  · obtain ⟨hfew, hck⟩ := fits_check hfit
    obtain ⟨hv, hn, u0, u1, hs⟩ := check_ok hck
    obtain ⟨q1, q2, q3, q4, q5⟩ := fewB_bd hfew
    obtain ⟨un, rfl⟩ := Int.eq_ofNat_of_zero_le u0
    have HCK := Lib.hid hck
    have HN := Lib.hid hn
    have HV := Lib.hid hv
    have HSS := Lib.hid q4
    have hl6 : (l.length : Int) ≤ 6 := by omega
    clear hfit hfew hck hv hn hs q4 q5 u0
    by_cases hx6 : xs.length ≤ 6
    · have hx6' : (xs.length : Int) ≤ 6 := by omega
      have x0 := row_cell J2.out (j := 0) rfl
      have x1 := row_cell J2.out (j := 1) rfl
      have x2 := row_cell J2.out (j := 2) rfl
      have x3 := row_cell J2.out (j := 3) rfl
      have x4 := unfrozen_of_block J2.out 3
      go_upto_region 4 with fail
      have J7 := set_block (j := 3) J2.out (.slice none 0 0)
      have b7 := b2.setCell (p := ⟨w.heap.size, 3, none⟩) (Nat.le_refl _) (.slice none 0 0)
      have s7 : w.heap.size < (w2.setCell ⟨w.heap.size, 3, none⟩ (.slice none 0 0)).heap.size := by simp; omega
      clear x0 x1 x2 x3 x4 b2 J2
      generalize w2.setCell ⟨w.heap.size, 3, none⟩ (.slice none 0 0) = w7 at *
      have J7 := Lib.hid (show w7.heap[w.heap.size]? = some (.cells #[.int .i64 mc, .int .i64 mp, .int .i64 md, .slice none 0 0] 30) from J7)
      clear s0 s1 s2
      go_cut [11] (fun u wx => App2 w7 (l ++ [⟨mc, mp, md, []⟩]) u wx)
      case first =>
        have c7 := hc.on b7 (by omega)
        obtain ⟨cs, h1, h2, h3, h4⟩ := tasks_cells c7
        have h8 : l.length ≤ 1000 := by omega
        have HFA := Lib.hid (fun W g0 hb hg hW => first_app (w := w7) (W := W) (a := a) (cap := cap) (g0 := g0) h8 h1 h2 h3 hb hg hW)
        have HSA := Lib.hid (fun W v1 w2 h40 ha hblk => second_app (w := w7) (W := W) (w1 := w2) (v1 := v1) (h40 := h40) (c := mc) (p := mp) (d := md) h8 rfl h1 h4 ha hblk)
        have x0 := row_cell J7.out (j := 0) rfl
        have x1 := row_cell J7.out (j := 1) rfl
        have x2 := row_cell J7.out (j := 2) rfl
        have x3 := row_cell J7.out (j := 3) rfl
        clear h1 h2 h3 h4 c7 hlen hrlen hxlen hl6 h8
        go_region_law (first
          | (refine step_append_ex rfl (.tmp 36) (.tmp 37) 22 (by rfl) (by rfl) (by rfl) (HFA.out _ _ (by first | exact ((Below.refl _ _).drew.alloc (by simp) _) | exact (((Below.refl _ _).drew.alloc (by simp) _).alloc (by simp) _)) (by simp) (by first | exact (Win.lit' _ _ (by simp)) | exact (Win.lit' _ _ (by simp)).alloc _)) ?_
             rintro v1 w1 ⟨ha, hbk⟩
             have y0 := keep_cellN ha.2.1 s7 x0
             have y1 := keep_cellN ha.2.1 s7 x1
             have y2 := keep_cellN ha.2.1 s7 x2
             have y3 := keep_cellN ha.2.1 s7 x3
             have HA := Lib.hid ha
             have HBK := Lib.hid hbk
             clear ha hbk)
          | (refine step_append_ex rfl (.tmp 38) (.tmp 40) 22 (by rfl) (by rfl) (by rfl) (HSA.out _ _ _ _ (by first | exact HA.out | exact HA.out.alloc _) (by first | exact blk_at rfl | (rw [HBK.out _ (by simp) (by simp)]; exact blk_at (by simp)) | (rw [HBK.out _ (by simp; omega) (by simp)]; show (World.alloc (World.alloc _ _) _).heap[_]? = _; rw [Below.heap_alloc _ _ _ (by simp)]; exact blk_at (by simp)))) ?_
             rintro v2 w2 ha2
             have HA2 := Lib.hid ha2
             clear ha2))
        all_goals
          go_wp2_with fail
          go_meet
          case rel => exact HA2.out
      case rest =>
        obtain ⟨hb8, a2, c2, rfl, p1, p2, hm2⟩ := hcut
        obtain ⟨w8, rfl⟩ : ∃ w8 : World, w8 = wc := ⟨_, rfl⟩
        have b8 := b7.trans (hb8.mono (by omega))
        have s8 := b8.size
        have s78 := hb8.size
        obtain ⟨v1, w9, v2, w10, r1, r2, hb9, hb10, a3, c3, rfl, p3, p4, hr3⟩ := app2_rows (cap := rcap) (hr.on b8 s8) (by omega) hxl hxc (hxs.on b8 s8)
        have b9 := b8.trans (hb9.mono s8)
        have b10 := b8.trans (hb10.mono s8)
        have hm10 := hm2.on hb10 hb10.size
        have s10 := b10.size
        clear hb9 hb10 hb8 hm2 J7 b7
        have HQ := Lib.hid (fun k h1 h2 h3 => lower_same (l := l) (r := [⟨mc, mp, md, []⟩]) (rs := rs) (qs := [xs]) HN.out (by simp) h1 h2 h3 k)
        have HSM := Lib.hid (show ∀ t ∈ l ++ [⟨mc, mp, md, []⟩], t.ss.length ≤ 1000 from fun t ht => by
          rcases List.mem_append.1 ht with h | h
          · exact HSS.out t h
          · simp at h; subst h; simp)
        have HNM := Lib.hid (show (rs ++ [xs]).length = (l ++ [(⟨mc, mp, md, []⟩ : CT)]).length by have := HN.out; simp; omega)
        have HRM := Lib.hid (show ∀ r ∈ rs ++ [xs], FitI r from fun t ht => by
          rcases List.mem_append.1 ht with h | h
          · exact HRR.out t h
          · simp at h; subst h; exact HXF.out)
        have hm7 : (((l ++ [(⟨mc, mp, md, []⟩ : CT)]).length : Nat) : Int) ≤ 7 := by simp; omega
        have hr7 : (((rs ++ [xs]).length : Nat) : Int) ≤ 13 := by simp; omega
        generalize l ++ [(⟨mc, mp, md, []⟩ : CT)] = m at *
        generalize rs ++ [xs] = rr at *
        go_upto_region 6 with (at_builtin; first | (refine wpList_append_by rfl (.tmp 42) (.tmp 43) 49 rfl (.slice (some ⟨w8.heap.size, 0, none⟩) 0 0) (.slice ra rs.length rcap) _ w9 rfl rfl r1 ?_) | (refine wpList_append_by rfl (.tmp 44) (.tmp 46) 49 rfl v1 (.slice (some ⟨w9.heap.size, 0, none⟩) 1 1) _ w10 rfl rfl r2 ?_))
        clear r1 r2 b9 b8 s8 s78 s7
        go_wp2_with fail
        refine (valid_any m a2 c2 _ (by omega) hm10).mono ?_
        rintro e w11 ⟨rfl, hb11⟩
        have b11 := b10.trans (hb11.mono s10)
        have s11 := b11.size
        have hm11 := hm10.on hb11 hb11.size
        have hr11 := hr3.on hb11 hb11.size
        clear hb11 b10 hm10 hr3
        cases hvm : validL m
        · clear hvm
          go_wp2_with fail
          go_ret
          exact ⟨rfl, b11⟩
        · have HVM := Lib.hid hvm
          have HPM := Lib.hid (fun t (ht : t ∈ m) => show 1 ≤ t.p ∧ t.p ≤ 1000 from by
            obtain ⟨⟨_, _, h3, h4, _⟩, _⟩ := okT_bd ((validL_bd hvm).2 t ht)
            exact ⟨h3, h4⟩)
          clear hvm
          go_wp2_with fail
          refine (plain43_any m a2 c2 _ (by omega) HSM.out hm11).mono ?_
          rintro e w12 ⟨a4, c4, rfl, q5, q6, q7, hb12⟩
          have b12 := b11.trans (hb12.mono s11)
          have s12 := b12.size
          have hm12 := hm11.on hb12 hb12.size
          have hr12 := hr11.on hb12 hb12.size
          clear hb12 b11 hm11 hr11
          go_wp2_with fail
          refine (spaced_any m a4 c4 rr a3 c3 _ (by omega) HNM.out HRM.out HPM.out q7 hr12).mono ?_
          rintro e w13 ⟨rfl, hb13⟩
          have b13 := b12.trans (hb13.mono s12)
          have s13 := b13.size
          have hm13 := hm12.on hb13 hb13.size
          have hr13 := hr12.on hb13 hb13.size
          clear hb13 b12 hm12 hr12
          cases hsm : rowsB m rr
          · clear hsm
            go_wp2_with fail
            go_ret
            exact ⟨rfl, b13⟩
          · have HCM := Lib.hid (show checkV m rr un = 0 by unfold checkV; rw [if_pos ⟨HVM.out, HNM.out⟩, if_neg (by omega), if_pos hsm])
            have HEQ := Lib.hid (HQ.out un HVM.out HNM.out hsm)
            clear hsm HQ
            go_wp2_with fail
            refine (simulate_any l a cap rs ra rcap un _ (by omega) (by omega) HRR.out (hc.on b13 s13) (hr.on b13 s13)).mono ?_
            rintro e w14 ⟨hb14, ⟨h, _⟩ | ⟨_, ja, jc, rfl, hj1, hj2, hj3⟩⟩
            · exact absurd HCK.out h
            · have b14 := b13.trans (hb14.mono s13)
              have s14 := b14.size
              have hm14 := hm13.on hb14 hb14.size
              have hr14 := hr13.on hb14 hb14.size
              clear hb14 b13 hm13 hr13
              go_wp2_with fail
              refine (simulate_any m a2 c2 rr a3 c3 un _ (by omega) (by omega) HRM.out hm14 hr14).mono ?_
              rintro e w15 ⟨hb15, ⟨h, _⟩ | ⟨_, ka, kc, rfl, hk1, hk2, hk3⟩⟩
              · exact absurd HCM.out h
              · have b15 := b14.trans (hb15.mono s14)
                have s15 := b15.size
                have hj15 := hj3.on hb15 hb15.size
                have hjl : (run (envOf l rs) un).en.length ≤ un := (run_bd (envOf l rs) un).1
                have hkl : (run (envOf m rr) un).en.length ≤ un := (run_bd (envOf m rr) un).1
                rw [Int.toNat_natCast] at hj1 hj15 hk1 hk3 ⊢
                clear hb15 b14 hm14 hr14 hj3
                have HJ := Lib.hid hj15
                have HK := Lib.hid hk3
                clear hj15 hk3
                generalize (run (envOf l rs) un).en = js at *
                generalize (run (envOf m rr) un).en = ks at *
                have hjI : (js.length : Int) ≤ 300 := by omega
                have hkI : (ks.length : Int) ≤ 300 := by omega
                go_wp2_with fail
                go_loopw [74, 17] (fun u v wr => ∃ k : Nat, u = .int .i64 k ∧ k ≤ ks.length ∧ Hid (JW w15.heap.size wr v (lowF ks l.length k)) ∧ Below w.heap.size w wr ∧ Below w15.heap.size w15 wr) (fun u _ _ => ks.length - (intOf u).toNat)
                case atStart => exact ⟨0, rfl, by omega, JW.nil _ _, b15, Below.refl _ _⟩
                case round =>
                  obtain ⟨k, rfl, hk, hjw, hbl, hcl⟩ := hrel
                  have hbs := hbl.size
                  have hcs := hcl.size
                  clear b15
                  by_cases hlt : k < ks.length
                  · have hget := List.getElem?_eq_getElem hlt
                    obtain ⟨jb, jo, rfl, hjN, hjcell⟩ := HK.out (by intro e; simp [e] at hlt)
                    obtain ⟨a0, a1, a2, a3, a4⟩ := hjcell k _ hget
                    have a0 := keep_cellN hcl hjN a0
                    have a1 := keep_cellN hcl hjN a1
                    have a2 := keep_cellN hcl hjN a2
                    have a3 := keep_cellN hcl hjN a3
                    have a4 := keep_cellN hcl hjN a4
                    have HY := Lib.hid (fun h => lowF_yes (n := l.length) hlt h)
                    have HNo := Lib.hid (fun h => lowF_no (n := l.length) hlt h)
                    have hll := lowF_len ks l.length k
                    have hjbw : jb < wr.heap.size := by omega
                    have hlt' : (k : Int) < (ks.length : Int) := by omega
                    clear hjcell hget
                    generalize ks[k] = j at *
                    obtain ⟨tk, rel, st, en, bl⟩ := j
                    simp only at a0 a1 a2 a3 a4 HY HNo
                    generalize lowF ks l.length k = L at *
                    go_upto_region 14 with fail
                    have jcl := Go.Deep.blk_alloc_new wr (.cells #[.int .i64 tk, .int .i64 rel, .int .i64 st, .int .i64 en, .int .i64 bl] 59)
                    have hbj : Below wr.heap.size wr (wr.alloc (.cells #[.int .i64 tk, .int .i64 rel, .int .i64 st, .int .i64 en, .int .i64 bl] 59)) := (Below.refl _ _).alloc (Nat.le_refl _) _
                    have hsj : wr.heap.size < (wr.alloc (.cells #[.int .i64 tk, .int .i64 rel, .int .i64 st, .int .i64 en, .int .i64 bl] 59)).heap.size := by simp
                    generalize wr.alloc (.cells #[.int .i64 tk, .int .i64 rel, .int .i64 st, .int .i64 en, .int .i64 bl] 59) = wj at *
                    have g0 := row_cell jcl (j := 0) rfl
                    have g1 := row_cell jcl (j := 1) rfl
                    have g2 := row_cell jcl (j := 2) rfl
                    have g3 := row_cell jcl (j := 3) rfl
                    have g4 := row_cell jcl (j := 4) rfl
                    have bj := hbl.trans (hbj.mono hbs)
                    have cj := hcl.trans (hbj.mono hcs)
                    have hjwj := Lib.hid (hjw.out.below hbj)
                    have hsj2 : w.heap.size ≤ wj.heap.size := by omega
                    have hsj3 : w15.heap.size ≤ wj.heap.size := by omega
                    clear jcl a0 a1 a2 a3 a4 hbl hcl hjw hbj
                    by_cases htl : tk < l.length
                    · have htl' : (tk : Int) < (l.length : Int) := by omega
                      obtain ⟨v', w', hrun, hjw', hb'⟩ := hjwj.out.push hsj3 ⟨tk, rel, st, en, bl⟩ (by omega)
                      have hb15 := cj.trans hb'
                      have HJ' := Lib.hid hjw'
                      have b' := bj.trans (hb'.mono s15)
                      clear hjw' hb'
                      go_wp2_with (at_builtin; refine wpList_append_by rfl (.tmp 83) (.tmp 85) 51 rfl u17 (.slice (some ⟨wj.heap.size, 0, none⟩) 1 1) _ w' rfl rfl hrun ?_)
                      go_roundw
                      case rel => exact ⟨k + 1, by go_num, by omega, by rw [HY.out htl]; exact HJ'.out, b', hb15⟩
                      case measure => simp [intOf]; omega
                    · have htl' : ¬ (tk : Int) < (l.length : Int) := by omega
                      have HNN := Lib.hid (HNo.out htl)
                      go_wp2_with fail
                      go_roundw
                      case rel => exact ⟨k + 1, by go_num, by omega, by rw [HNN.out]; exact hjwj.out, bj, cj⟩
                      case measure => simp [intOf]; omega
                  · obtain rfl : k = ks.length := by omega
                    have hL : lowF ks l.length ks.length = js := by rw [lowF, List.take_length]; exact HEQ.out
                    rw [hL] at hjw
                    obtain ⟨sa, sc, rfl, z1, z2, z3⟩ := hjw.out.jobs
                    have hjr := HJ.out.on hcl hcs
                    clear hjw hL
                    go_wp2_with fail
                    refine (eqjobs_any js js ja sa jc sc _ (by omega) (by omega) hjr z3).mono ?_
                    rintro e w16 ⟨rfl, hb16⟩
                    go_wp2_with fail
                    go_ret
                    exact ⟨by first | rfl | exact ret_bool (by simp), hbl.trans (hb16.mono hbs)⟩
    · have hx6' : ¬ (xs.length : Int) ≤ 6 := by omega
      go_wp2_with fail
      refine (awake43_any _).mono ?_
      rintro e w3 ⟨rfl, hb3⟩
      go_wp2_with fail
      go_ret
      exact ⟨rfl, b2.trans (hb3.mono (by omega))⟩
end Go.Proofs.Ytkedcnemldjbeaa
