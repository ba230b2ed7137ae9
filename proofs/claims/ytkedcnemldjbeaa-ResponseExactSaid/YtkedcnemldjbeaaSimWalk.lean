/- The walk over ceiling.Simulate. Conditions: the arguments lie in memory. -/
import Derived.Test.YtkedcnemldjbeaaSimMid
namespace Go.Proofs.Ytkedcnemldjbeaa
open Go.RowKit

set_option maxRecDepth 100000 in
set_option maxHeartbeats 6400000 in
theorem simulate_any (l : List CT) (a : Option Addr) (cap : Nat) (rs : List (List Int)) (ra : Option Addr) (rcap : Nat) (un : Int) (w : World) (hl : l.length ≤ 9223372036854775807) (hrl : rs.length ≤ 9223372036854775807) (hrr : ∀ r ∈ rs, FitI r)
    (hc : TasksAt w w.heap.size a l) (hr : RowsAt w w.heap.size ra rs) :
    Calls Try.prog 32 #[.slice a l.length cap, .slice ra rs.length rcap, .int .i64 un] w (SimPost l rs un w) := by
  by_cases hck : checkV l rs un = 0
  · obtain ⟨hv, hn, u0, u1, hs⟩ := check_ok hck
    have HE := Lib.hid (env_ok hv hn hs)
    have h20 := (validL_bd hv).1
    have HOK := Lib.hid (validL_bd hv).2
    obtain ⟨un, rfl⟩ := Int.eq_ofNat_of_zero_le u0
    have HCK := Lib.hid hck
    have HV := Lib.hid hv
    have HN := Lib.hid hn
    have HRUN := Lib.hid (fun k => inv_run (env_ok hv hn hs) k)
    have HEn := Lib.hid (show (envOf l rs).n = l.length from rfl)
    have HEr := Lib.hid (show ∀ i, (envOf l rs).rel i = rwAt rs i from fun _ => rfl)
    have HEc := Lib.hid (show ∀ i, (envOf l rs).cost i = (ctAt l i).c from fun _ => rfl)
    have HEa := Lib.hid (show ∀ i d, (envOf l rs).act i d = actV l i d from fun _ _ => rfl)
    have HPOST : ∀ e w', SimPost l rs un w e w' = SimPost l rs un w e w' := fun _ _ => rfl
    have hun : (un : Int) ≤ 100000 := by omega
    have hlen : (l.length : Int) ≤ 20 := by omega
    have hrlen : (rs.length : Int) ≤ 20 := by omega
    clear HPOST hv hs hck u0 hn
    generalize hE : envOf l rs = E at *
    have HEE := Lib.hid hE
    clear hE
    obtain ⟨i0, hi0, hz0, hz1, hz2⟩ := info_parts info_int
    obtain ⟨j0, hj0, hjz0, hjz1, hjz2⟩ := info_parts info_pends
    go_enter Try.func32, Try.ntmps32
    go_wp2_with fail
    refine (check_any l a cap rs ra rcap un w hl hrl hrr hc hr).mono ?_
    rintro e w1 ⟨rfl, hb1⟩
    have s1 := hb1.size
    rw [HCK.out]
    go_wp2_with fail
    refine (ceilings_any l a cap _ (by omega) (hc.on hb1 s1)).mono ?_
    rintro e w2 ⟨mb, mn, rfl, hmb, hI, hb2⟩
    rw [HV.out] at hI
    simp only [if_true] at hI
    have b2 := hb1.trans (hb2.mono s1)
    have s2 := b2.size
    have hml := hI.lt
    have HI := Lib.hid hI
    clear hb1 hb2 hI
    have mk1 := run_make (P := Try.prog) w2 82 85 j0 _ Try.underlying82 hj0 hjz0 .i64 .i64 l.length l.length (by omega) (by omega) (by rw [hjz2]; omega) (by omega)
    simp only [Int.toNat_natCast, hjz1, Value.cells] at mk1
    have mk2 := run_make (P := Try.prog) (w2.alloc (.cells (madeCells #[.slice none 0 0] l.length) 85)) 35 3 i0 _ Try.underlying35 hi0 hz0 .i64 .i64 l.length l.length (by omega) (by omega) (by rw [hz2]; omega) (by omega)
    simp only [Int.toNat_natCast, hz1, Value.cells] at mk2
    have mk3 := run_make (P := Try.prog) ((w2.alloc (.cells (madeCells #[.slice none 0 0] l.length) 85)).alloc (.cells (madeCells #[.int .i64 0] l.length) 3)) 35 3 i0 _ Try.underlying35 hi0 hz0 .i64 .i64 l.length l.length (by omega) (by omega) (by rw [hz2]; omega) (by omega)
    simp only [Int.toNat_natCast, hz1, Value.cells] at mk3
    clear hi0 hz0 hz1 hz2 hj0 hjz0 hjz1 hjz2
    go_wp2_with fail
    clear mk1 mk2 mk3
    have hS0 := SS.init (n := l.length) HI.out (show w.heap.size ≤ mb by omega) (show w.heap.size ≤ w2.heap.size by omega)
    have b3 : Below w.heap.size w (((w2.alloc (.cells (madeCells #[.slice none 0 0] l.length) 85)).alloc (.cells (madeCells #[.int .i64 0] l.length) 3)).alloc (.cells (madeCells #[.int .i64 0] l.length) 3)) := ((b2.alloc (by omega) _).alloc (by simp; omega) _).alloc (by simp; omega) _
    have hO0 : OutAt ⟨w.heap.size, l.length, w2.heap.size, w2.heap.size + 1, w2.heap.size + 1 + 1, mb⟩ mn (ceilS l).2 (ceilM l) w (((w2.alloc (.cells (madeCells #[.slice none 0 0] l.length) 85)).alloc (.cells (madeCells #[.int .i64 0] l.length) 3)).alloc (.cells (madeCells #[.int .i64 0] l.length) 3)) (.slice none 0 0) sim0 := ⟨hS0, b3, b3.size⟩
    have HO0 := Lib.hid hO0
    clear hS0 b3 hO0 HI
    generalize ((w2.alloc (.cells (madeCells #[.slice none 0 0] l.length) 85)).alloc (.cells (madeCells #[.int .i64 0] l.length) 3)).alloc (.cells (madeCells #[.int .i64 0] l.length) 3) = w3 at *
    generalize w2.heap.size = H at *
    clear b2
    go_loopw [40, 13] (fun u v wr => ∃ k : Nat, u = .int .i64 k ∧ k ≤ un ∧ Hid (OutAt ⟨w.heap.size, l.length, H, H + 1, H + 1 + 1, mb⟩ mn (ceilS l).2 (ceilM l) w wr v (run E k))) (fun u _ _ => un - (intOf u).toNat)
    case atStart => exact ⟨0, rfl, by omega, HO0.out⟩
    case round =>
      obtain ⟨k, rfl, hk, hout⟩ := hrel
      clear HO0
      by_cases hlt : k < un
      · have hlt' : (k : Int) < (un : Int) := by omega
        have hkI : (k : Int) ≤ 100000 := by omega
        obtain ⟨hbd1, hbd2⟩ := run_bd E k
        have HB2 := Lib.hid hbd2
        clear hbd2
        go_wp2_with fail
        obtain ⟨wo, rfl⟩ : ∃ wo : World, wo = wr := ⟨_, rfl⟩
        go_loopw [45] (fun u wq => ∃ i : Nat, u = .int .i64 i ∧ i ≤ rs.length ∧ Hid (OutAt ⟨w.heap.size, l.length, H, H + 1, H + 1 + 1, mb⟩ mn (ceilS l).2 (ceilM l) w wq u13 (relK E k (run E k) i))) (fun u _ => rs.length - (intOf u).toNat)
        case atStart => exact ⟨0, rfl, by omega, by rw [relK_zero]; exact hout.out⟩
        case round =>
          obtain ⟨i, rfl, hi, hin⟩ := hrel
          clear hout
          by_cases hil : i < rs.length
          · have hin2 : i < l.length := by have := HN.out; omega
            obtain ⟨⟨tg, V, hsm⟩, hbl, hbs⟩ := hin.out
            obtain ⟨rb, roff, rfl, hrN, hrcell⟩ := hr (by intro e; simp [e] at hil)
            obtain ⟨xa, xc, r0, hxc, hxc2, hxs⟩ := hrcell i _ (rwAt_get hil)
            have r0 := keep_cellN hbl hrN r0
            have n0 : wr.cell? ⟨H + 1, i, none⟩ = some (.int .i64 ((run E k).nx i)) := by
              have := hsm.cellN hin2
              rw [relK_own.2] at this; exact this
            have nb := (HB2.out i).1
            have hil' : (i : Int) < (rs.length : Int) := by omega
            have hin2' : (i : Int) < (l.length : Int) := by omega
            have i0 : (0 : Int) ≤ (i : Int) := by omega
            have hH1 : H + 1 < wr.heap.size := hsm.nrow.lt
            have hrw : rb < wr.heap.size := by omega
            have hrl' : ((rwAt rs i).length : Int) ≤ 9223372036854775807 := by omega
            have hr2 : (envOf l rs).rel i = rwAt rs i := rfl
            have HREL := Lib.hid (HEr.out i)
            clear hrcell hr2
            generalize hr3 : rwAt rs i = r at *
            generalize hN3 : (run E k).nx i = N at *
            have HN3 := Lib.hid hN3
            clear hr3 hN3
            by_cases hNr : N < r.length
            · have hNr' : (N : Int) < (r.length : Int) := by omega
              have hNb : (N : Int) ≤ 100000 := by omega
              have N0 : (0 : Int) ≤ (N : Int) := by omega
              obtain ⟨xb, xoff, rfl, hxN, hxcell⟩ := hxs (by intro e; simp [e] at hNr)
              have x0 := keep_cellN hbl hxN (hxcell N _ (getD_get hNr))
              have hxw : xb < wr.heap.size := by omega
              have HX := Lib.hid (show (E.rel i)[(run E k).nx i]? = some (r.getD N 0) by rw [HREL.out, HN3.out]; exact getD_get hNr)
              clear hxcell
              generalize r.getD N 0 = x at *
              by_cases hx : x = k
              · subst hx
                have hdue := due_yes (E := E) (s := run E k) (now := k) (i := i) HX.out
                have l0 : wr.cell? ⟨H + 1 + 1, i, none⟩ = some (.int .i64 ((run E k).lo i)) := hsm.cellL hin2
                have hlo := (HB2.out i).2
                have hH2 : H + 1 + 1 < wr.heap.size := hsm.lrow.lt
                have hml1 : ((run E k).wt i).length ≤ 1000000 := by
                  have := ((HRUN.out k).1.idx i (by rw [HEn.out]; exact hin2)).1
                  have := HN3.out
                  omega
                have hsp := (hsm.alloc (.cells #[.int .i64 i, .int .i64 k, .int .i64 0, .int .i64 0, .int .i64 0, .int .i64 0, .int .i64 ((run E k).lo i), .int .i64 i, .bool false] 84)).drew
                obtain ⟨g, o, c, w', hrun, hb', cW, fW, cN, fN, tg', hsm'⟩ := hsp.push hin2 (newPd (run E k) k i) (by rw [relK_own.1]; exact hml1)
                rw [relK_own.2] at cN
                have hfin := (hsm'.setN i (((run E k).nx i : Int) + 1)).take hdue
                have hW0 : ((wr.alloc (.cells #[.int .i64 i, .int .i64 k, .int .i64 0, .int .i64 0, .int .i64 0, .int .i64 0, .int .i64 ((run E k).lo i), .int .i64 i, .bool false] 84)).drew).cell? ⟨H, i, none⟩ = some (V i) := hsp.cellW hin2
                have hWl : wr.cell? ⟨H, i, none⟩ = some (V i) := hsm.cellW hin2
                have hH0 : H < wr.heap.size := hsm.wrow.lt
                have hbw : Below w.heap.size w (wr.alloc (.cells #[.int .i64 i, .int .i64 k, .int .i64 0, .int .i64 0, .int .i64 0, .int .i64 0, .int .i64 ((run E k).lo i), .int .i64 i, .bool false] 84)).drew := (hbl.alloc hbs _).drew
                have hbf : Below w.heap.size w ((w'.setCell ⟨H, i, none⟩ (.slice (some ⟨g, o, none⟩) (((relK E k (run E k) i).wt i).length + 1) c)).setCell ⟨H + 1, i, none⟩ (.int .i64 ((N : Int) + 1))) := ((hbw.trans hb').setCell (p := ⟨H, i, none⟩) (show w.heap.size ≤ H by omega) _).setCell (p := ⟨H + 1, i, none⟩) (show w.heap.size ≤ H + 1 by omega) _
                rw [HN3.out] at hfin cN
                have HO := Lib.hid (And.intro hfin (And.intro hbf hbf.size))
                simp only [newPd] at hrun
                clear hsm hsp hin hfin hbf hsm' hdue hbw hb'
                generalize (run E k).lo i = LO at *
                generalize ((relK E k (run E k) i).wt i).length = ML at *
                generalize V i = v0 at *
                go_wp2_with fail
                have pb := Go.Deep.blk_alloc_new wr (.cells #[.int .i64 i, .int .i64 k, .int .i64 0, .int .i64 0, .int .i64 0, .int .i64 0, .int .i64 LO, .int .i64 i, .bool false] 84)
                have hsa : wr.heap.size < (wr.alloc (.cells #[.int .i64 i, .int .i64 k, .int .i64 0, .int .i64 0, .int .i64 0, .int .i64 0, .int .i64 LO, .int .i64 i, .bool false] 84)).heap.size := by simp
                have hHa : H < (wr.alloc (.cells #[.int .i64 i, .int .i64 k, .int .i64 0, .int .i64 0, .int .i64 0, .int .i64 0, .int .i64 LO, .int .i64 i, .bool false] 84)).heap.size := by simp; omega
                have pWl : (wr.alloc (.cells #[.int .i64 i, .int .i64 k, .int .i64 0, .int .i64 0, .int .i64 0, .int .i64 0, .int .i64 LO, .int .i64 i, .bool false] 84)).cell? ⟨H, i, none⟩ = some v0 := hW0
                generalize wr.alloc (.cells #[.int .i64 i, .int .i64 k, .int .i64 0, .int .i64 0, .int .i64 0, .int .i64 0, .int .i64 LO, .int .i64 i, .bool false] 84) = wa at *
                have p0 := row_cell pb (j := 0) rfl
                have p1 := row_cell pb (j := 1) rfl
                have p2 := row_cell pb (j := 2) rfl
                have p3 := row_cell pb (j := 3) rfl
                have p4 := row_cell pb (j := 4) rfl
                have p5 := row_cell pb (j := 5) rfl
                have p6 := row_cell pb (j := 6) rfl
                have p7 := row_cell pb (j := 7) rfl
                have p8 := row_cell pb (j := 8) rfl
                clear pb
                have hrun : (Builtin.append_ #[85, 85] 85 #[v0, .slice (some ⟨wa.heap.size, 0, none⟩) 1 1]).run Try.prog (wa.alloc (.cells #[.int .i64 i, .int .i64 k, .int .i64 0, .int .i64 0, .int .i64 0, .int .i64 0, .int .i64 LO, .int .i64 i, .bool false] 84)).drew = .ok (.slice (some ⟨g, o, none⟩) (ML + 1) c) w' := hrun
                go_region_law (refine step_append_by rfl (.tmp 82) (.tmp 84) 85 rfl v0 (.slice (some ⟨wa.heap.size, 0, none⟩) 1 1) _ w' (by rfl) (by rfl) hrun ?_)
                all_goals
                  go_wp2_with fail
                  go_roundw
                  case rel => exact ⟨i + 1, by go_num, by omega, HO.out⟩
                  case measure => simp [intOf]; omega
              · have hd := Lib.hid (relK_skip (due_no (E := E) (s := run E k) (now := k) (i := i) (fun y hy => by rw [HX.out] at hy; simp at hy; omega)))
                have hq : (x == (k : Int)) = false := beq_eq_false_iff_ne.2 hx
                have HO := Lib.hid hin.out
                clear hx hsm hin
                go_wp2_with fail
                go_roundw
                case rel => exact ⟨i + 1, by go_num, by omega, by rw [hd.out]; exact HO.out⟩
                case measure => simp [intOf]; omega
            · have hNr' : ¬ (N : Int) < (r.length : Int) := by omega
              have hd := Lib.hid (relK_skip (due_no (E := E) (s := run E k) (now := k) (i := i) (fun y hy => by rw [HREL.out, HN3.out, List.getElem?_eq_none (by omega)] at hy; cases hy)))
              have HO := Lib.hid hin.out
              clear hsm hin
              go_wp2_with fail
              go_roundw
              case rel => exact ⟨i + 1, by go_num, by omega, by rw [hd.out]; exact HO.out⟩
              case measure => simp [intOf]; omega
          · obtain rfl : i = rs.length := by omega
            have hin' := hin.out
            rw [HN.out] at hin'
            obtain ⟨⟨tg, V, hsm⟩, hbl, hbs⟩ := hin'
            have hWA := Lib.hid hsm.wait
            have hH0 : H < wr.heap.size := hsm.wrow.lt
            have hLen : ∀ i, i < l.length → ((relK E k (run E k) l.length).wt i).length ≤ 1000000 := fun i hi => by
              have h1 := (mid_rel HE.out (HRUN.out k).1 (HRUN.out k).2).idx i (by rw [HEn.out]; exact hi)
              rw [HEn.out] at h1
              have h2 := h1.1
              have h3 : (relK E k (run E k) l.length).nx i ≤ (run E k).nx i + 1 := by
                unfold relK
                show (if _ then (run E k).nx i + 1 else (run E k).nx i) ≤ _
                split
                · exact Nat.le_refl _
                · exact Nat.le_succ _
              have := (HB2.out i).1
              omega
            have HLen := Lib.hid hLen
            have HSM := Lib.hid hsm
            clear hsm hin hLen
            have hil' : ¬ (rs.length : Int) < (rs.length : Int) := by omega
            go_wp2_with fail
            refine (choose_any H l.length (relK E k (run E k) l.length).wt _ (by omega) hH0 HLen.out hWA.out).mono ?_
            rintro e w4 ⟨rfl, hb4⟩
            have HS4 := Lib.hid (HSM.out.below hb4)
            have b4 := hbl.trans (hb4.mono hbs)
            have s4 := b4.size
            clear hb4 hbl HSM hWA
            have hlo1 : ∀ j, 0 ≤ (relK E k (run E k) l.length).lo j ∧ (relK E k (run E k) l.length).lo j ≤ k := fun j => (HB2.out j).2
            have hen1 : (relK E k (run E k) l.length).en.length ≤ k := hbd1
            have HSTEP := Lib.hid (show run E (k + 1) = (match chooseK (relK E k (run E k) l.length).wt l.length with | none => relK E k (run E k) l.length | some t => exec E k t (relK E k (run E k) l.length)) by rw [run, step, HEn.out]; rfl)
            have HMID := Lib.hid (show Mid E k (relK E k (run E k) l.length) by have := mid_rel HE.out (HRUN.out k).1 (HRUN.out k).2; rw [HEn.out] at this; exact this)
            generalize relK E k (run E k) l.length = s1 at *
            cases hch : chooseK s1.wt l.length with
            | none =>
              rw [hch] at HSTEP
              clear hch
              rw [show toI none = -1 from rfl]
              go_wp2_with fail
              go_roundw
              case rel => exact ⟨k + 1, by go_num, by omega, by rw [HSTEP.out]; exact ⟨⟨tg, V, HS4.out⟩, b4, s4⟩⟩
              case measure => simp [intOf]; omega
            | some t =>
              obtain ⟨htn, hne⟩ := chooseK_lt hch
              rw [hch] at HSTEP
              clear hch
              rw [show toI (some t) = (t : Int) from rfl]
              cases hw : s1.wt t with
              | nil => exact absurd hw hne
              | cons p r =>
                obtain ⟨⟨p0, p1, p2, p3⟩, hr'⟩ := HMID.out.head t p r (by rw [HEn.out]; exact htn) hw
                obtain ⟨q1, q2, q3⟩ := HMID.out.time t p (by rw [HEn.out]; exact htn) (by rw [hw]; exact List.mem_cons_self ..)
                have hcost := (okT_bd (HOK.out _ (ctAt_mem htn))).1.2.1
                have hcost1 := (okT_bd (HOK.out _ (ctAt_mem htn))).1.1
                rw [HEc.out] at p1
                have hrel0 : 0 ≤ p.rel := HE.out.nonneg t _ _ (by rw [HEn.out]; exact htn) (HMID.out.rels t 0 p (by rw [HEn.out]; exact htn) (by rw [hw]; rfl))
                obtain ⟨hWt, hWtg⟩ := HS4.out.win t htn
                obtain ⟨g, o, c, hVt, hgl, _, _⟩ := hWt.form (by rw [hw]; simp)
                have HB0 : ∀ j, 0 ≤ s1.lo j ∧ s1.lo j ≤ k := hlo1
                have hp0 := hWt
                have HM := Lib.hid (MidAt.start hw HS4.out b4 s4)
                have HLO := Lib.hid hlo1
                have hlp := (hlo1 t).2
                have hlp0 := (hlo1 t).1
                have HVt := Lib.hid hVt
                have hcW : w4.cell? ⟨H, t, none⟩ = some (V t) := HS4.out.cellW htn
                have hH4 : H < w4.heap.size := HS4.out.wrow.lt
                rw [hVt] at hcW
                have hMp : 0 < (s1.wt t).length := by rw [hw]; simp
                have hMp2 : (((s1.wt t).length : Nat) : Int) ≤ 1000000 := by have := HLen.out t htn; omega
                have c5 := HM.out.cell htn hVt 5 (.int .i64 p.dn) rfl
                have f2 := HM.out.free htn hVt (o + 2)
                have htn' : (t : Int) < (l.length : Int) := by omega
                have t0 : (0 : Int) ≤ (t : Int) := by omega
                have ht20 : t ≤ 20 := by omega
                clear hWt hWtg hp0 HB0 hlo1 HS4 hne hVt b4 s4
                go_upto_if 107 with fail
                go_cut [] (fun wx => MidAt ⟨w.heap.size, l.length, H, H + 1, H + 1 + 1, mb⟩ mn (ceilS l).2 (ceilM l) w wx tg V s1 t [.int .i64 t, .int .i64 p.rel, .int .i64 (if p.dn = 0 then (k : Int) else p.st), .int .i64 0, .int .i64 0, .int .i64 p.dn, .int .i64 p.lo, .int .i64 p.ac, .bool p.ho] (r.flatMap (encP t)) s1.lo u13 s1.en)
                case first =>
                  have c2 := HM.out.cell htn HVt.out 2 (.int .i64 p.st) rfl
                  by_cases hd0 : p.dn = 0
                  · have HM2 := Lib.hid (HM.out.set htn rfl HVt.out 2 (.int .i64 k) (by simp [encP]))
                    have hq : (p.dn == 0) = true := by simp [hd0]
                    have HD := Lib.hid hd0
                    clear hd0
                    go_wp2_with fail
                    go_meet
                    case rel => rw [if_pos HD.out]; exact HM2.out
                  · have hq : (p.dn == 0) = false := beq_eq_false_iff_ne.2 hd0
                    have HD := Lib.hid hd0
                    clear hd0
                    go_wp2_with fail
                    go_meet
                    case rel => rw [if_neg HD.out]; exact HM.out
                case rest =>
                  have HM5 := Lib.hid hcut
                  obtain ⟨w5, rfl⟩ : ∃ w5 : World, w5 = wc := ⟨_, rfl⟩
                  have d5 := HM5.out.cell htn HVt.out 5 (.int .i64 p.dn) rfl
                  have e5 := HM5.out.free htn HVt.out (o + 5)
                  have HM6 := Lib.hid (HM5.out.set htn rfl HVt.out 5 (.int .i64 (p.dn + 1)) (by simp))
                  have hcost' : (ctAt l t).c ≤ 1000 := hcost
                  clear hcut HM c5 f2 hcW
                  generalize hst : (if p.dn = 0 then (k : Int) else p.st) = ST at *
                  have HST := Lib.hid hst
                  clear hst
                  simp only [List.set_cons_succ, List.set_cons_zero] at HM6
                  go_wp2_with fail
                  generalize w5.setCell ⟨g, o + 5, none⟩ (.int .i64 (p.dn + 1)) = w6 at *
                  clear d5 e5 HM5
                  go_loopw [121] (fun u wq => ∃ i : Nat, u = .int .i64 i ∧ i ≤ t ∧ Hid (MidAt ⟨w.heap.size, l.length, H, H + 1, H + 1 + 1, mb⟩ mn (ceilS l).2 (ceilM l) w wq tg V s1 t [.int .i64 t, .int .i64 p.rel, .int .i64 ST, .int .i64 0, .int .i64 0, .int .i64 (p.dn + 1), .int .i64 p.lo, .int .i64 p.ac, .bool p.ho] (r.flatMap (encP t)) (bump s1.lo i) u13 s1.en)) (fun u _ => t - (intOf u).toNat)
                  case atStart => exact ⟨0, rfl, by omega, by have e : bump s1.lo 0 = s1.lo := funext (bump_zero _); rw [e]; exact HM6.out⟩
                  case round =>
                    obtain ⟨i, rfl, hi, hin⟩ := hrel
                    clear HM6
                    by_cases hit : i < t
                    · have hit' : (i : Int) < (t : Int) := by omega
                      have i0 : (0 : Int) ≤ (i : Int) := by omega
                      have hil : i < l.length := by omega
                      have hil' : (i : Int) < (l.length : Int) := by omega
                      have l0 : wr.cell? ⟨H + 1 + 1, i, none⟩ = some (.int .i64 (s1.lo i)) := by
                        have := hin.out.1.cellL hil
                        rw [show bump s1.lo i i = s1.lo i by simp [bump]] at this
                        exact this
                      have f0 : wr.frozen? ⟨H + 1 + 1, i, none⟩ = false := hin.out.1.lrow.frozen _
                      have HN2 := Lib.hid (hin.out.setL (lo' := bump s1.lo (i + 1)) rfl i (s1.lo i + 1) (bump_succ _ _))
                      obtain ⟨g0, g1⟩ := HLO.out i
                      clear hin
                      generalize s1.lo i = LI at *
                      go_wp2_with fail
                      go_roundw
                      case rel => exact ⟨i + 1, by go_num, by omega, HN2.out⟩
                      case measure => simp [intOf]; omega
                    · obtain rfl : i = t := by omega
                      have hit' : ¬ (i : Int) < (i : Int) := by omega
                      have HM7 := Lib.hid hin.out
                      have hbl7 := hin.out.2.1
                      have hbs7 := hin.out.2.2
                      clear hin
                      obtain ⟨b, off, rfl, hbN, hcell⟩ := hc (by intro e; rw [e] at htn; simp at htn)
                      obtain ⟨k0, _, _, _, _, _, _, _⟩ := hcell i _ (ctAt_get htn)
                      have k0 := keep_cellN hbl7 hbN k0
                      have hbw : b < wr.heap.size := by omega
                      have hgw := HM7.out.lt htn HVt.out
                      have d5 := HM7.out.cell htn HVt.out 5 (.int .i64 (p.dn + 1)) rfl
                      have HEC := Lib.hid (HEc.out i)
                      clear hcell
                      have KC := Lib.hid k0
                      clear k0
                      by_cases hlc : p.dn + 1 < (ctAt l i).c
                      · have hd : decide (p.dn + 1 < (ctAt l i).c) = true := decide_eq_true hlc
                        have k0 := KC.out
                        have HLC := Lib.hid hlc
                        go_wp2_with fail
                        go_quiet (fail)
                        have HM8 := HM7.out.below (below_drewN (Below.refl wr.heap.size wr) nq)
                        have b8 := below_drewN hbl7 nq
                        clear d5 k0 hd
                        have hs8 : w.heap.size ≤ (wr.drewN nq).heap.size := HM8.2.2
                        have c8 := hc.on b8 hs8
                        have d8 := HM8.cell htn HVt.out 5 (.int .i64 (p.dn + 1)) rfl
                        have HI8 := HM8.1.map
                        have HM8 := Lib.hid HM8
                        generalize wr.drewN nq = w8 at *
                        have AC := Lib.hid (active_any l (some ⟨b, off, none⟩) cap mb mn (ceilS l).2 i (p.dn + 1) w8 HV.out htn c8 HI8)
                        rw [← HEa.out] at AC
                        clear HI8 c8
                        go_wp2_with (go_at_call 50; refine (AC.out).mono ?_; rintro e w9 ⟨rfl, hb9⟩; have HM9 := Lib.hid (HM8.out.below hb9); have f7 := HM9.out.free htn HVt.out (o + 7); have f8 := HM9.out.free htn HVt.out (o + 8); have d7 := HM9.out.cell htn HVt.out 7 (.int .i64 p.ac) rfl; have d8' := HM9.out.cell htn HVt.out 8 (.bool p.ho) rfl)
                        have HMA := ((HM9.out.set htn rfl HVt.out 7 (.int .i64 (E.act i (p.dn + 1)).1) (by simp)).set htn rfl HVt.out 8 (.bool (E.act i (p.dn + 1)).2) (by simp))
                        simp only [List.set_cons_succ, List.set_cons_zero] at HMA
                        have hEQ : [.int .i64 i, .int .i64 p.rel, .int .i64 ST, .int .i64 0, .int .i64 0, .int .i64 (p.dn + 1), .int .i64 p.lo, .int .i64 (E.act i (p.dn + 1)).1, .bool (E.act i (p.dn + 1)).2] = encP i (stepPd E k i p) := by rw [← HST.out]; rfl
                        rw [hEQ] at HMA
                        have HON := Lib.hid (HMA.on (E := E) (now := k) (p := p) hw (by rw [HEC.out]; exact HLC.out))
                        clear HMA hEQ
                        go_roundw
                        case rel => exact ⟨k + 1, by go_num, by omega, by rw [HSTEP.out]; exact HON.out⟩
                        case measure => simp [intOf]; omega
                      · have hd : decide (p.dn + 1 < (ctAt l i).c) = false := decide_eq_false hlc
                        have k0 := KC.out
                        have HLC := Lib.hid hlc
                        go_wp2_with fail
                        go_quiet (fail)
                        have HM8 := Lib.hid (HM7.out.below (below_drewN (Below.refl wr.heap.size wr) nq))
                        have f3 := HM8.out.free htn HVt.out (o + 3)
                        have d3 := HM8.out.cell htn HVt.out 3 (.int .i64 0) rfl
                        clear d5 k0 hd hbl7 hbs7 HM7 KC
                        generalize wr.drewN nq = w8 at *
                        go_wp2_with fail
                        have HM9 := (HM8.out.set htn rfl HVt.out 3 (.int .i64 ((k : Int) + 1)) (by simp))
                        simp only [List.set_cons_succ, List.set_cons_zero] at HM9
                        have HM9 := Lib.hid HM9
                        clear f3 d3 HM8
                        generalize w8.setCell ⟨g, o + 3, none⟩ (.int .i64 ((k : Int) + 1)) = w9 at *
                        have l0 : w9.cell? ⟨H + 1 + 1, i, none⟩ = some (.int .i64 (s1.lo i)) := by
                          have := HM9.out.1.cellL htn
                          rw [show bump s1.lo i i = s1.lo i by simp [bump]] at this
                          exact this
                        have hH2 : H + 1 + 1 < w9.heap.size := HM9.out.1.lrow.lt
                        have hg9 := HM9.out.lt htn HVt.out
                        have d6 := HM9.out.cell htn HVt.out 6 (.int .i64 p.lo) rfl
                        have d4 := HM9.out.cell htn HVt.out 4 (.int .i64 0) rfl
                        have f4 := HM9.out.free htn HVt.out (o + 4)
                        have wa : IntKind.i64.wrap (s1.lo i - p.lo) = s1.lo i - p.lo := IntWalk.i64_in _ (by omega)
                        go_still_tail 13, (by kernel_rfl)
                        change wpList _ _ _ _ _ w9.drew
                        have HM10 := Lib.hid (HM9.out.below (w' := w9.drew) (Below.refl _ _).drew)
                        have f4 : w9.drew.frozen? ⟨g, o + 4, none⟩ = false := f4
                        have d4 : w9.drew.cell? ⟨g, o + 4, none⟩ = some (.int .i64 0) := d4
                        clear wa l0 d6 HM9
                        generalize w9.drew = w10 at *
                        go_upto_region 35 with fail
                        have HM11 := (HM10.out.set htn rfl HVt.out 4 (.int .i64 (s1.lo i - p.lo)) (by simp))
                        simp only [List.set_cons_succ, List.set_cons_zero] at HM11
                        clear f4 d4 HM10
                        generalize w10.setCell ⟨g, o + 4, none⟩ (.int .i64 (s1.lo i - p.lo)) = w11 at *
                        have a0 : w11.cell? ⟨g, o, none⟩ = some (.int .i64 i) := HM11.cell htn HVt.out 0 (.int .i64 i) rfl
                        have a1 := HM11.cell htn HVt.out 1 (.int .i64 p.rel) rfl
                        have a2 := HM11.cell htn HVt.out 2 (.int .i64 ST) rfl
                        have a3 := HM11.cell htn HVt.out 3 (.int .i64 ((k : Int) + 1)) rfl
                        have a4 := HM11.cell htn HVt.out 4 (.int .i64 (s1.lo i - p.lo)) rfl
                        have hJ : jobOf (k : Int) i s1 p = ⟨i, p.rel, ST, (k : Int) + 1, s1.lo i - p.lo⟩ := by rw [← HST.out]; rfl
                        obtain ⟨g2, o2, c2, w12, hrun, hcW, hfW, hcb, hcb2, hout⟩ := HM11.done (E := E) (now := (k : Int)) (p := p) hw rfl htn rfl HVt.out (by rw [HEC.out]; have := HLC.out; omega) (by omega)
                        rw [hJ] at hrun
                        rw [HVt.out] at hcW
                        have hlr : (s1.wt i).length = r.length + 1 := by rw [hw]; rfl
                        rw [hlr] at hcW
                        have hcW : w12.cell? ⟨H, i, none⟩ = _ := hcW
                        have hfW : w12.frozen? ⟨H, i, none⟩ = _ := hfW
                        have HOUT := Lib.hid hout
                        clear hout HM11
                        go_wp2_with (at_builtin; refine wpList_append_by rfl (.tmp 177) (.tmp 182) 51 rfl u13 (.slice (some ⟨w11.heap.size, 0, none⟩) 1 1) _ w12 rfl rfl hrun ?_)
                        go_roundw
                        case rel => exact ⟨k + 1, by go_num, by omega, by rw [HSTEP.out]; exact HOUT.out⟩
                        case measure => simp [intOf]; omega
      · have HUN := Lib.hid (show k = un by omega)
        have hlt' : ¬ (k : Int) < (un : Int) := by omega
        obtain ⟨⟨tg, V, hsm⟩, hbl, hbs⟩ := hout.out
        obtain ⟨ea, ec, rfl, e1, e2, e3⟩ := jobs_of_win hsm.ewin.1
        have HE3 := Lib.hid e3
        clear hsm hout e3
        go_wp2_with fail
        go_ret2
        refine ⟨hbl, .inr ⟨HCK.out, ea, ec, ?_, ?_, e2, ?_⟩⟩
        · rw [HEE.out, ← HUN.out]; rfl
        · rw [HEE.out, ← HUN.out]; exact e1
        · rw [HEE.out, ← HUN.out]; exact HE3.out
  · have HCK := Lib.hid hck
    have hq : (checkV l rs un != 0) = true := by simp [hck]
    clear hck
    go_enter Try.func32, Try.ntmps32
    go_wp2_with fail
    refine (check_any l a cap rs ra rcap un w hl hrl hrr hc hr).mono ?_
    rintro e w1 ⟨rfl, hb1⟩
    go_wp2_with fail
    go_ret2
    exact ⟨hb1, .inl ⟨HCK.out, rfl⟩⟩
end Go.Proofs.Ytkedcnemldjbeaa
