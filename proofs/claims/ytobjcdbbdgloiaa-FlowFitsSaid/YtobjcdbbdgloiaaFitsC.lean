/- The walk over the reference's choose. Conditions: few valid jobs lie in memory. -/
import Derived.Test.YtobjcdbbdgloiaaFitsW
namespace Go.Proofs.Ytobjcdbbdgloiaa
open Go.RowKit Go.Deep

set_option maxRecDepth 100000 in
set_option maxHeartbeats 6400000 in
theorem choose_step {cores : Int} {n slot til frm : Nat} (hc0 : 0 ≤ cores) (hc4 : cores ≤ 4) (hn : n ≤ 4) (ht : til ≤ 6) (hs : slot < til) (hf : frm < n) (hch : ChooseC cores n slot til (frm + 1)) : ChooseC cores n slot til frm := by
  intro l a cap free w hln hjob hf0 hf1 hc
  subst hln
  have hlI : (l.length : Int) ≤ 4 := by omega
  have hsI : (slot : Int) < 6 := by omega
  have hfI : (frm : Int) < (l.length : Int) := by omega
  have hfI0 : (0 : Int) ≤ (frm : Int) := by omega
  have hne : ((frm : Int) == (l.length : Int)) = false := beq_eq_false_iff_ne.2 (by omega)
  have hne2 : (frm == l.length) = false := beq_eq_false_iff_ne.2 (by omega)
  have hne3 : ¬ frm = l.length := by omega
  obtain ⟨b, off, rfl, hbN, hcell⟩ := hc (List.length_pos_iff.1 (by omega))
  obtain ⟨c0, c1, c2⟩ := hcell frm _ (fjAt_get hf)
  have HCH := Lib.hid (fun l2 a cap free W h1 h2 h3 h4 h5 => hch l2 a cap free W h1 h2 h3 h4 h5)
  have HJ := Lib.hid hjob
  have HC := Lib.hid hc
  have PARTS := Lib.hid (CanG.parts (cores := cores) (free := free) (slot := slot) (til := til) hf)
  have SKIP := Lib.hid (CanG.skip (l := l) (cores := cores) (free := free) (slot := slot) (til := til) (frm := frm))
  have TAKE := Lib.hid (CanG.take (cores := cores) (free := free) (til := til) hf hs)
  have DOK := Lib.hid (decJ_ok hjob hf)
  have DEC := Lib.hid (fun (W : World) (g o cp : Nat) (h : Win W 46 3 (.slice (some ⟨g, o, none⟩) l.length cp) l.length (l.flatMap encJ)) => h.dec hf)
  have hwin : winB l frm slot = decide ((fjAt l frm).r ≤ slot ∧ (slot : Int) < (fjAt l frm).d) := rfl
  have HWIN := Lib.hid hwin
  obtain ⟨jo0, jo1, jo2, jo3, jo4⟩ := hjob frm hf
  clear hjob hc hcell hch hwin
  generalize fjAt l frm = j at *
  obtain ⟨jr, jd, jc⟩ := j
  simp only at c0 c1 c2 jo0 jo1 jo2 jo3 jo4 PARTS TAKE DOK DEC HWIN
  have HNUM := Lib.hid (show ((frm : Int) + 1) = ((frm + 1 : Nat) : Int) by omega)
  go_enter Try.func34, Try.ntmps34
  go_upto_region 4 with fail
  have bj : Below w.heap.size w (w.alloc (.cells #[.int .i64 jr, .int .i64 jd, .int .i64 jc] 46)) := (Below.refl _ _).alloc (Nat.le_refl _) _
  have sj : (w.alloc (.cells #[.int .i64 jr, .int .i64 jd, .int .i64 jc] 46)).heap.size = w.heap.size + 1 := by simp
  obtain ⟨q0, q1, q2⟩ := blk3 (Go.Deep.blk_alloc_new w (.cells #[.int .i64 jr, .int .i64 jd, .int .i64 jc] 46))
  generalize w.alloc (.cells #[.int .i64 jr, .int .i64 jd, .int .i64 jc] 46) = wj at *
  clear c0 c1 c2
  have SKC := Lib.hid (fun (W : World) (hb : Below w.heap.size w W) (hs : w.heap.size ≤ W.heap.size) => show Calls Try.prog 34 #[.slice (some ⟨b, off, none⟩) l.length cap, .int .i64 cores, .int .i64 slot, .int .i64 til, .int .i64 ((frm : Int) + 1), .int .i64 free] W (BP (CanG l cores free slot til (frm + 1)) W) from by
    rw [HNUM.out]
    exact HCH.out l _ cap free W rfl HJ.out hf0 hf1 (HC.out.on hb hs))
  by_cases k1 : 0 < free
  · by_cases k2 : 0 < jc
    · by_cases k3 : jr ≤ slot
      · by_cases k4 : (slot : Int) < jd
        · have hw : winB l frm slot = true := by rw [HWIN.out, decide_eq_true_eq]; exact ⟨k3, k4⟩
          have TK := Lib.hid (TAKE.out hw)
          obtain ⟨v1, w1, r1, win1, b1, own1⟩ := copy_rjobs (cap := cap) (HC.out.on bj (by omega)) (by omega) ((Below.refl _ _).alloc (Nat.le_refl _) _) (Nat.le_refl _) (Win.lit wj 46 3)
          have s1 := b1.size
          rw [sj] at r1
          have bw : Below w.heap.size w w1 := bj.trans (b1.mono (by omega))
          have q0' := keep_cellN b1 (show w.heap.size < _ by omega) q0
          have q1' := keep_cellN b1 (show w.heap.size < _ by omega) q1
          have q2' := keep_cellN b1 (show w.heap.size < _ by omega) q2
          obtain ⟨g, o, cc, rfl, hg, hcc, hcc2⟩ := win1.form (by omega)
          have hgo := own1 g (by simp [Value.ownBlock])
          have fr0 := win1.frozen
          obtain ⟨g', o', e, _, hcell⟩ := win1.jobs hg (List.length_pos_iff.1 (by omega))
          obtain ⟨rfl, rfl⟩ : g = g' ∧ o = o' := by cases e; exact ⟨rfl, rfl⟩
          obtain ⟨_, _, m2⟩ := hcell frm _ (fjAt_get hf)
          have hset := DEC.out w1 g o cc win1
          have bset : Below w.heap.size w (w1.setCell ⟨g, o + frm * 3 + 2, none⟩ (.int .i64 (jc - 1))) := bw.setCell (by show w.heap.size ≤ g; omega) _
          have e3 : (w1.setCell ⟨g, o + frm * 3 + 2, none⟩ (.int .i64 (jc - 1))).heap.size = w1.heap.size := by simp
          have CH := HCH.out (decJ l frm) (some ⟨g, o, none⟩) cc (free - 1) _ (decJ_len l frm) (DOK.out k2) (by omega) (by omega) (hset.jobs (by omega))
          rw [← HNUM.out, decJ_len] at CH
          have CH := Lib.hid CH
          clear hcell e win1 own1 hset hcc2 b1
          go_upto_region 6 with (at_builtin; refine wpList_append_by rfl (.tmp 48) (.tmp 49) 47 rfl (.slice (some ⟨w.heap.size + 1, 0, none⟩) 0 0) (.slice (some ⟨b, off, none⟩) l.length cap) _ w1 rfl rfl r1 ?_)
          clear r1
          go_upto_region 7 with fail
          generalize w1.setCell ⟨g, o + frm * 3 + 2, none⟩ (.int .i64 (jc - 1)) = w2 at *
          go_wp2_with fail
          refine CH.out.mono ?_
          rintro e w3 ⟨bq, rfl, hb, hbl⟩
          have hb3 := bset.trans (hbl.mono (by omega))
          have s3 := hbl.size
          cases bq
          · have HN := Lib.hid (show ¬ (0 < free ∧ 0 < jc ∧ winB l frm slot = true ∧ slot < til ∧ CanG (decJ l frm) cores (free - 1) slot til (frm + 1)) from fun h => absurd (hb.2 h.2.2.2.2) (by simp))
            clear hb
            go_wp2_with fail
            refine (SKC.out _ hb3 (by omega)).mono ?_
            rintro e w4 ⟨bq, rfl, hb, hbl2⟩
            have HB := Lib.hid (hb.trans ⟨SKIP.out, fun h => (PARTS.out h).resolve_left HN.out⟩)
            clear hb
            go_wp2_with fail
            go_ret
            exact ⟨bq, rfl, HB.out, hb3.trans (hbl2.mono (by omega))⟩
          · have HB := Lib.hid (TK.out (hb.1 rfl))
            clear hb
            go_wp2_with fail
            go_ret
            exact ⟨true, rfl, ⟨fun _ => HB.out, fun _ => rfl⟩, hb3⟩
        · skip
          have HN := Lib.hid (show ¬ (0 < free ∧ 0 < jc ∧ winB l frm slot = true ∧ slot < til ∧ CanG (decJ l frm) cores (free - 1) slot til (frm + 1)) from fun h => by
            have h3 := h.2.2.1
            rw [HWIN.out, decide_eq_true_eq] at h3
            omega)
          go_wp2_with fail
          refine (SKC.out _ bj (by omega)).mono ?_
          rintro e w2 ⟨bq, rfl, hb, hbl⟩
          have HB := Lib.hid (hb.trans ⟨SKIP.out, fun h => (PARTS.out h).resolve_left HN.out⟩)
          clear hb
          go_wp2_with fail
          go_ret
          exact ⟨bq, rfl, HB.out, bj.trans (hbl.mono (by omega))⟩
      · skip
        have HN := Lib.hid (show ¬ (0 < free ∧ 0 < jc ∧ winB l frm slot = true ∧ slot < til ∧ CanG (decJ l frm) cores (free - 1) slot til (frm + 1)) from fun h => by
          have h3 := h.2.2.1
          rw [HWIN.out, decide_eq_true_eq] at h3
          omega)
        go_wp2_with fail
        refine (SKC.out _ bj (by omega)).mono ?_
        rintro e w2 ⟨bq, rfl, hb, hbl⟩
        have HB := Lib.hid (hb.trans ⟨SKIP.out, fun h => (PARTS.out h).resolve_left HN.out⟩)
        clear hb
        go_wp2_with fail
        go_ret
        exact ⟨bq, rfl, HB.out, bj.trans (hbl.mono (by omega))⟩
    · skip
      have HN := Lib.hid (show ¬ (0 < free ∧ 0 < jc ∧ winB l frm slot = true ∧ slot < til ∧ CanG (decJ l frm) cores (free - 1) slot til (frm + 1)) from fun h => by
        have h3 := h.2.2.1
        rw [HWIN.out, decide_eq_true_eq] at h3
        omega)
      go_wp2_with fail
      refine (SKC.out _ bj (by omega)).mono ?_
      rintro e w2 ⟨bq, rfl, hb, hbl⟩
      have HB := Lib.hid (hb.trans ⟨SKIP.out, fun h => (PARTS.out h).resolve_left HN.out⟩)
      clear hb
      go_wp2_with fail
      go_ret
      exact ⟨bq, rfl, HB.out, bj.trans (hbl.mono (by omega))⟩
  · skip
    have HN := Lib.hid (show ¬ (0 < free ∧ 0 < jc ∧ winB l frm slot = true ∧ slot < til ∧ CanG (decJ l frm) cores (free - 1) slot til (frm + 1)) from fun h => by
      have h3 := h.2.2.1
      rw [HWIN.out, decide_eq_true_eq] at h3
      omega)
    go_wp2_with fail
    refine (SKC.out _ bj (by omega)).mono ?_
    rintro e w2 ⟨bq, rfl, hb, hbl⟩
    have HB := Lib.hid (hb.trans ⟨SKIP.out, fun h => (PARTS.out h).resolve_left HN.out⟩)
    clear hb
    go_wp2_with fail
    go_ret
    exact ⟨bq, rfl, HB.out, bj.trans (hbl.mono (by omega))⟩
end Go.Proofs.Ytobjcdbbdgloiaa
