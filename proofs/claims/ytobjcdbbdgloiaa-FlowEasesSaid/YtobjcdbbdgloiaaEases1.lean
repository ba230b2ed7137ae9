/- The walk over FlowEases$1. Conditions: the jobs and the captured variables lie in memory. -/
import Derived.Test.YtobjcdbbdgloiaaJobsCopy
namespace Go.Proofs.Ytobjcdbbdgloiaa
open Go.RowKit Go.Deep

theorem jobsOK_any_size {l : List FJ} (cores : Int) (h : 100 < l.length) : jobsOK l cores = false := jobsOK_size (by omega)
set_option maxRecDepth 100000 in
set_option maxHeartbeats 6400000 in
theorem ease_any (l : List FJ) (a : Option Addr) (cap : Nat) (i pl pi po : Nat) (ok : Bool) (r d c cores : Int) (w : World) (hl : l.length ≤ 14) (hi : i < l.length) (hc : FJobsAt w w.heap.size a l)
    (h1 : w.cell? ⟨pl, 0, none⟩ = some (.slice a l.length cap)) (h2 : w.cell? ⟨pi, 0, none⟩ = some (.int .i64 i)) (h3 : w.cell? ⟨po, 0, none⟩ = some (.bool ok)) (l1 : pl < w.heap.size) (l2 : pi < w.heap.size) (l3 : po < w.heap.size)
    (hok : jobsOK (l.set i ⟨r, d, c⟩) cores = true → ok = true → Can (l.set i ⟨r, d, c⟩) cores) :
    Calls Try.prog 23 #[.agg #[.int .i64 r, .int .i64 d, .int .i64 c], .int .i64 cores, .pointer (some ⟨pl, 0, none⟩), .pointer (some ⟨pi, 0, none⟩), .pointer (some ⟨po, 0, none⟩)] w fun e w' => e = .returned (.bool true) ∧ Below w.heap.size w w' := by
  have hlI : (l.length : Int) ≤ 14 := by omega
  have i0 : (0 : Int) ≤ (i : Int) := by omega
  have i1 : (i : Int) < (l.length : Int) := by omega
  have HOK := Lib.hid hok
  clear hok
  have bj : Below w.heap.size w (w.alloc (.cells #[.int .i64 r, .int .i64 d, .int .i64 c] 44)) := (Below.refl _ _).alloc (Nat.le_refl _) _
  have sj : (w.alloc (.cells #[.int .i64 r, .int .i64 d, .int .i64 c] 44)).heap.size = w.heap.size + 1 := by simp
  have jc := Go.Deep.blk_alloc_new w (.cells #[.int .i64 r, .int .i64 d, .int .i64 c] 44)
  obtain ⟨v1, w1, r1, win1, b1, own1⟩ := copy_jobs (cap := cap) (hc.on bj (by omega)) (by omega) ((Below.refl _ _).alloc (Nat.le_refl _) _) (Nat.le_refl _) (Win.lit (w.alloc (.cells #[.int .i64 r, .int .i64 d, .int .i64 c] 44)) 44 3)
  have s1 := b1.size
  have bw : Below w.heap.size w w1 := bj.trans (b1.mono (by omega))
  have h1' := keep_cellN bw l1 h1
  have h2' := keep_cellN bw l2 h2
  have h3' := keep_cellN bw l3 h3
  obtain ⟨q0, q1, q2⟩ := blk3 jc
  have q0 := keep_cellN b1 (show w.heap.size < _ by omega) q0
  have q1 := keep_cellN b1 (show w.heap.size < _ by omega) q1
  have q2 := keep_cellN b1 (show w.heap.size < _ by omega) q2
  obtain ⟨g, o, cc, rfl, hg, hcc, hcc2⟩ := win1.form (by omega)
  have hgo := own1 g (by simp [Value.ownBlock])
  rw [sj] at r1 s1 hgo
  have fr0 := win1.frozen
  have jw := win1.jobs hg
  obtain ⟨g', o', e, _, hcell⟩ := jw (List.length_pos_iff.1 (by omega))
  obtain ⟨rfl, rfl⟩ : g = g' ∧ o = o' := by cases e; exact ⟨rfl, rfl⟩
  obtain ⟨m0, m1, m2⟩ := hcell i _ (fjAt_get hi)
  have hset := win1.setJob hi ⟨r, d, c⟩
  have bset : Below w.heap.size w (((w1.setCell ⟨g, o + i * 3, none⟩ (.int .i64 r)).setCell ⟨g, o + i * 3 + 1, none⟩ (.int .i64 d)).setCell ⟨g, o + i * 3 + 2, none⟩ (.int .i64 c)) := ((bw.setCell (by show w.heap.size ≤ g; omega) _).setCell (by show w.heap.size ≤ g; omega) _).setCell (by show w.heap.size ≤ g; omega) _
  have e3 : ((((w1.setCell ⟨g, o + i * 3, none⟩ (.int .i64 r)).setCell ⟨g, o + i * 3 + 1, none⟩ (.int .i64 d)).setCell ⟨g, o + i * 3 + 2, none⟩ (.int .i64 c))).heap.size = w1.heap.size := by simp
  have z3 := keep_cellN bset l3 h3
  have bl : (l.set i ⟨r, d, c⟩).length = l.length := by simp
  clear hcell jw e sj hcc2
  go_enter Try.func23, Try.ntmps23
  go_upto_region 1 with fail
  clear jc own1 b1 bj hc
  go_upto_region 2 with (at_builtin; refine wpList_append_by rfl (.tmp 12) (.tmp 13) 35 rfl (.slice (some ⟨w.heap.size + 1, 0, none⟩) 0 0) (.slice a l.length cap) _ w1 rfl rfl r1 ?_)
  clear r1
  go_upto_region 3 with fail
  generalize ((w1.setCell ⟨g, o + i * 3, none⟩ (.int .i64 r)).setCell ⟨g, o + i * 3 + 1, none⟩ (.int .i64 d)).setCell ⟨g, o + i * 3 + 2, none⟩ (.int .i64 c) = w2 at *
  have jw2 := hset
  rw [← bl] at jw2
  have hset2 : Win w2 44 3 (.slice (some ⟨g, o, none⟩) (l.set i ⟨r, d, c⟩).length cc) (l.set i ⟨r, d, c⟩).length ((l.set i ⟨r, d, c⟩).flatMap encJ) := jw2
  have fj2 := hset2.jobs (by omega)
  have LV := Lib.hid (lvalid_any (l.set i ⟨r, d, c⟩) (some ⟨g, o, none⟩) cc cores w2 (by omega) fj2)
  have SC := Lib.hid (fun W (h : FJobsAt W W.heap.size (some ⟨g, o, none⟩) (l.set i ⟨r, d, c⟩)) => schedule_any (l.set i ⟨r, d, c⟩) (some ⟨g, o, none⟩) cc cores W (by omega) h)
  have FJ2 := Lib.hid fj2
  clear jw2 hset hset2 fj2 win1 m0 m1 m2 q0 q1 q2 h1 h2 h1' h2' h3' fr0 bw
  generalize l.set i ⟨r, d, c⟩ = ls at *
  rw [bl] at LV SC
  go_wp2_with fail
  refine LV.out.mono ?_
  rintro e w3 ⟨rfl, hb3⟩
  have b3 := bset.trans (hb3.mono (by omega))
  have s3 := hb3.size
  cases hv : jobsOK ls cores
  · go_wp2_with fail
    go_ret
    exact ⟨rfl, b3⟩
  · have z3' := keep_cellN hb3 (show po < _ by omega) z3
    go_wp2_with fail
    refine (SC.out _ (FJ2.out.on hb3 s3)).mono ?_
    rintro e w4 ⟨hb4, ⟨h, _⟩ | ⟨h, hno, rfl⟩ | ⟨h, σ, G, hs, rfl, _⟩⟩
    · rw [hv] at h; cases h
    · have b4 := b3.trans (hb4.mono (by omega))
      have z4 := keep_cellN hb4 (show po < _ by omega) z3'
      obtain rfl : ok = false := by
        cases ok
        · rfl
        · exact absurd (HOK.out hv rfl) hno
      clear hno hv z3 z3' h3
      go_wp2_with fail
      go_ret
      exact ⟨rfl, b4⟩
    · have b4 := b3.trans (hb4.mono (by omega))
      clear hs hv
      go_wp2_with fail
      go_ret
      exact ⟨rfl, b4⟩
end Go.Proofs.Ytobjcdbbdgloiaa
