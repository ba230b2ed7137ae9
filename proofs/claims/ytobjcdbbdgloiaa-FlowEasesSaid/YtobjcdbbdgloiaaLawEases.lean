/- The walk over FlowEases. Conditions: the arguments lie in memory. -/
import Derived.Test.YtobjcdbbdgloiaaEases1
import Derived.Test.YtobjcdbbdgloiaaAwake47
namespace Go.Proofs.Ytobjcdbbdgloiaa
open Go.RowKit Go.Deep

theorem fjAt_set {l : List FJ} {i j : Nat} (x : FJ) (hi : i < l.length) : fjAt (l.set i x) j = if j = i then x else fjAt l j := by
  unfold fjAt
  by_cases e : j = i
  · subst e; rw [if_pos rfl, List.getD_eq_getElem?_getD, List.getElem?_set_self hi]; rfl
  · rw [if_neg e, List.getD_eq_getElem?_getD, List.getD_eq_getElem?_getD, List.getElem?_set_ne (fun h => e h.symm)]
theorem ease_ok {l : List FJ} {cores cores' r d c : Int} {i : Nat} {ok : Bool} (hl : jobsOK l cores = true) (hi : i < l.length) (hr : r ≤ (fjAt l i).r) (hd : (fjAt l i).d ≤ d) (hc : c ≤ (fjAt l i).c) (hcc : cores ≤ cores') (hcan : ok = true → Can l cores)
    (h : jobsOK (l.set i ⟨r, d, c⟩) cores' = true) (hk : ok = true) : Can (l.set i ⟨r, d, c⟩) cores' := by
  obtain ⟨_, h1, _, h2⟩ := jobsOK_bd hl
  obtain ⟨_, _, _, h3⟩ := jobsOK_bd h
  refine Can.ease (l := l) (by simp) (fun j hj => ?_) (by omega) hcc (hcan hk)
  have h4 := h3 j (by simpa using hj)
  rw [fjAt_set _ hi] at h4 ⊢
  have h5 := h2 j hj
  unfold jobOK at h4 h5
  by_cases e : j = i
  · subst e
    rw [if_pos rfl] at h4 ⊢
    exact ⟨hr, hd, h4.2.2.2.1, hc⟩
  · rw [if_neg e] at h4 ⊢
    exact ⟨Int.le_refl _, Int.le_refl _, h5.2.2.2.1, Int.le_refl _⟩
theorem SchedPost.ok {l : List FJ} {cores : Int} {w w' : World} {e : Ending} (hv : jobsOK l cores = true) (h : SchedPost l cores w e w') :
    Below w.heap.size w w' ∧ ∃ s1 n1 c1 ok, e = .returned (.tuple #[.slice s1 n1 c1, .bool ok, .int .i64 0]) ∧ (ok = true → Can l cores) := by
  obtain ⟨hb, ⟨h, _⟩ | ⟨_, _, rfl⟩ | ⟨_, σ, G, hs, rfl, _⟩⟩ := h
  · rw [hv] at h; cases h
  · exact ⟨hb, _, _, _, _, rfl, fun h => by cases h⟩
  · exact ⟨hb, _, _, _, _, rfl, fun _ => ⟨σ, hs⟩⟩

theorem cell_new (w : World) (v : Value) (t : TypeId) : (w.alloc (.cells #[v] t)).cell? ⟨w.heap.size, 0, none⟩ = some v := by
  have h := Go.Deep.blk_alloc_new w (.cells #[v] t)
  simp only [World.cell?, h]; rfl

set_option maxRecDepth 100000 in
set_option maxHeartbeats 6400000 in
theorem law_eases (l : List FJ) (a : Option Addr) (cap : Nat) (cores : Int) (ki bi : Int) (w : World) (hl : l.length ≤ cap) (hcap : cap ≤ 9223372036854775807) (hc : FJobsAt w w.heap.size a l)
    (k0 : 0 ≤ ki) (k1 : ki ≤ 255) (b0 : 0 ≤ bi) (b1 : bi ≤ 255) :
    Calls Try.prog 9 #[.slice a l.length cap, .int .i64 cores, .int .u8 ki, .int .u8 bi] w fun e w' => e = .returned (.bool true) ∧ Below w.heap.size w w' := by
  have hlI : (l.length : Int) ≤ 9223372036854775807 := by omega
  have bA : Below w.heap.size w (w.alloc (.cells #[.slice a l.length cap] 35)) := (Below.refl _ _).alloc (Nat.le_refl _) _
  have sA : (w.alloc (.cells #[.slice a l.length cap] 35)).heap.size = w.heap.size + 1 := by simp
  have cA := cell_new w (.slice a l.length cap) 35
  have jA := hc.on bA (by omega)
  have lA : w.heap.size < (w.alloc (.cells #[.slice a l.length cap] 35)).heap.size := by omega
  go_enter Try.func9, Try.ntmps9
  go_upto_region 1 with fail
  generalize w.alloc (.cells #[.slice a l.length cap] 35) = wA at *
  go_wp2_with fail
  refine (awake47_any _).mono ?_
  rintro e w1 ⟨rfl, hb1⟩
  have s1 := hb1.size
  have c1 := keep_cellN hb1 lA cA
  have b1' := bA.trans (hb1.mono (by omega))
  have j1 := jA.on hb1 s1
  have LV := Lib.hid (lvalid_any l a cap cores w1 (by omega) j1)
  go_wp2_with fail
  refine LV.out.mono ?_
  rintro e w2 ⟨rfl, hb2⟩
  have s2 := hb2.size
  have c2 := keep_cellN hb2 (show w.heap.size < _ by omega) c1
  have b2 := b1'.trans (hb2.mono (by omega))
  have j2 := j1.on hb2 s2
  clear LV hb2 hb1 b1' j1 c1 jA bA hc cA
  have AW := Lib.hid (awake47_any w2)
  have l2 : w.heap.size < w2.heap.size := by omega
  have s02 : w.heap.size ≤ w2.heap.size := by omega
  clear s1 s2 sA lA
  cases hv : jobsOK l cores
  · go_wp2_with fail
    refine AW.out.mono ?_
    rintro e w3 ⟨rfl, hb3⟩
    go_wp2_with fail
    go_ret
    exact ⟨rfl, b2.trans (hb3.mono s02)⟩
  · by_cases h0 : l.length = 0
    · have h0' : (l.length : Int) = 0 := by omega
      go_wp2_with fail
      refine AW.out.mono ?_
      rintro e w3 ⟨rfl, hb3⟩
      go_wp2_with fail
      go_ret
      exact ⟨rfl, b2.trans (hb3.mono s02)⟩
    · have h0' : ¬ (l.length : Int) = 0 := by omega
      by_cases h14 : l.length ≤ 14
      · have h14' : (l.length : Int) ≤ 14 := by omega
        have hz0 : ((l.length : Int) == 0) = false := beq_eq_false_iff_ne.2 h0'
        have SC := Lib.hid (schedule_any l a cap cores w2 (by omega) j2)
        have HV := Lib.hid hv
        obtain ⟨_, co1, co4, _⟩ := jobsOK_bd hv
        clear hv
        obtain ⟨k, rfl⟩ := Int.eq_ofNat_of_zero_le k0
        obtain ⟨y, rfl⟩ := Int.eq_ofNat_of_zero_le b0
        have wk : IntKind.i64.wrap (k : Int) = (k : Int) := IntWalk.i64_in _ (by omega)
        have wy : IntKind.i64.wrap (y : Int) = (y : Int) := IntWalk.i64_in _ (by omega)
        have hi := Nat.mod_lt k (show 0 < l.length by omega)
        obtain ⟨i, hii⟩ : ∃ i, k % l.length = i := ⟨_, rfl⟩
        have ei1 : (k : Int) % (l.length : Int) = (i : Int) := by rw [← hii]; rfl
        have ei2 : (k : Int).tmod (l.length : Int) = (i : Int) := by rw [Int.tmod_eq_emod_of_nonneg (by omega)]; exact ei1
        rw [hii] at hi
        obtain ⟨q, hq⟩ : ∃ q, y % 9 = q := ⟨_, rfl⟩
        have eq1 : (y : Int) % 9 = (q : Int) := by rw [← hq]; rfl
        have eq2 : (y : Int).tmod 9 = (q : Int) := by rw [Int.tmod_eq_emod_of_nonneg (by omega)]; exact eq1
        have q9 : q < 9 := by omega
        clear hii hq
        have hiI : (i : Int) < (l.length : Int) := by omega
        have hi0 : (0 : Int) ≤ (i : Int) := by omega
        have q0I : (0 : Int) ≤ (q : Int) := by omega
        have q9I : (q : Int) < 9 := by omega
        obtain ⟨bb, off, rfl, hbb, hcell⟩ := j2 (List.length_pos_iff.1 (by omega))
        obtain ⟨x0, x1, x2⟩ := hcell i _ (fjAt_get hi)
        obtain ⟨jo0, jo1, jo2, jo3, jo4⟩ := (jobsOK_bd HV.out).2.2.2 i hi
        have EO := Lib.hid (fun (ok : Bool) (r d c cores' : Int) h1 h2 h3 h4 (h5 : ok = true → Can l cores) => ease_ok (r := r) (d := d) (c := c) (cores' := cores') HV.out hi h1 h2 h3 h4 h5)
        clear hcell
        generalize fjAt l i = jj at *
        obtain ⟨jr, jd, jc⟩ := jj
        simp only at x0 x1 x2 jo0 jo1 jo2 jo3 jo4
        go_upto_region 3 with fail
        go_upto_region 6 with ((go_at_call 17; refine SC.out.mono ?_; rintro e w3 hpost; obtain ⟨hb3, sl, n1, cc1, ok, rfl, hok⟩ := hpost.ok HV.out; have c3 := keep_cellN hb3 l2 c2; have x0 := keep_cellN hb3 hbb x0; have x1 := keep_cellN hb3 hbb x1; have x2 := keep_cellN hb3 hbb x2))
        have s3 := hb3.size
        have j3 := j2.on hb3 s3
        have b03 := b2.trans (hb3.mono s02)
        have hbb3 : bb < w3.heap.size := by omega
        have l3 : w.heap.size < w3.heap.size := by omega
        clear SC hpost hb3 b2 j2 c2 AW l2 s02
        have f0 := cell_new w3 (.bool ok) 4
        have f1 := cell_new (w3.alloc (.cells #[.bool ok] 4)) (.int .i64 i) 3
        have bb1 : Below w3.heap.size w3 (w3.alloc (.cells #[.bool ok] 4)) := (Below.refl _ _).alloc (Nat.le_refl _) _
        have bb2 : Below w3.heap.size w3 ((w3.alloc (.cells #[.bool ok] 4)).alloc (.cells #[.int .i64 i] 3)) := bb1.alloc (by simp) _
        have bb3 : Below w3.heap.size w3 (((w3.alloc (.cells #[.bool ok] 4)).alloc (.cells #[.int .i64 i] 3)).alloc (.cells #[.int .i64 jr, .int .i64 jd, .int .i64 jc] 44)) := bb2.alloc (by simp only [World.alloc, Array.size_push]; omega) _
        have f2 := blk3 (Go.Deep.blk_alloc_new ((w3.alloc (.cells #[.bool ok] 4)).alloc (.cells #[.int .i64 i] 3)) (.cells #[.int .i64 jr, .int .i64 jd, .int .i64 jc] 44))
        have g0 : (((w3.alloc (.cells #[.bool ok] 4)).alloc (.cells #[.int .i64 i] 3)).alloc (.cells #[.int .i64 jr, .int .i64 jd, .int .i64 jc] 44)).cell? ⟨w3.heap.size, 0, none⟩ = some (.bool ok) := keep_cellN (((Below.refl (w3.heap.size + 1) _).alloc (by simp) _).alloc (by simp) _) (by omega) f0
        have g1 : (((w3.alloc (.cells #[.bool ok] 4)).alloc (.cells #[.int .i64 i] 3)).alloc (.cells #[.int .i64 jr, .int .i64 jd, .int .i64 jc] 44)).cell? ⟨w3.heap.size + 1, 0, none⟩ = some (.int .i64 i) := keep_cellN ((Below.refl (w3.heap.size + 1 + 1) _).alloc (by simp) _) (by omega) (by simp)
        obtain ⟨g2, g3, g4⟩ := f2
        have hsz : ((w3.alloc (.cells #[.bool ok] 4)).alloc (.cells #[.int .i64 i] 3)).heap.size = w3.heap.size + 1 + 1 := by simp
        rw [hsz] at g2 g3 g4
        have sz4 : (((w3.alloc (.cells #[.bool ok] 4)).alloc (.cells #[.int .i64 i] 3)).alloc (.cells #[.int .i64 jr, .int .i64 jd, .int .i64 jc] 44)).heap.size = w3.heap.size + 1 + 1 + 1 := by simp
        have c4 := keep_cellN bb3 l3 c3
        have j4 := j3.on bb3 (by omega)
        have b4 := b03.trans (bb3.mono (by omega))
        go_upto_region 9 with fail
        clear f0 f1 bb1 bb2 bb3 hsz x0 x1 x2 c3 j3 b03
        generalize hw4 : (((w3.alloc (.cells #[.bool ok] 4)).alloc (.cells #[.int .i64 i] 3)).alloc (.cells #[.int .i64 jr, .int .i64 jd, .int .i64 jc] 44)) = w4 at *
        clear hw4
        generalize w3.heap.size = H at *
        have EASE := Lib.hid (fun W (hb : Below w4.heap.size w4 W) r d c cores' hok => ease_any l (some ⟨bb, off, none⟩) cap i w.heap.size (H + 1) H ok r d c cores' W h14 hi (j4.on hb hb.size) (keep_cellN hb (by omega) c4) (keep_cellN hb (by omega) g1) (keep_cellN hb (by omega) g0) (by have := hb.size; omega) (by have := hb.size; omega) (by have := hb.size; omega) hok)
        have B4 := Lib.hid b4
        have HOK := Lib.hid hok
        clear j4 c4 g0 g1 hok hi h14 b4
        go_wp2_with fail
        refine (EASE.out _ (Below.refl _ _) _ _ _ _ (EO.out ok _ _ _ _ (by omega) (by omega) (by omega) (by omega) HOK.out)).mono ?_
        rintro e w5 ⟨rfl, hb5⟩
        have g25 := keep_cellN hb5 (show H + 1 + 1 < _ by omega) g2
        have g35 := keep_cellN hb5 (show H + 1 + 1 < _ by omega) g3
        have g45 := keep_cellN hb5 (show H + 1 + 1 < _ by omega) g4
        go_wp2_with fail
        refine (EASE.out _ hb5 _ _ _ _ (EO.out ok _ _ _ _ (by omega) (by omega) (by omega) (by omega) HOK.out)).mono ?_
        rintro e w6 ⟨rfl, hb6⟩
        have hb6 := hb5.trans (hb6.mono hb5.size)
        have g26 := keep_cellN hb6 (show H + 1 + 1 < _ by omega) g2
        have g36 := keep_cellN hb6 (show H + 1 + 1 < _ by omega) g3
        have g46 := keep_cellN hb6 (show H + 1 + 1 < _ by omega) g4
        go_wp2_with fail
        refine (EASE.out _ hb6 _ _ _ _ (EO.out ok _ _ _ _ (by omega) (by omega) (by omega) (by omega) HOK.out)).mono ?_
        rintro e w7 ⟨rfl, hb7⟩
        have hb7 := hb6.trans (hb7.mono hb6.size)
        have g27 := keep_cellN hb7 (show H + 1 + 1 < _ by omega) g2
        have g37 := keep_cellN hb7 (show H + 1 + 1 < _ by omega) g3
        have g47 := keep_cellN hb7 (show H + 1 + 1 < _ by omega) g4
        go_wp2_with fail
        refine (EASE.out _ hb7 _ _ _ _ (EO.out ok _ _ _ _ (by omega) (by omega) (by omega) (by omega) HOK.out)).mono ?_
        rintro e w8 ⟨rfl, hb8⟩
        have hb8 := hb7.trans (hb8.mono hb7.size)
        go_wp2_with fail
        go_ret
        exact ⟨rfl, B4.out.trans (hb8.mono (by omega))⟩
      · have h14' : ¬ (l.length : Int) ≤ 14 := by omega
        go_wp2_with fail
        refine AW.out.mono ?_
        rintro e w3 ⟨rfl, hb3⟩
        go_wp2_with fail
        go_ret
        exact ⟨rfl, b2.trans (hb3.mono s02)⟩
end Go.Proofs.Ytobjcdbbdgloiaa
