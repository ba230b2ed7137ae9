/- The walk over FlowLoad: it answers true. Conditions: the tasks lie in memory. -/
import Derived.Test.YtdjpkebajcpfbaaTFits
import Derived.Test.YtdjpkebajcpfbaaTDem
import Derived.Test.YtdjpkebajcpfbaaOverC
import Derived.Test.YtdjpkebajcpfbaaM35
import Derived.Test.YtdjpkebajcpfbaaLoadFit
import Derived.Test.YtdjpkebajcpfbaaAwake47
namespace Go.Proofs.Ytdjpkebajcpfbaa
open Go.RowKit Go.Deep

theorem perR_succ (p : Int) (k : Nat) : perR p (k + 1) = perR p k ++ [(k : Int) * p] := by simp [perR, List.range_succ]
theorem perR_len (p : Int) (k : Nat) : (perR p k).length = k := by simp [perR]
theorem perRows_of {l : List TT} {H : Nat} : perRows l H (rowsI l.length fun i => perR (tp l i : Nat) (H / tp l i)) := ⟨rowsI_len _ _, fun i hi => rowsI_at hi⟩
theorem per_small {l : List TT} {H : Nat} (hok : tsOK l = true) (hH : H ≤ 200) : small40 (rowsI l.length fun i => perR (tp l i : Nat) (H / tp l i)) := fun r hr => by
  obtain ⟨i, hi, rfl⟩ := List.mem_map.1 hr
  have hi : i < l.length := by simpa using hi
  obtain ⟨t1, t2, t3, _⟩ := tsOK_at hok hi
  have hq := Nat.div_le_self H (tp l i)
  refine ⟨by rw [perR_len]; omega, fun x hx => ?_⟩
  obtain ⟨k, hk, rfl⟩ := List.mem_map.1 hx
  have hk : k < H / tp l i := by simpa using hk
  have h1 : k * tp l i ≤ 200 * 1000 := Nat.mul_le_mul (by omega) t3
  have h2 : (k : Int) * (tp l i : Nat) = ((k * tp l i : Nat) : Int) := by rw [Int.natCast_mul]
  rw [h2]; omega
/-- What Schedule answers for such jobs. -/
theorem per_sched {l : List TT} {H : Nat} {z : Int} {w w' : World} {e : Ending} (hok : tsOK l = true) (hd : ∀ i, i < l.length → tp l i ∣ H) (hH : 0 < H) (hH2 : H ≤ 200) (h1 : 1 ≤ z) (h4 : z ≤ 4) (hn : (perAll l H l.length).length ≤ 100)
    (h : SchedPost (perAll l H l.length) z w e w') : Below w.heap.size w w' ∧ ∃ a m c, e = .returned (.tuple #[.slice a m c, .bool (decide ((dem l H l.length : Int) ≤ z * H)), .int .i64 0]) := by
  obtain ⟨hb, h⟩ := h
  have hv := per_ok hok hd hH hH2 h1 h4 hn
  refine ⟨hb, ?_⟩
  rcases h with ⟨h, _⟩ | ⟨_, ⟨_, val, r, hs, hne⟩, rfl⟩ | ⟨_, σ, G, hσ, rfl, _⟩
  · rw [hv] at h; cases h
  · refine ⟨none, 0, 0, ?_⟩
    have hno : ¬ ((dem l H l.length : Int) ≤ z * H) := fun hf => by
      obtain ⟨⟨T, T1, T2, T3⟩, _⟩ := hs.cut (by unfold netN; omega) (by unfold netN; omega)
      have c1 := per_cut hok hH hd hf T T1 T2
      have c2 := net_le hs.res
      omega
    rw [decide_eq_false hno]
  · exact ⟨some ⟨G, 0, none⟩, _, _, by rw [decide_eq_true (per_can hd (by omega) ⟨σ, hσ⟩)]⟩

set_option maxRecDepth 100000 in
set_option maxHeartbeats 6400000 in
theorem law_fload (l : List TT) (a : Option Addr) (cap : Nat) (z : Int) (w : World) (hl : l.length ≤ cap) (hcap : cap ≤ 9223372036854775807) (hc : TSAt w w.heap.size a l) (hz : -9223372036854775808 ≤ z ∧ z ≤ 9223372036854775807) :
    Calls Try.prog 11 #[.slice a l.length cap, .int .i64 z] w fun e w' => e = .returned (.bool true) ∧ Below w.heap.size w w' := by
  have hll : l.length ≤ 9223372036854775807 := by omega
  have hlI : (l.length : Int) ≤ 9223372036854775807 := by omega
  have HC := Lib.hid hc
  clear hc
  go_enter Try.func11, Try.ntmps11
  go_wp2_with fail
  refine (awake47_any _).mono ?_
  rintro e w1 ⟨rfl, hb1⟩
  have s1 := hb1.size
  have AW := Lib.hid (awake47_any w1)
  have TV := Lib.hid (tvalid_any l a cap w1 hll (HC.out.on hb1 s1))
  by_cases h8 : l.length ≤ 8
  · have h8I : ¬ (8 : Int) < (l.length : Int) := by omega
    by_cases z1 : 1 ≤ z
    · have z1I : ¬ z < 1 := by omega
      by_cases z4 : z ≤ 4
      · have z4I : ¬ 4 < z := by omega
        go_wp2_with fail
        refine TV.out.mono ?_
        rintro e w2 ⟨rfl, hb2⟩
        have b2 := hb1.trans (hb2.mono s1)
        have s2 := b2.size
        have AW2 := Lib.hid (awake47_any w2)
        clear AW TV
        by_cases hok : tsOK l = true
        · rw [hok]
          have HH := Lib.hid (hyper_any l a cap w2 hll (HC.out.on b2 s2))
          clear AW2
          go_wp2_with fail
          refine HH.out.mono ?_
          rintro e w3 ⟨rfl, hb3⟩
          have b3 := b2.trans (hb3.mono s2)
          have s3 := b3.size
          clear HH hb1 hb2 hb3 b2
          simp only []
          by_cases h0 : (hypR l).2 = 0
          · obtain ⟨_, hle, he⟩ := hypR_ok h0
            have hpos := hyp_pos hok l.length (Nat.le_refl _)
            have HD := Lib.hid (fun i (hi : i < l.length) => hyp_dvd hle l.length (Nat.le_refl _) hi)
            have HOC := Lib.hid (over_cases (z := z) h0)
            rw [he]
            have HOK := Lib.hid hok
            have HLE := Lib.hid hle
            clear hok hle he h0
            generalize hyp l l.length = H at *
            by_cases h60 : H ≤ 60
            · have h60I : ¬ (60 : Int) < (H : Int) := by omega
              go_wp2_with fail
              have bw3 := Below.refl w3.heap.size w3
              go_loopw [53, 7] (fun u v wr => ∃ i : Nat, u = .int .i64 i ∧ i ≤ l.length ∧ Hid (RowsW w3.heap.size wr v (rowsI i (fun i => perR (tp l i : Nat) (H / tp l i)))) ∧ Below w3.heap.size w3 wr) (fun u _ _ => l.length - (intOf u).toNat)
              case atStart => exact ⟨0, rfl, by omega, Lib.hid (RowsW.nil _ _), bw3⟩
              case round =>
                clear bw3
                obtain ⟨i, rfl, hi, hrw, hbl⟩ := hrel
                have hbw := b3.trans (hbl.mono b3.size)
                generalize wr = w4 at *
                by_cases h0 : i < l.length
                · have h0I : (i : Int) < (l.length : Int) := by omega
                  obtain ⟨tb, to', rfl, htN, tcell⟩ := HC.out (by intro e; simp [e] at h0)
                  obtain ⟨l0, l1, l2⟩ := tcell i _ (ttAt_get h0)
                  obtain ⟨t1, t2, t3, t4, t5⟩ := tsOK_at HOK.out h0
                  rw [t4] at l1
                  rw [t5] at l2
                  have l0 := keep_cellN hbw htN l0
                  have l1 := keep_cellN hbw htN l1
                  have l2 := keep_cellN hbw htN l2
                  have htr : tb < w4.heap.size := by have := hbw.size; omega
                  have HRW := Lib.hid (show rowsI (i + 1) (fun i => perR (tp l i : Nat) (H / tp l i)) = rowsI i (fun i => perR (tp l i : Nat) (H / tp l i)) ++ [perR (tp l i : Nat) (H / tp l i)] from by
                    unfold rowsI
                    rw [List.range_succ, List.map_append]; rfl)
                  have hrlen : (rowsI i (fun i => perR (tp l i : Nat) (H / tp l i))).length ≤ 1000000 := by rw [rowsI_len]; omega
                  have HDI := Lib.hid (HD.out i h0)
                  clear tcell t4 t5
                  generalize rowsI i (fun i => perR (tp l i : Nat) (H / tp l i)) = R at *
                  generalize tc l i = cc at *
                  generalize (ttAt l i).nm = nm at *
                  generalize tp l i = P at *
                  go_upto_region 10 with fail
                  have J0 := Go.Deep.blk_alloc_new w4 (.cells #[.string nm, .int .i64 cc, .int .i64 P] 37)
                  have bA := (Below.refl w4.heap.size w4).alloc (Nat.le_refl _) (.cells #[.string nm, .int .i64 cc, .int .i64 P] 37)
                  have hsA : w4.heap.size < (w4.alloc (.cells #[.string nm, .int .i64 cc, .int .i64 P] 37)).heap.size := by simp
                  have hrw5 := Lib.hid (hrw.out.below bA)
                  have b5 := hbl.trans (bA.mono hbl.size)
                  clear hrw bA l0 l1 l2
                  generalize w4.alloc _ = w5 at *
                  generalize w4.heap.size = g at *
                  have hP2 := (blkT J0).2.2
                  have HK := Lib.hid (show ∀ k : Nat, (k ≤ H / P → ((k : Int) * (P : Int) < (H : Int) ↔ k < H / P)) ∧ (k < H / P → (k : Int) * (P : Int) + (P : Int) ≤ (H : Int)) ∧ 0 ≤ (k : Int) * (P : Int) from fun k => by
                    have hq : H / P * P = H := Nat.div_mul_cancel HDI.out
                    have e : (k : Int) * (P : Int) = ((k * P : Nat) : Int) := (Int.natCast_mul _ _).symm
                    rw [e]
                    refine ⟨fun hk => ⟨fun hlt => ?_, fun hlt => ?_⟩, fun hlt => ?_, by omega⟩
                    · have : k * P < H / P * P := by omega
                      exact Nat.lt_of_mul_lt_mul_right this
                    · have h1 : (k + 1) * P ≤ H / P * P := Nat.mul_le_mul_right _ hlt
                      rw [Nat.add_mul, Nat.one_mul] at h1; omega
                    · have h1 : (k + 1) * P ≤ H / P * P := Nat.mul_le_mul_right _ hlt
                      rw [Nat.add_mul, Nat.one_mul] at h1; omega)
                  have hq60 : H / P ≤ 60 := Nat.le_trans (Nat.div_le_self _ _) h60
                  have HI60 : (H : Int) ≤ 60 := by omega
                  have HPN := Lib.hid t3
                  clear J0 HDI
                  generalize H / P = q at *
                  go_wp2_with fail
                  have br5 := Below.refl w5.heap.size w5
                  go_loopw [11, 10] (fun u v wr => ∃ (k : Nat) (x : Int), u = .int .i64 x ∧ k ≤ q ∧ Hid (x = (k : Int) * (P : Int)) ∧ 0 ≤ x ∧ x ≤ H ∧ Hid (Win wr 3 1 v (perR (P : Int) k).length (cellsI (perR (P : Int) k)) ∧ ∀ g, v.ownBlock = some g → w5.heap.size ≤ g) ∧ Below w5.heap.size w5 wr) (fun u _ _ => ((H : Int) - intOf u).toNat)
                  case atStart => exact ⟨0, 0, rfl, by omega, Lib.hid (by simp), by omega, by omega, Lib.hid ⟨Win.nil _ _ _, fun g hg => by simp [Value.ownBlock] at hg⟩, br5⟩
                  case round =>
                    clear br5
                    obtain ⟨k, x, rfl, hk, hx, hx0, hxH, hwin, hbl2⟩ := hrel
                    have hP2 := keep_cellN hbl2 hsA hP2
                    have hgr : g < wr.heap.size := by have := hbl2.size; omega
                    by_cases hlt : x < (H : Int)
                    · have hkq : k < q := ((HK.out k).1 hk).1 (by rw [← hx.out]; exact hlt)
                      have hxP := (HK.out k).2.1 hkq
                      rw [← hx.out] at hxP
                      obtain ⟨v', w', hrun, h1, h2, h3, h4⟩ := int_push hwin.out.1 hwin.out.2 hbl2.size x (by rw [perR_len]; omega)
                      have hgr' : g < w'.heap.size := by have := h2.size; have := hbl2.size; omega
                      have hP3 := keep_cellN h2 hsA hP2
                      have H1 := Lib.hid (show Win w' 3 1 v' (perR (P : Int) (k + 1)).length (cellsI (perR (P : Int) (k + 1))) ∧ ∀ g, v'.ownBlock = some g → w5.heap.size ≤ g from by
                        rw [perR_succ, ← hx.out]
                        exact ⟨h1, fun g hg => by
                          rcases h4 g hg with h5 | h5
                          · exact hwin.out.2 g h5
                          · have := hbl2.size; omega⟩)
                      have H2 := Lib.hid (show x + (P : Int) = ((k + 1 : Nat) : Int) * (P : Int) from by rw [Int.natCast_add, Int.add_mul, ← hx.out]; simp)
                      have b3' := hbl2.trans h2
                      have hP1 : (1 : Int) ≤ (P : Int) := by omega
                      clear hwin h1 h2 h3 h4 hP2 hx HK
                      go_wp2_with (at_builtin; refine wpList_append_by rfl (.tmp 64) (.tmp 66) 41 rfl u10 (.slice (some ⟨wr.heap.size, 0, none⟩) 1 1) v' w' rfl rfl hrun ?_)
                      go_roundw
                      case rel => exact ⟨k + 1, x + P, rfl, by omega, H2, by omega, by omega, H1, b3'⟩
                      case measure => simp [intOf]; omega
                    · have hkq : k = q := by
                        have := ((HK.out k).1 hk)
                        rw [← hx.out] at this
                        omega
                      subst hkq
                      obtain ⟨xa, xc, hve, q1, q2, q3⟩ := cellsI_ints hwin.out.1
                      have hown : perR (P : Int) k ≠ [] → ∀ g o, xa = some ⟨g, o, none⟩ → u7.ownBlock ≠ some g := fun _ g o e e2 => by
                        obtain ⟨vals, w0, _⟩ := hrw5.out
                        have h1 := w0.blk_lt e2
                        have h2 := hwin.out.2 g (by rw [hve, e]; rfl)
                        omega
                      have hrw6 := hrw5.out.below hbl2
                      have b6 := b5.trans (hbl2.mono b5.size)
                      obtain ⟨v', w', hrun, hrw', hb'⟩ := hrw6.push b6.size (perR (P : Int) k) xa xc q1 q2 q3 hown hrlen
                      rw [← HRW.out] at hrw'
                      have HRW' := Lib.hid hrw'
                      have b8 := b6.trans hb'
                      subst hve
                      clear hrw5 hrw6 hwin q3 hown hrw' hb' HRW hx HK hP2 hbl hbw b5
                      generalize (perR (P : Int) k).length = xn at *
                      go_wp2_with (at_builtin; refine wpList_append_by rfl (.tmp 68) (.tmp 70) 40 rfl u7 (.slice (some ⟨wr.heap.size, 0, none⟩) 1 1) v' w' rfl rfl hrun ?_)
                      go_roundw
                      case rel => exact ⟨i + 1, by go_num, by omega, HRW', b8⟩
                      case measure => simp [intOf]; omega
                · obtain rfl : i = l.length := by omega
                  obtain ⟨ja0, jc0, hve, q1, q2, q3⟩ := hrw.out.rows
                  have HJ := jobs_any l a cap (rowsI l.length (fun i => perR (tp l i : Nat) (H / tp l i))) ja0 jc0 (H : Int) w4 hll (by rw [rowsI_len]; exact hll) (fun _ _ => per_small HOK.out (by omega)) (HC.out.on hbw hbw.size) q3
                  have HE := (show (if tsOK l = true ∧ (rowsI l.length (fun i => perR (tp l i : Nat) (H / tp l i))).length = l.length then jobsTo l (rowsI l.length (fun i => perR (tp l i : Nat) (H / tp l i))) (H : Int) l.length else []) = perAll l H l.length from by
                    rw [if_pos ⟨HOK.out, rowsI_len _ _⟩]
                    exact jobs_per HOK.out perRows_of l.length (Nat.le_refl _))
                  rw [HE] at HJ
                  rw [rowsI_len] at hve HJ
                  subst hve
                  have HJ := Lib.hid HJ
                  clear hrw q3 HE q1 q2
                  go_wp2_with fail
                  refine HJ.out.mono ?_
                  rintro e w5 ⟨ja, jc, rfl, _, _, hj, hb5⟩
                  have b5 := hbw.trans (hb5.mono hbw.size)
                  clear HJ hb5 hbl hbw
                  simp only []
                  by_cases h100 : (perAll l H l.length).length ≤ 100
                  · have h100I : ¬ (100 : Int) < ((perAll l H l.length).length : Int) := by omega
                    have HS := Lib.hid ((schedule_any (perAll l H l.length) ja jc z w5 (by omega) hj).mono fun e w' h => per_sched HOK.out HD.out hpos (by omega) z1 z4 h100 h)
                    have HOV := Lib.hid (fun W (hb : Below w.heap.size w W) => overload_any l z a cap W hll hz (HC.out.on hb hb.size))
                    have HFT := Lib.hid (fun W (hb : Below w.heap.size w W) => fits_any l z a cap W hll hz (HC.out.on hb hb.size))
                    have HFB := Lib.hid (show fitsB l z = decide ((dem l H l.length : Int) ≤ z * (H : Int)) from by
                      unfold fitsB
                      rw [HOK.out, Bool.true_and]
                      exact decide_eq_decide.2 (fits_iff HOK.out hpos HD.out z))
                    generalize (perAll l H l.length).length = jn at *
                    clear hj
                    have HOVB := Lib.hid (show (overR l z).2.2 = !(decide ((dem l H l.length : Int) ≤ z * (H : Int))) from by
                      rw [← HFB.out]
                      rcases HOC.out with ⟨e1, e2⟩ | ⟨e1, e2, _⟩
                      · rw [e1, e2]; rfl
                      · rw [e1, e2]; rfl)
                    rw [HFB.out] at HFT
                    generalize decide ((dem l H l.length : Int) ≤ z * (H : Int)) = B at *
                    go_wp2_with fail
                    refine HS.out.mono ?_
                    rintro e w6 ⟨hb6, xa, xm, xc, rfl⟩
                    have b6 := b5.trans (hb6.mono b5.size)
                    simp only []
                    go_wp2_with fail
                    refine (HOV.out _ b6).mono ?_
                    rintro e w7 ⟨rfl, hb7⟩
                    have b7 := b6.trans (hb7.mono b6.size)
                    simp only []
                    rw [HOVB.out]
                    generalize (overR l z).1 = ov1 at *
                    generalize (overR l z).2.1 = ov2 at *
                    clear HS HOV hb6 hb7 HOVB HFB HOC
                    have HF7 := HFT.out _ b7
                    cases B
                    · go_wp2_with fail
                      refine HF7.mono ?_
                      rintro e w8 ⟨rfl, hb8⟩
                      go_wp2_with fail
                      go_ret
                      exact ⟨rfl, b7.trans (hb8.mono b7.size)⟩
                    · go_wp2_with fail
                      refine HF7.mono ?_
                      rintro e w8 ⟨rfl, hb8⟩
                      go_wp2_with fail
                      go_ret
                      exact ⟨rfl, b7.trans (hb8.mono b7.size)⟩
                  · have h100I : (100 : Int) < ((perAll l H l.length).length : Int) := by omega
                    clear hj
                    generalize (perAll l H l.length).length = jn at *
                    go_wp2_with fail
                    go_ret
                    exact ⟨rfl, b5⟩
            · have h60I : (60 : Int) < (H : Int) := by omega
              clear HD HOC HLE
              go_wp2_with fail
              go_ret
              exact ⟨rfl, b3⟩
          · have h0b : ((hypR l).2 != 0) = true := by simp [h0]
            generalize hypR l = hh at *
            obtain ⟨hh1, hh2⟩ := hh
            simp only at h0 h0b ⊢
            go_wp2_with fail
            go_ret
            exact ⟨rfl, b3⟩
        · have hok : tsOK l = false := by simpa using hok
          rw [hok]
          go_wp2_with fail
          refine AW2.out.mono ?_
          rintro e w3 ⟨rfl, hb3⟩
          go_wp2_with fail
          go_ret
          exact ⟨rfl, b2.trans (hb3.mono s2)⟩
      · have z4I : 4 < z := by omega
        clear TV
        go_wp2_with fail
        refine AW.out.mono ?_
        rintro e w3 ⟨rfl, hb3⟩
        go_wp2_with fail
        go_ret
        exact ⟨rfl, hb1.trans (hb3.mono s1)⟩
    · have z1I : z < 1 := by omega
      clear TV
      go_wp2_with fail
      refine AW.out.mono ?_
      rintro e w3 ⟨rfl, hb3⟩
      go_wp2_with fail
      go_ret
      exact ⟨rfl, hb1.trans (hb3.mono s1)⟩
  · have h8I : (8 : Int) < (l.length : Int) := by omega
    clear TV
    go_wp2_with fail
    refine AW.out.mono ?_
    rintro e w3 ⟨rfl, hb3⟩
    go_wp2_with fail
    go_ret
    exact ⟨rfl, hb1.trans (hb3.mono s1)⟩
end Go.Proofs.Ytdjpkebajcpfbaa
