/- The walk over taskset.Releases. Conditions: the arguments lie in memory; at most 60 rows of at most 30 requests, none greater than 2^41. -/
import Derived.Test.YtdjpkebajcpfbaaRelP
import Derived.OwnWalk
import Derived.Deep.CutBlock
namespace Go.Proofs.Ytdjpkebajcpfbaa
open Go.RowKit Go.Deep

def RelPost (l : List TT) (rs : List (List Int)) (U : Int) (w : World) (e : Ending) (w' : World) : Prop :=
  ∃ a m cap, e = .returned (.tuple #[.slice a m cap, .int .i64 (relE l rs)]) ∧ (relE l rs = 0 → m = l.length ∧ m ≤ cap ∧ cap ≤ 9223372036854775807 ∧ RowsAt w' w'.heap.size a (relRows l rs U)) ∧ (relE l rs ≠ 0 → m = 0) ∧ Below w.heap.size w w'

set_option maxRecDepth 100000 in
set_option maxHeartbeats 6400000 in
theorem treleases_any (l : List TT) (a : Option Addr) (cap : Nat) (rs : List (List Int)) (ra : Option Addr) (rcap : Nat) (U : Int) (w : World) (hl : l.length ≤ 9223372036854775807) (hrl : rs.length ≤ 9223372036854775807) (hU : -9223372036854775808 ≤ U ∧ U ≤ 9223372036854775807)
    (hrr : ∀ r ∈ rs, FitI r ∧ r.length ≤ 30 ∧ ∀ x ∈ r, x ≤ 2199023255552) (hc : TSAt w w.heap.size a l) (hr : RowsAt w w.heap.size ra rs) :
    Calls Try.prog 21 #[.slice a l.length cap, .slice ra rs.length rcap, .int .i64 U] w (RelPost l rs U w) := by
  have HT := tvalid_any l a cap w hl hc
  have HRR := Lib.hid hrr
  have hlI : (l.length : Int) ≤ 9223372036854775807 := by omega
  have hrlI : (rs.length : Int) ≤ 9223372036854775807 := by omega
  clear hrr
  by_cases hok : tsOK l = true
  · rw [hok] at HT
    by_cases hne : rs.length = l.length
    · have hneI : (rs.length : Int) = (l.length : Int) := by omega
      have hneb : ((rs.length : Int) != (l.length : Int)) = false := by simp [hneI]
      have hneb2 : ((rs.length : Int) == (l.length : Int)) = true := by simp [hneI]
      have HE := Lib.hid (show relE l rs = if allB rs then 0 else 2 by unfold relE; rw [if_pos ⟨hok, hne⟩])
      have hl40 := (tsOK_bd hok).1
      have HOK := Lib.hid hok
      have HNE := Lib.hid hne
      have HC := Lib.hid hc
      have HR := Lib.hid hr
      clear hok hne hc hr
      go_enter Try.func21, Try.ntmps21
      go_upto_region 3 with (go_at_call 16; refine HT.mono ?_; rintro e w1 ⟨rfl, hb1⟩)
      clear HT hneb hneb2 hneI
      go_wp2_with fail
      go_loopw [32] (fun u wr => ∃ i : Nat, u = .int .i64 i ∧ i ≤ rs.length ∧ Hid (∀ j, j < i → rowB (rwAt rs j) = true) ∧ Below w.heap.size w wr) (fun u _ => rs.length - (intOf u).toNat)
      case atStart => exact ⟨0, rfl, by omega, Lib.hid (fun j hj => absurd hj (Nat.not_lt_zero _)), hb1⟩
      case round =>
        clear hb1
        obtain ⟨i, rfl, hi, hall, hbl⟩ := hrel
        generalize wr = w2 at *
        by_cases h0 : i < rs.length
        · have h0I : (i : Int) < (rs.length : Int) := by omega
          obtain ⟨b, off, rfl, hbN, hcell⟩ := HR.out (by intro e; simp [e] at h0)
          obtain ⟨qa, qc, c0, q1, q2, q3⟩ := hcell i _ (rwAt_get h0)
          have c0 := keep_cellN hbl hbN c0
          have hbr : b < w2.heap.size := by have := hbl.size; omega
          have hfit := HRR.out _ (rwAt_mem h0)
          have HNO := Lib.hid (fun (h : rowB (rwAt rs i) = false) => allB_no h0 h)
          have HNX := Lib.hid (fun (h : rowB (rwAt rs i) = true) j (hj : j < i + 1) => show rowB (rwAt rs j) = true from by
            by_cases e : j = i
            · subst e; exact h
            · exact hall.out j (by omega))
          clear hcell hall
          generalize rwAt rs i = os at *
          obtain ⟨hf1, hf2, hf3⟩ := hfit
          have HF1 := Lib.hid hf1
          have HIA := Lib.hid q3
          have hoI : (os.length : Int) ≤ 30 := by omega
          clear hf1 hf3 q3
          go_wp2_with fail
          go_loopw [38, 10] (fun u v wr => ∃ (k : Nat) (p : Int), u = .int .i64 k ∧ k ≤ os.length ∧ v = .int .i64 p ∧ Hid (p = prevI os k ∧ ∀ j, j < k → prevI os j ≤ os.getD j 0) ∧ Below w.heap.size w wr) (fun u _ _ => os.length - (intOf u).toNat)
          case atStart => exact ⟨0, 0, rfl, by omega, rfl, Lib.hid ⟨rfl, fun j hj => absurd hj (Nat.not_lt_zero _)⟩, hbl⟩
          case round =>
            clear hbl c0
            obtain ⟨k, p, rfl, hk, rfl, hp, hbl⟩ := hrel
            by_cases h1 : k < os.length
            · have h1I : (k : Int) < (os.length : Int) := by omega
              obtain ⟨ob, oo, rfl, hoN, hoc⟩ := HIA.out (by intro e; simp [e] at h1)
              have x0 := keep_cellN hbl hoN (hoc k _ (getD_get h1))
              have hobr : ob < wr.heap.size := by have := hbl.size; omega
              have hfit := getD_fit HF1.out h1
              have hpp := hp.out.1
              by_cases hle : p ≤ os.getD k 0
              · have hle' : ¬ os.getD k 0 < p := by omega
                have HS := Lib.hid (show os.getD k 0 = prevI os (k + 1) ∧ ∀ j, j < k + 1 → prevI os j ≤ os.getD j 0 from ⟨(prevI_succ os k).symm, fun j hj => by
                  by_cases e : j = k
                  · subst e; rw [← hpp]; exact hle
                  · exact hp.out.2 j (by omega)⟩)
                clear hoc hp hpp
                generalize os.getD k 0 = x at *
                go_wp2_with fail
                go_roundw
                case rel => exact ⟨k + 1, x, by go_num, by omega, rfl, HS, hbl⟩
                case measure => simp [intOf]; omega
              · have hle' : os.getD k 0 < p := by omega
                have HB := Lib.hid (HNO.out (rowB_no h1 (by rw [← hpp]; exact hle)))
                clear hoc hp hpp
                generalize os.getD k 0 = x at *
                go_wp2_with fail
                go_ret2
                have HE2 : relE l rs = 2 := by rw [HE.out, HB.out]; exact if_neg (by decide)
                exact ⟨none, 0, 0, by rw [HE2]; rfl, fun h => absurd (HE2.symm.trans h) (by decide), fun _ => rfl, hbl⟩
            · obtain rfl : k = os.length := by omega
              have HS := Lib.hid (HNX.out (rowB_iff.2 hp.out.2))
              clear hp
              go_wp2_with fail
              go_roundw
              case rel => exact ⟨i + 1, by go_num, by omega, HS, hbl⟩
              case measure => simp [intOf]; omega
        · obtain rfl : i = rs.length := by omega
          have HA := Lib.hid (show relE l rs = 0 from by rw [HE.out]; exact if_pos (allB_iff.2 hall.out))
          have HPV := Lib.hid (fun i (h : i < rs.length) => rowB_iff.1 (hall.out i h))
          clear hall HE hi h0
          obtain ⟨i0, hi0, hz0, hz1, hz2⟩ := info_parts info_introw
          have hmk := run_make (P := Try.prog) w2 40 41 i0 _ Try.underlying40 hi0 hz0 .i64 .i64 l.length l.length (by omega) (by omega) (by rw [hz2]; omega) (by omega)
          simp only [Int.toNat_natCast, hz1, Value.cells, Nat.mul_one] at hmk
          clear hi0 hz0 hz1 hz2
          have HSI := SI.made (N := w2.heap.size) w2 l.length (Nat.le_refl _)
          have b1 : Below w2.heap.size w2 (w2.alloc (.cells (madeCells #[.slice none 0 0] l.length) 41)) := (Below.refl _ _).alloc (Nat.le_refl _) _
          rw [← rowQ_zero (relRow l rs U)] at HSI
          have HSI := Lib.hid HSI
          have hbl0 := hbl
          go_upto_region 16 with fail
          clear hmk
          generalize w2.alloc (.cells (madeCells #[.slice none 0 0] l.length) 41) = w3 at *
          have HW2 := Lib.hid hbl0.size
          generalize hG : w2.heap.size = G at *
          have HG := Lib.hid hG
          clear hG
          go_wp2_with fail
          go_loopw [53] (fun u wr => ∃ (i : Nat) (tg : Nat → Nat) (V : Nat → Value), u = .int .i64 i ∧ i ≤ rs.length ∧ Hid (SI G G l.length wr tg V (rowQ (relRow l rs U) i [])) ∧ Below G w2 wr) (fun u _ => rs.length - (intOf u).toNat)
          case atStart => exact ⟨0, _, _, rfl, by omega, HSI, b1⟩
          case round =>
            clear HSI b1
            obtain ⟨i, tg, V, rfl, hi, hsi, hbg⟩ := hrel
            generalize wr = w4 at *
            by_cases h0 : i < rs.length
            · have h0I : (i : Int) < (rs.length : Int) := by omega
              have h0l : i < l.length := by have := HNE.out; omega
              have h0lI : (i : Int) < (l.length : Int) := by omega
              obtain ⟨b, off, rfl, hbN, hcell⟩ := HR.out (by intro e; simp [e] at h0)
              obtain ⟨qa, qc, c0, q1, q2, q3⟩ := hcell i _ (rwAt_get h0)
              have hbl2 := hbl0.trans (hbg.mono HW2.out)
              have c0 := keep_cellN hbl2 hbN c0
              have hbr : b < w4.heap.size := by have := hbl2.size; omega
              have hfit := HRR.out _ (rwAt_mem h0)
              have HRW := Lib.hid (show relRow l rs U i = relT (tp l i : Nat) U (rwAt rs i) 0 from rfl)
              have hpv := HPV.out i h0
              obtain ⟨t1, t2, t3, t4, t5⟩ := tsOK_at HOK.out h0l
              obtain ⟨lb, lo, rfl, hlN, lcell⟩ := HC.out (by intro e; simp [e] at h0l)
              obtain ⟨l0, l1, l2⟩ := lcell i _ (ttAt_get h0l)
              rw [t5] at l2
              clear hcell lcell l0 l1 t4 t5
              generalize rwAt rs i = os at *
              generalize tp l i = P at *
              obtain ⟨hf1, hf2, hf3⟩ := hfit
              have HF1 := Lib.hid hf1
              have HF3 := Lib.hid hf3
              have HPW := Lib.hid hpv
              have HIA := Lib.hid q3
              have hoI : (os.length : Int) ≤ 30 := by omega
              clear hf1 hf3 q3 hpv
              go_wp2_with fail
              go_loopw [60, 16] (fun u v wr => ∃ (k : Nat) (e : Int) (D : List Int) (tg : Nat → Nat) (V : Nat → Value), u = .int .i64 k ∧ v = .int .i64 e ∧ k ≤ os.length ∧ 0 ≤ e ∧ e ≤ 2199023255552 + 1000 * k ∧ D.length ≤ k ∧ Hid (relRow l rs U i = D ++ relT P U (os.drop k) e) ∧ Hid (SI G G l.length wr tg V (rowQ (relRow l rs U) i D)) ∧ Below G w2 wr) (fun u _ _ => os.length - (intOf u).toNat)
              case atStart => exact ⟨0, 0, [], tg, V, rfl, rfl, by omega, by omega, by omega, Nat.le_refl _, Lib.hid (by rw [HRW.out]; rfl), hsi, hbg⟩
              case round =>
                clear hsi hbg c0 HRW
                obtain ⟨k, e, D, tg, V, rfl, rfl, hk, he0, he1, hD, hrl, hsi, hbg⟩ := hrel
                have hbl3 := hbl0.trans (hbg.mono HW2.out)
                have hsz3 := hbl3.size
                by_cases h1 : k < os.length
                · have h1I : (k : Int) < (os.length : Int) := by omega
                  obtain ⟨ob, oo, rfl, hoN, hoc⟩ := HIA.out (by intro e; simp [e] at h1)
                  have x0 := keep_cellN hbl3 hoN (hoc k _ (getD_get h1))
                  have hobr : ob < wr.heap.size := by omega
                  have hx1 := HF3.out _ (List.mem_of_getElem? (getD_get h1))
                  have hx0 := (getD_fit HF1.out h1).1
                  have HY := Lib.hid (fun h => (show relRow l rs U i = (D ++ [max (os.getD k 0) e]) ++ relT P U (os.drop (k + 1)) (max (os.getD k 0) e + P) from by rw [hrl.out, relT_yes h1 h, List.append_assoc]; rfl))
                  have HN := Lib.hid (fun h => (show relRow l rs U i = D from by rw [hrl.out, relT_no h1 h, List.append_nil]))
                  clear hoc hrl
                  generalize os.getD k 0 = x at *
                  go_upto_region 23 with fail
                  go_cut [19] (fun u wx => u = .int .i64 (max x e) ∧ wx = wr)
                  case first =>
                    by_cases hxe : x < e
                    · have hm : max x e = e := by omega
                      go_wp2_with fail
                      go_meet
                      case rel => exact ⟨by rw [hm], rfl⟩
                    · have hm : max x e = x := by omega
                      go_wp2_with fail
                      go_meet
                      case rel => exact ⟨by rw [hm], rfl⟩
                  case rest =>
                    obtain ⟨rfl, rfl⟩ := hcut
                    have hM1 : max x e ≤ 2199023255552 + 1000 * k := by omega
                    have hM0 : 0 ≤ max x e := by omega
                    generalize max x e = M at *
                    by_cases hMU : M < U
                    · have hMU' : ¬ U ≤ M := by omega
                      have HY := Lib.hid (HY.out hMU)
                      clear HN
                      have hGw := hsi.out.out.lt
                      have gl := hsi.out.out.cell h0l
                      have gf := hsi.out.out.frozen i
                      have hrl : rowQ (relRow l rs U) i D i = D := by unfold rowQ; rw [if_neg (by omega), if_pos rfl]
                      obtain ⟨v', w', hrun, hb', hbG, hbX, tg', hsi', htg'⟩ := hsi.out.push h0l M (by rw [hrl]; omega)
                      have hform := (hsi'.win i h0l).form0
                      simp only [updI, if_true] at hform
                      obtain ⟨va, vc, hve, _, _⟩ := hform
                      generalize (rowQ (relRow l rs U) i D i ++ [M]).length = vn at hve
                      subst hve
                      rw [rowQ_set] at hsi'
                      have HS' := Lib.hid hsi'
                      have gl' : w'.cell? ⟨G, i, none⟩ = some (V i) := (World.cell?_of_block (w := wc) (a := ⟨G, i, none⟩) hbG).trans gl
                      have gf' : w'.frozen? ⟨G, i, none⟩ = false := (World.frozen?_of_block (w := wc) (a := ⟨G, i, none⟩) hbG).trans gf
                      have b' := (hbg.trans hb').setCell (p := ⟨G, i, none⟩) (Nat.le_refl _) (.slice va vn vc)
                      have sG' : G < w'.heap.size := by have := hb'.size; omega
                      clear hsi hsi' hb' hbg hbG hbX htg' hrl x0 hobr
                      generalize V i = vs at *
                      go_upto_region 26 with (at_builtin; refine wpList_append_by rfl (.tmp 75) (.tmp 77) 41 rfl vs (.slice (some ⟨wc.heap.size, 0, none⟩) 1 1) _ w' rfl rfl hrun ?_)
                      clear gl gf gl' gf' hrun hGw
                      generalize w'.setCell ⟨G, i, none⟩ (.slice va vn vc) = w9 at *
                      have hbl9 := hbl0.trans (b'.mono HW2.out)
                      have y2 := keep_cellN hbl9 hlN l2
                      have hlw : lb < w9.heap.size := by have := hbl9.size; omega
                      have hPM : ¬ M + (P : Int) < M := by omega
                      go_wp2_with fail
                      go_roundw
                      case rel => exact ⟨k + 1, M + P, D ++ [M], tg', _, by go_num, rfl, by omega, by omega, by omega, by simp; omega, HY, HS', b'⟩
                      case measure => simp [intOf]; omega
                    · have hMU' : U ≤ M := by omega
                      have HE := HN.out hMU
                      have HS' := hsi.out
                      rw [rowQ_next HE] at HS'
                      have HS' := Lib.hid HS'
                      clear hsi HY HN HE
                      go_wp2_with fail
                      go_roundw
                      case rel => exact ⟨i + 1, _, _, by go_num, by omega, HS', hbg⟩
                      case measure => simp [intOf]; omega
                · obtain rfl : k = os.length := by omega
                  have HE : relRow l rs U i = D := by rw [hrl.out, relT_end (Nat.le_refl _), List.append_nil]
                  have HS' := hsi.out
                  rw [rowQ_next HE] at HS'
                  have HS' := Lib.hid HS'
                  clear hsi hrl HE
                  go_wp2_with fail
                  go_roundw
                  case rel => exact ⟨i + 1, _, _, by go_num, by omega, HS', hbg⟩
                  case measure => simp [intOf]; omega
            · obtain rfl : i = rs.length := by omega
              have HRO := Lib.hid hsi.out.rows
              clear hsi
              have b9 := hbl0.trans (hbg.mono HW2.out)
              go_wp2_with fail
              go_ret2
              refine ⟨_, l.length, l.length, by rw [HA.out]; rfl, fun _ => ⟨rfl, Nat.le_refl _, by omega, ?_⟩, fun h => absurd HA.out h, b9⟩
              have e : relRows l rs U = rowsI l.length (rowQ (relRow l rs U) rs.length []) := rowsI_congr fun s hs => by unfold rowQ; rw [if_pos (by rw [HNE.out]; exact hs)]
              rw [e]; exact HRO.out
    · have hneI : ¬ (rs.length : Int) = (l.length : Int) := by omega
      have hneb : ((rs.length : Int) != (l.length : Int)) = true := by simp [hneI]
      have HE := Lib.hid (show relE l rs = 1 by unfold relE; rw [if_neg (fun h => hne h.2)])
      clear hok hne hc hr
      go_enter Try.func21, Try.ntmps21
      go_wp2_with (go_at_call 16; refine HT.mono ?_; rintro e w1 ⟨rfl, hb1⟩)
      go_ret2
      exact ⟨none, 0, 0, by rw [HE.out]; rfl, fun h => absurd (HE.out.symm.trans h) (by decide), fun _ => rfl, hb1⟩
  · have hok' : tsOK l = false := by simpa using hok
    rw [hok'] at HT
    have HE := Lib.hid (show relE l rs = 1 by unfold relE; rw [if_neg (fun h => hok h.1)])
    clear hok hok' hc hr
    go_enter Try.func21, Try.ntmps21
    go_wp2_with (go_at_call 16; refine HT.mono ?_; rintro e w1 ⟨rfl, hb1⟩)
    go_ret2
    exact ⟨none, 0, 0, by rw [HE.out]; rfl, fun h => absurd (HE.out.symm.trans h) (by decide), fun _ => rfl, hb1⟩
end Go.Proofs.Ytdjpkebajcpfbaa
