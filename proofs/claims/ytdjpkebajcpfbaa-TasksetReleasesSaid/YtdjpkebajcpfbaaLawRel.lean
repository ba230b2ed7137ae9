/- The walk over TasksetReleases: it answers true. Conditions: the arguments lie in memory. -/
import Derived.Test.YtdjpkebajcpfbaaAwake41
import Derived.Test.YtdjpkebajcpfbaaRefSet
import Derived.Test.YtdjpkebajcpfbaaPlain41
import Derived.Test.YtdjpkebajcpfbaaRelRef
import Derived.Test.YtdjpkebajcpfbaaRowsW
namespace Go.Proofs.Ytdjpkebajcpfbaa
open Go.RowKit Go.Deep

theorem relE_bad {l : List TT} {rs : List (List Int)} (h : ¬ (tsOK l = true ∧ rs.length = l.length)) : relE l rs = 1 := if_neg h
theorem relE_two {l : List TT} {rs : List (List Int)} {i : Nat} (h : tsOK l = true ∧ rs.length = l.length) (hi : i < rs.length) (hb : rowB (rwAt rs i) = false) : relE l rs = 2 := by
  unfold relE
  rw [if_pos h, allB_no hi hb]; rfl
theorem relE_all {l : List TT} {rs : List (List Int)} (h : tsOK l = true ∧ rs.length = l.length) (hb : ∀ i, i < rs.length → rowB (rwAt rs i) = true) : relE l rs = 0 := by
  unfold relE
  rw [if_pos h, allB_iff.2 hb]; rfl

/-- What stays while the reference answers for one task. -/
def KS (w : World) (tb to' b o : Nat) (x0 x1 x2 y : Value) (W : World) : Prop :=
  Below w.heap.size w W ∧ W.cell? ⟨tb, to', none⟩ = some x0 ∧ W.cell? ⟨tb, to' + 1, none⟩ = some x1 ∧ W.cell? ⟨tb, to' + 2, none⟩ = some x2 ∧ W.cell? ⟨b, o, none⟩ = some y ∧ tb < W.heap.size ∧ b < W.heap.size
theorem KS.next {w W W' : World} {tb to' b o : Nat} {x0 x1 x2 y : Value} (h : KS w tb to' b o x0 x1 x2 y W) (hb : Below W.heap.size W W') : KS w tb to' b o x0 x1 x2 y W' := by
  obtain ⟨h1, h2, h3, h4, h5, h6, h7⟩ := h
  have := hb.size
  exact ⟨h1.trans (hb.mono h1.size), keep_cellN hb h6 h2, keep_cellN hb h6 h3, keep_cellN hb h6 h4, keep_cellN hb h7 h5, by omega, by omega⟩
theorem KS.drew {w W : World} {tb to' b o : Nat} {x0 x1 x2 y : Value} (h : KS w tb to' b o x0 x1 x2 y W) : KS w tb to' b o x0 x1 x2 y W.drew := h.next (Below.refl _ _).drew

set_option maxRecDepth 100000 in
set_option maxHeartbeats 6400000 in
theorem law_rel (l : List TT) (a : Option Addr) (cap : Nat) (rs : List (List Int)) (ra : Option Addr) (rcap : Nat) (U : Int) (w : World) (hl : l.length ≤ cap) (hcap : cap ≤ 9223372036854775807) (hc : TSAt w w.heap.size a l)
    (hrl : rs.length ≤ rcap) (hrcap : rcap ≤ 9223372036854775807) (hr : RowsAt w w.heap.size ra rs) (hrr : ∀ r ∈ rs, FitI r) (hU : -9223372036854775808 ≤ U ∧ U ≤ 9223372036854775807) :
    Calls Try.prog 6 #[.slice a l.length cap, .slice ra rs.length rcap, .int .i64 U] w fun e w' => e = .returned (.bool true) ∧ Below w.heap.size w w' := by
  have hll : l.length ≤ 9223372036854775807 := by omega
  have hlI : (l.length : Int) ≤ 9223372036854775807 := by omega
  have hrI : (rs.length : Int) ≤ 9223372036854775807 := by omega
  have HA := awake_any w
  have HRR := Lib.hid hrr
  clear hrr
  by_cases h60 : l.length ≤ 60
  · have h60I : ¬ (60 : Int) < (l.length : Int) := by omega
    by_cases g60 : rs.length ≤ 60
    · have g60I : ¬ (60 : Int) < (rs.length : Int) := by omega
      have HC := Lib.hid hc
      have HR := Lib.hid hr
      clear hc hr
      go_enter Try.func6, Try.ntmps6
      go_wp2_with (go_at_call 12; refine HA.mono ?_; rintro e w1 ⟨rfl, hb1⟩)
      clear HA h60I g60I
      go_loopw [7] (fun u wr => ∃ i : Nat, u = .int .i64 i ∧ i ≤ rs.length ∧ Hid (∀ j, j < i → (rwAt rs j).length ≤ 30 ∧ ∀ x ∈ rwAt rs j, x ≤ 1099511627776) ∧ Below w.heap.size w wr) (fun u _ => rs.length - (intOf u).toNat)
      case atStart => exact ⟨0, rfl, by omega, Lib.hid (fun j hj => absurd hj (Nat.not_lt_zero _)), hb1⟩
      case round =>
        clear hb1
        obtain ⟨i, rfl, hi, hall, hbl⟩ := hrel
        generalize wr = w2 at *
        by_cases h0 : i < rs.length
        · have h0I : (i : Int) < (rs.length : Int) := by omega
          obtain ⟨b, off, rfl, hbN, hcell⟩ := HR.out (by intro e; simp [e] at h0)
          obtain ⟨qa, qc, c0, q1, q2, q3⟩ := hcell i _ (rwAt_get h0)
          have HC0 := Lib.hid c0
          have c0 := keep_cellN hbl hbN c0
          have hbr : b < w2.heap.size := by have := hbl.size; omega
          have HNX := Lib.hid (fun (h1 : (rwAt rs i).length ≤ 30) (h2 : ∀ x ∈ rwAt rs i, x ≤ 1099511627776) j (hj : j < i + 1) => show (rwAt rs j).length ≤ 30 ∧ ∀ x ∈ rwAt rs j, x ≤ 1099511627776 from by
            by_cases e : j = i
            · subst e; exact ⟨h1, h2⟩
            · exact hall.out j (by omega))
          have HIA := Lib.hid q3
          clear hcell hall q3
          generalize rwAt rs i = os at *
          by_cases h30 : os.length ≤ 30
          · have h30I : ¬ (30 : Int) < (os.length : Int) := by omega
            have HNX := Lib.hid (HNX.out h30)
            go_wp2_with fail
            go_loopw [8] (fun u wr => ∃ k : Nat, u = .int .i64 k ∧ k ≤ os.length ∧ Hid (∀ j, j < k → os.getD j 0 ≤ 1099511627776) ∧ Below w.heap.size w wr) (fun u _ => os.length - (intOf u).toNat)
            case atStart => exact ⟨0, rfl, by omega, Lib.hid (fun j hj => absurd hj (Nat.not_lt_zero _)), hbl⟩
            case round =>
              clear hbl c0
              obtain ⟨k, rfl, hk, hall, hbl⟩ := hrel
              have c0 := keep_cellN hbl hbN HC0.out
              have hbr2 : b < wr.heap.size := by have := hbl.size; omega
              by_cases h1 : k < os.length
              · have h1I : (k : Int) < (os.length : Int) := by omega
                obtain ⟨ob, oo, rfl, hoN, hoc⟩ := HIA.out (by intro e; simp [e] at h1)
                have x0 := keep_cellN hbl hoN (hoc k _ (getD_get h1))
                have hobr : ob < wr.heap.size := by have := hbl.size; omega
                have HS := Lib.hid (fun (h : os.getD k 0 ≤ 1099511627776) j (hj : j < k + 1) => show os.getD j 0 ≤ 1099511627776 from by
                  by_cases e : j = k
                  · subst e; exact h
                  · exact hall.out j (by omega))
                clear hoc hall
                generalize os.getD k 0 = x at *
                by_cases hx : x ≤ 1099511627776
                · have hxI : ¬ (1099511627776 : Int) < x := by omega
                  have HS := Lib.hid (HS.out hx)
                  go_wp2_with fail
                  go_roundw
                  case rel => exact ⟨k + 1, by go_num, by omega, HS, hbl⟩
                  case measure => simp [intOf]; omega
                · have hxI : (1099511627776 : Int) < x := by omega
                  clear HS
                  go_wp2_with fail
                  go_ret
                  exact ⟨rfl, hbl⟩
              · obtain rfl : k = os.length := by omega
                have HS := Lib.hid (HNX.out (fun x hx => by
                  obtain ⟨j, hj⟩ := List.mem_iff_getElem?.1 hx
                  have hjl := (List.getElem?_eq_some_iff.1 hj).1
                  have := hall.out j hjl
                  rw [getD_get hjl] at hj
                  simp only [Option.some.injEq] at hj
                  rw [hj] at this; exact this))
                clear hall
                go_wp2_with fail
                go_roundw
                case rel => exact ⟨i + 1, by go_num, by omega, HS, hbl⟩
                case measure => simp [intOf]; omega
          · have h30I : (30 : Int) < (os.length : Int) := by omega
            clear HNX
            go_wp2_with fail
            go_ret
            exact ⟨rfl, hbl⟩
        · obtain rfl : i = rs.length := by omega
          have HSM := Lib.hid (show ∀ r ∈ rs, FitI r ∧ r.length ≤ 30 ∧ ∀ x ∈ r, x ≤ 2199023255552 from fun r hr => by
            obtain ⟨j, hj⟩ := List.mem_iff_getElem?.1 hr
            have hjl := (List.getElem?_eq_some_iff.1 hj).1
            have h2 := hall.out j hjl
            rw [rwAt_get hjl] at hj
            simp only [Option.some.injEq] at hj
            rw [hj] at h2
            exact ⟨HRR.out r hr, h2.1, fun x hx => by have := h2.2 x hx; omega⟩)
          clear hall HRR h0 hi
          have HT := treleases_any l a cap rs ra rcap U w2 hll (by omega) hU HSM.out (HC.out.on hbl hbl.size) (HR.out.on hbl hbl.size)
          go_wp2_with fail
          refine HT.mono ?_
          rintro e w3 ⟨ga, m, gcap, rfl, hgood, hbad, hb3⟩
          have b3 := hbl.trans (hb3.mono hbl.size)
          have HG := Lib.hid hgood
          have HB := Lib.hid hbad
          clear HT hgood hbad hb3 hbl
          simp only []
          go_wp2_with fail
          refine (plain_any l a cap w3 h60 (HC.out.on b3 b3.size)).mono ?_
          rintro e w4 ⟨pa, pc, rfl, _, _, hp4, hb4⟩
          have b4 := b3.trans (hb4.mono b3.size)
          have HRV := rvalid_any l pa pc w4 hll hp4
          simp only []
          go_wp2_with fail
          refine HRV.mono ?_
          rintro e w5 ⟨rfl, hb5⟩
          have b5 := b4.trans (hb5.mono b4.size)
          simp only []
          have B35 := hb4.trans (hb5.mono hb4.size)
          clear hb4 hb5 HRV b4 hp4 b3
          by_cases hg : tsOK l = true ∧ rs.length = l.length
          · obtain ⟨hok, hne⟩ := hg
            have hneb : ((l.length : Int) != (rs.length : Int)) = false := by simp [hne]
            have HOK := Lib.hid hok
            have HNE := Lib.hid hne
            have HTW := Lib.hid (fun i (hi : i < rs.length) (hb : rowB (rwAt rs i) = false) => relE_two ⟨hok, hne⟩ hi hb)
            have HAL := Lib.hid (fun (hb : ∀ i, i < rs.length → rowB (rwAt rs i) = true) => relE_all ⟨hok, hne⟩ hb)
            rw [hok]
            clear hok hne
            go_wp2_with fail
            clear hneb
            generalize hE : relE l rs = E at *
            have HE := Lib.hid hE
            clear hE
            have bw5 := Below.refl w5.heap.size w5
            go_loopw [12, 11] (fun u v wr => ∃ i : Nat, u = .int .i64 i ∧ i ≤ l.length ∧ Hid (RowsW w5.heap.size wr v (rowsI i (relRow l rs U))) ∧ Hid (∀ j, j < i → rowB (rwAt rs j) = true) ∧ Below w5.heap.size w5 wr) (fun u _ _ => l.length - (intOf u).toNat)
            case atStart => exact ⟨0, rfl, by omega, Lib.hid (RowsW.nil _ _), Lib.hid (fun j hj => absurd hj (Nat.not_lt_zero _)), bw5⟩
            case round =>
              clear bw5
              obtain ⟨i, rfl, hi, hrw, hall, hbl⟩ := hrel
              have hbw := b5.trans (hbl.mono b5.size)
              generalize wr = w6 at *
              by_cases h0 : i < l.length
              · have h0I : (i : Int) < (l.length : Int) := by omega
                have h0r : i < rs.length := by have := HNE.out; omega
                have h0rI : (i : Int) < (rs.length : Int) := by omega
                obtain ⟨b, off, rfl, hbN, hcell⟩ := HR.out (by intro e; simp [e] at h0r)
                obtain ⟨qa, qc, c0, q1, q2, q3⟩ := hcell i _ (rwAt_get h0r)
                have c0 := keep_cellN hbw hbN c0
                have hbr : b < w6.heap.size := by have := hbw.size; omega
                obtain ⟨t1, t2, t3, t4, t5⟩ := tsOK_at HOK.out h0
                obtain ⟨tb, to', rfl, htN, tcell⟩ := HC.out (by intro e; simp [e] at h0)
                obtain ⟨l0, l1, l2⟩ := tcell i _ (ttAt_get h0)
                rw [t4] at l1
                rw [t5] at l2
                have l0 := keep_cellN hbw htN l0
                have l1 := keep_cellN hbw htN l1
                have l2 := keep_cellN hbw htN l2
                have htr : tb < w6.heap.size := by have := hbw.size; omega
                obtain ⟨hf1, hf2, hf3⟩ := HSM.out _ (rwAt_mem h0r)
                have HRC := fun (nm : ByteArray) (c : Int) W (hb : Below w6.heap.size w6 W) => rrel_any nm c (tp l i) (rwAt rs i) qa qc U W (by omega) t3 hU hf1 hf2 hf3 (q3.on (hbw.trans (hb.mono hbw.size)) (hbw.trans (hb.mono hbw.size)).size)
                have HTW := Lib.hid (fun hb => HTW.out i h0r hb)
                have HNX := Lib.hid (fun (h : rowB (rwAt rs i) = true) j (hj : j < i + 1) => show rowB (rwAt rs j) = true from by
                  by_cases e : j = i
                  · subst e; exact h
                  · exact hall.out j (by omega))
                have HRW := Lib.hid (show rowsI (i + 1) (relRow l rs U) = rowsI i (relRow l rs U) ++ [relT (tp l i : Nat) U (rwAt rs i) 0] from by
                  unfold rowsI
                  rw [List.range_succ, List.map_append]; rfl)
                have hrlen : (rowsI i (relRow l rs U)).length ≤ 1000000 := by rw [rowsI_len]; omega
                generalize tc l i = cc at *
                generalize (ttAt l i).nm = nm at *
                clear hcell tcell t4 t5 hf1 hf2 hf3 q1 q2 q3 hall
                generalize rwAt rs i = os at *
                have s0 : KS w6 tb (to' + i * 3) b (off + i) (.string nm) (.int .i64 cc) (.int .i64 (tp l i : Nat)) (.slice qa os.length qc) w6 := ⟨Below.refl _ _, l0, l1, l2, c0, htr, hbr⟩
                clear l0 l1 l2 c0
                generalize tp l i = P at *
                generalize rowsI i (relRow l rs U) = R at *
                cases hb : rowB os
                · have HTW := Lib.hid (HTW.out hb)
                  have HRC := fun W (hs : (Below w6.heap.size w6 W ∧ W.cell? ⟨tb, to' + i * 3, none⟩ = some (.string nm) ∧ W.cell? ⟨tb, to' + i * 3 + 1, none⟩ = some (.int .i64 cc) ∧ W.cell? ⟨tb, to' + i * 3 + 2, none⟩ = some (.int .i64 P) ∧ W.cell? ⟨b, off + i, none⟩ = some (.slice qa os.length qc) ∧ tb < W.heap.size ∧ b < W.heap.size)) => ((HRC nm cc W hs.1).mono fun e w' (h : RRPost _ _ _ _ _ _) => And.intro (h.2.1 hb) h.2.2)
                  clear HNX HRW hrw
                  go_upto_region 22 with fail
                  go_region_held3 (fun W => (Below w6.heap.size w6 W ∧ W.cell? ⟨tb, to' + i * 3, none⟩ = some (.string nm) ∧ W.cell? ⟨tb, to' + i * 3 + 1, none⟩ = some (.int .i64 cc) ∧ W.cell? ⟨tb, to' + i * 3 + 2, none⟩ = some (.int .i64 P) ∧ W.cell? ⟨b, off + i, none⟩ = some (.slice qa os.length qc) ∧ tb < W.heap.size ∧ b < W.heap.size))
                    (first
                      | exact s0
                      | exact KS.drew s0
                      | assumption
                      | exact KS.next (by assumption) (by assumption))
                    ((go_at_call 22; (with_reducible refine (HRC _ (by assumption)).mono ?_); rintro e w7 ⟨rfl, hb7⟩))
                  have b7 := hbw.trans (((Below.refl w6.heap.size w6).drew.trans hb7).mono hbw.size)
                  have hE2 := HTW.out
                  have hm := HB.out (by rw [hE2]; decide)
                  subst hm
                  subst hE2
                  clear HRC HTW hb7 s0 HB HG HE HAL
                  go_wp2_with fail
                  go_ret
                  exact ⟨rfl, b7⟩
                · have HNX := Lib.hid (HNX.out hb)
                  have HRC := fun W (hs : (Below w6.heap.size w6 W ∧ W.cell? ⟨tb, to' + i * 3, none⟩ = some (.string nm) ∧ W.cell? ⟨tb, to' + i * 3 + 1, none⟩ = some (.int .i64 cc) ∧ W.cell? ⟨tb, to' + i * 3 + 2, none⟩ = some (.int .i64 P) ∧ W.cell? ⟨b, off + i, none⟩ = some (.slice qa os.length qc) ∧ tb < W.heap.size ∧ b < W.heap.size)) => ((HRC nm cc W hs.1).mono fun e w' (h : RRPost _ _ _ _ _ _) => And.intro (h.1 hb) h.2.2)
                  clear HTW
                  go_upto_region 22 with fail
                  go_region_held3 (fun W => (Below w6.heap.size w6 W ∧ W.cell? ⟨tb, to' + i * 3, none⟩ = some (.string nm) ∧ W.cell? ⟨tb, to' + i * 3 + 1, none⟩ = some (.int .i64 cc) ∧ W.cell? ⟨tb, to' + i * 3 + 2, none⟩ = some (.int .i64 P) ∧ W.cell? ⟨b, off + i, none⟩ = some (.slice qa os.length qc) ∧ tb < W.heap.size ∧ b < W.heap.size))
                    (first
                      | exact s0
                      | exact KS.drew s0
                      | assumption
                      | exact KS.next (by assumption) (by assumption))
                    ((go_at_call 22; (with_reducible refine (HRC _ (by assumption)).mono ?_); rintro e w7 ⟨⟨xa, xc, rfl, x1, x2, x3, x4⟩, hb7⟩))
                  have b67 := (Below.refl w6.heap.size w6).drew.trans hb7
                  have b7 := hbl.trans (b67.mono hbl.size)
                  have HRW7 := hrw.out.below b67
                  have hown : relT (↑P) U os 0 ≠ [] → ∀ g o, xa = some ⟨g, o, none⟩ → u11.ownBlock ≠ some g := fun _ g o e e2 => by
                    obtain ⟨vals, w0, _⟩ := hrw.out
                    have h1 := w0.blk_lt e2
                    have h2 : w6.heap.size ≤ g := x4 g o e
                    omega
                  obtain ⟨v', w', hrun, hrw', hb'⟩ := HRW7.push b7.size (relT P U os 0) xa xc x1 x2 x3 hown hrlen
                  rw [← HRW.out] at hrw'
                  have HRW' := Lib.hid hrw'
                  have b8 := b7.trans hb'
                  clear HRC hb7 s0 b67 b7 HRW7 hown hrw hrw' hb' x3 x4 HRW hbl hbw
                  generalize (relT (↑P) U os 0).length = xn at *
                  go_wp2_with (at_builtin; refine wpList_append_by rfl (.tmp 108) (.tmp 110) 40 rfl u11 (.slice (some ⟨w7.heap.size, 0, none⟩) 1 1) v' w' rfl rfl hrun ?_)
                  go_roundw
                  case rel => exact ⟨i + 1, by go_num, by omega, HRW', HNX, b8⟩
                  case measure => simp [intOf]; omega
              · obtain rfl : i = l.length := by omega
                have hE0 := HAL.out (by rw [HNE.out]; exact hall.out)
                obtain ⟨rfl, g1, g2, g3⟩ := HG.out hE0
                have b36 := B35.trans (hbl.mono B35.size)
                have g3 := g3.on b36 b36.size
                subst hE0
                clear HG HB HAL HTW hall HE
                obtain ⟨wa, wc2, hwv, y1, y2, y3⟩ := hrw.out.rows
                rw [rowsI_len] at hwv y1
                subst hwv
                have HG3 := Lib.hid (show RowsAt w6 w6.heap.size ga (rowsI l.length (relRow l rs U)) from g3)
                have HW3 := Lib.hid y3
                have HLR := Lib.hid (fun i => show (relRow l rs U i).length ≤ (rwAt rs i).length from relT_len _ _ _ _)
                have HOS := Lib.hid (fun i (hi : i < l.length) => show (relRow l rs U i).length ≤ 30 from by
                  have h1 := (HSM.out _ (rwAt_mem (show i < rs.length by have := HNE.out; omega))).2.1
                  have h2 := HLR.out i
                  omega)
                clear g3 y3 hrw b36 B35
                go_wp2_with fail
                have bw6 := Below.refl w6.heap.size w6
                go_loopw [15] (fun u wr => ∃ i : Nat, u = .int .i64 i ∧ i ≤ l.length ∧ Below w6.heap.size w6 wr) (fun u _ => l.length - (intOf u).toNat)
                case atStart => exact ⟨0, rfl, by omega, bw6⟩
                case round =>
                  clear bw6
                  obtain ⟨i, rfl, hi, hbl2⟩ := hrel
                  generalize wr = w9 at *
                  have hbw9 := hbw.trans (hbl2.mono hbw.size)
                  by_cases h0 : i < l.length
                  · have h0I : (i : Int) < (l.length : Int) := by omega
                    obtain ⟨b, off, rfl, hbN, hcell⟩ := HG3.out (by intro e; have e2 := congrArg List.length e; rw [rowsI_len, List.length_nil] at e2; omega)
                    obtain ⟨qa, qc, c0, q1, q2, q3⟩ := hcell i _ (rowsI_get h0)
                    obtain ⟨b', off', rfl, hbN', hcell'⟩ := HW3.out (by intro e; have e2 := congrArg List.length e; rw [rowsI_len, List.length_nil] at e2; omega)
                    obtain ⟨qa', qc', c0', q1', q2', q3'⟩ := hcell' i _ (rowsI_get h0)
                    have c0 := keep_cellN hbl2 hbN c0
                    have c0' := keep_cellN hbl2 hbN' c0'
                    have hbr : b < w9.heap.size := by have := hbl2.size; omega
                    have hbr' : b' < w9.heap.size := by have := hbl2.size; omega
                    have hxl : (relRow l rs U i).length ≤ 9223372036854775807 := by have := HOS.out i h0; omega
                    have HI := fun W (hb : Below w9.heap.size w9 W) => (ints_any (relRow l rs U i) (relRow l rs U i) qa qa' qc qc' W hxl hxl (q3.on (hbl2.trans (hb.mono hbl2.size)) (hbl2.trans (hb.mono hbl2.size)).size) (q3'.on (hbl2.trans (hb.mono hbl2.size)) (hbl2.trans (hb.mono hbl2.size)).size)).mono fun e w' (h : e = .returned (.bool (decide (relRow l rs U i = relRow l rs U i))) ∧ _) => And.intro (show e = .returned (.bool true) by rw [h.1, decide_eq_true rfl]) h.2
                    clear hcell hcell' q3 q3' q1 q2 q1' q2'
                    generalize (relRow l rs U i).length = xn at *
                    go_upto_region 31 with fail
                    refine wp_region_quiet (C := fun W => Below w9.heap.size w9 W) (by kernel_rfl) (by kernel_rfl) (Below.refl _ _).drew ?_
                    repeat (
                      refine wpQuiet_step (fun K hK => ?_)
                      go_simp
                      first
                        | (refine hK _ ?_; clear hK K)
                        | (apply Exists.intro
                           refine ⟨fun W q0 => ?_, hK _ ?_⟩
                           (first
                             | rfl
                             | (have z1 := keep_cellN q0 hbr c0; have z2 := keep_cellN q0 hbr' c0'; have z3 : b < W.heap.size := Nat.lt_of_lt_of_le hbr q0.size; have z4 : b' < W.heap.size := Nat.lt_of_lt_of_le hbr' q0.size; go_simp; rfl)
                             | (go_at_call 23; ((with_reducible refine (HI _ q0).mono ?_)); rintro e w5 ⟨rfl, hb5⟩; exact ⟨rfl, q0.trans (hb5.mono q0.size)⟩))
                           clear hK K))
                    refine wpQuiet_nil ?_
                    intro w10 hW
                    have b10 := hbl2.trans (hW.mono hbl2.size)
                    clear HI hW c0 c0'
                    go_wp2_with fail
                    go_roundw
                    case rel => exact ⟨i + 1, by go_num, by omega, b10⟩
                    case measure => simp [intOf]; omega
                  · obtain rfl : i = l.length := by omega
                    go_wp2_with fail
                    go_ret
                    exact ⟨rfl, hbw9⟩
          · have HE := relE_bad hg
            have hm := HB.out (by rw [HE]; decide)
            subst hm
            rw [HE]
            clear HB HG
            cases hv : tsOK l
            · clear hg
              go_wp2_with fail
              go_ret
              exact ⟨rfl, b5⟩
            · have hne : ¬ rs.length = l.length := fun e => hg ⟨hv, e⟩
              have hneb : ((l.length : Int) != (rs.length : Int)) = true := bne_iff_ne.2 (by omega)
              have hneb2 : (l.length != rs.length) = true := bne_iff_ne.2 (by omega)
              clear hg
              go_wp2_with fail
              go_ret
              exact ⟨rfl, b5⟩
    · have g60I : (60 : Int) < (rs.length : Int) := by omega
      clear hc hr
      go_enter Try.func6, Try.ntmps6
      go_wp2_with (go_at_call 12; refine HA.mono ?_; rintro e w1 ⟨rfl, hb1⟩)
      go_ret
      exact ⟨rfl, hb1⟩
  · have h60I : (60 : Int) < (l.length : Int) := by omega
    clear hc hr
    go_enter Try.func6, Try.ntmps6
    go_wp2_with (go_at_call 12; refine HA.mono ?_; rintro e w1 ⟨rfl, hb1⟩)
    go_ret
    exact ⟨rfl, hb1⟩
end Go.Proofs.Ytdjpkebajcpfbaa
