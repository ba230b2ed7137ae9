/- The walk over TasksetApart: it answers true. Conditions: the arguments lie in memory. -/
import Derived.Test.YtdjpkebajcpfbaaAwake41
namespace Go.Proofs.Ytdjpkebajcpfbaa
open Go.RowKit Go.Deep

theorem relE_zero {l : List TT} {rs : List (List Int)} (h : relE l rs = 0) : tsOK l = true ∧ rs.length = l.length ∧ ∀ i, i < rs.length → rowB (rwAt rs i) = true := by
  unfold relE at h
  split at h
  · rename_i h1
    split at h
    · rename_i h2
      exact ⟨h1.1, h1.2, allB_iff.1 h2⟩
    · cases h
  · cases h
theorem relE_ok {l : List TT} {rs : List (List Int)} (h : tsOK l = true) (h2 : rs.length = l.length) (hb : ∀ i, i < rs.length → rowB (rwAt rs i) = true) : relE l rs = 0 := by
  unfold relE
  rw [if_pos ⟨h, h2⟩, allB_iff.2 hb]; rfl
theorem rel_row {l : List TT} {rs : List (List Int)} (U : Int) (i : Nat) : (∀ k, k < (relRow l rs U i).length → (rwAt rs i).getD k 0 ≤ (relRow l rs U i).getD k 0 ∧ 0 ≤ (relRow l rs U i).getD k 0 ∧ (relRow l rs U i).getD k 0 < U ∧ (0 < k → (tp l i : Int) ≤ (relRow l rs U i).getD k 0 - (relRow l rs U i).getD (k - 1) 0)) ∧ relT (tp l i : Nat) U (relRow l rs U i) 0 = relRow l rs U i := by
  obtain ⟨h1, h2⟩ := relT_ok (P := (tp l i : Nat)) (U := U) (by omega) (rwAt rs i) 0
  exact ⟨h1, h2 0 (Int.le_refl _)⟩
theorem rel_again {l : List TT} {rs : List (List Int)} {U : Int} : relRows l (relRows l rs U) U = relRows l rs U :=
  rowsI_congr fun i hi => by
    show relT (tp l i : Nat) U (rwAt (relRows l rs U) i) 0 = _
    rw [show rwAt (relRows l rs U) i = relRow l rs U i from rowsI_at hi]
    exact (rel_row U i).2
theorem rel_agE {l : List TT} {rs : List (List Int)} {U : Int} (h : tsOK l = true) : relE l (relRows l rs U) = 0 :=
  relE_ok h (rowsI_len _ _) fun i hi => by
    have hi : i < l.length := by unfold relRows at hi; rwa [rowsI_len] at hi
    rw [show rwAt (relRows l rs U) i = relRow l rs U i from rowsI_at hi]
    refine rowB_iff.2 fun k hk => ?_
    obtain ⟨_, h2, _, h4⟩ := (rel_row (rs := rs) U i).1 k hk
    cases k with
    | zero => simpa [prevI] using h2
    | succ k =>
      rw [prevI_succ]
      have := h4 (by omega)
      simp only [Nat.add_sub_cancel] at this
      omega
theorem rel_fit {l : List TT} {rs : List (List Int)} {U : Int} (hU : U ≤ 1073741824) (hr : ∀ r ∈ rs, r.length ≤ 30) : ∀ r ∈ relRows l rs U, FitI r ∧ r.length ≤ 30 ∧ ∀ x ∈ r, x ≤ 2199023255552 := fun r hm => by
  obtain ⟨i, hi, rfl⟩ := List.mem_map.1 hm
  have hi : i < l.length := by simpa using hi
  have hb : ∀ x ∈ relRow l rs U i, 0 ≤ x ∧ x < U := fun x hx => by
    obtain ⟨k, hk⟩ := List.mem_iff_getElem?.1 hx
    have hlt := (List.getElem?_eq_some_iff.1 hk).1
    obtain ⟨_, h2, h3, _⟩ := (rel_row (rs := rs) U i).1 k hlt
    rw [getD_get hlt] at hk
    simp only [Option.some.injEq] at hk
    rw [← hk]; exact ⟨h2, h3⟩
  refine ⟨fun x hx => ?_, ?_, fun x hx => ?_⟩
  · have := hb x hx; omega
  · have h1 : (relRow l rs U i).length ≤ (rwAt rs i).length := relT_len _ _ _ _
    by_cases e : i < rs.length
    · have := hr _ (rwAt_mem e); omega
    · have : rwAt rs i = [] := by unfold rwAt; rw [List.getD_eq_getElem?_getD, List.getElem?_eq_none (by omega)]; rfl
      rw [this, List.length_nil] at h1; omega
  · have := hb x hx; omega

set_option maxRecDepth 100000 in
set_option maxHeartbeats 6400000 in
theorem law_apart (l : List TT) (a : Option Addr) (cap : Nat) (rs : List (List Int)) (ra : Option Addr) (rcap : Nat) (U : Int) (w : World) (hl : l.length ≤ cap) (hcap : cap ≤ 9223372036854775807) (hc : TSAt w w.heap.size a l)
    (hrl : rs.length ≤ rcap) (hrcap : rcap ≤ 9223372036854775807) (hr : RowsAt w w.heap.size ra rs) (hrr : ∀ r ∈ rs, FitI r) (hU : -9223372036854775808 ≤ U ∧ U ≤ 9223372036854775807) :
    Calls Try.prog 7 #[.slice a l.length cap, .slice ra rs.length rcap, .int .i64 U] w fun e w' => e = .returned (.bool true) ∧ Below w.heap.size w w' := by
  have hll : l.length ≤ 9223372036854775807 := by omega
  have hlI : (l.length : Int) ≤ 9223372036854775807 := by omega
  have hrI : (rs.length : Int) ≤ 9223372036854775807 := by omega
  have HA := awake_any w
  have HRR := Lib.hid hrr
  clear hrr
  rcases Int.lt_or_le 1073741824 U with hU1 | hU1
  · clear hc hr
    by_cases h60 : (40 : Int) < (l.length : Int)
    · clear hU1
      go_enter Try.func7, Try.ntmps7
      go_wp2_with (go_at_call 12; refine HA.mono ?_; rintro e w1 ⟨rfl, hb1⟩)
      go_ret
      exact ⟨rfl, hb1⟩
    · by_cases g60 : (40 : Int) < (rs.length : Int)
      · clear hU1
        go_enter Try.func7, Try.ntmps7
        go_wp2_with (go_at_call 12; refine HA.mono ?_; rintro e w1 ⟨rfl, hb1⟩)
        go_ret
        exact ⟨rfl, hb1⟩
      · skip
        go_enter Try.func7, Try.ntmps7
        go_wp2_with (go_at_call 12; refine HA.mono ?_; rintro e w1 ⟨rfl, hb1⟩)
        go_ret
        exact ⟨rfl, hb1⟩
  have hU2 : ¬ 1073741824 < U := by omega
  by_cases h60 : l.length ≤ 40
  · have h60I : ¬ (40 : Int) < (l.length : Int) := by omega
    by_cases g60 : rs.length ≤ 40
    · have g60I : ¬ (40 : Int) < (rs.length : Int) := by omega
      have HC := Lib.hid hc
      have HR := Lib.hid hr
      clear hc hr
      go_enter Try.func7, Try.ntmps7
      go_wp2_with (go_at_call 12; refine HA.mono ?_; rintro e w1 ⟨rfl, hb1⟩)
      clear HA h60I g60I
      go_loopw [7] (fun u wr => ∃ i : Nat, u = .int .i64 i ∧ i ≤ rs.length ∧ Hid (∀ j, j < i → (rwAt rs j).length ≤ 30 ∧ ∀ x ∈ rwAt rs j, x ≤ 1099511627776) ∧ Below w.heap.size w wr) (fun u _ => rs.length - (intOf u).toNat)
      case atStart => exact ⟨0, rfl, by omega, Lib.hid (fun j hj => absurd hj (Nat.not_lt_zero _)), hb1⟩
      case round =>
        clear hb1
        obtain ⟨i, rfl, hi, hall, hbl⟩ := hrel
        generalize wr = w2 at *
        by_cases h0 : i < rs.length
        · have h0I : (i : Int) < (rs.length : Int) := by omega
          obtain ⟨b, off, rfl, hbN, hcell⟩ := HR.out (by intro e; simp [e] at h0)
          obtain ⟨qa, qc, c0, q1, q2, q3⟩ := hcell i _ (rwAt_get h0)
          have HC0 := Lib.hid c0
          have c0 := keep_cellN hbl hbN c0
          have hbr : b < w2.heap.size := by have := hbl.size; omega
          have HNX := Lib.hid (fun (h1 : (rwAt rs i).length ≤ 30) (h2 : ∀ x ∈ rwAt rs i, x ≤ 1099511627776) j (hj : j < i + 1) => show (rwAt rs j).length ≤ 30 ∧ ∀ x ∈ rwAt rs j, x ≤ 1099511627776 from by
            by_cases e : j = i
            · subst e; exact ⟨h1, h2⟩
            · exact hall.out j (by omega))
          have HIA := Lib.hid q3
          clear hcell hall q3
          generalize rwAt rs i = os at *
          by_cases h30 : os.length ≤ 30
          · have h30I : ¬ (30 : Int) < (os.length : Int) := by omega
            have HNX := Lib.hid (HNX.out h30)
            go_wp2_with fail
            go_loopw [8] (fun u wr => ∃ k : Nat, u = .int .i64 k ∧ k ≤ os.length ∧ Hid (∀ j, j < k → os.getD j 0 ≤ 1099511627776) ∧ Below w.heap.size w wr) (fun u _ => os.length - (intOf u).toNat)
            case atStart => exact ⟨0, rfl, by omega, Lib.hid (fun j hj => absurd hj (Nat.not_lt_zero _)), hbl⟩
            case round =>
              clear hbl c0
              obtain ⟨k, rfl, hk, hall, hbl⟩ := hrel
              have c0 := keep_cellN hbl hbN HC0.out
              have hbr2 : b < wr.heap.size := by have := hbl.size; omega
              by_cases h1 : k < os.length
              · have h1I : (k : Int) < (os.length : Int) := by omega
                obtain ⟨ob, oo, rfl, hoN, hoc⟩ := HIA.out (by intro e; simp [e] at h1)
                have x0 := keep_cellN hbl hoN (hoc k _ (getD_get h1))
                have hobr : ob < wr.heap.size := by have := hbl.size; omega
                have HS := Lib.hid (fun (h : os.getD k 0 ≤ 1099511627776) j (hj : j < k + 1) => show os.getD j 0 ≤ 1099511627776 from by
                  by_cases e : j = k
                  · subst e; exact h
                  · exact hall.out j (by omega))
                clear hoc hall
                generalize os.getD k 0 = x at *
                by_cases hx : x ≤ 1099511627776
                · have hxI : ¬ (1099511627776 : Int) < x := by omega
                  have HS := Lib.hid (HS.out hx)
                  go_wp2_with fail
                  go_roundw
                  case rel => exact ⟨k + 1, by go_num, by omega, HS, hbl⟩
                  case measure => simp [intOf]; omega
                · have hxI : (1099511627776 : Int) < x := by omega
                  clear HS
                  go_wp2_with fail
                  go_ret
                  exact ⟨rfl, hbl⟩
              · obtain rfl : k = os.length := by omega
                have HS := Lib.hid (HNX.out (fun x hx => by
                  obtain ⟨j, hj⟩ := List.mem_iff_getElem?.1 hx
                  have hjl := (List.getElem?_eq_some_iff.1 hj).1
                  have := hall.out j hjl
                  rw [getD_get hjl] at hj
                  simp only [Option.some.injEq] at hj
                  rw [hj] at this; exact this))
                clear hall
                go_wp2_with fail
                go_roundw
                case rel => exact ⟨i + 1, by go_num, by omega, HS, hbl⟩
                case measure => simp [intOf]; omega
          · have h30I : (30 : Int) < (os.length : Int) := by omega
            clear HNX
            go_wp2_with fail
            go_ret
            exact ⟨rfl, hbl⟩
        · obtain rfl : i = rs.length := by omega
          have HSM := Lib.hid (show ∀ r ∈ rs, FitI r ∧ r.length ≤ 30 ∧ ∀ x ∈ r, x ≤ 2199023255552 from fun r hr => by
            obtain ⟨j, hj⟩ := List.mem_iff_getElem?.1 hr
            have hjl := (List.getElem?_eq_some_iff.1 hj).1
            have h2 := hall.out j hjl
            rw [rwAt_get hjl] at hj
            simp only [Option.some.injEq] at hj
            rw [hj] at h2
            exact ⟨HRR.out r hr, h2.1, fun x hx => by have := h2.2 x hx; omega⟩)
          clear hall HRR h0 hi
          have HT := treleases_any l a cap rs ra rcap U w2 hll (by omega) hU HSM.out (HC.out.on hbl hbl.size) (HR.out.on hbl hbl.size)
          go_wp2_with fail
          refine HT.mono ?_
          rintro e w3 ⟨ga, m, gcap, rfl, hgood, hbad, hb3⟩
          have b3 := hbl.trans (hb3.mono hbl.size)
          have HG := Lib.hid hgood
          have HB := Lib.hid hbad
          clear HT hgood hbad hb3 hbl
          simp only []
          by_cases h0 : relE l rs = 0
          · obtain ⟨hok, hne, hrb⟩ := relE_zero h0
            obtain ⟨rfl, g1, g2, g3⟩ := HG.out h0
            have HOK := Lib.hid hok
            have HNE := Lib.hid hne
            have HG3 := Lib.hid g3
            have HT2 := Lib.hid (fun W (hb : Below w3.heap.size w3 W) => treleases_any l a cap (relRows l rs U) ga gcap U W hll (by rw [show (relRows l rs U).length = l.length from rowsI_len _ _]; omega) hU (rel_fit hU1 (fun r hr => (HSM.out r hr).2.1)) (HC.out.on (b3.trans (hb.mono b3.size)) (b3.trans (hb.mono b3.size)).size) (g3.on hb hb.size))
            have HAE := Lib.hid (rel_agE (rs := rs) (U := U) hok)
            have HLR := Lib.hid (fun i => show (relRow l rs U i).length ≤ (rwAt rs i).length from relT_len _ _ _ _)
            have HOS := Lib.hid (fun i (hi : i < l.length) => show (rwAt rs i).length ≤ 30 from (HSM.out _ (rwAt_mem (show i < rs.length by omega))).2.1)
            rw [h0]
            clear HB HG hok hrb h0 g3 HSM
            have bw3 := Below.refl w3.heap.size w3
            have hneI : (rs.length : Int) = (l.length : Int) := by omega
            go_wp2_with fail
            clear hneI hne
            go_loopw [11] (fun u wr => ∃ i : Nat, u = .int .i64 i ∧ i ≤ l.length ∧ Below w3.heap.size w3 wr) (fun u _ => l.length - (intOf u).toNat)
            case atStart => exact ⟨0, rfl, by omega, bw3⟩
            case round =>
              clear bw3
              obtain ⟨i, rfl, hi, hbl⟩ := hrel
              have hbw := b3.trans (hbl.mono b3.size)
              generalize wr = w4 at *
              by_cases h0 : i < l.length
              · have h0I : (i : Int) < (l.length : Int) := by omega
                have h0r : i < rs.length := by have := HNE.out; omega
                have h0rI : (i : Int) < (rs.length : Int) := by omega
                have e1 : decide ((l.length : Int) ≤ (i : Int)) = false := decide_eq_false (by omega)
                obtain ⟨b, off, rfl, hbN, hcell⟩ := HG3.out (by intro e; have e2 := congrArg List.length e; rw [show (relRows l rs U).length = l.length from rowsI_len _ _, List.length_nil] at e2; omega)
                obtain ⟨qa, qc, c0, q1, q2, q3⟩ := hcell i _ (rowsI_get h0)
                have HC0 := Lib.hid c0
                have c0 := keep_cellN hbl hbN c0
                have hbr : b < w4.heap.size := by have := hbl.size; omega
                obtain ⟨b', off', rfl, hbN', hcell'⟩ := HR.out (by intro e; simp [e] at h0r)
                obtain ⟨qa', qc', c0', q1', q2', q3'⟩ := hcell' i _ (rwAt_get h0r)
                have HC0' := Lib.hid c0'
                have c0' := keep_cellN hbw hbN' c0'
                have hbr' : b' < w4.heap.size := by have := hbw.size; omega
                obtain ⟨tb, to', rfl, htN, tcell⟩ := HC.out (by intro e; simp [e] at h0)
                obtain ⟨l0, l1, l2⟩ := tcell i _ (ttAt_get h0)
                obtain ⟨t1, t2, t3, t4, t5⟩ := tsOK_at HOK.out h0
                rw [t5] at l2
                have HL2 := Lib.hid l2
                have hle := HLR.out i
                have h30 := HOS.out i h0
                have HX := Lib.hid (rel_row (l := l) (rs := rs) U i).1
                have HQ := Lib.hid q3
                have HQ' := Lib.hid q3'
                clear hcell hcell' tcell l0 l1 l2 t4 t5 q3 q3'
                generalize relRow l rs U i = xs at *
                generalize rwAt rs i = os at *
                generalize tp l i = P at *
                have e2 : decide ((os.length : Int) < (xs.length : Int)) = false := decide_eq_false (by omega)
                have hx30 : (xs.length : Int) ≤ 30 := by omega
                have ho30 : (os.length : Int) ≤ 30 := by omega
                go_upto_region 21 with fail
                go_quiet (fail)
                have hbl2 : ∀ n, Below w3.heap.size w3 (w4.drewN n) := fun n => below_drewN hbl n
                clear e1 e2 c0 c0'
                go_wp2_with fail
                have hbl3 := hbl2 nq
                clear hbl2 hbl
                generalize w4.drewN nq = w5 at *
                go_loopw [12] (fun u wr => ∃ k : Nat, u = .int .i64 k ∧ k ≤ xs.length ∧ Below w3.heap.size w3 wr) (fun u _ => xs.length - (intOf u).toNat)
                case atStart => exact ⟨0, rfl, by omega, hbl3⟩
                case round =>
                  clear hbl3
                  obtain ⟨k, rfl, hk, hbl⟩ := hrel
                  have hbw := b3.trans (hbl.mono b3.size)
                  have c0 := keep_cellN hbl hbN HC0.out
                  have hbr : b < wr.heap.size := by have := hbl.size; omega
                  generalize wr = w6 at *
                  by_cases h1 : k < xs.length
                  · have h1I : (k : Int) < (xs.length : Int) := by omega
                    have h1o : k < os.length := by omega
                    have h1oI : (k : Int) < (os.length : Int) := by omega
                    have c0' := keep_cellN hbw hbN' HC0'.out
                    have hbr' : b' < w6.heap.size := by have := hbw.size; omega
                    have l2 := keep_cellN hbw htN HL2.out
                    have htr : tb < w6.heap.size := by have := hbw.size; omega
                    obtain ⟨xb, xo, rfl, hxN, hxc⟩ := HQ.out (by intro e; simp [e] at h1)
                    have x0 := keep_cellN hbl hxN (hxc k _ (getD_get h1))
                    have hxr : xb < w6.heap.size := by have := hbl.size; omega
                    obtain ⟨ob, oo, rfl, hoN, hoc⟩ := HQ'.out (by intro e; simp [e] at h1o)
                    have o0 := keep_cellN hbw hoN (hoc k _ (getD_get h1o))
                    have hor : ob < w6.heap.size := by have := hbw.size; omega
                    obtain ⟨p1, p2, p3, p4⟩ := HX.out k h1
                    have e1 : decide (xs.getD k 0 < os.getD k 0) = false := decide_eq_false (by omega)
                    have e2 : decide (U ≤ xs.getD k 0) = false := decide_eq_false (by omega)
                    rcases Nat.eq_zero_or_pos k with hk0 | hk0
                    · have e3 : decide ((0 : Int) < (k : Int)) = false := decide_eq_false (by omega)
                      have e3n : decide (0 < k) = false := decide_eq_false (by omega)
                      clear hxc hoc p1 p2 p3 p4 hk0
                      generalize xs.getD k 0 = x at *
                      generalize os.getD k 0 = o at *
                      go_wp2_with fail
                      go_quiet (fail)
                      go_wp2_with fail
                      go_roundw
                      case rel => exact ⟨k + 1, by go_num, by omega, below_drewN hbl _⟩
                      case measure => simp [intOf]; omega
                    · obtain ⟨j, rfl⟩ : ∃ j, k = j + 1 := ⟨k - 1, by omega⟩
                      have p4 := p4 (by omega)
                      rw [Nat.add_sub_cancel] at p4
                      obtain ⟨_, p5, p6, _⟩ := HX.out j (by omega)
                      have y0 := keep_cellN hbl hxN (hxc j _ (getD_get (by omega)))
                      have e3 : decide ((0 : Int) < ((j + 1 : Nat) : Int)) = true := decide_eq_true (by omega)
                      have k0 : ((j + 1 : Nat) : Int) - 1 = (j : Int) := by omega
                      have k1 : (j : Int) < (xs.length : Int) := by omega
                      have e4 : decide (xs.getD (j + 1) 0 - xs.getD j 0 < (P : Int)) = false := decide_eq_false (by omega)
                      have e5 : wrap64 (xs.getD (j + 1) 0 - xs.getD j 0) = xs.getD (j + 1) 0 - xs.getD j 0 := IntWalk.wrap64_in _ (by omega)
                      clear hxc hoc p1 p4 hk0
                      generalize xs.getD (j + 1) 0 = x at *
                      generalize xs.getD j 0 = y at *
                      generalize os.getD (j + 1) 0 = o at *
                      go_wp2_with fail
                      go_quiet (fail)
                      go_wp2_with fail
                      go_roundw
                      case rel => exact ⟨j + 1 + 1, by go_num, by omega, below_drewN hbl _⟩
                      case measure => simp [intOf]; omega
                  · obtain rfl : k = xs.length := by omega
                    go_wp2_with fail
                    go_roundw
                    case rel => exact ⟨i + 1, by go_num, by omega, hbl⟩
                    case measure => simp [intOf]; omega
              · obtain rfl : i = l.length := by omega
                have HT3 := HT2.out w4 hbl
                rw [show (relRows l rs U).length = l.length from rowsI_len _ _] at HT3
                go_wp2_with fail
                refine HT3.mono ?_
                rintro e w5 ⟨ga2, m2, gcap2, rfl, hgood, _, hb5⟩
                obtain ⟨rfl, y1, y2, y3⟩ := hgood HAE.out
                rw [rel_again] at y3
                rw [HAE.out]
                have b5 := hbl.trans (hb5.mono hbl.size)
                have bw5 := b3.trans (b5.mono b3.size)
                have HG4 := Lib.hid (show RowsAt w5 w5.heap.size ga (rowsI l.length (relRow l rs U)) from HG3.out.on b5 b5.size)
                have HW4 := Lib.hid (show RowsAt w5 w5.heap.size ga2 (rowsI l.length (relRow l rs U)) from y3)
                have HXL := Lib.hid (fun i (hi : i < l.length) => show (relRow l rs U i).length ≤ 30 from by
                  have h1 := HLR.out i
                  have h2 := HOS.out i hi
                  omega)
                clear HT3 hgood hb5 y3 b5 HT2 HAE
                simp only []
                go_wp2_with fail
                have br5 := Below.refl w5.heap.size w5
                go_loopw [15] (fun u wr => ∃ i : Nat, u = .int .i64 i ∧ i ≤ l.length ∧ Below w5.heap.size w5 wr) (fun u _ => l.length - (intOf u).toNat)
                case atStart => exact ⟨0, rfl, by omega, br5⟩
                case round =>
                  clear br5
                  obtain ⟨i, rfl, hi, hbl2⟩ := hrel
                  generalize wr = w9 at *
                  have hbw9 := bw5.trans (hbl2.mono bw5.size)
                  by_cases h0 : i < l.length
                  · have h0I : (i : Int) < (l.length : Int) := by omega
                    obtain ⟨b, off, rfl, hbN, hcell⟩ := HG4.out (by intro e; have e2 := congrArg List.length e; rw [rowsI_len, List.length_nil] at e2; omega)
                    obtain ⟨qa, qc, c0, q1, q2, q3⟩ := hcell i _ (rowsI_get h0)
                    obtain ⟨b', off', rfl, hbN', hcell'⟩ := HW4.out (by intro e; have e2 := congrArg List.length e; rw [rowsI_len, List.length_nil] at e2; omega)
                    obtain ⟨qa', qc', c0', q1', q2', q3'⟩ := hcell' i _ (rowsI_get h0)
                    have c0 := keep_cellN hbl2 hbN c0
                    have c0' := keep_cellN hbl2 hbN' c0'
                    have hbr : b < w9.heap.size := by have := hbl2.size; omega
                    have hbr' : b' < w9.heap.size := by have := hbl2.size; omega
                    have hxl : (relRow l rs U i).length ≤ 9223372036854775807 := by have := HXL.out i h0; omega
                    have HI := fun W (hb : Below w9.heap.size w9 W) => (ints_any (relRow l rs U i) (relRow l rs U i) qa' qa qc' qc W hxl hxl (q3'.on (hbl2.trans (hb.mono hbl2.size)) (hbl2.trans (hb.mono hbl2.size)).size) (q3.on (hbl2.trans (hb.mono hbl2.size)) (hbl2.trans (hb.mono hbl2.size)).size)).mono fun e w' (h : e = .returned (.bool (decide (relRow l rs U i = relRow l rs U i))) ∧ _) => And.intro (show e = .returned (.bool true) by rw [h.1, decide_eq_true rfl]) h.2
                    clear hcell hcell' q3 q3' q1 q2 q1' q2'
                    generalize (relRow l rs U i).length = xn at *
                    go_wp2_with fail
                    refine wp_region_quiet (C := fun W => Below w9.heap.size w9 W) (by kernel_rfl) (by kernel_rfl) (Below.refl _ _).drew ?_
                    repeat (
                      refine wpQuiet_step (fun K hK => ?_)
                      go_simp
                      first
                        | (refine hK _ ?_; clear hK K)
                        | (apply Exists.intro
                           refine ⟨fun W q0 => ?_, hK _ ?_⟩
                           (first
                             | rfl
                             | (have z1 := keep_cellN q0 hbr c0; have z2 := keep_cellN q0 hbr' c0'; have z3 : b < W.heap.size := Nat.lt_of_lt_of_le hbr q0.size; have z4 : b' < W.heap.size := Nat.lt_of_lt_of_le hbr' q0.size; go_simp; rfl)
                             | (go_at_call 23; ((with_reducible refine (HI _ q0).mono ?_)); rintro e w5 ⟨rfl, hb5⟩; exact ⟨rfl, q0.trans (hb5.mono q0.size)⟩))
                           clear hK K))
                    refine wpQuiet_nil ?_
                    intro w10 hW
                    have b10 := hbl2.trans (hW.mono hbl2.size)
                    clear HI hW c0 c0'
                    go_wp2_with fail
                    go_roundw
                    case rel => exact ⟨i + 1, by go_num, by omega, b10⟩
                    case measure => simp [intOf]; omega
                  · obtain rfl : i = l.length := by omega
                    go_wp2_with fail
                    go_ret
                    exact ⟨rfl, hbw9⟩
          · have h0b : (relE l rs != 0) = true := by simp [h0]
            clear HB HG
            generalize relE l rs = E at *
            go_wp2_with fail
            go_ret
            exact ⟨rfl, b3⟩
    · have g60I : (40 : Int) < (rs.length : Int) := by omega
      clear hc hr
      go_enter Try.func7, Try.ntmps7
      go_wp2_with (go_at_call 12; refine HA.mono ?_; rintro e w1 ⟨rfl, hb1⟩)
      go_ret
      exact ⟨rfl, hb1⟩
  · have h60I : (40 : Int) < (l.length : Int) := by omega
    clear hc hr
    go_enter Try.func7, Try.ntmps7
    go_wp2_with (go_at_call 12; refine HA.mono ?_; rintro e w1 ⟨rfl, hb1⟩)
    go_ret
    exact ⟨rfl, hb1⟩
end Go.Proofs.Ytdjpkebajcpfbaa
