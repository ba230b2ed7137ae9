/- The walk over FlowJobs. Conditions: the arguments lie in memory. -/
import Derived.Test.YtobjcdbbdgloiaaJobs47
import Derived.Test.YtobjcdbbdgloiaaEqFJ
import Derived.Test.YtobjcdbbdgloiaaAwake47
namespace Go.Proofs.Ytobjcdbbdgloiaa
open Go.RowKit Go.Deep

set_option maxRecDepth 100000 in
set_option maxHeartbeats 6400000 in
theorem law_jobs (l : List TT) (a : Option Addr) (cap : Nat) (rs : List (List Int)) (ra : Option Addr) (rcap : Nat) (un : Int) (w : World) (hl : l.length ≤ cap) (hcap : cap ≤ 9223372036854775807) (hc : TSAt w w.heap.size a l)
    (hrl : rs.length ≤ rcap) (hrcap : rcap ≤ 9223372036854775807) (hr : RowsAt w w.heap.size ra rs) (hrr : ∀ r ∈ rs, FitI r) :
    Calls Try.prog 10 #[.slice a l.length cap, .slice ra rs.length rcap, .int .i64 un] w fun e w' => e = .returned (.bool true) ∧ Below w.heap.size w w' := by
  have hlI : (l.length : Int) ≤ 9223372036854775807 := by omega
  have hrI : (rs.length : Int) ≤ 9223372036854775807 := by omega
  have HRR := Lib.hid hrr
  clear hrr
  go_enter Try.func10, Try.ntmps10
  go_wp2_with fail
  refine (awake47_any _).mono ?_
  rintro e w1 ⟨rfl, hb1⟩
  have s1 := hb1.size
  have AW := Lib.hid (awake47_any w1)
  by_cases h14 : l.length ≤ 14
  · have h14' : (l.length : Int) ≤ 14 := by omega
    by_cases h28 : rs.length ≤ 28
    · have h28' : (rs.length : Int) ≤ 28 := by omega
      have c1 := hc.on hb1 s1
      have r1 := hr.on hb1 s1
      have TV := Lib.hid (tvalid_any l a cap w1 (by omega) c1)
      clear AW hc hr
      go_wp2_with fail
      refine TV.out.mono ?_
      rintro e w2 ⟨rfl, hb2⟩
      have b2 := hb1.trans (hb2.mono s1)
      have s2 := b2.size
      have B2 := Lib.hid b2
      have c2 := c1.on hb2 hb2.size
      have r2 := r1.on hb2 hb2.size
      have FIN : ∀ W v, Below w2.heap.size w2 W → (tsOK l = true → rs.length = l.length → small40 rs) → FJW w2.heap.size W v (if tsOK l = true ∧ rs.length = l.length then jobsTo l rs un l.length else []) → (if tsOK l = true ∧ rs.length = l.length then jobsTo l rs un l.length else []).length ≤ 1000000 →
          ∃ va vc, v = .slice va (if tsOK l = true ∧ rs.length = l.length then jobsTo l rs un l.length else []).length vc ∧ Calls Try.prog 26 #[.slice a l.length cap, .slice ra rs.length rcap, .int .i64 un] W fun e w' => ∃ ja jc, e = .returned (.slice ja (if tsOK l = true ∧ rs.length = l.length then jobsTo l rs un l.length else []).length jc) ∧ Below W.heap.size W w' ∧
            Calls Try.prog 25 #[.slice ja (if tsOK l = true ∧ rs.length = l.length then jobsTo l rs un l.length else []).length jc, .slice va (if tsOK l = true ∧ rs.length = l.length then jobsTo l rs un l.length else []).length vc] w' fun e w'' => e = .returned (.bool true) ∧ Below w'.heap.size w' w'' := by
        intro W v hb hsm hfw hlen
        obtain ⟨va, vc, rfl, _, _, z3⟩ := hfw.jobs
        refine ⟨va, vc, rfl, (jobs_any l a cap rs ra rcap un W (by omega) (by omega) hsm (c2.on hb hb.size) (r2.on hb hb.size)).mono ?_⟩
        rintro e w' ⟨ja, jc, rfl, _, _, hj, hb'⟩
        exact ⟨ja, jc, rfl, hb', eqfj_any _ ja va jc vc w' hlen hj (z3.on hb' hb'.size)⟩
      have FIN := Lib.hid FIN
      clear TV hb1 hb2 c1 r1 s1
      by_cases hok : tsOK l = true ∧ rs.length = l.length
      · obtain ⟨hv, hn⟩ := hok
        have HE := (show (if tsOK l = true ∧ rs.length = l.length then jobsTo l rs un l.length else []) = jobsTo l rs un l.length from if_pos ⟨hv, hn⟩)
        rw [HE] at FIN
        have HN := Lib.hid hn
        have HV := Lib.hid hv
        have hq2 : ((rs.length : Int) == (l.length : Int)) = true := by simp [hn]
        have HOK := Lib.hid (tsOK_bd hv).2
        rw [hv]
        clear hv hn HE
        go_wp2_with fail
        clear hq2
        go_loopw [37, 7] (fun u v wr => ∃ i : Nat, u = .int .i64 i ∧ i ≤ rs.length ∧ Hid (FJW w2.heap.size wr v (jobsTo l rs un i)) ∧ Hid (∀ j, j < i → (rwAt rs j).length ≤ 50 ∧ ∀ x ∈ rwAt rs j, -1099511627776 ≤ x ∧ x ≤ 1099511627776) ∧ (jobsTo l rs un i).length ≤ 50 * i ∧ Below w2.heap.size w2 wr) (fun u _ _ => rs.length - (intOf u).toNat)
        case atStart => exact ⟨0, rfl, by omega, FJW.nil _ _, fun j hj => absurd hj (Nat.not_lt_zero _), by simp [jobsTo], Below.refl _ _⟩
        case round =>
          obtain ⟨i, rfl, hi, hfw, hall, hjl, hbl⟩ := hrel
          have hbs := hbl.size
          by_cases hlt : i < rs.length
          · have i0 : (0 : Int) ≤ (i : Int) := by omega
            have i1 : (i : Int) < (rs.length : Int) := by omega
            have i2 : i < l.length := by rw [← HN.out]; exact hlt
            have i3 : (i : Int) < (l.length : Int) := by omega
            obtain ⟨rb, ro, rfl, hrN, hrc⟩ := r2 (by intro e; rw [e] at hlt; simp at hlt)
            obtain ⟨xa, xc, q0, q1, q2, q3⟩ := hrc i _ (rwAt_get hlt)
            have q0 := keep_cellN hbl hrN q0
            have HR3 := Lib.hid q3
            have hrw : rb < wr.heap.size := by omega
            have HC2 := Lib.hid c2
            obtain ⟨o1, o2, o3⟩ := HOK.out i i2
            have HSU := Lib.hid (jobsTo_succ l rs un i)
            have HAL := Lib.hid (fun (h1 : (rwAt rs i).length ≤ 50) (h2 : ∀ x ∈ rwAt rs i, -1099511627776 ≤ x ∧ x ≤ 1099511627776) j (hj : j < i + 1) => show (rwAt rs j).length ≤ 50 ∧ ∀ x ∈ rwAt rs j, -1099511627776 ≤ x ∧ x ≤ 1099511627776 from by
              by_cases e : j = i
              · subst e; exact ⟨h1, h2⟩
              · exact hall.out j (by omega))
            have HTG := Lib.hid (ttAt_get i2)
            clear hrc q3 hall c2
            generalize rwAt rs i = r at *
            have HJ := Lib.hid hfw.out
            clear hfw
            generalize jobsTo l rs un i = J at *
            generalize ttAt l i = t at *
            by_cases h50 : r.length ≤ 50
            · have h50' : (r.length : Int) ≤ 50 := by omega
              go_wp2_with fail
              clear q0
              go_loopw [47, 7] (fun u v wr => ∃ k : Nat, u = .int .i64 k ∧ k ≤ r.length ∧ Hid (FJW w2.heap.size wr v (J ++ jobRow t un r k)) ∧ Hid (∀ j, j < k → -1099511627776 ≤ r.getD j 0 ∧ r.getD j 0 ≤ 1099511627776) ∧ Below w2.heap.size w2 wr) (fun u _ _ => r.length - (intOf u).toNat)
              case atStart => exact ⟨0, rfl, by omega, by rw [jobRow_zero, List.append_nil]; exact HJ.out, fun j hj => absurd hj (Nat.not_lt_zero _), hbl⟩
              case round =>
                obtain ⟨k, rfl, hk, hfw, hall, hbl⟩ := hrel
                have hbs := hbl.size
                clear HJ
                by_cases hkl : k < r.length
                · have k0 : (0 : Int) ≤ (k : Int) := by omega
                  have k1 : (k : Int) < (r.length : Int) := by omega
                  obtain ⟨xb, xo, rfl, hxN, hxc⟩ := HR3.out (by intro e; rw [e] at hkl; simp at hkl)
                  have x0 := keep_cellN hbl hxN (hxc k _ (getD_get hkl))
                  have hxw : xb < wr.heap.size := by omega
                  obtain ⟨b, off, rfl, hbN, hcell⟩ := HC2.out (by intro e; rw [e] at i2; simp at i2)
                  obtain ⟨d0, d1, d2⟩ := hcell i _ HTG.out
                  have d1 := keep_cellN hbl hbN d1
                  have d2 := keep_cellN hbl hbN d2
                  have hbw : b < wr.heap.size := by omega
                  have HY := Lib.hid (fun h => jobRow_yes (t := t) (un := un) hkl h)
                  have HNo := Lib.hid (fun h => jobRow_no (t := t) (un := un) hkl h)
                  have hjr := jobRow_len t un r k
                  have HST := Lib.hid (fun (h : -1099511627776 ≤ r.getD k 0 ∧ r.getD k 0 ≤ 1099511627776) j (hj : j < k + 1) => show -1099511627776 ≤ r.getD j 0 ∧ r.getD j 0 ≤ 1099511627776 from by
                    by_cases e : j = k
                    · subst e; exact h
                    · exact hall.out j (by omega))
                  clear hxc hcell hall d0
                  generalize r.getD k 0 = x at *
                  by_cases b1 : x ≤ 1099511627776
                  · by_cases b2 : -1099511627776 ≤ x
                    · have wp : IntKind.i64.wrap (x + t.p) = x + t.p := IntWalk.i64_in _ (by omega)
                      have HS2 := Lib.hid (HST.out ⟨b2, b1⟩)
                      by_cases hd : x + t.p ≤ un
                      · have HS := Lib.hid (HY.out hd)
                        obtain ⟨v', w', hrun, hfw', hb', _, _⟩ := hfw.out.push hbs ⟨x, x + t.p, t.c⟩ (by rw [List.length_append]; omega)
                        simp only at hrun
                        have HF2 := Lib.hid hfw'
                        have b' := hbl.trans hb'
                        clear hfw hfw' hb' hbl HY HNo HST
                        go_wp2_with (at_builtin; refine wpList_append_by rfl (.tmp 67) (.tmp 76) 35 rfl u7 (.slice (some ⟨wr.heap.size, 0, none⟩) 1 1) _ w' rfl rfl hrun ?_)
                        go_roundw
                        case rel => exact ⟨k + 1, by go_num, by omega, by rw [HS.out, ← List.append_assoc]; exact HF2.out, HS2.out, b'⟩
                        case measure => simp [intOf]; omega
                      · have HS := Lib.hid (HNo.out hd)
                        clear HY HNo HST
                        go_wp2_with fail
                        go_roundw
                        case rel => exact ⟨k + 1, by go_num, by omega, by rw [HS.out]; exact hfw.out, HS2.out, hbl⟩
                        case measure => simp [intOf]; omega
                    · clear HY HNo HST hfw
                      go_wp2_with fail
                      go_ret
                      exact ⟨rfl, B2.out.trans (hbl.mono s2)⟩
                  · clear HY HNo HST hfw
                    go_wp2_with fail
                    go_ret
                    exact ⟨rfl, B2.out.trans (hbl.mono s2)⟩
                · obtain rfl : k = r.length := by omega
                  have HA2 := Lib.hid (HAL.out h50 (fun x hx => by
                    obtain ⟨j, hj⟩ := List.mem_iff_getElem?.1 hx
                    have hjl := (List.getElem?_eq_some_iff.1 hj).1
                    have := hall.out j hjl
                    rw [getD_get hjl] at hj
                    simp only [Option.some.injEq] at hj
                    rw [hj] at this; exact this))
                  have hjr := jobRow_len t un r r.length
                  clear hall
                  go_wp2_with fail
                  go_roundw
                  case rel => exact ⟨i + 1, by go_num, by omega, by rw [HSU.out]; exact hfw.out, HA2.out, by rw [HSU.out, List.length_append]; omega, hbl⟩
                  case measure => simp [intOf]; omega
            · have h50' : ¬ (r.length : Int) ≤ 50 := by omega
              clear HJ
              go_wp2_with fail
              go_ret
              exact ⟨rfl, B2.out.trans (hbl.mono s2)⟩
          · obtain rfl : i = rs.length := by omega
            have hfw2 := hfw.out
            rw [HN.out] at hfw2 hjl
            obtain ⟨va, vc, hve, CJ⟩ := FIN.out wr _ hbl (fun _ _ r hr => by
              obtain ⟨j, hj⟩ := List.mem_iff_getElem?.1 hr
              have hjl := (List.getElem?_eq_some_iff.1 hj).1
              have := hall.out j hjl
              rw [rwAt_get hjl] at hj
              simp only [Option.some.injEq] at hj
              rw [hj] at this
              exact ⟨by omega, this.2⟩) hfw2 (by omega)
            have CJ := Lib.hid CJ
            subst hve
            clear FIN hfw hfw2 hall
            go_wp2_with fail
            refine CJ.out.mono ?_
            rintro e w5 ⟨ja, jc, rfl, hb5, hE⟩
            have HEQ := Lib.hid hE
            have b5 := hbl.trans (hb5.mono hbs)
            clear hE CJ hb5
            go_wp2_with fail
            refine HEQ.out.mono ?_
            rintro e w6 ⟨rfl, hb6⟩
            have b6 := B2.out.trans ((b5.trans (hb6.mono b5.size)).mono s2)
            clear HEQ hb6
            go_wp2_with fail
            go_ret
            exact ⟨rfl, b6⟩
      · have HE := (show (if tsOK l = true ∧ rs.length = l.length then jobsTo l rs un l.length else []) = [] from if_neg hok)
        rw [HE] at FIN
        obtain ⟨va, vc, hve, CJ⟩ := FIN.out w2 _ (Below.refl _ _) (fun h1 h2 => absurd ⟨h1, h2⟩ hok) (FJW.nil _ _) (by simp)
        have CJ := Lib.hid CJ
        simp only [List.length_nil, Value.slice.injEq] at hve
        obtain ⟨rfl, _, rfl⟩ := hve
        clear FIN HE
        cases hv : tsOK l
        · clear hok
          go_wp2_with fail
          refine CJ.out.mono ?_
          rintro e w5 ⟨ja, jc, rfl, hb5, hE⟩
          have HEQ := Lib.hid hE
          clear hE CJ
          go_wp2_with fail
          refine HEQ.out.mono ?_
          rintro e w6 ⟨rfl, hb6⟩
          go_wp2_with fail
          go_ret
          exact ⟨rfl, b2.trans ((hb5.trans (hb6.mono hb5.size)).mono s2)⟩
        · have hne : ¬ rs.length = l.length := fun e => hok ⟨hv, e⟩
          have hq : ((rs.length : Int) == (l.length : Int)) = false := beq_eq_false_iff_ne.2 (by omega)
          have hq2 : (rs.length == l.length) = false := beq_eq_false_iff_ne.2 hne
          clear hok
          go_wp2_with fail
          refine CJ.out.mono ?_
          rintro e w5 ⟨ja, jc, rfl, hb5, hE⟩
          have HEQ := Lib.hid hE
          clear hE CJ
          go_wp2_with fail
          refine HEQ.out.mono ?_
          rintro e w6 ⟨rfl, hb6⟩
          go_wp2_with fail
          go_ret
          exact ⟨rfl, b2.trans ((hb5.trans (hb6.mono hb5.size)).mono s2)⟩
    · have h28' : ¬ (rs.length : Int) ≤ 28 := by omega
      go_wp2_with fail
      refine AW.out.mono ?_
      rintro e w3 ⟨rfl, hb3⟩
      go_wp2_with fail
      go_ret
      exact ⟨rfl, hb1.trans (hb3.mono s1)⟩
  · have h14' : ¬ (l.length : Int) ≤ 14 := by omega
    go_wp2_with fail
    refine AW.out.mono ?_
    rintro e w3 ⟨rfl, hb3⟩
    go_wp2_with fail
    go_ret
    exact ⟨rfl, hb1.trans (hb3.mono s1)⟩
end Go.Proofs.Ytobjcdbbdgloiaa
