/- The walk over FlowRefuses. Conditions: the arguments lie in memory. -/
import Derived.Test.YtobjcdbbdgloiaaAwake47
namespace Go.Proofs.Ytobjcdbbdgloiaa
open Go.RowKit Go.Deep

theorem netOK_small {rs : List (List Int)} (h : rs.length ≤ 14) : netOK 14 rs = netOK 400 rs := by
  unfold netOK
  have e : decide (2 ≤ rs.length ∧ rs.length ≤ 14) = decide (2 ≤ rs.length ∧ rs.length ≤ 400) := by
    rw [Bool.eq_iff_iff, decide_eq_true_eq, decide_eq_true_eq]; omega
  rw [e]

set_option maxRecDepth 100000 in
set_option maxHeartbeats 6400000 in
theorem law_refuses (rs : List (List Int)) (a : Option Addr) (cap : Nat) (src snk : Int) (l : List FJ) (a2 : Option Addr) (cap2 : Nat) (cores : Int) (w : World) (hl : rs.length ≤ cap) (hcap : cap ≤ 9223372036854775807) (hr : RowsAt w w.heap.size a rs) (hrr : ∀ r ∈ rs, FitI r)
    (hl2 : l.length ≤ cap2) (hcap2 : cap2 ≤ 9223372036854775807) (hc : FJobsAt w w.heap.size a2 l) :
    Calls Try.prog 6 #[.slice a rs.length cap, .int .i64 src, .int .i64 snk, .slice a2 l.length cap2, .int .i64 cores] w fun e w' => e = .returned (.bool true) ∧ Below w.heap.size w w' := by
  have hlI : (rs.length : Int) ≤ 9223372036854775807 := by omega
  have hlI2 : (l.length : Int) ≤ 9223372036854775807 := by omega
  have HRR := Lib.hid hrr
  clear hrr
  go_enter Try.func6, Try.ntmps6
  go_wp2_with fail
  refine (awake47_any _).mono ?_
  rintro e w1 ⟨rfl, hb1⟩
  have s1 := hb1.size
  by_cases h14 : rs.length ≤ 14
  · have h14' : (rs.length : Int) ≤ 14 := by omega
    by_cases h200 : l.length ≤ 200
    · have h200' : (l.length : Int) ≤ 200 := by omega
      have HE := Lib.hid (netOK_small h14)
      have NW := Lib.hid (fun W (h1 : RowsAt W W.heap.size a rs) => network_any rs a cap 14 (by decide) W (by omega) h1 HRR.out)
      go_wp2_with fail
      refine (max_any rs a cap src snk _ (by omega) (hr.on hb1 s1) HRR.out).mono ?_
      rintro e w2 ⟨hb2, ⟨h, rfl⟩ | ⟨h, h2, rfl⟩ | ⟨h, s, t, rfl, rfl, hs, ht, hst, val, r, O, rfl, _⟩⟩
      · have b4 := hb1.trans (hb2.mono s1)
        have s4 := b4.size
        have HN := Lib.hid (HE.out.trans h)
        clear h hb1 hb2
        go_wp2_with fail
        refine (NW.out _ (hr.on b4 s4)).mono ?_
        rintro e w3 ⟨rfl, rfl⟩
        rw [HN.out]
        go_wp2_with fail
        refine (lvalid_any l a2 cap2 cores _ (by omega) (hc.on b4 s4)).mono ?_
        rintro e w5 ⟨rfl, hb5⟩
        have b5 := b4.trans (hb5.mono s4)
        have s5 := b5.size
        clear hb5 b4
        cases hv : jobsOK l cores
        · have HV := Lib.hid hv
          clear hv
          go_wp2_with fail
          refine (schedule_any l a2 cap2 cores _ (by omega) (hc.on b5 s5)).mono ?_
          rintro e w6 ⟨hb6, ⟨_, rfl⟩ | ⟨h, _⟩ | ⟨h, _⟩⟩
          · have b6 := b5.trans (hb6.mono s5)
            have s6 := b6.size
            clear hb6 b5
            go_wp2_with fail
            refine (witness_any l a2 cap2 cores _ (by omega) (hc.on b6 s6)).mono ?_
            rintro e w7 ⟨hb7, ⟨_, rfl⟩ | ⟨h, _⟩ | ⟨h, _⟩⟩
            · have b7 := b6.trans (hb7.mono s6)
              clear hb7 b6
              go_wp2_with fail
              go_ret
              exact ⟨rfl, b7⟩
            · rw [HV.out] at h; cases h
            · rw [HV.out] at h; cases h
          · rw [HV.out] at h; cases h
          · rw [HV.out] at h; cases h
        · clear hv
          go_wp2_with fail
          go_ret
          exact ⟨rfl, b5⟩
      · have b4 := hb1.trans (hb2.mono s1)
        have s4 := b4.size
        have HN := Lib.hid (HE.out.trans h)
        have hor : src < 0 ∨ snk < 0 ∨ (rs.length : Int) ≤ src ∨ (rs.length : Int) ≤ snk ∨ src = snk := by
          apply Classical.byContradiction
          intro h
          exact h2 ⟨by omega, by omega, by omega, by omega, by omega⟩
        have HOR := Lib.hid hor
        clear h hb1 hb2 h2 hor
        go_wp2_with fail
        refine (NW.out _ (hr.on b4 s4)).mono ?_
        rintro e w3 ⟨rfl, rfl⟩
        rw [HN.out]
        go_upto_region 7 with fail
        go_cut [67] (fun u wx => u = .bool true ∧ wx = w2)
        case first =>
          by_cases c1 : src < 0
          · go_wp2_with fail
            go_meet
            case rel => exact ⟨rfl, rfl⟩
          · by_cases c2 : snk < 0
            · go_wp2_with fail
              go_meet
              case rel => exact ⟨rfl, rfl⟩
            · by_cases c3 : (rs.length : Int) ≤ src
              · go_wp2_with fail
                go_meet
                case rel => exact ⟨rfl, rfl⟩
              · by_cases c4 : (rs.length : Int) ≤ snk
                · go_wp2_with fail
                  go_meet
                  case rel => exact ⟨rfl, rfl⟩
                · have q1 : (src == snk) = true := by have := HOR.out; simp; omega
                  go_wp2_with fail
                  go_meet
                  case rel => exact ⟨rfl, rfl⟩
        case rest =>
          obtain ⟨rfl, rfl⟩ := hcut
          go_wp2_with fail
          refine (lvalid_any l a2 cap2 cores _ (by omega) (hc.on b4 s4)).mono ?_
          rintro e w5 ⟨rfl, hb5⟩
          have b5 := b4.trans (hb5.mono s4)
          have s5 := b5.size
          clear hb5 b4
          cases hv : jobsOK l cores
          · have HV := Lib.hid hv
            clear hv
            go_wp2_with fail
            refine (schedule_any l a2 cap2 cores _ (by omega) (hc.on b5 s5)).mono ?_
            rintro e w6 ⟨hb6, ⟨_, rfl⟩ | ⟨h, _⟩ | ⟨h, _⟩⟩
            · have b6 := b5.trans (hb6.mono s5)
              have s6 := b6.size
              clear hb6 b5
              go_wp2_with fail
              refine (witness_any l a2 cap2 cores _ (by omega) (hc.on b6 s6)).mono ?_
              rintro e w7 ⟨hb7, ⟨_, rfl⟩ | ⟨h, _⟩ | ⟨h, _⟩⟩
              · have b7 := b6.trans (hb7.mono s6)
                clear hb7 b6
                go_wp2_with fail
                go_ret
                exact ⟨rfl, b7⟩
              · rw [HV.out] at h; cases h
              · rw [HV.out] at h; cases h
            · rw [HV.out] at h; cases h
            · rw [HV.out] at h; cases h
          · clear hv
            go_wp2_with fail
            go_ret
            exact ⟨rfl, b5⟩
      · have b4 := hb1.trans (hb2.mono s1)
        have s4 := b4.size
        have HN := Lib.hid (HE.out.trans h)
        have d1 : decide ((s : Int) < 0) = false := decide_eq_false (by omega)
        have d2 : decide ((t : Int) < 0) = false := decide_eq_false (by omega)
        have d3 : (s : Int) < (rs.length : Int) := by omega
        have d4 : (t : Int) < (rs.length : Int) := by omega
        have d5 : ((s : Int) == (t : Int)) = false := beq_eq_false_iff_ne.2 (by omega)
        have d6 : (s == t) = false := beq_eq_false_iff_ne.2 hst
        clear h hb1 hb2 hst
        go_wp2_with fail
        refine (NW.out _ (hr.on b4 s4)).mono ?_
        rintro e w3 ⟨rfl, rfl⟩
        rw [HN.out]
        go_wp2_with fail
        refine (lvalid_any l a2 cap2 cores _ (by omega) (hc.on b4 s4)).mono ?_
        rintro e w5 ⟨rfl, hb5⟩
        have b5 := b4.trans (hb5.mono s4)
        have s5 := b5.size
        clear hb5 b4
        cases hv : jobsOK l cores
        · have HV := Lib.hid hv
          clear hv
          go_wp2_with fail
          refine (schedule_any l a2 cap2 cores _ (by omega) (hc.on b5 s5)).mono ?_
          rintro e w6 ⟨hb6, ⟨_, rfl⟩ | ⟨h, _⟩ | ⟨h, _⟩⟩
          · have b6 := b5.trans (hb6.mono s5)
            have s6 := b6.size
            clear hb6 b5
            go_wp2_with fail
            refine (witness_any l a2 cap2 cores _ (by omega) (hc.on b6 s6)).mono ?_
            rintro e w7 ⟨hb7, ⟨_, rfl⟩ | ⟨h, _⟩ | ⟨h, _⟩⟩
            · have b7 := b6.trans (hb7.mono s6)
              clear hb7 b6
              go_wp2_with fail
              go_ret
              exact ⟨rfl, b7⟩
            · rw [HV.out] at h; cases h
            · rw [HV.out] at h; cases h
          · rw [HV.out] at h; cases h
          · rw [HV.out] at h; cases h
        · clear hv
          go_wp2_with fail
          go_ret
          exact ⟨rfl, b5⟩
    · have h200' : ¬ (l.length : Int) ≤ 200 := by omega
      go_wp2_with fail
      refine (awake47_any _).mono ?_
      rintro e w3 ⟨rfl, hb3⟩
      go_wp2_with fail
      go_ret
      exact ⟨rfl, hb1.trans (hb3.mono s1)⟩
  · have h14' : ¬ (rs.length : Int) ≤ 14 := by omega
    go_wp2_with fail
    refine (awake47_any _).mono ?_
    rintro e w3 ⟨rfl, hb3⟩
    go_wp2_with fail
    go_ret
    exact ⟨rfl, hb1.trans (hb3.mono s1)⟩
end Go.Proofs.Ytobjcdbbdgloiaa
