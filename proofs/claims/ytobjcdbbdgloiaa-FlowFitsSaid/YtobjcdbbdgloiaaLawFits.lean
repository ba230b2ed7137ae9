/- The walk over FlowFits. Conditions: the arguments lie in memory. -/
import Derived.Test.YtobjcdbbdgloiaaFitsA
import Derived.Test.YtobjcdbbdgloiaaAwake47
namespace Go.Proofs.Ytobjcdbbdgloiaa
open Go.RowKit Go.Deep

theorem SchedPost.iff {l : List FJ} {cores : Int} {w w' : World} {e : Ending} (hv : jobsOK l cores = true) (h : SchedPost l cores w e w') :
    Below w.heap.size w w' ∧ ∃ s1 n1 c1 ok, e = .returned (.tuple #[.slice s1 n1 c1, .bool ok, .int .i64 0]) ∧ (ok = true ↔ Can l cores) := by
  obtain ⟨hb, ⟨h, _⟩ | ⟨_, h, rfl⟩ | ⟨_, σ, G, hs, rfl, _⟩⟩ := h
  · rw [hv] at h; cases h
  · exact ⟨hb, _, _, _, _, rfl, ⟨fun h => (by cases h), fun h2 => absurd h2 h⟩⟩
  · exact ⟨hb, _, _, _, _, rfl, ⟨fun _ => ⟨σ, hs⟩, fun _ => rfl⟩⟩

set_option maxRecDepth 100000 in
set_option maxHeartbeats 6400000 in
theorem law_fits (l : List FJ) (a : Option Addr) (cap : Nat) (cores : Int) (w : World) (hl : l.length ≤ cap) (hcap : cap ≤ 9223372036854775807) (hc : FJobsAt w w.heap.size a l) :
    Calls Try.prog 8 #[.slice a l.length cap, .int .i64 cores] w fun e w' => e = .returned (.bool true) ∧ Below w.heap.size w w' := by
  have hlI : (l.length : Int) ≤ 9223372036854775807 := by omega
  go_enter Try.func8, Try.ntmps8
  go_wp2_with fail
  refine (awake47_any _).mono ?_
  rintro e w1 ⟨rfl, hb1⟩
  have s1 := hb1.size
  have j1 := hc.on hb1 s1
  have LV := Lib.hid (lvalid_any l a cap cores w1 (by omega) j1)
  go_wp2_with fail
  refine LV.out.mono ?_
  rintro e w2 ⟨rfl, hb2⟩
  have s2 := hb2.size
  have b2 := hb1.trans (hb2.mono s1)
  have j2 := j1.on hb2 s2
  have s02 : w.heap.size ≤ w2.heap.size := by omega
  clear LV hb2 hb1 j1 hc s1 s2
  have AW := Lib.hid (awake47_any w2)
  cases hv : jobsOK l cores
  · go_wp2_with fail
    refine AW.out.mono ?_
    rintro e w3 ⟨rfl, hb3⟩
    go_wp2_with fail
    go_ret
    exact ⟨rfl, b2.trans (hb3.mono s02)⟩
  · by_cases h4 : l.length ≤ 4
    · have h4' : (l.length : Int) ≤ 4 := by omega
      have HV := Lib.hid hv
      obtain ⟨_, co1, co4, hjob⟩ := jobsOK_bd hv
      have HJ := Lib.hid hjob
      clear hv hjob AW
      go_wp2_with fail
      go_loopw [26] (fun u wr => ∃ k : Nat, u = .int .i64 k ∧ k ≤ l.length ∧ Hid (∀ j, j < k → (fjAt l j).d ≤ 6) ∧ Below w2.heap.size w2 wr) (fun u _ => l.length - (intOf u).toNat)
      case atStart => exact ⟨0, rfl, by omega, fun j hj => absurd hj (Nat.not_lt_zero _), Below.refl _ _⟩
      case round =>
        obtain ⟨k, rfl, hk, hall, hbl⟩ := hrel
        have hbs := hbl.size
        by_cases hlt : k < l.length
        · have k0 : (0 : Int) ≤ (k : Int) := by omega
          have k1 : (k : Int) < (l.length : Int) := by omega
          obtain ⟨b, off, rfl, hbN, hcell⟩ := j2 (List.length_pos_iff.1 (by omega))
          obtain ⟨c0, c1, c2⟩ := hcell k _ (fjAt_get hlt)
          have c0 := keep_cellN hbl hbN c0
          have c1 := keep_cellN hbl hbN c1
          have c2 := keep_cellN hbl hbN c2
          have hbr : b < wr.heap.size := by omega
          have HST := Lib.hid (fun (h : (fjAt l k).d ≤ 6) j (hj : j < k + 1) => show (fjAt l j).d ≤ 6 from by
            by_cases e : j = k
            · subst e; exact h
            · exact hall.out j (by omega))
          have HB := Lib.hid (hbl.alloc hbs (.cells #[.int .i64 (fjAt l k).r, .int .i64 (fjAt l k).d, .int .i64 (fjAt l k).c] 44))
          have B2 := Lib.hid b2
          clear hcell hall j2
          generalize fjAt l k = j at *
          obtain ⟨jr, jd, jc⟩ := j
          simp only at c0 c1 c2 HST HB
          by_cases hd : jd ≤ 6
          · by_cases hcc : jc ≤ 7
            · go_wp2_with fail
              go_roundw
              case rel => exact ⟨k + 1, by go_num, by omega, HST.out hd, HB.out⟩
              case measure => simp [intOf]; omega
            · go_wp2_with fail
              go_ret
              exact ⟨rfl, B2.out.trans (HB.out.mono s02)⟩
          · go_wp2_with fail
            go_ret
            exact ⟨rfl, B2.out.trans (HB.out.mono s02)⟩
        · obtain rfl : k = l.length := by omega
          have j3 := j2.on hbl hbs
          have b3 := b2.trans (hbl.mono s02)
          have s3 : w.heap.size ≤ wr.heap.size := by omega
          have SC := Lib.hid (schedule_any l a cap cores wr (by omega) j3)
          have PL := Lib.hid (fun W (hb : Below wr.heap.size wr W) => plain_any l a cap W (by omega) (j3.on hb hb.size))
          have HG := Lib.hid (can_canG (l := l) (cores := cores) (til := 6) (by omega) hall.out)
          have FA := fun a c W h => fits_all (cores := cores) (n := l.length) (til := 6) (by omega) (by omega) h4 (by omega) 6 (by omega) l a c W rfl HJ.out h
          simp only [Nat.sub_self] at FA
          rw [show ((0 : Nat) : Int) = 0 from rfl, show ((6 : Nat) : Int) = 6 from rfl] at FA
          have FA := Lib.hid FA
          clear j3 j2 hbl b2 hall
          go_wp2_with fail
          refine SC.out.mono ?_
          rintro e w4 hp
          obtain ⟨hb4, sl, n1, cc1, ok, rfl, hok⟩ := hp.iff HV.out
          have s4 := hb4.size
          have HOK := Lib.hid hok
          clear hp hok SC
          go_wp2_with fail
          refine (PL.out _ hb4).mono ?_
          rintro e w5 ⟨a', c', rfl, z1, z2, z3, hb5⟩
          have b5 := hb4.trans (hb5.mono s4)
          have F5 := Lib.hid (FA.out a' c' w5 z3)
          clear z3 hb4 hb5
          go_wp2_with fail
          refine F5.out.mono ?_
          rintro e w6 ⟨bq, rfl, hq, hb6⟩
          obtain rfl : ok = bq := by
            have h1 := HOK.out; have h2 := HG.out
            cases ok <;> cases bq <;> simp_all
          have b6 := b3.trans ((b5.trans (hb6.mono b5.size)).mono s3)
          clear hq HOK HG F5 FA PL
          go_wp2_with fail
          go_ret
          exact ⟨by simp, b6⟩
    · have h4' : ¬ (l.length : Int) ≤ 4 := by omega
      go_wp2_with fail
      refine AW.out.mono ?_
      rintro e w3 ⟨rfl, hb3⟩
      go_wp2_with fail
      go_ret
      exact ⟨rfl, b2.trans (hb3.mono s02)⟩
end Go.Proofs.Ytobjcdbbdgloiaa
