/- The walk over FlowSchedules. Conditions: the arguments lie in memory. -/
import Derived.Test.YtobjcdbbdgloiaaWindow47
import Derived.Test.YtobjcdbbdgloiaaScheds
import Derived.Test.YtobjcdbbdgloiaaAwake47
namespace Go.Proofs.Ytobjcdbbdgloiaa
open Go.RowKit Go.Deep

theorem sl_succ (f : Nat → Int) (q : List Nat) (i : Nat) : sl f q (i + 1) = sl f q i + f (q.getD i 0) := rfl
theorem sl_bd {f : Nat → Int} {q : List Nat} {M : Int} (h : ∀ j, 0 ≤ f j ∧ f j ≤ M) (i : Nat) : 0 ≤ sl f q i ∧ sl f q i ≤ M * i := by
  have h1 := sm_nonneg (n := i) (f := fun j => f (q.getD j 0)) (fun j _ => (h _).1)
  have h2 := sm_le (n := i) (f := fun j => f (q.getD j 0)) (g := fun _ => M) (fun j _ => (h _).2)
  rw [sm_const] at h2
  exact ⟨h1, h2⟩
theorem fj_all {l : List FJ} (h : ∀ i, i < l.length → jobOK (fjAt l i)) (j : Nat) : jobOK (fjAt l j) := by
  by_cases e : j < l.length
  · exact h j e
  · unfold fjAt
    rw [List.getD_eq_getElem?_getD, List.getElem?_eq_none (by omega)]
    exact ⟨by decide, by decide, by decide, by decide, by decide⟩
theorem win_all {l : List FJ} (h : ∀ i, i < l.length → jobOK (fjAt l i)) (q : List Nat) (j : Nat) : 0 ≤ winN (fjAt l j).r.toNat (fjAt l j).d.toNat q ∧ winN (fjAt l j).r.toNat (fjAt l j).d.toNat q ≤ 200 := by
  obtain ⟨h1, h2, h3, _⟩ := fj_all h j
  obtain ⟨b1, b2⟩ := winN_bd (fjAt l j).r.toNat (fjAt l j).d.toNat q
  omega
theorem pick_get {f : Nat → Bool} {k i : Nat} (hi : i < (pick f k).length) : (pick f k).getD i 0 < k := by
  have h : (pick f k).getD i 0 ∈ pick f k := by
    rw [List.getD_eq_getElem?_getD, List.getElem?_eq_getElem hi]; exact List.getElem_mem hi
  exact (pick_mem.1 h).1

set_option maxRecDepth 100000 in
set_option maxHeartbeats 6400000 in
theorem law_scheds (l : List FJ) (a : Option Addr) (cap : Nat) (cores : Int) (w : World) (hl : l.length ≤ cap) (hcap : cap ≤ 9223372036854775807) (hc : FJobsAt w w.heap.size a l) :
    Calls Try.prog 7 #[.slice a l.length cap, .int .i64 cores] w fun e w' => e = .returned (.bool true) ∧ Below w.heap.size w w' := by
  have hlI : (l.length : Int) ≤ 9223372036854775807 := by omega
  go_enter Try.func7, Try.ntmps7
  go_wp2_with fail
  refine (awake47_any _).mono ?_
  rintro e w1 ⟨rfl, hb1⟩
  have s1 := hb1.size
  have j1 := hc.on hb1 s1
  have LV := Lib.hid (lvalid_any l a cap cores w1 (by omega) j1)
  go_wp2_with fail
  refine LV.out.mono ?_
  rintro e w2 ⟨rfl, hb2⟩
  have s2 := hb2.size
  have b2 := hb1.trans (hb2.mono s1)
  have j2 := j1.on hb2 s2
  have s02 : w.heap.size ≤ w2.heap.size := by omega
  clear LV hb2 hb1 j1 hc s1 s2
  have AW := Lib.hid (awake47_any w2)
  cases hv : jobsOK l cores
  · go_wp2_with fail
    refine AW.out.mono ?_
    rintro e w3 ⟨rfl, hb3⟩
    go_wp2_with fail
    go_ret
    exact ⟨rfl, b2.trans (hb3.mono s02)⟩
  · by_cases h14 : l.length ≤ 14
    · have h14' : (l.length : Int) ≤ 14 := by omega
      have HV := Lib.hid hv
      obtain ⟨_, co1, co4, hjob⟩ := jobsOK_bd hv
      have HJ := Lib.hid hjob
      have SC := Lib.hid (schedule_any l a cap cores w2 (by omega) j2)
      have WI := Lib.hid (fun W (hb : Below w2.heap.size w2 W) => witness_any l a cap cores W (by omega) (j2.on hb hb.size))
      clear hv hjob AW
      go_wp2_with fail
      refine SC.out.mono ?_
      rintro e w3 ⟨hb3, ⟨h, _⟩ | ⟨_, hno, rfl⟩ | ⟨_, σ, G, hsch, rfl, hrow⟩⟩
      · rw [HV.out] at h; cases h
      · have W3 := Lib.hid (WI.out w3 hb3)
        have HNO := Lib.hid hno
        have s3 := hb3.size
        clear SC WI hno
        go_wp2_with fail
        refine W3.out.mono ?_
        rintro e w4 ⟨hb4, ⟨h, _⟩ | ⟨_, h, _⟩ | ⟨_, _, lv, r, val, z1, z2, y1, y2, rfl, hz, hy, hlev, hsat, hval⟩⟩
        · rw [HV.out] at h; cases h
        · exact absurd h HNO.out
        · obtain ⟨p, hp⟩ : ∃ p, p = pick (fun j => decide (0 ≤ lv (1 + j))) l.length := ⟨_, rfl⟩
          obtain ⟨q, hq⟩ : ∃ q, q = pick (fun s => decide (0 ≤ lv (1 + l.length + s))) (slotsN l) := ⟨_, rfl⟩
          have HMORE := Lib.hid (wit_more HV.out hlev hsat hval hp hq)
          have HPG := Lib.hid (fun i (hi : i < p.length) => show p.getD i 0 < l.length from by rw [hp] at hi ⊢; exact pick_get hi)
          have HQG := Lib.hid (fun i (hi : i < q.length) => show q.getD i 0 < slotsN l from by rw [hq] at hi ⊢; exact pick_get hi)
          have HPL := Lib.hid (fun i (hi : i < p.length) (h0 : 0 < i) => show p.getD (i - 1) 0 < p.getD i 0 from by rw [hp] at hi ⊢; exact pick_lt (by omega) hi)
          have HQL := Lib.hid (fun i (hi : i < q.length) (h0 : 0 < i) => show q.getD (i - 1) 0 < q.getD i 0 from by rw [hq] at hi ⊢; exact pick_lt (by omega) hi)
          have hplen : p.length ≤ 14 := by have := pick_len (fun j => decide (0 ≤ lv (1 + j))) l.length; rw [hp]; omega
          have hS2 : slotsN l ≤ 200 := by have := maxD_bd HJ.out (Nat.le_refl l.length); unfold slotsN; omega
          have hqlen : q.length ≤ 200 := by have := pick_len (fun s => decide (0 ≤ lv (1 + l.length + s))) (slotsN l); rw [hq]; omega
          have HQB := Lib.hid (fun x (hx : x ∈ q) => show x ≤ 1000000 from by rw [hq] at hx; have := (pick_mem.1 hx).1; omega)
          rw [← hp] at hz
          rw [← hq] at hy
          rw [← hp, ← hq]
          have b4 := hb3.trans (hb4.mono s3)
          have s4 := b4.size
          have j4 := j2.on b4 s4
          have HZ := Lib.hid hz
          have HY := Lib.hid hy
          have hpI : (p.length : Int) ≤ 14 := by omega
          have hqI : (q.length : Int) ≤ 200 := by omega
          have hmul0 : 0 ≤ cores * (q.length : Int) := Int.mul_nonneg (by omega) (by omega)
          have hmul1 : cores * (q.length : Int) ≤ 4 * 200 := Int.mul_le_mul co4 hqI (by omega) (by omega)
          have HCB := Lib.hid (fun i => sl_bd (q := p) (f := fun j => (fjAt l j).c) (M := 200) (fun j => ⟨(fj_all HJ.out j).2.2.2.1, (fj_all HJ.out j).2.2.2.2⟩) i)
          have HWB := Lib.hid (fun i => sl_bd (q := p) (f := fun j => winN (fjAt l j).r.toNat (fjAt l j).d.toNat q) (M := 200) (fun j => win_all HJ.out q j) i)
          have HCS := Lib.hid (fun i => sl_succ (fun j => (fjAt l j).c) p i)
          have HWS := Lib.hid (fun i => sl_succ (fun j => winN (fjAt l j).r.toNat (fjAt l j).d.toNat q) p i)
          clear hz hy hp hq hlev hsat hval W3 HNO hb4 hb3
          have wmul : IntKind.i64.wrap (cores * (q.length : Int)) = cores * (q.length : Int) := IntWalk.i64_in _ (by omega)
          have wmul2 : wrap64 (cores * (q.length : Int)) = cores * (q.length : Int) := IntWalk.wrap64_in _ (by omega)
          go_wp2_with fail
          clear wmul wmul2
          generalize cores * (q.length : Int) = M at *
          go_loopw [73, 11, 12] (fun u nd hv wr => ∃ i : Nat, u = .int .i64 i ∧ nd = .int .i64 (sl (fun j => (fjAt l j).c) p i) ∧ hv = .int .i64 (M + sl (fun j => winN (fjAt l j).r.toNat (fjAt l j).d.toNat q) p i) ∧ i ≤ p.length ∧ Below w4.heap.size w4 wr) (fun u _ _ _ => p.length - (intOf u).toNat)
          case atStart => exact ⟨0, rfl, rfl, by simp [sl, sm], by omega, Below.refl _ _⟩
          case round =>
            obtain ⟨i, rfl, rfl, rfl, hi, hbl⟩ := hrel
            have hbs := hbl.size
            obtain ⟨a0, a1⟩ := HCB.out i
            obtain ⟨a2, a3⟩ := HWB.out i
            have HCSi := Lib.hid (HCS.out i)
            have HWSi := Lib.hid (HWS.out i)
            have hsub : i = p.length → M + sl (fun j => winN (fjAt l j).r.toNat (fjAt l j).d.toNat q) p i < sl (fun j => (fjAt l j).c) p i := fun e => by rw [e]; exact HMORE.out
            generalize sl (fun j => (fjAt l j).c) p i = CN at *
            generalize sl (fun j => winN (fjAt l j).r.toNat (fjAt l j).d.toNat q) p i = WN at *
            by_cases hil : i < p.length
            · have i0 : (0 : Int) ≤ (i : Int) := by omega
              have i1 : (i : Int) < (p.length : Int) := by omega
              have j5 := j4.on hbl hbs
              obtain ⟨zb, zo, rfl, hzN, hzc⟩ := HZ.out (by intro e; rw [List.map_eq_nil_iff] at e; subst e; simp at hil)
              have hx := keep_cellN hbl hzN (hzc i _ (nat_get hil))
              have hxp : 0 < i → wr.cell? ⟨zb, zo + (i - 1), none⟩ = some (.int .i64 ((p.getD (i - 1) 0 : Nat) : Int)) := fun _ => keep_cellN hbl hzN (hzc (i - 1) _ (nat_get (by omega)))
              have x1 := HPG.out i hil
              have hpl := HPL.out i hil
              clear hzc hsub
              generalize p.getD (i - 1) 0 = y at *
              generalize p.getD i 0 = x at *
              have j5' := j5
              obtain ⟨b, off, rfl, hbN, hcell⟩ := j5' (by intro e; rw [e] at x1; simp at x1)
              obtain ⟨c0, c1, c2⟩ := hcell x _ (fjAt_get x1)
              have PL := Lib.hid (plain_any l (some ⟨b, off, none⟩) cap wr (by omega) j5)
              have HX := Lib.hid (HJ.out x x1)
              have x1I : (x : Int) < (l.length : Int) := by omega
              have x0I : (0 : Int) ≤ (x : Int) := by omega
              have hzw : zb < wr.heap.size := by omega
              have HYr := Lib.hid (HY.out.on hbl hbs)
              have HGX := Lib.hid (fjAt_get x1)
              clear hcell j5
              generalize fjAt l x = jx at *
              obtain ⟨jr, jd, jc⟩ := jx
              simp only at c0 c1 c2 HCSi HWSi
              obtain ⟨o1, o2, o3, o4, o5⟩ := HX.out
              simp only at o1 o2 o3 o4 o5
              obtain ⟨R, rfl⟩ := Int.eq_ofNat_of_zero_le o1
              obtain ⟨D, rfl⟩ := Int.eq_ofNat_of_zero_le (Int.le_trans o1 o2)
              simp only [Int.toNat_natCast] at HWSi
              have WND := Lib.hid (fun W zz h => window_any R D jc q y1 zz W (by omega) (by omega) (by omega) HQB.out h)
              obtain ⟨n0, n1⟩ := winN_bd R D q
              have n2 : winN R D q ≤ 200 := by omega
              clear n1
              have FIN : ∀ (k : Nat), k = i → ∀ W, Below wr.heap.size wr W → True := fun _ _ _ _ => trivial
              clear FIN
              by_cases h0 : i = 0
              · subst h0
                clear hxp hpl
                rw [Nat.add_zero] at hx
                rw [show ((0 : Nat) : Int) = 0 from rfl] at i1
                go_wp2_with fail
                refine PL.out.mono ?_
                rintro e w6 ⟨a', c', rfl, t1, t2, t3, hb6⟩
                obtain ⟨jb, jo, rfl, hjN, hjc⟩ := t3 (by intro e; rw [e] at x1; simp at x1)
                obtain ⟨d0, d1, d2⟩ := hjc x _ HGX.out
                simp only at d0 d1 d2
                have WN6 := Lib.hid (WND.out w6 y2 (HYr.out.on hb6 hb6.size))
                clear hjc PL WND c0 c1 c2 hx
                go_wp2_with fail
                refine WN6.out.mono ?_
                rintro e w7 ⟨rfl, hb7⟩
                have b7 := hbl.trans ((hb6.trans (hb7.mono hb6.size)).mono hbs)
                clear WN6 d0 d1 d2 hb6 hb7
                generalize winN R D q = wn at *
                go_wp2_with fail
                go_roundw
                case rel => exact ⟨1, by go_num, by rw [HCSi.out], by rw [HWSi.out]; first | rfl | exact congrArg (Value.int .i64) (by omega), by omega, b7⟩
                case measure => simp [intOf]; omega
              · have i2 : (0 : Int) < (i : Int) := by omega
                have hxp := hxp (by omega)
                have hpl := hpl (by omega)
                have i3 : ((i : Int) - 1).toNat = i - 1 := by omega
                have i4 : (0 : Int) ≤ (i : Int) - 1 := by omega
                go_wp2_with fail
                refine PL.out.mono ?_
                rintro e w6 ⟨a', c', rfl, t1, t2, t3, hb6⟩
                obtain ⟨jb, jo, rfl, hjN, hjc⟩ := t3 (by intro e; rw [e] at x1; simp at x1)
                obtain ⟨d0, d1, d2⟩ := hjc x _ HGX.out
                simp only at d0 d1 d2
                have WN6 := Lib.hid (WND.out w6 y2 (HYr.out.on hb6 hb6.size))
                clear hjc PL WND c0 c1 c2 hx hxp
                go_wp2_with fail
                refine WN6.out.mono ?_
                rintro e w7 ⟨rfl, hb7⟩
                have b7 := hbl.trans ((hb6.trans (hb7.mono hb6.size)).mono hbs)
                clear WN6 d0 d1 d2 hb6 hb7
                generalize winN R D q = wn at *
                go_wp2_with fail
                go_roundw
                case rel => exact ⟨i + 1, by go_num, by rw [HCSi.out], by rw [HWSi.out]; first | rfl | exact congrArg (Value.int .i64) (by omega), by omega, b7⟩
                case measure => simp [intOf]; omega
            · obtain rfl : i = p.length := by omega
              have hgt := hsub rfl
              clear hsub HCSi HWSi HCB HWB HCS HWS HMORE HPG HPL HZ
              have HYr := Lib.hid (HY.out.on hbl hbs)
              have HGT := Lib.hid hgt
              clear HY hgt
              go_wp2_with fail
              go_loop [118] (fun u => ∃ k : Nat, u = .int .i64 k ∧ k ≤ q.length) (fun u => q.length - (intOf u).toNat)
              case atStart => exact ⟨0, rfl, by omega⟩
              case round =>
                obtain ⟨k, rfl, hk⟩ := hrel
                by_cases hkl : k < q.length
                · have i0 : (0 : Int) ≤ (k : Int) := by omega
                  have i1 : (k : Int) < (q.length : Int) := by omega
                  obtain ⟨zb, zo, rfl, hzN, hzc⟩ := HYr.out (by intro e; rw [List.map_eq_nil_iff] at e; subst e; simp at hkl)
                  have hx := hzc k _ (nat_get hkl)
                  have hxp : 0 < k → wr.cell? ⟨zb, zo + (k - 1), none⟩ = some (.int .i64 ((q.getD (k - 1) 0 : Nat) : Int)) := fun _ => hzc (k - 1) _ (nat_get (by omega))
                  have x1 := HQG.out k hkl
                  have hpl := HQL.out k hkl
                  clear hzc
                  generalize q.getD (k - 1) 0 = y at *
                  generalize q.getD k 0 = x at *
                  have x1I : (x : Int) < 200 := by omega
                  have x0I : (0 : Int) ≤ (x : Int) := by omega
                  by_cases h0 : k = 0
                  · subst h0
                    clear hxp hpl
                    rw [Nat.add_zero] at hx
                    rw [show ((0 : Nat) : Int) = 0 from rfl] at i1
                    go_wp2_with fail
                    go_round
                    case rel => exact ⟨1, by go_num, by omega⟩
                    case measure => simp [intOf]; omega
                  · have i2 : (0 : Int) < (k : Int) := by omega
                    have hxp := hxp (by omega)
                    have hpl := hpl (by omega)
                    have i3 : ((k : Int) - 1).toNat = k - 1 := by omega
                    have i4 : (0 : Int) ≤ (k : Int) - 1 := by omega
                    go_wp2_with fail
                    go_round
                    case rel => exact ⟨k + 1, by go_num, by omega⟩
                    case measure => simp [intOf]; omega
                · obtain rfl : k = q.length := by omega
                  have hgt := HGT.out
                  have hd : decide (M + WN < CN) = true := decide_eq_true hgt
                  have HB9 := Lib.hid (b2.trans ((b4.trans (hbl.mono s4)).mono s02))
                  clear hbl b2 b4
                  go_wp2_with fail
                  go_ret
                  exact ⟨by first | rfl | exact ret_bool (by simp [hgt]), HB9.out⟩
      · have W3 := Lib.hid (WI.out w3 hb3)
        have s3 := hb3.size
        have HSCH := Lib.hid hsch
        have HROW := Lib.hid hrow
        clear SC WI hsch hrow
        go_wp2_with fail
        refine W3.out.mono ?_
        rintro e w4 ⟨hb4, ⟨h, _⟩ | ⟨_, _, rfl⟩ | ⟨_, h, _⟩⟩
        · rw [HV.out] at h; cases h
        · have b4 := hb3.trans (hb4.mono s3)
          have s4 := b4.size
          have SD := Lib.hid (schedules_any l a cap cores σ G w4 HV.out (j2.on b4 s4) HSCH.out (HROW.out.on hb4 hb4.size))
          clear W3 HSCH HROW hb4 hb3 j2
          go_wp2_with fail
          refine SD.out.mono ?_
          rintro e w5 ⟨rfl, hb5⟩
          go_wp2_with fail
          go_ret
          exact ⟨by first | rfl | exact ret_bool (by simp), b2.trans ((b4.trans (hb5.mono s4)).mono s02)⟩
        · exact absurd ⟨σ, HSCH.out⟩ h
    · have h14' : ¬ (l.length : Int) ≤ 14 := by omega
      go_wp2_with fail
      refine AW.out.mono ?_
      rintro e w3 ⟨rfl, hb3⟩
      go_wp2_with fail
      go_ret
      exact ⟨rfl, b2.trans (hb3.mono s02)⟩
end Go.Proofs.Ytobjcdbbdgloiaa
