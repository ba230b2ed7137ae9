/- The walk over ceiling.Valid. Conditions: the tasks lie in memory. -/
import Derived.Test.YtkedcnemldjbeaaTk
import Derived.Outline
namespace Go.Proofs.Ytkedcnemldjbeaa
open Go.RowKit

set_option maxRecDepth 100000 in
set_option maxHeartbeats 6400000 in
theorem valid_any (l : List CT) (a : Option Addr) (cap : Nat) (w : World) (hl : l.length ≤ 9223372036854775807) (hc : TasksAt w w.heap.size a l) :
    Calls Try.prog 20 #[.slice a l.length cap] w fun e w' => e = .returned (.bool (validL l)) ∧ Below w.heap.size w w' := by
  have hlen : (l.length : Int) ≤ 9223372036854775807 := by omega
  by_cases h20 : l.length ≤ 20
  · go_enter Try.func20, Try.ntmps20
    go_wp2_with fail
    go_loopw [13] (fun i wr => ∃ k : Nat, k ≤ l.length ∧ i = .int .i64 k ∧ Hid ((l.take k).all okT = true) ∧ Below w.heap.size w wr) (fun i _ => l.length - (intOf i).toNat)
    case atStart => exact ⟨0, by omega, rfl, rfl, Below.refl _ _⟩
    case round =>
      obtain ⟨k, hk, rfl, hall, hbl⟩ := hrel
      by_cases hlt : k < l.length
      · have ht : l[k]? = some l[k] := List.getElem?_eq_getElem hlt
        obtain ⟨b, off, rfl, hbN, hcell⟩ := hc (by intro e; simp [e] at hlt)
        obtain ⟨c0, c1, c2, sa, sc, c3, hsl, hss⟩ := hcell k l[k] ht
        have c0 := keep_cellN hbl hbN c0
        have c1 := keep_cellN hbl hbN c1
        have c2 := keep_cellN hbl hbN c2
        have c3 := keep_cellN hbl hbN c3
        have HNO := Lib.hid (validL_no hlt)
        have HYES := Lib.hid (take_ok hlt hall.out)
        clear hcell ht hall
        have hz := hbl.size
        generalize l[k] = t at *
        have HH := Lib.hid (headOK_not (t := t))
        have HO := Lib.hid (show headOK t = true → secsOK 0 t.c t.ss = true → okT t = true by intro h1 h2; simp [okT, h1, h2])
        obtain ⟨tc, tp, td, ss⟩ := t
        simp only at c0 c1 c2 c3 hsl
        have hsl' : (ss.length : Int) ≤ 9223372036854775807 := by omega
        by_cases hd : 1 ≤ tc ∧ tc ≤ 1000 ∧ 1 ≤ tp ∧ tp ≤ 1000 ∧ 1 ≤ td ∧ td ≤ tp ∧ ss.length ≤ 8
        · have HD := Lib.hid (show headOK ⟨tc, tp, td, ss⟩ = true by simp only [headOK]; exact decide_eq_true hd)
          obtain ⟨d1, d2, d3, d4, d5, d6, d7⟩ := hd
          go_wp2_with fail
          obtain ⟨wo, rfl⟩ : ∃ wo : World, wo = wr := ⟨_, rfl⟩
          have hbb : Below w.heap.size w (wo.alloc (.cells #[.int .i64 tc, .int .i64 tp, .int .i64 td, .slice sa ss.length sc] 30)) := hbl.alloc hz _
          have e0 := World.cell?_alloc_40 wo (.int .i64 tc) (.int .i64 tp) (.int .i64 td) (.slice sa ss.length sc) 30
          have hy : wo.heap.size < (wo.alloc (.cells #[.int .i64 tc, .int .i64 tp, .int .i64 td, .slice sa ss.length sc] 30)).heap.size := by simp
          generalize wo.alloc (.cells #[.int .i64 tc, .int .i64 tp, .int .i64 td, .slice sa ss.length sc] 30) = wb at *
          have E0 := Lib.hid e0
          clear c0 c1 c2 c3 HH hbl e0
          go_loopw [54, 5] (fun u v wq => ∃ (j : Nat) (E : Int), u = .int .i64 j ∧ v = .int .i64 E ∧ j ≤ ss.length ∧ Hid (secsOK 0 tc ss = secsOK E tc (ss.drop j)) ∧ Below wb.heap.size wb wq) (fun u _ _ => ss.length - (intOf u).toNat)
          case atStart => exact ⟨0, 0, rfl, rfl, by omega, rfl, Below.refl _ _⟩
          case round =>
            obtain ⟨j, E, rfl, rfl, hj, HE, hq⟩ := hrel
            have e0 := keep_cellN hq hy E0.out
            have hqs := hq.size
            have hx : wo.heap.size < wr.heap.size := by omega
            have hwq : Below w.heap.size w wr := hbb.trans (hq.mono (by omega))
            by_cases hjl : j < ss.length
            · obtain ⟨sb, soff, rfl, hsN, hscell⟩ := hss (by intro e; simp [e] at hjl)
              obtain ⟨s0, s1, s2⟩ := hscell j ss[j] (List.getElem?_eq_getElem hjl)
              have s0 := keep_cellN hwq hsN s0
              have s1 := keep_cellN hwq hsN s1
              have s2 := keep_cellN hwq hsN s2
              clear hscell
              have HS := Lib.hid (secs_step (e := E) (c := tc) hjl)
              have HN := Lib.hid (secs_no (e := E) (c := tc) hjl)
              generalize ss[j] = s at *
              have HY := Lib.hid (secOK_yes (e := E) (c := tc) (s := s))
              have HZ := Lib.hid (secOK_not (e := E) (c := tc) (s := s))
              obtain ⟨so, sf, st⟩ := s
              simp only at s0 s1 s2
              by_cases hd : E ≤ sf ∧ sf < st ∧ st ≤ tc ∧ 0 ≤ so ∧ so ≤ 1000
              · have HE2 := Lib.hid (HE.out.trans (HS.out (HY.out hd)))
                clear HS HN HY HZ
                obtain ⟨f1, f2, f3, f4, f5⟩ := hd
                go_wp2_with fail
                go_roundw
                case rel => exact ⟨j + 1, st, by go_num, rfl, by omega, HE2.out, hq.alloc hqs _⟩
                case measure => simp [intOf]; omega
              · have hbad := Lib.hid (show okT ⟨tc, tp, td, ss⟩ = false by
                  have h1 : secsOK 0 tc ss = false := HE.out.trans (HN.out (HZ.out hd))
                  simp [okT, h1])
                have hfin := Lib.hid (HNO.out hbad.out)
                have hd' : sf < E ∨ (E ≤ sf ∧ st ≤ sf) ∨ (E ≤ sf ∧ sf < st ∧ tc < st) ∨ (E ≤ sf ∧ sf < st ∧ st ≤ tc ∧ so < 0) ∨ (E ≤ sf ∧ sf < st ∧ st ≤ tc ∧ 0 ≤ so ∧ 1000 < so) := by omega
                clear hd HS HN HY HZ hbad HE
                rcases hd' with g1 | ⟨g1, g2⟩ | ⟨g1, g2, g3⟩ | ⟨g1, g2, g3, g4⟩ | ⟨g1, g2, g3, g4, g5⟩
                all_goals
                  go_wp2_with fail
                  go_ret
                  exact ⟨ret_bool hfin.out.symm, hwq.alloc (by omega) _⟩
            · have hok := Lib.hid (show okT ⟨tc, tp, td, ss⟩ = true from HO.out HD.out (by rw [HE.out, List.drop_of_length_le (by omega)]; rfl))
              have hy := Lib.hid (HYES.out hok.out)
              clear HE hok
              go_wp2_with fail
              go_roundw
              case rel => exact ⟨k + 1, by omega, by go_num, hy.out, hwq⟩
              case measure => simp [intOf]; omega
        · have hfin := Lib.hid (HNO.out (HH.out hd))
          have hd' : tc < 1 ∨ (1 ≤ tc ∧ 1000 < tc) ∨ (1 ≤ tc ∧ tc ≤ 1000 ∧ tp < 1) ∨ (1 ≤ tc ∧ tc ≤ 1000 ∧ 1 ≤ tp ∧ 1000 < tp) ∨ (1 ≤ tc ∧ tc ≤ 1000 ∧ 1 ≤ tp ∧ tp ≤ 1000 ∧ td < 1) ∨
             (1 ≤ tc ∧ tc ≤ 1000 ∧ 1 ≤ tp ∧ tp ≤ 1000 ∧ 1 ≤ td ∧ tp < td) ∨ (1 ≤ tc ∧ tc ≤ 1000 ∧ 1 ≤ tp ∧ tp ≤ 1000 ∧ 1 ≤ td ∧ td ≤ tp ∧ (8 : Int) < (ss.length : Int)) := by omega
          clear hd HH HO HNO HYES
          rcases hd' with h1 | ⟨h1, h2⟩ | ⟨h1, h2, h3⟩ | ⟨h1, h2, h3, h4⟩ | ⟨h1, h2, h3, h4, h5⟩ | ⟨h1, h2, h3, h4, h5, h6⟩ | ⟨h1, h2, h3, h4, h5, h6, h7⟩
          all_goals
            go_wp2_with fail
            go_ret
            exact ⟨ret_bool hfin.out.symm, hbl.alloc hbl.size _⟩
      · have hfin := Lib.hid (validL_yes h20 (by have := hall.out; rwa [show k = l.length by omega] at this))
        clear hall
        go_wp2_with fail
        go_ret
        exact ⟨ret_bool hfin.out.symm, hbl⟩
  · have hfin := Lib.hid (show validL l = false by simp [validL, h20])
    go_enter Try.func20, Try.ntmps20
    go_wp2_with fail
    go_ret
    exact ⟨ret_bool hfin.out.symm, Below.refl _ _⟩
end Go.Proofs.Ytkedcnemldjbeaa
