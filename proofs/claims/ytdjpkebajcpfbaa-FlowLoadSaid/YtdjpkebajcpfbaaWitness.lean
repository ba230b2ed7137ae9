/- The walk over flow.Witness. Conditions: the jobs lie in memory. -/
import Derived.Test.YtdjpkebajcpfbaaSchedule
namespace Go.Proofs.Ytdjpkebajcpfbaa
open Go.RowKit Go.Deep

def WitPost (l : List FJ) (cores : Int) (w : World) (e : Ending) (w' : World) : Prop :=
  Below w.heap.size w w' ∧ ((jobsOK l cores = false ∧ e = .returned (.tuple #[.slice none 0 0, .slice none 0 0, .bool false])) ∨
    (jobsOK l cores = true ∧ Can l cores ∧ e = .returned (.tuple #[.slice none 0 0, .slice none 0 0, .bool false])) ∨
    (jobsOK l cores = true ∧ ¬ Can l cores ∧ ∃ lv r val z1 z2 y1 y2, e = .returned (.tuple #[.slice z1 (pick (fun j => decide (0 ≤ lv (1 + j))) l.length).length z2, .slice y1 (pick (fun s => decide (0 ≤ lv (1 + l.length + s))) (slotsN l)).length y2, .bool true]) ∧
      IntsAt w' w'.heap.size z1 ((pick (fun j => decide (0 ≤ lv (1 + j))) l.length).map fun x : Nat => (x : Int)) ∧ IntsAt w' w'.heap.size y1 ((pick (fun s => decide (0 ≤ lv (1 + l.length + s))) (slotsN l)).map fun x : Nat => (x : Int)) ∧
      Lev (netN l (slotsN l)) r 0 lv ∧ Sat (netN l (slotsN l)) (netF l (slotsN l) cores) 0 (1 + l.length + slotsN l) val r ∧ val ≠ totalC l))

set_option maxRecDepth 100000 in
set_option maxHeartbeats 6400000 in
theorem witness_any (l : List FJ) (a : Option Addr) (cap : Nat) (cores : Int) (w : World) (hl : l.length ≤ 9223372036854775807) (hc : FJobsAt w w.heap.size a l) :
    Calls Try.prog 49 #[.slice a l.length cap, .int .i64 cores] w (WitPost l cores w) := by
  have JV := Lib.hid (jvalid_any l a cap cores w hl hc)
  cases hv : jobsOK l cores
  · rw [hv] at JV
    have HV := Lib.hid hv
    clear hv
    go_enter Try.func49, Try.ntmps49
    go_wp2_with fail
    refine JV.out.mono ?_
    rintro e w1 ⟨rfl, hb1⟩
    go_wp2_with fail
    go_ret3
    exact ⟨hb1, .inl ⟨HV.out, rfl⟩⟩
  · rw [hv] at JV
    have HV := Lib.hid hv
    obtain ⟨hl1, co1, co4, hjob⟩ := jobsOK_bd hv
    have hS2 : slotsN l ≤ 200 := by have := maxD_bd hjob (Nat.le_refl l.length); unfold slotsN; omega
    have hlI : (l.length : Int) ≤ 100 := by omega
    clear hv hjob hl
    go_enter Try.func49, Try.ntmps49
    go_wp2_with fail
    refine JV.out.mono ?_
    rintro e w1 ⟨rfl, hb1⟩
    have s1 := hb1.size
    have AS := Lib.hid (assign_any l a cap cores w1 HV.out (hc.on hb1 s1))
    clear JV hc
    go_wp2_with fail
    refine AS.out.mono ?_
    rintro e w2 ⟨val, r, O, rfl, hb2, hm2, hsat⟩
    have b2 := hb1.trans (hb2.mono s1)
    have s2 := b2.size
    have HSAT := Lib.hid hsat
    have HNN := Lib.hid (show netN l (slotsN l) = 2 + l.length + slotsN l from rfl)
    clear AS hb1 hb2 hsat s1
    generalize hSS : slotsN l = S at *
    have HSS := Lib.hid hSS
    generalize hnn : netN l S = n at *
    have Hnn := Lib.hid hnn
    clear hSS hnn
    have nI : (n : Int) ≤ 302 := by have := HNN.out; omega
    have A3 : AVar (w2.alloc (.cells #[.int .i64 l.length, .int .i64 S, .bool (val == totalC l), .slice (some ⟨O, 0, none⟩) n n] 88)) w2.heap.size (.int .i64 l.length) (.int .i64 S) (.bool (val == totalC l)) (.slice (some ⟨O, 0, none⟩) n n) := blk_at rfl
    have b3 := b2.alloc s2 (.cells #[.int .i64 l.length, .int .i64 S, .bool (val == totalC l), .slice (some ⟨O, 0, none⟩) n n] 88)
    have m3 := (hm2.keep ((Below.refl w2.heap.size w2).alloc (Nat.le_refl _) (.cells #[.int .i64 l.length, .int .i64 S, .bool (val == totalC l), .slice (some ⟨O, 0, none⟩) n n] 88)))
    by_cases hval : val = totalC l
    · have HCAN := Lib.hid ((sat_can (by rw [HSS.out, Hnn.out]; exact HSAT.out)).1 hval)
      have q1 : (val == totalC l) = true := beq_iff_eq.2 hval
      rw [q1] at A3 b3 m3
      clear hval
      go_upto_region 4 with fail
      generalize w2.alloc (.cells #[.int .i64 l.length, .int .i64 S, .bool true, .slice (some ⟨O, 0, none⟩) n n] 88) = w3 at *
      obtain ⟨a0, a1, a2, a3⟩ := A3.cells
      go_wp2_with fail
      go_ret3
      exact ⟨b3, .inr (.inl ⟨HV.out, HCAN.out, rfl⟩)⟩
    · have HNC := Lib.hid (fun h => hval ((sat_can (by rw [HSS.out, Hnn.out]; exact HSAT.out)).2 h))
      have HVAL := Lib.hid hval
      have q1 : (val == totalC l) = false := beq_eq_false_iff_ne.2 hval
      rw [q1] at A3 b3 m3
      clear hval
      go_upto_region 4 with fail
      have m3b := m3.more (N' := (w2.alloc (.cells #[.int .i64 l.length, .int .i64 S, .bool false, .slice (some ⟨O, 0, none⟩) n n] 88)).heap.size) (by simp)
      have s3 : w2.heap.size < (w2.alloc (.cells #[.int .i64 l.length, .int .i64 S, .bool false, .slice (some ⟨O, 0, none⟩) n n] 88)).heap.size := by simp
      generalize w2.alloc (.cells #[.int .i64 l.length, .int .i64 S, .bool false, .slice (some ⟨O, 0, none⟩) n n] 88) = w3 at *
      generalize w2.heap.size = A at *
      obtain ⟨a0, a1, a2, a3⟩ := A3.cells
      have HA3 := Lib.hid A3
      have HB3 := Lib.hid b3
      have SI : (S : Int) ≤ 200 := by omega
      have LV := levels_any n 0 O 0 n r w3 (by omega) (by have := HNN.out; omega) m3b
      rw [show ((0 : Nat) : Int) = 0 from rfl] at LV
      have LV := Lib.hid LV
      clear m3 m3b A3 b3 hm2 b2
      go_wp2_with fail
      refine LV.out.mono ?_
      rintro e w4 ⟨lv, L, rfl, hb4, l1, l2, l3, l4⟩
      have HLC := Lib.hid l3
      have HLV := Lib.hid l4
      have HA4 := Lib.hid (HA3.out.of_block (hb4.block A s3))
      have b4 := HB3.out.trans (hb4.mono (by have := HB3.out.size; omega))
      have s4 : A < w4.heap.size := by have := hb4.size; omega
      clear l3 l4 LV HA3 HB3 hb4 a0 a1 a2 a3
      obtain ⟨a0, a1, a2, a3⟩ := HA4.out.cells
      obtain ⟨f, hf⟩ : ∃ f : Nat → Bool, f = fun j => decide (0 ≤ lv (1 + j)) := ⟨_, rfl⟩
      obtain ⟨g, hg⟩ : ∃ g : Nat → Bool, g = fun s => decide (0 ≤ lv (1 + l.length + s)) := ⟨_, rfl⟩
      have HF := Lib.hid hf
      have HGG := Lib.hid hg
      have HFJ := Lib.hid (fun j => show f j = decide (0 ≤ lv (1 + j)) by rw [hf])
      have HGS := Lib.hid (fun s => show g s = decide (0 ≤ lv (1 + l.length + s)) by rw [hg])
      have HP0 := Lib.hid (P2.nil w4.heap.size w4)
      clear hf hg
      go_wp2_with fail
      clear a0 a1 a2 a3
      go_loopw [25, 4] (fun u v wr => ∃ j : Nat, u = .int .i64 j ∧ j ≤ l.length ∧ Hid (P2 w4.heap.size wr v (pick f j) (.slice none 0 0) []) ∧ Below w4.heap.size w4 wr) (fun u _ _ => l.length - (intOf u).toNat)
      case atStart => exact ⟨0, rfl, by omega, HP0.out, Below.refl _ _⟩
      case round =>
        obtain ⟨j, rfl, hj, hp, hbl⟩ := hrel
        have hbs := hbl.size
        clear HP0
        by_cases hjl : j < l.length
        · have j0 : (0 : Int) ≤ (j : Int) := by omega
          have j1 : (j : Int) < (l.length : Int) := by omega
          have hnv := HNN.out
          have n2 : 1 + j < n := by omega
          have x0 := keep_cellN hbl l2 (HLC.out _ n2)
          rw [Nat.zero_add] at x0
          have hLw : L < wr.heap.size := by omega
          have v4 : ((1 : Int) + (j : Int)).toNat = 1 + j := by omega
          have v5 : (0 : Int) ≤ 1 + (j : Int) := by omega
          have v6 : (1 : Int) + (j : Int) < (n : Int) := by omega
          have hfj := HFJ.out j
          have hlen := pick_len f j
          clear hnv
          generalize lv (1 + j) = x at *
          by_cases hx : 0 ≤ x
          · have HX := Lib.hid (pick_yes (f := f) (k := j) (by rw [hfj]; exact decide_eq_true hx))
            clear hfj
            obtain ⟨v', w', hrun, hp', hb'⟩ := hp.out.push1 hbs j (by omega)
            have HP' := Lib.hid hp'
            have b' := hbl.trans hb'
            clear hp hp' hb' hbl
            go_wp2_with (at_builtin; refine wpList_append_by rfl (.tmp 34) (.tmp 36) 41 rfl u4 (.slice (some ⟨wr.heap.size, 0, none⟩) 1 1) _ w' rfl rfl hrun ?_)
            go_roundw
            case rel => exact ⟨j + 1, by go_num, by omega, by rw [HX.out]; exact HP'.out, b'⟩
            case measure => simp [intOf]; omega
          · have HX := Lib.hid (pick_no (f := f) (k := j) (by rw [hfj]; exact decide_eq_false hx))
            clear hfj
            go_wp2_with fail
            go_roundw
            case rel => exact ⟨j + 1, by go_num, by omega, by rw [HX.out]; exact hp.out, hbl⟩
            case measure => simp [intOf]; omega
        · obtain rfl : j = l.length := by omega
          have HP1 := hp
          have hb1 := hbl
          have HA5 := Lib.hid (HA4.out.of_block (hbl.block A s4))
          have s5 : A < wr.heap.size := by omega
          obtain ⟨a0, a1, a2, a3⟩ := HA5.out.cells
          clear hp hbl
          go_wp2_with fail
          clear a0 a1 a2 a3
          go_loopw [41, 5] (fun u v wr => ∃ s : Nat, u = .int .i64 s ∧ s ≤ S ∧ Hid (P2 w4.heap.size wr u4 (pick f l.length) v (pick g s)) ∧ Below w4.heap.size w4 wr) (fun u _ _ => S - (intOf u).toNat)
          case atStart => exact ⟨0, rfl, by omega, HP1.out, hb1⟩
          case round =>
            obtain ⟨s, rfl, hs, hp, hbl⟩ := hrel
            have hbs := hbl.size
            clear HP1 hb1
            by_cases hsl : s < S
            · have j0 : (0 : Int) ≤ (s : Int) := by omega
              have j1 : (s : Int) < (S : Int) := by omega
              have hnv := HNN.out
              have n2 : 1 + l.length + s < n := by omega
              have x0 := keep_cellN hbl l2 (HLC.out _ n2)
              rw [Nat.zero_add] at x0
              have hLw : L < wr.heap.size := by omega
              have HA := Lib.hid (HA4.out.of_block (hbl.block A s4))
              obtain ⟨a0, a1, a2, a3⟩ := HA.out.cells
              have al := HA.out.lt
              have v7 : (0 : Int) ≤ 1 + (l.length : Int) + (s : Int) := by omega
              have v8 : (1 : Int) + (l.length : Int) + (s : Int) < (n : Int) := by omega
              have v9 : ((1 : Int) + (l.length : Int) + (s : Int)).toNat = 1 + l.length + s := by omega
              have hgs := HGS.out s
              have hlen := pick_len g s
              clear hnv
              generalize lv (1 + l.length + s) = x at *
              by_cases hx : 0 ≤ x
              · have HX := Lib.hid (pick_yes (f := g) (k := s) (by rw [hgs]; exact decide_eq_true hx))
                clear hgs
                obtain ⟨v', w', hrun, hp', hb'⟩ := hp.out.push2 hbs s (by omega)
                have HP' := Lib.hid hp'
                have b' := hbl.trans hb'
                clear hp hp' hb' hbl
                go_wp2_with (at_builtin; refine wpList_append_by rfl (.tmp 53) (.tmp 55) 41 rfl u5 (.slice (some ⟨wr.heap.size, 0, none⟩) 1 1) _ w' rfl rfl hrun ?_)
                go_roundw
                case rel => exact ⟨s + 1, by go_num, by omega, by rw [HX.out]; exact HP'.out, b'⟩
                case measure => simp [intOf]; omega
              · have HX := Lib.hid (pick_no (f := g) (k := s) (by rw [hgs]; exact decide_eq_false hx))
                clear hgs
                go_wp2_with fail
                go_roundw
                case rel => exact ⟨s + 1, by go_num, by omega, by rw [HX.out]; exact hp.out, hbl⟩
                case measure => simp [intOf]; omega
            · obtain rfl : s = S := by omega
              obtain ⟨z1, z2, e1, _, _, z3⟩ := natV_ints hp.out.w1
              obtain ⟨y1, y2, e2, _, _, y3⟩ := natV_ints hp.out.w2
              subst e1 e2
              have HZ := Lib.hid z3
              have HY := Lib.hid y3
              clear hp z3 y3
              go_wp2_with fail
              go_ret3
              refine ⟨b4.trans (hbl.mono (by have := b4.size; omega)), .inr (.inr ⟨HV.out, HNC.out, lv, r, val, z1, z2, y1, y2, ?_, ?_, ?_, ?_, ?_, ?_⟩)⟩
              · rw [HSS.out, ← HF.out, ← HGG.out]; rfl
              · rw [← HF.out]; exact HZ.out
              · rw [HSS.out, ← HGG.out]; exact HY.out
              · rw [HSS.out, Hnn.out]; exact HLV.out
              · rw [HSS.out, Hnn.out]; exact HSAT.out
              · exact HVAL.out
end Go.Proofs.Ytdjpkebajcpfbaa
