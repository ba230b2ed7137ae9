/- The walk over CeilingTables. Conditions: the tasks lie in memory. -/
import Derived.Test.YtkedcnemldjbeaaMapB
import Derived.Test.YtkedcnemldjbeaaActTop
import Derived.Test.YtkedcnemldjbeaaRHeld
import Derived.Test.YtkedcnemldjbeaaRValid
import Derived.Test.YtkedcnemldjbeaaCopy43
import Derived.Test.YtkedcnemldjbeaaAwake43
import Derived.Deep.DeepCutAuto
namespace Go.Proofs.Ytkedcnemldjbeaa
open Go.RowKit

set_option maxRecDepth 100000 in
set_option maxHeartbeats 6400000 in
theorem law_tables (l : List CT) (a : Option Addr) (cap : Nat) (tk dn : Int) (w : World) (hl : l.length ≤ cap) (hcap : cap ≤ 9223372036854775807) (hc : TasksAt w w.heap.size a l) :
    Calls Try.prog 15 #[.slice a l.length cap, .int .i64 tk, .int .i64 dn] w fun e w' => e = .returned (.bool true) ∧ Below w.heap.size w w' := by
  have hlI : (l.length : Int) ≤ 9223372036854775807 := by omega
  have hmm := @run_makeMap Try.prog
  go_enter Try.func15, Try.ntmps15
  go_wp2_with fail
  refine (awake43_any _).mono ?_
  rintro e w1 ⟨rfl, hb1⟩
  have s1 := hb1.size
  by_cases h40 : l.length ≤ 40
  · have h40' : (l.length : Int) ≤ 40 := by omega
    go_wp2_with fail
    go_loopw [28] (fun u wr => ∃ k : Nat, u = .int .i64 k ∧ k ≤ l.length ∧ Hid (∀ t ∈ l.take k, t.ss.length ≤ 1000) ∧ Below w.heap.size w wr) (fun u _ => l.length - (intOf u).toNat)
    case atStart => exact ⟨0, rfl, by omega, fun t ht => by simp at ht, hb1⟩
    case round =>
      obtain ⟨k, rfl, hk, hsm, hbl⟩ := hrel
      have hbs := hbl.size
      clear hb1
      by_cases hlt : k < l.length
      · obtain ⟨b, off, rfl, hbN, hcell⟩ := hc (by intro e; simp [e] at hlt)
        obtain ⟨c0, c1, c2, sa, sc, c3, hsl, hss⟩ := hcell k _ (ctAt_get hlt)
        have c0 := keep_cellN hbl hbN c0
        have c1 := keep_cellN hbl hbN c1
        have c2 := keep_cellN hbl hbN c2
        have c3 := keep_cellN hbl hbN c3
        have k0 : (0 : Int) ≤ (k : Int) := by omega
        have k1 : (k : Int) < (l.length : Int) := by omega
        have hbr : b < wr.heap.size := by omega
        have HST := Lib.hid (fun (h : (ctAt l k).ss.length ≤ 1000) t (ht : t ∈ l.take (k + 1)) => show t.ss.length ≤ 1000 from by
          have hg := List.getElem?_eq_getElem hlt
          rw [ctAt_get hlt] at hg
          injection hg with hg
          rw [List.take_succ_eq_append_getElem hlt] at ht
          rcases List.mem_append.1 ht with ht | ht
          · exact hsm.out t ht
          · simp at ht; rw [ht, ← hg]; exact h)
        clear hcell hsm
        generalize ctAt l k = t at *
        obtain ⟨tc, tp, td, ts⟩ := t
        simp only at c0 c1 c2 c3 hsl hss HST
        have bj := hbl.alloc hbs (.cells #[.int .i64 tc, .int .i64 tp, .int .i64 td, .slice sa ts.length sc] 30)
        have jcl := Go.Deep.blk_alloc_new wr (.cells #[.int .i64 tc, .int .i64 tp, .int .i64 td, .slice sa ts.length sc] 30)
        have hsj : wr.heap.size < (wr.alloc (.cells #[.int .i64 tc, .int .i64 tp, .int .i64 td, .slice sa ts.length sc] 30)).heap.size := by simp
        have hsl' : (ts.length : Int) ≤ 9223372036854775807 := by omega
        clear hbl
        go_upto_region 6 with fail
        generalize wr.alloc (.cells #[.int .i64 tc, .int .i64 tp, .int .i64 td, .slice sa ts.length sc] 30) = wj at *
        have g3 := row_cell jcl (j := 3) rfl
        simp only [List.getElem_toArray, List.getElem_cons_succ, List.getElem_cons_zero] at g3
        clear jcl c0 c1 c2 c3 hss
        by_cases h16 : ts.length ≤ 16
        · have h16' : (ts.length : Int) ≤ 16 := by omega
          have HS2 := Lib.hid (HST.out (by omega))
          clear HST
          go_wp2_with fail
          go_roundw
          case rel => exact ⟨k + 1, by go_num, by omega, HS2.out, bj⟩
          case measure => simp [intOf]; omega
        · have h16' : ¬ (ts.length : Int) ≤ 16 := by omega
          go_wp2_with fail
          go_ret
          exact ⟨rfl, bj⟩
      · obtain rfl : k = l.length := by omega
        have HSM := Lib.hid (show ∀ t ∈ l, t.ss.length ≤ 1000 from by have := hsm.out; rwa [List.take_length] at this)
        clear hsm
        go_wp2_with fail
        refine (plain43_any l a cap _ (by omega) HSM.out (hc.on hbl hbs)).mono ?_
        rintro e w3 ⟨a4, c4, rfl, q5, q6, q7, hb3⟩
        have b3 := hbl.trans (hb3.mono hbs)
        have s3 := b3.size
        clear hb3 hbl
        go_wp2_with fail
        refine (ceilings_any l a cap _ (by omega) (hc.on b3 s3)).mono ?_
        rintro e w4 ⟨mb, mn, rfl, hmb, hI, hb4⟩
        have b4 := b3.trans (hb4.mono s3)
        have m4 := q7.on hb4 hb4.size
        have s4 := b4.size
        have HI := Lib.hid hI
        have hml := hI.lt
        clear hb4 b3 q7 hI
        go_wp2_with fail
        refine (valid_any l a cap _ (by omega) (hc.on b4 s4)).mono ?_
        rintro e w5 ⟨rfl, hb5⟩
        have b5 := b4.trans (hb5.mono s4)
        have m5 := m4.on hb5 hb5.size
        have s5 := b5.size
        have I5 := Lib.hid (HI.out.keep hb5 hml)
        have hml5 : mb < w5.heap.size := by have := hb5.size; omega
        clear hb5 b4 m4 HI
        go_wp2_with fail
        refine (rvalid_any l a4 c4 _ (by omega) m5).mono ?_
        rintro e w6 ⟨rfl, hb6⟩
        have b6 := b5.trans (hb6.mono s5)
        have m6 := m5.on hb6 hb6.size
        have s6 := b6.size
        have I6 := Lib.hid (I5.out.keep hb6 hml5)
        have hml6 : mb < w6.heap.size := by have := hb6.size; omega
        clear hb6 b5 m5 I5
        have hvv : (validL l != validL l) = false := by cases validL l <;> rfl
        go_wp2_with fail
        refine (rvalid_any l a4 c4 _ (by omega) m6).mono ?_
        rintro e w7 ⟨rfl, hb7⟩
        have b7 := b6.trans (hb7.mono s6)
        have m7 := m6.on hb7 hb7.size
        have s7 := b7.size
        have I7 := I6.out.keep hb7 hml6
        have hml7 : mb < w7.heap.size := by have := hb7.size; omega
        clear hb7 b6 m6 I6 hvv
        cases hv : validL l
        · rw [hv] at I7
          simp only [Bool.false_eq_true, if_false] at I7
          have hlen := I7.len 3
          have HT := Lib.hid (show actTop l tk dn = -1 from if_neg (fun h => by rw [h.1] at hv; cases hv))
          have CA := Lib.hid (cactive_any l a cap tk dn w7 (by omega) (hc.on b7 s7))
          clear hv I7
          go_wp2_with (at_len; refine wpList_len_by rfl (.tmp 49) 60 rfl (.map (some mb)) _ rfl hlen ?_)
          refine CA.out.mono ?_
          rintro e w8 ⟨rfl, hb8⟩
          rw [HT.out]
          go_wp2_with fail
          go_ret
          exact ⟨rfl, b7.trans (hb8.mono s7)⟩
        · have HV := Lib.hid hv
          rw [hv] at I7
          simp only [if_true] at I7
          have hl20 : (l.length : Int) ≤ 20 := by have := (validL_bd hv).1; omega
          have HOK := Lib.hid (validL_bd hv).2
          have HI7 := Lib.hid I7
          clear hv I7
          have hb8 : Below w7.heap.size w7 (w7.alloc (.map #[] 0)) := (Below.refl _ _).alloc (Nat.le_refl _) _
          have b8 := b7.trans (hb8.mono s7)
          have HB8 := Lib.hid (BMap.new w7)
          have hml8 := hml7
          go_upto_region 16 with fail
          have hI8 := HI7.out.keep hb8 hml7
          have HI8 := Lib.hid hI8
          have m8 := m7.keep hb8
          clear hI8 hb8 m7 hmm
          have hs78 : w7.heap.size < (w7.alloc (.map #[] 0)).heap.size := by simp
          generalize w7.alloc (.map #[] 0) = w8 at *
          generalize w7.heap.size = M2 at *
          have s8 := b8.size
          have HM8 := Lib.hid m8
          have HCE := Lib.hid (fun o (h : ∃ t ∈ l, hasO o t.ss = true) => ceilM_eq (l := l) (o := o) h)
          clear m8 b7
          go_wp2_with fail
          go_loopw [62] (fun u wr => ∃ (k : Nat) (st : (Int → Option Int) × Nat) (n : Nat), u = .int .i64 k ∧ k ≤ l.length ∧ n ≤ k * 8 ∧ Hid (tasksS k st (l.drop k) = ceilS l) ∧ Hid (BMap wr M2 n (fun x => (st.1 x).isSome) st.2) ∧ Below w.heap.size w wr ∧ Below M2 w8 wr) (fun u _ => l.length - (intOf u).toNat)
          case atStart => exact ⟨0, (fun _ => none, 0), 0, rfl, by omega, by omega, rfl, HB8.out, b8, Below.refl _ _⟩
          case round =>
            obtain ⟨k, st, n, rfl, hk2, hn, hst, hbm, hbl, hcl⟩ := hrel
            have hbs2 := hbl.size
            have hcs2 := hcl.size
            clear HB8 b8
            by_cases hlt2 : k < l.length
            · obtain ⟨b, off, rfl, hbN, hcell⟩ := hc (by intro e; simp [e] at hlt2)
              obtain ⟨c0, c1, c2, sa, sc, c3, hsl, hss⟩ := hcell k _ (ctAt_get hlt2)
              have c0 := keep_cellN hbl hbN c0
              have c1 := keep_cellN hbl hbN c1
              have c2 := keep_cellN hbl hbN c2
              have c3 := keep_cellN hbl hbN c3
              have k0 : (0 : Int) ≤ (k : Int) := by omega
              have k1 : (k : Int) < (l.length : Int) := by omega
              have hbr : b < wr.heap.size := by omega
              have htb := okT_bd (HOK.out _ (ctAt_mem hlt2))
              have h8 := htb.1.2.2.2.2.2.2
              have HM := Lib.hid (secsOK_mem htb.2 (Int.le_refl 0))
              have HSTEP := Lib.hid (show tasksS k st (l.drop k) = tasksS (k + 1) (secsS k st (ctAt l k).ss) (l.drop (k + 1)) from by
                have hg := List.getElem?_eq_getElem hlt2
                rw [ctAt_get hlt2] at hg
                injection hg with hg
                rw [tasksS_step hlt2, hg])
              have HMEM := Lib.hid (fun o (h : hasO o (ctAt l k).ss = true) => HCE.out o ⟨_, ctAt_mem hlt2, h⟩)
              clear hcell htb
              generalize ctAt l k = t at *
              obtain ⟨tc, tp, td, ts⟩ := t
              simp only at c0 c1 c2 c3 hsl hss h8 HM HSTEP HMEM
              have bj := hbl.alloc hbs2 (.cells #[.int .i64 tc, .int .i64 tp, .int .i64 td, .slice sa ts.length sc] 30)
              have cj := hcl.alloc (by omega) (.cells #[.int .i64 tc, .int .i64 tp, .int .i64 td, .slice sa ts.length sc] 30)
              have jcl := Go.Deep.blk_alloc_new wr (.cells #[.int .i64 tc, .int .i64 tp, .int .i64 td, .slice sa ts.length sc] 30)
              have hbj : Below wr.heap.size wr (wr.alloc (.cells #[.int .i64 tc, .int .i64 tp, .int .i64 td, .slice sa ts.length sc] 30)) := (Below.refl _ _).alloc (Nat.le_refl _) _
              have HBJ := Lib.hid (hbm.out.keep hbj hbm.out.lt)
              have hts : (ts.length : Int) ≤ 8 := by omega
              clear hbl hcl hbm hbj
              go_upto_region 19 with fail
              generalize wr.alloc (.cells #[.int .i64 tc, .int .i64 tp, .int .i64 td, .slice sa ts.length sc] 30) = wj at *
              have g3 := row_cell jcl (j := 3) rfl
              simp only [List.getElem_toArray, List.getElem_cons_succ, List.getElem_cons_zero] at g3
              clear jcl c0 c1 c2 c3
              go_wp2_with fail
              clear g3
              go_loopw [69] (fun u wq => ∃ (j : Nat) (st' : (Int → Option Int) × Nat) (n' : Nat), u = .int .i64 j ∧ j ≤ ts.length ∧ n' ≤ k * 8 + j ∧ Hid (secsS k st' (ts.drop j) = secsS k st ts) ∧ Hid (BMap wq M2 n' (fun x => (st'.1 x).isSome) st'.2) ∧ Below w.heap.size w wq ∧ Below M2 w8 wq) (fun u _ => ts.length - (intOf u).toNat)
              case atStart => exact ⟨0, st, n, rfl, by omega, by omega, rfl, HBJ.out, bj, cj⟩
              case round =>
                obtain ⟨j, st', n', rfl, hj, hn', hst2, hbm, hbl, hcl⟩ := hrel
                have hbs3 := hbl.size
                have hcs3 := hcl.size
                clear HBJ bj cj
                by_cases hjl : j < ts.length
                · obtain ⟨sb, soff, rfl, hsN, hscell⟩ := hss (by intro e; simp [e] at hjl)
                  obtain ⟨s0, s1', s2'⟩ := hscell j ts[j] (List.getElem?_eq_getElem hjl)
                  have s0 := keep_cellN hbl hsN s0
                  have s1' := keep_cellN hbl hsN s1'
                  have s2' := keep_cellN hbl hsN s2'
                  have j0 : (0 : Int) ≤ (j : Int) := by omega
                  have j1 : (j : Int) < (ts.length : Int) := by omega
                  have hsb : sb < wr.heap.size := by omega
                  have hsm := HM.out ts[j] (List.getElem_mem hjl)
                  have HS1 := Lib.hid (secsS_step (i := (k : Int)) (st := st') hjl)
                  have HCM := Lib.hid (HMEM.out ts[j].o (hasO_mem (List.getElem_mem hjl)))
                  clear hscell
                  generalize ts[j] = sx at *
                  obtain ⟨so, sf, st1⟩ := sx
                  simp only at s0 s1' s2' hsm HCM
                  obtain ⟨o1, o2, _⟩ := hsm
                  have hbj : Below wr.heap.size wr (wr.alloc (.cells #[.int .i64 so, .int .i64 sf, .int .i64 st1] 63)) := (Below.refl _ _).alloc (Nat.le_refl _) _
                  have bj := hbl.alloc hbs3 (.cells #[.int .i64 so, .int .i64 sf, .int .i64 st1] 63)
                  have cj := hcl.alloc (by omega) (.cells #[.int .i64 so, .int .i64 sf, .int .i64 st1] 63)
                  have jcl := Go.Deep.blk_alloc_new wr (.cells #[.int .i64 so, .int .i64 sf, .int .i64 st1] 63)
                  have HBJ := hbm.out.keep hbj hbm.out.lt
                  have hMl := hbm.out.lt
                  clear hbl hcl hbm hbj
                  go_upto_region 22 with fail
                  have hXl : wr.heap.size < (wr.alloc (.cells #[.int .i64 so, .int .i64 sf, .int .i64 st1] 63)).heap.size := by simp
                  generalize wr.alloc (.cells #[.int .i64 so, .int .i64 sf, .int .i64 st1] 63) = wj2 at *
                  generalize wr.heap.size = X at *
                  have g0 := row_cell jcl (j := 0) rfl
                  simp only [List.getElem_toArray, List.getElem_cons_succ, List.getElem_cons_zero] at g0
                  obtain ⟨w9, hrun, hb9, hg9⟩ := HBJ.put (by unfold maxLen; omega) (wf64 (k := so) (by omega) (by omega)) true
                  have b9 := bj.grown hg9 bj.size (fun q hq => by injection hq with hq; omega)
                  have c9 := cj.grown hg9 (by have := cj.size; omega) (fun q hq => by injection hq with hq; omega)
                  have g0' : w9.cell? ⟨X, 0, none⟩ = some (.int .i64 so) := (World.cell?_of_block (w := wj2) (a := ⟨X, 0, none⟩) (hg9.block X hXl (by intro e; injection e with e; omega))).trans g0
                  have hX9 : X < w9.heap.size := by have := hg9.size; omega
                  have hI9 := HI8.out.keep c9 hml8
                  have hlook := hI9.look (k := so) (wf64 (by omega) (by omega))
                  rw [HCM.out] at hlook
                  have hlook : (Instr.lookup 60 (.map (some mb)) (.int .i64 so) true).run Try.prog w9 = .ok (.tuple #[.int .i64 (ceilR l so), .bool true]) w9 := hlook
                  have HB9 := Lib.hid (show BMap w9 M2 (n' + 1) (fun x => ((stepS k st' ⟨so, sf, st1⟩).1 x).isSome) (stepS k st' ⟨so, sf, st1⟩).2 from by
                    have e1 : (fun x => ((stepS k st' ⟨so, sf, st1⟩).1 x).isSome) = fun x => if x = so then true else (st'.1 x).isSome := by
                      funext x
                      unfold stepS
                      by_cases hs : (st'.1 so).isSome = true
                      · simp only [hs, if_true]
                        by_cases e : x = so
                        · subst e; rw [hs]; simp
                        · simp [e]
                      · simp only [hs]
                        simp only [Bool.false_eq_true, if_false, putM]
                        by_cases e : x = so
                        · subst e; simp
                        · simp [e]
                    have e2 : (stepS k st' ⟨so, sf, st1⟩).2 = if (st'.1 so).isSome then st'.2 else st'.2 + 1 := by
                      unfold stepS
                      by_cases hs : (st'.1 so).isSome = true
                      · simp [hs]
                      · simp [hs]
                    rw [e1, e2]; exact hb9)
                  have RC := Lib.hid (fun W (h : TasksAt W W.heap.size a4 l) => rceil_any l a4 c4 so W (by omega) h)
                  have h9t := (HM8.out.keep c9).more (N' := w9.heap.size) (by have := c9.size; omega)
                  have hHS := Lib.hid (hst2.out.symm.trans HS1.out)
                  clear hb9 hg9 bj cj HBJ jcl hI9 s0 s1' s2' hst2 HS1
                  go_wp2_with fail
                  refine (RC.out _ h9t).mono ?_
                  rintro e w10 ⟨rfl, rfl⟩
                  go_wp2_with fail
                  go_roundw
                  case rel => exact ⟨j + 1, stepS k st' ⟨so, sf, st1⟩, n' + 1, by go_num, by omega, by omega, hHS.out.symm, HB9.out, b9, c9⟩
                  case measure => simp [intOf]; omega
                · obtain rfl : j = ts.length := by omega
                  have HE := Lib.hid (show tasksS (k + 1) st' (l.drop (k + 1)) = ceilS l from by
                    have h1 := hst2.out
                    rw [List.drop_length] at h1
                    rw [← hst.out, HSTEP.out, ← h1]; rfl)
                  clear hst2
                  go_wp2_with fail
                  go_roundw
                  case rel => exact ⟨k + 1, st', n', by go_num, by omega, by omega, HE.out, hbm.out, hbl, hcl⟩
                  case measure => simp [intOf]; omega
            · obtain rfl : k = l.length := by omega
              have he : st = ceilS l := by have := hst.out; rw [List.drop_length] at this; exact this
              subst he
              have hlen1 := hbm.out.len 3
              have hI9 := HI8.out.keep hcl hml8
              have hlen2 := hI9.len 3
              have h9t := (HM8.out.keep hcl).more (N' := wr.heap.size) (by omega)
              clear hst hbm
              go_upto_region 30 with (at_len; first | (refine wpList_len_by rfl (.tmp 95) 60 rfl (.map (some mb)) _ rfl hlen2 ?_) | (refine wpList_len_by rfl (.tmp 97) 69 rfl (.map (some M2)) _ rfl hlen1 ?_))
              have hHV := HV.out
              have CA := Lib.hid (cactive_any l a cap tk dn wr (by omega) (hc.on hbl hbs2))
              have RA := Lib.hid (fun n (hn : n < l.length) => ractive_any l a4 c4 n dn wr HV.out hn h9t)
              clear hlen1 hlen2 hI9
              go_cut [120] (fun u wx => u = .bool (!decide (actOK l tk dn)) ∧ wx = wr)
              case first =>
                by_cases h1 : 0 ≤ tk
                · by_cases h2 : tk < l.length
                  · obtain ⟨m, rfl⟩ := Int.eq_ofNat_of_zero_le h1
                    have hm : m < l.length := by omega
                    by_cases h3 : 0 ≤ dn
                    · obtain ⟨b, off, rfl, hbN, hcell⟩ := hc (by intro e; rw [e] at hm; simp at hm)
                      obtain ⟨c0, _, _, _, _, _, _, _⟩ := hcell m _ (ctAt_get hm)
                      have c0 := keep_cellN hbl hbN c0
                      have hbw : b < wr.heap.size := by omega
                      clear hcell
                      by_cases h4 : dn ≤ (ctAt l m).c
                      · have HT := Lib.hid (show decide (actOK l (m : Int) dn) = true from decide_eq_true ⟨hHV, h1, h2, h3, h4⟩)
                        clear hHV
                        go_wp2_with fail
                        go_meet
                        case rel => exact ⟨by rw [HT.out, decide_eq_false (by omega : ¬ (m : Int) < 0), decide_eq_false (by omega : ¬ l.length ≤ m), decide_eq_false (by omega : ¬ dn < 0), decide_eq_false (by omega : ¬ (ctAt l m).c < dn)]; rfl, rfl⟩
                      · have HT := Lib.hid (show decide (actOK l (m : Int) dn) = false from decide_eq_false (fun h => h4 h.2.2.2.2))
                        clear hHV
                        go_wp2_with fail
                        go_meet
                        case rel => exact ⟨by rw [HT.out]; rfl, rfl⟩
                    · have HT := Lib.hid (show decide (actOK l (m : Int) dn) = false from decide_eq_false (fun h => h3 h.2.2.2.1))
                      clear hHV
                      go_wp2_with fail
                      go_meet
                      case rel => exact ⟨by rw [HT.out]; rfl, rfl⟩
                  · have HT := Lib.hid (show decide (actOK l tk dn) = false from decide_eq_false (fun h => h2 h.2.2.1))
                    clear hHV
                    go_wp2_with fail
                    go_meet
                    case rel => exact ⟨by rw [HT.out]; rfl, rfl⟩
                · have HT := Lib.hid (show decide (actOK l tk dn) = false from decide_eq_false (fun h => h1 h.2.1))
                  clear hHV
                  go_wp2_with fail
                  go_meet
                  case rel => exact ⟨by rw [HT.out]; rfl, rfl⟩
              case rest =>
                obtain ⟨rfl, rfl⟩ := hcut
                clear hHV
                by_cases hok : actOK l tk dn
                · have e1 : decide (actOK l tk dn) = true := decide_eq_true hok
                  rw [e1]
                  have HT := Lib.hid (show actTop l tk dn = (actV l tk.toNat dn).1 from if_pos hok)
                  obtain ⟨_, t1, t2, _, _⟩ := hok
                  obtain ⟨m, rfl⟩ := Int.eq_ofNat_of_zero_le t1
                  have RB := Lib.hid (RA.out m (by omega))
                  have hb0 := hbl
                  clear e1 RA
                  go_wp2_with fail
                  refine CA.out.mono ?_
                  rintro e w10 ⟨rfl, hb10⟩
                  have h10t := h9t.on hb10 hb10.size
                  have b10 := hbl.trans (hb10.mono hbs2)
                  have s10 := b10.size
                  have RB2 := Lib.hid (ractive_any l a4 c4 m dn w10 HV.out (by omega) h10t)
                  clear CA RB hb10
                  go_wp2_with fail
                  refine RB2.out.mono ?_
                  rintro e w11 ⟨rfl, hb11⟩
                  rw [HT.out]
                  go_wp2_with fail
                  go_ret
                  exact ⟨by first | rfl | exact ret_bool (by simp), b10.trans (hb11.mono s10)⟩
                · have e1 : decide (actOK l tk dn) = false := decide_eq_false hok
                  rw [e1]
                  have HT := Lib.hid (show actTop l tk dn = -1 from if_neg hok)
                  clear e1 hok RA
                  go_wp2_with fail
                  refine CA.out.mono ?_
                  rintro e w10 ⟨rfl, hb10⟩
                  rw [HT.out]
                  go_wp2_with fail
                  go_ret
                  exact ⟨rfl, hbl.trans (hb10.mono hbs2)⟩
  · have h40' : ¬ (l.length : Int) ≤ 40 := by omega
    go_wp2_with fail
    refine (awake43_any _).mono ?_
    rintro e w3 ⟨rfl, hb3⟩
    go_wp2_with fail
    go_ret
    exact ⟨rfl, hb1.trans (hb3.mono s1)⟩
end Go.Proofs.Ytkedcnemldjbeaa
