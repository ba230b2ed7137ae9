/- Several texts in one: The walk over flow.levels. Conditions: the matrix lies in memory. The walk over slices.Clone of a row of integers. Conditions: the row lies in memory. -/
import Derived.Test.YtfoadipocpopiaaGreatM42
import Derived.Outline
import Derived.StillTailTactics
import Derived.Deep.DeepCutAuto
import Derived.Deep.RegionLaw
import Derived.Deep.LoopGhost
namespace Go.Proofs.YtfoadipocpopiaaGreat
section
open Go.RowKit Go.Deep

theorem cntL_one {n src : Nat} (hs : src < n) : cntL n (updL (fun _ => -1) src 0) = 1 := by
  unfold cntL
  rw [sm_one hs (fun i _ hne => by simp [updL, hne])]
  simp [updL]
def LevPost (n src : Nat) (r : Nat → Nat → Int) (w : World) (e : Ending) (w' : World) : Prop :=
  ∃ lv g, e = .returned (.slice (some ⟨g, 0, none⟩) n n) ∧ Below w.heap.size w w' ∧ w.heap.size ≤ g ∧ g < w'.heap.size ∧ (∀ i, i < n → w'.cell? ⟨g, 0 + i, none⟩ = some (.int .i64 (lv i))) ∧ Lev n r src lv

set_option maxRecDepth 100000 in
set_option maxHeartbeats 6400000 in
theorem levels_any (n src O o cap : Nat) (r : Nat → Nat → Int) (w : World) (hn : n ≤ 402) (hs : src < n) (hm : MatAt w w.heap.size O o n r) :
    Calls Tryz.prog 57 #[.slice (some ⟨O, o, none⟩) n cap, .int .i64 src] w (LevPost n src r w) := by
  have hnI : (n : Int) ≤ 402 := by omega
  have hsI : (src : Int) < (n : Int) := by omega
  have hs0 : (0 : Int) ≤ (src : Int) := by omega
  have hm' := hm
  obtain ⟨hOl, hM⟩ := hm'
  have HM := Lib.hid hM
  clear hM hm
  obtain ⟨i0, hi0, hz0, hz1, hz2⟩ := info_parts info_int
  have hmk := run_make (P := Tryz.prog) w 42 3 i0 _ Tryz.underlying42 hi0 hz0 .i64 .i64 n n (by omega) (by omega) (by rw [hz2]; omega) (by omega)
  simp only [Int.toNat_natCast, hz1, Value.cells] at hmk
  clear hi0 hz0 hz1 hz2
  go_enter Tryz.func57, Tryz.ntmps57
  go_wp2_with fail
  clear hmk
  have hrow := World.rowIs_made w (.int .i64 0) n 3
  have b1 : Below w.heap.size w (w.alloc (.cells (madeCells #[.int .i64 0] n) 3)) := (Below.refl _ _).alloc (Nat.le_refl _) _
  have s1 : w.heap.size < (w.alloc (.cells (madeCells #[.int .i64 0] n) 3)).heap.size := by simp
  generalize w.alloc (.cells (madeCells #[.int .i64 0] n) 3) = w1 at *
  generalize hG : w.heap.size = G at *
  have HG := Lib.hid hG
  clear hG
  go_loopw [16] (fun u wr => ∃ k : Nat, u = .int .i64 k ∧ k ≤ n ∧ Hid (wr.rowIs G 3 n (fun i => .int .i64 (if i < k then -1 else 0))) ∧ Below G w wr ∧ G < wr.heap.size) (fun u _ => n - (intOf u).toNat)
  case atStart => exact ⟨0, rfl, by omega, hrow.congr (fun i _ => by simp), b1, s1⟩
  case round =>
    obtain ⟨k, rfl, hk, hrw, hbl, hsl⟩ := hrel
    clear b1 s1 hrow
    by_cases hlt : k < n
    · have k0 : (0 : Int) ≤ (k : Int) := by omega
      have k1 : (k : Int) < (n : Int) := by omega
      have m0 := hrw.out.cell (i := k) hlt
      have m1 := hrw.out.frozen k
      have HR := Lib.hid ((hrw.out.set k (.int .i64 (-1))).congr (g := fun i => .int .i64 (if i < k + 1 then -1 else 0)) (fun i _ => by
        by_cases e : i = k
        · subst e; simp
        · by_cases e2 : i < k
          · rw [if_neg e, if_pos e2, if_pos (by omega)]
          · rw [if_neg e, if_neg e2, if_neg (by omega)]))
      clear hrw
      go_wp2_with fail
      go_roundw
      case rel => exact ⟨k + 1, by go_num, by omega, HR.out, hbl.setCell (p := ⟨G, k, none⟩) (Nat.le_refl _) _, by simpa using hsl⟩
      case measure => simp [intOf]; omega
    · have hsr := hrw.out.cell (i := src) hs
      have hsf := hrw.out.frozen src
      have HR := Lib.hid ((hrw.out.set src (.int .i64 0)).congr (g := fun i => .int .i64 (updL (fun _ => -1) src 0 i)) (fun i hi => by
        unfold updL
        by_cases e : i = src
        · subst e; simp
        · rw [if_neg e, if_pos (show i < k by omega), if_neg e]))
      have b2 := hbl.setCell (p := ⟨G, src, none⟩) (Nat.le_refl _) (.int .i64 0)
      have s2 : G < (wr.setCell ⟨G, src, none⟩ (.int .i64 0)).heap.size := by simpa using hsl
      go_upto_region 8 with fail
      clear hrw hbl hsl hsr hsf
      generalize wr.setCell ⟨G, src, none⟩ (.int .i64 0) = w2 at *
      have HQ := Lib.hid (QW.one (N := G) (g := G) w2 rfl (by omega) (by omega) src)
      have HR3 := Lib.hid (HR.out.alloc (.cells #[.int .i64 (src : Int)] 3))
      have b3 := b2.alloc (Nat.le_of_lt s2) (.cells #[.int .i64 (src : Int)] 3)
      have s3 : G < (w2.alloc (.cells #[.int .i64 (src : Int)] 3)).heap.size := by simp; omega
      go_wp2_with fail
      generalize w2.alloc (.cells #[.int .i64 (src : Int)] 3) = w3 at *
      have HRW3 := HR3
      clear HR3 HR b2 s2
      go_loopg [7] (n + 2) (fun gh qv wr => ∃ (lv : Nat → Int) (q : List Nat), (n - cntL n lv).toNat + q.length < gh ∧ (n - cntL n lv).toNat + q.length ≤ n ∧ Hid (Bfs n r src lv q n 0) ∧ Hid (QW G G wr qv q) ∧ Hid (wr.rowIs G 3 n (fun i => .int .i64 (lv i))) ∧ Below G w wr ∧ G < wr.heap.size)
      case atStart => exact ⟨updL (fun _ => -1) src 0, [src], by have := cntL_one hs; simp only [List.length_cons, List.length_nil]; omega, by have := cntL_one hs; simp only [List.length_cons, List.length_nil]; omega, Bfs.init hs, HQ.out, HRW3.out, b3, s3⟩
      case round =>
        obtain ⟨lv, q, hgh, hql, hbf, hqw, hrw, hbl, hsl⟩ := hrel
        clear b3 s3 HQ HRW3
        cases q with
        | nil =>
          obtain ⟨qa, qc, rfl, _, _⟩ := hqw.out.1.form0
          have HB := Lib.hid hbf.out.lev
          have HC := Lib.hid (fun i (hi : i < n) => hrw.out.cell hi)
          clear hbf hqw hrw
          go_wp2_with fail
          go_ret
          exact ⟨lv, G, rfl, by rw [HG.out]; exact hbl, by rw [HG.out]; exact Nat.le_refl _, hsl, fun i hi => by rw [Nat.zero_add]; exact HC.out i hi, HB.out⟩
        | cons u q =>
          obtain ⟨qb, qo, qc, rfl, q1, q2, v', hpop, hqw'⟩ := hqw.out.pop
          obtain ⟨hbf', hu, hu0⟩ := hbf.out.pop
          have HQ := Lib.hid hqw'
          have HBF := Lib.hid hbf'
          obtain ⟨rb, rf, rc, c0, c1, c2, c3, c4⟩ := HM.out u hu
          have HC4 := Lib.hid c4
          have c0 := keep_cellN hbl hOl c0
          have hul : (u : Int) < (n : Int) := by omega
          have hu00 : (0 : Int) ≤ (u : Int) := by omega
          have hql' : (n - cntL n lv).toNat + q.length + 1 ≤ n := by simp at hql; omega
          have hgh' : (n - cntL n lv).toNat + q.length + 1 < gk := by simp at hgh; omega
          have hqI : (0 : Int) < ((q.length + 1 : Nat) : Int) := by omega
          have hqI2 : (0 : Int) < (q.length : Int) + 1 := by omega
          have hOw : O < wr.heap.size := by omega
          clear hqw hbf hqw' hbf' c4 hql hgh
          go_wp2_with fail
          go_loopw [7, 41] (fun qv idx wq => ∃ (j : Nat) (lv' : Nat → Int) (q' : List Nat), idx = .int .i64 j ∧ j ≤ n ∧ (n - cntL n lv').toNat + q'.length + 1 < gk ∧ (n - cntL n lv').toNat + q'.length + 1 ≤ n ∧ 0 ≤ lv' u ∧ Hid (Bfs n r src lv' q' u j) ∧ Hid (QW G G wq qv q') ∧ Hid (wq.rowIs G 3 n (fun i => .int .i64 (lv' i))) ∧ Below G w wq ∧ G < wq.heap.size) (fun _ idx _ => n - (intOf idx).toNat)
          case atStart => exact ⟨0, lv, q, rfl, by omega, hgh', hql', hu0, HBF.out, HQ.out, hrw.out, hbl, hsl⟩
          case round =>
            obtain ⟨j, lv', q', rfl, hj, hg2, hq2, hu2, hbf2, hqw2, hrw2, hbl2, hsl2⟩ := hrel
            clear HBF HQ hrw hbl hsl hpop hgh' hql' hu0 c0
            by_cases hlt : j < n
            · have j0 : (0 : Int) ≤ (j : Int) := by omega
              have j1 : (j : Int) < (n : Int) := by omega
              have x0 := keep_cellN hbl2 c3 (HC4.out j hlt)
              have x1 := hrw2.out.cell hlt
              have x2 := hrw2.out.cell hu
              have x3 := hrw2.out.frozen j
              have hrbw : rb < wr.heap.size := by omega
              have t1 := hbf2.out.top u hu
              have t2 := (cntL_le n lv').2
              have t3 := hbf2.out.low j hlt
              have t4 := hbf2.out.top j hlt
              by_cases hp : 0 < r u j
              · by_cases hneg : lv' j < 0
                · obtain ⟨hadd, hcnt⟩ := hbf2.out.add hlt hu hu2 hp hneg
                  have HR5 := Lib.hid ((hrw2.out.set j (.int .i64 (lv' u + 1))).congr (g := fun i => .int .i64 (updL lv' j (lv' u + 1) i)) (fun i _ => by
                    unfold updL
                    split <;> rfl))
                  have HQ5 := Lib.hid (hqw2.out.set j (.int .i64 (lv' u + 1)))
                  have b5 := hbl2.setCell (p := ⟨G, j, none⟩) (Nat.le_refl _) (.int .i64 (lv' u + 1))
                  have s5 : G < (wr.setCell ⟨G, j, none⟩ (.int .i64 (lv' u + 1))).heap.size := by simpa using hsl2
                  have HADD := Lib.hid hadd
                  have hm1 : (n - cntL n (updL lv' j (lv' u + 1))).toNat + (q' ++ [j]).length + 1 < gk := by
                    have := (cntL_le n (updL lv' j (lv' u + 1))).2
                    simp only [List.length_append, List.length_cons, List.length_nil]; omega
                  have hm2 : (n - cntL n (updL lv' j (lv' u + 1))).toNat + (q' ++ [j]).length + 1 ≤ n := by
                    have := (cntL_le n (updL lv' j (lv' u + 1))).2
                    simp only [List.length_append, List.length_cons, List.length_nil]; omega
                  have hu3 : 0 ≤ updL lv' j (lv' u + 1) u := by unfold updL; split <;> omega
                  clear hadd hcnt hrw2 hqw2 hbl2 hsl2 hbf2
                  go_upto_region 17 with fail
                  generalize wr.setCell ⟨G, j, none⟩ (.int .i64 (lv' u + 1)) = w5 at *
                  obtain ⟨v5, w6, hrun, hq6, hb6, hblk⟩ := HQ5.out.push (Nat.le_of_lt s5) s5 j (by omega)
                  have HQ6 := Lib.hid hq6
                  have HR6 := Lib.hid (HR5.out.of_block hblk)
                  have b6 := b5.trans hb6
                  have s6 : G < w6.heap.size := HR6.out.lt
                  clear hq6 hblk hb6 x0 x1 x2 x3 HQ5 HR5 b5
                  go_wp2_with (at_builtin; refine wpList_append_by rfl (.tmp 63) (.tmp 65) 42 rfl u7 (.slice (some ⟨w5.heap.size, 0, none⟩) 1 1) _ w6 rfl rfl hrun ?_)
                  go_roundw
                  case rel => exact ⟨j + 1, _, _, by go_num, by omega, hm1, hm2, hu3, HADD.out, HQ6.out, HR6.out, b6, s6⟩
                  case measure => simp [intOf]; omega
                · have HS := Lib.hid (hbf2.out.skip (.inr (by omega)))
                  go_wp2_with fail
                  go_roundw
                  case rel => exact ⟨j + 1, lv', q', by go_num, by omega, hg2, hq2, hu2, HS.out, hqw2.out, hrw2.out, hbl2, hsl2⟩
                  case measure => simp [intOf]; omega
              · have HS := Lib.hid (hbf2.out.skip (.inl (by omega)))
                go_wp2_with fail
                go_roundw
                case rel => exact ⟨j + 1, lv', q', by go_num, by omega, hg2, hq2, hu2, HS.out, hqw2.out, hrw2.out, hbl2, hsl2⟩
                case measure => simp [intOf]; omega
            · obtain rfl : j = n := by omega
              have HD := Lib.hid hbf2.out.done
              clear hbf2
              go_wp2_with fail
              go_roundg (gk - 1)
              case measure => omega
              case rel => exact ⟨lv', q', by omega, by omega, HD.out, hqw2.out, hrw2.out, hbl2, hsl2⟩
end

section
open Go.RowKit Go.Deep

def ClonePost (n : Nat) (f : Nat → Int) (w : World) (e : Ending) (w' : World) : Prop :=
  ∃ b o c, e = .returned (.slice (some ⟨b, o, none⟩) n c) ∧ Below w.heap.size w w' ∧ w.heap.size ≤ b ∧ b < w'.heap.size ∧ RowI w' b o n f ∧ n ≤ c ∧ c ≤ 9223372036854775807

set_option maxRecDepth 100000 in
set_option maxHeartbeats 3200000 in
theorem clone_any (n b o cap : Nat) (f : Nat → Int) (w : World) (hn : 0 < n) (hn2 : n ≤ 1000000) (hb : b < w.heap.size) (hf : ∀ j, j < n → w.cell? ⟨b, o + j, none⟩ = some (.int .i64 (f j))) :
    Calls Tryz.prog 56 #[.slice (some ⟨b, o, none⟩) n cap] w (ClonePost n f w) := by
  have hbw : Below w.heap.size w (w.alloc (.cells #[] 3)) := (Below.refl _ _).alloc (Nat.le_refl _) _
  obtain ⟨v', w', hrun, hw', hg, ho⟩ := (Win.lit w 3 1).cat (P := Tryz.prog) (t := 42) (ty := 42) Tryz.underlying42 info_int (by simp [Value.cells]) (by decide) (some ⟨b, o, none⟩) n cap ((List.range n).map fun j => Value.int .i64 (f j)) (by simp)
    (fun _ => ⟨_, rfl, fun j u hj => by
      have hlt : j < n := by
        have := (List.getElem?_eq_some_iff.1 hj).1
        simpa using this
      rw [List.getElem?_map, List.getElem?_range hlt] at hj
      simp at hj
      subst hj
      rw [addr_add, hbw.cell (p := ⟨b, o + j, none⟩) hb]
      exact hf j hlt⟩) (fun u hu => by
      obtain ⟨j, _, rfl⟩ := List.mem_map.1 hu
      rfl) (by omega) (by omega)
  have hb' : Below w.heap.size w w' := hbw.grown hg (by simp) (fun k hk => by simp [Value.ownBlock] at hk; omega)
  rw [Nat.zero_add] at hw'
  obtain ⟨g, oo, c, rfl, hlt, hc1, hc2⟩ := hw'.form hn
  have hge : w.heap.size ≤ g := by
    rcases ho g rfl with h | h
    · simp [Value.ownBlock] at h; omega
    · simp at h; omega
  have hrow := RowI.of_win (f := f) hw' (fun j hj => by simp [hj])
  have HP := Lib.hid (show ClonePost n f w (.returned (.slice (some ⟨g, oo, none⟩) n c)) w' from ⟨g, oo, c, rfl, hb', hge, hlt, hrow, hc1, hc2⟩)
  clear hf hbw hw' hg ho hb' hrow
  have heq : ∀ W : World, (binOp .eql 42 (.slice (some ⟨b, o, none⟩) n cap) (.slice none 0 0)).run Tryz.prog W = .ok (.bool false) W := fun W => Lib.run_eql_slice_nil W 42 3 (some ⟨b, o, none⟩) n cap 0 0 Tryz.underlying42
  go_enter Tryz.func56, Tryz.ntmps56
  go_wp2_with (at_builtin; refine wpList_append_by rfl (.tmp 5) (.tmp 6) 42 rfl (.slice (some ⟨w.heap.size, 0, none⟩) 0 0) (.slice (some ⟨b, o, none⟩) n cap) _ w' rfl rfl hrun ?_)
  go_ret
  exact HP.out
end
end Go.Proofs.YtfoadipocpopiaaGreat
