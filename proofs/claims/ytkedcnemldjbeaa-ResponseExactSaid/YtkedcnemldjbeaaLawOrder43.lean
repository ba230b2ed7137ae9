/- The walk over CeilingOrder. Conditions: the arguments lie in memory. -/
import Derived.Test.YtkedcnemldjbeaaAwake43
import Derived.Test.YtkedcnemldjbeaaFits2
import Derived.Deep.DeepCutAuto
namespace Go.Proofs.Ytkedcnemldjbeaa
open Go.RowKit

def endAt (js : List Jb) (k : Nat) : Int := if k = 0 then 0 else (js.getD (k - 1) ⟨0, 0, 0, 0, 0⟩).en
theorem endAt_succ {js : List Jb} {k : Nat} {j : Jb} (h : js[k]? = some j) : endAt js (k + 1) = j.en := by
  unfold endAt
  rw [if_neg (by omega), Nat.add_sub_cancel, List.getD_eq_getElem?_getD, h]; rfl
/-- What the law asks of a job. -/
theorem job_facts {E : Env} (hE : EnvOK E) {un : Nat} {k : Nat} {j : Jb} (h : (run E un).en[k]? = some j) :
    j.tk < E.n ∧ (E.rel j.tk)[cnt j.tk ((run E un).en.take k)]? = some j.rel ∧ 0 ≤ j.rel ∧ j.rel ≤ j.st ∧ j.st + E.cost j.tk ≤ j.en ∧ j.rel + E.cost j.tk + j.bl ≤ j.en ∧ 0 ≤ j.bl ∧ j.en ≤ un ∧ endAt (run E un).en k < j.en ∧
      0 ≤ work E ((run E un).en.take k) ∧ work E ((run E un).en.take (k + 1)) = work E ((run E un).en.take k) + E.cost j.tk ∧ work E ((run E un).en.take (k + 1)) ≤ j.en ∧ 0 ≤ endAt (run E un).en k := by
  have hI := (inv_run hE un).1
  obtain ⟨j1, j2, j3, j4, j5, j6, j7, j8, j9, j10⟩ := hI.jobs k j h
  have hw : ∀ v : List Jb, (∀ x ∈ v, 0 ≤ E.cost x.tk) → 0 ≤ work E v := by
    intro v hv
    induction v with
    | nil => exact Int.le_refl _
    | cons x v ih =>
      have := ih (fun y hy => hv y (List.mem_cons_of_mem _ hy))
      have := hv x (List.mem_cons_self ..)
      rw [work]; omega
  have hlt := (List.getElem?_eq_some_iff.1 h).1
  have hend : endAt (run E un).en k < j.en ∧ 0 ≤ endAt (run E un).en k := by
    unfold endAt
    split
    · omega
    · have hk : k - 1 < (run E un).en.length := by omega
      have hg := List.getElem?_eq_getElem hk
      rw [List.getD_eq_getElem?_getD, hg]
      have a := j9 (k - 1) _ (by omega) hg
      have b := (hI.jobs (k - 1) _ hg).2.2.2.2.2.2.1
      show ((run E un).en[k - 1]).en < j.en ∧ 0 ≤ ((run E un).en[k - 1]).en
      omega
  refine ⟨j1, j2, hE.nonneg _ _ _ j1 j2, j3, j4, j5, j6, j8, hend.1, hw _ (fun x hx => ?_), ?_, j10, hend.2⟩
  · obtain ⟨y, hy⟩ := List.mem_iff_getElem?.1 (List.mem_of_mem_take hx)
    have := hE.cost x.tk (hI.jobs y x hy).1
    omega
  · rw [List.take_succ_eq_append_getElem hlt, work_app]
    have : (run E un).en[k] = j := by
      have := List.getElem?_eq_getElem hlt
      rw [h] at this
      injection this with this
      exact this.symm
    rw [this]; simp [work]
theorem cnt_take {js : List Jb} {k : Nat} {j : Jb} (h : js[k]? = some j) (i : Nat) : cnt i (js.take (k + 1)) = cnt i (js.take k) + if j.tk = i then 1 else 0 := by
  have hlt := (List.getElem?_eq_some_iff.1 h).1
  have : js[k] = j := by
    have := List.getElem?_eq_getElem hlt
    rw [h] at this
    injection this with this
    exact this.symm
  rw [List.take_succ_eq_append_getElem hlt, cnt_snoc, this]

set_option maxRecDepth 100000 in
set_option maxHeartbeats 6400000 in
theorem law_order (l : List CT) (a : Option Addr) (cap : Nat) (rs : List (List Int)) (ra : Option Addr) (rcap : Nat) (un : Int) (w : World) (hl : l.length ≤ cap) (hcap : cap ≤ 9223372036854775807) (hc : TasksAt w w.heap.size a l)
    (hrl : rs.length ≤ rcap) (hrcap : rcap ≤ 9223372036854775807) (hr : RowsAt w w.heap.size ra rs) (hrr : ∀ r ∈ rs, FitI r) :
    Calls Try.prog 11 #[.slice a l.length cap, .slice ra rs.length rcap, .int .i64 un] w fun e w' => e = .returned (.bool true) ∧ Below w.heap.size w w' := by
  have hlen : (l.length : Int) ≤ 9223372036854775807 := by omega
  have hrlen : (rs.length : Int) ≤ 9223372036854775807 := by omega
  have HRR := Lib.hid hrr
  clear hrr
  go_enter Try.func11, Try.ntmps11
  go_wp2_with fail
  refine (awake43_any _).mono ?_
  rintro e w1 ⟨rfl, hb1⟩
  have s1 := hb1.size
  go_wp2_with fail
  refine (fits_any l a cap rs ra rcap un _ (by omega) (by omega) HRR.out (hc.on hb1 s1) (hr.on hb1 s1)).mono ?_
  rintro e w2 ⟨rfl, hb2⟩
  have b2 := hb1.trans (hb2.mono s1)
  have s2 := b2.size
  clear hb1 hb2
  cases hfit : fitsB l rs un
  · go_wp2_with fail
    refine (awake43_any _).mono ?_
    rintro e w3 ⟨rfl, hb3⟩
    go_wp2_with fail
    go_ret
    exact ⟨rfl, b2.trans (hb3.mono s2)⟩
  · obtain ⟨hfew, hck⟩ := fits_check hfit
    obtain ⟨hv, hn, u0, u1, hs⟩ := check_ok hck
    obtain ⟨q1, q2, q3, q4, q5⟩ := fewB_bd hfew
    obtain ⟨un, rfl⟩ := Int.eq_ofNat_of_zero_le u0
    have HCK := Lib.hid hck
    have HN := Lib.hid hn
    have HE := Lib.hid (env_ok hv hn hs)
    have HJF := Lib.hid (fun k j h => job_facts (env_ok hv hn hs) (un := un) (k := k) (j := j) h)
    have HOK := Lib.hid (validL_bd hv).2
    have HQ5 := Lib.hid q5
    have hl6 : (l.length : Int) ≤ 6 := by omega
    clear hfit hfew hck hv hn hs q4 q5 u0
    obtain ⟨i0, hi0, hz0, hz1, hz2⟩ := info_parts info_int
    go_wp2_with fail
    refine (simulate_any l a cap rs ra rcap un _ (by omega) (by omega) HRR.out (hc.on b2 s2) (hr.on b2 s2)).mono ?_
    rintro e w3 ⟨hb3, ⟨h, _⟩ | ⟨_, ja, jc, rfl, hj1, hj2, hj3⟩⟩
    · exact absurd HCK.out h
    · have b3 := b2.trans (hb3.mono s2)
      have s3 := b3.size
      have hjl : (run (envOf l rs) un).en.length ≤ un := (run_bd (envOf l rs) un).1
      rw [Int.toNat_natCast] at hj1 hj3 ⊢
      generalize hE : envOf l rs = E at *
      have HEE := Lib.hid hE
      have HEn := Lib.hid (show E.n = l.length by rw [← hE]; rfl)
      have HEr := Lib.hid (show ∀ i, E.rel i = rwAt rs i by rw [← hE]; exact fun _ => rfl)
      have HEc := Lib.hid (show ∀ i, E.cost i = (ctAt l i).c by rw [← hE]; exact fun _ => rfl)
      have HJ3 := Lib.hid hj3
      clear hE hb3 hj3 b2
      generalize hjs : (run E un).en = js at *
      have HJS := Lib.hid hjs
      clear hjs
      have hjlI : (js.length : Int) ≤ 300 := by omega
      have hmk := run_make (P := Try.prog) w3 35 3 i0 _ Try.underlying35 hi0 hz0 .i64 .i64 l.length l.length (by omega) (by omega) (by rw [hz2]; omega) (by omega)
      simp only [Int.toNat_natCast, hz1, Value.cells] at hmk
      clear hi0 hz0 hz1 hz2
      go_wp2_with fail
      clear hmk
      have hrow := World.rowIs_made w3 (.int .i64 0) l.length 3
      have b4 : Below w.heap.size w (w3.alloc (.cells (madeCells #[.int .i64 0] l.length) 3)) := b3.alloc (by omega) _
      have j4 := HJ3.out.keep ((Below.refl _ _).alloc (Nat.le_refl _) (.cells (madeCells #[.int .i64 0] l.length) 3))
      have HJ4 := Lib.hid j4
      have s4 : w3.heap.size < (w3.alloc (.cells (madeCells #[.int .i64 0] l.length) 3)).heap.size := by simp
      clear HJ3 j4
      generalize w3.alloc (.cells (madeCells #[.int .i64 0] l.length) 3) = w4 at *
      generalize w3.heap.size = M at *
      go_loopw [39, 10, 11] (fun u x y wr => ∃ k : Nat, u = .int .i64 k ∧ k ≤ js.length ∧ x = .int .i64 (work E (js.take k)) ∧ y = .int .i64 (endAt js k) ∧ Hid (wr.rowIs M 3 l.length (fun i => .int .i64 (cnt i (js.take k)))) ∧ Below w.heap.size w wr ∧ Below M w4 wr ∧ M < wr.heap.size ∧ (0 < k → work E (js.take k) ≤ endAt js k)) (fun u _ _ _ => js.length - (intOf u).toNat)
      case atStart => exact ⟨0, rfl, by omega, rfl, rfl, hrow.congr (g := fun i => .int .i64 (cnt i (js.take 0))) (fun i _ => by simp [cnt]), b4, Below.refl _ _, s4, fun h => by omega⟩
      case round =>
        obtain ⟨k, rfl, hk, rfl, rfl, hrw, hbl, hcl, hsM, hwe⟩ := hrel
        have hbs := hbl.size
        by_cases hlt : k < js.length
        · have hget := List.getElem?_eq_getElem hlt
          obtain ⟨jb, jo, rfl, hjN, hjcell⟩ := HJ4.out (by intro e; simp [e] at hlt)
          obtain ⟨a0, a1, a2, a3, a4⟩ := hjcell k _ hget
          have a0 := keep_cellN hcl hjN a0
          have a1 := keep_cellN hcl hjN a1
          have a2 := keep_cellN hcl hjN a2
          have a3 := keep_cellN hcl hjN a3
          have a4 := keep_cellN hcl hjN a4
          obtain ⟨f1, f2, f3, f4, f5, f6, f7, f8, f9, f10, f11, f12, f13⟩ := HJF.out k _ hget
          rw [HEn.out] at f1
          have HES := Lib.hid (endAt_succ hget)
          have HCS := Lib.hid (cnt_take hget)
          clear hjcell hget hwe
          generalize js[k] = j at *
          obtain ⟨tk, rel, st, en, bl⟩ := j
          simp only at a0 a1 a2 a3 a4 f1 f2 f3 f4 f5 f6 f7 f8 f9 f10 f11 f12 f13
          rw [HEr.out] at f2
          rw [HEc.out] at f5 f6 f11
          have htr : tk < rs.length := by have := HN.out; omega
          obtain ⟨rb, roff, rfl, hrN, hrcell⟩ := hr (by intro e; simp [e] at htr)
          obtain ⟨xa, xc, r0, hxc, hxc2, hxs⟩ := hrcell tk _ (rwAt_get htr)
          have hx12 := HQ5.out _ (rwAt_mem htr)
          have hcl2 := (List.getElem?_eq_some_iff.1 f2).1
          obtain ⟨xb, xoff, rfl, hxN, hxcell⟩ := hxs (by intro e; rw [e] at hcl2; simp at hcl2)
          have x0 := hxcell _ _ f2
          obtain ⟨b, off, rfl, hbN, hcell⟩ := hc (by intro e; rw [e] at f1; simp at f1)
          obtain ⟨c0, _, _, _, _, _, _, _⟩ := hcell tk _ (ctAt_get f1)
          have hcst := (okT_bd (HOK.out _ (ctAt_mem f1))).1.1
          have r0 := keep_cellN hbl hrN r0
          have x0 := keep_cellN hbl hxN x0
          have c0 := keep_cellN hbl hbN c0
          have m0 := hrw.out.cell (i := tk) f1
          have m1 := hrw.out.frozen tk
          have HRW0 := Lib.hid hrw.out
          have HRWF := Lib.hid (fun (W : World) (hW : W.rowIs M 3 l.length (fun i => .int .i64 (cnt i (js.take k)))) => (hW.set tk (.int .i64 (((cnt tk (js.take k) : Nat) : Int) + 1))).congr (g := fun i => .int .i64 (cnt i (js.take (k + 1)))) (fun i _ => by
            show (if i = tk then _ else _) = _
            rw [HCS.out i]
            by_cases e : i = tk
            · subst e; simp
            · rw [if_neg e, if_neg (Ne.symm e)]; simp))
          have hce : ((cnt tk (js.take k) : Nat) : Int) ≤ 12 := by omega
          have t0 : (0 : Int) ≤ (tk : Int) := by omega
          have htl : (tk : Int) < (l.length : Int) := by omega
          have htr' : (tk : Int) < (rs.length : Int) := by omega
          have hd1 : decide (l.length ≤ tk) = false := decide_eq_false (by omega)
          have hd2 : decide ((rwAt rs tk).length ≤ cnt tk (js.take k)) = false := decide_eq_false (by omega)
          have hcx : ((cnt tk (js.take k) : Nat) : Int) < ((rwAt rs tk).length : Int) := by omega
          have hjw : jb < wr.heap.size := by omega
          have hrbw : rb < wr.heap.size := by omega
          have hxbw : xb < wr.heap.size := by omega
          have hbw : b < wr.heap.size := by omega
          have hkl' : (k : Int) < (js.length : Int) := by omega
          clear hrcell hxcell hcell hrw
          generalize rwAt rs tk = r at *
          generalize cnt tk (js.take k) = cn at *
          generalize work E (js.take k) = wk at *
          generalize endAt js k = ek at *
          generalize (ctAt l tk).c = cc at *
          have hwb : wk + cc ≤ en := by omega
          have F11 := Lib.hid f11
          clear f11 f2 f12
          go_upto_region 11 with fail
          have jcl := Go.Deep.blk_alloc_new wr (.cells #[.int .i64 tk, .int .i64 rel, .int .i64 st, .int .i64 en, .int .i64 bl] 59)
          have hbj : Below wr.heap.size wr (wr.alloc (.cells #[.int .i64 tk, .int .i64 rel, .int .i64 st, .int .i64 en, .int .i64 bl] 59)) := (Below.refl _ _).alloc (Nat.le_refl _) _
          have hsj : wr.heap.size < (wr.alloc (.cells #[.int .i64 tk, .int .i64 rel, .int .i64 st, .int .i64 en, .int .i64 bl] 59)).heap.size := by simp
          have HRWj := Lib.hid (HRW0.out.alloc (.cells #[.int .i64 tk, .int .i64 rel, .int .i64 st, .int .i64 en, .int .i64 bl] 59))
          generalize wr.alloc (.cells #[.int .i64 tk, .int .i64 rel, .int .i64 st, .int .i64 en, .int .i64 bl] 59) = wj at *
          have g0 := row_cell jcl (j := 0) rfl
          have g1 := row_cell jcl (j := 1) rfl
          have g2 := row_cell jcl (j := 2) rfl
          have g3 := row_cell jcl (j := 3) rfl
          have g4 := row_cell jcl (j := 4) rfl
          have c0 := keep_cell hbj hbw c0
          have r0 := keep_cell hbj hrbw r0
          have x0 := keep_cell hbj hxbw x0
          have m0 := keep_cell hbj hsM m0
          have m1 : wj.frozen? ⟨M, tk, none⟩ = false := HRWj.out.frozen tk
          have hMj : M < wj.heap.size := by omega
          have hbj' : b < wj.heap.size := by omega
          have hrj' : rb < wj.heap.size := by omega
          have hxj' : xb < wj.heap.size := by omega
          clear jcl
          go_quiet (fail)
          have hbq := below_drewN (Below.refl wj.heap.size wj) nq
          have b8 := (hbl.trans (hbj.mono (by omega))).trans (hbq.mono (by omega))
          have c8 := (hcl.trans (hbj.mono (by omega))).trans (hbq.mono (by omega))
          have HRW8 := Lib.hid (HRWj.out.of_block (hbq.block M hMj))
          have g0 := keep_cell hbq hsj g0
          have g1 := keep_cell hbq hsj g1
          have g2 := keep_cell hbq hsj g2
          have g3 := keep_cell hbq hsj g3
          have g4 := keep_cell hbq hsj g4
          have c0 := keep_cell hbq hbj' c0
          have m0 := keep_cell hbq hMj m0
          have m1 : (wj.drewN nq).frozen? ⟨M, tk, none⟩ = false := HRW8.out.frozen tk
          have hs8 := hbq.size
          have hsj8 : wr.heap.size < (wj.drewN nq).heap.size := by omega
          have hM8 : M < (wj.drewN nq).heap.size := by omega
          have hMr : M ≠ wr.heap.size := by omega
          clear hbq hbj
          generalize wj.drewN nq = w8 at *
          have HB8 := Lib.hid b8
          have HC8 := Lib.hid c8
          clear b8 c8 hbl hcl
          go_wp2_with fail
          go_roundw
          case rel => exact ⟨k + 1, by go_num, by omega, by rw [F11.out], by rw [HES.out], HRWF.out _ HRW8.out, HB8.out.setCell (p := ⟨M, tk, none⟩) s3 _, HC8.out.setCell (p := ⟨M, tk, none⟩) (Nat.le_refl M) _, by simp; omega, fun _ => by rw [F11.out, HES.out]; exact hwb⟩
          case measure => simp [intOf]; omega
        · have HWE := Lib.hid (show work E (js.take k) ≤ endAt js k by
            by_cases h0 : 0 < k
            · exact hwe h0
            · obtain rfl : k = 0 := by omega
              simp [work, endAt])
          have hd := HWE.out
          clear hwe
          go_wp2_with fail
          go_ret
          exact ⟨by first | rfl | exact ret_bool (decide_eq_true HWE.out), hbl⟩
end Go.Proofs.Ytkedcnemldjbeaa
