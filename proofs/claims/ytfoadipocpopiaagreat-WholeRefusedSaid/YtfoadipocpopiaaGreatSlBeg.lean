/- The walk over the model's begin. Conditions: the tasks and releases lie below the model; small numbers. -/
import Derived.Test.YtfoadipocpopiaaGreatM06
import Derived.Outline
import Derived.Deep.Heap
import Derived.OwnWalk
import Derived.BigQuiet
import Derived.Deep.DeepCutAuto
namespace Go.Proofs.YtfoadipocpopiaaGreat
open Go.RowKit Go.Deep
def begJ1 (p : Int) (s : Int) (j : JS) : JS := if j.lv = true ∧ p ≤ s - j.rl then ⟨false, j.rl, j.dn, j.nx⟩ else j
theorem begJ_eq (p : Int) (r : List Int) (s : Int) (j : JS) : begJ p r s j = (if (begJ1 p s j).nx < r.length ∧ r.getD (begJ1 p s j).nx 0 = s then ⟨true, s, 0, (begJ1 p s j).nx + 1⟩ else begJ1 p s j) := rfl
def cB (l : List TT) : Nat → Nat := tc l
/-- Jobs in the bounds that the walk needs. -/
def WfJ (rs : List (List Int)) (n : Nat) (s : Int) (js : Nat → JS) : Prop := ∀ i, i < n → 0 ≤ (js i).rl ∧ (js i).rl ≤ s ∧ 0 ≤ (js i).dn ∧ (js i).dn ≤ 1000 ∧ (js i).nx ≤ (rwAt rs i).length
/-- The first i jobs have begun. -/
def begI (p : Nat → Nat) (r : Nat → List Int) (s : Nat) (js : Nat → JS) (i : Nat) : Nat → JS := fun k => if k < i then begJ (p k) (r k) s (js k) else js k
theorem begI_zero (p : Nat → Nat) (r : Nat → List Int) (s : Nat) (js : Nat → JS) : begI p r s js 0 = js := by funext k; simp [begI]
theorem begI_at {p : Nat → Nat} {r : Nat → List Int} {s : Nat} {js : Nat → JS} {i : Nat} : begI p r s js i i = js i := by simp [begI]
theorem begI_succ {p : Nat → Nat} {r : Nat → List Int} {s : Nat} {js : Nat → JS} {i : Nat} {j : JS} (h : j = begJ (p i) (r i) s (js i)) : updS (begI p r s js i) i j = begI p r s js (i + 1) := by
  funext k
  unfold updS begI
  by_cases e : k = i
  · subst e; simp [h]
  · by_cases e2 : k < i
    · rw [if_neg e, if_pos e2, if_pos (by omega)]
    · rw [if_neg e, if_neg e2, if_neg (by omega)]
def missI (c p : Nat → Nat) (s : Nat) (js : Nat → JS) (i : Nat) : Nat := (List.range i).countP fun k => missJ (c k) (p k) s (js k)
theorem missI_succ (c p : Nat → Nat) (s : Nat) (js : Nat → JS) (i : Nat) : missI c p s js (i + 1) = missI c p s js i + if missJ (c i) (p i) s (js i) = true then 1 else 0 := by
  unfold missI
  rw [List.range_succ, List.countP_append]
  simp [List.countP_cons]
theorem missI_le (c p : Nat → Nat) (s : Nat) (js : Nat → JS) (i : Nat) : missI c p s js i ≤ i := by
  unfold missI
  refine Nat.le_trans (List.countP_le_length ..) ?_
  simp

set_option maxRecDepth 100000 in
set_option maxHeartbeats 6400000 in
theorem begin_any (l : List TT) (a : Option Addr) (cap : Nat) (rs : List (List Int)) (ra : Option Addr) (rcap : Nat) (s : Nat) (w : World) (N gm gj gs : Nat) (ob : Array Value) (js : Nat → JS) (mv : Value) (m : Nat)
    (hok : tsOK l = true) (hne : rs.length = l.length) (hr30 : ∀ r ∈ rs, r.length ≤ 1000) (hs : s ≤ 1000) (hm : m ≤ 100000) (hwf : WfJ rs l.length s js)
    (hc : TSAt w N a l) (hr : RowsAt w N ra rs) (hM : SMo w N gm gj gs ob (.slice a l.length cap) (.slice ra rs.length rcap) l.length js mv m) :
    Calls Tryz.prog 26 #[.pointer (some ⟨gm, 0, none⟩), .int .i64 s] w fun e w' => e = .returned (.tuple #[]) ∧ Below N w w' ∧ ∃ mv', SMo w' N gm gj gs ob (.slice a l.length cap) (.slice ra rs.length rcap) l.length (begS (tp l) (rwAt rs) s js) mv' (m + missN l.length (tc l) (tp l) s js) := by
  have hl40 := (tsOK_bd hok).1
  have hlI : (l.length : Int) ≤ 40 := by omega
  have HM := Lib.hid hM
  have HOK := Lib.hid hok
  have HC := Lib.hid hc
  have HR := Lib.hid hr
  have HNE := Lib.hid hne
  have HWF := Lib.hid hwf
  have HR3 := Lib.hid hr30
  clear hM hok hc hr hne hwf hr30
  go_enter Tryz.func26, Tryz.ntmps26
  obtain ⟨m0, m1, m2, m3⟩ := HM.out.cellM
  have hml := HM.out.mlt
  have hml0 := hml
  go_wp2_with fail
  go_loopw [12] (fun u wr => ∃ (i : Nat) (mv' : Value), u = .int .i64 i ∧ i ≤ l.length ∧ Hid (SMo wr N gm gj gs ob (.slice a l.length cap) (.slice ra rs.length rcap) l.length (begI (tp l) (rwAt rs) s js i) mv' (m + missI (tc l) (tp l) s js i)) ∧ Below N w wr) (fun u _ => l.length - (intOf u).toNat)
  case atStart => exact ⟨0, mv, rfl, by omega, Lib.hid (by rw [begI_zero]; exact HM.out), Below.refl _ _⟩
  case round =>
    clear m0 m1 m2 m3
    obtain ⟨i, mv', rfl, hi, hM, hbl⟩ := hrel
    generalize wr = w2 at *
    obtain ⟨m0, m1, m2, m3⟩ := hM.out.cellM
    have hml := hM.out.mlt
    by_cases h0 : i < l.length
    · have h0I : (i : Int) < (l.length : Int) := by omega
      have h0r : i < rs.length := by have := HNE.out; omega
      have h0rI : (i : Int) < (rs.length : Int) := by omega
      obtain ⟨j0, j1, j2, j3⟩ := hM.out.cellJ h0
      rw [begI_at] at j0 j1 j2 j3
      have hjl := hM.out.jlt
      obtain ⟨f1, f2, f3, f4, f5⟩ := HWF.out i h0
      obtain ⟨tb, to', rfl, htN, tcell⟩ := HC.out (by intro e; simp [e] at h0)
      obtain ⟨l0, l1, l2⟩ := tcell i _ (ttAt_get h0)
      obtain ⟨t1, t2, t3, t4, t5⟩ := tsOK_at HOK.out h0
      rw [t4] at l1
      rw [t5] at l2
      have HL1 := Lib.hid l1
      have HL2 := Lib.hid l2
      have l1 := keep_cellN hbl htN l1
      have l2 := keep_cellN hbl htN l2
      have hNs := hM.out.Nle
      have htr : tb < w2.heap.size := by omega
      obtain ⟨rb, ro, rfl, hrN, rcell⟩ := HR.out (by intro e; simp [e] at h0r)
      obtain ⟨qa, qc, c0, q1, q2, q3⟩ := rcell i _ (rwAt_get h0r)
      have HC0 := Lib.hid c0
      have HMS := Lib.hid (missI_succ (tc l) (tp l) s js i)
      have HBS := Lib.hid (fun j h => begI_succ (p := tp l) (r := rwAt rs) (s := s) (js := js) (i := i) (j := j) h)
      have hmi := missI_le (tc l) (tp l) s js i
      have hlen := HR3.out _ (rwAt_mem h0r)
      have HQ := Lib.hid q3
      clear tcell rcell t4 t5 q1 q2 q3 l0 c0
      generalize hjj : js i = j at *
      obtain ⟨lv, rl, dn, nx⟩ := j
      simp only at j0 j1 j2 j3 f1 f2 f3 f4 f5
      generalize hos : rwAt rs i = os at *
      have HOS := Lib.hid hos
      have HJJ := Lib.hid hjj
      clear hos hjj
      generalize hcc : tc l i = cc at *
      generalize hpp : tp l i = pp at *
      have HPP := Lib.hid hpp
      have HCC := Lib.hid hcc
      clear hcc hpp
      go_upto_region 3 with fail
      iterate 26 (first | go_says (fail) | go_values | go_skip | go_guarded | go_step | go_upon | go_back | (simp only [Int.not_lt, Int.not_le] at *; go_simp) | (go_values <;> (try go_simp)))
      go_cut [] (fun wx => ∃ mv'' : Value, Hid (SMo wx N gm gj gs ob (.slice (some ⟨tb, to', none⟩) l.length cap) (.slice (some ⟨rb, ro, none⟩) rs.length rcap) l.length (updS (begI (tp l) (rwAt rs) s js i) i (begJ1 pp s ⟨lv, rl, dn, nx⟩)) mv'' (m + missI (tc l) (tp l) s js (i + 1))) ∧ Below N w wx)
      case first =>
        clear HBS HQ HC0 HOS
        by_cases hact : lv = true ∧ (pp : Int) ≤ (s : Int) - rl
        · obtain ⟨rfl, hp⟩ := hact
          have d1 : decide ((pp : Int) ≤ (s : Int) - rl) = true := decide_eq_true hp
          have hj1 : begJ1 pp s ⟨true, rl, dn, nx⟩ = ⟨false, rl, dn, nx⟩ := if_pos ⟨rfl, hp⟩
          have hmi1 : missJ cc pp s ⟨true, rl, dn, nx⟩ = decide (dn < (cc : Int)) := by unfold missJ; rw [d1]; rfl
          rw [hmi1] at HMS
          have hfr := hM.out.frozenJ (i * 4)
          have HJ1 := Lib.hid hj1
          go_upto_region 4 with fail
          go_quiet (fail)
          have hM3 := hM.out.of_block (w' := w2.drewN nq) (fun _ _ => rfl) (Nat.le_refl _)
          have hbl3 := below_drewN hbl nq
          have hM4 := hM3.set h0 0 (by omega) (.bool false) ⟨false, rl, dn, nx⟩ (by rw [begI_at, HJJ.out]; rfl)
          rw [Nat.add_zero] at hM4
          have hbl4 := hbl3.setCell (p := ⟨gj, i * 4, none⟩) hM3.lay.2.1 (.bool false)
          have hj0 := hM3.cellJ h0
          rw [begI_at, HJJ.out] at hj0
          obtain ⟨j0, j1, j2, j3⟩ := hj0
          have hfr := hM3.frozenJ (i * 4)
          have hjl := hM3.jlt
          have HM4 := Lib.hid hM4
          have HM3 := Lib.hid hM3
          clear hM hM3 hM4 hbl hmi1 hj1 m0 m1 m2 m3
          generalize w2.drewN nq = w3 at *
          go_upto_if 57 with fail
          generalize w3.setCell ⟨gj, i * 4, none⟩ (.bool false) = w4 at *
          clear j0 j1 j2 j3 l1 l2 HM3 hbl3 hfr d1
          have hj0 := HM4.out.cellJ h0
          simp only [updS, if_true] at hj0
          obtain ⟨j0, j1, j2, j3⟩ := hj0
          have hjl := HM4.out.jlt
          obtain ⟨m0, m1, m2, m3⟩ := HM4.out.cellM
          have hml := HM4.out.mlt
          have l1 := keep_cellN hbl4 htN HL1.out
          have htr : tb < w4.heap.size := by have := HM4.out.Nle; omega
          by_cases hd : dn < (cc : Int)
          · have d2 : decide (dn < (cc : Int)) = true := decide_eq_true hd
            rw [d2, if_pos rfl] at HMS
            go_wp2_with fail
            go_quiet (fail)
            have hM5 := HM4.out.of_block (w' := w4.drewN nq) (fun _ _ => rfl) (Nat.le_refl _)
            have hbl5 := below_drewN hbl4 nq
            clear HM4 hbl4 j0 j1 j2 j3 m0 m1 m2 m3 l1
            generalize w4.drewN nq = w5 at *
            obtain ⟨v', w', hrun, hM6, hb6, x3, xf, xl, vg, vo, vc, hve⟩ := (hM5.of_block (w' := w5.drew) (fun _ _ => rfl) (Nat.le_refl _)).note i rl dn (by omega)
            have hj0 := hM5.cellJ h0
            simp only [updS, if_true] at hj0
            obtain ⟨j0, j1, j2, j3⟩ := hj0
            obtain ⟨m0, m1, m2, m3⟩ := hM5.cellM
            have hml := hM5.mlt
            have hjl := hM5.jlt
            have hbl6 := hbl5.trans (show Below N w5 (w'.setCell ⟨gm, 3, none⟩ v') from (Below.refl N w5).drew.trans hb6)
            have HM6 := Lib.hid hM6
            subst hve
            have hrun2 : (Builtin.append_ #[37, 37] 37 #[mv', .slice (some ⟨w5.heap.size, 0, none⟩) 1 1]).run Tryz.prog (w5.drew.alloc (.cells #[.int .i64 i, .int .i64 rl, .int .i64 dn] 90)) = .ok (.slice (some ⟨vg, vo, none⟩) (m + missI (tc l) (tp l) s js i + 1) vc) w' := hrun
            generalize hmm : m + missI (tc l) (tp l) s js i + 1 = mm at *
            have HMM := Lib.hid hmm
            clear hM5 hM6 hb6 hrun hmm
            go_upto_region 7 with fail
            go_region_law (refine step_append_by rfl (.tmp 62) (.tmp 73) 37 rfl mv' (.slice (some ⟨w5.heap.size, 0, none⟩) 1 1) _ w' (by rfl) (by rfl) hrun2 ?_)
            all_goals go_wp2_with fail
            all_goals go_meet
            all_goals exact ⟨_, by rw [HJ1.out, HMS.out, ← Nat.add_assoc, HMM.out]; exact HM6, hbl6⟩
          · have d2 : decide (dn < (cc : Int)) = false := decide_eq_false hd
            rw [d2] at HMS
            go_wp2_with fail
            go_quiet (fail)
            have hM5 := HM4.out.of_block (w' := w4.drewN nq) (fun _ _ => rfl) (Nat.le_refl _)
            have hbl5 := below_drewN hbl4 nq
            have HM5 := Lib.hid hM5
            clear HM4 hM5
            go_wp2_with fail
            go_meet
            case rel => exact ⟨mv', by rw [HJ1.out, HMS.out]; exact HM5, hbl5⟩
        · have hj1 : begJ1 pp s ⟨lv, rl, dn, nx⟩ = ⟨lv, rl, dn, nx⟩ := if_neg hact
          have HJ1 := Lib.hid hj1
          have hM3 := Lib.hid (hM.out.congr (js' := updS (begI (tp l) (rwAt rs) s js i) i ⟨lv, rl, dn, nx⟩) (fun k hk => by
            unfold updS
            by_cases e : k = i
            · subst e; rw [if_pos rfl, begI_at, HJJ.out]
            · rw [if_neg e]))
          have hmi1 : missJ cc pp s ⟨lv, rl, dn, nx⟩ = false := by
            unfold missJ
            simp only
            cases lv with
            | false => rfl
            | true => rw [decide_eq_false (fun h => hact ⟨rfl, h⟩)]; rfl
          rw [hmi1] at HMS
          have hfin : ∀ k, Hid (SMo (w2.drewN k) N gm gj gs ob (.slice (some ⟨tb, to', none⟩) l.length cap) (.slice (some ⟨rb, ro, none⟩) rs.length rcap) l.length (updS (begI (tp l) (rwAt rs) s js i) i (begJ1 pp s ⟨lv, rl, dn, nx⟩)) mv' (m + missI (tc l) (tp l) s js (i + 1))) ∧ Below N w (w2.drewN k) := fun k => ⟨by
            rw [HJ1.out, HMS.out]
            exact Lib.hid (hM3.out.of_block (fun _ _ => rfl) (Nat.le_refl _)), below_drewN hbl k⟩
          have HFIN := Lib.hid hfin
          clear hM hM3 hj1 hmi1 hfin HMS HJ1
          cases lv with
          | false =>
            clear hact
            go_upto_region 4 with fail
            go_quiet (fail)
            go_wp2_with fail
            go_meet
            case rel => exact ⟨mv', (HFIN.out _).1, (HFIN.out _).2⟩
          | true =>
            have d1 : decide ((pp : Int) ≤ (s : Int) - rl) = false := decide_eq_false (fun h => hact ⟨rfl, h⟩)
            clear hact
            go_upto_region 4 with fail
            go_quiet (fail)
            go_wp2_with fail
            go_meet
            case rel => exact ⟨mv', (HFIN.out _).1, (HFIN.out _).2⟩
      case rest =>
        obtain ⟨mv2, hM2, hbl2⟩ := hcut
        clear hM hbl j0 j1 j2 j3 m0 m1 m2 m3 l1 l2 hml hjl HMS
        generalize wc = w6 at *
        have hj0 := hM2.out.cellJ h0
        have hjeq : updS (begI (tp l) (rwAt rs) s js i) i (begJ1 pp s ⟨lv, rl, dn, nx⟩) i = begJ1 pp s ⟨lv, rl, dn, nx⟩ := if_pos rfl
        rw [hjeq] at hj0
        have HEQ := Lib.hid (begJ_eq (pp : Int) os s ⟨lv, rl, dn, nx⟩)
        have hb1 : (begJ1 pp s ⟨lv, rl, dn, nx⟩).nx = nx ∧ 0 ≤ (begJ1 pp s ⟨lv, rl, dn, nx⟩).rl := by
          unfold begJ1; split <;> exact ⟨rfl, f1⟩
        clear hjeq
        generalize begJ1 pp s ⟨lv, rl, dn, nx⟩ = jb at *
        obtain ⟨lv2, rl2, dn2, nx2⟩ := jb
        simp only at hj0 hb1
        obtain ⟨rfl, hrl2⟩ := hb1
        obtain ⟨j0, j1, j2, j3⟩ := hj0
        obtain ⟨m0, m1, m2, m3⟩ := hM2.out.cellM
        have hml := hM2.out.mlt
        have hjl := hM2.out.jlt
        have hNs := hM2.out.Nle
        have c0 := keep_cellN hbl2 hrN HC0.out
        have hrr : rb < w6.heap.size := by omega
        have HUU := Lib.hid (fun (j : JS) => show updS (updS (begI (tp l) (rwAt rs) s js i) i ⟨lv2, rl2, dn2, nx2⟩) i j = updS (begI (tp l) (rwAt rs) s js i) i j from by
          funext k; unfold updS; by_cases e : k = i <;> simp [e])
        have hnxI : (nx2 : Int) ≤ 1000 := by omega
        by_cases hnx : nx2 < os.length
        · have hnxI2 : (nx2 : Int) < (os.length : Int) := by omega
          obtain ⟨ob', oo, rfl, hoN, hoc⟩ := HQ.out (by intro e; simp [e] at hnx)
          have x0 := keep_cellN hbl2 hoN (hoc nx2 _ (getD_get hnx))
          have hor : ob' < w6.heap.size := by omega
          have HE2 := Lib.hid (fun (h : os.getD nx2 0 = (s : Int)) => HEQ.out.trans (if_pos ⟨hnx, h⟩))
          have HE3 := Lib.hid (fun (h : ¬ os.getD nx2 0 = (s : Int)) => HEQ.out.trans (if_neg (fun q => h q.2)))
          clear hoc HEQ
          generalize os.getD nx2 0 = x at *
          by_cases hx : x = (s : Int)
          · have HE := Lib.hid (HBS.out _ (HE2.out hx).symm)
            have hfr := hM2.out.frozenJ
            have hf0 := hfr (i * 4)
            have hf1 := hfr (i * 4 + 1)
            have hf2 := hfr (i * 4 + 2)
            have hf3 := hfr (i * 4 + 3)
            clear hfr HE2 HE3 HBS
            subst hx
            have hA := hM2.out.set h0 0 (by omega) (.bool true) ⟨true, rl2, dn2, nx2⟩ (by simp [updS, encJS])
            have hB := hA.set h0 1 (by omega) (.int .i64 s) ⟨true, s, dn2, nx2⟩ (by simp [updS, encJS])
            have hC := hB.set h0 2 (by omega) (.int .i64 0) ⟨true, s, 0, nx2⟩ (by simp [updS, encJS])
            have hD := hC.set h0 3 (by omega) (.int .i64 ((nx2 + 1 : Nat) : Int)) ⟨true, s, 0, nx2 + 1⟩ (by simp [updS, encJS])
            have hbD := ((((hbl2.setCell (p := ⟨gj, i * 4 + 0, none⟩) hM2.out.lay.2.1 (.bool true)).setCell (p := ⟨gj, i * 4 + 1, none⟩) hM2.out.lay.2.1 (.int .i64 s)).setCell (p := ⟨gj, i * 4 + 2, none⟩) hM2.out.lay.2.1 (.int .i64 0)).setCell (p := ⟨gj, i * 4 + 3, none⟩) hM2.out.lay.2.1 (.int .i64 ((nx2 + 1 : Nat) : Int)))
            have hjs : updS (updS (updS (updS (updS (begI (tp l) (rwAt rs) s js i) i ⟨lv2, rl2, dn2, nx2⟩) i ⟨true, rl2, dn2, nx2⟩) i ⟨true, s, dn2, nx2⟩) i ⟨true, s, 0, nx2⟩) i ⟨true, s, 0, nx2 + 1⟩ = begI (tp l) (rwAt rs) s js (i + 1) := by
              rw [← HE.out]
              funext k; unfold updS; by_cases e : k = i <;> simp [e]
            rw [hjs] at hD
            rw [Nat.add_zero] at hD hbD
            have HD := Lib.hid hD
            have HBD := Lib.hid hbD
            clear hA hB hC hD hbD hjs HE hM2 HUU
            have hn1 : (nx2 : Int) + 1 = ((nx2 + 1 : Nat) : Int) := by omega
            have HN1 := Lib.hid hn1
            clear hn1
            go_wp2_with fail
            go_roundw
            case rel => exact ⟨i + 1, mv2, by go_num, by omega, by (first | exact HD | (rw [HN1.out]; exact HD)), by (first | exact HBD.out | (rw [HN1.out]; exact HBD.out))⟩
            case measure => simp [intOf]; omega
          · have hxb : (x == (s : Int)) = false := by simp [hx]
            have HE := Lib.hid (HBS.out _ (HE3.out hx).symm)
            clear HE2 HE3 HBS hx
            go_wp2_with fail
            go_roundw
            case rel => exact ⟨i + 1, mv2, by go_num, by omega, by rw [← HE.out]; exact hM2, hbl2⟩
            case measure => simp [intOf]; omega
        · have hnxI2 : ¬ (nx2 : Int) < (os.length : Int) := by omega
          have HE := Lib.hid (HBS.out _ (HEQ.out.trans (if_neg (fun q => hnx q.1))).symm)
          clear HEQ HBS
          go_wp2_with fail
          go_roundw
          case rel => exact ⟨i + 1, mv2, by go_num, by omega, by rw [← HE.out]; exact hM2, hbl2⟩
          case measure => simp [intOf]; omega
    · obtain rfl : i = l.length := by omega
      have HFIN := hM.out
      clear hM
      go_wp2_with fail
      go_end0
      exact ⟨rfl, hbl, mv', HFIN.congr fun k hk => by unfold begI; rw [if_pos hk]; rfl⟩
end Go.Proofs.YtfoadipocpopiaaGreat
