/- The walk over WholeRefused: it answers true. Conditions: the tasks lie in memory. -/
import Derived.Test.YtfoadipocpopiaaGreatTop2
import Derived.Test.YtfoadipocpopiaaGreatM52
import Derived.Test.YtfoadipocpopiaaGreatM38
namespace Go.Proofs.YtfoadipocpopiaaGreat
open Go.RowKit Go.Deep
theorem tasksB_true {l : List TT} {z : Int} (h : tasksB l z = true) : tsOK l = true ∧ l.length ≤ 6 ∧ 1 ≤ z ∧ z ≤ 4 := by
  unfold tasksB at h
  rw [Bool.and_eq_true, decide_eq_true_eq] at h
  exact ⟨h.1, h.2.1, h.2.2.1, h.2.2.2.1⟩

def LateB (x : Nat) (B : Bool) : Prop := x = 0 ↔ B = true
theorem LateB.yes {x : Nat} (h : LateB x true) : x = 0 := h.2 rfl
theorem LateB.no {x : Nat} (h : LateB x false) : ¬ x = 0 := fun q => Bool.noConfusion (h.1 q)
def OvB (B : Bool) (o : Int × Int × Bool) (H D z : Int) : Prop := B = false → o = (H, D, true) ∧ z * H < D
theorem OvB.no {o : Int × Int × Bool} {H D z : Int} (h : OvB false o H D z) : o = (H, D, true) ∧ z * H < D := h rfl
theorem perAll_len {l : List TT} {H : Nat} : ∀ i, (perAll l H i).length ≤ i * H
  | 0 => by simp [perAll]
  | i + 1 => by
    have h1 := perAll_len (l := l) (H := H) i
    have h2 := Nat.div_le_self H (tp l i)
    rw [perAll_succ, List.length_append, Nat.add_mul]
    have h3 : (perJ (tp l i : Nat) (tc l i : Nat) (H / tp l i)).length = H / tp l i := by simp [perJ]
    omega

set_option maxRecDepth 100000 in
set_option maxHeartbeats 6400000 in
theorem law_whole (l : List TT) (a : Option Addr) (cap : Nat) (z0 : Int) (w : World) (hl : l.length ≤ cap) (hcap : cap ≤ 9223372036854775807) (hc : TSAt w w.heap.size a l) (hz : -9223372036854775808 ≤ z0 ∧ z0 ≤ 9223372036854775807) :
    Calls Tryz.prog 3 #[.slice a l.length cap, .int .i64 z0] w fun e w' => e = .returned (.bool true) ∧ Below w.heap.size w w' := by
  have hll : l.length ≤ 9223372036854775807 := by omega
  have hlI : (l.length : Int) ≤ 9223372036854775807 := by omega
  have HC := Lib.hid hc
  clear hc
  go_enter Tryz.func3, Tryz.ntmps3
  go_wp2_with fail
  refine (awakeSlots_any _).mono ?_
  rintro e w1 ⟨rfl, hb1⟩
  have s1 := hb1.size
  have TK := Lib.hid (tasks_any l a cap z0 w1 hll (HC.out.on hb1 s1))
  go_wp2_with fail
  refine TK.out.mono ?_
  rintro e w2 ⟨rfl, hb2⟩
  have b2 := hb1.trans (hb2.mono s1)
  have s2 := b2.size
  clear TK hb1 hb2 s1
  cases htb : tasksB l z0 with
  | false =>
    go_wp2_with fail
    go_ret
    exact ⟨rfl, b2⟩
  | true =>
    obtain ⟨hok, h6, z1, z4⟩ := tasksB_true htb
    obtain ⟨z, rfl⟩ : ∃ z : Nat, z0 = (z : Int) := ⟨z0.toNat, by omega⟩
    clear htb
    have HH := Lib.hid (hyper_any l a cap w2 hll (HC.out.on b2 s2))
    go_wp2_with fail
    refine HH.out.mono ?_
    rintro e w3 ⟨rfl, hb3⟩
    have b3 := b2.trans (hb3.mono s2)
    have s3 := b3.size
    clear HH hb3 b2
    simp only []
    by_cases h0 : (hypR l).2 = 0
    · obtain ⟨_, hle, he⟩ := hypR_ok h0
      have hpos := hyp_pos hok l.length (Nat.le_refl _)
      have HD := Lib.hid (fun i (hi : i < l.length) => hyp_dvd hle l.length (Nat.le_refl _) hi)
      have HOC := Lib.hid (over_cases (z := (z : Int)) h0)
      rw [he]
      have HOK := Lib.hid hok
      clear hok hle he h0
      generalize hyp l l.length = H at *
      by_cases h60 : H ≤ 72
      · have h60I : ¬ (72 : Int) < (H : Int) := by omega
        have hHI : (H : Int) ≤ 72 := by omega
        have hzI : (z : Int) ≤ 4 := by omega
        have HOV := Lib.hid (fun W (hb : Below w.heap.size w W) => overload_any l (z : Int) a cap W hll hz (HC.out.on hb hb.size))
        have HFT := Lib.hid (fun W (hb : Below w.heap.size w W) => fits_any l (z : Int) a cap W hll hz (HC.out.on hb hb.size))
        have HFB := Lib.hid (show fitsB l (z : Int) = decide ((dem l H l.length : Int) ≤ (z : Int) * (H : Int)) from by
          unfold fitsB
          rw [HOK.out, Bool.true_and]
          exact decide_eq_decide.2 (fits_iff HOK.out hpos HD.out (z : Int)))
        have HOVB := Lib.hid (show (overR l (z : Int)).2.2 = !(decide ((dem l H l.length : Int) ≤ (z : Int) * (H : Int))) from by
          rw [← HFB.out]
          rcases HOC.out with ⟨e1, e2⟩ | ⟨e1, e2, _⟩
          · rw [e1, e2]; rfl
          · rw [e1, e2]; rfl)
        have HOVF := Lib.hid (show OvB (decide ((dem l H l.length : Int) ≤ (z : Int) * (H : Int))) (overR l (z : Int)) (H : Int) (dem l H l.length : Int) (z : Int) from fun hf => by
          rcases HOC.out with ⟨_, e2⟩ | ⟨e1, _, e3⟩
          · rw [← HFB.out, e2] at hf; cases hf
          · exact ⟨e1, e3⟩)
        have HSY := Lib.hid (fun W (hb : Below w.heap.size w W) => sync_any l a cap H W HOK.out HD.out (by omega) (HC.out.on hb hb.size))
        have HJB := Lib.hid (fun W ja0 jc0 (hb : Below w.heap.size w W) (hr : RowsAt W W.heap.size ja0 (rowsI l.length (fun i => perR (tp l i : Nat) (H / tp l i)))) =>
          show Calls Tryz.prog 10 #[.slice a l.length cap, .slice ja0 l.length jc0, .int .i64 (H : Int)] W fun e w' => ∃ ja jc, e = .returned (.slice ja (perAll l H l.length).length jc) ∧ FJobsAt w' w'.heap.size ja (perAll l H l.length) ∧ Below W.heap.size W w' from by
          have HJ := jobs_any l a cap (rowsI l.length (fun i => perR (tp l i : Nat) (H / tp l i))) ja0 jc0 (H : Int) W hll (by rw [rowsI_len]; exact hll) (fun _ _ => per_small HOK.out (by omega)) (HC.out.on hb hb.size) hr
          have HE := (show (if tsOK l = true ∧ (rowsI l.length (fun i => perR (tp l i : Nat) (H / tp l i))).length = l.length then jobsTo l (rowsI l.length (fun i => perR (tp l i : Nat) (H / tp l i))) (H : Int) l.length else []) = perAll l H l.length from by
            rw [if_pos ⟨HOK.out, rowsI_len _ _⟩]
            exact jobs_per HOK.out perRows_of l.length (Nat.le_refl _))
          rw [HE] at HJ
          rw [rowsI_len] at HJ
          exact HJ.mono fun e w' ⟨ja, jc, h1, _, _, h2, h3⟩ => ⟨ja, jc, h1, h2, h3⟩)
        have HSI := Lib.hid (fun W ja0 jc0 (hb : Below w.heap.size w W) (hr : RowsAt W W.heap.size ja0 (rowsI l.length (fun i => perR (tp l i : Nat) (H / tp l i)))) =>
          show Calls Tryz.prog 12 #[.slice a l.length cap, .int .i64 (z : Int), .slice ja0 l.length jc0, .int .i64 (H : Int)] W fun e w' => Below W.heap.size W w' ∧ ∃ (js : Nat → JS) (m : Nat) (sv : Value) (ma : Option Addr) (mc : Nat), ReachS l.length z (tc l) (tp l) (rwAt (rowsI l.length (fun i => perR (tp l i : Nat) (H / tp l i)))) H js m ∧ e = .returned (.tuple #[sv, .slice ma (m + missN l.length (tc l) (tp l) H js) mc, .int .i64 0]) from by
          have h := simulate_any l a cap (rowsI l.length (fun i => perR (tp l i : Nat) (H / tp l i))) ja0 jc0 z H W HOK.out (by omega) (by omega) (by omega) (rowsI_len _ _) (syn_sp HOK.out (by omega) HD.out) (by omega) (HC.out.on hb hb.size) hr
          rw [rowsI_len] at h
          exact h)
        have HMA := Lib.hid (fun ja jc W (hj : FJobsAt W W.heap.size ja (perAll l H l.length)) (hn : ¬ (perAll l H l.length).length ≤ 100) =>
          show Calls Tryz.prog 11 #[.slice ja (perAll l H l.length).length jc, .int .i64 (z : Int)] W fun e w' => Below W.heap.size W w' ∧ e = .returned (.tuple #[.slice none 0 0, .bool false, .int .i64 1]) from
          (schedule_any (perAll l H l.length) ja jc (z : Int) W (by
            have := perAll_len (l := l) (H := H) l.length
            have h2 : l.length * H ≤ 6 * 72 := Nat.mul_le_mul h6 h60
            omega) hj).mono fun e w' h => many_sched hn h)
        have HFE := Lib.hid (fun ja jc W (hj : FJobsAt W W.heap.size ja (perAll l H l.length)) (hn : (perAll l H l.length).length ≤ 100) =>
          show Calls Tryz.prog 11 #[.slice ja (perAll l H l.length).length jc, .int .i64 (z : Int)] W fun e w' => Below W.heap.size W w' ∧ ∃ a m c, e = .returned (.tuple #[.slice a m c, .bool (decide ((dem l H l.length : Int) ≤ (z : Int) * (H : Int))), .int .i64 0]) from
          (schedule_any (perAll l H l.length) ja jc (z : Int) W (by omega) hj).mono fun e w' h => per_sched HOK.out HD.out hpos (by omega) (by omega) (by omega) hn h)
        have HLATE := Lib.hid (fun js m (h : ReachS l.length z (tc l) (tp l) (rwAt (rowsI l.length (fun i => perR (tp l i : Nat) (H / tp l i)))) H js m) =>
          show LateB (m + missN l.length (tc l) (tp l) H js) (decide ((dem l H l.length : Int) ≤ (z : Int) * (H : Int))) from
          (late_iff HOK.out hpos HD.out h).trans decide_eq_true_iff.symm)
        have HWZ := Lib.hid (show wrap64 ((z : Int) * (H : Int)) = (z : Int) * (H : Int) from by
          have h2 : z * H ≤ 4 * 72 := Nat.mul_le_mul (by omega) h60
          have h3 : (z : Int) * (H : Int) = ((z * H : Nat) : Int) := (Int.natCast_mul _ _).symm
          rw [h3]
          exact IntWalk.wrap64_in _ (by omega))
        rw [HFB.out] at HFT
        clear HOC HFB
        generalize decide ((dem l H l.length : Int) ≤ (z : Int) * (H : Int)) = B at *
        generalize dem l H l.length = D at *
        have HF3 := HFT.out _ b3
        clear HFT
        cases B
        · go_wp2_with fail
          refine HF3.mono ?_
          rintro e w4 ⟨rfl, hb4⟩
          have b4 := b3.trans (hb4.mono b3.size)
          clear HF3 hb4
          go_wp2_with fail
          refine (HOV.out _ b4).mono ?_
          rintro e w5 ⟨rfl, hb5⟩
          have b5 := b4.trans (hb5.mono b4.size)
          simp only []
          rw [HOVB.out]
          generalize HO1 : (overR l (z : Int)).1 = ov1 at *
          generalize HO2 : (overR l (z : Int)).2.1 = ov2 at *
          have HOV2 := HOVF.out.no
          obtain ⟨rfl, rfl⟩ : ov1 = (H : Int) ∧ ov2 = (D : Int) := ⟨by rw [← HO1, HOV2.1], by rw [← HO2, HOV2.1]⟩
          have hlt := HOV2.2
          clear HO1 HO2 HOV2
          have hwz := HWZ.out
          have hle : ¬ (D : Int) ≤ (z : Int) * (H : Int) := by omega
          clear HOV HOVB HOVF hb5
          go_wp2_with fail
          refine (HSY.out _ b5).mono ?_
          rintro e w6 ⟨v6, rfl, hrw, hb6⟩
          have b6 := b5.trans (hb6.mono b5.size)
          obtain ⟨ja0, jc0, hve, q1, q2, q3⟩ := hrw.rows
          rw [rowsI_len] at hve
          subst hve
          have HJ := Lib.hid (HJB.out _ ja0 jc0 b6 q3)
          have HSIM := Lib.hid (fun W (hb : Below w.heap.size w W) hr => HSI.out W ja0 jc0 hb hr)
          have HRW6 := Lib.hid q3
          clear HSY hrw hb6 q1 q2 q3
          go_wp2_with fail
          refine HJ.out.mono ?_
          rintro e w7 ⟨ja, jc, rfl, hjj, hb7⟩
          have b7 := b6.trans (hb7.mono b6.size)
          have HMS := Lib.hid (fun h => HMA.out ja jc w7 hjj h)
          have HFS := Lib.hid (fun h => HFE.out ja jc w7 hjj h)
          have HRW8 := Lib.hid (fun W (hb : Below w7.heap.size w7 W) => (HRW6.out.on hb7 hb7.size).on hb hb.size)
          clear HJ hjj hb7 HMA HFE HJB HSI
          generalize (perAll l H l.length).length = jn at *
          by_cases h100 : jn ≤ 100
          · have h100I : ¬ (100 : Int) < (jn : Int) := by omega
            go_wp2_with fail
            refine (HFS.out h100).mono ?_
            rintro e w8 ⟨hb8, xa, xm, xc, rfl⟩
            have b8 := b7.trans (hb8.mono b7.size)
            have HSM := Lib.hid (HSIM.out _ b8 (HRW8.out _ hb8))
            clear hb8 HMS HFS
            simp only []
            go_wp2_with fail
            refine HSM.out.mono ?_
            rintro e w9 ⟨hb9, js, m, sv, ma, mc, hR, rfl⟩
            have b9 := b8.trans (hb9.mono b8.size)
            have hm : ¬ (m + missN l.length (tc l) (tp l) H js = 0) := (HLATE.out js m hR).no
            clear hR
            generalize m + missN l.length (tc l) (tp l) H js = mm at *
            have hmI : (0 : Int) < (mm : Int) := by omega
            have HMN := Lib.hid (show 0 < mm by omega)
            clear hm
            go_wp2_with fail
            go_ret
            exact ⟨by first | rfl | (show Ending.returned (Value.bool (decide (0 < mm))) = _; rw [decide_eq_true HMN.out]), b9⟩
          · have h100I : (100 : Int) < (jn : Int) := by omega
            go_wp2_with fail
            refine (HMS.out h100).mono ?_
            rintro e w8 ⟨hb8, rfl⟩
            have b8 := b7.trans (hb8.mono b7.size)
            have HSM := Lib.hid (HSIM.out _ b8 (HRW8.out _ hb8))
            clear hb8 HMS HFS
            simp only []
            go_wp2_with fail
            refine HSM.out.mono ?_
            rintro e w9 ⟨hb9, js, m, sv, ma, mc, hR, rfl⟩
            have b9 := b8.trans (hb9.mono b8.size)
            have hm : ¬ (m + missN l.length (tc l) (tp l) H js = 0) := (HLATE.out js m hR).no
            clear hR
            generalize m + missN l.length (tc l) (tp l) H js = mm at *
            have hmI : (0 : Int) < (mm : Int) := by omega
            have HMN := Lib.hid (show 0 < mm by omega)
            clear hm
            go_wp2_with fail
            go_ret
            exact ⟨rfl, b9⟩
        · go_wp2_with fail
          refine HF3.mono ?_
          rintro e w4 ⟨rfl, hb4⟩
          have b4 := b3.trans (hb4.mono b3.size)
          clear HF3 hb4
          go_wp2_with fail
          refine (HOV.out _ b4).mono ?_
          rintro e w5 ⟨rfl, hb5⟩
          have b5 := b4.trans (hb5.mono b4.size)
          simp only []
          rw [HOVB.out]
          generalize HO1 : (overR l (z : Int)).1 = ov1 at *
          generalize HO2 : (overR l (z : Int)).2.1 = ov2 at *
          clear HO1 HO2
          clear HOV HOVB HOVF hb5
          go_wp2_with fail
          refine (HSY.out _ b5).mono ?_
          rintro e w6 ⟨v6, rfl, hrw, hb6⟩
          have b6 := b5.trans (hb6.mono b5.size)
          obtain ⟨ja0, jc0, hve, q1, q2, q3⟩ := hrw.rows
          rw [rowsI_len] at hve
          subst hve
          have HJ := Lib.hid (HJB.out _ ja0 jc0 b6 q3)
          have HSIM := Lib.hid (fun W (hb : Below w.heap.size w W) hr => HSI.out W ja0 jc0 hb hr)
          have HRW6 := Lib.hid q3
          clear HSY hrw hb6 q1 q2 q3
          go_wp2_with fail
          refine HJ.out.mono ?_
          rintro e w7 ⟨ja, jc, rfl, hjj, hb7⟩
          have b7 := b6.trans (hb7.mono b6.size)
          have HMS := Lib.hid (fun h => HMA.out ja jc w7 hjj h)
          have HFS := Lib.hid (fun h => HFE.out ja jc w7 hjj h)
          have HRW8 := Lib.hid (fun W (hb : Below w7.heap.size w7 W) => (HRW6.out.on hb7 hb7.size).on hb hb.size)
          clear HJ hjj hb7 HMA HFE HJB HSI
          generalize (perAll l H l.length).length = jn at *
          by_cases h100 : jn ≤ 100
          · have h100I : ¬ (100 : Int) < (jn : Int) := by omega
            go_wp2_with fail
            refine (HFS.out h100).mono ?_
            rintro e w8 ⟨hb8, xa, xm, xc, rfl⟩
            have b8 := b7.trans (hb8.mono b7.size)
            have HSM := Lib.hid (HSIM.out _ b8 (HRW8.out _ hb8))
            clear hb8 HMS HFS
            simp only []
            go_wp2_with fail
            refine HSM.out.mono ?_
            rintro e w9 ⟨hb9, js, m, sv, ma, mc, hR, rfl⟩
            have b9 := b8.trans (hb9.mono b8.size)
            have hm := (HLATE.out js m hR).yes
            rw [hm]
            clear hR hm
            go_wp2_with fail
            go_ret
            exact ⟨rfl, b9⟩
          · have h100I : (100 : Int) < (jn : Int) := by omega
            go_wp2_with fail
            refine (HMS.out h100).mono ?_
            rintro e w8 ⟨hb8, rfl⟩
            have b8 := b7.trans (hb8.mono b7.size)
            have HSM := Lib.hid (HSIM.out _ b8 (HRW8.out _ hb8))
            clear hb8 HMS HFS
            simp only []
            go_wp2_with fail
            refine HSM.out.mono ?_
            rintro e w9 ⟨hb9, js, m, sv, ma, mc, hR, rfl⟩
            have b9 := b8.trans (hb9.mono b8.size)
            have hm := (HLATE.out js m hR).yes
            rw [hm]
            clear hR hm
            go_wp2_with fail
            go_ret
            exact ⟨rfl, b9⟩
      · have h60I : (72 : Int) < (H : Int) := by omega
        clear HD HOC
        go_wp2_with fail
        go_ret
        exact ⟨rfl, b3⟩
    · have h0b : ((hypR l).2 != 0) = true := by simp [h0]
      generalize hypR l = hh at *
      obtain ⟨hh1, hh2⟩ := hh
      simp only at h0 h0b ⊢
      go_wp2_with fail
      go_ret
      exact ⟨rfl, b3⟩
end Go.Proofs.YtfoadipocpopiaaGreat
