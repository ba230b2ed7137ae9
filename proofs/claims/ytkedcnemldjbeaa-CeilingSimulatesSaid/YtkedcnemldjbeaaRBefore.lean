/- The walk over the reference's before. Conditions: a valid list of tasks lies in memory. -/
import Derived.Test.YtkedcnemldjbeaaRHeld
import Derived.Test.YtkedcnemldjbeaaSimR3
import Derived.Test.YtkedcnemldjbeaaSimEnv
import Derived.BigQuiet
import Derived.Deep.DeepCutAuto
namespace Go.Proofs.Ytkedcnemldjbeaa
open Go.RowKit

theorem held_act (l : List CT) (n : Nat) (d : Int) : heldB d (ctAt l n).ss = (actV l n d).2 := by
  show _ = (actS (ceilM l) n d (ctAt l n).ss).2
  rw [actS_held]
  unfold heldB
  cases heldS d (ctAt l n).ss <;> rfl
/-- A pending job of the reference, as the call has it. -/
def encR (p : RJ) : List Value := [.int .i64 p.tk, .int .i64 p.rel, .int .i64 p.st, .int .i64 p.en, .int .i64 p.bl, .int .i64 p.dn]
def befL (l : List CT) (p q : RJ) : Bool := bef p.tk ⟨p.rel, p.st, p.dn, 0, (actV l p.tk p.dn).1, (actV l p.tk p.dn).2⟩ q.tk ⟨q.rel, q.st, q.dn, 0, (actV l q.tk q.dn).1, (actV l q.tk q.dn).2⟩
theorem befL_eq (l : List CT) (rs : List (List Int)) (p q : RJ) : rbef (envOf l rs) p q = befL l p q := rfl

set_option maxRecDepth 100000 in
set_option maxHeartbeats 3200000 in
theorem rbefore_any (l : List CT) (a : Option Addr) (cap : Nat) (p q : RJ) (w : World) (hv : validL l = true) (hp : p.tk < l.length) (hq : q.tk < l.length) (hc : TasksAt w w.heap.size a l) :
    Calls Try.prog 51 #[.slice a l.length cap, .agg #[.int .i64 p.tk, .int .i64 p.rel, .int .i64 p.st, .int .i64 p.en, .int .i64 p.bl, .int .i64 p.dn], .agg #[.int .i64 q.tk, .int .i64 q.rel, .int .i64 q.st, .int .i64 q.en, .int .i64 q.bl, .int .i64 q.dn]] w fun e w' => e = .returned (.bool (befL l p q)) ∧ Below w.heap.size w w' := by
  obtain ⟨h20, hok⟩ := validL_bd hv
  have hlen : (l.length : Int) ≤ 20 := by omega
  have HV := Lib.hid hv
  have HP8 := Lib.hid ((okT_bd (hok _ (ctAt_mem hp))).1.2.2.2.2.2.2)
  have HQ8 := Lib.hid ((okT_bd (hok _ (ctAt_mem hq))).1.2.2.2.2.2.2)
  have HAP := Lib.hid (held_act l p.tk p.dn)
  have HAQ := Lib.hid (held_act l q.tk q.dn)
  have HBF := Lib.hid (show befL l p q = bef p.tk ⟨p.rel, p.st, p.dn, 0, (actV l p.tk p.dn).1, (actV l p.tk p.dn).2⟩ q.tk ⟨q.rel, q.st, q.dn, 0, (actV l q.tk q.dn).1, (actV l q.tk q.dn).2⟩ from rfl)
  have CP := Lib.hid (fun W h => ractive_any l a cap p.tk p.dn W hv hp h)
  have CQ := Lib.hid (fun W h => ractive_any l a cap q.tk q.dn W hv hq h)
  have bP := Go.Deep.blk_alloc_new w (.cells #[.int .i64 p.tk, .int .i64 p.rel, .int .i64 p.st, .int .i64 p.en, .int .i64 p.bl, .int .i64 p.dn] 91)
  have b1 : Below w.heap.size w (w.alloc (.cells #[.int .i64 p.tk, .int .i64 p.rel, .int .i64 p.st, .int .i64 p.en, .int .i64 p.bl, .int .i64 p.dn] 91)) := (Below.refl _ _).alloc (Nat.le_refl _) _
  have s1 : (w.alloc (.cells #[.int .i64 p.tk, .int .i64 p.rel, .int .i64 p.st, .int .i64 p.en, .int .i64 p.bl, .int .i64 p.dn] 91)).heap.size = w.heap.size + 1 := by simp
  have bQ := Go.Deep.blk_alloc_new (w.alloc (.cells #[.int .i64 p.tk, .int .i64 p.rel, .int .i64 p.st, .int .i64 p.en, .int .i64 p.bl, .int .i64 p.dn] 91)) (.cells #[.int .i64 q.tk, .int .i64 q.rel, .int .i64 q.st, .int .i64 q.en, .int .i64 q.bl, .int .i64 q.dn] 91)
  rw [s1] at bQ
  have bP2 := (Below.heap_alloc (w.alloc (.cells #[.int .i64 p.tk, .int .i64 p.rel, .int .i64 p.st, .int .i64 p.en, .int .i64 p.bl, .int .i64 p.dn] 91)) (.cells #[.int .i64 q.tk, .int .i64 q.rel, .int .i64 q.st, .int .i64 q.en, .int .i64 q.bl, .int .i64 q.dn] 91) w.heap.size (by omega)).trans bP
  have b2 := b1.alloc (by omega) (.cells #[.int .i64 q.tk, .int .i64 q.rel, .int .i64 q.st, .int .i64 q.en, .int .i64 q.bl, .int .i64 q.dn] 91)
  have s2 : ((w.alloc (.cells #[.int .i64 p.tk, .int .i64 p.rel, .int .i64 p.st, .int .i64 p.en, .int .i64 p.bl, .int .i64 p.dn] 91)).alloc (.cells #[.int .i64 q.tk, .int .i64 q.rel, .int .i64 q.st, .int .i64 q.en, .int .i64 q.bl, .int .i64 q.dn] 91)).heap.size = w.heap.size + 2 := by simp
  clear hok hv bP b1
  go_enter Try.func51, Try.ntmps51
  go_upto_region 1 with fail
  clear s1
  generalize (w.alloc (.cells #[.int .i64 p.tk, .int .i64 p.rel, .int .i64 p.st, .int .i64 p.en, .int .i64 p.bl, .int .i64 p.dn] 91)).alloc (.cells #[.int .i64 q.tk, .int .i64 q.rel, .int .i64 q.st, .int .i64 q.en, .int .i64 q.bl, .int .i64 q.dn] 91) = w2 at *
  generalize hH : w.heap.size = H at *
  have HH := Lib.hid hH
  clear hH
  have m2 := hc.on b2 (by omega)
  have hHw : H < w2.heap.size := by omega
  have hHw1 : H + 1 < w2.heap.size := by omega
  have p0 := row_cell bP2 (j := 0) rfl
  have p1 := row_cell bP2 (j := 1) rfl
  have p5 := row_cell bP2 (j := 5) rfl
  have q0' := row_cell bQ (j := 0) rfl
  have q1' := row_cell bQ (j := 1) rfl
  have q5' := row_cell bQ (j := 5) rfl
  simp only [List.getElem_toArray, List.getElem_cons_succ, List.getElem_cons_zero] at p0 p1 p5 q0' q1' q5'
  clear bP2 bQ
  have B2 := Lib.hid b2
  clear b2
  go_wp2_with fail
  refine (CP.out _ m2).mono ?_
  rintro e w3 ⟨rfl, hb3⟩
  have q0' := keep_cell hb3 hHw1 q0'
  have q1' := keep_cell hb3 hHw1 q1'
  have q5' := keep_cell hb3 hHw1 q5'
  have p0 := keep_cell hb3 hHw p0
  have p1 := keep_cell hb3 hHw p1
  have p5 := keep_cell hb3 hHw p5
  have s3 := hb3.size
  have m3 := m2.on hb3 s3
  have hHw : H < w3.heap.size := by omega
  have hHw1 : H + 1 < w3.heap.size := by omega
  have B3 := Lib.hid (B2.out.trans (hb3.mono (by omega)))
  clear hb3 m2 B2 CP
  go_wp2_with fail
  refine (CQ.out _ m3).mono ?_
  rintro e w4 ⟨rfl, hb4⟩
  have q0' := keep_cell hb4 hHw1 q0'
  have q1' := keep_cell hb4 hHw1 q1'
  have q5' := keep_cell hb4 hHw1 q5'
  have p0 := keep_cell hb4 hHw p0
  have p1 := keep_cell hb4 hHw p1
  have p5 := keep_cell hb4 hHw p5
  have s4 := hb4.size
  have m4 := m3.on hb4 s4
  have hHw : H < w4.heap.size := by omega
  have hHw1 : H + 1 < w4.heap.size := by omega
  have B4 := Lib.hid (B3.out.trans (hb4.mono (by omega)))
  clear hb4 m3 B3 CQ
  by_cases hac : (actV l p.tk p.dn).1 = (actV l q.tk q.dn).1
  · have HAC := Lib.hid hac
    have hac1 : ((actV l p.tk p.dn).1 != (actV l q.tk q.dn).1) = false := by simp [hac]
    clear hac
    have m4' := m4
    obtain ⟨b, off, rfl, hbN, hcell⟩ := m4 (by intro e; rw [e] at hp; simp at hp)
    obtain ⟨c0, c1, c2, sa, sc, c3, hsl, hss⟩ := hcell p.tk _ (ctAt_get hp)
    obtain ⟨d0, d1, d2, ta, tc, d3, dsl, dss⟩ := hcell q.tk _ (ctAt_get hq)
    have HS := Lib.hid (show SecsAt w4 w4.heap.size sa (ctAt l p.tk).ss from hss)
    have HT := Lib.hid (show SecsAt w4 w4.heap.size ta (ctAt l q.tk).ss from dss)
    have HHP := Lib.hid (fun W (hW : SecsAt W W.heap.size sa (ctAt l p.tk).ss) => rheld_any (ctAt l p.tk).c (ctAt l p.tk).p (ctAt l p.tk).d p.dn (ctAt l p.tk).ss sa sc W (by have := HP8.out; omega) hW)
    have HHQ := Lib.hid (fun W (hW : SecsAt W W.heap.size ta (ctAt l q.tk).ss) => rheld_any (ctAt l q.tk).c (ctAt l q.tk).p (ctAt l q.tk).d q.dn (ctAt l q.tk).ss ta tc W (by have := HQ8.out; omega) hW)
    clear hcell hss dss m4'
    have hp' : (p.tk : Int) < (l.length : Int) := by omega
    have hq' : (q.tk : Int) < (l.length : Int) := by omega
    rw [HAP.out] at HHP
    rw [HAQ.out] at HHQ
    have h01 : (0 : Int) ≤ (p.tk : Int) := by omega
    have h02 : (0 : Int) ≤ (q.tk : Int) := by omega
    go_wp2_with fail
    refine wp_region_quiet (C := fun W => Below w4.heap.size w4 W) (by kernel_rfl) (by kernel_rfl) (Below.refl _ _).drew ?_
    repeat (
      refine wpQuiet_step (fun K hK => ?_)
      go_simp
      first
        | (refine hK _ ?_; clear hK K)
        | (apply Exists.intro
           refine ⟨fun W q0 => ?_, hK _ ?_⟩
           (first
             | rfl
             | (have qc := (bcell q0).1; go_simp; rfl)
             | (go_at_call 52; ((with_reducible refine (HHP.out _ ((HS.out.keep q0).more q0.size)).mono ?_)); rintro e w5 ⟨rfl, hb5⟩; exact ⟨rfl, q0.trans (hb5.mono q0.size)⟩))
           clear hK K))
    refine wpQuiet_nil ?_
    intro w5 hb5
    have B5 := Lib.hid (B4.out.trans (hb5.mono (by omega)))
    have q0' := keep_cell hb5 hHw1 q0'
    have q1' := keep_cell hb5 hHw1 q1'
    have q5' := keep_cell hb5 hHw1 q5'
    have p0 := keep_cell hb5 hHw p0
    have p1 := keep_cell hb5 hHw p1
    have d0 := keep_cell hb5 hbN d0
    have d1 := keep_cell hb5 hbN d1
    have d2 := keep_cell hb5 hbN d2
    have d3 := keep_cell hb5 hbN d3
    have s5 := hb5.size
    have HT5 := Lib.hid ((HT.out.keep hb5).more s5)
    have hHw : H < w5.heap.size := by omega
    have hHw1 : H + 1 < w5.heap.size := by omega
    have hbN : b < w5.heap.size := by omega
    clear hb5 B4 HHP HS HT p5 c0 c1 c2 c3
    go_wp2_with fail
    refine wp_region_quiet (C := fun W => Below w5.heap.size w5 W) (by kernel_rfl) (by kernel_rfl) (Below.refl _ _).drew ?_
    repeat (
      refine wpQuiet_step (fun K hK => ?_)
      go_simp
      first
        | (refine hK _ ?_; clear hK K)
        | (apply Exists.intro
           refine ⟨fun W q0 => ?_, hK _ ?_⟩
           (first
             | rfl
             | (have qc := (bcell q0).1; go_simp; rfl)
             | (go_at_call 52; ((with_reducible refine (HHQ.out _ ((HT5.out.keep q0).more q0.size)).mono ?_)); rintro e w6 ⟨rfl, hb6⟩; exact ⟨rfl, q0.trans (hb6.mono q0.size)⟩))
           clear hK K))
    refine wpQuiet_nil ?_
    intro w6 hb6
    have B6 := Lib.hid (B5.out.trans (hb6.mono (by omega)))
    have q0' := keep_cell hb6 hHw1 q0'
    have q1' := keep_cell hb6 hHw1 q1'
    have p0 := keep_cell hb6 hHw p0
    have p1 := keep_cell hb6 hHw p1
    have s6 := hb6.size
    have hHw : H < w6.heap.size := by omega
    have hHw1 : H + 1 < w6.heap.size := by omega
    clear hb6 B5 HHQ HT5 q5' d0 d1 d2 d3
    generalize (actV l p.tk p.dn).1 = x1 at *
    generalize (actV l p.tk p.dn).2 = x2 at *
    generalize (actV l q.tk q.dn).1 = y1 at *
    generalize (actV l q.tk q.dn).2 = y2 at *
    by_cases hho : x2 = y2
    · subst hho
      by_cases htk : p.tk = q.tk
      · have HR := Lib.hid (show befL l p q = decide (p.rel < q.rel) by rw [HBF.out]; unfold bef; simp [HAC.out, htk])
        have htk1 : ((p.tk : Int) == (q.tk : Int)) = true := by simp [htk]
        have htk2 : (p.tk == q.tk) = true := by simp [htk]
        go_wp2_with fail
        go_ret
        exact ⟨by rw [HR.out]; rfl, by rw [HH.out]; exact B6.out⟩
      · have HR := Lib.hid (show befL l p q = decide (p.tk < q.tk) by rw [HBF.out]; unfold bef; simp [HAC.out, htk])
        have htk1 : ((p.tk : Int) == (q.tk : Int)) = false := beq_eq_false_iff_ne.2 (by omega)
        have htk2 : (p.tk == q.tk) = false := beq_eq_false_iff_ne.2 htk
        go_wp2_with fail
        go_ret
        exact ⟨by rw [HR.out]; first | rfl | exact ret_bool (by simp), by rw [HH.out]; exact B6.out⟩
    · have HR := Lib.hid (show befL l p q = x2 by rw [HBF.out]; unfold bef; simp [HAC.out, hho])
      cases x2 <;> cases y2
      · exact absurd rfl hho
      · clear hho
        go_wp2_with fail
        go_ret
        exact ⟨by rw [HR.out]; rfl, by rw [HH.out]; exact B6.out⟩
      · clear hho
        go_wp2_with fail
        go_ret
        exact ⟨by rw [HR.out]; rfl, by rw [HH.out]; exact B6.out⟩
      · exact absurd rfl hho
  · have HR := Lib.hid (show befL l p q = decide ((actV l p.tk p.dn).1 < (actV l q.tk q.dn).1) by rw [HBF.out]; unfold bef; simp [hac])
    have hac1 : ((actV l p.tk p.dn).1 == (actV l q.tk q.dn).1) = false := beq_eq_false_iff_ne.2 hac
    generalize (actV l p.tk p.dn).1 = x1 at *
    generalize (actV l q.tk q.dn).1 = y1 at *
    go_wp2_with fail
    go_ret
    exact ⟨by rw [HR.out]; rfl, by rw [HH.out]; exact B4.out⟩
end Go.Proofs.Ytkedcnemldjbeaa
