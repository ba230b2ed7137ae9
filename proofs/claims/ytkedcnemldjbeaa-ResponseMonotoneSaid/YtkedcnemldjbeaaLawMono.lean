/- The walk over ResponseMonotone. Conditions: the tasks lie in memory. -/
import Derived.Test.YtkedcnemldjbeaaRowTasks
import Derived.StillTailTactics
import Derived.Outline
import Derived.Deep.DeepCutAuto
namespace Go.Proofs.Ytkedcnemldjbeaa
open Go.RowKit

/-- The world of a walk is forgotten but for what F says of it. -/
theorem gen_world {P : Program} {c : Code} {Q : Exit → Act → World → Prop} {a : Act} {W : World} (F : World → Prop) (hF : F W) (h : ∀ w, F w → Code.wp P c Q a w) : Code.wp P c Q a W := h W hF

theorem ready_calls {w10 : World} {N g c n len : Nat} {f : Nat → Value} {lA : List CT} (hr : w10.rowIs g 30 (c * 4) f) (ht : TaskRow w10 N f lA) (hlen : lA.length = len) (hc : len ≤ c) (hcc : c ≤ 9223372036854775807) (hN : N ≤ w10.heap.size) :
    ∀ w', Below w10.heap.size w10 w' → Calls Try.prog 21 #[.slice (some ⟨g, 0, none⟩) len c, .int .i64 n] w' fun e w'' => e = .returned (.tuple #[.int .i64 (respR lA n), .int .i64 (respE lA n)]) ∧ Below w'.heap.size w' w'' := by
  intro w' hb
  subst hlen
  exact response_any lA _ c n w' hc hcc ((ht.tasks hr (by omega) hN).on hb hb.size)

/-- What the walk keeps behind the first store. -/
def CutOne (N : Nat) (w7 w8 : World) (g1 c1 g2 c2 q : Nat) (f1 f2 : Nat → Value) (C : Int) : Prop :=
  Below N w7 w8 ∧ w8.rowIs g1 30 (c1 * 4) (fun i => if i = q then .int .i64 C else f1 i) ∧ w8.rowIs g2 30 (c2 * 4) f2
/-- What the walk keeps behind all stores. -/
def CutTwo (N : Nat) (w w9 : World) (g1 c1 g2 c2 n len : Nat) (R : Int) : Prop :=
  Below N w w9 ∧ ∃ fA fB lA lB, w9.rowIs g1 30 (c1 * 4) fA ∧ w9.rowIs g2 30 (c2 * 4) fB ∧ TaskRow w9 N fA lA ∧ TaskRow w9 N fB lB ∧ lA.length = len ∧ lB.length = len ∧
  len ≤ c1 ∧ c1 ≤ 9223372036854775807 ∧ len ≤ c2 ∧ c2 ≤ 9223372036854775807 ∧ ((respE lA n = 0 ∧ R ≤ respR lA n) ∨ respE lA n = 21) ∧ ((respE lB n = 0 ∧ R ≤ respR lB n) ∨ respE lB n = 21)
/-- What the loop over both lists asks of its world. -/
def MonoReady (N : Nat) (w w10 : World) (M g1 c1 g2 c2 n len : Nat) (R : Int) : Prop :=
  Below N w w10 ∧ N ≤ w10.heap.size ∧ M < w10.heap.size ∧ w10.cell? ⟨M, 0, none⟩ = some (.slice (some ⟨g1, 0, none⟩) len c1) ∧ w10.cell? ⟨M, 1, none⟩ = some (.slice (some ⟨g2, 0, none⟩) len c2) ∧
  ∃ RA EA RB EB : Int, ((EA = 0 ∧ R ≤ RA) ∨ EA = 21) ∧ ((EB = 0 ∧ R ≤ RB) ∨ EB = 21) ∧
    (∀ w', Below w10.heap.size w10 w' → Calls Try.prog 21 #[.slice (some ⟨g1, 0, none⟩) len c1, .int .i64 n] w' fun e w'' => e = .returned (.tuple #[.int .i64 RA, .int .i64 EA]) ∧ Below w'.heap.size w' w'') ∧
    (∀ w', Below w10.heap.size w10 w' → Calls Try.prog 21 #[.slice (some ⟨g2, 0, none⟩) len c2, .int .i64 n] w' fun e w'' => e = .returned (.tuple #[.int .i64 RB, .int .i64 EB]) ∧ Below w'.heap.size w' w'')

theorem mono_ready {w w9 : World} {g1 c1 g2 c2 n len : Nat} {fA fB : Nat → Value} {lA lB : List CT} {R : Int} (b9 : Below w.heap.size w w9) (hrA : w9.rowIs g1 30 (c1 * 4) fA) (hrB : w9.rowIs g2 30 (c2 * 4) fB)
    (hA : TaskRow w9 w.heap.size fA lA) (hB : TaskRow w9 w.heap.size fB lB) (eA : lA.length = len) (eB : lB.length = len) (hc1 : len ≤ c1) (hcc1 : c1 ≤ 9223372036854775807) (hc2 : len ≤ c2) (hcc2 : c2 ≤ 9223372036854775807)
    (PA : (respE lA n = 0 ∧ R ≤ respR lA n) ∨ respE lA n = 21) (PB : (respE lB n = 0 ∧ R ≤ respR lB n) ∨ respE lB n = 21) :
    MonoReady w.heap.size w (w9.alloc (.cells #[.slice (some ⟨g1, 0, none⟩) len c1, .slice (some ⟨g2, 0, none⟩) len c2] 22)) w9.heap.size g1 c1 g2 c2 n len R := by
  have hs := b9.size
  have hb : Below w.heap.size w9 (w9.alloc (.cells #[.slice (some ⟨g1, 0, none⟩) len c1, .slice (some ⟨g2, 0, none⟩) len c2] 22)) := (Below.refl _ _).alloc hs _
  refine ⟨b9.alloc hs _, by simp; omega, by simp, by simp [go_sem], by simp [go_sem], respR lA n, respE lA n, respR lB n, respE lB n, PA, PB, ?_, ?_⟩
  · exact ready_calls (hrA.alloc _) (hA.keep hb) eA hc1 hcc1 (by simp; omega)
  · exact ready_calls (hrB.alloc _) (hB.keep hb) eB hc2 hcc2 (by simp; omega)

set_option maxRecDepth 100000 in
set_option maxHeartbeats 3200000 in
theorem law_mono (l : List CT) (a : Option Addr) (cap : Nat) (tk ot mo : Int) (w : World) (hl : l.length ≤ cap) (hcap : cap ≤ 9223372036854775807) (hc : TasksAt w w.heap.size a l)
    (t0 : 0 ≤ tk) (t1 : tk ≤ 255) (o0 : 0 ≤ ot) (o1 : ot ≤ 255) (m0 : 0 ≤ mo) (m1 : mo ≤ 255) :
    Calls Try.prog 3 #[.slice a l.length cap, .int .u8 tk, .int .u8 ot, .int .u8 mo] w fun e w' => e = .returned (.bool true) ∧ Below w.heap.size w w' := by
  have hlen : (l.length : Int) ≤ 9223372036854775807 := by omega
  go_enter Try.func3, Try.ntmps3
  go_wp2_with fail
  refine (awake_any _).mono ?_
  rintro e w1 ⟨rfl, hb1⟩
  have s1 := hb1.size
  go_wp2_with fail
  refine (great_any l a cap _ (by omega) (hc.on hb1 s1)).mono ?_
  rintro e w2 ⟨rfl, hb2⟩
  have b2 := hb1.trans (hb2.mono s1)
  have s2 := b2.size
  clear hb1 hb2
  cases hg : greatB l
  · have h8 := great_bd hg
    by_cases h0 : l.length = 0
    · have h0' : (l.length : Int) ≤ 0 := by omega
      have h0'' : ((l.length : Int) == 0) = true := by simp [h0]
      clear h0 hg
      go_wp2_with fail
      go_ret
      exact ⟨rfl, b2⟩
    · have h0' : 1 ≤ (l.length : Int) := by omega
      have h0'' : ((l.length : Int) == 0) = false := beq_eq_false_iff_ne.2 (by omega)
      clear h0 hg
      cases hv : validL l
      · have HV := Lib.hid hv
        clear hv
        go_wp2_with fail
        refine (valid_any l a cap _ (by omega) (hc.on b2 s2)).mono ?_
        rintro e w3 ⟨rfl, hb3⟩
        rw [HV.out]
        go_wp2_with fail
        go_ret
        exact ⟨rfl, b2.trans (hb3.mono s2)⟩
      · have HV := Lib.hid hv
        have hi0 : 0 ≤ tk % (l.length : Int) := Int.emod_nonneg _ (by omega)
        have hi1 : tk % (l.length : Int) < l.length := Int.emod_lt_of_pos _ (by omega)
        generalize hi : tk % (l.length : Int) = i at *
        have HIi := Lib.hid hi
        obtain ⟨n, rfl⟩ := Int.eq_ofNat_of_zero_le hi0
        have hn : n < l.length := by omega
        have hj0 : 0 ≤ ot % (l.length : Int) := Int.emod_nonneg _ (by omega)
        have hj1 : ot % (l.length : Int) < l.length := Int.emod_lt_of_pos _ (by omega)
        generalize hj : ot % (l.length : Int) = j at *
        have HJj := Lib.hid hj
        obtain ⟨j, rfl⟩ := Int.eq_ofNat_of_zero_le hj0
        have hjn : j < l.length := by omega
        have HA := Lib.hid (mono_cost (m := mo) hv hn hjn m0)
        have HB := Lib.hid (fun hlt => mono_period (m := mo) hv hn (j := j) hlt m0)
        clear hv hi hj
        have hnz : ¬ (l.length : Int) = 0 := by omega
        have hnz2 : ¬ l.length = 0 := by omega
        have hnil : ¬ l = [] := by intro e; subst e; simp at hnz2
        have htd1 : (tk).tmod (l.length : Int) = n := by rw [Int.tmod_eq_emod_of_nonneg t0]; exact HIi.out
        have htd2 : (ot).tmod (l.length : Int) = j := by rw [Int.tmod_eq_emod_of_nonneg o0]; exact HJj.out
        have wt : IntKind.i64.wrap tk = tk := IntWalk.i64_in _ (by omega)
        have wo : IntKind.i64.wrap ot = ot := IntWalk.i64_in _ (by omega)
        go_wp2_with fail
        refine (valid_any l a cap _ (by omega) (hc.on b2 s2)).mono ?_
        rintro e w3 ⟨rfl, hb3⟩
        rw [HV.out]
        have b3 := b2.trans (hb3.mono s2)
        have s3 := b3.size
        clear hb3 b2
        go_wp2_with fail
        refine wp_region_quiet (C := fun W => Below w3.heap.size w3 W) (by kernel_rfl) (by kernel_rfl) (Below.refl _ _).drew ?_
        repeat (
          refine wpQuiet_step (fun K hK => ?_)
          go_simp
          first
            | (refine hK _ ?_; clear hK K)
            | (apply Exists.intro
               refine ⟨fun W q0 => ?_, hK _ ?_⟩
               (first
                 | rfl
                 | (have qc := (bcell q0).1; go_simp; rfl))
               clear hK K))
        refine wpQuiet_nil ?_
        intro w4 hb4
        have b4 := b3.trans (hb4.mono s3)
        have s4 := b4.size
        clear hb4 b3
        go_wp2_with fail
        refine (response_any l a cap n _ hl hcap (hc.on b4 s4)).mono ?_
        rintro e w5 ⟨rfl, hb5⟩
        have b5 := b4.trans (hb5.mono s4)
        have s5 := b5.size
        clear hb5 b4
        by_cases hE : respE l n = 0
        · have hq : (respE l n != 0) = false := by simp [hE]
          have HE0 := Lib.hid hE
          clear hE
          generalize hRR : respR l n = R at *
          have HRR := Lib.hid hRR
          have HE1 := Lib.hid HE0.out
          clear hRR HE0
          generalize hEE : respE l n = E at *
          have HEE := Lib.hid hEE
          clear hEE
          obtain ⟨b, off, rfl, hbN, hcell⟩ := hc hnil
          clear hcell
          obtain ⟨g1, c1, f1, w6, hrun1, hr1, ht1, hb6, hg1, hc1, hcc1⟩ := app_tasks (cap := cap) (hc.keep b5) (by omega) h8 s5
          have b6 := b5.trans (hb6.mono s5)
          have s6 := b6.size
          have hl1 := hr1.lt
          obtain ⟨g2, c2, f2, w7, hrun2, hr2, ht2, hb7, hg2, hc2, hcc2⟩ := app_tasks (cap := cap) (hc.keep b6) (by omega) h8 s6
          have b7 := b6.trans (hb7.mono s6)
          have s7 := b7.size
          have hl2 := hr2.lt
          have hr1 := hr1.of_block (hb7.block g1 hl1)
          have ht1 := ht1.keep ((hb6.mono s5).trans (hb7.mono s6))
          have ht2 := ht2.keep (hb7.mono s6)
          have R1 := Lib.hid hr1
          have R2 := Lib.hid hr2
          have T1 := Lib.hid ht1
          have T2 := Lib.hid ht2
          have x0 := hr1.cell (i := j * 4) (by omega)
          have x1 := hr1.frozen (j * 4)
          obtain ⟨e0, _, _, _, _, _⟩ := ht1 j _ (ctAt_get hjn)
          rw [e0] at x0
          have y0 := hr2.cell (i := j * 4 + 1) (by omega)
          have y1 := hr2.cell (i := j * 4 + 2) (by omega)
          have y2 := hr2.frozen (j * 4 + 1)
          have y3 := hr2.frozen (j * 4 + 2)
          obtain ⟨_, e1, e2, _, _, _⟩ := ht2 j _ (ctAt_get hjn)
          rw [e1] at y0
          rw [e2] at y1
          clear e0 e1 e2 hr1 hr2 ht1 ht2
          obtain ⟨_, hok⟩ := validL_bd HV.out
          obtain ⟨⟨t1', t2', t3', t4', t5', t6', _⟩, _⟩ := okT_bd (hok _ (ctAt_mem hjn))
          clear hok
          have hbl : b < w5.heap.size := by omega
          have wm : IntKind.i64.wrap mo = mo := IntWalk.i64_in _ (by omega)
          have wa : IntKind.i64.wrap ((ctAt l j).c + mo) = (ctAt l j).c + mo := IntWalk.i64_in _ (by omega)
          have wb : IntKind.i64.wrap ((ctAt l j).p - mo) = (ctAt l j).p - mo := IntWalk.i64_in _ (by omega)
          have hc1' : (l.length : Int) ≤ c1 := by omega
          have hj1' : (j : Int) < (l.length : Int) := by omega
          clear hnil hnz hnz2 htd1 htd2 wt wo
          go_upto_region 10 with (at_builtin; first | (refine wpList_append_by rfl (.tmp 51) (.tmp 52) 22 rfl (.slice (some ⟨w5.heap.size, 0, none⟩) 0 0) (.slice (some ⟨b, off, none⟩) l.length cap) _ w6 rfl rfl hrun1 ?_) | (refine wpList_append_by rfl (.tmp 54) (.tmp 55) 22 rfl (.slice (some ⟨w6.heap.size, 0, none⟩) 0 0) (.slice (some ⟨b, off, none⟩) l.length cap) _ w7 rfl rfl hrun2 ?_))
          go_cut [] (fun w8 => CutOne w.heap.size w7 w8 g1 c1 g2 c2 (j * 4) f1 f2 (min ((ctAt l j).c + mo) 1000))
          case first =>
            by_cases hcm : (ctAt l j).c + mo ≤ 1000
            · have e1 : min ((ctAt l j).c + mo) 1000 = (ctAt l j).c + mo := by omega
              have E1 := Lib.hid e1
              clear e1
              go_wp2_with fail
              all_goals
                go_meet
                case rel => exact ⟨(Below.refl _ w7).setCell (p := ⟨g1, j * 4, none⟩) (by show _ ≤ g1; omega) _, (R1.out.set (j * 4) _).congr (fun i _ => by show (if _ then _ else _) = (if _ then _ else _); split <;> first | rfl | (congr 1; omega)), R2.out.setOther (by show g2 ≠ g1; omega) _⟩
            · have e1 : min ((ctAt l j).c + mo) 1000 = 1000 := by omega
              have E1 := Lib.hid e1
              clear e1
              go_wp2_with fail
              all_goals
                go_meet
                case rel => exact ⟨(Below.refl _ w7).setCell (p := ⟨g1, j * 4, none⟩) (by show _ ≤ g1; omega) _, (R1.out.set (j * 4) _).congr (fun i _ => by show (if _ then _ else _) = (if _ then _ else _); split <;> first | rfl | (congr 1; omega)), R2.out.setOther (by show g2 ≠ g1; omega) _⟩
          case rest =>
            obtain ⟨hb8, hrA, hrB⟩ := hcut
            obtain ⟨w8, rfl⟩ : ∃ w8 : World, w8 = wc := ⟨_, rfl⟩
            go_upto_if 72 with fail
            go_cut [] (fun w9 => CutTwo w.heap.size w w9 g1 c1 g2 c2 n l.length R)
            case first =>
              have hA8 := Lib.hid ((T1.out.keep hb8).setC hjn (min ((ctAt l j).c + mo) 1000))
              have b8 := b7.trans hb8
              by_cases hji : j < n
              · have hji' : (j : Int) < (n : Int) := by omega
                have y0 := hrB.cell (i := j * 4 + 1) (by omega)
                obtain ⟨_, e1, e2, _, _, _⟩ := T2.out j _ (ctAt_get hjn)
                rw [e1] at y0
                have y2 := hrB.frozen (j * 4 + 1)
                have RA := Lib.hid hrA
                have RB := Lib.hid hrB
                have E2 := Lib.hid e2
                clear hrA hrB e1 e2
                go_upto_region 12 with fail
                go_cut [] (fun w9 => CutOne w.heap.size w8 w9 g2 c2 g1 c1 (j * 4 + 1) f2 (fun i => if i = j * 4 then .int .i64 (min ((ctAt l j).c + mo) 1000) else f1 i) (max 1 ((ctAt l j).p - mo)))
                case first =>
                  by_cases hpm : 1 ≤ (ctAt l j).p - mo
                  · have E1 := Lib.hid (show max 1 ((ctAt l j).p - mo) = (ctAt l j).p - mo by omega)
                    go_wp2_with fail
                    all_goals
                      go_meet
                      case rel => exact ⟨(Below.refl _ w8).setCell (p := ⟨g2, j * 4 + 1, none⟩) (by show _ ≤ g2; omega) _, (RB.out.set (j * 4 + 1) _).congr (fun i _ => by show (if _ then _ else _) = (if _ then _ else _); split <;> first | rfl | (congr 1; omega)), RA.out.setOther (by show g1 ≠ g2; omega) _⟩
                  · have E1 := Lib.hid (show max 1 ((ctAt l j).p - mo) = 1 by omega)
                    go_wp2_with fail
                    all_goals
                      go_meet
                      case rel => exact ⟨(Below.refl _ w8).setCell (p := ⟨g2, j * 4 + 1, none⟩) (by show _ ≤ g2; omega) _, (RB.out.set (j * 4 + 1) _).congr (fun i _ => by show (if _ then _ else _) = (if _ then _ else _); split <;> first | rfl | (congr 1; omega)), RA.out.setOther (by show g1 ≠ g2; omega) _⟩
                case rest =>
                  obtain ⟨hb9, hrB, hrA⟩ := hcut
                  obtain ⟨w9, rfl⟩ : ∃ w9 : World, w9 = wc := ⟨_, rfl⟩
                  have hB9 := fun d => Lib.hid ((T2.out.keep (hb8.trans hb9)).setPD hjn (max 1 ((ctAt l j).p - mo)) d)
                  have HB9 := Lib.hid hB9
                  clear hB9 y0 y2 x0 x1
                  have P0 := Lib.hid (HB.out hji)
                  have p1 : 1 ≤ max 1 ((ctAt l j).p - mo) := by omega
                  have p2 : max 1 ((ctAt l j).p - mo) ≤ 1000 := by omega
                  have y0 : w9.cell? ⟨g2, j * 4 + 1, none⟩ = some (.int .i64 (max 1 ((ctAt l j).p - mo))) := by rw [hrB.cell (i := j * 4 + 1) (by omega), if_pos rfl]
                  have y1 : w9.cell? ⟨g2, j * 4 + 2, none⟩ = some (.int .i64 (ctAt l j).d) := by
                    rw [hrB.cell (i := j * 4 + 2) (by omega), if_neg (by omega), E2.out]
                  have y3 := hrB.frozen (j * 4 + 2)
                  have RA := Lib.hid hrA
                  have RB := Lib.hid hrB
                  have B9 := Lib.hid (b8.trans hb9)
                  have hA9 := Lib.hid (hA8.out.keep hb9)
                  clear hrA hrB hA8 b8 hb9
                  generalize hpp : max 1 ((ctAt l j).p - mo) = p' at *
                  have HPP := Lib.hid hpp
                  clear hpp
                  by_cases hdp : (ctAt l j).d ≤ p'
                  · have E1 := Lib.hid (show min (ctAt l j).d p' = (ctAt l j).d by omega)
                    go_upto_region 13 with fail
                    go_still_tail 15, (by kernel_rfl)
                    change wpList _ _ _ _ _ w9.drew
                    go_wp2_with fail
                    go_meet
                    case rel => exact ⟨(B9.out.setCell (p := ⟨g2, j * 4 + 2, none⟩) (by show _ ≤ g2; omega) _).drew, _, _, _, _, (RA.out.setOther (by show g1 ≠ g2; omega) _).drew, ((RB.out.set (j * 4 + 2) _).congr (fun _ _ => rfl)).drew, hA9.out.keep (((Below.refl _ _).setCell (p := ⟨g2, j * 4 + 2, none⟩) (by show _ ≤ g2; omega) _).drew), ((HB9.out _).out).keep (((Below.refl _ _).setCell (p := ⟨g2, j * 4 + 2, none⟩) (by show _ ≤ g2; omega) _).drew), by simp, by simp, hc1, hcc1, hc2, hcc2, HA.out, by have := P0.out; unfold cutP at this; rw [HPP.out, E1.out] at this; exact this⟩
                  · have E1 := Lib.hid (show min (ctAt l j).d p' = p' by omega)
                    go_upto_region 13 with fail
                    go_still_tail 15, (by kernel_rfl)
                    change wpList _ _ _ _ _ w9.drew
                    go_wp2_with fail
                    go_meet
                    case rel => exact ⟨(B9.out.setCell (p := ⟨g2, j * 4 + 2, none⟩) (by show _ ≤ g2; omega) _).drew, _, _, _, _, (RA.out.setOther (by show g1 ≠ g2; omega) _).drew, ((RB.out.set (j * 4 + 2) _).congr (fun _ _ => rfl)).drew, hA9.out.keep (((Below.refl _ _).setCell (p := ⟨g2, j * 4 + 2, none⟩) (by show _ ≤ g2; omega) _).drew), ((HB9.out _).out).keep (((Below.refl _ _).setCell (p := ⟨g2, j * 4 + 2, none⟩) (by show _ ≤ g2; omega) _).drew), by simp, by simp, hc1, hcc1, hc2, hcc2, HA.out, by have := P0.out; unfold cutP at this; rw [HPP.out, E1.out] at this; exact this⟩
              · have hji' : ¬ (j : Int) < (n : Int) := by omega
                go_wp2_with fail
                go_meet
                case rel => exact ⟨b8, _, _, _, _, hrA, hrB, hA8.out, T2.out.keep hb8, by simp, rfl, hc1, hcc1, hc2, hcc2, HA.out, .inl ⟨HEE.out.trans HE1.out, Int.le_of_eq HRR.out.symm⟩⟩
            case rest =>
              obtain ⟨b9, fA, fB, lA, lB, hrA, hrB, hA, hB, eA, eB, _, _, _, _, PA, PB⟩ := hcut
              obtain ⟨w9, rfl⟩ : ∃ w9 : World, w9 = wc := ⟨_, rfl⟩
              have MR := Lib.hid (mono_ready b9 hrA hrB hA hB eA eB hc1 hcc1 hc2 hcc2 PA PB)
              clear hb8 hrA hrB b9 hA hB PA PB eA eB
              go_wp2_with fail
              refine gen_world (fun w10 => MonoReady w.heap.size w w10 w9.heap.size g1 c1 g2 c2 n l.length R) MR.out ?_
              rintro w10 ⟨b10, s10, m10, z0, z1, RA, EA, RB, EB, PA, PB, CA, CB⟩
              have CA := Lib.hid CA
              have CB := Lib.hid CB
              clear MR
              go_loopw [105] (fun u wr => ∃ k : Int, u = .int .i64 k ∧ 0 ≤ k ∧ k ≤ 2 ∧ Below w10.heap.size w10 wr) (fun u _ => (2 - intOf u).toNat)
              case atStart => exact ⟨0, rfl, by omega, by omega, Below.refl _ _⟩
              case round =>
                obtain ⟨k, rfl, k0, k2, hbl⟩ := hrel
                have hbs := hbl.size
                have hk : k = 0 ∨ k = 1 ∨ k = 2 := by omega
                rcases hk with rfl | rfl | rfl
                · have z0 := keep_cell hbl m10 z0
                  go_wp2_with fail
                  refine (CA.out _ hbl).mono ?_
                  rintro e w11 ⟨rfl, hb11⟩
                  rcases PA with ⟨rfl, h⟩ | rfl
                  all_goals
                    go_wp2_with fail
                    go_roundw
                    case rel => exact ⟨1, rfl, by omega, by omega, hbl.trans (hb11.mono hbs)⟩
                    case measure => simp [intOf]
                · have z1 := keep_cell hbl m10 z1
                  go_wp2_with fail
                  refine (CB.out _ hbl).mono ?_
                  rintro e w11 ⟨rfl, hb11⟩
                  rcases PB with ⟨rfl, h⟩ | rfl
                  all_goals
                    go_wp2_with fail
                    go_roundw
                    case rel => exact ⟨2, rfl, by omega, by omega, hbl.trans (hb11.mono hbs)⟩
                    case measure => simp [intOf]
                · go_wp2_with fail
                  go_ret
                  exact ⟨rfl, b10.trans (hbl.mono s10)⟩
        · have hq : (respE l n != 0) = true := by simp [hE]
          clear hE HA HB
          generalize respR l n = R at *
          generalize respE l n = E at *
          go_wp2_with fail
          go_ret
          exact ⟨rfl, b5⟩
  · have HG := Lib.hid hg
    clear hg
    go_wp2_with fail
    go_ret
    exact ⟨rfl, b2⟩
end Go.Proofs.Ytkedcnemldjbeaa
