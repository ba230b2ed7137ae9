/- The walk over response.Response. Conditions: the tasks lie in memory. -/
import Derived.Test.YtkedcnemldjbeaaResp
namespace Go.Proofs.Ytkedcnemldjbeaa
open Go.RowKit

theorem World.cell?_alloc_10 (w : World) (x0 : Value) (t : TypeId) : (w.alloc (.cells #[x0] t)).cell? ⟨w.heap.size, 0, none⟩ = some x0 := by simp [go_sem]

set_option maxRecDepth 100000 in
set_option maxHeartbeats 6400000 in
theorem response_any (l : List CT) (a : Option Addr) (cap : Nat) (i : Int) (w : World) (hl : l.length ≤ cap) (hcap : cap ≤ 9223372036854775807) (hc : TasksAt w w.heap.size a l) :
    Calls Try.prog 21 #[.slice a l.length cap, .int .i64 i] w fun e w' => e = .returned (.tuple #[.int .i64 (respR l i), .int .i64 (respE l i)]) ∧ Below w.heap.size w w' := by
  cases hv : validL l
  · have HR := Lib.hid (show respR l i = 0 by simp [respR, exB, hv])
    have HE := Lib.hid (show respE l i = 1 by simp [respE, hv])
    have HV := Lib.hid hv
    clear hv
    go_enter Try.func21, Try.ntmps21
    go_wp2_with fail
    refine (valid_any l a cap _ (by omega) (hc.on (((Below.refl _ _).alloc (Nat.le_refl _) _).alloc (by simp) _) (by simp; omega))).mono ?_
    rintro e w1 ⟨rfl, hb1⟩
    rw [HV.out]
    go_wp2_with fail
    go_ret2
    exact ⟨ret_tup2 HR.out.symm HE.out.symm, (((Below.refl _ _).alloc (Nat.le_refl _) _).alloc (by simp) _).trans (hb1.mono (by simp; omega))⟩
  · cases hx : exB l i
    · have HR := Lib.hid (show respR l i = 0 by simp [respR, hx])
      have HE := Lib.hid (show respE l i = 2 by simp [respE, hv, hx])
      have HV := Lib.hid hv
      have HX := Lib.hid hx
      clear hv hx
      go_enter Try.func21, Try.ntmps21
      go_wp2_with fail
      refine (valid_any l a cap _ (by omega) (hc.on (((Below.refl _ _).alloc (Nat.le_refl _) _).alloc (by simp) _) (by simp; omega))).mono ?_
      rintro e w1 ⟨rfl, hb1⟩
      rw [HV.out]
      have hz1 : w.heap.size + 1 < w1.heap.size := by have := hb1.size; simp at this; omega
      have a0 := (((bcell hb1).1 w.heap.size 0 (by simp; omega)).trans (World.cell?_alloc_lt _ _ _ (by simp))).trans (World.cell?_alloc_10 w _ _)
      have a1 : w1.cell? ⟨w.heap.size + 1, 0, none⟩ = some (.int .i64 i) := by rw [(bcell hb1).1 _ _ (by simp)]; simp [go_sem]
      have b1 : Below w.heap.size w w1 := (((Below.refl _ _).alloc (Nat.le_refl _) _).alloc (by simp) _).trans (hb1.mono (by simp; omega))
      clear hb1
      go_wp2_with fail
      refine (exists_any l a cap i _ (by omega) (hc.on b1 (by omega))).mono ?_
      rintro e w2 ⟨rfl, hb2⟩
      rw [HX.out]
      go_wp2_with fail
      go_ret2
      exact ⟨ret_tup2 HR.out.symm HE.out.symm, b1.trans (hb2.mono (by omega))⟩
    · obtain ⟨-, i0, i1⟩ := exB_true hx
      obtain ⟨n, rfl⟩ := Int.eq_ofNat_of_zero_le i0
      obtain ⟨h20, hok⟩ := validL_bd hv
      obtain ⟨b, off, rfl, hbN, hcell⟩ := hc (by intro e; subst e; simp at i1; omega)
      have hi : n < l.length := by omega
      obtain ⟨c0, _, c2, _, _, _, _, _⟩ := hcell n _ (ctAt_get hi)
      obtain ⟨⟨t1, t2, t3, t4, t5, t6, _⟩, _⟩ := okT_bd (hok _ (ctAt_mem hi))
      obtain ⟨B0, B1⟩ := blkV_bd hx
      have HR := Lib.hid (show respR l n = (respO l n).getD 0 by simp [respR, hx])
      have HE := Lib.hid (show respE l n = if (respO l n).isSome then 0 else 21 by simp [respE, hv, hx])
      have HO := Lib.hid (show respO l n = lf (rhs l n ((ctAt l n).c + blkV l n)) ((ctAt l n).d + 1 - ((ctAt l n).c + blkV l n)).toNat ((ctAt l n).c + blkV l n) from rfl)
      have HB := Lib.hid (fun base v => rhs_bd (base := base) (v := v) hok (show n ≤ 20 by omega))
      have HM := Lib.hid (fun base v v' => rhs_mono (l := l) (i := n) (base := base) (v := v) (v' := v') hok)
      have HV := Lib.hid hv
      have HX := Lib.hid hx
      clear hv hx hok hcell
      have HRT := Lib.hid (fun v (B : Int) lb ib bb w' hc' hv' => right_any l b off cap n B v lb ib bb w' hl hcap hc' hv' hi)
      generalize (ctAt l n).c = c at *
      generalize (ctAt l n).d = d at *
      generalize hBB : blkV l n = B at *
      have HBB := Lib.hid hBB
      clear hBB
      have hi0 : (0 : Int) ≤ (n : Int) := by omega
      have hi1 : (n : Int) < (l.length : Int) := by omega
      go_enter Try.func21, Try.ntmps21
      go_wp2_with fail
      refine (valid_any l _ cap _ (by omega) (hc.on (((Below.refl _ _).alloc (Nat.le_refl _) _).alloc (by simp) _) (by simp; omega))).mono ?_
      rintro e w1 ⟨rfl, hb1⟩
      rw [HV.out]
      have hz1 : w.heap.size + 1 < w1.heap.size := by have := hb1.size; simp at this; omega
      have a0 := (((bcell hb1).1 w.heap.size 0 (by simp; omega)).trans (World.cell?_alloc_lt _ _ _ (by simp))).trans (World.cell?_alloc_10 w _ _)
      have a1 : w1.cell? ⟨w.heap.size + 1, 0, none⟩ = some (.int .i64 n) := by rw [(bcell hb1).1 _ _ (by simp)]; simp [go_sem]
      have b1 : Below w.heap.size w w1 := (((Below.refl _ _).alloc (Nat.le_refl _) _).alloc (by simp) _).trans (hb1.mono (by simp; omega))
      clear hb1
      go_wp2_with fail
      refine (exists_any l _ cap n _ (by omega) (hc.on b1 (by omega))).mono ?_
      rintro e w2 ⟨rfl, hb2⟩
      rw [HX.out]
      have a0 := keep_cell hb2 (by omega) a0
      have a1 := keep_cell hb2 (by omega) a1
      have b2 := b1.trans (hb2.mono (by omega))
      have hz2 := hb2.size
      clear hb2 b1
      go_wp2_with fail
      refine (blocking_any l _ cap n _ hl hcap (hc.on b2 (by omega))).mono ?_
      rintro e w3 ⟨rfl, hb3⟩
      rw [HBB.out]
      have a0 := keep_cell hb3 (by omega) a0
      have a1 := keep_cell hb3 (by omega) a1
      have b3 := b2.trans (hb3.mono (by omega))
      have hz3 := hb3.size
      clear hb3 b2
      go_wp2_with fail
      have a0' := (World.cell?_alloc_lt w3 (.cells #[.int .i64 B] 3) _ (show (⟨w.heap.size, 0, none⟩ : Addr).block < w3.heap.size by simp; omega)).trans a0
      have a1' := (World.cell?_alloc_lt w3 (.cells #[.int .i64 B] 3) _ (show (⟨w.heap.size + 1, 0, none⟩ : Addr).block < w3.heap.size by simp; omega)).trans a1
      have a2' := World.cell?_alloc_10 w3 (.int .i64 B) 3
      have hz4 : w3.heap.size < (w3.alloc (.cells #[.int .i64 B] 3)).heap.size := by simp
      have b4 : Below w.heap.size w (w3.alloc (.cells #[.int .i64 B] 3)) := b3.alloc (by omega) _
      clear a0 a1 b3
      generalize w3.alloc (.cells #[.int .i64 B] 3) = w4 at *
      have c0' := keep_cellN b4 hbN c0
      have c2' := keep_cellN b4 hbN c2
      have wa : IntKind.i64.wrap (c + B) = c + B := IntWalk.i64_in _ (by omega)
      have y0 : w.heap.size < w4.heap.size := by omega
      have y1 : w.heap.size + 1 < w4.heap.size := by omega
      have y2 : b < w4.heap.size := by omega
      refine wp_region_quiet (C := fun W => Below w4.heap.size w4 W) (by kernel_rfl) (by kernel_rfl) (Below.refl _ _).drew ?_
      repeat (
        refine wpQuiet_step (fun K hK => ?_)
        go_simp
        first
          | (refine hK _ ?_; clear hK K)
          | (apply Exists.intro
             refine ⟨fun W q0 => ?_, hK _ ?_⟩
             (first
               | rfl
               | (have qc := (bcell q0).1; go_simp; rfl))
             clear hK K))
      refine wpQuiet_nil ?_
      intro w5 hb5
      have s5 := hb5.size
      have A0 := Lib.hid (keep_cell hb5 y0 a0')
      have A1 := Lib.hid (keep_cell hb5 y1 a1')
      have A2 := Lib.hid (keep_cell hb5 hz4 a2')
      have C0 := Lib.hid (keep_cell hb5 y2 c0')
      have C2 := Lib.hid (keep_cell hb5 y2 c2')
      have b5 := b4.trans (hb5.mono (by omega))
      clear a0' a1' a2' c0' c2' wa hb5 b4
      go_wp2_with fail
      go_loopw [8] (fun u wr => ∃ r : Int, u = .int .i64 r ∧ c + B ≤ r ∧ r ≤ 2020002000 ∧ Hid (∀ y, c + B ≤ y → y < r → rhs l n (c + B) y ≠ y) ∧ Hid (r ≤ 100000 → r ≤ rhs l n (c + B) r) ∧ Below w5.heap.size w5 wr) (fun u _ => (d + 1 - intOf u).toNat)
      case atStart => exact ⟨c + B, rfl, by omega, by omega, fun y h1 h2 => by omega, fun h => (HB.out _ _ (by omega) h).1, Below.refl _ _⟩
      case round =>
        obtain ⟨r, rfl, r0, r1, hno, hup, hbl⟩ := hrel
        have hbs := hbl.size
        have a0 := keep_cell hbl (by omega) A0.out
        have a1 := keep_cell hbl (by omega) A1.out
        have a2 := keep_cell hbl (by omega) A2.out
        have d0 := keep_cell hbl (by omega) C0.out
        have d2 := keep_cell hbl (by omega) C2.out
        have bw : Below w.heap.size w wr := b5.trans (hbl.mono (by omega))
        by_cases hrd : r ≤ d
        · obtain ⟨g1, g2⟩ := HB.out (c + B) r (by omega) (by omega)
          have hup2 := hup.out (by omega)
          have HRR := Lib.hid (HRT.out r B w.heap.size (w.heap.size + 1) w3.heap.size wr (hc.on bw (by omega)) HV.out (by omega) (by omega) B0 B1 a0 a1 a2)
          generalize hgg : rhs l n (c + B) r = g at *
          have HG := Lib.hid hgg
          by_cases hgr : g = r
          · have hs := lf_some (f := rhs l n (c + B)) (n := (d + 1 - (c + B)).toNat) r0 (by omega) (by rw [hgg, hgr]) hno.out
            have HR2 := Lib.hid (show respR l n = r by rw [HR.out, HO.out, hs]; rfl)
            have HE2 := Lib.hid (show respE l n = 0 by rw [HE.out, HO.out, hs]; rfl)
            have hq : (g != r) = false := by simp [hgr]
            clear hs hgg hgr
            go_wp2_with fail
            refine (HRR.out).mono ?_
            rintro e w6 ⟨rfl, hb6⟩
            have s6 := hb6.size
            have a0 := keep_cell hb6 (by omega) a0
            have a1 := keep_cell hb6 (by omega) a1
            have d2 := keep_cell hb6 (by omega) d2
            go_wp2_with fail
            go_ret2
            exact ⟨ret_tup2 HR2.out.symm HE2.out.symm, bw.trans (hb6.mono (by omega))⟩
          · have hq : (g != r) = true := by simp [hgr]
            have hlt : r < g := by omega
            have HNO := Lib.hid (show ∀ y, c + B ≤ y → y < g → rhs l n (c + B) y ≠ y by
              intro y h1 h2 h3
              by_cases hy : y < r
              · exact hno.out y h1 hy h3
              · have := HM.out (c + B) r y (by omega)
                rw [hgg, h3] at this
                omega)
            have HUP := Lib.hid (show g ≤ 100000 → g ≤ rhs l n (c + B) g by
              intro h
              have := HM.out (c + B) r g (by omega)
              rw [hgg] at this
              exact this)
            clear hgg hgr
            go_wp2_with fail
            refine (HRR.out).mono ?_
            rintro e w6 ⟨rfl, hb6⟩
            have s6 := hb6.size
            have b6 := bw.trans (hb6.mono (by omega))
            have HR3 := Lib.hid (HRT.out r B w.heap.size (w.heap.size + 1) w3.heap.size w6 (hc.on b6 (by omega)) HV.out (by omega) (by omega) B0 B1 (keep_cell hb6 (by omega) a0) (keep_cell hb6 (by omega) a1) (keep_cell hb6 (by omega) a2))
            rw [HG.out] at HR3
            clear a0 a1 a2 d0 d2
            go_wp2_with fail
            refine (HR3.out).mono ?_
            rintro e w7 ⟨rfl, hb7⟩
            go_wp2_with fail
            go_roundw
            case rel => exact ⟨g, rfl, by omega, by omega, HNO.out, HUP.out, (hbl.trans (hb6.mono (by omega))).trans (hb7.mono (by omega))⟩
            case measure => simp [intOf]; omega
        · have hs := lf_none (f := rhs l n (c + B)) (n := (d + 1 - (c + B)).toNat) (r0 := c + B) (fun y h1 h2 => hno.out y h1 (by omega))
          have HR2 := Lib.hid (show respR l n = 0 by rw [HR.out, HO.out, hs]; rfl)
          have HE2 := Lib.hid (show respE l n = 21 by rw [HE.out, HO.out, hs]; rfl)
          clear hs
          go_wp2_with fail
          go_ret2
          exact ⟨ret_tup2 HR2.out.symm HE2.out.symm, bw⟩
end Go.Proofs.Ytkedcnemldjbeaa
