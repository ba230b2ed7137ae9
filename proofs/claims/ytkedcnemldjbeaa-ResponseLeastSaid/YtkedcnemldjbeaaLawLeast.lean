/- The walk over ResponseLeast. Conditions: the tasks lie in memory. -/
import Derived.Test.YtkedcnemldjbeaaGreat
namespace Go.Proofs.Ytkedcnemldjbeaa
open Go.RowKit

theorem least_hit {l : List CT} {n : Nat} {r : Int} (hx : exB l n = true) (hv : validL l = true) (h0 : 0 ≤ intL r 0 (l.take n)) (hd : r ≤ (ctAt l n).d)
    (hs : (ctAt l n).c + blkV l n + intL r 0 (l.take n) = r) (hno : ∀ y, 1 ≤ y → y < r → (ctAt l n).c + blkV l n + intL y 0 (l.take n) ≠ y) (hb : 1 ≤ (ctAt l n).c + blkV l n) :
    respR l n = r ∧ respE l n = 0 := by
  have hs := lf_some (f := rhs l n (baseV l n)) (r0 := baseV l n) (r := r) (n := ((ctAt l n).d + 1 - baseV l n).toNat) (by unfold baseV; omega) (by unfold baseV; omega) (by unfold rhs baseV; omega)
    (fun y h1 h2 => by
      have := hno y (by unfold baseV at h1; omega) h2
      unfold rhs baseV; exact this)
  have e : respO l n = some r := hs
  constructor
  · simp [respR, hx, e]
  · simp [respE, hx, hv, e]
theorem least_miss {l : List CT} {n : Nat} (hx : exB l n = true) (hv : validL l = true)
    (hno : ∀ y, 1 ≤ y → y < (ctAt l n).d + 1 → (ctAt l n).c + blkV l n + intL y 0 (l.take n) ≠ y) (hb : 1 ≤ (ctAt l n).c + blkV l n) :
    respR l n = 0 ∧ respE l n = 21 := by
  have hs := lf_none (f := rhs l n (baseV l n)) (r0 := baseV l n) (n := ((ctAt l n).d + 1 - baseV l n).toNat)
    (fun y h1 h2 => by
      have := hno y (by unfold baseV at h1; omega) (by unfold baseV at *; omega)
      unfold rhs baseV; exact this)
  have e : respO l n = none := hs
  constructor
  · simp [respR, hx, e]
  · simp [respE, hx, hv, e]

set_option maxRecDepth 100000 in
set_option maxHeartbeats 3200000 in
theorem law_least (l : List CT) (a : Option Addr) (cap : Nat) (i : Int) (w : World) (hl : l.length ≤ cap) (hcap : cap ≤ 9223372036854775807) (hc : TasksAt w w.heap.size a l) :
    Calls Try.prog 7 #[.slice a l.length cap, .int .i64 i] w fun e w' => e = .returned (.bool true) ∧ Below w.heap.size w w' := by
  have hlen : (l.length : Int) ≤ 9223372036854775807 := by omega
  go_enter Try.func7, Try.ntmps7
  go_wp2_with fail
  refine (awake_any _).mono ?_
  rintro e w1 ⟨rfl, hb1⟩
  have s1 := hb1.size
  go_wp2_with fail
  refine (great_any l a cap _ (by omega) (hc.on hb1 s1)).mono ?_
  rintro e w2 ⟨rfl, hb2⟩
  have b2 := hb1.trans (hb2.mono s1)
  have s2 := b2.size
  clear hb1 hb2
  cases hg : greatB l
  · have h8 := great_bd hg
    clear hg
    cases hv : validL l
    · have HV := Lib.hid hv
      clear hv
      go_wp2_with fail
      refine (valid_any l a cap _ (by omega) (hc.on b2 s2)).mono ?_
      rintro e w3 ⟨rfl, hb3⟩
      rw [HV.out]
      go_wp2_with fail
      go_ret
      exact ⟨rfl, b2.trans (hb3.mono s2)⟩
    · have HV := Lib.hid hv
      have VA := Lib.hid (valid_any l a cap w2 (by omega) (hc.on b2 s2))
      by_cases hi0 : i < 0
      · clear hv
        go_wp2_with fail
        refine (VA.out).mono ?_
        rintro e w3 ⟨rfl, hb3⟩
        rw [HV.out]
        go_wp2_with fail
        go_ret
        exact ⟨rfl, b2.trans (hb3.mono s2)⟩
      · by_cases hi1 : (l.length : Int) ≤ i
        · clear hv
          go_wp2_with fail
          refine (VA.out).mono ?_
          rintro e w3 ⟨rfl, hb3⟩
          rw [HV.out]
          go_wp2_with fail
          go_ret
          exact ⟨rfl, b2.trans (hb3.mono s2)⟩
        · have hx : exB l i = true := by simp only [exB, hv, Bool.true_and, Bool.and_eq_true, decide_eq_true_eq]; omega
          obtain ⟨-, i0, i1⟩ := exB_true hx
          obtain ⟨n, rfl⟩ := Int.eq_ofNat_of_zero_le i0
          obtain ⟨h20, hok⟩ := validL_bd hv
          obtain ⟨b, off, rfl, hbN, hcell⟩ := hc (by intro e; subst e; simp at i1; omega)
          have hi : n < l.length := by omega
          obtain ⟨c0, _, c2, _, _, _, _, _⟩ := hcell n _ (ctAt_get hi)
          obtain ⟨⟨t1, t2, t3, t4, t5, t6, _⟩, _⟩ := okT_bd (hok _ (ctAt_mem hi))
          obtain ⟨B0, B1⟩ := blkV_bd hx
          have HB := Lib.hid (fun (v : Int) (h0 : 0 ≤ v) (h1 : v ≤ 100000) => intL_bd h0 h1 (l := l.take n) (fun t ht => hok t (List.mem_of_mem_take ht)))
          have hl20 : (l.take n).length ≤ 20 := by rw [List.length_take]; omega
          have HIN := Lib.hid (fun (v : Int) (h0 : 0 ≤ v) (h1 : v ≤ 100000) => show intV l n v = intL v 0 (l.take n) by rw [intV_in hx h0 h1])
          have HHIT := Lib.hid (fun r => least_hit (l := l) (n := n) (r := r) hx hv)
          have HMISS := Lib.hid (least_miss (l := l) (n := n) hx hv)
          clear hv hok hcell hx hi0 hi1
          generalize (ctAt l n).c = c at *
          generalize (ctAt l n).d = d at *
          generalize hBB : blkV l n = B at *
          have HBB := Lib.hid hBB
          clear hBB
          generalize hR : respR l n = R at *
          have HR := Lib.hid hR
          clear hR
          generalize hE : respE l n = E at *
          have HE := Lib.hid hE
          clear hE
          have hi0 : (0 : Int) ≤ (n : Int) := by omega
          have hi1 : (n : Int) < (l.length : Int) := by omega
          go_wp2_with fail
          refine (VA.out).mono ?_
          rintro e w3 ⟨rfl, hb3⟩
          rw [HV.out]
          have b3 := b2.trans (hb3.mono s2)
          have s3 := b3.size
          clear hb3 b2 VA
          go_wp2_with fail
          refine (response_any l _ cap n _ hl hcap (hc.on b3 s3)).mono ?_
          rintro e w4 ⟨rfl, hb4⟩
          rw [HR.out, HE.out]
          have b4 := b3.trans (hb4.mono s3)
          have s4 := b4.size
          clear hb4 b3
          have c0' := keep_cellN b4 hbN c0
          go_wp2_with fail
          have wa : IntKind.i64.wrap (c + B) = c + B := IntWalk.i64_in _ (by omega)
          have HC := Lib.hid (hc.on b4 s4)
          have y2 : b < w4.heap.size := by omega
          refine wp_region_quiet (C := fun W => Below w4.heap.size w4 W) (by kernel_rfl) (by kernel_rfl) (Below.refl _ _).drew ?_
          repeat (
            refine wpQuiet_step (fun K hK => ?_)
            go_simp
            first
              | (refine hK _ ?_; clear hK K)
              | (apply Exists.intro
                 refine ⟨fun W q0 => ?_, hK _ ?_⟩
                 (first
                   | rfl
                   | (have qc := (bcell q0).1; go_simp; rfl)
                   | (go_at_call 22; ((with_reducible refine (blocking_any l _ cap n _ hl hcap (HC.out.on q0 q0.size)).mono ?_)); rintro e w5 ⟨rfl, hb5⟩; rw [HBB.out]; exact ⟨rfl, q0.trans (hb5.mono q0.size)⟩))
                 clear hK K))
          refine wpQuiet_nil ?_
          intro w5 hb5
          have b5 := b4.trans (hb5.mono s4)
          have s5 := b5.size
          have C2 := Lib.hid (keep_cellN b5 hbN c2)
          have y5 : b < w5.heap.size := by omega
          clear hb5 b4 wa HC c0'
          go_wp2_with fail
          go_loopw [8] (fun u wr => ∃ r : Int, u = .int .i64 r ∧ 1 ≤ r ∧ r ≤ d + 1 ∧ Hid (∀ y, 1 ≤ y → y < r → c + B + intL y 0 (l.take n) ≠ y) ∧ Below w5.heap.size w5 wr) (fun u _ => (d + 1 - intOf u).toNat)
          case atStart => exact ⟨1, rfl, by omega, by omega, fun y h1 h2 => by omega, Below.refl _ _⟩
          case round =>
            obtain ⟨r, rfl, r0, r1, hno, hbl⟩ := hrel
            have hbs := hbl.size
            have d2 := keep_cellN hbl y5 C2.out
            have bw : Below w.heap.size w wr := b5.trans (hbl.mono s5)
            have sw := bw.size
            by_cases hrd : r ≤ d
            · obtain ⟨g0, g1⟩ := HB.out r (by omega) (by omega)
              have HI := Lib.hid (HIN.out r (by omega) (by omega))
              generalize hgg : intL r 0 (l.take n) = g at *
              have wa : IntKind.i64.wrap (c + B + g) = c + B + g := IntWalk.i64_in _ (by omega)
              by_cases hgr : c + B + g = r
              · have hq : (c + B + g == r) = true := by simp [hgr]
                obtain ⟨e1, e2⟩ := HHIT.out r (by omega) hrd (by rw [hgg]; exact hgr) hno.out (by omega)
                subst e1 e2
                clear hgg hgr
                go_wp2_with fail
                refine (interfere_any l _ cap n R _ hl hcap (hc.on bw sw)).mono ?_
                rintro e w6 ⟨rfl, hb6⟩
                rw [HI.out]
                go_wp2_with fail
                go_ret
                exact ⟨rfl, bw.trans (hb6.mono sw)⟩
              · have hq : (c + B + g == r) = false := beq_eq_false_iff_ne.2 hgr
                have HNO := Lib.hid (show ∀ y, 1 ≤ y → y < r + 1 → c + B + intL y 0 (l.take n) ≠ y by
                  intro y h1 h2
                  by_cases hy : y < r
                  · exact hno.out y h1 hy
                  · obtain rfl : y = r := by omega
                    rw [hgg]; exact hgr)
                clear hgg hgr hno
                go_wp2_with fail
                refine (interfere_any l _ cap n r _ hl hcap (hc.on bw sw)).mono ?_
                rintro e w6 ⟨rfl, hb6⟩
                rw [HI.out]
                go_wp2_with fail
                go_roundw
                case rel => exact ⟨r + 1, rfl, by omega, by omega, HNO.out, hbl.trans (hb6.mono (by omega))⟩
                case measure => simp [intOf]; omega
            · obtain rfl : r = d + 1 := by omega
              obtain ⟨e1, e2⟩ := HMISS.out hno.out (by omega)
              subst e1 e2
              clear hno
              go_wp2_with fail
              go_ret
              exact ⟨rfl, bw⟩
  · have HG := Lib.hid hg
    clear hg
    go_wp2_with fail
    go_ret
    exact ⟨rfl, b2⟩
end Go.Proofs.Ytkedcnemldjbeaa
