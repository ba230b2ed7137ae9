/- The walk over ResponseWindows. Conditions: the tasks lie in memory. -/
import Derived.Test.YtkedcnemldjbeaaGreat
namespace Go.Proofs.Ytkedcnemldjbeaa
open Go.RowKit

theorem wins_plain {l : List CT} {i v w : Int} (hx : exB l i = true) (hv0 : 0 ≤ v) (hv1 : v < 40000) (hw0 : 0 ≤ w) (hw1 : w < 40000) :
    intV l i 0 = 0 ∧ intV l i v ≤ intV l i (v + w) ∧ intV l i w ≤ intV l i (v + w) ∧ intV l i (v + w) ≤ intV l i v + intV l i w ∧ (0 < i ∨ intV l i (v + w) = 0) ∧ intV l i 100001 = -1 ∧ 0 ≤ intV l i v ∧ 0 ≤ intV l i w ∧ intV l i v ≤ 2020000000 ∧ intV l i w ≤ 2020000000 := by
  obtain ⟨hv, i0, hi⟩ := exB_true hx
  obtain ⟨i, rfl⟩ := Int.eq_ofNat_of_zero_le i0
  obtain ⟨h20, hok⟩ := validL_bd hv
  have hok' : ∀ t ∈ l.take i, okT t = true := fun t ht => hok t (List.mem_of_mem_take ht)
  have hl : (l.take i).length ≤ 20 := by rw [List.length_take]; omega
  rw [intV_in hx (Int.le_refl 0) (by decide), intV_in hx hv0 (by omega), intV_in hx hw0 (by omega), intV_in hx (show 0 ≤ v + w by omega) (by omega)]
  have b1 := intL_bd hv0 (by omega) hok'
  have b2 := intL_bd hw0 (by omega) hok'
  refine ⟨intL_zero hok', intL_mono (by omega) hok', intL_mono (by omega) hok', intL_sub hok', ?_, by rw [intV, if_neg (by omega)], by omega, by omega, by omega, by omega⟩
  by_cases h : 0 < i
  · exact .inl (by omega)
  · right; rw [show i = 0 by omega]; rfl

set_option maxRecDepth 100000 in
set_option maxHeartbeats 3200000 in
theorem law_win (l : List CT) (a : Option Addr) (cap : Nat) (tk v w0 : Int) (w : World) (hl : l.length ≤ cap) (hcap : cap ≤ 9223372036854775807) (hc : TasksAt w w.heap.size a l)
    (t0 : 0 ≤ tk) (t1 : tk ≤ 255) (v0 : 0 ≤ v) (v1 : v ≤ 65535) (w00 : 0 ≤ w0) (w01 : w0 ≤ 65535) :
    Calls Try.prog 8 #[.slice a l.length cap, .int .u8 tk, .int .u16 v, .int .u16 w0] w fun e w' => e = .returned (.bool true) ∧ Below w.heap.size w w' := by
  have hlen : (l.length : Int) ≤ 9223372036854775807 := by omega
  go_enter Try.func8, Try.ntmps8
  go_wp2_with fail
  refine (awake_any _).mono ?_
  rintro e w1 ⟨rfl, hb1⟩
  have s1 := hb1.size
  go_wp2_with fail
  refine (great_any l a cap _ (by omega) (hc.on hb1 s1)).mono ?_
  rintro e w2 ⟨rfl, hb2⟩
  have b2 := hb1.trans (hb2.mono s1)
  have s2 := b2.size
  clear hb1 hb2
  cases hg : greatB l
  · have h8 := great_bd hg
    by_cases h0 : l.length = 0
    · have h0' : (l.length : Int) ≤ 0 := by omega
      have h0'' : ((l.length : Int) == 0) = true := by simp [h0]
      clear h0 hg
      go_wp2_with fail
      go_ret
      exact ⟨rfl, b2⟩
    · have h0' : 1 ≤ (l.length : Int) := by omega
      have h0'' : ((l.length : Int) == 0) = false := beq_eq_false_iff_ne.2 (by omega)
      clear h0 hg
      cases hv : validL l
      · have HV := Lib.hid hv
        clear hv
        go_wp2_with fail
        refine (valid_any l a cap _ (by omega) (hc.on b2 s2)).mono ?_
        rintro e w3 ⟨rfl, hb3⟩
        rw [HV.out]
        go_wp2_with fail
        go_ret
        exact ⟨rfl, b2.trans (hb3.mono s2)⟩
      · have HV := Lib.hid hv
        have hi0 : 0 ≤ tk % (l.length : Int) := Int.emod_nonneg _ (by omega)
        have hi1 : tk % (l.length : Int) < l.length := Int.emod_lt_of_pos _ (by omega)
        generalize hi : tk % (l.length : Int) = i at *
        have hx : exB l i = true := by simp only [exB, hv, Bool.true_and, Bool.and_eq_true, decide_eq_true_eq]; omega
        obtain ⟨p1, p2, p3, p4, p5, p6, p7, p8, p9, p10⟩ := wins_plain hx (show 0 ≤ v % 40000 by omega) (by omega) (show 0 ≤ w0 % 40000 by omega) (by omega)
        have P1 := Lib.hid p1
        have P6 := Lib.hid p6
        have HIi := Lib.hid hi
        have P5 := Lib.hid p5
        clear p1 p6 hv hx p5 hi
        go_wp2_with fail
        refine (valid_any l a cap _ (by omega) (hc.on b2 s2)).mono ?_
        rintro e w3 ⟨rfl, hb3⟩
        rw [HV.out]
        have b3 := b2.trans (hb3.mono s2)
        have s3 := b3.size
        clear hb3 b2
        go_wp2_with fail
        rw [HIi.out]
        generalize hvv : v % 40000 = V at *
        generalize hww : w0 % 40000 = U at *
        have hV : 0 ≤ V ∧ V < 40000 := by omega
        have hU : 0 ≤ U ∧ U < 40000 := by omega
        clear hvv hww
        obtain ⟨V0, V1⟩ := hV
        obtain ⟨U0, U1⟩ := hU
        generalize hX : intV l i V = X at *
        generalize hY : intV l i U = Y at *
        generalize hZ : intV l i (V + U) = Z at *
        have HX := Lib.hid hX
        have HY := Lib.hid hY
        have HZ := Lib.hid hZ
        clear hX hY hZ
        refine (interfere_any l a cap i V _ hl hcap (hc.on b3 s3)).mono ?_
        rintro e w4 ⟨rfl, hb4⟩
        rw [HX.out]
        have b4 := b3.trans (hb4.mono s3)
        have s4 := b4.size
        clear hb4 b3
        go_wp2_with fail
        refine (interfere_any l a cap i U _ hl hcap (hc.on b4 s4)).mono ?_
        rintro e w5 ⟨rfl, hb5⟩
        rw [HY.out]
        have b5 := b4.trans (hb5.mono s4)
        have s5 := b5.size
        clear hb5 b4
        go_wp2_with fail
        refine (interfere_any l a cap i (V + U) _ hl hcap (hc.on b5 s5)).mono ?_
        rintro e w6 ⟨rfl, hb6⟩
        rw [HZ.out]
        have b6 := b5.trans (hb6.mono s5)
        have s6 := b6.size
        clear hb6 b5
        go_wp2_with fail
        refine (interfere_any l a cap i 0 _ hl hcap (hc.on b6 s6)).mono ?_
        rintro e w7 ⟨rfl, hb7⟩
        rw [P1.out]
        have b7 := b6.trans (hb7.mono s6)
        have s7 := b7.size
        clear hb7 b6
        have hsum : IntKind.i64.wrap (X + Y) = X + Y := IntWalk.i64_in _ (by omega)
        rcases P5.out with h5 | h5
        · go_wp2_with fail
          refine (interfere_any l a cap i 100001 _ hl hcap (hc.on b7 s7)).mono ?_
          rintro e w8 ⟨rfl, hb8⟩
          rw [P6.out]
          go_wp2_with fail
          go_ret
          exact ⟨rfl, b7.trans (hb8.mono s7)⟩
        · obtain rfl : X = 0 := by omega
          obtain rfl : Y = 0 := by omega
          obtain rfl : Z = 0 := h5
          clear hsum p2 p3 p4 p7 p8 p9 p10
          by_cases hip : (0 : Int) < i
          all_goals
            go_wp2_with fail
            refine (interfere_any l a cap i 100001 _ hl hcap (hc.on b7 s7)).mono ?_
            rintro e w8 ⟨rfl, hb8⟩
            rw [P6.out]
            go_wp2_with fail
            go_ret
            exact ⟨rfl, b7.trans (hb8.mono s7)⟩
  · have HG := Lib.hid hg
    clear hg
    go_wp2_with fail
    go_ret
    exact ⟨rfl, b2⟩
end Go.Proofs.Ytkedcnemldjbeaa
