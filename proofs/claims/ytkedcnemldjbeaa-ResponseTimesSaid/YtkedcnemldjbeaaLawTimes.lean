/- The walk over ResponseTimes. Conditions: the tasks lie in memory. -/
import Derived.Test.YtkedcnemldjbeaaLawParts
import Derived.Deep.DeepCutAuto
import Derived.Deep.OwnRows
namespace Go.Proofs.Ytkedcnemldjbeaa
open Go.RowKit

/-- The wanted times so far: k of them set. -/
def wrow (l : List CT) (k : Nat) (i : Nat) : Value := .int .i64 (if i < k then (respO l i).getD 0 else 0)
def lateK (l : List CT) (k : Nat) : Bool := (List.range k).any fun i : Nat => !(respO l i).isSome
theorem lateK_succ (l : List CT) (k : Nat) : lateK l (k + 1) = (lateK l k || !(respO l k).isSome) := by simp [lateK, List.range_succ]
theorem lateB_eq {l : List CT} (hv : validL l = true) : lateB l = lateK l l.length := by
  unfold lateB lateK
  rw [Bool.eq_iff_iff, List.any_eq_true, List.any_eq_true]
  constructor
  · rintro ⟨i, hi, h⟩
    refine ⟨i, hi, ?_⟩
    rw [respE_of (exB_mk hv (List.mem_range.1 hi))] at h
    cases hq : (respO l i).isSome
    · rfl
    · rw [hq] at h; simp at h
  · rintro ⟨i, hi, h⟩
    refine ⟨i, hi, ?_⟩
    rw [respE_of (exB_mk hv (List.mem_range.1 hi))]
    cases hq : (respO l i).isSome
    · rfl
    · rw [hq] at h; simp at h
theorem wrow_step (l : List CT) (k : Nat) (i : Nat) : (if i = k then .int .i64 ((respO l k).getD 0) else wrow l k i) = wrow l (k + 1) i := by
  unfold wrow
  by_cases h : i = k
  · subst h; simp
  · rw [if_neg h]
    by_cases h2 : i < k
    · rw [if_pos h2, if_pos (by omega)]
    · rw [if_neg h2, if_neg (by omega)]
theorem respR_O {l : List CT} {k : Nat} (hv : validL l = true) (hk : k < l.length) : respR l k = (respO l k).getD 0 := respR_of (exB_mk hv hk)

set_option maxRecDepth 100000 in
set_option maxHeartbeats 6400000 in
theorem law_times (l : List CT) (a : Option Addr) (cap : Nat) (i : Int) (w : World) (hl : l.length ≤ cap) (hcap : cap ≤ 9223372036854775807) (hc : TasksAt w w.heap.size a l) :
    Calls Try.prog 5 #[.slice a l.length cap, .int .i64 i] w fun e w' => e = .returned (.bool true) ∧ Below w.heap.size w w' := by
  have hlen : (l.length : Int) ≤ 9223372036854775807 := by omega
  go_enter Try.func5, Try.ntmps5
  go_wp2_with fail
  refine (awake_any _).mono ?_
  rintro e w1 ⟨rfl, hb1⟩
  have s1 := hb1.size
  go_wp2_with fail
  refine (great_any l a cap _ (by omega) (hc.on hb1 s1)).mono ?_
  rintro e w2 ⟨rfl, hb2⟩
  have b2 := hb1.trans (hb2.mono s1)
  have s2 := b2.size
  clear hb1 hb2
  cases hg : greatB l
  · have h8 := great_bd hg
    have HSS := Lib.hid (great_ss hg)
    clear hg
    go_wp2_with fail
    refine (response_any l a cap i _ hl hcap (hc.on b2 s2)).mono ?_
    rintro e w3 ⟨rfl, hb3⟩
    have b3 := b2.trans (hb3.mono s2)
    have s3 := b3.size
    clear hb3 b2
    go_wp2_with fail
    refine (all_any l a cap _ hl hcap (hc.on b3 s3)).mono ?_
    rintro e w4 ⟨hb4, hall⟩
    have b4 := b3.trans (hb4.mono s3)
    have s4 := b4.size
    clear hb4 b3
    cases hv : validL l
    · obtain ⟨_, rfl⟩ : validL l = false ∧ e = .returned (.tuple #[.slice none 0 0, .int .i64 1]) := by
        rcases hall with h | ⟨h, _⟩ | ⟨h, _⟩
        · exact h
        · rw [hv] at h; cases h
        · rw [hv] at h; cases h
      have HR := Lib.hid (show respR l i = 0 by simp [respR, exB, hv])
      have HE := Lib.hid (show respE l i = 1 by simp [respE, hv])
      have HV := Lib.hid hv
      clear hall hv
      rw [HR.out, HE.out]
      go_wp2_with fail
      refine (valid_any l a cap _ (by omega) (hc.on b4 s4)).mono ?_
      rintro e w5 ⟨rfl, hb5⟩
      have b5 := b4.trans (hb5.mono s4)
      have s5 := b5.size
      rw [HV.out]
      go_wp2_with fail
      refine (sched_any l a cap _ hl hcap (hc.on b5 s5)).mono ?_
      rintro e w6 ⟨rfl, hb6⟩
      rw [HV.out]
      go_wp2_with fail
      go_ret
      exact ⟨rfl, b5.trans (hb6.mono s5)⟩
    · have HLB := Lib.hid (lateB_eq hv)
      have HV := Lib.hid hv
      have hall' : ∃ (a' : Option Addr) (m cap' : Nat) (E : Int), e = .returned (.tuple #[.slice a' m cap', .int .i64 E]) ∧ m ≤ cap' ∧ cap' ≤ 9223372036854775807 ∧ ((lateB l = true ∧ m = 0 ∧ E = 21) ∨ (lateB l = false ∧ m = l.length ∧ E = 0 ∧ IntsAt w4 w4.heap.size a' (respL l l.length))) := by
        rcases hall with ⟨h, _⟩ | ⟨_, h, rfl⟩ | ⟨_, h, a', cap', rfl, h1, h2, h3⟩
        · rw [hv] at h; cases h
        · exact ⟨none, 0, 0, 21, rfl, by omega, by omega, .inl ⟨h, rfl, rfl⟩⟩
        · exact ⟨a', l.length, cap', 0, rfl, h2, h3, .inr ⟨h, rfl, rfl, h1⟩⟩
      obtain ⟨aa, m, ac, E, rfl, hm1, hm2, hall⟩ := hall'
      have HALL := Lib.hid hall
      clear hall hv
      obtain ⟨i0, hi0, hz0, hz1, hz2⟩ := info_parts info_int
      go_wp2_with fail
      refine (valid_any l a cap _ (by omega) (hc.on b4 s4)).mono ?_
      rintro e w5 ⟨rfl, hb5⟩
      have b5 := b4.trans (hb5.mono s4)
      have s5 := b5.size
      have HA5 := Lib.hid hb5
      clear hb5
      rw [HV.out]
      have hmk := run_make (P := Try.prog) w5 35 3 i0 _ Try.underlying35 hi0 hz0 .i64 .i64 l.length l.length (by omega) (by omega) (by rw [hz2]; omega) (by omega)
      simp only [Int.toNat_natCast, hz1, Value.cells] at hmk
      clear hi0 hz0 hz1 hz2
      go_wp2_with fail
      clear hmk
      have hrow : (w5.alloc (.cells (madeCells #[.int .i64 0] l.length) 3)).rowIs w5.heap.size 3 l.length (wrow l 0) := by
        have h := World.rowIs_alloc w5 (madeCells #[.int .i64 0] l.length) 3 (wrow l 0) (fun i hi => by
          rw [size_madeCells] at hi
          simp [madeCells, wrow, hi, Nat.mod_one] <;> omega)
        rw [size_madeCells] at h
        exact h
      have b6 : Below w.heap.size w (w5.alloc (.cells (madeCells #[.int .i64 0] l.length) 3)) := b5.alloc (by omega) _
      have c6 : Below w5.heap.size w5 (w5.alloc (.cells (madeCells #[.int .i64 0] l.length) 3)) := (Below.refl _ _).alloc (Nat.le_refl _) _
      have s6 : w5.heap.size < (w5.alloc (.cells (madeCells #[.int .i64 0] l.length) 3)).heap.size := by simp
      generalize w5.alloc (.cells (madeCells #[.int .i64 0] l.length) 3) = w6 at *
      generalize hM : w5.heap.size = M at *
      have hMw : w.heap.size ≤ M := by omega
      have HPL := Lib.hid (fun w' (hc' : TasksAt w' w'.heap.size a l) => plain44_any l a cap w' (by omega) HSS.out hc')
      have HPR := Lib.hid (fun n w' a' c' hn (hc' : TasksAt w' w'.heap.size a' l) => rresp_any l a' c' n w' HV.out hn hc')
      go_loopw [60, 10] (fun u x wr => ∃ k : Nat, u = .int .i64 k ∧ k ≤ l.length ∧ x = .bool (lateK l k) ∧ Hid (wr.rowIs M 3 l.length (wrow l k)) ∧ Below w.heap.size w wr ∧ Below M w5 wr ∧ M < wr.heap.size) (fun u _ _ => l.length - (intOf u).toNat)
      case atStart => exact ⟨0, rfl, by omega, rfl, hrow, b6, c6, s6⟩
      case round =>
        obtain ⟨k, rfl, hk, rfl, hrow, hbl, hcl, hsM⟩ := hrel
        have hbs := hbl.size
        by_cases hlt : k < l.length
        · have hlt' : (k : Int) < (l.length : Int) := by omega
          go_wp2_with fail
          refine (HPL.out _ (hc.on hbl hbs)).mono ?_
          rintro e w7 ⟨a7, c7, rfl, q1, q2, q3, hb7⟩
          have s7 := hb7.size
          go_wp2_with fail
          refine (HPR.out k _ _ _ hlt q3).mono ?_
          rintro e w8 ⟨rfl, hb8⟩
          have b78 := hb7.trans (hb8.mono s7)
          have s8 := b78.size
          have hrow8 := hrow.out.of_block (b78.block M hsM)
          have m0 := hrow8.cell (i := k) hlt
          have m1 := hrow8.frozen k
          have HR8 := Lib.hid ((hrow8.set k (.int .i64 ((respO l k).getD 0))).congr (fun i _ => wrow_step l k i))
          have HLS := Lib.hid (lateK_succ l k)
          generalize wrow l k k = z0 at *
          have hb9 := (hbl.trans (b78.mono hbs)).setCell (p := ⟨M, k, none⟩) hMw (.int .i64 ((respO l k).getD 0))
          have hc9 := (hcl.trans (b78.mono (by omega))).setCell (p := ⟨M, k, none⟩) (Nat.le_refl M) (.int .i64 ((respO l k).getD 0))
          have HB9 := Lib.hid hb9
          have HC9 := Lib.hid hc9
          clear hrow8 q3 hb7 hb8 hrow hb9 hc9
          generalize (respO l k).getD 0 = rk at *
          cases h1 : lateK l k <;> cases h2 : (respO l k).isSome
          all_goals
            rw [h1, h2] at HLS
            clear h1 h2
            go_wp2_with fail
            go_roundw
            case rel => exact ⟨k + 1, by go_num, by omega, by rw [HLS.out]; rfl, HR8.out, HB9.out, HC9.out, by simp; omega⟩
            case measure => simp [intOf]; omega
        · obtain rfl : k = l.length := by omega
          have hlt' : ¬ (l.length : Int) < (l.length : Int) := by omega
          rw [← HLB.out]
          have HSC := Lib.hid (fun w' (hc' : TasksAt w' w'.heap.size a l) => sched_any l a cap w' hl hcap hc')
          rw [HV.out] at HSC
          have hMl := hcl.size
          rcases HALL.out with ⟨hL, rfl, rfl⟩ | ⟨hL, rfl, rfl, hI⟩
          · rw [hL] at HSC ⊢
            clear hL HALL
            go_wp2_with (go_at_call 24; refine (HSC.out _ (hc.on hbl hbs)).mono ?_; rintro e w7 ⟨rfl, hb7⟩)
            have b9 := hbl.trans (hb7.mono hbs)
            have s9 := b9.size
            clear hbl hb7 hrow hcl
            go_loop [115] (fun u => u = .int .i64 0) (fun u => 0)
            case atStart => exact rfl
            case round =>
              obtain rfl := hrel
              by_cases hi : 0 ≤ i ∧ i < (l.length : Int)
              · obtain ⟨i0, i1⟩ := hi
                obtain ⟨n, rfl⟩ := Int.eq_ofNat_of_zero_le i0
                have hn : n < l.length := by omega
                have HRE := Lib.hid (respE_of (exB_mk HV.out hn))
                rw [respR_O HV.out hn, HRE.out]
                clear HRE
                have HO := Lib.hid (show (respO l n).isSome = false → (respO l n).getD 0 = 0 from fun h => by cases hq : respO l n with
                  | none => rfl
                  | some x => rw [hq] at h; cases h)
                cases h2 : (respO l n).isSome
                · rw [HO.out h2]
                  have H2 := Lib.hid h2
                  clear h2
                  simp only [Bool.false_eq_true, if_false]
                  go_wp2_with fail
                  refine (HPL.out _ (hc.on b9 s9)).mono ?_
                  rintro e w10 ⟨a10, c10, rfl, q1, q2, q3, hb10⟩
                  have s10 := hb10.size
                  go_wp2_with (go_at_call 25; refine (HPR.out n _ _ _ hn q3).mono ?_; rintro e w11 ⟨rfl, hb11⟩; rw [H2.out, HO.out H2.out])
                  go_ret
                  exact ⟨rfl, (b9.trans (hb10.mono s9)).trans (hb11.mono (by omega))⟩
                · have H2 := Lib.hid h2
                  clear h2 HO
                  generalize hrn : (respO l n).getD 0 = rn
                  have HRN := Lib.hid hrn
                  clear hrn
                  simp only [if_true]
                  go_wp2_with fail
                  refine (HPL.out _ (hc.on b9 s9)).mono ?_
                  rintro e w10 ⟨a10, c10, rfl, q1, q2, q3, hb10⟩
                  have s10 := hb10.size
                  go_wp2_with (go_at_call 25; refine (HPR.out n _ _ _ hn q3).mono ?_; rintro e w11 ⟨rfl, hb11⟩; rw [H2.out, HRN.out])
                  go_ret
                  exact ⟨rfl, (b9.trans (hb10.mono s9)).trans (hb11.mono (by omega))⟩
              · have hx : exB l i = false := by
                  simp only [exB, HV.out, Bool.true_and, Bool.and_eq_false_iff, decide_eq_false_iff_not]
                  omega
                have HR := Lib.hid (show respR l i = 0 by simp [respR, hx])
                have HE := Lib.hid (show respE l i = 2 by simp [respE, HV.out, hx])
                rw [HR.out, HE.out]
                clear hx
                have hi' : i < 0 ∨ (0 ≤ i ∧ (l.length : Int) ≤ i) := by omega
                clear hi
                rcases hi' with h | ⟨h, h2⟩
                · go_wp2_with fail
                  go_ret
                  exact ⟨rfl, b9⟩
                · go_wp2_with fail
                  go_ret
                  exact ⟨rfl, b9⟩
          · rw [hL] at HSC ⊢
            have HI := Lib.hid hI
            clear hL HALL hI
            go_wp2_with (go_at_call 24; refine (HSC.out _ (hc.on hbl hbs)).mono ?_; rintro e w7 ⟨rfl, hb7⟩)
            have b9 := hbl.trans (hb7.mono hbs)
            have s9 := b9.size
            have hrow9 := hrow.out.of_block (hb7.block M hsM)
            have hA5s := HA5.out.size
            have hI9 := (HI.out.on (HA5.out.trans ((hcl.trans (hb7.mono (by omega))).mono (by omega))) (by have := HA5.out.size; have := hb7.size; omega))
            have HI9 := Lib.hid hI9
            have HR9 := Lib.hid hrow9
            clear hbl hb7 hrow hcl hrow9 hI9 HI
            go_loopw [115] (fun u wr => ∃ k : Nat, u = .int .i64 k ∧ k ≤ l.length ∧ Below w7.heap.size w7 wr) (fun u _ => l.length - (intOf u).toNat)
            case atStart => exact ⟨0, rfl, by omega, Below.refl _ _⟩
            case round =>
              obtain ⟨k, rfl, hk, hbl⟩ := hrel
              have hbs := hbl.size
              by_cases hlt : k < l.length
              · have hlt' : (k : Int) < (l.length : Int) := by omega
                have k0 : (0 : Int) ≤ (k : Int) := by omega
                obtain ⟨ab, aoff, rfl, habN, hac⟩ := HI9.out (by intro e; have := respL_len l l.length; rw [e] at this; simp at this; omega)
                have x0 := hac k (respR l k) (by simp [respL, hlt])
                rw [respR_O HV.out hlt] at x0
                have x0 := keep_cell hbl habN x0
                have y0 := HR9.out.cell (i := k) hlt
                rw [wrow, if_pos hlt] at y0
                have y0 := keep_cell hbl HR9.out.lt y0
                have z0 : ab < wr.heap.size := by omega
                have z1 : M < wr.heap.size := by have := HR9.out.lt; omega
                clear hac
                generalize (respO l k).getD 0 = rk at *
                go_wp2_with fail
                refine wp_region_quiet (C := fun W => Below wr.heap.size wr W) (by kernel_rfl) (by kernel_rfl) (Below.refl _ _).drew ?_
                repeat (
                  refine wpQuiet_step (fun K hK => ?_)
                  go_simp
                  first
                    | (refine hK _ ?_; clear hK K)
                    | (apply Exists.intro
                       refine ⟨fun W q0 => ?_, hK _ ?_⟩
                       (first
                         | rfl
                         | (have qc := (bcell q0).1; go_simp; rfl))
                       clear hK K))
                refine wpQuiet_nil ?_
                intro W hW
                go_wp2_with fail
                go_roundw
                case rel => exact ⟨k + 1, by go_num, by omega, hbl.trans (hW.mono hbs)⟩
                case measure => simp [intOf]; omega
              · have hlt' : ¬ (k : Int) < (l.length : Int) := by omega
                have b9 := b9.trans (hbl.mono s9)
                have s9 := b9.size
                clear hbl
                by_cases hi : 0 ≤ i ∧ i < (l.length : Int)
                · obtain ⟨i0, i1⟩ := hi
                  obtain ⟨n, rfl⟩ := Int.eq_ofNat_of_zero_le i0
                  have hn : n < l.length := by omega
                  have HRE := Lib.hid (respE_of (exB_mk HV.out hn))
                  rw [respR_O HV.out hn, HRE.out]
                  clear HRE
                  have HO := Lib.hid (show (respO l n).isSome = false → (respO l n).getD 0 = 0 from fun h => by cases hq : respO l n with
                    | none => rfl
                    | some x => rw [hq] at h; cases h)
                  cases h2 : (respO l n).isSome
                  · rw [HO.out h2]
                    have H2 := Lib.hid h2
                    clear h2
                    simp only [Bool.false_eq_true, if_false]
                    go_wp2_with fail
                    refine (HPL.out _ (hc.on b9 s9)).mono ?_
                    rintro e w10 ⟨a10, c10, rfl, q1, q2, q3, hb10⟩
                    have s10 := hb10.size
                    go_wp2_with (go_at_call 25; refine (HPR.out n _ _ _ hn q3).mono ?_; rintro e w11 ⟨rfl, hb11⟩; rw [H2.out, HO.out H2.out])
                    go_ret
                    exact ⟨rfl, (b9.trans (hb10.mono s9)).trans (hb11.mono (by omega))⟩
                  · have H2 := Lib.hid h2
                    clear h2 HO
                    generalize hrn : (respO l n).getD 0 = rn
                    have HRN := Lib.hid hrn
                    clear hrn
                    simp only [if_true]
                    go_wp2_with fail
                    refine (HPL.out _ (hc.on b9 s9)).mono ?_
                    rintro e w10 ⟨a10, c10, rfl, q1, q2, q3, hb10⟩
                    have s10 := hb10.size
                    go_wp2_with (go_at_call 25; refine (HPR.out n _ _ _ hn q3).mono ?_; rintro e w11 ⟨rfl, hb11⟩; rw [H2.out, HRN.out])
                    go_ret
                    exact ⟨rfl, (b9.trans (hb10.mono s9)).trans (hb11.mono (by omega))⟩
                · have hx : exB l i = false := by
                    simp only [exB, HV.out, Bool.true_and, Bool.and_eq_false_iff, decide_eq_false_iff_not]
                    omega
                  have HR := Lib.hid (show respR l i = 0 by simp [respR, hx])
                  have HE := Lib.hid (show respE l i = 2 by simp [respE, HV.out, hx])
                  rw [HR.out, HE.out]
                  clear hx
                  have hi' : i < 0 ∨ (0 ≤ i ∧ (l.length : Int) ≤ i) := by omega
                  clear hi
                  rcases hi' with h | ⟨h, h2⟩
                  · go_wp2_with fail
                    go_ret
                    exact ⟨rfl, b9⟩
                  · go_wp2_with fail
                    go_ret
                    exact ⟨rfl, b9⟩
  · have HG := Lib.hid hg
    clear hg
    go_wp2_with fail
    go_ret
    exact ⟨rfl, b2⟩
end Go.Proofs.Ytkedcnemldjbeaa
