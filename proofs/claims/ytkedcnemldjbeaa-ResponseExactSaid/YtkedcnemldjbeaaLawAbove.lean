/- The walk over ResponseAbove. Conditions: the tasks lie in memory. -/
import Derived.Test.YtkedcnemldjbeaaPlainAbove
import Derived.Deep.MidRow
import Derived.Deep.OwnRows
namespace Go.Proofs.Ytkedcnemldjbeaa
open Go.RowKit

theorem info_task : (Try.prog.info? 30).map (fun i => (i.zero, i.size, i.bytes)) = some (some (.agg #[.int .i64 0, .int .i64 0, .int .i64 0, .slice none 0 0]), 4, 48) := by kernel_rfl

/-- The cells of a row of tasks, the first k laid free of sections, the rest zero. -/
def frow (l : List CT) (k : Nat) (j : Nat) : Value :=
  if j < 4 * k then (match j % 4 with | 0 => .int .i64 (ctAt l (j / 4)).c | 1 => .int .i64 (ctAt l (j / 4)).p | 2 => .int .i64 (ctAt l (j / 4)).d | _ => .slice none 0 0)
  else if j % 4 = 3 then .slice none 0 0 else .int .i64 0

theorem frow_step (l : List CT) (k i : Nat) : (if i = k * 4 + 3 then Value.slice none 0 0 else if i = k * 4 + 2 then .int .i64 (ctAt l k).d else if i = k * 4 + 1 then .int .i64 (ctAt l k).p else if i = k * 4 then .int .i64 (ctAt l k).c else frow l k i) = frow l (k + 1) i := by
  by_cases h3 : i = k * 4 + 3
  · subst h3; rw [if_pos rfl, frow, if_pos (by omega), show (k * 4 + 3) % 4 = 3 by omega]; rfl
  · rw [if_neg h3]
    by_cases h2 : i = k * 4 + 2
    · subst h2; rw [if_pos rfl, frow, if_pos (by omega), show (k * 4 + 2) % 4 = 2 by omega, show (k * 4 + 2) / 4 = k by omega]; rfl
    · rw [if_neg h2]
      by_cases h1 : i = k * 4 + 1
      · subst h1; rw [if_pos rfl, frow, if_pos (by omega), show (k * 4 + 1) % 4 = 1 by omega, show (k * 4 + 1) / 4 = k by omega]; rfl
      · rw [if_neg h1]
        by_cases h0 : i = k * 4
        · subst h0; rw [if_pos rfl, frow, if_pos (by omega), show (k * 4) % 4 = 0 by omega, show (k * 4) / 4 = k by omega]; rfl
        · rw [if_neg h0]
          unfold frow
          by_cases h : i < 4 * k
          · rw [if_pos h]; exact (if_pos (show i < 4 * (k + 1) by omega)).symm
          · rw [if_neg h]; exact (if_neg (show ¬ i < 4 * (k + 1) by omega)).symm
theorem frow_tasks {w : World} {M : Nat} {t : TypeId} {l : List CT} (h : w.rowIs M t (l.length * 4) (frow l l.length)) : TasksAt w w.heap.size (some ⟨M, 0, none⟩) (freeL l) := fun _ => by
  refine ⟨M, 0, rfl, h.lt, fun i s hs => ?_⟩
  have hi : i < l.length := by
    have := (List.getElem?_eq_some_iff.1 hs).1
    simpa [freeL] using this
  have e : s = freeT (ctAt l i) := by
    rw [freeL, List.getElem?_map, ctAt_get hi] at hs
    simpa using hs.symm
  subst e
  have c0 := h.cell (i := i * 4) (by omega)
  have c1 := h.cell (i := i * 4 + 1) (by omega)
  have c2 := h.cell (i := i * 4 + 2) (by omega)
  have c3 := h.cell (i := i * 4 + 3) (by omega)
  rw [frow, if_pos (by omega), show (i * 4) % 4 = 0 by omega, show (i * 4) / 4 = i by omega] at c0
  rw [frow, if_pos (by omega), show (i * 4 + 1) % 4 = 1 by omega, show (i * 4 + 1) / 4 = i by omega] at c1
  rw [frow, if_pos (by omega), show (i * 4 + 2) % 4 = 2 by omega, show (i * 4 + 2) / 4 = i by omega] at c2
  rw [frow, if_pos (by omega), show (i * 4 + 3) % 4 = 3 by omega] at c3
  simp only [Nat.zero_add]
  exact ⟨c0, c1, c2, none, 0, c3, by simp [freeT], fun h => absurd rfl h⟩
theorem respR_bd {l : List CT} {n : Nat} (hv : validL l = true) (hn : n < l.length) : 0 ≤ respR l n ∧ respR l n ≤ 1000 := by
  have hx := exB_mk hv hn
  obtain ⟨B0, B1⟩ := blkV_bd hx
  obtain ⟨_, hok⟩ := validL_bd hv
  obtain ⟨⟨t1, t2, t3, t4, t5, t6, _⟩, _⟩ := okT_bd (hok _ (ctAt_mem hn))
  rw [respR_of hx]
  cases h : respO l n with
  | none => simp
  | some r =>
    obtain ⟨q1, q2, _, _⟩ := lf_spec h
    unfold baseV at q1 q2
    show 0 ≤ r ∧ r ≤ 1000
    omega

set_option maxRecDepth 100000 in
set_option maxHeartbeats 3200000 in
theorem law_above (l : List CT) (a : Option Addr) (cap : Nat) (tk : Int) (w : World) (hl : l.length ≤ cap) (hcap : cap ≤ 9223372036854775807) (hc : TasksAt w w.heap.size a l)
    (t0 : 0 ≤ tk) (t1 : tk ≤ 255) :
    Calls Try.prog 4 #[.slice a l.length cap, .int .u8 tk] w fun e w' => e = .returned (.bool true) ∧ Below w.heap.size w w' := by
  have hlen : (l.length : Int) ≤ 9223372036854775807 := by omega
  go_enter Try.func4, Try.ntmps4
  go_wp2_with fail
  refine (awake_any _).mono ?_
  rintro e w1 ⟨rfl, hb1⟩
  have s1 := hb1.size
  go_wp2_with fail
  refine (great_any l a cap _ (by omega) (hc.on hb1 s1)).mono ?_
  rintro e w2 ⟨rfl, hb2⟩
  have b2 := hb1.trans (hb2.mono s1)
  have s2 := b2.size
  clear hb1 hb2
  cases hg : greatB l
  · have h8 := great_bd hg
    by_cases h0 : l.length = 0
    · have h0' : (l.length : Int) ≤ 0 := by omega
      have h0'' : ((l.length : Int) == 0) = true := by simp [h0]
      clear h0 hg
      go_wp2_with fail
      go_ret
      exact ⟨rfl, b2⟩
    · have h0' : 1 ≤ (l.length : Int) := by omega
      have h0'' : ((l.length : Int) == 0) = false := beq_eq_false_iff_ne.2 (by omega)
      clear h0 hg
      cases hv : validL l
      · have HV := Lib.hid hv
        clear hv
        go_wp2_with fail
        refine (valid_any l a cap _ (by omega) (hc.on b2 s2)).mono ?_
        rintro e w3 ⟨rfl, hb3⟩
        rw [HV.out]
        go_wp2_with fail
        go_ret
        exact ⟨rfl, b2.trans (hb3.mono s2)⟩
      · have HV := Lib.hid hv
        have hi0 : 0 ≤ tk % (l.length : Int) := Int.emod_nonneg _ (by omega)
        have hi1 : tk % (l.length : Int) < l.length := Int.emod_lt_of_pos _ (by omega)
        generalize hi : tk % (l.length : Int) = i at *
        have HIi := Lib.hid hi
        obtain ⟨n, rfl⟩ := Int.eq_ofNat_of_zero_le hi0
        have hn : n < l.length := by omega
        have HP := Lib.hid (above_plain hv hn)
        clear hv hi
        obtain ⟨i0, hi0', hz0, hz1, hz2⟩ := info_parts info_task
        go_wp2_with fail
        refine (valid_any l a cap _ (by omega) (hc.on b2 s2)).mono ?_
        rintro e w3 ⟨rfl, hb3⟩
        rw [HV.out]
        have b3 := b2.trans (hb3.mono s2)
        have s3 := b3.size
        clear hb3 b2
        have hmk := run_make (P := Try.prog) w3 22 30 i0 _ Try.underlying22 hi0' hz0 .i64 .i64 l.length l.length (by omega) (by omega) (by rw [hz2]; omega) (by omega)
        simp only [Int.toNat_natCast, hz1, Value.cells] at hmk
        clear hi0' hz0 hz1 hz2
        go_wp2_with fail
        rw [HIi.out]
        clear hmk
        have hrow : (w3.alloc (.cells (madeCells #[.int .i64 0, .int .i64 0, .int .i64 0, .slice none 0 0] (l.length * 4)) 30)).rowIs w3.heap.size 30 (l.length * 4) (frow l 0) := by
          have h := World.rowIs_alloc w3 (madeCells #[.int .i64 0, .int .i64 0, .int .i64 0, .slice none 0 0] (l.length * 4)) 30 (frow l 0) (fun i hi => by
            rw [size_madeCells] at hi
            have : i % 4 = 0 ∨ i % 4 = 1 ∨ i % 4 = 2 ∨ i % 4 = 3 := by omega
            rcases this with h | h | h | h <;> simp [madeCells, frow, hi, h])
          rw [size_madeCells] at h
          exact h
        have b4 : Below w.heap.size w (w3.alloc (.cells (madeCells #[.int .i64 0, .int .i64 0, .int .i64 0, .slice none 0 0] (l.length * 4)) 30)) := b3.alloc (by omega) _
        have s4 : w3.heap.size < (w3.alloc (.cells (madeCells #[.int .i64 0, .int .i64 0, .int .i64 0, .slice none 0 0] (l.length * 4)) 30)).heap.size := by simp
        generalize w3.alloc (.cells (madeCells #[.int .i64 0, .int .i64 0, .int .i64 0, .slice none 0 0] (l.length * 4)) 30) = w4 at *
        generalize hM : w3.heap.size = M at *
        obtain ⟨b, off, rfl, hbN, hcell⟩ := hc (by intro e; subst e; simp at h0')
        have hok : ∀ t ∈ l, okT t = true := (validL_bd HV.out).2
        have HCELL := Lib.hid hcell
        have HOK := Lib.hid hok
        clear hcell hok
        go_loopw [39] (fun u wr => ∃ k : Nat, u = .int .i64 k ∧ k ≤ l.length ∧ wr.rowIs M 30 (l.length * 4) (frow l k) ∧ Below w.heap.size w wr) (fun u _ => l.length - (intOf u).toNat)
        case atStart => exact ⟨0, rfl, by omega, hrow, b4⟩
        case round =>
          obtain ⟨k, rfl, hk, hrow, hbl⟩ := hrel
          have hbs := hbl.size
          have hMw := hrow.lt
          by_cases hlt : k < l.length
          · obtain ⟨c0, c1, c2, sa, sc, c3, _, _⟩ := HCELL.out k _ (ctAt_get hlt)
            have c0 := keep_cellN hbl hbN c0
            have c1 := keep_cellN hbl hbN c1
            have c2 := keep_cellN hbl hbN c2
            have c3 := keep_cellN hbl hbN c3
            have m0 := hrow.cell (i := k * 4) (by omega)
            have m1 := hrow.cell (i := k * 4 + 1) (by omega)
            have m2 := hrow.cell (i := k * 4 + 2) (by omega)
            have m3 := hrow.cell (i := k * 4 + 3) (by omega)
            have f0 := hrow.frozen (k * 4)
            have f1 := hrow.frozen (k * 4 + 1)
            have f2 := hrow.frozen (k * 4 + 2)
            have f3 := hrow.frozen (k * 4 + 3)
            generalize frow l k (k * 4) = z0 at *
            generalize frow l k (k * 4 + 1) = z1 at *
            generalize frow l k (k * 4 + 2) = z2 at *
            generalize frow l k (k * 4 + 3) = z3 at *
            have hlt' : (k : Int) < (l.length : Int) := by omega
            have hbw : b < wr.heap.size := by omega
            go_wp2_with fail
            go_roundw
            case rel =>
              refine ⟨k + 1, by go_num, by omega, ?_, ?_⟩
              · exact (((((hrow.set (k * 4) _).set (k * 4 + 1) _).set (k * 4 + 2) _).set (k * 4 + 3) _).alloc _).congr (fun i _ => frow_step l k i)
              · have hMB : w.heap.size ≤ M := by omega
                have hq := (((hbl.setCell (p := ⟨M, k * 4, none⟩) hMB (.int .i64 (ctAt l k).c)).setCell (p := ⟨M, k * 4 + 1, none⟩) hMB (.int .i64 (ctAt l k).p)).setCell (p := ⟨M, k * 4 + 2, none⟩) hMB (.int .i64 (ctAt l k).d)).setCell (p := ⟨M, k * 4 + 3, none⟩) hMB (.slice none 0 0)
                exact hq.alloc hq.size _
            case measure => simp [intOf]; omega
          · obtain rfl : k = l.length := by omega
            have hfl : (freeL l).length = l.length := by simp [freeL]
            have hft : ((freeL l).take (n + 1)).length = n + 1 := by rw [List.length_take]; omega
            have HT := Lib.hid (frow_tasks hrow)
            obtain ⟨P1, P2, P3, P4, P5, P6, P7⟩ := HP.out
            have FV := fun w' (hw : Below wr.heap.size wr w') => response_any (freeL l) (some ⟨M, 0, none⟩) l.length n w' (by omega) (by omega) (HT.out.on hw hw.size)
            have FT := fun w' (hw : Below wr.heap.size wr w') => response_any ((freeL l).take (n + 1)) (some ⟨M, 0, none⟩) l.length n w' (by omega) (by omega) ((HT.out.take (n + 1)).on hw hw.size)
            have FB := fun w' (hw : Below wr.heap.size wr w') => blocking_any (freeL l) (some ⟨M, 0, none⟩) l.length n w' (by omega) (by omega) (HT.out.on hw hw.size)
            simp only [hfl] at FV FB
            simp only [hft, P4, P5] at FT
            simp only [P3] at FB
            have FV := Lib.hid FV
            have FT := Lib.hid FT
            have FB := Lib.hid FB
            have FL := Lib.hid (fun w' (hw : Below wr.heap.size wr w') => response_any l (some ⟨b, off, none⟩) cap n w' hl hcap (hc.on (hbl.trans (hw.mono hbs)) (by have := hw.size; omega)))
            have FK := Lib.hid (fun w' (hw : Below wr.heap.size wr w') => blocking_any l (some ⟨b, off, none⟩) cap n w' hl hcap (hc.on (hbl.trans (hw.mono hbs)) (by have := hw.size; omega)))
            obtain ⟨B0, B1⟩ := blkV_bd (exB_mk HV.out hn)
            have PR := Lib.hid (And.intro (respR_bd P1 (show n < (freeL l).length by omega)) (respR_bd HV.out hn))
            generalize respR (freeL l) n = A at *
            generalize respE (freeL l) n = E at *
            generalize respR l n = C at *
            generalize respE l n = G at *
            generalize blkV l n = K at *
            clear P1 P2 P3 P4 P5 hrow hft HP
            go_wp2_with fail
            refine (FV.out _ (Below.refl _ _)).mono ?_
            rintro e w5 ⟨rfl, hb5⟩
            go_wp2_with fail
            refine (FT.out _ hb5).mono ?_
            rintro e w6 ⟨rfl, hb6⟩
            have b6 := hb5.trans (hb6.mono hb5.size)
            clear hb5 hb6
            go_wp2_with fail
            refine (FL.out _ b6).mono ?_
            rintro e w7 ⟨rfl, hb7⟩
            have b7 := b6.trans (hb7.mono b6.size)
            clear b6 hb7
            go_wp2_with fail
            refine (FB.out _ b7).mono ?_
            rintro e w8 ⟨rfl, hb8⟩
            have b8 := b7.trans (hb8.mono b7.size)
            clear b7 hb8
            by_cases hK : K = 0
            · obtain ⟨e1, e2⟩ := P6 hK
              subst e1 e2 hK
              clear P7 P6 B0 B1
              go_wp2_with fail
              refine (FK.out _ b8).mono ?_
              rintro e w9 ⟨rfl, hb9⟩
              have b9 := b8.trans (hb9.mono b8.size)
              go_wp2_with fail
              go_ret
              exact ⟨rfl, hbl.trans (b9.mono hbs)⟩
            · have hq : (K == 0) = false := beq_eq_false_iff_ne.2 hK
              have hq2 : (K != 0) = true := by simp [hK]
              clear P6
              by_cases hG : G = 21
              · subst hG
                clear P7
                go_wp2_with fail
                refine (FK.out _ b8).mono ?_
                rintro e w9 ⟨rfl, hb9⟩
                have b9 := b8.trans (hb9.mono b8.size)
                clear hb9 b8
                go_wp2_with fail
                go_ret
                exact ⟨rfl, hbl.trans (b9.mono hbs)⟩
              · obtain ⟨e1, e2⟩ := P7.resolve_left hG
                subst e1
                have hq3 : (G == 21) = false := beq_eq_false_iff_ne.2 hG
                obtain ⟨A0, A1⟩ := PR.out.1
                obtain ⟨C0, C1⟩ := PR.out.2
                have wa : IntKind.i64.wrap (A + K) = A + K := IntWalk.i64_in _ (by omega)
                clear P7 hG
                go_wp2_with fail
                refine (FK.out _ b8).mono ?_
                rintro e w9 ⟨rfl, hb9⟩
                have b9 := b8.trans (hb9.mono b8.size)
                clear hb9 b8
                go_wp2_with fail
                refine (FK.out _ b9).mono ?_
                rintro e w10 ⟨rfl, hb10⟩
                have b10 := b9.trans (hb10.mono b9.size)
                clear hb10 b9
                go_wp2_with fail
                go_ret
                exact ⟨rfl, hbl.trans (b10.mono hbs)⟩
  · have HG := Lib.hid hg
    clear hg
    go_wp2_with fail
    go_ret
    exact ⟨rfl, b2⟩
end Go.Proofs.Ytkedcnemldjbeaa
