/- The walk over the law's schedules. Conditions: valid jobs and one of their schedules lie in memory. -/
import Derived.Test.YtobjcdbbdgloiaaWitP
namespace Go.Proofs.Ytobjcdbbdgloiaa
open Go.RowKit Go.Deep

theorem rowsOf_len (S : Nat) (R : Nat → List Nat) : (rowsOf S R).length = S := by simp [rowsOf]
theorem rowsOf_get {S : Nat} {R : Nat → List Nat} {s : Nat} (h : s < S) : (rowsOf S R)[s]? = some ((R s).map fun x : Nat => (x : Int)) := by
  unfold rowsOf
  rw [List.getElem?_map, List.getElem?_range h]; rfl
theorem nat_get {q : List Nat} {i : Nat} (h : i < q.length) : (q.map fun x : Nat => (x : Int))[i]? = some ((q.getD i 0 : Nat) : Int) := by
  rw [List.getElem?_map, List.getD_eq_getElem?_getD, List.getElem?_eq_getElem h]; rfl

set_option maxRecDepth 100000 in
set_option maxHeartbeats 6400000 in
theorem schedules_any (l : List FJ) (a : Option Addr) (cap : Nat) (cores : Int) (σ : Nat → Nat → Bool) (G : Nat) (w : World) (hv : jobsOK l cores = true) (hc : FJobsAt w w.heap.size a l)
    (hs : Sched l (slotsN l) cores σ) (hr : RowsAt w w.heap.size (some ⟨G, 0, none⟩) (rowsOf (slotsN l) (runs l σ))) :
    Calls Try.prog 19 #[.slice a l.length cap, .int .i64 cores, .slice (some ⟨G, 0, none⟩) (slotsN l) (slotsN l)] w fun e w' => e = .returned (.bool true) ∧ Below w.heap.size w w' := by
  obtain ⟨hl1, co1, co4, hjob⟩ := jobsOK_bd hv
  have hS2 : slotsN l ≤ 200 := by have := maxD_bd hjob (Nat.le_refl l.length); unfold slotsN; omega
  have hlI : (l.length : Int) ≤ 100 := by omega
  have HMB := Lib.hid (fun k (hk : k ≤ l.length) => maxD_bd hjob hk)
  have HSC := Lib.hid hs
  have HR := Lib.hid hr
  clear hjob hv hs hr
  go_enter Try.func19, Try.ntmps19
  go_wp2_with fail
  go_loopw [19, 7] (fun u v wr => ∃ k : Nat, u = .int .i64 k ∧ v = .int .i64 (maxD l k) ∧ k ≤ l.length ∧ Below w.heap.size w wr) (fun u _ _ => l.length - (intOf u).toNat)
  case atStart => exact ⟨0, rfl, rfl, by omega, Below.refl _ _⟩
  case round =>
    obtain ⟨k, rfl, rfl, hk, hbl⟩ := hrel
    have hbs := hbl.size
    obtain ⟨m0, m1⟩ := HMB.out k hk
    by_cases hlt : k < l.length
    · have k0 : (0 : Int) ≤ (k : Int) := by omega
      have k1 : (k : Int) < (l.length : Int) := by omega
      obtain ⟨b, off, rfl, hbN, hcell⟩ := hc (by intro e; simp [e] at hlt)
      obtain ⟨c0, c1, c2⟩ := hcell k _ (fjAt_get hlt)
      have c0 := keep_cellN hbl hbN c0
      have c1 := keep_cellN hbl hbN c1
      have c2 := keep_cellN hbl hbN c2
      have hbr : b < wr.heap.size := by omega
      have HMX := Lib.hid (show maxD l (k + 1) = max (maxD l k) (fjAt l k).d from rfl)
      clear hcell
      generalize fjAt l k = j at *
      obtain ⟨jr, jd, jc⟩ := j
      simp only at c0 c1 c2 HMX
      have bj := hbl.alloc hbs (.cells #[.int .i64 jr, .int .i64 jd, .int .i64 jc] 44)
      have jcl := Go.Deep.blk_alloc_new wr (.cells #[.int .i64 jr, .int .i64 jd, .int .i64 jc] 44)
      have hsj : wr.heap.size < (wr.alloc (.cells #[.int .i64 jr, .int .i64 jd, .int .i64 jc] 44)).heap.size := by simp
      clear hbl
      go_upto_region 5 with fail
      generalize wr.alloc (.cells #[.int .i64 jr, .int .i64 jd, .int .i64 jc] 44) = wj at *
      obtain ⟨g0, g1, g2⟩ := blk3 jcl
      clear jcl c0 c1 c2
      generalize maxD l k = M at *
      by_cases hmx : M < jd
      · have HQ := Lib.hid (show max M jd = jd by omega)
        go_wp2_with fail
        go_roundw
        case rel => exact ⟨k + 1, by go_num, by rw [HMX.out, HQ.out], by omega, bj⟩
        case measure => simp [intOf]; omega
      · have HQ := Lib.hid (show max M jd = M by omega)
        go_wp2_with fail
        go_roundw
        case rel => exact ⟨k + 1, by go_num, by rw [HMX.out, HQ.out], by omega, bj⟩
        case measure => simp [intOf]; omega
    · obtain rfl : k = l.length := by omega
      have hS : ((slotsN l : Nat) : Int) = maxD l l.length := by unfold slotsN; omega
      rw [← hS] at m0 m1 ⊢
      clear hS HMB
      have hq : (((slotsN l : Nat) : Int) != ((slotsN l : Nat) : Int)) = false := by simp
      have j2 := hc.on hbl hbs
      have HR2 := Lib.hid (HR.out.on hbl hbs)
      have HB2 := Lib.hid hbl
      clear hbl hc HR
      generalize wr = w0 at *
      obtain ⟨i0, hi0, hz0, hz1, hz2⟩ := info_parts info_int
      have hmk := run_make (P := Try.prog) w0 30 3 i0 _ Try.underlying30 hi0 hz0 .i64 .i64 l.length l.length (by omega) (by omega) (by rw [hz2]; omega) (by omega)
      simp only [Int.toNat_natCast, hz1, Value.cells, Nat.mul_one] at hmk
      clear hi0 hz0 hz1 hz2
      have HSS := Lib.hid (show ∃ S, S = slotsN l from ⟨_, rfl⟩)
      have RG := Lib.hid (fun t (ht : t < slotsN l) => rowsOf_get (R := runs l σ) ht)
      have RL := Lib.hid (fun t (ht : t < slotsN l) => runs_len HSC.out ht)
      have RX := Lib.hid (fun t (ht : t < slotsN l) i (hi : i < (runs l σ t).length) => show (runs l σ t).getD i 0 < l.length ∧ (fjAt l ((runs l σ t).getD i 0)).r ≤ t ∧ (t : Int) < (fjAt l ((runs l σ t).getD i 0)).d from by
        obtain ⟨x1, x2⟩ := runs_get hi
        have := HSC.out.win _ t x1 ht x2
        exact ⟨x1, of_decide_eq_true this⟩)
      have DE := Lib.hid (fun x (hx : x < l.length) => dnV_end HSC.out hx)
      have hne : rowsOf (slotsN l) (runs l σ) ≠ [] ∨ slotsN l = 0 := by
        by_cases e : slotsN l = 0
        · exact .inr e
        · left; intro h; have := rowsOf_len (slotsN l) (runs l σ); rw [h] at this; simp at this; omega
      generalize slotsN l = S at *
      clear HSS HSC
      go_upto_region 10 with fail
      clear hmk
      have hrow := World.rowIs_made w0 (.int .i64 0) l.length 3
      have b1 : Below w0.heap.size w0 (w0.alloc (.cells (madeCells #[.int .i64 0] l.length) 3)) := (Below.refl _ _).alloc (Nat.le_refl _) _
      have s1 : w0.heap.size < (w0.alloc (.cells (madeCells #[.int .i64 0] l.length) 3)).heap.size := by simp
      generalize w0.alloc (.cells (madeCells #[.int .i64 0] l.length) 3) = w1 at *
      generalize hA : w0.heap.size = A at *
      clear hA
      go_wp2_with fail
      go_loopw [37] (fun u wq => ∃ t : Nat, u = .int .i64 t ∧ t ≤ S ∧ Hid (wq.rowIs A 3 l.length (fun x => .int .i64 (dnV l σ t 0 x))) ∧ Below A w0 wq ∧ A < wq.heap.size) (fun u _ => S - (intOf u).toNat)
      case atStart => exact ⟨0, rfl, by omega, hrow.congr (fun x _ => by rw [dnV_zero]), b1, s1⟩
      case round =>
        obtain ⟨t, rfl, ht, hrw, hbl, hsl⟩ := hrel
        clear hrow b1 s1
        by_cases hts : t < S
        · have t0 : (0 : Int) ≤ (t : Int) := by omega
          have t1 : (t : Int) < (S : Int) := by omega
          obtain ⟨b, off, e, hbN, hcell⟩ := HR2.out (hne.resolve_right (by omega))
          obtain ⟨rfl, rfl⟩ : G = b ∧ 0 = off := by injection e with e; injection e with e1 e2; exact ⟨e1, e2⟩
          obtain ⟨ra, rc, c0, c1, c2, c3⟩ := hcell t _ (RG.out t hts)
          rw [List.length_map] at c0 c1
          rw [Nat.zero_add] at c0
          have c0 := keep_cellN hbl hbN c0
          have hGl : G < wr.heap.size := by omega
          have rl := RL.out t hts
          have HX := Lib.hid (RX.out t hts)
          have HI := Lib.hid c3
          have HDN := Lib.hid (fun x (hx : x < l.length) => dnV_row (l := l) (σ := σ) (t := t) hx)
          have HDS := Lib.hid (fun i (hi : i < (runs l σ t).length) x => dnV_step (l := l) (σ := σ) (t := t) hi x)
          have HPL := Lib.hid (fun i (hi : i < (runs l σ t).length) (h0 : 0 < i) => show (runs l σ t).getD (i - 1) 0 < (runs l σ t).getD i 0 from pick_lt (by omega) hi)
          clear c3 hcell e
          generalize hrun : runs l σ t = rn at *
          clear hrun
          go_wp2_with fail
          go_loopw [48] (fun u wq => ∃ i : Nat, u = .int .i64 i ∧ i ≤ rn.length ∧ Hid (wq.rowIs A 3 l.length (fun x => .int .i64 (dnV l σ t i x))) ∧ Below A w0 wq ∧ A < wq.heap.size) (fun u _ => rn.length - (intOf u).toNat)
          case atStart => exact ⟨0, rfl, by omega, hrw.out, hbl, hsl⟩
          case round =>
            obtain ⟨i, rfl, hi, hrw, hbl, hsl⟩ := hrel
            by_cases hil : i < rn.length
            · have i0 : (0 : Int) ≤ (i : Int) := by omega
              have i1 : (i : Int) < (rn.length : Int) := by omega
              obtain ⟨rb, ro, rfl, hrN, hrc⟩ := HI.out (by intro e; rw [List.map_eq_nil_iff] at e; subst e; simp at hil)
              have hx := keep_cellN hbl hrN (hrc i _ (nat_get hil))
              obtain ⟨x1, x2, x3⟩ := HX.out i hil
              have hpl := HPL.out i hil
              have HD := Lib.hid (HDS.out i hil)
              have hxp : 0 < i → wr.cell? ⟨rb, ro + (i - 1), none⟩ = some (.int .i64 ((rn.getD (i - 1) 0 : Nat) : Int)) := fun _ => keep_cellN hbl hrN (hrc (i - 1) _ (nat_get (by omega)))
              generalize rn.getD (i - 1) 0 = y at *
              generalize rn.getD i 0 = x at *
              obtain ⟨b, off, rfl, hbN2, hcell⟩ := j2 (by intro e; rw [e] at x1; simp at x1)
              obtain ⟨d0, d1, d2⟩ := hcell x _ (fjAt_get x1)
              have d0 := keep_cellN hbl hbN2 d0
              have d1 := keep_cellN hbl hbN2 d1
              have hbr : b < wr.heap.size := by omega
              have hrr : rb < wr.heap.size := by omega
              have m0' := hrw.out.cell (i := x) x1
              have m1' := hrw.out.frozen x
              have x1I : (x : Int) < (l.length : Int) := by omega
              obtain ⟨v0, v1⟩ := dnV_bd l σ t i x
              have HRW := Lib.hid ((hrw.out.set x (.int .i64 (dnV l σ t i x + 1))).congr (g := fun z => .int .i64 (dnV l σ t (i + 1) z)) (fun z _ => by
                rw [HD.out z]
                split
                · rename_i e; rw [e]
                · rfl))
              clear hcell hrc hrw HD
              generalize dnV l σ t i x = dv at *
              generalize fjAt l x = j at *
              by_cases h0 : i = 0
              · subst h0
                clear hxp hpl
                rw [Nat.add_zero] at hx
                rw [show ((0 : Nat) : Int) = 0 from rfl] at i1
                go_wp2_with fail
                go_roundw
                case rel => exact ⟨1, by go_num, by omega, HRW.out, hbl.setCell (p := ⟨A, x, none⟩) (Nat.le_refl _) _, by simpa using hsl⟩
                case measure => simp [intOf]; omega
              · have i2 : (0 : Int) < (i : Int) := by omega
                have hxp := hxp (by omega)
                have hpl := hpl (by omega)
                have i3 : ((i : Int) - 1).toNat = i - 1 := by omega
                have i4 : (0 : Int) ≤ (i : Int) - 1 := by omega
                go_wp2_with fail
                go_roundw
                case rel => exact ⟨i + 1, by go_num, by omega, HRW.out, hbl.setCell (p := ⟨A, x, none⟩) (Nat.le_refl _) _, by simpa using hsl⟩
                case measure => simp [intOf]; omega
            · obtain rfl : i = rn.length := by omega
              have HRW := Lib.hid (hrw.out.congr (g := fun x => .int .i64 (dnV l σ (t + 1) 0 x)) (fun x hx => by rw [HDN.out x hx]))
              clear hrw
              go_wp2_with fail
              go_roundw
              case rel => exact ⟨t + 1, by go_num, by omega, HRW.out, hbl, hsl⟩
              case measure => simp [intOf]; omega
        · obtain rfl : t = S := by omega
          have HRW := Lib.hid (hrw.out.congr (g := fun x => .int .i64 (fjAt l x).c) (fun x hx => by rw [DE.out x hx]))
          clear hrw HR2 RG RL RX DE hne
          go_wp2_with fail
          go_loopw [102] (fun u wq => ∃ k : Nat, u = .int .i64 k ∧ k ≤ l.length ∧ Below A w0 wq ∧ Hid (wq.rowIs A 3 l.length (fun x => .int .i64 (fjAt l x).c))) (fun u _ => l.length - (intOf u).toNat)
          case atStart => exact ⟨0, rfl, by omega, hbl, HRW.out⟩
          case round =>
            obtain ⟨k, rfl, hk, hbl, hrw⟩ := hrel
            clear HRW
            have hbs3 := hbl.size
            have hAl := hrw.out.lt
            by_cases hlt : k < l.length
            · have k0 : (0 : Int) ≤ (k : Int) := by omega
              have k1 : (k : Int) < (l.length : Int) := by omega
              obtain ⟨b, off, rfl, hbN, hcell⟩ := j2 (by intro e; simp [e] at hlt)
              obtain ⟨c0, c1, c2⟩ := hcell k _ (fjAt_get hlt)
              have c0 := keep_cellN hbl hbN c0
              have c1 := keep_cellN hbl hbN c1
              have c2 := keep_cellN hbl hbN c2
              have hbr : b < wr.heap.size := by omega
              have HRJ := Lib.hid (hrw.out.alloc (.cells #[.int .i64 (fjAt l k).r, .int .i64 (fjAt l k).d, .int .i64 (fjAt l k).c] 44))
              have bj := hbl.alloc (Nat.le_of_lt hAl) (.cells #[.int .i64 (fjAt l k).r, .int .i64 (fjAt l k).d, .int .i64 (fjAt l k).c] 44)
              have jcl := Go.Deep.blk_alloc_new wr (.cells #[.int .i64 (fjAt l k).r, .int .i64 (fjAt l k).d, .int .i64 (fjAt l k).c] 44)
              have hsj : wr.heap.size < (wr.alloc (.cells #[.int .i64 (fjAt l k).r, .int .i64 (fjAt l k).d, .int .i64 (fjAt l k).c] 44)).heap.size := by simp
              clear hcell hrw hbl
              go_upto_region 26 with fail
              have mc := HRJ.out.cell (i := k) hlt
              generalize wr.alloc (.cells #[.int .i64 (fjAt l k).r, .int .i64 (fjAt l k).d, .int .i64 (fjAt l k).c] 44) = wj at *
              obtain ⟨g0, g1, g2⟩ := blk3 jcl
              clear jcl c0 c1 c2
              have hq2 : ((fjAt l k).c != (fjAt l k).c) = false := by simp
              go_quiet (fail)
              have HRK := Lib.hid (HRJ.out.of_block (w' := wj.drewN nq) rfl)
              have bk := below_drewN bj nq
              generalize wj.drewN nq = wk at *
              go_wp2_with fail
              go_roundw
              case rel => exact ⟨k + 1, by go_num, by omega, bk, HRK.out⟩
              case measure => simp [intOf]; omega
            · obtain rfl : k = l.length := by omega
              go_wp2_with fail
              go_ret
              exact ⟨rfl, HB2.out.trans (hbl.mono (by omega))⟩
end Go.Proofs.Ytobjcdbbdgloiaa
