/- The walk over ResponseExact. Conditions: the arguments lie in memory. -/
import Derived.Test.YtkedcnemldjbeaaExactP
import Derived.Test.YtkedcnemldjbeaaSimWalk
import Derived.Test.YtkedcnemldjbeaaGreat
import Derived.Test.YtkedcnemldjbeaaLawAbove
import Derived.Test.YtkedcnemldjbeaaLawOrder43
namespace Go.Proofs.Ytkedcnemldjbeaa
open Go.RowKit

def rowQ (P at0 : Int) (k : Nat) : List Int := (List.range k).map fun x : Nat => at0 + x * P
theorem rowQ_succ (P at0 : Int) (k : Nat) : rowQ P at0 (k + 1) = rowQ P at0 k ++ [at0 + k * P] := by simp [rowQ, List.range_succ]
theorem rowQ_len (P at0 : Int) (k : Nat) : (rowQ P at0 k).length = k := by simp [rowQ]
def rowP' (R : Nat → List Int) (i : Nat) (D : List Int) : Nat → List Int := fun s => if s < i then R s else if s = i then D else []
theorem rowP'_set {R : Nat → List Int} {i : Nat} {D : List Int} {x : Int} : updI (rowP' R i D) i (rowP' R i D i ++ [x]) = rowP' R i (D ++ [x]) := by
  funext s
  unfold updI rowP'
  by_cases e : s = i
  · subst e; simp
  · simp [e]
theorem rowP'_next {R : Nat → List Int} {i : Nat} {D : List Int} (h : R i = D) : rowP' R i D = rowP' R (i + 1) [] := by
  funext s
  unfold rowP'
  by_cases e : s < i
  · rw [if_pos e, if_pos (by omega)]
  · by_cases e2 : s = i
    · subst e2; rw [if_neg e, if_pos rfl, if_pos (by omega), h]
    · rw [if_neg e, if_neg e2, if_neg (by omega)]; split <;> rfl
theorem rowP'_zero (R : Nat → List Int) : rowP' R 0 [] = fun _ => [] := by
  funext s; unfold rowP'; rw [if_neg (by omega)]; split <;> rfl
def maxDl (l : List CT) : Nat → Int
  | 0 => 0
  | k + 1 => max (maxDl l k) (ctAt l k).d
theorem maxDl_ge {l : List CT} {j : Nat} : ∀ {k : Nat}, j < k → (ctAt l j).d ≤ maxDl l k
  | 0, h => by omega
  | k + 1, h => by
    rw [maxDl]
    by_cases e : j = k
    · subst e; omega
    · have := maxDl_ge (l := l) (k := k) (j := j) (by omega); omega
theorem maxDl_bd {l : List CT} (h : ∀ t ∈ l, okT t = true) : ∀ {k : Nat}, k ≤ l.length → 0 ≤ maxDl l k ∧ maxDl l k ≤ 1000
  | 0, _ => ⟨Int.le_refl _, by show (0 : Int) ≤ 1000; decide⟩
  | k + 1, hk => by
    have h1 := maxDl_bd h (k := k) (by omega)
    have h2 := (okT_bd (h _ (ctAt_mem (show k < l.length by omega)))).1
    have h3 := h2.2.2.2.1
    have h4 := h2.2.2.2.2.1
    have h5 := h2.2.2.2.2.2.1
    rw [maxDl]; omega
theorem freeL_at {l : List CT} {i : Nat} (hi : i < l.length) : ctAt (freeL l) i = freeT (ctAt l i) := by
  unfold freeL
  have h : (l.map freeT)[i]? = some (freeT (ctAt l i)) := by rw [List.getElem?_map, ctAt_get hi]; rfl
  have h2 := ctAt_get (l := l.map freeT) (i := i) (by simpa using hi)
  rw [h] at h2
  exact (Option.some.inj h2).symm
theorem freeL_len (l : List CT) : (freeL l).length = l.length := by simp [freeL]
theorem freeL_free (l : List CT) : ∀ t ∈ freeL l, t.ss = [] := fun t ht => by
  obtain ⟨x, _, rfl⟩ := List.mem_map.1 ht
  rfl
theorem SI.low {N G S : Nat} {w w' : World} {tg : Nat → Nat} {V : Nat → Value} {R : Nat → List Int} (h : SI N G S w tg V R) (hb : ∀ g, N ≤ g → g < w.heap.size → w'.heap[g]? = w.heap[g]?) : SI N G S w' tg V R :=
  ⟨h.out.of_block (hb _ h.nG h.out.lt), fun s hs => (h.win s hs).of_block fun g hg => hb g (h.own s hs g hg).2 ((h.win s hs).blk_lt hg), h.own, h.tG, h.nG⟩
theorem SI.setLow {N G S : Nat} {w : World} {tg : Nat → Nat} {V : Nat → Value} {R : Nat → List Int} (h : SI N G S w tg V R) {p : Addr} (hp : p.block < N) (v : Value) : SI N G S (w.setCell p v) tg V R :=
  h.low fun g hg _ => Below.heap_setCell w p v g (by omega)
theorem SI.alloc {N G S : Nat} {w : World} {tg : Nat → Nat} {V : Nat → Value} {R : Nat → List Int} (h : SI N G S w tg V R) (o : Obj) : SI N G S (w.alloc o) tg V R :=
  h.same fun g hg => Below.heap_alloc _ _ _ hg

theorem tasks_low {w : World} {N N' M : Nat} {l : List CT} (h : TasksAt w N (some ⟨M, 0, none⟩) l) (hf : ∀ t ∈ l, t.ss = []) (hM : M < N') : TasksAt w N' (some ⟨M, 0, none⟩) l := fun hne => by
  obtain ⟨b, off, e, _, hc⟩ := h hne
  injection e with e
  injection e with e1 e2
  subst e1 e2
  refine ⟨M, 0, rfl, hM, fun i t hi => ?_⟩
  obtain ⟨c0, c1, c2, sa, sc, c3, h1, h2⟩ := hc i t hi
  exact ⟨c0, c1, c2, sa, sc, c3, h1, fun hs => absurd (hf t (List.mem_of_getElem? hi)) hs⟩

set_option maxRecDepth 100000 in
set_option maxHeartbeats 6400000 in
theorem law_exact (l : List CT) (a : Option Addr) (cap : Nat) (ti : Int) (w : World) (hl : l.length ≤ cap) (hcap : cap ≤ 9223372036854775807) (hc : TasksAt w w.heap.size a l) (t0 : 0 ≤ ti) (t1 : ti ≤ 255) :
    Calls Try.prog 17 #[.slice a l.length cap, .int .u8 ti] w fun e w' => e = .returned (.bool true) ∧ Below w.heap.size w w' := by
  obtain ⟨t, rfl⟩ := Int.eq_ofNat_of_zero_le t0
  have hlen : (l.length : Int) ≤ 9223372036854775807 := by omega
  go_enter Try.func17, Try.ntmps17
  go_wp2_with fail
  refine (awake_any _).mono ?_
  rintro e w1 ⟨rfl, hb1⟩
  have s1 := hb1.size
  go_wp2_with fail
  refine (great_any l a cap _ (by omega) (hc.on hb1 s1)).mono ?_
  rintro e w2 ⟨rfl, hb2⟩
  have b2 := hb1.trans (hb2.mono s1)
  have s2 := b2.size
  clear hb1 hb2
  cases hg : greatB l
  · by_cases h6 : l.length ≤ 6
    · have h6' : (l.length : Int) ≤ 6 := by omega
      have VA := Lib.hid (valid_any l a cap w2 (by omega) (hc.on b2 s2))
      clear hg
      cases hv : validL l
      · rw [hv] at VA
        clear hv
        go_wp2_with fail
        refine VA.out.mono ?_
        rintro e w3 ⟨rfl, hb3⟩
        go_wp2_with fail
        go_ret
        exact ⟨rfl, b2.trans (hb3.mono s2)⟩
      · rw [hv] at VA
        have HV := Lib.hid hv
        have HOK := Lib.hid (validL_bd hv).2
        clear hv
        go_wp2_with fail
        refine VA.out.mono ?_
        rintro e w3 ⟨rfl, hb3⟩
        have b3 := b2.trans (hb3.mono s2)
        have s3 := b3.size
        clear VA hb3 b2
        obtain ⟨i0, hi0, hz0, hz1, hz2⟩ := info_parts info_task
        have hmk1 := run_make (P := Try.prog) w3 22 30 i0 _ Try.underlying22 hi0 hz0 .i64 .i64 l.length l.length (by omega) (by omega) (by rw [hz2]; omega) (by omega)
        simp only [Int.toNat_natCast, hz1, Value.cells] at hmk1
        clear hi0 hz0 hz1 hz2
        go_upto_region 6 with fail
        clear hmk1
        have hrow : (w3.alloc (.cells (madeCells #[.int .i64 0, .int .i64 0, .int .i64 0, .slice none 0 0] (l.length * 4)) 30)).rowIs w3.heap.size 30 (l.length * 4) (frow l 0) := by
          have h := World.rowIs_alloc w3 (madeCells #[.int .i64 0, .int .i64 0, .int .i64 0, .slice none 0 0] (l.length * 4)) 30 (frow l 0) (fun i hi => by
            rw [size_madeCells] at hi
            have : i % 4 = 0 ∨ i % 4 = 1 ∨ i % 4 = 2 ∨ i % 4 = 3 := by omega
            rcases this with h | h | h | h <;> simp [madeCells, frow, hi, h])
          rw [size_madeCells] at h
          exact h
        have b4 : Below w.heap.size w (w3.alloc (.cells (madeCells #[.int .i64 0, .int .i64 0, .int .i64 0, .slice none 0 0] (l.length * 4)) 30)) := b3.alloc (by omega) _
        have s4 : w3.heap.size < (w3.alloc (.cells (madeCells #[.int .i64 0, .int .i64 0, .int .i64 0, .slice none 0 0] (l.length * 4)) 30)).heap.size := by simp
        have HROW := Lib.hid hrow
        clear hrow b3
        generalize w3.alloc (.cells (madeCells #[.int .i64 0, .int .i64 0, .int .i64 0, .slice none 0 0] (l.length * 4)) 30) = w4 at *
        generalize hM : w3.heap.size = M at *
        clear hM
        obtain ⟨j0, hj0, hz0, hz1, hz2⟩ := info_parts info_introw
        have hmk2 := run_make (P := Try.prog) w4 49 35 j0 _ Try.underlying49 hj0 hz0 .i64 .i64 l.length l.length (by omega) (by omega) (by rw [hz2]; omega) (by omega)
        simp only [Int.toNat_natCast, hz1, Value.cells, Nat.mul_one] at hmk2
        clear hj0 hz0 hz1 hz2
        go_upto_region 8 with fail
        clear hmk2
        have HSI := SI.made (N := w4.heap.size) w4 l.length (Nat.le_refl _)
        have HROW5 := Lib.hid (HROW.out.alloc (.cells (madeCells #[.slice none 0 0] l.length) 35))
        have b5 := b4.alloc b4.size (.cells (madeCells #[.slice none 0 0] l.length) 35)
        have HSI5 := Lib.hid HSI
        clear HSI HROW b4
        generalize w4.alloc (.cells (madeCells #[.slice none 0 0] l.length) 35) = w5 at *
        generalize hG : w4.heap.size = G at *
        have hMG : M < G := s4
        have hwM : w.heap.size ≤ M := s3
        clear hG s4 s3
        go_wp2_with fail
        go_loopw [43, 7] (fun u v wr => ∃ k : Nat, u = .int .i64 k ∧ v = .int .i64 (maxDl l k) ∧ k ≤ l.length ∧ Hid (wr.rowIs M 30 (l.length * 4) (frow l k)) ∧ Hid (SI G G l.length wr (fun _ => 0) (fun _ => .slice none 0 0) (fun _ => [])) ∧ Below w.heap.size w wr) (fun u _ _ => l.length - (intOf u).toNat)
        case atStart => exact ⟨0, rfl, rfl, by omega, HROW5.out, HSI5.out, b5⟩
        case round =>
          obtain ⟨k, rfl, rfl, hk, hrow, hsi, hbl⟩ := hrel
          have hbs := hbl.size
          have hMw := hrow.out.lt
          have hGw := hsi.out.out.lt
          clear HROW5 HSI5 b5
          obtain ⟨m0, m1⟩ := maxDl_bd HOK.out hk
          by_cases hlt : k < l.length
          · obtain ⟨b, off, rfl, hbN, hcell⟩ := hc (by intro e; simp [e] at hlt)
            obtain ⟨c0, c1, c2, sa, sc, c3, _, _⟩ := hcell k _ (ctAt_get hlt)
            have c0 := keep_cellN hbl hbN c0
            have c1 := keep_cellN hbl hbN c1
            have c2 := keep_cellN hbl hbN c2
            have c3 := keep_cellN hbl hbN c3
            have n0 := hrow.out.cell (i := k * 4) (by omega)
            have n1 := hrow.out.cell (i := k * 4 + 1) (by omega)
            have n2 := hrow.out.cell (i := k * 4 + 2) (by omega)
            have n3 := hrow.out.cell (i := k * 4 + 3) (by omega)
            have f0 := hrow.out.frozen (k * 4)
            have f1 := hrow.out.frozen (k * 4 + 1)
            have f2 := hrow.out.frozen (k * 4 + 2)
            have f3 := hrow.out.frozen (k * 4 + 3)
            have HSTEP := Lib.hid (fun (t : TypeId) (o : Obj) => show ((((((wr.setCell ⟨M, k * 4, none⟩ (.int .i64 (ctAt l k).c)).setCell ⟨M, k * 4 + 1, none⟩ (.int .i64 (ctAt l k).p)).setCell ⟨M, k * 4 + 2, none⟩ (.int .i64 (ctAt l k).d)).setCell ⟨M, k * 4 + 3, none⟩ (.slice none 0 0)).alloc o).rowIs M 30 (l.length * 4) (frow l (k + 1))) from
              (((((hrow.out.set (k * 4) _).set (k * 4 + 1) _).set (k * 4 + 2) _).set (k * 4 + 3) _).alloc _).congr (fun i _ => frow_step l k i))
            have HS2 := Lib.hid (fun (o : Obj) => ((((hsi.out.setLow (p := ⟨M, k * 4, none⟩) hMG (.int .i64 (ctAt l k).c)).setLow (p := ⟨M, k * 4 + 1, none⟩) hMG (.int .i64 (ctAt l k).p)).setLow (p := ⟨M, k * 4 + 2, none⟩) hMG (.int .i64 (ctAt l k).d)).setLow (p := ⟨M, k * 4 + 3, none⟩) hMG (.slice none 0 0)).alloc o)
            have HB2 := Lib.hid (fun (o : Obj) => show Below w.heap.size w (((((wr.setCell ⟨M, k * 4, none⟩ (.int .i64 (ctAt l k).c)).setCell ⟨M, k * 4 + 1, none⟩ (.int .i64 (ctAt l k).p)).setCell ⟨M, k * 4 + 2, none⟩ (.int .i64 (ctAt l k).d)).setCell ⟨M, k * 4 + 3, none⟩ (.slice none 0 0)).alloc o) from by
              have hq := (((hbl.setCell (p := ⟨M, k * 4, none⟩) hwM (.int .i64 (ctAt l k).c)).setCell (p := ⟨M, k * 4 + 1, none⟩) hwM (.int .i64 (ctAt l k).p)).setCell (p := ⟨M, k * 4 + 2, none⟩) hwM (.int .i64 (ctAt l k).d)).setCell (p := ⟨M, k * 4 + 3, none⟩) hwM (.slice none 0 0)
              exact hq.alloc hq.size _)
            have HMX := Lib.hid (show maxDl l (k + 1) = max (maxDl l k) (ctAt l k).d from rfl)
            generalize frow l k (k * 4) = z0 at *
            generalize frow l k (k * 4 + 1) = z1 at *
            generalize frow l k (k * 4 + 2) = z2 at *
            generalize frow l k (k * 4 + 3) = z3 at *
            have hlt' : (k : Int) < (l.length : Int) := by omega
            have hbw : b < wr.heap.size := by omega
            clear hcell hrow hsi hbl
            generalize ctAt l k = tt at *
            generalize maxDl l k = mx at *
            by_cases hmx : mx < tt.d
            · have HQ := Lib.hid (show max mx tt.d = tt.d by omega)
              go_wp2_with fail
              go_roundw
              case rel => exact ⟨k + 1, by go_num, by rw [HMX.out, HQ.out], by omega, HSTEP.out 0 _, HS2.out _, HB2.out _⟩
              case measure => simp [intOf]; omega
            · have HQ := Lib.hid (show max mx tt.d = mx by omega)
              go_wp2_with fail
              go_roundw
              case rel => exact ⟨k + 1, by go_num, by rw [HMX.out, HQ.out], by omega, HSTEP.out 0 _, HS2.out _, HB2.out _⟩
              case measure => simp [intOf]; omega
          · obtain rfl : k = l.length := by omega
            have HT := Lib.hid (tasks_low (N' := G) (frow_tasks hrow.out) (freeL_free l) hMG)
            have HU := Lib.hid (fun i (hi : i < l.length) => show (ctAt l i).d ≤ maxDl l l.length from maxDl_ge hi)
            generalize maxDl l l.length = U at *
            have hsi0 := hsi.out
            rw [← rowP'_zero (relX (freeL l) U t)] at hsi0
            have HSI := Lib.hid hsi0
            have hb6 := hbl
            clear hrow hsi hsi0 hbl
            generalize wr = w6 at *
            go_wp2_with fail
            go_loopw [60] (fun u wr => ∃ (i : Nat) (tg : Nat → Nat) (V : Nat → Value), u = .int .i64 i ∧ i ≤ l.length ∧ Hid (SI G G l.length wr tg V (rowP' (relX (freeL l) U t) i [])) ∧ Below G w6 wr) (fun u _ => l.length - (intOf u).toNat)
            case atStart => exact ⟨0, _, _, rfl, by omega, HSI.out, Below.refl _ _⟩
            case round =>
              obtain ⟨i, tg, V, rfl, hi, hsi, hbl⟩ := hrel
              clear HSI
              by_cases hil : i < l.length
              · have i0 : (0 : Int) ≤ (i : Int) := by omega
                have i1 : (i : Int) < (l.length : Int) := by omega
                have hilf : i < (freeL l).length := by rw [freeL_len]; exact hil
                have hGw := hsi.out.out.lt
                obtain ⟨Mb, Mo, e, hMb, hmc⟩ := HT.out (by intro e; rw [e] at hilf; simp at hilf)
                obtain ⟨rfl, rfl⟩ : M = Mb ∧ 0 = Mo := by injection e with e; injection e with e1 e2; exact ⟨e1, e2⟩
                obtain ⟨c0, c1, c2, sa, sc, c3, _, _⟩ := hmc i _ (ctAt_get hilf)
                have c0 := keep_cellN hbl hMG c0
                have c1 := keep_cellN hbl hMG c1
                have c2 := keep_cellN hbl hMG c2
                have c3 := keep_cellN hbl hMG c3
                rw [Nat.zero_add] at c0 c1 c2 c3
                have hMw : M < wr.heap.size := by omega
                have hvf := validL_free HV.out
                have htb := (okT_bd ((validL_bd hvf).2 _ (ctAt_mem hilf))).1
                have hp1 := htb.2.2.1
                have hp2 := htb.2.2.2.1
                have HRI := Lib.hid (show relX (freeL l) U t i = rowQ (ctAt (freeL l) i).p t (mX (ctAt (freeL l) i).p U) from rfl)
                clear hmc e htb hvf
                have HM := Lib.hid (hsi.out.mark (.cells #[.int .i64 (ctAt (freeL l) i).c, .int .i64 (ctAt (freeL l) i).p, .int .i64 (ctAt (freeL l) i).d, .slice sa (ctAt (freeL l) i).ss.length sc] 30))
                have jcl := Go.Deep.blk_alloc_new wr (.cells #[.int .i64 (ctAt (freeL l) i).c, .int .i64 (ctAt (freeL l) i).p, .int .i64 (ctAt (freeL l) i).d, .slice sa (ctAt (freeL l) i).ss.length sc] 30)
                have bj := hbl.alloc (Nat.le_of_lt hGw) (.cells #[.int .i64 (ctAt (freeL l) i).c, .int .i64 (ctAt (freeL l) i).p, .int .i64 (ctAt (freeL l) i).d, .slice sa (ctAt (freeL l) i).ss.length sc] 30)
                generalize ctAt (freeL l) i = tt at *
                clear hsi hbl
                go_upto_region 18 with fail
                clear c0 c1 c2 c3
                generalize wr.alloc (.cells #[.int .i64 tt.c, .int .i64 tt.p, .int .i64 tt.d, .slice sa tt.ss.length sc] 30) = wj at *
                have hGX0 : G < wr.heap.size := hGw
                generalize wr.heap.size = X at *
                obtain ⟨tg1, htg1⟩ : ∃ tg1 : Nat → Nat, tg1 = fun g => if g = X then l.length + 1 else tg g := ⟨_, rfl⟩
                have htX : tg1 X = l.length + 1 := by rw [htg1]; simp
                rw [← htg1] at HM
                clear htg1
                have HJC := Lib.hid jcl
                clear jcl
                go_wp2_with fail
                go_loopw [12] (fun u wr => ∃ (k : Nat) (x : Int) (tg : Nat → Nat) (V : Nat → Value), u = .int .i64 x ∧ Hid (x = t + k * tt.p) ∧ k ≤ mX tt.p U ∧ 0 ≤ x ∧ x ≤ 3000 ∧ Hid (SI G G l.length wr tg V (rowP' (relX (freeL l) U t) i (rowQ tt.p t k))) ∧ tg X = l.length + 1 ∧ Hid (wr.heap[X]? = some (.cells #[.int .i64 tt.c, .int .i64 tt.p, .int .i64 tt.d, .slice sa tt.ss.length sc] 30 (0, 0))) ∧ Below G w6 wr) (fun u _ => ((t : Int) + U - intOf u).toNat)
                case atStart => exact ⟨0, t, tg1, V, rfl, (by simp : (t : Int) = t + (0 : Nat) * tt.p), by omega, by omega, by omega, HM.out, htX, HJC.out, bj⟩
                case round =>
                  obtain ⟨k, x, tg2, V, rfl, hxe, hk, hx0, hx1, hsi, htX2, hjc, hbl⟩ := hrel
                  clear HM HJC bj htX
                  have hbs := hbl.size
                  have hXw : X < wr.heap.size := row_lt hjc.out
                  by_cases hgo : x < t + U
                  · have hkm : k < mX tt.p U := (mX_iff hp1).2 (by have := hxe.out; omega)
                    have gl := hsi.out.out.cell hil
                    have gf := hsi.out.out.frozen i
                    have hrl : rowP' (relX (freeL l) U t) i (rowQ tt.p t k) i = rowQ tt.p t k := by unfold rowP'; rw [if_neg (by omega), if_pos rfl]
                    have hmb : mX tt.p U ≤ 1000 := by
                      by_cases e : 1000 < mX tt.p U
                      · have h1 := (mX_iff hp1).1 e
                        have h2 : (1000 : Int) * 1 ≤ (1000 : Nat) * tt.p := Int.mul_le_mul_of_nonneg_left hp1 (by omega)
                        omega
                      · omega
                    obtain ⟨v', w', hrun, hb', hbG, hbX, tg', hsi', htg'⟩ := hsi.out.push hil x (by rw [hrl, rowQ_len]; omega)
                    have hform := (hsi'.win i hil).form0
                    simp only [updI, if_true] at hform
                    obtain ⟨va, vc, hve, _, _⟩ := hform
                    generalize (rowP' (relX (freeL l) U t) i (rowQ tt.p t k) i ++ [x]).length = vn at hve
                    subst hve
                    rw [rowP'_set, hxe.out, ← rowQ_succ] at hsi'
                    have HS' := Lib.hid hsi'
                    have gl' : w'.cell? ⟨G, i, none⟩ = some (V i) := (World.cell?_of_block (w := wr) (a := ⟨G, i, none⟩) hbG).trans gl
                    have gf' : w'.frozen? ⟨G, i, none⟩ = false := (World.frozen?_of_block (w := wr) (a := ⟨G, i, none⟩) hbG).trans gf
                    have hGw := hsi.out.out.lt
                    have hGX : X ≠ G := by omega
                    have HJ2 := Lib.hid ((Below.heap_setCell w' ⟨G, i, none⟩ (.slice va vn vc) X hGX).trans ((hbX X hXw htX2).trans hjc.out))
                    have htX' : tg' X = l.length + 1 := (htg' X hXw).trans htX2
                    have b' := (hbl.trans hb').setCell (p := ⟨G, i, none⟩) (Nat.le_refl _) (.slice va vn vc)
                    have sG' : G < w'.heap.size := by have := hb'.size; omega
                    have HXE := Lib.hid (show x + tt.p = t + ((k + 1 : Nat) : Int) * tt.p from by
                      rw [hxe.out, show ((k + 1 : Nat) : Int) = (k : Int) + 1 by omega, Int.add_mul]; omega)
                    clear hsi hsi' hb' hbl hbG hbX htg' hjc hrl htX2 hxe
                    generalize V i = vs at *
                    go_upto_region 20 with (at_builtin; refine wpList_append_by rfl (.tmp 82) (.tmp 84) 35 rfl vs (.slice (some ⟨wr.heap.size, 0, none⟩) 1 1) _ w' rfl rfl hrun ?_)
                    clear gl gf gl' gf' hrun hXw hGw
                    generalize w'.setCell ⟨G, i, none⟩ (.slice va vn vc) = w9 at *
                    have hXw : X < w9.heap.size := row_lt HJ2.out
                    have g1 := row_cell HJ2.out (j := 1) rfl
                    simp only [List.getElem_toArray, List.getElem_cons_succ, List.getElem_cons_zero] at g1
                    go_wp2_with fail
                    go_roundw
                    case rel => exact ⟨k + 1, x + tt.p, tg', _, rfl, HXE.out, by omega, by omega, by omega, HS'.out, htX', HJ2.out, b'⟩
                    case measure => simp [intOf]; omega
                  · have hkm : k = mX tt.p U := by
                      have h1 : ¬ k < mX tt.p U := fun h => by have := (mX_iff hp1).1 h; have := hxe.out; omega
                      omega
                    have HS' := hsi.out
                    rw [rowP'_next (show relX (freeL l) U t i = rowQ tt.p t k by rw [hkm]; exact HRI.out)] at HS'
                    have HS' := Lib.hid HS'
                    clear hsi hjc hxe hkm
                    go_wp2_with fail
                    go_roundw
                    case rel => exact ⟨i + 1, _, _, by go_num, by omega, HS'.out, hbl⟩
                    case measure => simp [intOf]; omega
              · obtain rfl : i = l.length := by omega
                have hn7 : rowsI l.length (rowP' (relX (freeL l) U t) l.length []) = relsX (freeL l) U t := by
                  unfold relsX
                  rw [freeL_len]
                  exact rowsI_congr fun s hs => by unfold rowP'; rw [if_pos hs]
                have HRW := hsi.out.rows
                rw [hn7] at HRW
                have hvf := validL_free HV.out
                have hfl := freeL_len l
                have hrl := relsX_len (freeL l) U t
                have b7 := hb6.trans (hbl.mono (by omega))
                have s7 := b7.size
                have hMw : M < wr.heap.size := by have := hbl.size; have := hb6.size; have := hsi.out.out.lt; omega
                have HT7 := Lib.hid (((HT.out.keep hbl).more (N' := wr.heap.size) (by have := hsi.out.out.lt; omega)))
                obtain ⟨K, hK⟩ := Int.eq_ofNat_of_zero_le (show 0 ≤ (t : Int) + U by omega)
                have hfit : ∀ r ∈ relsX (freeL l) U t, FitI r := fun r hr x hx => by
                  obtain ⟨i, hi, rfl⟩ := List.mem_map.1 hr
                  have hi : i < (freeL l).length := by simpa using hi
                  obtain ⟨z, hz⟩ := List.mem_iff_getElem?.1 hx
                  have hp := (okT_bd ((validL_bd hvf).2 _ (ctAt_mem hi))).1.2.2.1
                  obtain ⟨h1, h2⟩ := rowX_get hz
                  have h3 := (mX_iff hp).1 h1
                  have h4 : 0 ≤ (z : Int) * (ctAt (freeL l) i).p := Int.mul_nonneg (by omega) (by omega)
                  omega
                have SM := simulate_any (freeL l) (some ⟨M, 0, none⟩) l.length (relsX (freeL l) U t) (some ⟨G, 0, none⟩) l.length (t + U) wr (by omega) (by omega) hfit HT7.out HRW
                have hck : checkV (freeL l) (relsX (freeL l) U t) (t + U) = 0 := by
                  unfold checkV
                  rw [if_pos ⟨hvf, hrl⟩, if_neg (by omega), if_pos (relsX_rows hvf (by omega))]
                have HEX := Lib.hid (fun i (hi : i < l.length) (h : respE (freeL l) i = 0) => exact_plain hvf (freeL_free l) (u := U) (at0 := t) (by omega) (fun i hi => by rw [hfl] at hi; rw [freeL_at hi]; exact HU.out i hi) (by rw [hfl]; exact hi) h hK.symm)
                have RESP := fun (i : Nat) W (h : TasksAt W W.heap.size (some ⟨M, 0, none⟩) (freeL l)) => response_any (freeL l) (some ⟨M, 0, none⟩) l.length (i : Int) W (by omega) (by omega) h
                rw [hrl, hfl] at SM
                simp only [hfl] at RESP
                have SM := Lib.hid SM
                have RESP := Lib.hid RESP
                have HCK := Lib.hid hck
                have HRB := Lib.hid (fun i (hi : i < l.length) => respR_bd hvf (n := i) (by rw [hfl]; exact hi))
                have hKI : (K : Int) ≤ 2000 := by omega
                have hjl := (run_bd (envOf (freeL l) (relsX (freeL l) U t)) K).1
                have HJF := Lib.hid (fun k j h => job_facts (env_ok hvf hrl (relsX_rows hvf (by omega))) (un := K) (k := k) (j := j) h)
                have HKn := Lib.hid (show ((t : Int) + U).toNat = K by omega)
                clear hck hfit hvf hfl hrl hK HRW hn7 hsi hbl hb6 HT HU
                go_wp2_with fail
                refine SM.out.mono ?_
                rintro e w8 ⟨hb8, ⟨h, _⟩ | ⟨_, ja, jc, rfl, hj1, hj2, hj3⟩⟩
                · exact absurd HCK.out h
                · rw [HKn.out] at hj1 hj3 ⊢
                  have b8 := b7.trans (hb8.mono s7)
                  have s8 := b8.size
                  have HJ8 := Lib.hid hj3
                  have HT8 := Lib.hid (HT7.out.on hb8 hb8.size)
                  have HJF2 := Lib.hid (fun k (j : Jb) (h : (run (envOf (freeL l) (relsX (freeL l) U t)) K).en[k]? = some j) => show 0 ≤ j.rel ∧ j.rel ≤ j.en ∧ j.en ≤ 2000 from by
                    obtain ⟨_, _, f3, f4, f5, f6, f7, f8, _⟩ := HJF.out k j h
                    have hcst := (env_ok (validL_free HV.out) (relsX_len (freeL l) U t) (relsX_rows (validL_free HV.out) (by omega))).cost j.tk (HJF.out k j h).1
                    omega)
                  clear hj3 HKn SM HCK HJF b7 hb8 HT7
                  generalize (run (envOf (freeL l) (relsX (freeL l) U t)) K).en = js at *
                  have hjlI : (js.length : Int) ≤ 2000 := by omega
                  clear hKI hjl
                  go_wp2_with fail
                  go_loopw [102] (fun u wr => ∃ i : Nat, u = .int .i64 i ∧ i ≤ l.length ∧ Below w8.heap.size w8 wr) (fun u _ => l.length - (intOf u).toNat)
                  case atStart => exact ⟨0, rfl, by omega, Below.refl _ _⟩
                  case round =>
                    obtain ⟨i, rfl, hi, hbl⟩ := hrel
                    have hbs := hbl.size
                    by_cases hil : i < l.length
                    · have i0 : (0 : Int) ≤ (i : Int) := by omega
                      have i1 : (i : Int) < (l.length : Int) := by omega
                      have R9 := Lib.hid (RESP.out i wr (HT8.out.on hbl hbs))
                      have HEXi := Lib.hid (HEX.out i hil)
                      go_wp2_with fail
                      refine R9.out.mono ?_
                      rintro e w9 ⟨rfl, hb9⟩
                      have b9 := hbl.trans (hb9.mono hbs)
                      have s9 := b9.size
                      clear R9 hb9 hbl
                      by_cases h0 : respE (freeL l) (i : Int) = 0
                      · obtain ⟨x1, x2⟩ := HEXi.out h0
                        have HX1 := Lib.hid x1
                        have HX2 := Lib.hid x2
                        rw [h0]
                        clear HEXi h0 x1 x2
                        generalize respR (freeL l) (i : Int) = rr at *
                        go_wp2_with fail
                        go_loopw [115, 18] (fun u v wr => ∃ (k : Nat) (b : Bool), u = .int .i64 k ∧ v = .bool b ∧ k ≤ js.length ∧ Hid (b = true ↔ ∃ j ∈ js.take k, j.tk = i ∧ j.rel = t) ∧ Below w8.heap.size w8 wr) (fun u _ _ => js.length - (intOf u).toNat)
                        case atStart => exact ⟨0, false, rfl, rfl, by omega, ⟨fun h => (by cases h), fun h => (by simp at h)⟩, b9⟩
                        case round =>
                          obtain ⟨k, b, rfl, rfl, hk, hiff, hbl⟩ := hrel
                          have hbs := hbl.size
                          by_cases hkl : k < js.length
                          · have k0 : (0 : Int) ≤ (k : Int) := by omega
                            have k1 : (k : Int) < (js.length : Int) := by omega
                            have hget := List.getElem?_eq_getElem hkl
                            obtain ⟨jb, jo, rfl, hjN, hjc⟩ := HJ8.out (by intro e; rw [e] at hkl; simp at hkl)
                            obtain ⟨a0, a1, a2, a3, a4⟩ := hjc k _ hget
                            have a0 := keep_cellN hbl hjN a0
                            have a1 := keep_cellN hbl hjN a1
                            have a2 := keep_cellN hbl hjN a2
                            have a3 := keep_cellN hbl hjN a3
                            have a4 := keep_cellN hbl hjN a4
                            have hjw : jb < wr.heap.size := by omega
                            obtain ⟨f1, f2, f3⟩ := HJF2.out k _ hget
                            have HX := Lib.hid (fun (z1 : js[k].tk = i) (z2 : js[k].rel = t) => HX1.out js[k] (List.getElem_mem hkl) z1 z2)
                            have HTK := Lib.hid (show js.take (k + 1) = js.take k ++ [js[k]] from List.take_succ_eq_append_getElem hkl)
                            clear hjc
                            generalize js[k] = j at *
                            have bj := hbl.alloc hbs (.cells #[.int .i64 j.tk, .int .i64 j.rel, .int .i64 j.st, .int .i64 j.en, .int .i64 j.bl] 59)
                            have jcl := Go.Deep.blk_alloc_new wr (.cells #[.int .i64 j.tk, .int .i64 j.rel, .int .i64 j.st, .int .i64 j.en, .int .i64 j.bl] 59)
                            have hsj : wr.heap.size < (wr.alloc (.cells #[.int .i64 j.tk, .int .i64 j.rel, .int .i64 j.st, .int .i64 j.en, .int .i64 j.bl] 59)).heap.size := by simp
                            clear hbl hget
                            go_upto_region 35 with fail
                            clear a0 a1 a2 a3 a4
                            generalize wr.alloc (.cells #[.int .i64 j.tk, .int .i64 j.rel, .int .i64 j.st, .int .i64 j.en, .int .i64 j.bl] 59) = wj at *
                            have g0 := row_cell jcl (j := 0) rfl
                            have g1 := row_cell jcl (j := 1) rfl
                            have g3 := row_cell jcl (j := 3) rfl
                            simp only [List.getElem_toArray, List.getElem_cons_succ, List.getElem_cons_zero] at g0 g1 g3
                            clear jcl
                            by_cases h1 : j.tk = i
                            · have q1 : ((j.tk : Int) == (i : Int)) = true := by simp [h1]
                              have q1' : (j.tk == i) = true := by simp [h1]
                              by_cases h2 : j.rel = t
                              · have q2 : (j.rel == (t : Int)) = true := by simp [h2]
                                have hd := HX.out h1 h2
                                have q3 : (j.en - j.rel != rr) = false := by simp [hd]
                                have HI := Lib.hid (show true = true ↔ ∃ j' ∈ js.take (k + 1), j'.tk = i ∧ j'.rel = t from ⟨fun _ => ⟨j, by rw [HTK.out]; exact List.mem_append_right _ (List.mem_singleton_self _), h1, h2⟩, fun _ => rfl⟩)
                                clear HX HTK hiff h1 h2 hd
                                go_wp2_with fail
                                go_roundw
                                case rel => exact ⟨k + 1, true, by go_num, rfl, by omega, HI.out, bj⟩
                                case measure => simp [intOf]; omega
                              · have q2 : (j.rel == (t : Int)) = false := beq_eq_false_iff_ne.2 h2
                                have HI := Lib.hid (show b = true ↔ ∃ j' ∈ js.take (k + 1), j'.tk = i ∧ j'.rel = t from by
                                  rw [hiff.out, HTK.out]
                                  constructor
                                  · rintro ⟨j', hj', e1, e2⟩
                                    exact ⟨j', List.mem_append_left _ hj', e1, e2⟩
                                  · rintro ⟨j', hj', e1, e2⟩
                                    rcases List.mem_append.1 hj' with h | h
                                    · exact ⟨j', h, e1, e2⟩
                                    · rw [List.mem_singleton.1 h] at e2; exact absurd e2 h2)
                                clear HX HTK hiff h1 h2
                                go_wp2_with fail
                                go_roundw
                                case rel => exact ⟨k + 1, b, by go_num, rfl, by omega, HI.out, bj⟩
                                case measure => simp [intOf]; omega
                            · have q1 : ((j.tk : Int) == (i : Int)) = false := beq_eq_false_iff_ne.2 (by omega)
                              have q1' : (j.tk == i) = false := beq_eq_false_iff_ne.2 h1
                              have HI := Lib.hid (show b = true ↔ ∃ j' ∈ js.take (k + 1), j'.tk = i ∧ j'.rel = t from by
                                rw [hiff.out, HTK.out]
                                constructor
                                · rintro ⟨j', hj', e1, e2⟩
                                  exact ⟨j', List.mem_append_left _ hj', e1, e2⟩
                                · rintro ⟨j', hj', e1, e2⟩
                                  rcases List.mem_append.1 hj' with h | h
                                  · exact ⟨j', h, e1, e2⟩
                                  · rw [List.mem_singleton.1 h] at e1; exact absurd e1 h1)
                              clear HX HTK hiff h1
                              go_wp2_with fail
                              go_roundw
                              case rel => exact ⟨k + 1, b, by go_num, rfl, by omega, HI.out, bj⟩
                              case measure => simp [intOf]; omega
                          · obtain rfl : k = js.length := by omega
                            have hb : b = true := by
                              rw [List.take_length] at hiff
                              exact hiff.out.2 HX2.out
                            subst hb
                            clear hiff
                            go_wp2_with fail
                            go_roundw
                            case rel => exact ⟨i + 1, by go_num, by omega, hbl⟩
                            case measure => simp [intOf]; omega
                      · have q0 : (respE (freeL l) (i : Int) == 0) = false := beq_eq_false_iff_ne.2 h0
                        clear HEXi h0
                        generalize respR (freeL l) (i : Int) = rr at *
                        generalize respE (freeL l) (i : Int) = re at *
                        go_wp2_with fail
                        go_roundw
                        case rel => exact ⟨i + 1, by go_num, by omega, b9⟩
                        case measure => simp [intOf]; omega
                    · obtain rfl : i = l.length := by omega
                      go_wp2_with fail
                      go_ret
                      exact ⟨rfl, b8.trans (hbl.mono s8)⟩
    · have h6' : ¬ (l.length : Int) ≤ 6 := by omega
      go_wp2_with fail
      go_ret
      exact ⟨rfl, b2⟩
  · go_wp2_with fail
    go_ret
    exact ⟨rfl, b2⟩
end Go.Proofs.Ytkedcnemldjbeaa
