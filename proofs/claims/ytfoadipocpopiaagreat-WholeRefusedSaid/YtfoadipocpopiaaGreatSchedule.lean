/- The walk over flow.Schedule. Conditions: the jobs lie in memory. -/
import Derived.Test.YtfoadipocpopiaaGreatAssign
import Derived.Test.YtfoadipocpopiaaGreatSchedM
namespace Go.Proofs.YtfoadipocpopiaaGreat
open Go.RowKit Go.Deep

/-- Whether all jobs can get their slots. -/
def Can (l : List FJ) (cores : Int) : Prop := ∃ σ, Sched l (slotsN l) cores σ
theorem sat_can {l : List FJ} {cores val : Int} {r : Nat → Nat → Int} (h : Sat (netN l (slotsN l)) (netF l (slotsN l) cores) 0 (1 + l.length + slotsN l) val r) : val = totalC l ↔ Can l cores := by
  constructor
  · exact fun e => ⟨_, sched_of h.res e⟩
  · rintro ⟨σ, hσ⟩
    have h1 := net_le h.res
    have h2 := full_of hσ (h.cut (by unfold netN; omega) (by unfold netN; omega))
    omega
/-- There is no schedule, as a greatest flow shows. -/
def NoCan (l : List FJ) (cores : Int) : Prop := ¬ Can l cores ∧ ∃ val r, Sat (netN l (slotsN l)) (netF l (slotsN l) cores) 0 (1 + l.length + slotsN l) val r ∧ val ≠ totalC l
/-- Who runs in a slot. -/
def runs (l : List FJ) (σ : Nat → Nat → Bool) (s : Nat) : List Nat := pick (fun j => σ j s) l.length

def rowK (σ : Nat → Nat → Bool) (m s j : Nat) : Nat → List Nat := fun i => if i < s then pick (fun j => σ j i) m else if i = s then pick (fun j => σ j s) j else []
theorem rowK_zero (σ : Nat → Nat → Bool) (m : Nat) : rowK σ m 0 0 = fun _ => [] := by
  funext i
  unfold rowK
  split
  · omega
  · split <;> rfl
theorem rowK_yes {σ : Nat → Nat → Bool} {m s j : Nat} (h : σ j s = true) : updV (rowK σ m s j) s (rowK σ m s j s ++ [j]) = rowK σ m s (j + 1) := by
  funext i
  unfold updV rowK
  by_cases e : i = s
  · subst e
    simp only [if_true, Nat.lt_irrefl, if_false]
    rw [pick_yes (f := fun j => σ j i) h]
  · simp [e]
theorem rowK_no {σ : Nat → Nat → Bool} {m s j : Nat} (h : σ j s = false) : rowK σ m s j = rowK σ m s (j + 1) := by
  funext i
  unfold rowK
  rw [pick_no (f := fun j => σ j s) h]
theorem rowK_next (σ : Nat → Nat → Bool) (m s : Nat) : rowK σ m s m = rowK σ m (s + 1) 0 := by
  funext i
  unfold rowK
  by_cases e : i < s
  · rw [if_pos e, if_pos (by omega)]
  · by_cases e2 : i = s
    · subst e2
      rw [if_neg e, if_pos rfl, if_pos (by omega)]
    · rw [if_neg e, if_neg e2, if_neg (by omega)]
      split <;> rfl
theorem rowK_len (σ : Nat → Nat → Bool) (m s j i : Nat) : (rowK σ m s j i).length ≤ m + j := by
  unfold rowK
  split
  · have := pick_len (fun j => σ j i) m; omega
  · split
    · have := pick_len (fun j => σ j s) j; omega
    · simp
theorem rowsOf_congr {S : Nat} {R R' : Nat → List Nat} (h : ∀ s, s < S → R s = R' s) : rowsOf S R = rowsOf S R' := by
  unfold rowsOf
  exact List.map_congr_left fun s hs => by rw [h s (by simpa using hs)]

def SchedPost (l : List FJ) (cores : Int) (w : World) (e : Ending) (w' : World) : Prop :=
  Below w.heap.size w w' ∧ ((jobsOK l cores = false ∧ e = .returned (.tuple #[.slice none 0 0, .bool false, .int .i64 1])) ∨
    (jobsOK l cores = true ∧ NoCan l cores ∧ e = .returned (.tuple #[.slice none 0 0, .bool false, .int .i64 0])) ∨
    (jobsOK l cores = true ∧ ∃ σ G, Sched l (slotsN l) cores σ ∧ e = .returned (.tuple #[.slice (some ⟨G, 0, none⟩) (slotsN l) (slotsN l), .bool true, .int .i64 0]) ∧ RowsAt w' w'.heap.size (some ⟨G, 0, none⟩) (rowsOf (slotsN l) (runs l σ))))

set_option maxRecDepth 100000 in
set_option maxHeartbeats 6400000 in
theorem schedule_any (l : List FJ) (a : Option Addr) (cap : Nat) (cores : Int) (w : World) (hl : l.length ≤ 9223372036854775807) (hc : FJobsAt w w.heap.size a l) :
    Calls Tryz.prog 11 #[.slice a l.length cap, .int .i64 cores] w (SchedPost l cores w) := by
  have JV := Lib.hid (jvalid_any l a cap cores w hl hc)
  cases hv : jobsOK l cores
  · rw [hv] at JV
    have HV := Lib.hid hv
    clear hv
    go_enter Tryz.func11, Tryz.ntmps11
    go_wp2_with fail
    refine JV.out.mono ?_
    rintro e w1 ⟨rfl, hb1⟩
    go_wp2_with fail
    go_ret3
    exact ⟨hb1, .inl ⟨HV.out, rfl⟩⟩
  · rw [hv] at JV
    have HV := Lib.hid hv
    obtain ⟨hl1, co1, co4, hjob⟩ := jobsOK_bd hv
    have hS2 : slotsN l ≤ 200 := by have := maxD_bd hjob (Nat.le_refl l.length); unfold slotsN; omega
    have hlI : (l.length : Int) ≤ 100 := by omega
    clear hv hjob hl
    go_enter Tryz.func11, Tryz.ntmps11
    go_wp2_with fail
    refine JV.out.mono ?_
    rintro e w1 ⟨rfl, hb1⟩
    have s1 := hb1.size
    have AS := Lib.hid (assign_any l a cap cores w1 HV.out (hc.on hb1 s1))
    clear JV hc
    go_wp2_with fail
    refine AS.out.mono ?_
    rintro e w2 ⟨val, r, O, rfl, hb2, hm2, hsat⟩
    have b2 := hb1.trans (hb2.mono s1)
    have s2 := b2.size
    have HSAT := Lib.hid hsat
    have HNN := Lib.hid (show netN l (slotsN l) = 2 + l.length + slotsN l from rfl)
    clear AS hb1 hb2 hsat s1
    generalize hSS : slotsN l = S at *
    have HSS := Lib.hid hSS
    generalize hnn : netN l S = n at *
    have Hnn := Lib.hid hnn
    clear hSS hnn
    have nI : (n : Int) ≤ 302 := by have := HNN.out; omega
    have A3 : AVar (w2.alloc (.cells #[.int .i64 l.length, .int .i64 S, .bool (val == totalC l), .slice (some ⟨O, 0, none⟩) n n] 61)) w2.heap.size (.int .i64 l.length) (.int .i64 S) (.bool (val == totalC l)) (.slice (some ⟨O, 0, none⟩) n n) := blk_at rfl
    have b3 := b2.alloc s2 (.cells #[.int .i64 l.length, .int .i64 S, .bool (val == totalC l), .slice (some ⟨O, 0, none⟩) n n] 61)
    have m3 := (hm2.keep ((Below.refl w2.heap.size w2).alloc (Nat.le_refl _) (.cells #[.int .i64 l.length, .int .i64 S, .bool (val == totalC l), .slice (some ⟨O, 0, none⟩) n n] 61)))
    by_cases hval : val = totalC l
    · have HVAL := Lib.hid hval
      have q1 : (val == totalC l) = true := beq_iff_eq.2 hval
      rw [q1] at A3 b3 m3
      clear hval
      go_upto_region 4 with fail
      have m3b := m3.more (N' := (w2.alloc (.cells #[.int .i64 l.length, .int .i64 S, .bool true, .slice (some ⟨O, 0, none⟩) n n] 61)).heap.size) (by simp)
      have s3 : w2.heap.size < (w2.alloc (.cells #[.int .i64 l.length, .int .i64 S, .bool true, .slice (some ⟨O, 0, none⟩) n n] 61)).heap.size := by simp
      generalize w2.alloc (.cells #[.int .i64 l.length, .int .i64 S, .bool true, .slice (some ⟨O, 0, none⟩) n n] 61) = w3 at *
      generalize w2.heap.size = A at *
      obtain ⟨a0, a1, a2, a3⟩ := A3.cells
      have HM3 := Lib.hid m3b
      have HA3 := Lib.hid A3
      have HB3 := Lib.hid b3
      have SI : (S : Int) ≤ 200 := by omega
      clear m3 m3b A3 b3 hm2 b2
      obtain ⟨i0, hi0, hz0, hz1, hz2⟩ := info_parts info_rw
      have hmkO := run_make (P := Tryz.prog) w3 30 42 i0 _ Tryz.underlying30 hi0 hz0 .i64 .i64 S S (by omega) (by omega) (by rw [hz2]; omega) (by omega)
      simp only [Int.toNat_natCast, hz1, Value.cells, Nat.mul_one] at hmkO
      clear hi0 hz0 hz1 hz2
      go_upto_region 7 with fail
      clear hmkO a0 a1 a2 a3
      have HSW := SW.made (N := w3.heap.size) w3 S (Nat.le_refl _)
      have bG : Below w3.heap.size w3 (w3.alloc (.cells (madeCells #[.slice none 0 0] S) 42)) := (Below.refl _ _).alloc (Nat.le_refl _) _
      generalize w3.alloc (.cells (madeCells #[.slice none 0 0] S) 42) = w4 at *
      generalize hG : w3.heap.size = G at *
      have HG := Lib.hid hG
      clear hG
      obtain ⟨σ, hσ⟩ : ∃ σ : Nat → Nat → Bool, σ = fun j s => decide (0 < r (1 + l.length + s) (1 + j)) := ⟨_, rfl⟩
      have HSIG := Lib.hid hσ
      have HSIG2 := Lib.hid (fun j s => show σ j s = decide (0 < r (1 + l.length + s) (1 + j)) by rw [hσ])
      rw [← rowK_zero σ l.length] at HSW
      have HSW := Lib.hid HSW
      clear hσ
      go_wp2_with fail
      go_loopw [26] (fun u wr => ∃ (s : Nat) (tg : Nat → Nat) (V : Nat → Value), u = .int .i64 s ∧ s ≤ S ∧ Hid (SW G G S wr tg V (rowK σ l.length s 0)) ∧ Below G w3 wr) (fun u _ => S - (intOf u).toNat)
      case atStart => exact ⟨0, _, _, rfl, by omega, HSW.out, bG⟩
      case round =>
        obtain ⟨s, tg, V, rfl, hs, hsw, hbl⟩ := hrel
        clear HSW bG
        by_cases hlt : s < S
        · have s0 : (0 : Int) ≤ (s : Int) := by omega
          have s1' : (s : Int) < (S : Int) := by omega
          go_wp2_with fail
          go_loopw [31] (fun u wr => ∃ (j : Nat) (tg : Nat → Nat) (V : Nat → Value), u = .int .i64 j ∧ j ≤ l.length ∧ Hid (SW G G S wr tg V (rowK σ l.length s j)) ∧ Below G w3 wr) (fun u _ => l.length - (intOf u).toNat)
          case atStart => exact ⟨0, tg, V, rfl, by omega, hsw.out, hbl⟩
          case round =>
            obtain ⟨j, tg, V, rfl, hj, hsw, hbl⟩ := hrel
            by_cases hjl : j < l.length
            · have j0 : (0 : Int) ≤ (j : Int) := by omega
              have j1 : (j : Int) < (l.length : Int) := by omega
              have hnv := HNN.out
              have n1 : 1 + l.length + s < n := by omega
              have n2 : 1 + j < n := by omega
              obtain ⟨hOl, hmr⟩ := HM3.out
              obtain ⟨rb, rf, rc, c0, c1, c2, c3, c4⟩ := hmr _ n1
              rw [Nat.zero_add] at c0
              have c0 := keep_cellN hbl hOl c0
              have x0 := keep_cellN hbl c3 (c4 _ n2)
              have HA := Lib.hid (HA3.out.of_block (hbl.block A s3))
              obtain ⟨a0, a1, a2, a3⟩ := HA.out.cells
              have al := HA.out.lt
              have hGw := hsw.out.out.lt
              have hOw : O < wr.heap.size := by omega
              have hrw : rb < wr.heap.size := by omega
              have v7 : (0 : Int) ≤ 1 + (l.length : Int) + (s : Int) := by omega
              have v8 : (1 : Int) + (l.length : Int) + (s : Int) < (n : Int) := by omega
              have v9 : ((1 : Int) + (l.length : Int) + (s : Int)).toNat = 1 + l.length + s := by omega
              have v4 : ((1 : Int) + (j : Int)).toNat = 1 + j := by omega
              have v5 : (0 : Int) ≤ 1 + (j : Int) := by omega
              have v6 : (1 : Int) + (j : Int) < (n : Int) := by omega
              have hsj := HSIG2.out j s
              clear c4 hmr hnv
              generalize r (1 + l.length + s) (1 + j) = x at *
              by_cases hx : 0 < x
              · have HX := Lib.hid (show σ j s = true by rw [hsj]; exact decide_eq_true hx)
                clear hsj
                go_upto_region 14 with fail
                have gl := hsw.out.out.cell hlt
                have gf := hsw.out.out.frozen s
                obtain ⟨v', w', hrun, hb', hbG, tg', hsw'⟩ := hsw.out.push hlt j (by have := rowK_len σ l.length s j s; omega)
                have hform := (hsw'.win s hlt).form0
                simp only [updV, if_true] at hform
                obtain ⟨va, vc, hve, _, _⟩ := hform
                generalize (rowK σ l.length s j s ++ [j]).length = vn at hve
                subst hve
                rw [rowK_yes HX.out] at hsw'
                have HS' := Lib.hid hsw'
                have gl' : w'.cell? ⟨G, s, none⟩ = some (V s) := (World.cell?_of_block (w := wr) (a := ⟨G, s, none⟩) hbG).trans gl
                have gf' : w'.frozen? ⟨G, s, none⟩ = false := (World.frozen?_of_block (w := wr) (a := ⟨G, s, none⟩) hbG).trans gf
                have b' := (hbl.trans hb').setCell (p := ⟨G, s, none⟩) (Nat.le_refl _) (.slice va vn vc)
                have sG' : G < w'.heap.size := by have := hb'.size; omega
                clear hsw hsw' hb' hbl hbG v7 v8 v9 v4 v5 v6 x0 c0
                generalize V s = vs at *
                go_wp2_with (at_builtin; refine wpList_append_by rfl (.tmp 53) (.tmp 55) 42 rfl vs (.slice (some ⟨wr.heap.size, 0, none⟩) 1 1) _ w' rfl rfl hrun ?_)
                go_roundw
                case rel => exact ⟨j + 1, _, _, by go_num, by omega, HS'.out, b'⟩
                case measure => simp [intOf]; omega
              · have HX := Lib.hid (show σ j s = false by rw [hsj]; exact decide_eq_false hx)
                have HS' := hsw.out
                rw [rowK_no HX.out] at HS'
                have HS' := Lib.hid HS'
                clear hsj hsw
                go_wp2_with fail
                go_roundw
                case rel => exact ⟨j + 1, _, _, by go_num, by omega, HS'.out, hbl⟩
                case measure => simp [intOf]; omega
            · obtain rfl : j = l.length := by omega
              have HS' := hsw.out
              rw [rowK_next] at HS'
              have HS' := Lib.hid HS'
              clear hsw
              go_wp2_with fail
              go_roundw
              case rel => exact ⟨s + 1, _, _, by go_num, by omega, HS'.out, hbl⟩
              case measure => simp [intOf]; omega
        · obtain rfl : s = S := by omega
          have HROW := Lib.hid hsw.out.rows
          have HSC := Lib.hid (sched_of (l := l) (S := s) (cores := cores) (r := r) (val := val) (by have h := HSAT.out.res; rw [← Hnn.out] at h; exact h) HVAL.out)
          clear hsw
          go_wp2_with fail
          go_ret3
          refine ⟨HB3.out.trans (hbl.mono (by have := HG.out; have := HB3.out.size; omega)), .inr (.inr ⟨HV.out, σ, G, ?_, ?_, ?_⟩)⟩
          · rw [HSS.out, HSIG.out]; exact HSC.out
          · rw [HSS.out]; rfl
          · rw [HSS.out]
            have e : rowsOf s (runs l σ) = rowsOf s (rowK σ l.length s 0) := rowsOf_congr fun i hi => by unfold rowK; rw [if_pos hi]; rfl
            rw [e]; exact HROW.out
    · have HCAN := Lib.hid (show NoCan l cores from ⟨fun h => hval ((sat_can (by rw [HSS.out, Hnn.out]; exact HSAT.out)).2 h), val, r, by rw [HSS.out, Hnn.out]; exact HSAT.out, hval⟩)
      have q1 : (val == totalC l) = false := beq_eq_false_iff_ne.2 hval
      rw [q1] at A3 b3 m3
      clear hval
      go_upto_region 4 with fail
      generalize w2.alloc (.cells #[.int .i64 l.length, .int .i64 S, .bool false, .slice (some ⟨O, 0, none⟩) n n] 61) = w3 at *
      obtain ⟨a0, a1, a2, a3⟩ := A3.cells
      go_wp2_with fail
      go_ret3
      exact ⟨b3, .inr (.inl ⟨HV.out, HCAN.out, rfl⟩)⟩
end Go.Proofs.YtfoadipocpopiaaGreat
