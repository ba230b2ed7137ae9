/- The walk over flow.Jobs. Conditions: the tasks and rows of small numbers lie in memory. -/
import Derived.Test.YtfoadipocpopiaaGreatM01
import Derived.Test.YtfoadipocpopiaaGreatM49
namespace Go.Proofs.YtfoadipocpopiaaGreat
open Go.RowKit Go.Deep

/-- The jobs of the first k releases of a task. -/
def jobRow (t : TT) (un : Int) (r : List Int) (k : Nat) : List FJ := ((r.take k).filter fun x => decide (x + t.p ≤ un)).map fun x => ⟨x, x + t.p, t.c⟩
def jobsTo (l : List TT) (rs : List (List Int)) (un : Int) (i : Nat) : List FJ := (List.range i).flatMap fun i => jobRow (ttAt l i) un (rwAt rs i) (rwAt rs i).length
theorem jobRow_zero (t : TT) (un : Int) (r : List Int) : jobRow t un r 0 = [] := rfl
theorem jobRow_yes {t : TT} {un : Int} {r : List Int} {k : Nat} (hk : k < r.length) (h : r.getD k 0 + t.p ≤ un) : jobRow t un r (k + 1) = jobRow t un r k ++ [⟨r.getD k 0, r.getD k 0 + t.p, t.c⟩] := by
  have hg : r.getD k 0 = r[k] := by rw [List.getD_eq_getElem?_getD, List.getElem?_eq_getElem hk]; rfl
  rw [hg] at h ⊢
  unfold jobRow
  rw [List.take_succ_eq_append_getElem hk, List.filter_append, List.map_append]
  simp [h]
theorem jobRow_no {t : TT} {un : Int} {r : List Int} {k : Nat} (hk : k < r.length) (h : ¬ r.getD k 0 + t.p ≤ un) : jobRow t un r (k + 1) = jobRow t un r k := by
  have hg : r.getD k 0 = r[k] := by rw [List.getD_eq_getElem?_getD, List.getElem?_eq_getElem hk]; rfl
  rw [hg] at h
  unfold jobRow
  rw [List.take_succ_eq_append_getElem hk, List.filter_append, List.map_append]
  simp [h]
theorem jobRow_len (t : TT) (un : Int) (r : List Int) (k : Nat) : (jobRow t un r k).length ≤ r.length := by
  unfold jobRow
  rw [List.length_map]
  have h1 := List.length_filter_le (fun x => decide (x + t.p ≤ un)) (r.take k)
  have h2 : (r.take k).length ≤ r.length := by simp; omega
  omega
theorem jobsTo_succ (l : List TT) (rs : List (List Int)) (un : Int) (i : Nat) : jobsTo l rs un (i + 1) = jobsTo l rs un i ++ jobRow (ttAt l i) un (rwAt rs i) (rwAt rs i).length := by
  simp [jobsTo, List.range_succ]
theorem jobsTo_len {l : List TT} {rs : List (List Int)} {un : Int} (h : ∀ r ∈ rs, r.length ≤ 1000) : ∀ {i : Nat}, i ≤ rs.length → (jobsTo l rs un i).length ≤ 1000 * i
  | 0, _ => by simp [jobsTo]
  | i + 1, hi => by
    rw [jobsTo_succ, List.length_append]
    have h1 := jobsTo_len (l := l) (un := un) h (i := i) (by omega)
    have h2 := jobRow_len (ttAt l i) un (rwAt rs i) (rwAt rs i).length
    have h3 := h _ (rwAt_mem (rs := rs) (i := i) (by omega))
    omega
/-- A slice of jobs that the call builds. -/
def FJW (N : Nat) (w : World) (v : Value) (js : List FJ) : Prop := Win w 58 3 v js.length (js.flatMap encJ) ∧ ∀ g, v.ownBlock = some g → N ≤ g
theorem FJW.nil (N : Nat) (w : World) : FJW N w (.slice none 0 0) [] := ⟨Win.nil _ _ _, fun g h => by simp [Value.ownBlock] at h⟩
theorem FJW.below {N : Nat} {w w' : World} {v : Value} {js : List FJ} (h : FJW N w v js) (hb : Below w.heap.size w w') : FJW N w' v js := ⟨h.1.below hb fun _ hg => h.1.blk_lt hg, h.2⟩
theorem FJW.jobs {N : Nat} {w : World} {v : Value} {l : List FJ} (h : FJW N w v l) : ∃ a c, v = .slice a l.length c ∧ l.length ≤ c ∧ c ≤ 9223372036854775807 ∧ FJobsAt w w.heap.size a l := by
  obtain ⟨a, c, e, h1, h2⟩ := h.1.form0
  refine ⟨a, c, e, h1, h2, fun hne => ?_⟩
  obtain ⟨g, o, cap, e2, hlt, _⟩ := h.1.form (List.length_pos_iff.2 hne)
  have hw := h.1
  rw [e2] at e hw
  simp only [Value.slice.injEq] at e
  obtain ⟨rfl, _⟩ := e
  exact hw.jobs hlt hne
theorem FJW.push {N : Nat} {w : World} {v : Value} {js : List FJ} (h : FJW N w v js) (hN : N ≤ w.heap.size) (j : FJ) (hm : js.length ≤ 1000000) :
    ∃ v' w', (Builtin.append_ #[32, 32] 32 #[v, .slice (some ⟨w.heap.size, 0, none⟩) 1 1]).run Tryz.prog (w.alloc (.cells #[.int .i64 j.r, .int .i64 j.d, .int .i64 j.c] 58)) = .ok v' w' ∧
      FJW N w' v' (js ++ [j]) ∧ Below N w w' ∧ (∀ g, v'.ownBlock = some g → v.ownBlock = some g ∨ w.heap.size ≤ g) ∧ ∀ g, g < w.heap.size → v.ownBlock ≠ some g → w'.heap[g]? = w.heap[g]? := by
  obtain ⟨hw, hv⟩ := h
  obtain ⟨g, o, c, w', hr, hw', hg, hl, hlt⟩ := Win.push (P := Tryz.prog) (t := 32) (ty := 32) Tryz.underlying32 info_fj (by simp [Value.cells]) (by decide)
    (hw.alloc (.cells #[.int .i64 j.r, .int .i64 j.d, .int .i64 j.c] 58)) ⟨w.heap.size, 0, none⟩ 1 (encJ j) rfl (fun k u hk => World.news_of_block (Go.Deep.blk_alloc_new _ _) k u hk) (fun u hu => by
      simp only [encJ, List.mem_cons, List.not_mem_nil, or_false] at hu
      rcases hu with rfl | rfl | rfl <;> rfl) (by omega) (by omega)
  refine ⟨_, w', hr, ⟨by simpa using hw', fun k hk => ?_⟩, ((Below.refl N w).alloc hN _).grown hg (by simp; omega) fun k hk => hv k hk, fun k hk => ?_, fun k hk hne => ?_⟩
  · simp only [Value.ownBlock, Option.some.injEq] at hk
    subst hk
    rcases hl with hl | hl
    · exact hv _ hl
    · rw [hl]; simp; omega
  · simp only [Value.ownBlock, Option.some.injEq] at hk
    subst hk
    rcases hl with hl | hl
    · exact .inl hl
    · exact .inr (by rw [hl]; simp)
  · rw [hg.block k (by simp; omega) (fun e => hne e.symm)]
    exact Below.heap_alloc _ _ _ hk

def small40 (rs : List (List Int)) : Prop := ∀ r ∈ rs, r.length ≤ 1000 ∧ ∀ x ∈ r, -1099511627776 ≤ x ∧ x ≤ 1099511627776

set_option maxRecDepth 100000 in
set_option maxHeartbeats 6400000 in
theorem jobs_any (l : List TT) (a : Option Addr) (cap : Nat) (rs : List (List Int)) (ra : Option Addr) (rcap : Nat) (un : Int) (w : World) (hl : l.length ≤ 9223372036854775807) (hrl : rs.length ≤ 9223372036854775807) (hsm : tsOK l = true → rs.length = l.length → small40 rs)
    (hc : TSAt w w.heap.size a l) (hr : RowsAt w w.heap.size ra rs) :
    Calls Tryz.prog 10 #[.slice a l.length cap, .slice ra rs.length rcap, .int .i64 un] w fun e w' => ∃ ja jc, e = .returned (.slice ja (if tsOK l = true ∧ rs.length = l.length then jobsTo l rs un l.length else []).length jc) ∧ (if tsOK l = true ∧ rs.length = l.length then jobsTo l rs un l.length else []).length ≤ jc ∧ jc ≤ 9223372036854775807 ∧
      FJobsAt w' w'.heap.size ja (if tsOK l = true ∧ rs.length = l.length then jobsTo l rs un l.length else []) ∧ Below w.heap.size w w' := by
  have hlI : (l.length : Int) ≤ 9223372036854775807 := by omega
  have hrI : (rs.length : Int) ≤ 9223372036854775807 := by omega
  have TV := Lib.hid (tvalid_any l a cap w hl hc)
  by_cases hok : tsOK l = true ∧ rs.length = l.length
  · obtain ⟨hv, hn⟩ := hok
    have HSM := Lib.hid (hsm hv hn)
    have HE := Lib.hid (show (if tsOK l = true ∧ rs.length = l.length then jobsTo l rs un l.length else []) = jobsTo l rs un l.length from if_pos ⟨hv, hn⟩)
    rw [HE.out]
    obtain ⟨h40, hjob⟩ := tsOK_bd hv
    have HOK := Lib.hid hjob
    have HN := Lib.hid hn
    have hl40 : (l.length : Int) ≤ 40 := by omega
    have hq : ((rs.length : Int) != (l.length : Int)) = false := by simp [hn]
    have hq2 : ((rs.length : Int) == (l.length : Int)) = true := by simp [hn]
    rw [hv] at TV
    clear hsm hv hjob hn
    have HLEN := Lib.hid (fun i (hi : i ≤ l.length) => jobsTo_len (l := l) (un := un) (fun r hr => (HSM.out r hr).1) (i := i) (by rw [HN.out]; exact hi))
    go_enter Tryz.func10, Tryz.ntmps10
    go_wp2_with fail
    refine TV.out.mono ?_
    rintro e w1 ⟨rfl, hb1⟩
    go_wp2_with fail
    clear hq hq2
    go_loopw [25, 7] (fun u v wr => ∃ i : Nat, u = .int .i64 i ∧ i ≤ l.length ∧ Hid (FJW w.heap.size wr v (jobsTo l rs un i)) ∧ Below w.heap.size w wr) (fun u _ _ => l.length - (intOf u).toNat)
    case atStart => exact ⟨0, rfl, by omega, FJW.nil _ _, hb1⟩
    case round =>
      obtain ⟨i, rfl, hi, hfw, hbl⟩ := hrel
      have hbs := hbl.size
      clear hb1 TV
      by_cases hlt : i < l.length
      · have i0 : (0 : Int) ≤ (i : Int) := by omega
        have i1 : (i : Int) < (l.length : Int) := by omega
        have i3 : i < rs.length := by rw [HN.out]; exact hlt
        have i4 : (i : Int) < (rs.length : Int) := by omega
        obtain ⟨b, off, rfl, hbN, hcell⟩ := hc (by intro e; simp [e] at hlt)
        obtain ⟨c0, c1, c2⟩ := hcell i _ (ttAt_get hlt)
        have c0 := keep_cellN hbl hbN c0
        have c1 := keep_cellN hbl hbN c1
        have c2 := keep_cellN hbl hbN c2
        have hbr : b < wr.heap.size := by omega
        obtain ⟨rb, ro, rfl, hrN, hrc⟩ := hr (by intro e; rw [e] at i3; simp at i3)
        obtain ⟨xa, xc, r0, r1, r2, r3⟩ := hrc i _ (rwAt_get i3)
        have HR3 := Lib.hid r3
        obtain ⟨o1, o2, o3⟩ := HOK.out i hlt
        obtain ⟨m1, m2⟩ := HSM.out _ (rwAt_mem i3)
        have HM2 := Lib.hid m2
        have HSU := Lib.hid (jobsTo_succ l rs un i)
        have hjl := HLEN.out i hi
        clear hcell hrc r3 m2
        generalize rwAt rs i = r at *
        generalize jobsTo l rs un i = J at *
        generalize ttAt l i = t at *
        have bj := hbl.alloc hbs (.cells #[.string t.nm, .int .i64 t.c, .int .i64 t.p] 41)
        have jcl := Go.Deep.blk_alloc_new wr (.cells #[.string t.nm, .int .i64 t.c, .int .i64 t.p] 41)
        have hsj : wr.heap.size < (wr.alloc (.cells #[.string t.nm, .int .i64 t.c, .int .i64 t.p] 41)).heap.size := by simp
        have HNX := Lib.hid (fun g (hg : u7.ownBlock = some g) => show g ≠ wr.heap.size from by have := hfw.out.1.blk_lt hg; omega)
        have HF := Lib.hid (hfw.out.below ((Below.refl _ _).alloc (Nat.le_refl _) (.cells #[.string t.nm, .int .i64 t.c, .int .i64 t.p] 41)))
        clear hfw hbl
        go_upto_region 7 with fail
        clear c0 c1 c2
        generalize wr.alloc (.cells #[.string t.nm, .int .i64 t.c, .int .i64 t.p] 41) = wj at *
        have hX : w.heap.size ≤ wr.heap.size := hbs
        generalize wr.heap.size = X at *
        have HJC := Lib.hid jcl
        have r0 := keep_cellN bj hrN r0
        have hrw : rb < wj.heap.size := by omega
        have hmI : (r.length : Int) ≤ 1000 := by omega
        have bB : Below wj.heap.size wj wj := Below.refl _ _
        go_wp2_with fail
        clear jcl
        go_loopw [35, 7] (fun u v wr => ∃ k : Nat, u = .int .i64 k ∧ k ≤ r.length ∧ Hid (FJW w.heap.size wr v (J ++ jobRow t un r k)) ∧ Below w.heap.size w wr ∧ Hid (wr.heap[X]? = some (.cells #[.string t.nm, .int .i64 t.c, .int .i64 t.p] 41 (0, 0))) ∧ Hid (∀ g, v.ownBlock = some g → g ≠ X)) (fun u _ _ => r.length - (intOf u).toNat)
        case atStart => exact ⟨0, rfl, by omega, by rw [jobRow_zero, List.append_nil]; exact HF.out, bj, HJC.out, HNX.out⟩
        case round =>
          obtain ⟨k, rfl, hk, hfw, hbl, hjc, hnx⟩ := hrel
          have hbs := hbl.size
          clear HF HJC bj bB HNX hsj
          have hXw : X < wr.heap.size := (Array.getElem?_eq_some_iff.1 hjc.out).1
          obtain ⟨g0, g1, g2⟩ := blkT hjc.out
          by_cases hkl : k < r.length
          · have k0 : (0 : Int) ≤ (k : Int) := by omega
            have k1 : (k : Int) < (r.length : Int) := by omega
            obtain ⟨xb, xo, rfl, hxN, hxc⟩ := HR3.out (by intro e; rw [e] at hkl; simp at hkl)
            have x0 := keep_cellN hbl hxN (hxc k _ (getD_get hkl))
            have hxw : xb < wr.heap.size := by omega
            obtain ⟨y1, y2⟩ := HM2.out (r.getD k 0) (List.mem_of_getElem? (getD_get hkl))
            have HY := Lib.hid (fun h => jobRow_yes (t := t) (un := un) hkl h)
            have HNo := Lib.hid (fun h => jobRow_no (t := t) (un := un) hkl h)
            have hjr := jobRow_len t un r k
            clear hxc
            generalize r.getD k 0 = x at *
            have wp : IntKind.i64.wrap (x + t.p) = x + t.p := IntWalk.i64_in _ (by omega)
            have hgt : x < x + t.p := by omega
            have hgt2 : 0 < t.p := by omega
            by_cases hd : x + t.p ≤ un
            · have HS := Lib.hid (HY.out hd)
              obtain ⟨v', w', hrun, hfw', hb', hown, hold⟩ := hfw.out.push hbs ⟨x, x + t.p, t.c⟩ (by rw [List.length_append]; omega)
              simp only at hrun
              have HF2 := Lib.hid hfw'
              have HJ2 := Lib.hid ((hold X hXw (fun e => hnx.out X e rfl)).trans hjc.out)
              have HX2 := Lib.hid (show ∀ g, v'.ownBlock = some g → g ≠ X from fun g hg => by
                rcases hown g hg with e | e
                · exact hnx.out g e
                · omega)
              have b' := hbl.trans hb'
              clear hfw hfw' hb' hown hold hjc hnx hbl HY HNo
              go_wp2_with (at_builtin; refine wpList_append_by rfl (.tmp 51) (.tmp 57) 32 rfl u7 (.slice (some ⟨wr.heap.size, 0, none⟩) 1 1) _ w' rfl rfl hrun ?_)
              go_roundw
              case rel => exact ⟨k + 1, by go_num, by omega, by rw [HS.out, ← List.append_assoc]; exact HF2.out, b', HJ2.out, HX2.out⟩
              case measure => simp [intOf]; omega
            · have HS := Lib.hid (HNo.out hd)
              clear HY HNo
              go_wp2_with fail
              go_roundw
              case rel => exact ⟨k + 1, by go_num, by omega, by rw [HS.out]; exact hfw.out, hbl, hjc.out, hnx.out⟩
              case measure => simp [intOf]; omega
          · obtain rfl : k = r.length := by omega
            clear hjc hnx g0 g1 g2
            go_wp2_with fail
            go_roundw
            case rel => exact ⟨i + 1, by go_num, by omega, by rw [HSU.out]; exact hfw.out, hbl⟩
            case measure => simp [intOf]; omega
      · obtain rfl : i = l.length := by omega
        obtain ⟨ja, jc, rfl, z1, z2, z3⟩ := hfw.out.jobs
        have HZ := Lib.hid z3
        clear hfw z3
        go_wp2_with fail
        go_ret
        exact ⟨ja, jc, rfl, z1, z2, HZ.out, hbl⟩
  · have HE := Lib.hid (show (if tsOK l = true ∧ rs.length = l.length then jobsTo l rs un l.length else []) = [] from if_neg hok)
    rw [HE.out]
    cases hv : tsOK l
    · rw [hv] at TV
      clear hok hsm
      go_enter Tryz.func10, Tryz.ntmps10
      go_wp2_with fail
      refine TV.out.mono ?_
      rintro e w1 ⟨rfl, hb1⟩
      go_wp2_with fail
      go_ret
      exact ⟨none, 0, rfl, by simp, by omega, fun h => absurd rfl h, hb1⟩
    · rw [hv] at TV
      have hne : ¬ rs.length = l.length := fun e => hok ⟨hv, e⟩
      have hq : ((rs.length : Int) == (l.length : Int)) = false := beq_eq_false_iff_ne.2 (by omega)
      have hq2 : (rs.length == l.length) = false := beq_eq_false_iff_ne.2 hne
      clear hok hsm
      go_enter Tryz.func10, Tryz.ntmps10
      go_wp2_with fail
      refine TV.out.mono ?_
      rintro e w1 ⟨rfl, hb1⟩
      go_wp2_with fail
      go_ret
      exact ⟨none, 0, rfl, by simp, by omega, fun h => absurd rfl h, hb1⟩
end Go.Proofs.YtfoadipocpopiaaGreat
