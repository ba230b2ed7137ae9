/- The walk over slots.Simulate at a valid plan. Conditions: a valid list of at most 12 tasks, 1 to 8 cores, rows that keep the periods, at most 1000 slots. -/
import Derived.Test.YtfoadipocpopiaaGreatSlRow
import Derived.StillTailTactics
namespace Go.Proofs.YtfoadipocpopiaaGreat
open Go.RowKit Go.Deep
theorem MS0.mono {w : World} {N N' gm gj n : Nat} {tv rv : Value} (h : MS0 w N gm gj tv rv n) (hN : N' ≤ N) : MS0 w N' gm gj tv rv n := by
  obtain ⟨h1, h2, h3, h4, h5⟩ := h
  exact ⟨h1, h2, by omega, by omega, h5⟩
theorem sliceTo {w : World} {T E : TypeId} {a : Option Addr} {n cap k : Nat} (ht : Tryz.prog.underlying T = some (.slice E)) {i : TypeInfo} (hi : Tryz.prog.info? E = some i) (hk : k ≤ cap) : (Instr.slice T (.slice a n cap) none (some (.int .i64 k)) none).run Tryz.prog w = .ok (.slice a k cap) w := by
  have e : Option.map (fun x : Addr => x.add 0) a = a := by cases a <;> simp [Addr.add]
  have h0 : ¬ (k : Int) < 0 := by omega
  have h1 : ¬ (cap : Int) < (k : Int) := by omega
  simp [Instr.slice, run_underlying ht, Instr.sliceBounds, Instr.sliceBound, asIntOf, sizeOf, typeInfo, hi, h0, h1, e, go_sem]
  intro h; omega
theorem slice_cand {w : World} {a : Option Addr} {n cap k : Nat} (hk : k ≤ cap) : (Instr.slice 67 (.slice a n cap) none (some (.int .i64 k)) none).run Tryz.prog w = .ok (.slice a k cap) w := by
  obtain ⟨i1, hi1, _, _, _⟩ := info_parts info_cand
  exact sliceTo Tryz.underlying67 hi1 hk
/-- The schedule has U slots, of which those from t on are empty. -/
def ObOK (U t : Nat) (ob : Array Value) : Prop := ob.size = U ∧ ∀ k, t ≤ k → k < U → ob[k]? = some (.slice none 0 0)
theorem ObOK.made (U : Nat) : ObOK U 0 (madeCells #[.slice none 0 0] U) := ⟨size_madeCells _ _, fun _ _ h => made_nil h⟩
theorem ObOK.next {U t : Nat} {ob : Array Value} (h : ObOK U t ob) (u : Value) : ObOK U (t + 1) (ob.setIfInBounds t u) :=
  ⟨by rw [Array.size_setIfInBounds]; exact h.1, fun k h1 h2 => by rw [Array.getElem?_setIfInBounds_ne (by omega)]; exact h.2 k (by omega) h2⟩
/-- The state before slot t. -/
def SimSt (l : List TT) (a : Option Addr) (cap : Nat) (rs : List (List Int)) (ra : Option Addr) (rcap cores U N gm gj gs t : Nat) (w : World) : Prop :=
  ∃ (js : Nat → JS) (m : Nat) (mv : Value) (ob : Array Value), ReachS l.length cores (tc l) (tp l) (rwAt rs) t js m ∧ SMo w N gm gj gs ob (.slice a l.length cap) (.slice ra rs.length rcap) l.length js mv m ∧ ObOK U t ob

set_option maxRecDepth 100000 in
set_option maxHeartbeats 6400000 in
theorem simulate_any (l : List TT) (a : Option Addr) (cap : Nat) (rs : List (List Int)) (ra : Option Addr) (rcap cores U : Nat) (w : World) (hok : tsOK l = true) (h12 : l.length ≤ 12) (hc1 : 1 ≤ cores) (hc8 : cores ≤ 8) (hne : rs.length = l.length) (hsp : ∀ i, i < rs.length → SpOK (tp l i) (rwAt rs i)) (hU : U ≤ 1000)
    (hc : TSAt w w.heap.size a l) (hr : RowsAt w w.heap.size ra rs) :
    Calls Tryz.prog 12 #[.slice a l.length cap, .int .i64 (cores : Int), .slice ra rs.length rcap, .int .i64 (U : Int)] w fun e w' => Below w.heap.size w w' ∧ ∃ (js : Nat → JS) (m : Nat) (sv : Value) (ma : Option Addr) (mc : Nat), ReachS l.length cores (tc l) (tp l) (rwAt rs) U js m ∧ e = .returned (.tuple #[sv, .slice ma (m + missN l.length (tc l) (tp l) U js) mc, .int .i64 0]) := by
  have hlI : (l.length : Int) ≤ 12 := by omega
  have hUI : (U : Int) ≤ 1000 := by omega
  have hU0 : ¬ (U : Int) < 0 := by omega
  have hU1 : ¬ (100000 : Int) < (U : Int) := by omega
  have hcI : (cores : Int) ≤ 8 := by omega
  have VAL := Lib.hid (svalid_any l a cap rs ra rcap cores w hok hc1 hc8 hne hsp hc hr)
  have ST := Lib.hid (fun W => start_any l.length a cap ra rs.length rcap W (by omega))
  have MK := Lib.hid (fun W => make_sched U (by omega) W)
  have HOK := Lib.hid hok
  have HC := Lib.hid hc
  have HR := Lib.hid hr
  have HNE := Lib.hid hne
  have HR3 := Lib.hid (show ∀ r ∈ rs, r.length ≤ 1000 from fun r hr => by
    obtain ⟨i, hi⟩ := List.mem_iff_getElem?.1 hr
    have hlt := (List.getElem?_eq_some_iff.1 hi).1
    have := (hsp i hlt).1
    rw [rwAt_get hlt] at hi
    injection hi with hi
    rw [← hi]; exact this)
  clear hok hc hr hsp hne
  go_enter Tryz.func12, Tryz.ntmps12
  go_wp2_with fail
  refine VAL.out.mono ?_
  rintro e w1 ⟨rfl, hb1⟩
  clear VAL
  go_wp2_with fail
  refine (ST.out _).mono ?_
  rintro e w2 ⟨gm, gj, rfl, hb2, hM0⟩
  have s1 := hb1.size
  have b2 := hb1.trans (hb2.mono s1)
  have b3 := b2.alloc b2.size (.cells (madeCells #[.slice none 0 0] U) 42)
  have HMS := Lib.hid (show SimSt l a cap rs ra rcap cores U w.heap.size gm gj w2.heap.size 0 (w2.alloc (.cells (madeCells #[.slice none 0 0] U) 42)) from
    ⟨js0, 0, _, _, .zero, (hM0.mono s1).ms (by omega), ObOK.made U⟩)
  have mk := MK.out
  clear ST MK hb2 hb1 b2 hM0
  go_upto_region 7 with fail
  generalize w2.alloc (.cells (madeCells #[.slice none 0 0] U) 42) = w3 at *
  generalize w2.heap.size = gs at *
  clear mk s1
  go_wp2_with fail
  go_loopw [34] (fun u wr => ∃ t : Nat, u = .int .i64 t ∧ t ≤ U ∧ Hid (SimSt l a cap rs ra rcap cores U w.heap.size gm gj gs t wr) ∧ Below w.heap.size w wr) (fun u _ => U - (intOf u).toNat)
  case atStart => exact ⟨0, rfl, by omega, HMS, b3⟩
  case round =>
    clear HMS b3
    obtain ⟨t, rfl, ht, hst, hbl⟩ := hrel
    generalize wr = w4 at *
    by_cases h0 : t < U
    · have h0I : (t : Int) < (U : Int) := by omega
      obtain ⟨js, m, mv, ob, hR, hM, hob⟩ := hst.out
      have hm := hR.bd.2
      have hmu : l.length * t ≤ 12 * 1000 := Nat.mul_le_mul h12 (by omega)
      have HBD := Lib.hid (BdJ.beg hR.bd.1)
      have BEG := Lib.hid (begin_any l a cap rs ra rcap t w4 w.heap.size gm gj gs ob js mv m HOK.out HNE.out HR3.out (by omega) (by omega) (hR.bd.1.wf HOK.out) (HC.out.keep hbl) (HR.out.keep hbl) hM)
      have HRS := Lib.hid (fun ch h => ReachS.step (ch := ch) hR h)
      have HOB := Lib.hid hob
      clear hst hR hM hob hm hmu
      go_wp2_with fail
      refine BEG.out.mono ?_
      rintro e w5 ⟨rfl, hb5, mv5, hM5⟩
      have b5 := hbl.trans hb5
      have HM5 := Lib.hid hM5
      clear BEG hM5 hb5 hbl
      generalize begS (tp l) (rwAt rs) t js = js5 at *
      generalize m + missN l.length (tc l) (tp l) t js = m5 at *
      have CAND := Lib.hid (cands_any l a cap (.slice ra rs.length rcap) t w5 w.heap.size gm gj gs ob js5 mv5 m5 HOK.out (by omega) (fun i hi => by
        obtain ⟨q1, q2, q3, q4, _⟩ := (BdJ.wf HBD.out HOK.out) i hi
        exact ⟨q1, q2, q3, q4⟩) (HC.out.keep b5) HM5.out)
      go_wp2_with fail
      refine CAND.out.mono ?_
      rintro e w6 ⟨cv, rfl, hb6, hwin, hown⟩
      obtain ⟨ca, cc, rfl, hcc, _⟩ := hwin.form0
      have hcl := candsL_len l t js5 l.length
      have SORT := Lib.hid (sortfunc_any (candsL l t js5 l.length) ca cc w5.heap.size w6 (by omega) (fun x hx => cand_ok HOK.out HBD.out (by omega) hx) (candsL_nums _ _ _ _) hown hb6.size hwin)
      have HOWN := Lib.hid hown
      clear CAND hwin hown
      have HPK := Lib.hid (fun L (hp : L.Perm (candsL l t js5 l.length)) (hs : SortedC L) => pick_of (cores := cores) hp hs)
      have HMEM := Lib.hid (fun x (hx : x ∈ candsL l t js5 l.length) => And.intro (candsL_mem.1 hx) (cand_ok HOK.out HBD.out (by omega) hx))
      have HNUM := Lib.hid (candsL_nums l t js5 l.length)
      generalize candsL l t js5 l.length = L0 at *
      go_wp2_with fail
      refine SORT.out.mono ?_
      rintro e w7 ⟨rfl, hb7, L, hperm, hsort, hwin7⟩
      have hb67 := (hb6.trans hb7)
      have HM7 := Lib.hid (HM5.out.belowB HM5.out.low hb67)
      have hlow : LowM w5.heap.size gm gj gs mv5 := HM5.out.low
      have b7 := b5.trans (hb67.mono b5.size)
      have hLlen := hperm.length_eq
      have HCH := Lib.hid (HRS.out _ (HPK.out L hperm hsort))
      have HMEM2 := Lib.hid (fun x (hx : x ∈ L) => HMEM.out x (hperm.mem_iff.1 hx))
      have HNUM2 := Lib.hid (show NumsC L from (hperm.map CD.num).nodup_iff.2 HNUM.out)
      rw [← hLlen] at hwin7
      have hB57 := hb67.size
      have HW7 := Lib.hid hwin7
      have HLOW := Lib.hid hlow
      clear SORT HM5 hb6 hb7 hb67 hsort HPK HRS HMEM HNUM hperm hwin7 hlow b5
      rw [← hLlen] at hcc ⊢
      have hL12 : L.length ≤ 12 := by omega
      clear hLlen hcl
      obtain ⟨K, hK⟩ : ∃ K, K = min cores L.length := ⟨_, rfl⟩
      have hKc : K ≤ cores := by omega
      have hKl : K ≤ L.length := by omega
      have HTK := Lib.hid (show L.take K = L.take cores from by
        rw [hK]
        rcases Nat.le_total cores L.length with h | h
        · rw [Nat.min_eq_left h]
        · rw [Nat.min_eq_right h, List.take_of_length_le (Nat.le_refl _), List.take_of_length_le h])
      have HSL := Lib.hid (fun W => slice_cand (w := W) (a := ca) (n := L.length) (cap := cc) (k := K) (by omega))
      go_upto_region 13 with fail
      go_cut [50, 51, 52] (fun u v z wx => u = .slice ca K cc ∧ v = .int .i64 (K : Int) ∧ z = .int .i64 0 ∧ wx = w7)
      case first =>
        have hsl := HSL.out
        by_cases hlt : cores < L.length
        · obtain rfl : K = cores := by omega
          clear hK hKc hKl
          have hltI : (K : Int) < (L.length : Int) := by omega
          go_wp2_with fail
          go_meet
          case rel => exact ⟨by congr 1; omega, by congr 1; omega, rfl, rfl⟩
        · obtain rfl : K = L.length := by omega
          clear hK hKc hKl
          have hltI : ¬ (cores : Int) < (L.length : Int) := by omega
          go_wp2_with fail
          go_meet
          case rel => exact ⟨by congr 1; omega, by congr 1; omega, rfl, rfl⟩
      case rest =>
        obtain ⟨rfl, rfl, rfl, hwc⟩ := hcut
        clear hK
        have hwc' := hwc.symm
        clear hwc
        subst hwc'
        have R0 := Lib.hid (RunM.start HM7.out (HOB.out.2 t (Nat.le_refl _) h0))
        clear HM7
        go_wp2_with fail
        go_loopw [52] (fun u wr => ∃ (k : Nat) (v : Value), u = .int .i64 k ∧ k ≤ K ∧ Hid (RunM w7 wr w.heap.size gm gj gs w7.heap.size t k ob (.slice a l.length cap) (.slice ra rs.length rcap) l.length js5 ((L.take k).map CD.num) mv5 m5 v)) (fun u _ => K - (intOf u).toNat)
        case atStart => exact ⟨0, _, rfl, Nat.zero_le _, R0⟩
        case round =>
          clear R0
          obtain ⟨k, v, rfl, hk, hrun⟩ := hrel
          generalize wr = w8 at *
          by_cases h1 : k < K
          · have h1I : (k : Int) < (K : Int) := by omega
            have hkl : k < L.length := by omega
            obtain ⟨x, hx⟩ : ∃ x, L[k]? = some x := ⟨L[k], List.getElem?_eq_getElem hkl⟩
            obtain ⟨g7, o7, cc', hae, hg7, _⟩ := HW7.out.form (by omega)
            simp only [Value.slice.injEq] at hae
            obtain ⟨rfl, _, rfl⟩ := hae
            have hg5 := HOWN.out g7 rfl
            have hw8 := HW7.out.of_block (w' := w8) (fun g hg => by
              simp only [Value.ownBlock, Option.some.injEq] at hg
              subst hg
              have q1 := HLOW.out.j
              have q2 := HLOW.out.s
              exact hrun.out.asd.block g7 hg7 (by omega) (by omega))
            obtain ⟨c0, c1, c2, c3, c4, c5⟩ := Win.cellC hw8 hx
            obtain ⟨⟨i, hi, hcand, hcd⟩, hxok⟩ := HMEM2.out x (List.mem_of_getElem? hx)
            have hnum : x.num = i := by rw [← hcd]; rfl
            have hnot : i ∉ (L.take k).map CD.num := fun hm => by
              obtain ⟨y, hy, hyn⟩ := List.mem_map.1 hm
              exact nums_ne HNUM2.out hx hy (by rw [hnum, hyn])
            have hsucc : (L.take (k + 1)).map CD.num = (L.take k).map CD.num ++ [i] := by
              rw [List.take_add_one, hx, List.map_append, ← hnum]; rfl
            have HSUC := Lib.hid hsucc
            have HNOT := Lib.hid hnot
            have hgw8 : g7 < w8.heap.size := by have := hrun.out.asd.size; omega
            obtain ⟨d1, d2, d3, d4, _⟩ := (BdJ.wf HBD.out HOK.out) i hi
            rw [hnum] at c0
            clear hw8 hcand hcd hxok hnum hnot hsucc hx hg7 hg5 d1 d2
            obtain ⟨xn, xm, xc, xp, xr, xi⟩ := x
            simp only at c0 c1 c2 c3 c4 c5
            generalize hch : (L.take k).map CD.num = ch at *
            have hvl : ∀ g, v.ownBlock = some g → g < w8.heap.size := fun g hg => by
              obtain ⟨xs, _, hw⟩ := hrun.out.row
              exact hw.blk_lt hg
            have hB8 := hrun.out.asd.size
            have HCHK := Lib.hid hch
            have HVL := Lib.hid hvl
            clear hch hvl
            go_upto_region 16 with fail
            have J0 := Go.Deep.blk_alloc_new w8 (.cells #[.int .i64 (i : Int), .string xm, .int .i64 (xc : Int), .int .i64 (xp : Int), .int .i64 xr, .int .i64 xi] 71)
            have bA := (Below.refl w8.heap.size w8).alloc (Nat.le_refl _) (.cells #[.int .i64 (i : Int), .string xm, .int .i64 (xc : Int), .int .i64 (xp : Int), .int .i64 xr, .int .i64 xi] 71)
            have hsA : w8.heap.size < (w8.alloc (.cells #[.int .i64 (i : Int), .string xm, .int .i64 (xc : Int), .int .i64 (xp : Int), .int .i64 xr, .int .i64 xi] 71)).heap.size := by simp
            have hrun9 := Lib.hid (hrun.out.next bA)
            clear c0 c1 c2 c3 c4 c5 bA hrun
            generalize w8.alloc _ = w9 at *
            generalize w8.heap.size = g9 at *
            have y0 : w9.cell? ⟨g9, 0, none⟩ = some (.int .i64 (i : Int)) := by simp [World.cell?, J0]
            have z0 : w9.cell? ⟨gs, t, none⟩ = some v := hrun9.out.ms.cellS (by rw [Array.getElem?_setIfInBounds, if_pos rfl, if_pos (by rw [HOB.out.1]; exact h0)])
            have zf := hrun9.out.ms.frozenS t
            have hsl := hrun9.out.ms.slt
            obtain ⟨v', w', hrunE, hR', hb', hkeep⟩ := (hrun9.out.next (w' := w9.drew) (Below.refl _ _).drew).push (by omega) (i : Int)
            obtain ⟨_, _, hxw⟩ := hR'.row
            obtain ⟨vg, vo, vc, rfl, _, _⟩ := hxw.form (by omega)
            have hrunE2 : (Builtin.append_ #[42, 42] 42 #[v, .slice (some ⟨w9.heap.size, 0, none⟩) 1 1]).run Tryz.prog (w9.drew.alloc (.cells #[.int .i64 (i : Int)] 3)) = .ok (.slice (some ⟨vg, vo, none⟩) (k + 1) vc) w' := hrunE
            have hg9 : (w'.setCell ⟨gs, t, none⟩ (.slice (some ⟨vg, vo, none⟩) (k + 1) vc)).cell? ⟨g9, 0, none⟩ = some (.int .i64 (i : Int)) := by
              have q1 := HLOW.out.s
              have e1 := Below.heap_setCell w' ⟨gs, t, none⟩ (.slice (some ⟨vg, vo, none⟩) (k + 1) vc) g9 (show g9 ≠ gs by omega)
              have e2 := hkeep g9 hsA (fun hg => by have := HVL.out _ hg; omega)
              have e3 : w9.drew.heap[g9]? = w9.heap[g9]? := rfl
              simp [World.cell?, e1, e2, e3, J0]
            have hs9 : g9 < (w'.setCell ⟨gs, t, none⟩ (.slice (some ⟨vg, vo, none⟩) (k + 1) vc)).heap.size := by
              have := hb'.size
              have e3 : w9.drew.heap.size = w9.heap.size := rfl
              simp [World.setCell]; omega
            have zf' : w'.frozen? ⟨gs, t, none⟩ = false := (hb'.frozen (p := ⟨gs, t, none⟩) (by have := HLOW.out.s; show gs < w7.heap.size; omega)).trans zf
            have z0' : w'.cell? ⟨gs, t, none⟩ = some v := (hb'.cell (p := ⟨gs, t, none⟩) (by have := HLOW.out.s; show gs < w7.heap.size; omega)).trans z0
            have hsl' : gs < w'.heap.size := by have := hb'.size; have e3 : w9.drew.heap.size = w9.heap.size := rfl; omega
            have HR' := Lib.hid hR'
            clear hrunE hR' hb' hkeep hrun9 J0
            go_cut [] (fun wx => ∃ v'', Hid (RunM w7 wx w.heap.size gm gj gs w7.heap.size t (k + 1) ob (.slice a l.length cap) (.slice ra rs.length rcap) l.length js5 ch mv5 m5 v'') ∧ wx.cell? ⟨g9, 0, none⟩ = some (.int .i64 (i : Int)) ∧ g9 < wx.heap.size)
            case first =>
              go_region_law (refine step_append_by rfl (.tmp 61) (.tmp 64) 42 rfl v (.slice (some ⟨w9.heap.size, 0, none⟩) 1 1) _ w' (by rfl) (by rfl) hrunE2 ?_)
              all_goals go_wp2_with fail
              all_goals go_meet
              all_goals exact ⟨_, HR', hg9, hs9⟩
            case rest =>
              obtain ⟨v2, hR2, y0, hs2⟩ := hcut
              clear HR' hg9 hs9 zf' z0' hsl' z0 zf hsl hrunE2
              generalize wc = w10 at *
              have hm2 := hR2.out.ms.cellM.2.2.1
              have hml := hR2.out.ms.mlt
              have hjl := hR2.out.ms.jlt
              have hj2 := (hR2.out.ms.cellJ hi).2.2.1
              rw [runJ_not HNOT.out] at hj2
              have hfr := hR2.out.ms.frozenJ (i * 4 + 2)
              have hiI : (i : Int) < (l.length : Int) := by omega
              have HF := Lib.hid (hR2.out.ran hi HNOT.out)
              rw [← HSUC.out] at HF
              have hkE : k + 1 ≤ K := h1
              have hkM : K - (intOf (.int .i64 ((k : Int) + 1))).toNat < K - (intOf (.int .i64 (k : Int))).toNat := by
                show K - ((k : Int) + 1).toNat < K - ((k : Int)).toNat
                omega
              generalize (js5 i).dn = dd at *
              have hwd : IntKind.i64.wrap (dd + 1) = dd + 1 := IntWalk.i64_in _ (by omega)
              have hwd2 : wrap64 (dd + 1) = dd + 1 := IntWalk.wrap64_in _ (by omega)
              have hwk2 : wrap64 ((k : Int) + 1) = (k : Int) + 1 := IntWalk.wrap64_in _ (by omega)
              have HWK := Lib.hid hwk2
              clear hR2 hwk2
              go_upto_region 17 with fail
              go_region_law (fail)
              all_goals (have HF2 := Lib.hid (HF.out.next (Below.refl _ _).drew))
              all_goals (generalize World.drew (World.setCell _ _ _) = w11 at HF2 ⊢)
              all_goals (clear HF hm2 hj2 hfr y0)
              all_goals go_simp
              all_goals go_at_K
              all_goals
                go_wp2_with fail
                go_roundw
                case rel => exact ⟨k + 1, v2, by first | rfl | (rw [HWK.out]; rfl), hkE, HF2⟩
                case measure => first | exact hkM | (rw [HWK.out]; exact hkM)
          · obtain rfl : k = K := by omega
            have h1I : ¬ (k : Int) < (k : Int) := by omega
            obtain ⟨xs, hxl, hxw⟩ := hrun.out.row
            obtain ⟨va, vc, rfl, _, _⟩ := hxw.form0
            have hit : IntW w8 va k vc := ⟨xs, hxl, hxw⟩
            have SRT := Lib.hid (sortI_any k va vc w7.heap.size w8 (by omega) hrun.out.own hrun.out.asd.size hit)
            have z0 : w8.cell? ⟨gs, t, none⟩ = some (.slice va k vc) := hrun.out.ms.cellS (by rw [Array.getElem?_setIfInBounds, if_pos rfl, if_pos (by rw [HOB.out.1]; exact h0)])
            have hsl := hrun.out.ms.slt
            have b8 := b7.trans (hrun.out.asd.below (N := w.heap.size) b7.size hrun.out.ms.lay.2.1 hrun.out.ms.lay.2.2.1)
            have HFIN := Lib.hid (fun w9 (hb : Below w7.heap.size w8 w9) => show SimSt l a cap rs ra rcap cores U w.heap.size gm gj gs (t + 1) w9 from
              ⟨_, _, _, _, HCH.out, by rw [← HTK.out]; exact hrun.out.ms.belowB hrun.out.low hb, HOB.out.next _⟩)
            have HBW := Lib.hid (fun w9 (hb : Below w7.heap.size w8 w9) => b8.trans (hb.mono b7.size))
            have htE : t + 1 ≤ U := h0
            have htM : U - (intOf (.int .i64 ((t : Int) + 1))).toNat < U - (intOf (.int .i64 (t : Int))).toNat := by
              show U - ((t : Int) + 1).toNat < U - ((t : Int)).toNat
              omega
            clear hrun hit hxw hxl b8 HCH HTK HOB
            go_wp2_with fail
            refine SRT.out.mono ?_
            rintro e w9 ⟨rfl, hb9, _⟩
            have HF := Lib.hid (HFIN.out _ hb9)
            have hbw := HBW.out _ hb9
            clear SRT HFIN HBW hb9
            go_wp2_with fail
            go_roundw
            case rel => exact ⟨t + 1, rfl, htE, HF, hbw⟩
            case measure => exact htM
    · obtain rfl : t = U := by omega
      obtain ⟨js, m, mv, ob, hR, hM, hob⟩ := hst.out
      have hm := hR.bd.2
      have hmu : l.length * t ≤ 12 * 1000 := Nat.mul_le_mul h12 hU
      have BEG := Lib.hid (begin_any l a cap rs ra rcap t w4 w.heap.size gm gj gs ob js mv m HOK.out HNE.out HR3.out hU (by omega) (hR.bd.1.wf HOK.out) (HC.out.keep hbl) (HR.out.keep hbl) hM)
      have HRR := Lib.hid hR
      clear hst hR hM hob hm hmu
      go_wp2_with fail
      refine BEG.out.mono ?_
      rintro e w5 ⟨rfl, hb5, mv5, hM5⟩
      have b5 := hbl.trans hb5
      obtain ⟨m0, m1, m2, m3⟩ := hM5.cellM
      have hml := hM5.mlt
      obtain ⟨xs, hx⟩ := hM5.miss
      obtain ⟨ma, mc, rfl, _, _⟩ := hx.form0
      have HM := Lib.hid HRR.out
      clear BEG hM5 hb5 hbl hx HRR
      generalize hmm : m + missN l.length (tc l) (tp l) t js = mm at *
      have HMM := Lib.hid hmm
      clear hmm
      go_wp2_with fail
      go_quiet (fail)
      go_wp2_with fail
      refine bodyPost_ret (v := .tuple #[.slice (some ⟨gs, 0, none⟩) t t, .slice ma mm mc, .int .i64 0]) (by simp [results, Tryz.results12, go_sem]) rfl ⟨below_drewN b5 _, js, m, _, ma, mc, HM.out, by rw [HMM.out]⟩
end Go.Proofs.YtfoadipocpopiaaGreat
