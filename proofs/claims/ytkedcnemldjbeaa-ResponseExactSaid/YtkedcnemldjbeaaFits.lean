/- The walks over few, the reference's Spaced, and fits. Conditions: the arguments lie in memory. -/
import Derived.Test.YtkedcnemldjbeaaCheck
import Derived.Test.YtkedcnemldjbeaaCopy43
namespace Go.Proofs.Ytkedcnemldjbeaa
open Go.RowKit

def fewB (l : List CT) (rs : List (List Int)) (un : Int) : Bool := decide (l.length ≤ 6) && decide (rs.length ≤ 12) && decide (un ≤ 300) && l.all (fun t => decide (t.ss.length ≤ 16)) && rs.all (fun r => decide (r.length ≤ 12))
theorem fewB_bd {l : List CT} {rs : List (List Int)} {un : Int} (h : fewB l rs un = true) : l.length ≤ 6 ∧ rs.length ≤ 12 ∧ un ≤ 300 ∧ (∀ t ∈ l, t.ss.length ≤ 1000) ∧ ∀ r ∈ rs, r.length ≤ 12 := by
  simp only [fewB, Bool.and_eq_true, decide_eq_true_eq, List.all_eq_true] at h
  obtain ⟨⟨⟨⟨h1, h2⟩, h3⟩, h4⟩, h5⟩ := h
  exact ⟨h1, h2, h3, fun t ht => by have := h4 t ht; omega, h5⟩

set_option maxRecDepth 100000 in
set_option maxHeartbeats 3200000 in
theorem few_any (l : List CT) (a : Option Addr) (cap : Nat) (rs : List (List Int)) (ra : Option Addr) (rcap : Nat) (un : Int) (w : World) (hl : l.length ≤ 9223372036854775807) (hrl : rs.length ≤ 9223372036854775807)
    (hc : TasksAt w w.heap.size a l) (hr : RowsAt w w.heap.size ra rs) :
    Calls Try.prog 38 #[.slice a l.length cap, .slice ra rs.length rcap, .int .i64 un] w fun e w' => e = .returned (.bool (fewB l rs un)) ∧ Below w.heap.size w w' := by
  have hlen : (l.length : Int) ≤ 9223372036854775807 := by omega
  have hrlen : (rs.length : Int) ≤ 9223372036854775807 := by omega
  by_cases hb : l.length ≤ 6 ∧ rs.length ≤ 12 ∧ un ≤ 300
  · obtain ⟨h1, h2, h3⟩ := hb
    have HF := Lib.hid (show fewB l rs un = (l.all (fun t => decide (t.ss.length ≤ 16)) && rs.all (fun r => decide (r.length ≤ 12))) by simp [fewB, h1, h2, h3])
    have h1' : (l.length : Int) ≤ 6 := by omega
    have h2' : (rs.length : Int) ≤ 12 := by omega
    go_enter Try.func38, Try.ntmps38
    go_wp2_with fail
    go_loopw [25] (fun u wr => ∃ k : Nat, u = .int .i64 k ∧ k ≤ l.length ∧ Hid (∀ j t, j < k → l[j]? = some t → t.ss.length ≤ 16) ∧ Below w.heap.size w wr) (fun u _ => l.length - (intOf u).toNat)
    case atStart => exact ⟨0, rfl, by omega, fun j t h => by omega, Below.refl _ _⟩
    case round =>
      obtain ⟨k, rfl, hk, hno, hbl⟩ := hrel
      have hbs := hbl.size
      by_cases hlt : k < l.length
      · obtain ⟨b, off, rfl, hbN, hcell⟩ := hc (by intro e; simp [e] at hlt)
        have hget := List.getElem?_eq_getElem hlt
        obtain ⟨c0, c1, c2, sa, sc, c3, hsl, hss⟩ := hcell k l[k] hget
        have c0 := keep_cellN hbl hbN c0
        have c1 := keep_cellN hbl hbN c1
        have c2 := keep_cellN hbl hbN c2
        have c3 := keep_cellN hbl hbN c3
        have HBAD := Lib.hid (show ¬ l[k].ss.length ≤ 16 → fewB l rs un = false from fun h => by
          rw [HF.out, Bool.and_eq_false_iff]
          left
          rw [List.all_eq_false]
          exact ⟨l[k], List.getElem_mem hlt, by simpa using h⟩)
        have HOK := Lib.hid (show l[k].ss.length ≤ 16 → ∀ j t, j < k + 1 → l[j]? = some t → t.ss.length ≤ 16 from fun h j t hj ht => by
          by_cases e : j = k
          · subst e; rw [hget] at ht; injection ht with ht; subst ht; exact h
          · exact hno.out j t (by omega) ht)
        clear hcell hss hget hno
        generalize l[k] = t at *
        obtain ⟨tc, tp, td, ss⟩ := t
        simp only at c0 c1 c2 c3 hsl
        have hsl' : (ss.length : Int) ≤ 9223372036854775807 := by omega
        by_cases h16 : (ss.length : Int) ≤ 16
        · have HO := Lib.hid (HOK.out (by show ss.length ≤ 16; omega))
          clear HBAD HOK
          go_wp2_with fail
          go_roundw
          case rel => exact ⟨k + 1, by go_num, by omega, HO.out, hbl.alloc hbs _⟩
          case measure => simp [intOf]; omega
        · have HB := Lib.hid (HBAD.out (by show ¬ ss.length ≤ 16; omega))
          clear HBAD HOK
          go_wp2_with fail
          go_ret
          exact ⟨ret_bool HB.out.symm, hbl.alloc hbs _⟩
      · have HF2 := Lib.hid (show fewB l rs un = rs.all (fun r => decide (r.length ≤ 12)) by
          rw [HF.out]
          have : l.all (fun t => decide (t.ss.length ≤ 16)) = true := by
            rw [List.all_eq_true]
            intro t ht
            obtain ⟨j, hj⟩ := List.mem_iff_getElem?.1 ht
            have hjl := (List.getElem?_eq_some_iff.1 hj).1
            simpa using hno.out j t (by omega) hj
          rw [this, Bool.true_and])
        clear hno
        go_wp2_with fail
        obtain ⟨wo, rfl⟩ : ∃ wo : World, wo = wr := ⟨_, rfl⟩
        go_loopw [36] (fun u wr => ∃ k : Nat, u = .int .i64 k ∧ k ≤ rs.length ∧ Hid (∀ j r, j < k → rs[j]? = some r → r.length ≤ 12) ∧ Below w.heap.size w wr) (fun u _ => rs.length - (intOf u).toNat)
        case atStart => exact ⟨0, rfl, by omega, fun j t h => by omega, hbl⟩
        case round =>
          obtain ⟨k, rfl, hk, hno, hbl⟩ := hrel
          have hbs := hbl.size
          by_cases hlt : k < rs.length
          · obtain ⟨b, off, rfl, hbN, hcell⟩ := hr (by intro e; simp [e] at hlt)
            have hget := List.getElem?_eq_getElem hlt
            obtain ⟨xa, xc, r0, hx1, hx2, hxs⟩ := hcell k rs[k] hget
            have r0 := keep_cellN hbl hbN r0
            have HBAD := Lib.hid (show ¬ rs[k].length ≤ 12 → fewB l rs un = false from fun h => by
              rw [HF2.out, List.all_eq_false]
              exact ⟨rs[k], List.getElem_mem hlt, by simpa using h⟩)
            have HOK := Lib.hid (show rs[k].length ≤ 12 → ∀ j t, j < k + 1 → rs[j]? = some t → t.length ≤ 12 from fun h j t hj ht => by
              by_cases e : j = k
              · subst e; rw [hget] at ht; injection ht with ht; subst ht; exact h
              · exact hno.out j t (by omega) ht)
            clear hcell hxs hget hno
            generalize rs[k] = r at *
            have hsl' : (r.length : Int) ≤ 9223372036854775807 := by omega
            by_cases h12 : (r.length : Int) ≤ 12
            · have HO := Lib.hid (HOK.out (by omega))
              clear HBAD HOK
              go_wp2_with fail
              go_roundw
              case rel => exact ⟨k + 1, by go_num, by omega, HO.out, hbl⟩
              case measure => simp [intOf]; omega
            · have HB := Lib.hid (HBAD.out (by omega))
              clear HBAD HOK
              go_wp2_with fail
              go_ret
              exact ⟨ret_bool HB.out.symm, hbl⟩
          · have HF3 := Lib.hid (show fewB l rs un = true by
              rw [HF2.out, List.all_eq_true]
              intro r hr
              obtain ⟨j, hj⟩ := List.mem_iff_getElem?.1 hr
              have hjl := (List.getElem?_eq_some_iff.1 hj).1
              simpa using hno.out j r (by omega) hj)
            clear hno
            go_wp2_with fail
            go_ret
            exact ⟨ret_bool HF3.out.symm, hbl⟩
  · have HF := Lib.hid (show fewB l rs un = false by
      cases hq : fewB l rs un
      · rfl
      · obtain ⟨a1, a2, a3, _⟩ := fewB_bd hq
        exact absurd ⟨a1, a2, a3⟩ hb)
    have hb' : (6 : Int) < l.length ∨ ((l.length : Int) ≤ 6 ∧ (12 : Int) < rs.length) ∨ ((l.length : Int) ≤ 6 ∧ (rs.length : Int) ≤ 12 ∧ 300 < un) := by omega
    clear hb
    rcases hb' with h | ⟨h, h2⟩ | ⟨h, h2, h3⟩
    all_goals
      go_enter Try.func38, Try.ntmps38
      go_wp2_with fail
      go_ret
      exact ⟨ret_bool HF.out.symm, Below.refl _ _⟩

set_option maxRecDepth 100000 in
set_option maxHeartbeats 3200000 in
theorem spaced_any (l : List CT) (a : Option Addr) (cap : Nat) (rs : List (List Int)) (ra : Option Addr) (rcap : Nat) (w : World) (h20 : l.length ≤ 20) (hrl : rs.length = l.length) (hrr : ∀ r ∈ rs, FitI r)
    (hP : ∀ t ∈ l, 1 ≤ t.p ∧ t.p ≤ 1000) (hc : TasksAt w w.heap.size a l) (hr : RowsAt w w.heap.size ra rs) :
    Calls Try.prog 36 #[.slice a l.length cap, .slice ra rs.length rcap] w fun e w' => e = .returned (.bool (rowsB l rs)) ∧ Below w.heap.size w w' := by
  have hlen : (l.length : Int) ≤ 20 := by omega
  have hrlen : (rs.length : Int) ≤ 20 := by omega
  have HNE := Lib.hid hrl
  have HRR := Lib.hid hrr
  have HP := Lib.hid hP
  clear hrl hrr hP
  go_enter Try.func36, Try.ntmps36
  go_wp2_with fail
  go_loopw [5] (fun u wr => ∃ i : Nat, u = .int .i64 i ∧ i ≤ l.length ∧ Hid (∀ i', i' < i → spB (ctAt l i').p (rwAt rs i') = true) ∧ Below w.heap.size w wr) (fun u _ => l.length - (intOf u).toNat)
  case atStart => exact ⟨0, rfl, by omega, fun i' h => by omega, Below.refl _ _⟩
  case round =>
    obtain ⟨i, rfl, hi, hok, hbl⟩ := hrel
    have hbs := hbl.size
    by_cases hil : i < l.length
    · have hlt : i < rs.length := by have := HNE.out; omega
      obtain ⟨b, off, rfl, hbN, hcell⟩ := hc (by intro e; simp [e] at hil)
      obtain ⟨_, c1, _, _, _, _, _, _⟩ := hcell i _ (ctAt_get hil)
      obtain ⟨t3, t4⟩ := HP.out _ (ctAt_mem hil)
      obtain ⟨rb, roff, rfl, hrN, hrcell⟩ := hr (by intro e; simp [e] at hlt)
      obtain ⟨xa, xc, r0, hxc, hxc2, hxs⟩ := hrcell i _ (rwAt_get hlt)
      have HFI := Lib.hid (HRR.out _ (rwAt_mem hlt))
      have HNO := Lib.hid (show spB (ctAt l i).p (rwAt rs i) = false → rowsB l rs = false from fun h => by
        cases hq : rowsB l rs
        · rfl
        · rw [rowsB_iff.1 hq i hlt] at h; cases h)
      have HYES := Lib.hid (show spB (ctAt l i).p (rwAt rs i) = true → ∀ i', i' < i + 1 → spB (ctAt l i').p (rwAt rs i') = true from fun h i' hi' => by
        by_cases e : i' = i
        · subst e; exact h
        · exact hok.out i' (by omega))
      clear hok hcell hrcell
      generalize (ctAt l i).p = P at *
      generalize rwAt rs i = r at *
      have C1 := Lib.hid c1
      have R0 := Lib.hid r0
      have hlt' : (i : Int) < (rs.length : Int) := by omega
      have hlt2 : (i : Int) < (l.length : Int) := by omega
      have i0 : (0 : Int) ≤ (i : Int) := by omega
      have hrlen' : (r.length : Int) ≤ 9223372036854775807 := by omega
      clear c1 r0
      go_wp2_with fail
      obtain ⟨wo, rfl⟩ : ∃ wo : World, wo = wr := ⟨_, rfl⟩
      go_loopw [6] (fun u wq => ∃ k : Nat, u = .int .i64 k ∧ k ≤ r.length ∧ Hid (∀ k', k' < k → okAt P r k') ∧ Below w.heap.size w wq) (fun u _ => r.length - (intOf u).toNat)
      case atStart => exact ⟨0, rfl, by omega, fun k' h => by omega, hbl⟩
      case round =>
        obtain ⟨k, rfl, hk, hok, hbl⟩ := hrel
        have hbs := hbl.size
        have r0 := keep_cellN hbl hrN R0.out
        have hrw : rb < wr.heap.size := by omega
        by_cases hkl : k < r.length
        · obtain ⟨xb, xoff, rfl, hxN, hxcell⟩ := hxs (by intro e; simp [e] at hkl)
          have x0 := keep_cellN hbl hxN (hxcell k _ (getD_get hkl))
          have f0 := getD_fit HFI.out hkl
          have hbad := Lib.hid (show ¬ okAt P r k → rowsB l rs = false from fun h => HNO.out (by
              cases hq : spB P r
              · rfl
              · exact absurd (spB_iff.1 hq k hkl) h))
          have hgood := Lib.hid (show okAt P r k → ∀ k', k' < k + 1 → okAt P r k' from fun h k' hk' => by
            by_cases e : k' = k
            · subst e; exact h
            · exact hok.out k' (by omega))
          have hkl' : (k : Int) < (r.length : Int) := by omega
          have k0 : (0 : Int) ≤ (k : Int) := by omega
          have hxw : xb < wr.heap.size := by omega
          have hbw : b < wr.heap.size := by omega
          by_cases ht : r.getD k 0 < 0
          · have HB := Lib.hid (hbad.out (fun h => by have := h.1; omega))
            clear hbad hgood hok hxcell
            generalize r.getD k 0 = t at *
            have hd : decide (t < 0) = true := decide_eq_true ht
            go_wp2_with fail
            go_quiet (fail)
            go_wp2_with fail
            go_ret
            exact ⟨ret_bool HB.out.symm, below_drewN hbl _⟩
          · have hd : decide (r.getD k 0 < 0) = false := decide_eq_false ht
            cases k with
            | zero =>
              have HG := Lib.hid (hgood.out ⟨by omega, .inl rfl⟩)
              clear hbad hgood hok hxcell
              rw [Nat.add_zero] at x0
              generalize r.getD 0 0 = t at *
              go_wp2_with fail
              go_quiet (fail)
              go_wp2_with fail
              go_roundw
              case rel => exact ⟨1, by go_num, by omega, HG.out, below_drewN hbl _⟩
              case measure => simp [intOf]; omega
            | succ m =>
              have y0 := keep_cellN hbl hxN (hxcell m _ (getD_get (by omega)))
              have hm := hok.out m (by omega)
              have p0 : 0 ≤ r.getD m 0 := hm.1
              have f1 := getD_fit HFI.out (k := m) (by omega)
              have c1 := keep_cellN hbl hbN C1.out
              have hbad' := Lib.hid (show r.getD (m + 1) 0 - r.getD m 0 < P → rowsB l rs = false from fun h => hbad.out (fun h2 => by
                rcases h2.2 with h3 | h3
                · omega
                · rw [Nat.add_sub_cancel] at h3; omega))
              have hgood' := Lib.hid (show ¬ r.getD (m + 1) 0 - r.getD m 0 < P → _ from fun h => hgood.out ⟨by omega, .inr (by rw [Nat.add_sub_cancel]; omega)⟩)
              clear hbad hgood hok hxcell hm
              generalize r.getD (m + 1) 0 = t at *
              generalize r.getD m 0 = q at *
              have hm0 : (0 : Int) ≤ (m : Int) := by omega
              have hml : (m : Int) < (r.length : Int) := by omega
              have wa : IntKind.i64.wrap (t - q) = t - q := IntWalk.i64_in _ (by omega)
              have wb : IntKind.i64.wrap ((m : Int) + 1 - 1) = (m : Int) := by rw [show (m : Int) + 1 - 1 = m by omega]; exact IntWalk.i64_in _ (by omega)
              by_cases hPP : t - q < P
              · have HB := Lib.hid (hbad'.out hPP)
                have hd3 : decide (t - q < P) = true := decide_eq_true hPP
                go_wp2_with fail
                go_quiet (fail)
                go_wp2_with fail
                go_ret
                exact ⟨ret_bool HB.out.symm, below_drewN hbl _⟩
              · have HG := Lib.hid (hgood'.out hPP)
                have hd3 : decide (t - q < P) = false := decide_eq_false hPP
                go_wp2_with fail
                go_quiet (fail)
                go_wp2_with fail
                go_roundw
                case rel => exact ⟨m + 2, by go_num, by omega, HG.out, below_drewN hbl _⟩
                case measure => simp [intOf]; omega
        · have HG := Lib.hid (HYES.out (spB_iff.2 (fun k' hk' => hok.out k' (by omega))))
          have hkl' : ¬ (k : Int) < (r.length : Int) := by omega
          clear hok
          go_wp2_with fail
          go_roundw
          case rel => exact ⟨i + 1, by go_num, by omega, HG.out, hbl⟩
          case measure => simp [intOf]; omega
    · have HG := Lib.hid (show rowsB l rs = true from rowsB_iff.2 (fun i' hi' => hok.out i' (by have := HNE.out; omega)))
      have hil' : ¬ (i : Int) < (l.length : Int) := by omega
      clear hok
      go_wp2_with fail
      go_ret
      exact ⟨ret_bool HG.out.symm, hbl⟩

def fitsB (l : List CT) (rs : List (List Int)) (un : Int) : Bool := fewB l rs un && decide (0 ≤ un) && validL l && decide (rs.length = l.length) && rowsB l rs
theorem fits_check {l : List CT} {rs : List (List Int)} {un : Int} (h : fitsB l rs un = true) : fewB l rs un = true ∧ checkV l rs un = 0 := by
  simp only [fitsB, Bool.and_eq_true, decide_eq_true_eq] at h
  obtain ⟨⟨⟨⟨h1, h2⟩, h3⟩, h4⟩, h5⟩ := h
  have := (fewB_bd h1).2.2.1
  refine ⟨h1, ?_⟩
  rw [checkV, if_pos ⟨h3, h4⟩, if_neg (by omega), h5]; rfl
end Go.Proofs.Ytkedcnemldjbeaa
