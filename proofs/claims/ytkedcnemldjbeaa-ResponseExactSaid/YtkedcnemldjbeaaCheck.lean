/- Rows of integers in memory; the walk over ceiling.check. Conditions: the arguments lie in memory. -/
import Derived.Test.YtkedcnemldjbeaaTkValid
import Derived.Test.YtkedcnemldjbeaaOwn
import Derived.Test.YtkedcnemldjbeaaResp
namespace Go.Proofs.Ytkedcnemldjbeaa
open Go.RowKit

def FitI (r : List Int) : Prop := ∀ x ∈ r, -9223372036854775808 ≤ x ∧ x ≤ 9223372036854775807
def RowsAt (w : World) (N : Nat) (a : Option Addr) (rs : List (List Int)) : Prop :=
  rs ≠ [] → ∃ b off, a = some ⟨b, off, none⟩ ∧ b < N ∧ ∀ i r, rs[i]? = some r → ∃ ra rc, w.cell? ⟨b, off + i, none⟩ = some (.slice ra r.length rc) ∧ r.length ≤ rc ∧ rc ≤ 9223372036854775807 ∧ IntsAt w N ra r
theorem RowsAt.keep {w w' : World} {N : Nat} {a : Option Addr} {rs : List (List Int)} (h : RowsAt w N a rs) (hb : Below N w w') : RowsAt w' N a rs := fun hne => by
  obtain ⟨b, off, e, hlt, hc⟩ := h hne
  refine ⟨b, off, e, hlt, fun i r hi => ?_⟩
  obtain ⟨ra, rc, c0, c1, c2, c3⟩ := hc i r hi
  exact ⟨ra, rc, keep_cellN hb hlt c0, c1, c2, c3.keep hb⟩
theorem RowsAt.more {w : World} {N N' : Nat} {a : Option Addr} {rs : List (List Int)} (h : RowsAt w N a rs) (hN : N ≤ N') : RowsAt w N' a rs := fun hne => by
  obtain ⟨b, off, e, hlt, hc⟩ := h hne
  refine ⟨b, off, e, by omega, fun i r hi => ?_⟩
  obtain ⟨ra, rc, c0, c1, c2, c3⟩ := hc i r hi
  exact ⟨ra, rc, c0, c1, c2, c3.more hN⟩
theorem RowsAt.on {w w' : World} {N : Nat} {a : Option Addr} {rs : List (List Int)} (h : RowsAt w N a rs) (hb : Below N w w') (hN : N ≤ w'.heap.size) : RowsAt w' w'.heap.size a rs := (h.keep hb).more hN
def rwAt (rs : List (List Int)) (i : Nat) : List Int := rs.getD i []
theorem rwAt_get {rs : List (List Int)} {i : Nat} (h : i < rs.length) : rs[i]? = some (rwAt rs i) := by
  rw [rwAt, List.getD_eq_getElem?_getD, List.getElem?_eq_getElem h]; rfl
theorem rwAt_mem {rs : List (List Int)} {i : Nat} (h : i < rs.length) : rwAt rs i ∈ rs := List.mem_of_getElem? (rwAt_get h)

def okAt (P : Int) (r : List Int) (k : Nat) : Prop := 0 ≤ r.getD k 0 ∧ (k = 0 ∨ P ≤ r.getD k 0 - r.getD (k - 1) 0)
instance (P : Int) (r : List Int) (k : Nat) : Decidable (okAt P r k) := by unfold okAt; exact inferInstance
def spB (P : Int) (r : List Int) : Bool := (List.range r.length).all fun k => decide (okAt P r k)
def rowsB (l : List CT) (rs : List (List Int)) : Bool := (List.range rs.length).all fun i => spB (ctAt l i).p (rwAt rs i)
def checkV (l : List CT) (rs : List (List Int)) (until_ : Int) : Int :=
  if validL l = true ∧ rs.length = l.length then (if until_ < 0 ∨ 100000 < until_ then 2 else if rowsB l rs then 0 else 2) else 1
theorem spB_iff {P : Int} {r : List Int} : spB P r = true ↔ ∀ k, k < r.length → okAt P r k := by
  simp [spB, List.all_eq_true]
theorem rowsB_iff {l : List CT} {rs : List (List Int)} : rowsB l rs = true ↔ ∀ i, i < rs.length → spB (ctAt l i).p (rwAt rs i) = true := by
  simp [rowsB, List.all_eq_true]
theorem getD_get {r : List Int} {k : Nat} (h : k < r.length) : r[k]? = some (r.getD k 0) := by
  rw [List.getD_eq_getElem?_getD, List.getElem?_eq_getElem h]; rfl
theorem getD_fit {r : List Int} (h : FitI r) {k : Nat} (hk : k < r.length) : -9223372036854775808 ≤ r.getD k 0 ∧ r.getD k 0 ≤ 9223372036854775807 :=
  h _ (List.mem_of_getElem? (getD_get hk))

set_option maxRecDepth 100000 in
set_option maxHeartbeats 3200000 in
theorem check_any (l : List CT) (a : Option Addr) (cap : Nat) (rs : List (List Int)) (ra : Option Addr) (rcap : Nat) (un : Int) (w : World) (hl : l.length ≤ 9223372036854775807) (hrl : rs.length ≤ 9223372036854775807) (hrr : ∀ r ∈ rs, FitI r)
    (hc : TasksAt w w.heap.size a l) (hr : RowsAt w w.heap.size ra rs) :
    Calls Try.prog 48 #[.slice a l.length cap, .slice ra rs.length rcap, .int .i64 un] w fun e w' => e = .returned (.int .i64 (checkV l rs un)) ∧ Below w.heap.size w w' := by
  have hlen : (l.length : Int) ≤ 9223372036854775807 := by omega
  have hrlen : (rs.length : Int) ≤ 9223372036854775807 := by omega
  have HRR := Lib.hid hrr
  clear hrr
  cases hv : validL l
  · have HF := Lib.hid (show checkV l rs un = 1 by simp [checkV, hv])
    have HV := Lib.hid hv
    clear hv
    go_enter Try.func48, Try.ntmps48
    go_wp2_with (go_at_call 20; refine (valid_any l a cap _ hl hc).mono ?_; rintro e w1 ⟨rfl, hb1⟩; rw [HV.out])
    go_ret
    exact ⟨ret_int HF.out.symm, hb1⟩
  · have HV := Lib.hid hv
    by_cases hne : rs.length = l.length
    · have HC := Lib.hid (show checkV l rs un = (if un < 0 ∨ 100000 < un then 2 else if rowsB l rs then 0 else 2) by rw [checkV, if_pos ⟨hv, hne⟩])
      have h20 := (validL_bd hv).1
      have HOK := Lib.hid (validL_bd hv).2
      have hq : ((rs.length : Int) != (l.length : Int)) = false := by simp [hne]
      have HNE := Lib.hid hne
      have hrl20 : (rs.length : Int) ≤ 20 := by omega
      clear hv hne
      by_cases hu : un < 0 ∨ 100000 < un
      · have HF := Lib.hid (show checkV l rs un = 2 by rw [HC.out, if_pos hu])
        have hu' : un < 0 ∨ (0 ≤ un ∧ 100000 < un) := by omega
        clear hu
        rcases hu' with h | ⟨h, h2⟩
        all_goals
          go_enter Try.func48, Try.ntmps48
          go_wp2_with (go_at_call 20; refine (valid_any l a cap _ hl hc).mono ?_; rintro e w1 ⟨rfl, hb1⟩; rw [HV.out])
          go_ret
          exact ⟨ret_int HF.out.symm, hb1⟩
      · have HF := Lib.hid (show checkV l rs un = (if rowsB l rs then 0 else 2) by rw [HC.out, if_neg hu])
        have u0 : 0 ≤ un := by omega
        have u1 : un ≤ 100000 := by omega
        clear hu HC
        go_enter Try.func48, Try.ntmps48
        go_wp2_with (go_at_call 20; refine (valid_any l a cap _ hl hc).mono ?_; rintro e w1 ⟨rfl, hb1⟩; rw [HV.out])
        clear hq
        go_loopw [29] (fun u wr => ∃ i : Nat, u = .int .i64 i ∧ i ≤ rs.length ∧ Hid (∀ i', i' < i → spB (ctAt l i').p (rwAt rs i') = true) ∧ Below w.heap.size w wr) (fun u _ => rs.length - (intOf u).toNat)
        case atStart => exact ⟨0, rfl, by omega, fun i' h => by omega, hb1⟩
        case round =>
          obtain ⟨i, rfl, hi, hok, hbl⟩ := hrel
          have hbs := hbl.size
          by_cases hlt : i < rs.length
          · have hil : i < l.length := by have := HNE.out; omega
            obtain ⟨b, off, rfl, hbN, hcell⟩ := hc (by intro e; simp [e] at hil)
            obtain ⟨_, c1, _, _, _, _, _, _⟩ := hcell i _ (ctAt_get hil)
            obtain ⟨⟨_, _, t3, t4, _⟩, _⟩ := okT_bd (HOK.out _ (ctAt_mem hil))
            obtain ⟨rb, roff, rfl, hrN, hrcell⟩ := hr (by intro e; simp [e] at hlt)
            obtain ⟨xa, xc, r0, hxc, hxc2, hxs⟩ := hrcell i _ (rwAt_get hlt)
            have HFI := Lib.hid (HRR.out _ (rwAt_mem hlt))
            have HNO := Lib.hid (show spB (ctAt l i).p (rwAt rs i) = false → rowsB l rs = false from fun h => by
              cases hq : rowsB l rs
              · rfl
              · rw [rowsB_iff.1 hq i hlt] at h; cases h)
            have HYES := Lib.hid (show spB (ctAt l i).p (rwAt rs i) = true → ∀ i', i' < i + 1 → spB (ctAt l i').p (rwAt rs i') = true from fun h i' hi' => by
              by_cases e : i' = i
              · subst e; exact h
              · exact hok.out i' (by omega))
            clear hok hcell hrcell
            generalize (ctAt l i).p = P at *
            generalize rwAt rs i = r at *
            have C1 := Lib.hid c1
            have r0 := keep_cellN hbl hrN r0
            have hlt' : (i : Int) < (rs.length : Int) := by omega
            have hlt2 : (i : Int) < (l.length : Int) := by omega
            have i0 : (0 : Int) ≤ (i : Int) := by omega
            have hrlen' : (r.length : Int) ≤ 9223372036854775807 := by omega
            clear c1
            go_wp2_with fail
            clear r0
            obtain ⟨wo, rfl⟩ : ∃ wo : World, wo = wr := ⟨_, rfl⟩
            go_loopw [36] (fun u wq => ∃ k : Nat, u = .int .i64 k ∧ k ≤ r.length ∧ Hid (∀ k', k' < k → okAt P r k') ∧ Below w.heap.size w wq) (fun u _ => r.length - (intOf u).toNat)
            case atStart => exact ⟨0, rfl, by omega, fun k' h => by omega, hbl⟩
            case round =>
              obtain ⟨k, rfl, hk, hok, hbl⟩ := hrel
              have hbs := hbl.size
              by_cases hkl : k < r.length
              · obtain ⟨xb, xoff, rfl, hxN, hxcell⟩ := hxs (by intro e; simp [e] at hkl)
                have x0 := keep_cellN hbl hxN (hxcell k _ (getD_get hkl))
                have f0 := getD_fit HFI.out hkl
                have hbad := Lib.hid (show ¬ okAt P r k → checkV l rs un = 2 from fun h => by
                  rw [HF.out, HNO.out (by
                    cases hq : spB P r
                    · rfl
                    · exact absurd (spB_iff.1 hq k hkl) h)]; rfl)
                have hgood := Lib.hid (show okAt P r k → ∀ k', k' < k + 1 → okAt P r k' from fun h k' hk' => by
                  by_cases e : k' = k
                  · subst e; exact h
                  · exact hok.out k' (by omega))
                have hkl' : (k : Int) < (r.length : Int) := by omega
                have k0 : (0 : Int) ≤ (k : Int) := by omega
                have hxw : xb < wr.heap.size := by omega
                have hbw : b < wr.heap.size := by omega
                by_cases ht : r.getD k 0 < 0
                · have HB := Lib.hid (hbad.out (fun h => by have := h.1; omega))
                  clear hbad hgood hok hxcell
                  generalize r.getD k 0 = t at *
                  have hd : decide (t < 0) = true := decide_eq_true ht
                  go_wp2_with fail
                  go_quiet (fail)
                  go_wp2_with fail
                  go_ret
                  exact ⟨ret_int HB.out.symm, below_drewN hbl _⟩
                · have hd : decide (r.getD k 0 < 0) = false := decide_eq_false ht
                  cases k with
                  | zero =>
                    have HG := Lib.hid (hgood.out ⟨by omega, .inl rfl⟩)
                    clear hbad hgood hok hxcell
                    rw [Nat.add_zero] at x0
                    generalize r.getD 0 0 = t at *
                    go_wp2_with fail
                    go_quiet (fail)
                    go_wp2_with fail
                    go_roundw
                    case rel => exact ⟨1, by go_num, by omega, HG.out, below_drewN hbl _⟩
                    case measure => simp [intOf]; omega
                  | succ m =>
                    have y0 := keep_cellN hbl hxN (hxcell m _ (getD_get (by omega)))
                    have hm := hok.out m (by omega)
                    have p0 : 0 ≤ r.getD m 0 := hm.1
                    have f1 := getD_fit HFI.out (k := m) (by omega)
                    have c1 := keep_cellN hbl hbN C1.out
                    have hbad' := Lib.hid (show r.getD (m + 1) 0 - r.getD m 0 < P → checkV l rs un = 2 from fun h => hbad.out (fun h2 => by
                      rcases h2.2 with h3 | h3
                      · omega
                      · rw [Nat.add_sub_cancel] at h3; omega))
                    have hgood' := Lib.hid (show ¬ r.getD (m + 1) 0 - r.getD m 0 < P → _ from fun h => hgood.out ⟨by omega, .inr (by rw [Nat.add_sub_cancel]; omega)⟩)
                    clear hbad hgood hok hxcell hm
                    generalize r.getD (m + 1) 0 = t at *
                    generalize r.getD m 0 = q at *
                    have hm0 : (0 : Int) ≤ (m : Int) := by omega
                    have hml : (m : Int) < (r.length : Int) := by omega
                    have hd2 : decide (q < 0) = false := decide_eq_false (by omega)
                    have wa : IntKind.i64.wrap (t - q) = t - q := IntWalk.i64_in _ (by omega)
                    have wb : IntKind.i64.wrap ((m : Int) + 1 - 1) = (m : Int) := by rw [show (m : Int) + 1 - 1 = m by omega]; exact IntWalk.i64_in _ (by omega)
                    by_cases hP : t - q < P
                    · have HB := Lib.hid (hbad'.out hP)
                      have hd3 : decide (t - q < P) = true := decide_eq_true hP
                      go_wp2_with fail
                      go_quiet (fail)
                      go_wp2_with fail
                      go_ret
                      exact ⟨ret_int HB.out.symm, below_drewN hbl _⟩
                    · have HG := Lib.hid (hgood'.out hP)
                      have hd3 : decide (t - q < P) = false := decide_eq_false hP
                      go_wp2_with fail
                      go_quiet (fail)
                      go_wp2_with fail
                      go_roundw
                      case rel => exact ⟨m + 2, by go_num, by omega, HG.out, below_drewN hbl _⟩
                      case measure => simp [intOf]; omega
              · have HG := Lib.hid (HYES.out (spB_iff.2 (fun k' hk' => hok.out k' (by omega))))
                clear hok
                go_wp2_with fail
                go_roundw
                case rel => exact ⟨i + 1, by go_num, by omega, HG.out, hbl⟩
                case measure => simp [intOf]; omega
          · have HG := Lib.hid (show checkV l rs un = 0 by rw [HF.out, rowsB_iff.2 (fun i' hi' => hok.out i' (by omega))]; rfl)
            clear hok
            go_wp2_with fail
            go_ret
            exact ⟨ret_int HG.out.symm, hbl⟩
    · have HF := Lib.hid (show checkV l rs un = 1 by rw [checkV, if_neg (fun h => hne h.2)])
      have hq : ((rs.length : Int) != (l.length : Int)) = true := by simp; omega
      clear hv hne
      go_enter Try.func48, Try.ntmps48
      go_wp2_with (go_at_call 20; refine (valid_any l a cap _ hl hc).mono ?_; rintro e w1 ⟨rfl, hb1⟩; rw [HV.out])
      go_ret
      exact ⟨ret_int HF.out.symm, hb1⟩
end Go.Proofs.Ytkedcnemldjbeaa
