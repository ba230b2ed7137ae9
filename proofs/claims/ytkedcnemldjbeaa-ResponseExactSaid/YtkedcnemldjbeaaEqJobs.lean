/- The walk over slices.Equal of jobs. Conditions: the jobs lie in memory. -/
import Derived.Test.YtkedcnemldjbeaaSimEnv
import Derived.Outline
namespace Go.Proofs.Ytkedcnemldjbeaa
open Go.RowKit

set_option maxRecDepth 100000 in
set_option maxHeartbeats 3200000 in
theorem eqjobs_any (xs ys : List Jb) (a b : Option Addr) (ca cb : Nat) (w : World) (hx : xs.length ≤ 1000000) (hy : ys.length ≤ 1000000) (ha : JobsAt w w.heap.size a xs) (hb : JobsAt w w.heap.size b ys) :
    Calls Try.prog 37 #[.slice a xs.length ca, .slice b ys.length cb] w fun e w' => e = .returned (.bool (decide (xs = ys))) ∧ Below w.heap.size w w' := by
  have hxl : (xs.length : Int) ≤ 1000000 := by omega
  have hyl : (ys.length : Int) ≤ 1000000 := by omega
  by_cases hne : xs.length = ys.length
  · have hq : ((xs.length : Int) != (ys.length : Int)) = false := by simp [hne]
    have HNE := Lib.hid hne
    clear hne
    go_enter Try.func37, Try.ntmps37
    go_wp2_with fail
    clear hq
    go_loopw [13] (fun u wr => ∃ k : Nat, u = .int .i64 k ∧ k ≤ xs.length ∧ Hid (∀ i : Nat, i < k → xs[i]? = ys[i]?) ∧ Below w.heap.size w wr) (fun u _ => xs.length - (intOf u).toNat)
    case atStart => exact ⟨0, rfl, by omega, fun i h => by omega, Below.refl _ _⟩
    case round =>
      obtain ⟨k, rfl, hk, hok, hbl⟩ := hrel
      have hbs := hbl.size
      by_cases hlt : k < xs.length
      · have hlt2 : k < ys.length := by have := HNE.out; omega
        obtain ⟨ab, ao, rfl, haN, hac⟩ := ha (by intro e; simp [e] at hlt)
        obtain ⟨bb, bo, rfl, hbN, hbc⟩ := hb (by intro e; simp [e] at hlt2)
        obtain ⟨a0, a1, a2, a3, a4⟩ := hac k _ (List.getElem?_eq_getElem hlt)
        obtain ⟨b0, b1, b2, b3, b4⟩ := hbc k _ (List.getElem?_eq_getElem hlt2)
        have a0 := keep_cellN hbl haN a0
        have a1 := keep_cellN hbl haN a1
        have a2 := keep_cellN hbl haN a2
        have a3 := keep_cellN hbl haN a3
        have a4 := keep_cellN hbl haN a4
        have b0 := keep_cellN hbl hbN b0
        have b1 := keep_cellN hbl hbN b1
        have b2 := keep_cellN hbl hbN b2
        have b3 := keep_cellN hbl hbN b3
        have b4 := keep_cellN hbl hbN b4
        have haw : ab < wr.heap.size := by omega
        have hbw : bb < wr.heap.size := by omega
        have hlt' : (k : Int) < (xs.length : Int) := by omega
        have hlt2' : (k : Int) < (ys.length : Int) := by omega
        have k0 : (0 : Int) ≤ (k : Int) := by omega
        have HX := Lib.hid (List.getElem?_eq_getElem hlt)
        have HY := Lib.hid (List.getElem?_eq_getElem hlt2)
        clear hac hbc
        generalize xs[k] = x at *
        generalize ys[k] = y at *
        obtain ⟨x0, x1, x2, x3, x4⟩ := x
        obtain ⟨y0, y1, y2, y3, y4⟩ := y
        simp only at a0 a1 a2 a3 a4 b0 b1 b2 b3 b4
        by_cases he : (⟨x0, x1, x2, x3, x4⟩ : Jb) = ⟨y0, y1, y2, y3, y4⟩
        · have HN := Lib.hid (show ∀ i : Nat, i < k + 1 → xs[i]? = ys[i]? from fun i hi => by
            by_cases e : i = k
            · subst e; rw [HX.out, HY.out, he]
            · exact hok.out i (by omega))
          simp only [Jb.mk.injEq] at he
          obtain ⟨rfl, rfl, rfl, rfl, rfl⟩ := he
          clear hok HX HY
          go_wp2_with fail
          go_quiet (fail)
          go_wp2_with fail
          go_roundw
          case rel => exact ⟨k + 1, by go_num, by omega, HN.out, below_drewN hbl _⟩
          case measure => simp [intOf]; omega
        · have HF := Lib.hid (show decide (xs = ys) = false from decide_eq_false fun e => he (by
            have h1 := HX.out
            rw [e, HY.out] at h1
            injection h1 with h1
            exact h1.symm))
          have hcase : x0 ≠ y0 ∨ (x0 = y0 ∧ x1 ≠ y1) ∨ (x0 = y0 ∧ x1 = y1 ∧ x2 ≠ y2) ∨ (x0 = y0 ∧ x1 = y1 ∧ x2 = y2 ∧ x3 ≠ y3) ∨ (x0 = y0 ∧ x1 = y1 ∧ x2 = y2 ∧ x3 = y3 ∧ x4 ≠ y4) := by
            by_cases h0 : x0 = y0
            · by_cases h1 : x1 = y1
              · by_cases h2 : x2 = y2
                · by_cases h3 : x3 = y3
                  · by_cases h4 : x4 = y4
                    · exact absurd (by rw [h0, h1, h2, h3, h4]) he
                    · exact .inr (.inr (.inr (.inr ⟨h0, h1, h2, h3, h4⟩)))
                  · exact .inr (.inr (.inr (.inl ⟨h0, h1, h2, h3⟩)))
                · exact .inr (.inr (.inl ⟨h0, h1, h2⟩))
              · exact .inr (.inl ⟨h0, h1⟩)
            · exact .inl h0
          clear he hok HX HY
          rcases hcase with h | ⟨rfl, h⟩ | ⟨rfl, rfl, h⟩ | ⟨rfl, rfl, rfl, h⟩ | ⟨rfl, rfl, rfl, rfl, h⟩
          · have hq : ((x0 : Int) == (y0 : Int)) = false := beq_eq_false_iff_ne.2 (by omega)
            have h' : ¬ (x0 : Int) = (y0 : Int) := by omega
            go_wp2_with fail
            go_quiet (fail)
            go_wp2_with fail
            go_ret
            exact ⟨ret_bool HF.out.symm, below_drewN hbl _⟩
          all_goals
            have hq := beq_eq_false_iff_ne.2 h
            go_wp2_with fail
            go_quiet (fail)
            go_wp2_with fail
            go_ret
            exact ⟨ret_bool HF.out.symm, below_drewN hbl _⟩
      · have HF := Lib.hid (show decide (xs = ys) = true from decide_eq_true (List.ext_getElem? fun i => by
          by_cases hi : i < k
          · exact hok.out i hi
          · rw [List.getElem?_eq_none (by omega), List.getElem?_eq_none (by have := HNE.out; omega)]))
        have hlt' : ¬ (k : Int) < (xs.length : Int) := by omega
        clear hok
        go_wp2_with fail
        go_ret
        exact ⟨ret_bool HF.out.symm, hbl⟩
  · have HF := Lib.hid (show decide (xs = ys) = false from decide_eq_false fun e => hne (by rw [e]))
    have hq : ((xs.length : Int) != (ys.length : Int)) = true := by simp; omega
    clear hne
    go_enter Try.func37, Try.ntmps37
    go_wp2_with fail
    go_ret
    exact ⟨ret_bool HF.out.symm, Below.refl _ _⟩
end Go.Proofs.Ytkedcnemldjbeaa
