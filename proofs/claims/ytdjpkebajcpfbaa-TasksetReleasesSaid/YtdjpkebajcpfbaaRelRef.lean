/- The walk over the reference's Releases. Conditions: the requests lie in memory; at most 30, none greater than 2^41. -/
import Derived.Test.YtdjpkebajcpfbaaRelP
import Derived.OwnWalk
import Derived.BigQuiet
import Derived.Deep.DeepCutAuto
namespace Go.Proofs.Ytdjpkebajcpfbaa
open Go.RowKit Go.Deep

def RRPost (P U : Int) (os : List Int) (w : World) (e : Ending) (w' : World) : Prop :=
  (rowB os = true → ∃ a cap, e = .returned (.tuple #[.slice a (relT P U os 0).length cap, .bool true]) ∧ (relT P U os 0).length ≤ cap ∧ cap ≤ 9223372036854775807 ∧ IntsAt w' w'.heap.size a (relT P U os 0) ∧ ∀ g o, a = some ⟨g, o, none⟩ → w.heap.size ≤ g) ∧
  (rowB os = false → e = .returned (.tuple #[.slice none 0 0, .bool false])) ∧ Below w.heap.size w w'
theorem rowB_nonneg {os : List Int} {k : Nat} (h : ∀ j, j < k → prevI os j ≤ os.getD j 0) : ∀ j, j < k → 0 ≤ os.getD j 0
  | 0, hj => by have := h 0 hj; simpa [prevI] using this
  | j + 1, hj => by
    have h1 := rowB_nonneg h j (by omega)
    have h2 := h (j + 1) hj
    rw [prevI_succ] at h2
    omega
theorem refT_step {P U e : Int} {os : List Int} {k : Nat} (h : k < os.length) : refT P U (os.drop k) e = if max (os.getD k 0) e < U then max (os.getD k 0) e :: refT P U (os.drop (k + 1)) (max (os.getD k 0) e + P) else refT P U (os.drop (k + 1)) (max (os.getD k 0) e + P) := by
  rw [drop_get h, refT]

set_option maxRecDepth 100000 in
set_option maxHeartbeats 6400000 in
theorem rrel_any (nm : ByteArray) (c : Int) (P : Nat) (os : List Int) (oa : Option Addr) (oc : Nat) (U : Int) (w : World) (hP1 : 1 ≤ P) (hP : P ≤ 1000) (hU : -9223372036854775808 ≤ U ∧ U ≤ 9223372036854775807)
    (hf : FitI os) (h30 : os.length ≤ 30) (hb : ∀ x ∈ os, x ≤ 2199023255552) (ho : IntsAt w w.heap.size oa os) :
    Calls Try.prog 22 #[.agg #[.string nm, .int .i64 c, .int .i64 P], .slice oa os.length oc, .int .i64 U] w (RRPost P U os w) := by
  have hoI : (os.length : Int) ≤ 30 := by omega
  have b0 := (Below.refl w.heap.size w).alloc (Nat.le_refl _) (.cells #[.string nm, .int .i64 c, .int .i64 P] 46)
  have J0 := Go.Deep.blk_alloc_new w (.cells #[.string nm, .int .i64 c, .int .i64 P] 46)
  have s0 : w.heap.size < (w.alloc (.cells #[.string nm, .int .i64 c, .int .i64 P] 46)).heap.size := by simp
  have HO := Lib.hid ho
  have HF := Lib.hid hf
  have HB := Lib.hid hb
  have HPN := Lib.hid (show (0 : Int) ≤ (P : Int) by omega)
  clear ho hf hb
  go_enter Try.func22, Try.ntmps22
  go_upto_region 1 with fail
  generalize w.alloc _ = w1 at *
  obtain ⟨j0, j1, j2⟩ := blkT J0
  have HJ := Lib.hid J0
  clear J0
  go_wp2_with fail
  have hbw : Below w1.heap.size w1 w1 := Below.refl _ _
  go_loopw [10, 9, 8] (fun u v x wr => ∃ (k : Nat) (e : Int) (D : List Int), u = .int .i64 k ∧ k ≤ os.length ∧ v = .int .i64 (e - (P : Int)) ∧ 0 ≤ e ∧ e ≤ 2199023255552 + 1000 * k ∧ D.length ≤ k ∧ Hid (∀ j, j < k → prevI os j ≤ os.getD j 0) ∧ Hid (refT P U os 0 = D ++ refT P U (os.drop k) e) ∧ Hid (Win wr 3 1 x D.length (cellsI D) ∧ ∀ g, x.ownBlock = some g → w1.heap.size ≤ g) ∧ Below w1.heap.size w1 wr) (fun u _ _ _ => os.length - (intOf u).toNat)
  case atStart => exact ⟨0, 0, [], rfl, by omega, by simp, by omega, by omega, Nat.le_refl _, Lib.hid (fun j hj => absurd hj (Nat.not_lt_zero _)), Lib.hid rfl, Lib.hid ⟨Win.nil _ _ _, fun g hg => by simp [Value.ownBlock] at hg⟩, hbw⟩
  case round =>
    clear hbw j0 j1 j2
    obtain ⟨k, e, D, rfl, hk, rfl, he0, he1, hD, hpre, href, hwin, hbl⟩ := hrel
    have hszl := hbl.size
    have j2 := keep_cellN hbl s0 (blkT HJ.out).2.2
    have hwl : w.heap.size < wr.heap.size := by omega
    have hwin0 : ∀ n, Win (wr.drewN n) 3 1 u8 D.length (cellsI D) ∧ ∀ g, u8.ownBlock = some g → w1.heap.size ≤ g := fun n => ⟨hwin.out.1.of_block (fun _ _ => rfl), hwin.out.2⟩
    have HWIN := Lib.hid hwin0
    clear hwin0
    by_cases h0 : k < os.length
    · have h0I : (k : Int) < (os.length : Int) := by omega
      obtain ⟨ob, oo, rfl, hoN, hoc⟩ := HO.out (by intro e; simp [e] at h0)
      have hbw := b0.trans (hbl.mono b0.size)
      have x0 := keep_cellN hbw hoN (hoc k _ (getD_get h0))
      have hobr : ob < wr.heap.size := by have := hbw.size; omega
      have hx1 := HB.out _ (List.mem_of_getElem? (getD_get h0))
      have hx0 := (getD_fit HF.out h0).1
      have HBAD := Lib.hid (fun (h : ¬ prevI os k ≤ os.getD k 0) => rowB_no h0 h)
      have HNX := Lib.hid (fun (h : prevI os k ≤ os.getD k 0) j (hj : j < k + 1) => show prevI os j ≤ os.getD j 0 from by
        by_cases e : j = k
        · subst e; exact h
        · exact hpre.out j (by omega))
      have HST := Lib.hid (refT_step (P := P) (U := U) (e := e) h0)
      have hnn := rowB_nonneg hpre.out
      by_cases hx : os.getD k 0 < 0
      · have hbad : ¬ prevI os k ≤ os.getD k 0 := by
          cases k with
          | zero => simp only [prevI]; simpa using hx
          | succ j => rw [prevI_succ]; have := hnn j (by omega); omega
        have HR := Lib.hid (HBAD.out hbad)
        have d1 : decide (os.getD k 0 < 0) = true := decide_eq_true hx
        clear HNX HST hpre href HBAD hnn hbad hwin HWIN hoc
        generalize os.getD k 0 = x at *
        go_upto_region 6 with fail
        go_quiet (fail)
        go_wp2_with fail
        go_ret2
        exact ⟨fun h => absurd (h.symm.trans HR.out) (by decide), fun _ => rfl, below_drewN hbw _⟩
      · have d1 : decide (os.getD k 0 < 0) = false := decide_eq_false hx
        by_cases hok : prevI os k ≤ os.getD k 0
        · have HNY := Lib.hid (HNX.out hok)
          clear hpre HBAD HNX
          go_upto_region 6 with fail
          go_cut [40] (fun u wx => u = .bool false ∧ ∃ n, wx = wr.drewN n)
          case first =>
            clear HST href hwin HWIN HNY
            by_cases hk0 : k = 0
            · have d2 : decide ((0 : Int) < (k : Int)) = false := decide_eq_false (by omega)
              have d2n : decide (0 < k) = false := decide_eq_false (by omega)
              clear hoc hnn hok hk0
              generalize os.getD k 0 = x at *
              go_quiet (fail)
              go_wp2_with fail
              go_meet
              case rel => exact ⟨rfl, _, rfl⟩
            · obtain ⟨j, rfl⟩ : ∃ j, k = j + 1 := ⟨k - 1, by omega⟩
              rw [prevI_succ] at hok
              have y0 := keep_cellN hbw hoN (hoc j _ (getD_get (by omega)))
              have d3 : decide (os.getD (j + 1) 0 < os.getD j 0) = false := decide_eq_false (by omega)
              have d2 : decide ((0 : Int) < ((j + 1 : Nat) : Int)) = true := decide_eq_true (by omega)
              have k0 : ((j + 1 : Nat) : Int) - 1 = (j : Int) := by omega
              have k1 : (j : Int) < (os.length : Int) := by omega
              clear hoc hnn
              generalize os.getD (j + 1) 0 = x at *
              generalize os.getD j 0 = y at *
              go_quiet (fail)
              go_wp2_with fail
              go_meet
              case rel => exact ⟨rfl, _, rfl⟩
          case rest =>
            obtain ⟨rfl, n, rfl⟩ := hcut
            have hbl2 : Below w1.heap.size w1 (wr.drewN n) := below_drewN hbl _
            have hwin := Lib.hid (HWIN.out n)
            have j2 := keep_cellN hbl2 s0 (blkT HJ.out).2.2
            have hbw2 := b0.trans (hbl2.mono b0.size)
            have x0 := keep_cellN hbw2 hoN (hoc k _ (getD_get h0))
            have hsz2 : wr.heap.size ≤ (wr.drewN n).heap.size := Nat.le_refl _
            have HM1 := Lib.hid (fun (M : Int) (hM : max (os.getD k 0) e = M) (hU : M < U) => show refT P U os 0 = (D ++ [M]) ++ refT P U (os.drop (k + 1)) (M + P) from by
              rw [href.out, HST.out, hM, if_pos hU, List.append_assoc]; rfl)
            have HM2 := Lib.hid (fun (M : Int) (hM : max (os.getD k 0) e = M) (hU : ¬ M < U) => show refT P U os 0 = D ++ refT P U (os.drop (k + 1)) (M + P) from by
              rw [href.out, HST.out, hM, if_neg hU])
            clear hbl HWIN HST href hoc hnn hok hbw
            generalize wr.drewN n = w2 at *
            generalize os.getD k 0 = x at *
            have hew : wrap64 e = e := IntWalk.wrap64_in _ (by omega)
            have hep : e - (P : Int) + (P : Int) = e := by omega
            have hwl2 : w.heap.size < w2.heap.size := by omega
            have hob2 : ob < w2.heap.size := by omega
            go_upto_region 8 with fail
            go_cut [9] (fun u wx => u = .int .i64 (max x e) ∧ ∃ n, wx = w2.drewN n)
            case first =>
              clear HM1 HM2 hwin HNY
              by_cases hxe : x < e
              · have hm : max x e = e := by omega
                go_quiet (fail)
                go_wp2_with fail
                go_meet
                case rel => exact ⟨by rw [hm], _, rfl⟩
              · have hm : max x e = x := by omega
                go_quiet (fail)
                go_wp2_with fail
                go_meet
                case rel => exact ⟨by rw [hm], _, rfl⟩
            case rest =>
              obtain ⟨rfl, n2, rfl⟩ := hcut
              have hM1 : max x e ≤ 2199023255552 + 1000 * k := by omega
              have hM0 : 0 ≤ max x e := by omega
              have HM1 := Lib.hid (fun h => HM1.out (max x e) rfl h)
              have HM2 := Lib.hid (fun h => HM2.out (max x e) rfl h)
              generalize max x e = M at *
              have hbl3 : Below w1.heap.size w1 (w2.drewN n2) := below_drewN hbl2 _
              have hwin3 := hwin.out.1.of_block (w' := w2.drewN n2) (fun _ _ => rfl)
              have hown3 := hwin.out.2
              clear hbl2 hwin x0 j2 hep hew hbw2
              generalize w2.drewN n2 = w3 at *
              by_cases hMU : M < U
              · have HR := Lib.hid (HM1.out hMU)
                obtain ⟨v', w', hrun, h1, h2, h3, h4⟩ := int_push hwin3 hown3 hbl3.size M (by omega)
                have H1 := Lib.hid (And.intro h1 (fun g hg => show w1.heap.size ≤ g from by
                  rcases h4 g hg with h5 | h5
                  · exact hown3 g h5
                  · have := hbl3.size; omega))
                have b3 := hbl3.trans h2
                clear HM1 HM2 hwin3 hown3 h1 h2 h3 h4 hbl3
                go_wp2_with (at_builtin; refine wpList_append_by rfl (.tmp 53) (.tmp 55) 41 rfl u8 (.slice (some ⟨w3.heap.size, 0, none⟩) 1 1) v' w' rfl rfl hrun ?_)
                go_roundw
                case rel => exact ⟨k + 1, M + P, D ++ [M], by go_num, by omega, congrArg (Value.int .i64) (by omega), by omega, by omega, by simp; omega, HNY, HR, H1, b3⟩
                case measure => simp [intOf]; omega
              · have HR := Lib.hid (HM2.out hMU)
                have H1 := Lib.hid (And.intro hwin3 hown3)
                clear HM1 HM2 hwin3 hown3
                go_wp2_with fail
                go_roundw
                case rel => exact ⟨k + 1, M + P, D, by go_num, by omega, congrArg (Value.int .i64) (by omega), by omega, by omega, by omega, HNY, HR, H1, hbl3⟩
                case measure => simp [intOf]; omega
        · have HR := Lib.hid (HBAD.out hok)
          clear HNX HST hpre href HBAD hwin HWIN
          cases k with
          | zero => exact absurd (show prevI os 0 ≤ os.getD 0 0 by simp only [prevI]; simpa using hx) hok
          | succ j =>
            rw [prevI_succ] at hok
            have y0 := keep_cellN hbw hoN (hoc j _ (getD_get (by omega)))
            have d3 : decide (os.getD (j + 1) 0 < os.getD j 0) = true := decide_eq_true (by omega)
            have d2 : decide ((0 : Int) < ((j + 1 : Nat) : Int)) = true := decide_eq_true (by omega)
            have k0 : ((j + 1 : Nat) : Int) - 1 = (j : Int) := by omega
            have k1 : (j : Int) < (os.length : Int) := by omega
            clear hoc hnn
            generalize os.getD (j + 1) 0 = x at *
            generalize os.getD j 0 = y at *
            go_upto_region 6 with fail
            go_quiet (fail)
            go_wp2_with fail
            go_ret2
            exact ⟨fun h => absurd (h.symm.trans HR.out) (by decide), fun _ => rfl, below_drewN hbw _⟩
    · obtain rfl : k = os.length := by omega
      have hrow := rowB_iff.2 hpre.out
      have hD2 : relT P U os 0 = D := by
        rw [← refT_eq HPN.out, href.out, List.drop_eq_nil_of_le (Nat.le_refl _)]
        simp [refT]
      obtain ⟨oa2, oc2, rfl, q1, q2, q3⟩ := cellsI_ints hwin.out.1
      have HR := Lib.hid (And.intro hrow hD2)
      have Q3 := Lib.hid q3
      have Q4 := Lib.hid (fun g o (e : oa2 = some ⟨g, o, none⟩) => show w.heap.size ≤ g from by
        have := hwin.out.2 g (by subst e; simp [Value.ownBlock])
        omega)
      clear hpre href hwin HWIN hrow hD2 q3
      go_wp2_with fail
      go_ret2
      refine ⟨fun _ => ?_, fun h => absurd (h.symm.trans HR.out.1) (by decide), b0.trans (hbl.mono b0.size)⟩
      rw [HR.out.2]
      exact ⟨oa2, oc2, rfl, q1, q2, Q3.out, Q4.out⟩
end Go.Proofs.Ytdjpkebajcpfbaa
