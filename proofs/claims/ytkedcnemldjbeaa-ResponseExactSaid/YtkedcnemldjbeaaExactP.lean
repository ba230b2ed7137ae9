/- A response time is exact without sections: the plain part. Conditions: a valid list without sections. -/
import Derived.Test.YtkedcnemldjbeaaSafeP
import Derived.Test.YtkedcnemldjbeaaPlainAbove
import Derived.Test.YtkedcnemldjbeaaSwI
namespace Go.Proofs.Ytkedcnemldjbeaa
open Go.RowKit

/-- How many releases come before the end. -/
def mX (P u : Int) : Nat := ((u + P - 1) / P).toNat
def rowX (P u at0 : Int) : List Int := (List.range (mX P u)).map fun k : Nat => at0 + k * P
theorem mX_iff {P u : Int} (hP : 1 ≤ P) {k : Nat} : k < mX P u ↔ (k : Int) * P < u := by
  unfold mX
  have h : (k : Int) + 1 ≤ (u + P - 1) / P ↔ ((k : Int) + 1) * P ≤ u + P - 1 := Int.le_ediv_iff_mul_le (by omega)
  rw [Int.add_mul] at h
  omega
theorem rowX_len (P u a : Int) : (rowX P u a).length = mX P u := by simp [rowX]
theorem rowX_get {P u a : Int} {k : Nat} {x : Int} (h : (rowX P u a)[k]? = some x) : k < mX P u ∧ x = a + k * P := by
  have hk := (List.getElem?_eq_some_iff.1 h).1
  rw [rowX_len] at hk
  unfold rowX at h
  rw [List.getElem?_map, List.getElem?_range hk] at h
  simp at h
  exact ⟨hk, h.symm⟩
def relX (l : List CT) (u at0 : Int) (i : Nat) : List Int := rowX (ctAt l i).p u at0
def relsX (l : List CT) (u at0 : Int) : List (List Int) := rowsI l.length (relX l u at0)
theorem relsX_len (l : List CT) (u at0 : Int) : (relsX l u at0).length = l.length := rowsI_len _ _
theorem relsX_rows {l : List CT} (hv : validL l = true) {u at0 : Int} (h0 : 0 ≤ at0) : rowsB l (relsX l u at0) = true := by
  rw [rowsB_iff]
  intro i hi
  rw [relsX_len] at hi
  unfold relsX
  rw [rowsI_at hi, spB_iff]
  intro k hk
  have hp := (okT_bd ((validL_bd hv).2 _ (ctAt_mem hi))).1.2.2.1
  obtain ⟨h1, h2⟩ := rowX_get (getD_get hk)
  have hm : 0 ≤ (k : Int) * (ctAt l i).p := Int.mul_nonneg (by omega) (by omega)
  have hk : k < (rowX (ctAt l i).p u at0).length := hk
  show okAt (ctAt l i).p (rowX (ctAt l i).p u at0) k
  unfold okAt
  refine ⟨by rw [h2]; omega, ?_⟩
  by_cases e : k = 0
  · exact .inl e
  · right
    obtain ⟨h3, h4⟩ := rowX_get (getD_get (show k - 1 < (rowX (ctAt l i).p u at0).length by omega))
    have hm' : 0 ≤ ((k - 1 : Nat) : Int) * (ctAt l i).p := Int.mul_nonneg (by omega) (by omega)
    have e2 : (k : Int) * (ctAt l i).p = ((k - 1 : Nat) : Int) * (ctAt l i).p + (ctAt l i).p := by
      rw [show (k : Int) = ((k - 1 : Nat) : Int) + 1 by omega, Int.add_mul]; omega
    rw [h2, h4]
    omega
theorem sumN_nn {f : Nat → Int} : ∀ {n : Nat}, (∀ i, i < n → 0 ≤ f i) → 0 ≤ sumN n f
  | 0, _ => Int.le_refl _
  | n + 1, h => by
    have h1 := sumN_nn (n := n) (fun i hi => h i (by omega))
    have h2 := h n (by omega)
    rw [sumN]; omega
/-- Every first job that ends needs its response time; and it ends. -/
theorem exact_plain {l : List CT} (hv : validL l = true) (hf : ∀ t ∈ l, t.ss = []) {u at0 : Int} (h0 : 0 ≤ at0) (hu : ∀ i, i < l.length → (ctAt l i).d ≤ u) {i : Nat} (hi : i < l.length) (h : respE l i = 0) {k : Nat} (hk : (k : Int) = at0 + u) :
    (∀ j ∈ (run (envOf l (relsX l u at0)) k).en, j.tk = i → j.rel = at0 → j.en - j.rel = respR l i) ∧ ∃ j ∈ (run (envOf l (relsX l u at0)) k).en, j.tk = i ∧ j.rel = at0 := by
  have hn := relsX_len l u at0
  have hs := relsX_rows (u := u) hv h0
  have hE := env_ok hv hn hs
  obtain ⟨r, hr, hR⟩ := respE_zero hv hi h
  obtain ⟨r1, r2, hfit⟩ := resp_fit hv hn hs hi hr
  have hok := (validL_bd hv).2
  have htk : ∀ j, j < l.length → 1 ≤ (ctAt l j).c ∧ 1 ≤ (ctAt l j).p := fun j hj => by
    have := (okT_bd (hok _ (ctAt_mem hj))).1
    exact ⟨this.1, this.2.2.1⟩
  have hrel : ∀ j, j < l.length → (envOf l (relsX l u at0)).rel j = rowX (ctAt l j).p u at0 := fun j hj => rowsI_at hj
  have hu1 : 1 ≤ u := by
    have := hu i hi
    omega
  have hx0 : ((envOf l (relsX l u at0)).rel i)[0]? = some at0 := by
    rw [hrel i hi]
    have hm : 0 < mX (ctAt l i).p u := (mX_iff (htk i hi).2).2 (by simp; omega)
    unfold rowX
    rw [List.getElem?_map, List.getElem?_range hm]; simp
  refine ⟨fun j hj ht hrl => ?_, ?_⟩
  · have hle := done_safe hE (blk_env _ hv) hi r1 hfit k j hj ht
    have hact : ∀ (x : Nat) (d : Int), x < (envOf l (relsX l u at0)).n → (envOf l (relsX l u at0)).act x d = ((x : Int), false) := fun x d hx => by
      have e := hf _ (ctAt_mem (show x < l.length from hx))
      show actS (ceilM l) x d (ctAt l x).ss = _
      rw [e]; rfl
    have hX := xinv_run hE hact hi (fun x hx m y hy => by
      rw [hrel x (by omega)] at hy
      obtain ⟨_, rfl⟩ := rowX_get hy
      have : 0 ≤ (m : Int) * (ctAt l x).p := Int.mul_nonneg (by omega) (by have := (htk x (by omega)).2; omega)
      omega) hx0 k
    obtain ⟨M, hM, hsum⟩ := hX.B j hj ht hrl
    obtain ⟨x, hx⟩ := List.mem_iff_getElem?.1 hj
    have hend : j.en ≤ k := by
      obtain ⟨_, _, _, _, _, _, _, h8, _⟩ := (inv_run hE k).1.jobs x j hx
      exact h8
    have hnn : 0 ≤ sumN i fun j' => (envOf l (relsX l u at0)).cost j' * (M j' : Int) := sumN_nn fun j' hj' => Int.mul_nonneg (by have := hE.cost j' (show j' < l.length by omega); omega) (by omega)
    have hci := hE.cost i hi
    have hpos : 1 ≤ j.en - at0 := by omega
    -- the number of releases before the end
    have hcount : ∀ y, y < i → (M y : Int) = ((j.en - at0) + (ctAt l y).p - 1) / (ctAt l y).p := fun y hy => by
      obtain ⟨m1, m2, m3⟩ := hM y hy
      have hyl : y < l.length := by omega
      rw [hrel y hyl] at m1 m2 m3
      rw [rowX_len] at m3
      obtain ⟨_, hp⟩ := htk y hyl
      have get : ∀ z, z < mX (ctAt l y).p u → (rowX (ctAt l y).p u at0)[z]? = some (at0 + z * (ctAt l y).p) := fun z hz => by
        unfold rowX
        rw [List.getElem?_map, List.getElem?_range hz]; rfl
      have up : (M y : Int) * (ctAt l y).p ≤ (j.en - at0) + (ctAt l y).p - 1 := by
        cases hMy : M y with
        | zero =>
          simp
          omega
        | succ z =>
          have := m1 z _ (by omega) (get z (by omega))
          rw [show ((z + 1 : Nat) : Int) = (z : Int) + 1 by omega, Int.add_mul]
          omega
      have lo : (j.en - at0) ≤ (M y : Int) * (ctAt l y).p := by
        by_cases e : M y < mX (ctAt l y).p u
        · have := m2 (M y) _ (Nat.le_refl _) (get _ e)
          omega
        · have hge : ¬ (M y : Int) * (ctAt l y).p < u := fun h' => e ((mX_iff hp).2 h')
          omega
      apply Int.le_antisymm
      · rw [Int.le_ediv_iff_mul_le (by omega)]; exact up
      · have : ((j.en - at0) + (ctAt l y).p - 1) / (ctAt l y).p < (M y : Int) + 1 := by
          rw [Int.ediv_lt_iff_lt_mul (by omega), Int.add_mul]
          omega
        omega
    have hLsum : intL (j.en - at0) 0 (l.take i) = sumN i fun j' => (envOf l (relsX l u at0)).cost j' * (M j' : Int) := by
      rw [intL_sum (by omega)]
      exact sumN_congr fun y hy => by rw [hcount y hy]; rfl
    obtain ⟨g1, g2, g3, g4⟩ := lf_spec hr
    have hex : exB l i = true := by
      unfold exB
      rw [hv, decide_eq_true (by omega), decide_eq_true (by omega)]; rfl
    have hb0 := (blkV_bd hex).1
    have hbv : blkV l (i : Int) = 0 := by
      have hz : limV l i = 0 := blkTs_free (fun t ht => hf t (List.mem_of_mem_drop ht))
      unfold blkV
      rw [if_pos hex, Int.toNat_natCast]; exact hz
    have hbase : baseV l i = (ctAt l i).c := by unfold baseV; rw [hbv]; omega
    have hsol : rhs l i (baseV l i) (j.en - at0) = j.en - at0 := by
      unfold rhs
      rw [hLsum, hbase]
      have hc : (envOf l (relsX l u at0)).cost i = (ctAt l i).c := rfl
      omega
    rw [hR, hrl]
    rw [hrl] at hle
    by_cases e : j.en - at0 < r
    · have hge : baseV l i ≤ j.en - at0 := by
        rw [← hsol]
        unfold rhs
        have hnn : 0 ≤ intL (j.en - at0) 0 (l.take i) := by
          have := intL_mono (v := 0) (v' := j.en - at0) (by omega) (l := l.take i) (fun t ht => hok t (List.mem_of_mem_take ht))
          have h2 := (intL_bd (v := 0) (by omega) (by omega) (l := l.take i) (fun t ht => hok t (List.mem_of_mem_take ht))).1
          omega
        omega
      exact absurd hsol (g4 _ hge e)
    · omega
  · exact done_all hE (blk_env _ hv) hi r1 hfit hx0 (by have := hu i hi; omega)
end Go.Proofs.Ytkedcnemldjbeaa
