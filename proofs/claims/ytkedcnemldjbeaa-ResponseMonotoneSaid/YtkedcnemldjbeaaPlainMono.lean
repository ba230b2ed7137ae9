/- The plain facts of ResponseMonotone: more work never makes a response time smaller. Conditions: valid lists. -/
import Derived.Test.YtkedcnemldjbeaaPlainAbove
namespace Go.Proofs.Ytkedcnemldjbeaa
open Go.RowKit

theorem tasksS_ss : ∀ {l l' : List CT} {k : Nat} {st : (Int → Option Int) × Nat}, l.map CT.ss = l'.map CT.ss → tasksS k st l = tasksS k st l'
  | [], [], _, _, _ => rfl
  | [], _ :: _, _, _, h => by simp at h
  | _ :: _, [], _, _, h => by simp at h
  | t :: r, t' :: r', k, st, h => by
    simp only [List.map_cons, List.cons.injEq] at h
    rw [tasksS, tasksS, h.1]
    exact tasksS_ss h.2
theorem blkTs_ss {m : Int → Option Int} {i : Int} : ∀ {l l' : List CT} {acc : Int}, l.map CT.ss = l'.map CT.ss → blkTs m i acc l = blkTs m i acc l'
  | [], [], _, _ => rfl
  | [], _ :: _, _, h => by simp at h
  | _ :: _, [], _, h => by simp at h
  | t :: r, t' :: r', acc, h => by
    simp only [List.map_cons, List.cons.injEq] at h
    show blkTs m i (blkSs m i acc t.ss) r = blkTs m i (blkSs m i acc t'.ss) r'
    rw [h.1]
    exact blkTs_ss h.2
theorem blkV_ss {l l' : List CT} {n : Nat} (h : l.map CT.ss = l'.map CT.ss) (hx : exB l n = true) (hx' : exB l' n = true) : blkV l n = blkV l' n := by
  rw [blkV, blkV, if_pos hx, if_pos hx']
  have e : ceilM l = ceilM l' := by unfold ceilM ceilS; rw [tasksS_ss h]
  rw [e]
  exact blkTs_ss (by rw [List.map_drop, List.map_drop, h])
theorem set_ss {l : List CT} {j : Nat} {x : CT} (hj : j < l.length) (hx : x.ss = (ctAt l j).ss) : (l.set j x).map CT.ss = l.map CT.ss := by
  rw [List.map_set, hx, ctAt_eq hj]
  apply List.ext_getElem (by simp)
  intro i h1 h2
  rw [List.getElem_set]
  split
  · rename_i h; subst h; simp
  · rfl
theorem intL_set_le {v : Int} {x : CT} : ∀ {l : List CT} {j : Nat}, (∀ t, l[j]? = some t → t.c * ((v + t.p - 1) / t.p) ≤ x.c * ((v + x.p - 1) / x.p)) → intL v 0 l ≤ intL v 0 (l.set j x)
  | [], _, _ => Int.le_refl _
  | t :: r, 0, h => by
    have := h t rfl
    rw [List.set_cons_zero, intL_cons, intL_cons]; omega
  | t :: r, j + 1, h => by
    have := intL_set_le (l := r) (j := j) (fun s hs => h s (by simpa using hs))
    rw [List.set_cons_succ, intL_cons, intL_cons]; omega
theorem quot_anti {v p p' : Int} (hv : 0 ≤ v) (hp : 0 < p') (hpp : p' ≤ p) : (v + p - 1) / p ≤ (v + p' - 1) / p' := by
  have h1 := Int.lt_mul_ediv_self_add (x := v + p' - 1) hp
  have hq0 : 0 ≤ (v + p' - 1) / p' := Int.ediv_nonneg (by omega) (by omega)
  generalize (v + p' - 1) / p' = q at *
  have h2 : p' * q ≤ p * q := Int.mul_le_mul_of_nonneg_right hpp hq0
  have h3 : (v + p - 1) / p < q + 1 := Int.ediv_lt_of_lt_mul (by omega) (by rw [Int.add_mul, Int.mul_comm q p]; omega)
  omega

/-- The list l' works more before n, and n itself not less: its response time isn't smaller. -/
theorem resp_more {l l' : List CT} {n : Nat} (hv : validL l = true) (hv' : validL l' = true) (hn : n < l.length) (hn' : n < l'.length) (hs : l.map CT.ss = l'.map CT.ss)
    (hc : (ctAt l n).c ≤ (ctAt l' n).c) (hd : (ctAt l' n).d = (ctAt l n).d) (hi : ∀ v, 0 ≤ v → intL v 0 (l.take n) ≤ intL v 0 (l'.take n)) :
    (respE l' n = 0 ∧ respR l n ≤ respR l' n) ∨ respE l' n = 21 := by
  have hx := exB_mk hv hn
  have hx' := exB_mk hv' hn'
  have hb := blkV_ss hs hx hx'
  obtain ⟨B0, B1⟩ := blkV_bd hx
  obtain ⟨_, hok⟩ := validL_bd hv
  obtain ⟨⟨t1, t2, t3, t4, t5, t6, _⟩, _⟩ := okT_bd (hok _ (ctAt_mem hn))
  rw [respE_of hx', respR_of hx', respR_of hx]
  cases h : respO l' n with
  | none => right; rfl
  | some r' =>
    left
    refine ⟨rfl, ?_⟩
    obtain ⟨q1, q2, q3, _⟩ := lf_spec h
    unfold baseV at q1 q2
    unfold rhs baseV at q3
    have hir := hi r' (by omega)
    have h0 : 0 ≤ intL (baseV l n) 0 (l.take n) := (intL_bd (by unfold baseV; omega) (by unfold baseV; omega) (fun t ht => hok t (List.mem_of_mem_take ht))).1
    obtain ⟨r, e, hle⟩ := lf_below (f := rhs l n (baseV l n)) (n := ((ctAt l n).d + 1 - baseV l n).toNat) (r0 := baseV l n) (b := r') (fun x y hxy => rhs_mono hok hxy) (by unfold rhs; omega)
      (by unfold baseV; omega) (by unfold baseV; omega) (by unfold rhs baseV; omega)
    have e' : respO l n = some r := e
    rw [e']
    exact hle

def bumpC (t : CT) (m : Int) : CT := ⟨min (t.c + m) 1000, t.p, t.d, t.ss⟩
def cutP (t : CT) (m : Int) : CT := ⟨t.c, max 1 (t.p - m), min t.d (max 1 (t.p - m)), t.ss⟩

theorem secsOK_more {c c' : Int} (h : c ≤ c') : ∀ {ss : List Sec} {e : Int}, secsOK e c ss = true → secsOK e c' ss = true
  | [], _, _ => rfl
  | s :: r, e, hs => by
    simp only [secsOK, secOK, Bool.and_eq_true, decide_eq_true_eq] at hs ⊢
    exact ⟨by omega, secsOK_more h hs.2⟩
theorem okT_bump {t : CT} {m : Int} (hm : 0 ≤ m) (h : okT t = true) : okT (bumpC t m) = true := by
  simp only [okT, headOK, Bool.and_eq_true, decide_eq_true_eq] at h
  obtain ⟨⟨h1, h2, h3, h4, h5, h6, h7⟩, h8⟩ := h
  unfold okT headOK
  rw [Bool.and_eq_true, decide_eq_true_eq]
  simp only [bumpC]
  exact ⟨⟨by omega, by omega, h3, h4, h5, h6, h7⟩, secsOK_more (by omega) h8⟩
theorem okT_cut {t : CT} {m : Int} (hm : 0 ≤ m) (h : okT t = true) : okT (cutP t m) = true := by
  simp only [okT, headOK, Bool.and_eq_true, decide_eq_true_eq] at h
  obtain ⟨⟨h1, h2, h3, h4, h5, h6, h7⟩, h8⟩ := h
  unfold okT headOK
  rw [Bool.and_eq_true, decide_eq_true_eq]
  simp only [cutP]
  exact ⟨⟨h1, h2, by omega, by omega, by omega, by omega, h7⟩, h8⟩
theorem validL_set {l : List CT} {j : Nat} {x : CT} (hv : validL l = true) (hx : okT x = true) : validL (l.set j x) = true := by
  obtain ⟨h1, h2⟩ := validL_bd hv
  simp only [validL, Bool.and_eq_true, decide_eq_true_eq, List.length_set, List.all_eq_true]
  exact ⟨h1, fun t ht => by
    rcases List.mem_or_eq_of_mem_set ht with h | h
    · exact h2 t h
    · rw [h]; exact hx⟩
theorem ctAt_set {l : List CT} {j n : Nat} {x : CT} (hn : n < l.length) : ctAt (l.set j x) n = if j = n then x else ctAt l n := by
  rw [ctAt_eq (by simpa using hn), List.getElem_set, ctAt_eq hn]

theorem mono_cost {l : List CT} {n j : Nat} {m : Int} (hv : validL l = true) (hn : n < l.length) (hj : j < l.length) (hm : 0 ≤ m) :
    (respE (l.set j (bumpC (ctAt l j) m)) n = 0 ∧ respR l n ≤ respR (l.set j (bumpC (ctAt l j) m)) n) ∨ respE (l.set j (bumpC (ctAt l j) m)) n = 21 := by
  obtain ⟨_, hok⟩ := validL_bd hv
  have hj' := hok _ (ctAt_mem hj)
  obtain ⟨⟨t1, t2, t3, t4, t5, t6, _⟩, _⟩ := okT_bd hj'
  have hv' := validL_set (j := j) hv (okT_bump hm hj')
  refine resp_more hv hv' hn (by simpa using hn) (set_ss (x := bumpC (ctAt l j) m) hj rfl).symm ?_ ?_ ?_
  · rw [ctAt_set hn]; split
    · rename_i h; subst h; show _ ≤ min _ _; omega
    · exact Int.le_refl _
  · rw [ctAt_set hn]; split
    · rename_i h; subst h; rfl
    · rfl
  · intro v h0
    rw [List.take_set]
    refine intL_set_le (fun t ht => ?_)
    have ht2 : t = ctAt l j := by
      rw [List.getElem?_take] at ht
      by_cases h : j < n
      · rw [if_pos h, ctAt_get hj] at ht; simpa using ht.symm
      · rw [if_neg h] at ht; cases ht
    subst ht2
    show _ ≤ min ((ctAt l j).c + m) 1000 * ((v + (ctAt l j).p - 1) / (ctAt l j).p)
    exact Int.mul_le_mul_of_nonneg_right (by omega) (Int.ediv_nonneg (by omega) (by omega))
theorem mono_period {l : List CT} {n j : Nat} {m : Int} (hv : validL l = true) (hn : n < l.length) (hj : j < n) (hm : 0 ≤ m) :
    (respE (l.set j (cutP (ctAt l j) m)) n = 0 ∧ respR l n ≤ respR (l.set j (cutP (ctAt l j) m)) n) ∨ respE (l.set j (cutP (ctAt l j) m)) n = 21 := by
  obtain ⟨_, hok⟩ := validL_bd hv
  have hjl : j < l.length := by omega
  have hj' := hok _ (ctAt_mem hjl)
  obtain ⟨⟨t1, t2, t3, t4, t5, t6, _⟩, _⟩ := okT_bd hj'
  have hv' := validL_set (j := j) hv (okT_cut hm hj')
  refine resp_more hv hv' hn (by simpa using hn) (set_ss (x := cutP (ctAt l j) m) hjl rfl).symm ?_ ?_ ?_
  · rw [ctAt_set hn, if_neg (by omega)]; exact Int.le_refl _
  · rw [ctAt_set hn, if_neg (by omega)]
  · intro v h0
    rw [List.take_set]
    refine intL_set_le (fun t ht => ?_)
    have ht2 : t = ctAt l j := by
      rw [List.getElem?_take] at ht
      by_cases h : j < n
      · rw [if_pos h, ctAt_get hjl] at ht; simpa using ht.symm
      · rw [if_neg h] at ht; cases ht
    subst ht2
    exact Int.mul_le_mul_of_nonneg_left (quot_anti (p' := max 1 ((ctAt l j).p - m)) h0 (by omega) (by omega)) (by omega)
end Go.Proofs.Ytkedcnemldjbeaa
