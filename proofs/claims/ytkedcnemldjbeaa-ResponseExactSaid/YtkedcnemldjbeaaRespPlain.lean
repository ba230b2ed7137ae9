/- Response times as data: the least solution of the equation; bounds. Conditions: a valid list. -/
import Derived.Test.YtkedcnemldjbeaaInterf
namespace Go.Proofs.Ytkedcnemldjbeaa
open Go.RowKit

/-- The first of n numbers from r on that f leaves where it is. -/
def lf (f : Int → Int) : Nat → Int → Option Int
  | 0, _ => none
  | n + 1, r => if f r = r then some r else lf f n (r + 1)
theorem lf_some {f : Int → Int} : ∀ {n : Nat} {r0 r : Int}, r0 ≤ r → r < r0 + n → f r = r → (∀ y, r0 ≤ y → y < r → f y ≠ y) → lf f n r0 = some r
  | 0, r0, r, h1, h2, _, _ => by omega
  | n + 1, r0, r, h1, h2, h3, h4 => by
    rw [lf]
    by_cases h : f r0 = r0
    · rw [if_pos h]
      by_cases e : r0 = r
      · rw [e]
      · exact absurd h (h4 r0 (Int.le_refl _) (by omega))
    · rw [if_neg h]
      have hne : r0 ≠ r := fun e => h (by rw [e]; exact h3)
      exact lf_some (by omega) (by omega) h3 (fun y hy1 hy2 => h4 y (by omega) hy2)
theorem lf_none {f : Int → Int} : ∀ {n : Nat} {r0 : Int}, (∀ y, r0 ≤ y → y < r0 + n → f y ≠ y) → lf f n r0 = none
  | 0, r0, _ => rfl
  | n + 1, r0, h => by
    rw [lf, if_neg (h r0 (Int.le_refl _) (by omega))]
    exact lf_none (fun y hy1 hy2 => h y (by omega) (by omega))
theorem lf_spec {f : Int → Int} : ∀ {n : Nat} {r0 r : Int}, lf f n r0 = some r → r0 ≤ r ∧ r < r0 + n ∧ f r = r ∧ ∀ y, r0 ≤ y → y < r → f y ≠ y
  | 0, r0, r, h => by simp [lf] at h
  | n + 1, r0, r, h => by
    rw [lf] at h
    by_cases hf : f r0 = r0
    · rw [if_pos hf] at h
      obtain rfl : r0 = r := by simpa using h
      exact ⟨Int.le_refl _, by omega, hf, fun y h1 h2 => by omega⟩
    · rw [if_neg hf] at h
      obtain ⟨h1, h2, h3, h4⟩ := lf_spec h
      refine ⟨by omega, by omega, h3, fun y hy1 hy2 => ?_⟩
      by_cases e : y = r0
      · rw [e]; exact hf
      · exact h4 y (by omega) hy2
theorem lf_none_spec {f : Int → Int} : ∀ {n : Nat} {r0 : Int}, lf f n r0 = none → ∀ y, r0 ≤ y → y < r0 + n → f y ≠ y
  | 0, r0, _, y, h1, h2 => by omega
  | n + 1, r0, h, y, h1, h2 => by
    rw [lf] at h
    by_cases hf : f r0 = r0
    · rw [if_pos hf] at h; cases h
    · rw [if_neg hf] at h
      by_cases e : y = r0
      · rw [e]; exact hf
      · exact lf_none_spec h y (by omega) (by omega)

theorem intL_add {v : Int} : ∀ {l : List CT} {n : Int}, intL v n l = n + intL v 0 l
  | [], n => by simp [intL]
  | t :: r, n => by
    have h1 := intL_add (v := v) (l := r) (n := intS v n t)
    have h2 := intL_add (v := v) (l := r) (n := intS v 0 t)
    show intL v (intS v n t) r = n + intL v (intS v 0 t) r
    rw [h1, h2]; simp only [intS]; omega
theorem intL_cons {v : Int} {t : CT} {r : List CT} : intL v 0 (t :: r) = t.c * ((v + t.p - 1) / t.p) + intL v 0 r := by
  show intL v (intS v 0 t) r = _
  rw [intL_add]; simp [intS]
theorem intL_mono {v v' : Int} (hv : v ≤ v') : ∀ {l : List CT}, (∀ t ∈ l, okT t = true) → intL v 0 l ≤ intL v' 0 l
  | [], _ => by simp [intL]
  | t :: r, h => by
    rw [intL_cons, intL_cons]
    obtain ⟨⟨t1, t2, t3, _⟩, _⟩ := okT_bd (h t (List.mem_cons_self ..))
    have ih := intL_mono hv (l := r) (fun t ht => h t (List.mem_cons_of_mem _ ht))
    have a : (v + t.p - 1) / t.p ≤ (v' + t.p - 1) / t.p := Int.ediv_le_ediv (by omega) (by omega)
    have b := Int.mul_le_mul_of_nonneg_left a (show 0 ≤ t.c by omega)
    omega
theorem intL_bd {v : Int} (h0 : 0 ≤ v) (h1 : v ≤ 100000) : ∀ {l : List CT}, (∀ t ∈ l, okT t = true) → 0 ≤ intL v 0 l ∧ intL v 0 l ≤ 101000000 * l.length
  | [], _ => by simp [intL]
  | t :: r, h => by
    rw [intL_cons]
    obtain ⟨⟨t1, t2, t3, t4, _⟩, _⟩ := okT_bd (h t (List.mem_cons_self ..))
    obtain ⟨_, q2, q3⟩ := term_bd t1 t2 t3 t4 h0 h1
    have ih := intL_bd h0 h1 (l := r) (fun t ht => h t (List.mem_cons_of_mem _ ht))
    simp only [List.length_cons]
    omega

theorem blkSs_bd {m : Int → Option Int} {i c : Int} (hc : c ≤ 1000) : ∀ {ss : List Sec} {e acc : Int}, secsOK e c ss = true → 0 ≤ e → 0 ≤ acc → acc ≤ 1000 → 0 ≤ blkSs m i acc ss ∧ blkSs m i acc ss ≤ 1000
  | [], _, _, _, _, h0, h1 => ⟨h0, h1⟩
  | s :: r, e, acc, h, he, h0, h1 => by
    simp only [secsOK, Bool.and_eq_true, secOK, decide_eq_true_eq] at h
    obtain ⟨⟨a1, a2, a3, a4, a5⟩, a6⟩ := h
    show 0 ≤ blkSs m i (blkS m i acc s) r ∧ blkSs m i (blkS m i acc s) r ≤ 1000
    have hb : 0 ≤ blkS m i acc s ∧ blkS m i acc s ≤ 1000 := by
      unfold blkS; split <;> omega
    exact blkSs_bd hc a6 (by omega) hb.1 hb.2
theorem blkTs_bd {m : Int → Option Int} {i : Int} : ∀ {l : List CT} {acc : Int}, (∀ t ∈ l, okT t = true) → 0 ≤ acc → acc ≤ 1000 → 0 ≤ blkTs m i acc l ∧ blkTs m i acc l ≤ 1000
  | [], _, _, h0, h1 => ⟨h0, h1⟩
  | t :: r, acc, h, h0, h1 => by
    obtain ⟨⟨_, t2, _⟩, hs⟩ := okT_bd (h t (List.mem_cons_self ..))
    have hb := blkSs_bd (m := m) (i := i) t2 hs (Int.le_refl 0) h0 h1
    exact blkTs_bd (l := r) (fun t ht => h t (List.mem_cons_of_mem _ ht)) hb.1 hb.2
theorem blkV_bd {l : List CT} {i : Int} (h : exB l i = true) : 0 ≤ blkV l i ∧ blkV l i ≤ 1000 := by
  rw [blkV, if_pos h]
  obtain ⟨h1, h2⟩ := validL_bd (exB_true h).1
  exact blkTs_bd (fun t ht => h2 t (List.mem_of_mem_drop ht)) (by decide) (by decide)

def rhs (l : List CT) (i : Nat) (base v : Int) : Int := base + intL v 0 (l.take i)
def ctAt (l : List CT) (i : Nat) : CT := l.getD i ⟨0, 0, 0, []⟩
def baseV (l : List CT) (i : Nat) : Int := (ctAt l i).c + blkV l i
def respO (l : List CT) (i : Nat) : Option Int := lf (rhs l i (baseV l i)) ((ctAt l i).d + 1 - baseV l i).toNat (baseV l i)
def respR (l : List CT) (i : Int) : Int := if exB l i then (respO l i.toNat).getD 0 else 0
def respE (l : List CT) (i : Int) : Int := if validL l then (if exB l i then (if (respO l i.toNat).isSome then 0 else 21) else 2) else 1
theorem rhs_mono {l : List CT} {i : Nat} {base v v' : Int} (hok : ∀ t ∈ l, okT t = true) (h : v ≤ v') : rhs l i base v ≤ rhs l i base v' := by
  have := intL_mono h (l := l.take i) (fun t ht => hok t (List.mem_of_mem_take ht))
  unfold rhs; omega
theorem rhs_bd {l : List CT} {i : Nat} {base v : Int} (hok : ∀ t ∈ l, okT t = true) (hi : i ≤ 20) (h0 : 0 ≤ v) (h1 : v ≤ 100000) : base ≤ rhs l i base v ∧ rhs l i base v ≤ base + 2020000000 := by
  have := intL_bd h0 h1 (l := l.take i) (fun t ht => hok t (List.mem_of_mem_take ht))
  have hl : (l.take i).length ≤ 20 := by rw [List.length_take]; omega
  unfold rhs; omega
end Go.Proofs.Ytkedcnemldjbeaa
