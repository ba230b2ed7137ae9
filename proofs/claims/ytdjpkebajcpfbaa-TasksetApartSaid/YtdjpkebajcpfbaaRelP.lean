/- Releases of sporadic tasks: plain Lean. Conditions: each theorem's own. -/
import Derived.Test.YtdjpkebajcpfbaaLoadP
import Derived.Test.YtdjpkebajcpfbaaSwI
namespace Go.Proofs.Ytdjpkebajcpfbaa

def prevI (os : List Int) (k : Nat) : Int := if k = 0 then 0 else os.getD (k - 1) 0
def rowB (os : List Int) : Bool := (List.range os.length).all fun k => decide (prevI os k ≤ os.getD k 0)
def allB (rs : List (List Int)) : Bool := (List.range rs.length).all fun i => rowB (rwAt rs i)
theorem rowB_iff {os : List Int} : rowB os = true ↔ ∀ k, k < os.length → prevI os k ≤ os.getD k 0 := by simp [rowB, List.all_eq_true]
theorem allB_iff {rs : List (List Int)} : allB rs = true ↔ ∀ i, i < rs.length → rowB (rwAt rs i) = true := by simp [allB, List.all_eq_true]
theorem rowB_no {os : List Int} {k : Nat} (hk : k < os.length) (h : ¬ prevI os k ≤ os.getD k 0) : rowB os = false := by
  rcases hb : rowB os with _ | _
  · rfl
  · exact absurd (rowB_iff.1 hb k hk) h
theorem allB_no {rs : List (List Int)} {i : Nat} (hi : i < rs.length) (h : rowB (rwAt rs i) = false) : allB rs = false := by
  rcases hb : allB rs with _ | _
  · rfl
  · rw [allB_iff.1 hb i hi] at h; cases h
theorem prevI_succ (os : List Int) (k : Nat) : prevI os (k + 1) = os.getD k 0 := by simp [prevI]

/-- The releases for the requests os, from e on. -/
def relT (P U : Int) : List Int → Int → List Int
  | [], _ => []
  | r :: os, e => if max r e < U then max r e :: relT P U os (max r e + P) else []
theorem drop_get {os : List Int} {k : Nat} (h : k < os.length) : os.drop k = os.getD k 0 :: os.drop (k + 1) := by
  rw [List.drop_eq_getElem_cons h, List.getD_eq_getElem?_getD, List.getElem?_eq_getElem h]; rfl
theorem relT_yes {P U e : Int} {os : List Int} {k : Nat} (h : k < os.length) (hU : max (os.getD k 0) e < U) : relT P U (os.drop k) e = max (os.getD k 0) e :: relT P U (os.drop (k + 1)) (max (os.getD k 0) e + P) := by
  rw [drop_get h, relT, if_pos hU]
theorem relT_no {P U e : Int} {os : List Int} {k : Nat} (h : k < os.length) (hU : ¬ max (os.getD k 0) e < U) : relT P U (os.drop k) e = [] := by
  rw [drop_get h, relT, if_neg hU]
theorem relT_end {P U e : Int} {os : List Int} {k : Nat} (h : os.length ≤ k) : relT P U (os.drop k) e = [] := by
  rw [List.drop_eq_nil_of_le h]; rfl
/-- The reference's: it goes on behind the end. -/
def refT (P U : Int) : List Int → Int → List Int
  | [], _ => []
  | r :: os, e => if max r e < U then max r e :: refT P U os (max r e + P) else refT P U os (max r e + P)
theorem refT_late {P U : Int} (hP : 0 ≤ P) : ∀ (os : List Int) (e : Int), U ≤ e → refT P U os e = []
  | [], _, _ => rfl
  | r :: os, e, h => by
    rw [refT, if_neg (by omega)]
    exact refT_late hP os _ (by omega)
theorem refT_eq {P U : Int} (hP : 0 ≤ P) : ∀ (os : List Int) (e : Int), refT P U os e = relT P U os e
  | [], _ => rfl
  | r :: os, e => by
    rw [refT, relT]
    split
    · rw [refT_eq hP os]
    · exact refT_late hP os _ (by omega)
theorem relT_len (P U : Int) : ∀ (os : List Int) (e : Int), (relT P U os e).length ≤ os.length
  | [], _ => Nat.le_refl _
  | r :: os, e => by
    rw [relT]
    split
    · have := relT_len P U os (max r e + P)
      simp; omega
    · simp
/-- What the releases keep: at least the period apart, not before the requests, before the end; and they are their own releases. -/
theorem relT_ok {P U : Int} (hP : 0 ≤ P) : ∀ (os : List Int) (e : Int), (∀ k, k < (relT P U os e).length → os.getD k 0 ≤ (relT P U os e).getD k 0 ∧ e ≤ (relT P U os e).getD k 0 ∧ (relT P U os e).getD k 0 < U ∧ (0 < k → P ≤ (relT P U os e).getD k 0 - (relT P U os e).getD (k - 1) 0)) ∧ ∀ e', e' ≤ e → relT P U (relT P U os e) e' = relT P U os e
  | [], _ => ⟨fun k hk => absurd hk (Nat.not_lt_zero _), fun _ _ => rfl⟩
  | r :: os, e => by
    rw [relT]
    split
    · rename_i hU
      obtain ⟨h1, h2⟩ := relT_ok (P := P) (U := U) hP os (max r e + P)
      refine ⟨fun k hk => ?_, fun e' he => ?_⟩
      · cases k with
        | zero => simp; omega
        | succ k =>
          simp at hk
          obtain ⟨g1, g2, g3, g4⟩ := h1 k hk
          simp only [List.getD_cons_succ, Nat.add_sub_cancel]
          refine ⟨g1, by omega, g3, fun _ => ?_⟩
          cases k with
          | zero => simp only [List.getD_cons_zero]; omega
          | succ k =>
            have := g4 (by omega)
            simpa using this
      · have hm : max (max r e) e' = max r e := by omega
        rw [relT, hm, if_pos hU, h2 _ (Int.le_refl _)]
    · exact ⟨fun k hk => absurd hk (Nat.not_lt_zero _), fun _ _ => rfl⟩
theorem relT_bound {P U B : Int} (hP : 0 ≤ P) : ∀ (os : List Int) (e : Int), (∀ r ∈ os, r ≤ B) → e ≤ B → 0 ≤ e → (∀ x ∈ relT P U os e, e ≤ x ∧ x ≤ B + P * os.length)
  | [], _, _, _, _, x, hx => by cases hx
  | r :: os, e, hb, he, h0, x, hx => by
    rw [relT] at hx
    split at hx
    · have hr := hb r (List.mem_cons_self ..)
      rcases List.mem_cons.1 hx with rfl | hx
      · refine ⟨by omega, ?_⟩
        have : 0 ≤ P * ((r :: os).length : Int) := Int.mul_nonneg hP (by omega)
        omega
      · have := relT_bound (B := B + P) hP os (max r e + P) (fun q hq => by have := hb q (List.mem_cons_of_mem _ hq); omega) (by omega) (by omega) x hx
        refine ⟨by omega, ?_⟩
        rw [List.length_cons, Int.natCast_add, Int.mul_add]
        omega
    · cases hx
def relRow (l : List TT) (rs : List (List Int)) (U : Int) (i : Nat) : List Int := relT (tp l i : Nat) U (rwAt rs i) 0
def relRows (l : List TT) (rs : List (List Int)) (U : Int) : List (List Int) := rowsI l.length (relRow l rs U)
/-- The error that Releases answers. -/
def relE (l : List TT) (rs : List (List Int)) : Int := if tsOK l = true ∧ rs.length = l.length then (if allB rs then 0 else 2) else 1
/-- A row whose first i are done, and the next one under way. -/
def rowQ (R : Nat → List Int) (i : Nat) (D : List Int) : Nat → List Int := fun s => if s < i then R s else if s = i then D else []
theorem rowQ_set {R : Nat → List Int} {i : Nat} {D : List Int} {x : Int} : updI (rowQ R i D) i (rowQ R i D i ++ [x]) = rowQ R i (D ++ [x]) := by
  funext s
  unfold updI rowQ
  by_cases e : s = i
  · subst e; simp
  · simp [e]
theorem rowQ_next {R : Nat → List Int} {i : Nat} {D : List Int} (h : R i = D) : rowQ R i D = rowQ R (i + 1) [] := by
  funext s
  unfold rowQ
  by_cases e : s < i
  · rw [if_pos e, if_pos (by omega)]
  · by_cases e2 : s = i
    · subst e2; rw [if_neg e, if_pos rfl, if_pos (by omega), h]
    · rw [if_neg e, if_neg e2, if_neg (by omega)]; split <;> rfl
theorem rowQ_zero (R : Nat → List Int) : rowQ R 0 [] = fun _ => [] := by
  funext s; unfold rowQ; rw [if_neg (by omega)]; split <;> rfl
end Go.Proofs.Ytdjpkebajcpfbaa
