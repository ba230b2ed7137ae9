/- The reference's simulation as data, and that it finds the same jobs. Conditions: the environment's. -/
import Derived.Test.YtkedcnemldjbeaaSimI
namespace Go.Proofs.Ytkedcnemldjbeaa

structure RJ where
  tk : Nat
  rel : Int
  st : Int
  en : Int
  bl : Int
  dn : Int
def rj0 : RJ := ⟨0, 0, 0, 0, 0, 0⟩
def rpd (E : Env) (a : RJ) : Pd := ⟨a.rel, a.st, a.dn, 0, (E.act a.tk a.dn).1, (E.act a.tk a.dn).2⟩
def rbef (E : Env) (a b : RJ) : Bool := bef a.tk (rpd E a) b.tk (rpd E b)
def rdy (now : Int) (a : RJ) : Bool := decide (a.rel ≤ now) && decide (a.en = 0)
def rat (W : List RJ) (i : Nat) : RJ := W.getD i rj0
/-- The best of the first k. -/
def rbestK (E : Env) (now : Int) (W : List RJ) : Nat → Option Nat
  | 0 => none
  | k + 1 => if rdy now (rat W k) then (match rbestK E now W k with | none => some k | some b => if rbef E (rat W k) (rat W b) then some k else some b) else rbestK E now W k
def blkUp (now : Int) (t : Nat) (a : RJ) : RJ := if rdy now a = true ∧ a.tk < t then ⟨a.tk, a.rel, a.st, a.en, a.bl + 1, a.dn⟩ else a
def runUp (now : Int) (a : RJ) : RJ := ⟨a.tk, a.rel, if a.dn = 0 then now else a.st, a.en, a.bl, a.dn + 1⟩
def endUp (now : Int) (a : RJ) : RJ := ⟨a.tk, a.rel, a.st, now + 1, a.bl, a.dn⟩
def rjob (a : RJ) : Jb := ⟨a.tk, a.rel, a.st, a.en, a.bl⟩
def rstep (E : Env) (now : Int) (x : List RJ × List Jb) : List RJ × List Jb :=
  match rbestK E now x.1 x.1.length with
  | none => x
  | some b =>
    let W1 := x.1.map (blkUp now (rat x.1 b).tk)
    let a := runUp now (rat W1 b)
    if a.dn = E.cost a.tk then (W1.set b (endUp now a), x.2 ++ [rjob (endUp now a)]) else (W1.set b a, x.2)
def rrun (E : Env) (W0 : List RJ) : Nat → List RJ × List Jb
  | 0 => (W0, [])
  | k + 1 => rstep E k (rrun E W0 k)

theorem bef_tr {i j k : Nat} {p q r : Pd} (h : bef i p j q = true) (h' : bef j q k r = true) : bef i p k r = true := by
  unfold bef at *
  by_cases h1 : p.ac = q.ac
  · rw [if_neg (by simpa using h1)] at h
    by_cases h2 : q.ac = r.ac
    · rw [if_neg (by simpa using h2)] at h'
      rw [if_neg (by simpa using h1.trans h2)]
      by_cases h3 : p.ho = q.ho
      · rw [if_neg (by simpa using h3)] at h
        by_cases h4 : q.ho = r.ho
        · rw [if_neg (by simpa using h4)] at h'
          rw [if_neg (by simpa using h3.trans h4)]
          by_cases a1 : i = j
          · rw [if_neg (by simpa using a1)] at h
            by_cases a2 : j = k
            · rw [if_neg (by simpa using a2)] at h'
              rw [if_neg (by simpa using a1.trans a2)]
              simp at h h' ⊢; omega
            · rw [if_pos a2] at h'
              rw [if_pos (by omega)]
              simp at h' ⊢; omega
          · rw [if_pos a1] at h
            by_cases a2 : j = k
            · rw [if_pos (by omega)]
              simp at h ⊢; omega
            · rw [if_pos a2] at h'
              simp at h h'
              rw [if_pos (by omega)]
              simp; omega
        · rw [if_pos h4] at h'
          rw [if_pos (by rw [h3]; exact h4), h3]; exact h'
      · rw [if_pos h3] at h
        by_cases h4 : q.ho = r.ho
        · rw [if_pos (by rw [← h4]; exact h3)]; exact h
        · rw [if_pos h4] at h'
          rw [h, h'] at h3
          exact absurd rfl h3
    · rw [if_pos h2] at h'
      rw [if_pos (by rw [h1]; exact h2), h1]; exact h'
  · rw [if_pos h1] at h
    simp at h
    by_cases h2 : q.ac = r.ac
    · rw [if_pos (by omega)]; simp; omega
    · rw [if_pos h2] at h'
      simp at h'
      rw [if_pos (by omega)]; simp; omega

theorem rbestK_none {E : Env} {now : Int} {W : List RJ} : ∀ {k : Nat}, (∀ i, i < k → rdy now (rat W i) = false) → rbestK E now W k = none
  | 0, _ => rfl
  | k + 1, h => by
    rw [rbestK, h k (by omega)]
    exact rbestK_none (fun i hi => h i (by omega))
theorem rbestK_lt {E : Env} {now : Int} {W : List RJ} : ∀ {k b : Nat}, rbestK E now W k = some b → b < k ∧ rdy now (rat W b) = true
  | 0, b, h => by simp [rbestK] at h
  | k + 1, b, h => by
    rw [rbestK] at h
    split at h
    · rename_i hr
      split at h
      · simp at h; subst h; exact ⟨by omega, hr⟩
      · rename_i c hc
        split at h
        · simp at h; subst h; exact ⟨by omega, hr⟩
        · simp at h; subst h
          obtain ⟨h1, h2⟩ := rbestK_lt hc; exact ⟨by omega, h2⟩
    · obtain ⟨h1, h2⟩ := rbestK_lt h; exact ⟨by omega, h2⟩
/-- A ready job before all other ready ones is the best. -/
theorem rbestK_uniq {E : Env} {now : Int} {W : List RJ} {b : Nat} (hb : rdy now (rat W b) = true) : ∀ {k : Nat}, b < k → (∀ i, i < k → rdy now (rat W i) = true → i ≠ b → rbef E (rat W b) (rat W i) = true) → rbestK E now W k = some b
  | 0, h, _ => by omega
  | k + 1, h, hm => by
    rw [rbestK]
    by_cases e : b = k
    · subst e
      rw [if_pos hb]
      split
      · rfl
      · rename_i c hc
        obtain ⟨h1, h2⟩ := rbestK_lt hc
        rw [if_pos (hm c (by omega) h2 (by omega))]
    · have ih := rbestK_uniq hb (k := k) (by omega) (fun i hi => hm i (by omega))
      split
      · rename_i hr
        rw [ih]
        simp only
        have := hm k (by omega) hr (Ne.symm e)
        rw [if_neg]
        rw [show rbef E (rat W k) (rat W b) = false from bef_asymm this]
        simp
      · exact ih
end Go.Proofs.Ytkedcnemldjbeaa
