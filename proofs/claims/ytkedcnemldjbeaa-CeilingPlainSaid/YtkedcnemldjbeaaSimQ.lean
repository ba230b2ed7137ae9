/- Tasks of the lowest priorities without sections do not affect the others. Conditions: the environments'. -/
import Derived.Test.YtkedcnemldjbeaaSimI
namespace Go.Proofs.Ytkedcnemldjbeaa

structure Proj (E E' : Env) : Prop where
  le : E'.n ≤ E.n
  cost : ∀ i, i < E'.n → E.cost i = E'.cost i
  act : ∀ (i : Nat) (d : Int), i < E'.n → E.act i d = E'.act i d
  rel : ∀ i, i < E'.n → E.rel i = E'.rel i
  low : ∀ (i : Nat) (d : Int), E'.n ≤ i → i < E.n → E.act i d = ((i : Int), false)

def sh (d : Int) (p : Pd) : Pd := ⟨p.rel, p.st, p.dn, p.lo + d, p.ac, p.ho⟩
theorem bef_sh (i j : Nat) (c d : Int) (p q : Pd) : bef i (sh c p) j (sh d q) = bef i p j q := rfl

structure PRel (E E' : Env) (s s' : Sim) : Prop where
  nx : ∀ i, i < E'.n → s.nx i = s'.nx i
  wt : ∀ i, i < E'.n → s.wt i = (s'.wt i).map (sh (s.lo i - s'.lo i))
  en : s.en.filter (fun j => decide (j.tk < E'.n)) = s'.en

section
variable {E E' : Env} {now : Int} {s s' : Sim}

theorem prel0 : PRel E E' sim0 sim0 := ⟨fun _ _ => rfl, fun _ _ => rfl, rfl⟩
theorem prel_rel (hP : Proj E E') (h : PRel E E' s s') : PRel E E' (relK E now s E.n) (relK E' now s' E'.n) where
  nx := fun i hi => by
    have hd : due E s now i = due E' s' now i := by simp only [due, hP.rel i hi, h.nx i hi]
    rw [relK_nx (by have := hP.le; omega), relK_nx hi, hd, h.nx i hi]
  wt := fun i hi => by
    have hd : due E s now i = due E' s' now i := by simp only [due, hP.rel i hi, h.nx i hi]
    rw [relK_wt (by have := hP.le; omega), relK_wt hi, hd, h.wt i hi]
    show _ = List.map (sh (s.lo i - s'.lo i)) _
    rw [List.map_append]
    split
    · simp only [List.map_cons, List.map_nil]
      congr 2
      show newPd s now i = sh (s.lo i - s'.lo i) (newPd s' now i)
      simp only [newPd, sh, Pd.mk.injEq, true_and, and_true]
      omega
    · rfl
  en := h.en
theorem choose_low {E : Env} (hE : EnvOK E) (hP : Proj E E') (hm : Mid E now s) (h : PRel E E' s s') {t : Nat} (ht : chooseK s'.wt E'.n = some t) : chooseK s.wt E.n = some t := by
  obtain ⟨p, r, h3, h4⟩ := chooseK_best ht
  obtain ⟨h1, h2⟩ := chooseK_lt ht
  have hle := hP.le
  have hw := h.wt t h1
  rw [h3, List.map_cons] at hw
  refine chooseK_uniq (by omega) hw fun i hi hne q u hq => ?_
  by_cases hik : i < E'.n
  · have hwi := h.wt i hik
    rw [hwi] at hq
    cases hz : s'.wt i with
    | nil => rw [hz] at hq; simp at hq
    | cons q' u' =>
      rw [hz] at hq
      simp only [List.map_cons, List.cons.injEq] at hq
      obtain ⟨rfl, _⟩ := hq
      rw [bef_sh]
      exact h4 i hik hne q' u' hz
  · have hq1 := (hm.head i q u hi hq).1
    have hac : q.ac = i := by
      by_cases e : q.dn = 0
      · exact (hq1.2.2.1 e).1
      · have := (hq1.2.2.2 (by have := hq1.1; omega)).1
        rw [hP.low i _ (by omega) hi] at this
        exact this
    have hp1 := (head_ac hE (by omega) (hm.head t _ _ (by omega) hw).1).1
    unfold bef
    rw [if_pos (by omega)]
    simp; omega
theorem prel_exec (hP : Proj E E') (h : PRel E E' s s') {t : Nat} (ht : t < E'.n) : PRel E E' (exec E now t s) (exec E' now t s') := by
  have hw := h.wt t ht
  unfold exec
  cases hz : s'.wt t with
  | nil => rw [hz] at hw; rw [hw]; exact h
  | cons p r =>
    rw [hz, List.map_cons] at hw
    rw [hw]
    simp only
    have hlo : ∀ i, bump s.lo t i - bump s'.lo t i = s.lo i - s'.lo i := fun i => by unfold bump; split <;> omega
    have hdn : (sh (s.lo t - s'.lo t) p).dn = p.dn := rfl
    rw [hdn, hP.cost t ht]
    split
    · refine ⟨h.nx, fun i hi => ?_, h.en⟩
      show upd s.wt t _ i = List.map (sh (bump s.lo t i - bump s'.lo t i)) (upd s'.wt t _ i)
      rw [hlo]
      unfold upd
      split
      · rename_i e; subst e
        simp only [List.map_cons]
        congr 1
        simp only [stepPd, sh, hP.act i _ ht]
        rfl
      · exact h.wt i hi
    · refine ⟨h.nx, fun i hi => ?_, ?_⟩
      · show upd s.wt t _ i = List.map (sh (bump s.lo t i - bump s'.lo t i)) (upd s'.wt t _ i)
        rw [hlo]
        unfold upd
        split
        · rename_i e; subst e; rfl
        · exact h.wt i hi
      · show List.filter _ (s.en ++ [_]) = s'.en ++ [_]
        rw [List.filter_append, h.en]
        congr 1
        have : decide ((jobOf now t s (sh (s.lo t - s'.lo t) p)).tk < E'.n) = true := decide_eq_true ht
        rw [List.filter_cons, this, if_pos rfl]
        simp only [List.filter_nil]
        congr 1
        simp only [jobOf, sh, Jb.mk.injEq, true_and]
        omega
theorem prel_low (hP : Proj E E') (h : PRel E E' s s') (h0 : ∀ i, i < E'.n → s'.wt i = []) {t : Nat} (ht : E'.n ≤ t) : PRel E E' (exec E now t s) s' := by
  unfold exec
  split
  · exact h
  · rename_i p r hw
    have hwt : ∀ row i, i < E'.n → upd s.wt t row i = s.wt i := fun row i hi => by unfold upd; rw [if_neg (by omega)]
    split
    · refine ⟨h.nx, fun i hi => ?_, h.en⟩
      show upd s.wt t _ i = _
      rw [hwt _ i hi, h0 i hi, h.wt i hi, h0 i hi]; rfl
    · refine ⟨h.nx, fun i hi => ?_, ?_⟩
      · show upd s.wt t _ i = _
        rw [hwt _ i hi, h0 i hi, h.wt i hi, h0 i hi]; rfl
      · show List.filter _ (s.en ++ [_]) = s'.en
        rw [List.filter_append, h.en]
        have : decide ((jobOf now t s p).tk < E'.n) = false := decide_eq_false (by show ¬ t < E'.n; omega)
        rw [List.filter_cons, this]
        simp
theorem prel_step (hE : EnvOK E) (hP : Proj E E') (hI : Inv E now s) (hf : futOK E now s) (h : PRel E E' s s') : PRel E E' (step E now s) (step E' now s') := by
  have hm := mid_rel hE hI hf
  have hr := prel_rel (now := now) hP h
  unfold step
  cases hc : chooseK (relK E' now s' E'.n).wt E'.n with
  | some t =>
    rw [choose_low hE hP hm hr hc]
    exact prel_exec hP hr (chooseK_lt hc).1
  | none =>
    have h0 := chooseK_none hc
    simp only
    cases hc2 : chooseK (relK E now s E.n).wt E.n with
    | none => exact hr
    | some t =>
      refine prel_low hP hr h0 ?_
      by_cases e : t < E'.n
      · exfalso
        have := (chooseK_lt hc2).2
        rw [hr.wt t e, h0 t e] at this
        exact this rfl
      · omega
end
theorem prel_run {E E' : Env} (hE : EnvOK E) (hP : Proj E E') : ∀ k : Nat, PRel E E' (run E k) (run E' k)
  | 0 => prel0
  | k + 1 => prel_step hE hP (inv_run hE k).1 (inv_run hE k).2 (prel_run hE hP k)
end Go.Proofs.Ytkedcnemldjbeaa
