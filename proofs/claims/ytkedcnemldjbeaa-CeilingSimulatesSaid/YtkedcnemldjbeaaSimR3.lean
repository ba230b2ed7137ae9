/- The reference's simulation finds the same jobs: a step, and a run. Conditions: the environment's. -/
import Derived.Test.YtkedcnemldjbeaaSimR2
namespace Go.Proofs.Ytkedcnemldjbeaa

section
variable {E : Env} {now : Int} {s : Sim} {W : List RJ}

theorem rat_map (f : RJ → RJ) (hf : f rj0 = rj0) (W : List RJ) (i : Nat) : rat (W.map f) i = f (rat W i) := by
  unfold rat
  rw [List.getD_eq_getElem?_getD, List.getD_eq_getElem?_getD, List.getElem?_map]
  cases W[i]? <;> simp [hf]
theorem rat_map' (f : RJ → RJ) {W : List RJ} {i : Nat} (hi : i < W.length) : rat (W.map f) i = f (rat W i) := by
  unfold rat
  rw [List.getD_eq_getElem?_getD, List.getD_eq_getElem?_getD, List.getElem?_map, List.getElem?_eq_getElem hi]; rfl
theorem rat_set {W : List RJ} {i j : Nat} {a : RJ} (hj : j < W.length) : rat (W.set i a) j = if i = j then a else rat W j := by
  unfold rat
  rw [List.getD_eq_getElem?_getD, List.getD_eq_getElem?_getD, List.getElem?_set]
  split
  · rename_i e; subst e; rw [if_pos hj]; rfl
  · rfl
theorem blkUp_same {t : Nat} {a : RJ} (h : ¬ (rdy now a = true ∧ a.tk < t)) : blkUp now t a = a := by unfold blkUp; rw [if_neg h]
theorem blkUp_tk (t : Nat) (a : RJ) : (blkUp now t a).tk = a.tk ∧ (blkUp now t a).rel = a.rel ∧ (blkUp now t a).st = a.st ∧ (blkUp now t a).en = a.en ∧ (blkUp now t a).dn = a.dn := by
  unfold blkUp; split <;> exact ⟨rfl, rfl, rfl, rfl, rfl⟩

/-- One step of both. -/
theorem rr_step (hE : EnvOK E) (hnow : 0 ≤ now) (h0 : ∀ i, i < E.n → E.act i 0 = ((i : Int), false)) (h : Inv E now s) (hf : futOK E now s) (r : RR E s W) :
    RR E (step E now s) (rstep E now (W, s.en)).1 ∧ (rstep E now (W, s.en)).2 = (step E now s).en := by
  have hm := mid_rel hE h hf
  have rm := rr_rel (now := now) h r
  have hc := rbest_choose hE hm h0 rm
  unfold rstep step
  simp only
  rw [hc]
  cases hch : chooseK (relK E now s E.n).wt E.n with
  | none => exact ⟨rm, rfl⟩
  | some t =>
    obtain ⟨ht, _⟩ := chooseK_lt hch
    obtain ⟨p, u, hw, hbest⟩ := chooseK_best hch
    simp only [Option.map_some]
    have hmen : (relK E now s E.n).en = s.en := rfl
    generalize relK E now s E.n = m at *
    have hx := hm.rels t 0 p ht (by rw [hw]; rfl)
    rw [Nat.add_zero] at hx
    have hklt := (List.getElem?_eq_some_iff.1 hx).1
    have hpos : offs E t + cnt t m.en < W.length := by rw [rm.len]; exact offs_lt E ht hklt
    have a := rm.at_ t _ _ ht hx
    obtain ⟨b1, b2, b3, b4⟩ := a.pend p (Nat.le_refl _) (by rw [Nat.sub_self, hw]; rfl)
    obtain ⟨⟨p0, p1, p2, p3⟩, hr⟩ := hm.head t p u ht hw
    generalize hB : offs E t + cnt t m.en = B at *
    have hW1 : rat (W.map (blkUp now (rat W B).tk)) B = rat W B := by
      rw [rat_map' _ hpos]
      exact blkUp_same (fun h => by omega)
    rw [hW1, a.tk]
    have hrun : runUp now (rat W B) = ⟨t, p.rel, if p.dn = 0 then now else (rat W B).st, 0, m.lo t - p.lo, p.dn + 1⟩ := by
      simp only [runUp, a.tk, a.rel, b1, b2, b3]
    have hst : (if p.dn = 0 then now else (rat W B).st) = if p.dn = 0 then now else p.st := by
      split
      · rfl
      · exact b4 (by omega)
    rw [hst] at hrun
    have hlo : ∀ i, bump m.lo t i = m.lo i + if i < t then 1 else 0 := fun i => by unfold bump; split <;> simp
    -- an index other than B
    have other : ∀ (s' : Sim) (a' : RJ), s'.lo = bump m.lo t → s'.nx = m.nx → (∀ i, i ≠ t → s'.wt i = m.wt i ∧ cnt i s'.en = cnt i m.en) →
        (∀ k q, cnt t s'.en ≤ k → k ≠ cnt t m.en → (s'.wt t)[k - cnt t s'.en]? = some q → cnt t m.en ≤ k ∧ (m.wt t)[k - cnt t m.en]? = some q) → (∀ k, k < cnt t s'.en → k ≠ cnt t m.en → k < cnt t m.en) →
        AtOK E s' t (cnt t m.en) p.rel a' → RR E s' ((W.map (blkUp now t)).set B a') := by
      intro s' a' g1 g2 g3 g4 g5 ha
      refine ⟨by simp [rm.len], fun i k x hi hk => ?_⟩
      have hklt2 := (List.getElem?_eq_some_iff.1 hk).1
      have hpos2 : offs E i + k < W.length := by rw [rm.len]; exact offs_lt E hi hklt2
      rw [rat_set (by simpa using hpos2)]
      by_cases e : B = offs E i + k
      · rw [if_pos e]
        rw [← hB] at e
        obtain ⟨rfl, rfl⟩ := offs_inj E hklt hklt2 e
        rw [hk] at hx
        obtain rfl : x = p.rel := by simpa using hx
        exact ha
      · rw [if_neg e, rat_map' _ hpos2]
        have c := rm.at_ i k x hi hk
        obtain ⟨d1, d2, d3, d4, d5⟩ := blkUp_tk (now := now) t (rat W (offs E i + k))
        have hneq : ¬ (i = t ∧ k = cnt t m.en) := fun ⟨e1, e2⟩ => e (by rw [e1, e2, hB])
        refine ⟨by rw [d1]; exact c.tk, by rw [d2]; exact c.rel, fun hk2 => ?_, fun q hk2 hq => ?_, fun hk2 => ?_⟩
        · rw [d4]
          by_cases ei : i = t
          · subst ei
            exact c.past (g5 k hk2 (fun e => hneq ⟨rfl, e⟩))
          · rw [(g3 i ei).2] at hk2
            exact c.past hk2
        · have hq' : cnt i m.en ≤ k ∧ (m.wt i)[k - cnt i m.en]? = some q := by
            by_cases ei : i = t
            · subst ei
              exact g4 k q hk2 (fun e => hneq ⟨rfl, e⟩) hq
            · rw [(g3 i ei).2] at hk2 hq
              rw [(g3 i ei).1] at hq
              exact ⟨hk2, hq⟩
          obtain ⟨c1, c2, c3, c4⟩ := c.pend q hq'.1 hq'.2
          refine ⟨by rw [d4]; exact c1, by rw [d5]; exact c2, ?_, by rw [d3]; exact c4⟩
          have hrd := (rdy_iff hm rm hi hk).2 q hq'.1 hq'.2
          rw [g1, hlo]
          unfold blkUp
          by_cases eit : i < t
          · rw [if_pos ⟨hrd, by rw [c.tk]; exact eit⟩, if_pos eit]
            show (rat W (offs E i + k)).bl + 1 = _
            rw [c3]; omega
          · rw [if_neg (fun h => eit (by have := h.2; rw [c.tk] at this; exact this)), if_neg eit, c3]; omega
        · rw [g2] at hk2
          obtain ⟨c1, c2, c3⟩ := c.fut hk2
          refine ⟨by rw [d4]; exact c1, by rw [d5]; exact c2, ?_⟩
          have hnr : ¬ (rdy now (rat W (offs E i + k)) = true) := fun hrd => by
            obtain ⟨h1, q, hq⟩ := (rdy_iff hm rm hi hk).1 hrd
            have := (List.getElem?_eq_some_iff.1 hq).1
            have := (hm.idx i hi).1
            omega
          rw [blkUp_same (fun h => hnr h.1)]; exact c3
    have hcn : ∀ i, cnt i (m.en ++ [jobOf now t m p]) = cnt i m.en + if t = i then 1 else 0 := fun i => cnt_snoc i m.en _
    rw [hrun]
    simp only
    unfold exec
    rw [hw]
    simp only
    by_cases hcost : p.dn + 1 = E.cost t
    · rw [if_pos hcost, if_neg (by omega)]
      refine ⟨other _ _ rfl rfl (fun i hi => ⟨by simp [upd, hi], by show cnt i (m.en ++ [_]) = _; rw [hcn, if_neg (Ne.symm hi)]; omega⟩) ?_ ?_ ?_, ?_⟩
      · intro k q hk hne hq
        have hk : cnt t (m.en ++ [jobOf now t m p]) ≤ k := hk
        have hq : (upd m.wt t u t)[k - cnt t (m.en ++ [jobOf now t m p])]? = some q := hq
        rw [hcn, if_pos rfl] at hk hq
        refine ⟨by omega, ?_⟩
        simp only [upd, if_true] at hq
        rw [hw, show k - cnt t m.en = (k - (cnt t m.en + 1)) + 1 by omega]
        simpa using hq
      · intro k hk hne
        have hk : k < cnt t (m.en ++ [jobOf now t m p]) := hk
        rw [hcn, if_pos rfl] at hk
        omega
      · refine ⟨rfl, rfl, fun _ => ?_, fun q hk _ => ?_, fun hk => ?_⟩
        · show now + 1 ≠ 0; omega
        · have hk : cnt t (m.en ++ [jobOf now t m p]) ≤ cnt t m.en := hk
          rw [hcn, if_pos rfl] at hk; omega
        · have hk : m.nx t ≤ cnt t m.en := hk
          have := (hm.idx t ht).1
          rw [hw] at this
          simp at this; omega
      · show s.en ++ [rjob _] = m.en ++ [_]
        rw [hmen]; rfl
    · rw [if_neg hcost, if_pos (by omega)]
      refine ⟨other _ _ rfl rfl (fun i hi => ⟨by simp [upd, hi], rfl⟩) ?_ (fun k hk _ => hk) ?_, ?_⟩
      · intro k q hk hne hq
        refine ⟨hk, ?_⟩
        have hq : (upd m.wt t (stepPd E now t p :: u) t)[k - cnt t m.en]? = some q := hq
        simp only [upd, if_true] at hq
        have hk : cnt t m.en ≤ k := hk
        rw [show k - cnt t m.en = (k - cnt t m.en - 1) + 1 by omega] at hq ⊢
        rw [hw]; simpa using hq
      · refine ⟨rfl, rfl, fun hk => absurd hk (Nat.lt_irrefl _), fun q hk hq => ?_, fun hk => ?_⟩
        · have hq : (upd m.wt t (stepPd E now t p :: u) t)[cnt t m.en - cnt t m.en]? = some q := hq
          rw [Nat.sub_self] at hq
          simp only [upd, if_true] at hq
          obtain rfl : stepPd E now t p = q := by simpa using hq
          refine ⟨rfl, rfl, ?_, fun _ => rfl⟩
          show m.lo t - p.lo = bump m.lo t t - p.lo
          rw [hlo, if_neg (by omega)]; omega
        · have hk : m.nx t ≤ cnt t m.en := hk
          have := (hm.idx t ht).1
          rw [hw] at this
          simp at this; omega
      · show s.en = m.en
        exact hmen.symm

/-- The reference's list at the start. -/
def rel0 (E : Env) : Nat → List RJ
  | 0 => []
  | i + 1 => rel0 E i ++ (E.rel i).map fun x => ⟨i, x, -1, 0, 0, 0⟩
theorem rel0_len (E : Env) : ∀ n, (rel0 E n).length = offs E n
  | 0 => rfl
  | n + 1 => by rw [rel0, List.length_append, List.length_map, rel0_len E n, offs]
theorem rel0_at (E : Env) : ∀ {n i k : Nat} {x : Int}, i < n → (E.rel i)[k]? = some x → rat (rel0 E n) (offs E i + k) = ⟨i, x, -1, 0, 0, 0⟩
  | 0, _, _, _, h, _ => by omega
  | n + 1, i, k, x, h, hx => by
    have hk := (List.getElem?_eq_some_iff.1 hx).1
    unfold rat
    rw [rel0, List.getD_eq_getElem?_getD]
    by_cases e : i = n
    · subst e
      rw [List.getElem?_append_right (by rw [rel0_len]; omega), rel0_len, Nat.add_sub_cancel_left, List.getElem?_map, hx]; rfl
    · have hi : i < n := by omega
      rw [List.getElem?_append_left (by rw [rel0_len]; exact offs_lt E hi hk)]
      have := rel0_at E hi hx
      unfold rat at this
      rw [List.getD_eq_getElem?_getD] at this
      exact this
theorem rr_init (E : Env) : RR E sim0 (rel0 E E.n) where
  len := rel0_len E E.n
  at_ := fun i k x hi hx => by
    rw [rel0_at E hi hx]
    exact ⟨rfl, rfl, fun hk => absurd hk (Nat.not_lt_zero _), fun p _ hp => by simp [sim0] at hp, fun _ => ⟨rfl, rfl, rfl⟩⟩
theorem rr_run (hE : EnvOK E) (h0 : ∀ i, i < E.n → E.act i 0 = ((i : Int), false)) : ∀ k : Nat,
    RR E (run E k) (rrun E (rel0 E E.n) k).1 ∧ (rrun E (rel0 E E.n) k).2 = (run E k).en
  | 0 => ⟨rr_init E, rfl⟩
  | k + 1 => by
    obtain ⟨h1, h2⟩ := rr_run hE h0 k
    obtain ⟨g1, g2⟩ := inv_run hE k
    have := rr_step hE (Int.natCast_nonneg k) h0 g1 g2 h1
    rw [← h2] at this
    exact this
end
end Go.Proofs.Ytkedcnemldjbeaa
