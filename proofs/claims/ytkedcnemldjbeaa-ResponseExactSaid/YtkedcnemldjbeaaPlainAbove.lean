/- The plain facts of ResponseAbove. Conditions: a valid list. -/
import Derived.Test.YtkedcnemldjbeaaGreat
namespace Go.Proofs.Ytkedcnemldjbeaa
open Go.RowKit

def freeT (t : CT) : CT := ⟨t.c, t.p, t.d, []⟩
def freeL (l : List CT) : List CT := l.map freeT

theorem okT_free {t : CT} (h : okT t = true) : okT (freeT t) = true := by
  simp only [okT, headOK, Bool.and_eq_true, decide_eq_true_eq] at h
  obtain ⟨⟨h1, h2, h3, h4, h5, h6, _⟩, _⟩ := h
  simp [okT, headOK, freeT, secsOK, h1, h2, h3, h4, h5, h6]
theorem validL_free {l : List CT} (h : validL l = true) : validL (freeL l) = true := by
  obtain ⟨h1, h2⟩ := validL_bd h
  simp only [validL, freeL, Bool.and_eq_true, decide_eq_true_eq, List.length_map, List.all_eq_true, List.mem_map]
  exact ⟨h1, fun t ⟨s, hs, e⟩ => e ▸ okT_free (h2 s hs)⟩
theorem validL_take {l : List CT} (h : validL l = true) (n : Nat) : validL (l.take n) = true := by
  obtain ⟨h1, h2⟩ := validL_bd h
  simp only [validL, Bool.and_eq_true, decide_eq_true_eq, List.all_eq_true]
  exact ⟨by rw [List.length_take]; omega, fun t ht => h2 t (List.mem_of_mem_take ht)⟩
theorem intL_free {v : Int} : ∀ {l : List CT} {n : Int}, intL v n (freeL l) = intL v n l
  | [], n => rfl
  | t :: r, n => intL_free (l := r) (n := intS v n t)
theorem blkTs_free {m : Int → Option Int} {i : Int} : ∀ {l : List CT} {acc : Int}, (∀ t ∈ l, t.ss = []) → blkTs m i acc l = acc
  | [], _, _ => rfl
  | t :: r, acc, h => by
    show blkTs m i (blkSs m i acc t.ss) r = acc
    rw [h t (List.mem_cons_self ..)]
    exact blkTs_free (fun t ht => h t (List.mem_cons_of_mem _ ht))
theorem exB_mk {l : List CT} {n : Nat} (hv : validL l = true) (h : n < l.length) : exB l n = true := by
  simp only [exB, hv, Bool.true_and, Bool.and_eq_true, decide_eq_true_eq]; omega
theorem freeL_ss {l : List CT} : ∀ t ∈ freeL l, t.ss = [] := by
  intro t ht
  obtain ⟨s, _, e⟩ := List.mem_map.1 ht
  rw [← e]; rfl
theorem blkV_nil {l : List CT} {n : Nat} (hs : ∀ t ∈ l, t.ss = []) (hx : exB l n = true) : blkV l n = 0 := by
  rw [blkV, if_pos hx]
  exact blkTs_free (fun t ht => hs t (List.mem_of_mem_drop ht))
theorem ctAt_eq {l : List CT} {n : Nat} (h : n < l.length) : ctAt l n = l[n] := by
  simp [ctAt, List.getD_eq_getElem?_getD, List.getElem?_eq_getElem h]
theorem ctAt_free {l : List CT} {n : Nat} (h : n < l.length) : ctAt (freeL l) n = freeT (ctAt l n) := by
  rw [ctAt_eq h, ctAt_eq (by simpa [freeL] using h)]; simp [freeL]
theorem ctAt_take {l : List CT} {n : Nat} (h : n < l.length) : ctAt (l.take (n + 1)) n = ctAt l n := by
  rw [ctAt_eq h, ctAt_eq (by rw [List.length_take]; omega)]; simp

/-- What respO asks of a list: the own cost and deadline, the blocking, and the tasks before. -/
theorem respO_congr {l l' : List CT} {n : Nat} (hc : (ctAt l n).c = (ctAt l' n).c) (hd : (ctAt l n).d = (ctAt l' n).d) (hb : blkV l n = blkV l' n)
    (hi : ∀ v, intL v 0 (l.take n) = intL v 0 (l'.take n)) : respO l n = respO l' n := by
  have e1 : baseV l n = baseV l' n := by unfold baseV; rw [hc, hb]
  have e2 : rhs l n (baseV l n) = rhs l' n (baseV l' n) := by funext v; unfold rhs; rw [e1, hi]
  unfold respO; rw [e2, e1, hd]
theorem respR_of {l : List CT} {n : Nat} (hx : exB l n = true) : respR l n = (respO l n).getD 0 := by simp [respR, hx]
theorem respE_of {l : List CT} {n : Nat} (hx : exB l n = true) : respE l n = if (respO l n).isSome then 0 else 21 := by
  simp [respE, (exB_true hx).1, hx]

theorem fixed_between {g : Int → Int} (hm : ∀ x y, x ≤ y → g x ≤ g y) : ∀ (k : Nat) (a b : Int), (b - a).toNat = k → a ≤ b → a ≤ g a → g b ≤ b → ∃ y, a ≤ y ∧ y ≤ b ∧ g y = y
  | 0, a, b, hk, hab, h1, h2 => by
    have : a = b := by omega
    subst this
    exact ⟨a, Int.le_refl _, Int.le_refl _, by omega⟩
  | k + 1, a, b, hk, hab, h1, h2 => by
    by_cases h : g a = a
    · exact ⟨a, Int.le_refl _, hab, h⟩
    · have e1 := hm a b hab
      have e2 := hm a (a + 1) (by omega)
      obtain ⟨y, y1, y2, y3⟩ := fixed_between hm k (a + 1) b (by omega) (by omega) (by omega) h2
      exact ⟨y, by omega, y2, y3⟩
/-- A fixed point at b gives lf a smaller answer. -/
theorem lf_below {f : Int → Int} {n : Nat} {r0 b : Int} (hm : ∀ x y, x ≤ y → f x ≤ f y) (h0 : r0 ≤ f r0) (hb : r0 ≤ b) (hn : b < r0 + n) (h2 : f b ≤ b) : ∃ r, lf f n r0 = some r ∧ r ≤ b := by
  obtain ⟨y, y1, y2, y3⟩ := fixed_between hm _ r0 b rfl hb h0 h2
  cases h : lf f n r0 with
  | none => exact absurd y3 (lf_none_spec h y y1 (by omega))
  | some r =>
    refine ⟨r, rfl, ?_⟩
    obtain ⟨_, _, _, q4⟩ := lf_spec h
    rcases Int.lt_or_le b r with hbr | hbr
    · exact absurd y3 (q4 y y1 (by omega))
    · exact hbr

theorem above_plain {l : List CT} {n : Nat} (hv : validL l = true) (hn : n < l.length) :
    validL (freeL l) = true ∧ exB (freeL l) n = true ∧ blkV (freeL l) n = 0 ∧
    respR ((freeL l).take (n + 1)) n = respR (freeL l) n ∧ respE ((freeL l).take (n + 1)) n = respE (freeL l) n ∧
    (blkV l n = 0 → respR l n = respR (freeL l) n ∧ respE l n = respE (freeL l) n) ∧
    (respE l n = 21 ∨ respE (freeL l) n = 0 ∧ respR (freeL l) n + blkV l n ≤ respR l n) := by
  have hx := exB_mk hv hn
  have hvf := validL_free hv
  have hnf : n < (freeL l).length := by simpa [freeL] using hn
  have hxf := exB_mk hvf hnf
  have hvt := validL_take hvf (n + 1)
  have hxt := exB_mk hvt (n := n) (by rw [List.length_take]; omega)
  have b0 := blkV_nil freeL_ss hxf
  have bt := blkV_nil (l := (freeL l).take (n + 1)) (n := n) (fun t ht => freeL_ss t (List.mem_of_mem_take ht)) hxt
  have et : respO ((freeL l).take (n + 1)) n = respO (freeL l) n :=
    respO_congr (by rw [ctAt_take hnf]) (by rw [ctAt_take hnf]) (by rw [bt, b0]) (fun v => by rw [List.take_take, show min n (n + 1) = n by omega])
  have ci : ∀ v, intL v 0 (l.take n) = intL v 0 ((freeL l).take n) := fun v => by rw [show (freeL l).take n = freeL (l.take n) by simp [freeL, List.map_take], intL_free]
  have cc : (ctAt l n).c = (ctAt (freeL l) n).c := by rw [ctAt_free hn]; rfl
  have cd : (ctAt l n).d = (ctAt (freeL l) n).d := by rw [ctAt_free hn]; rfl
  refine ⟨hvf, hxf, b0, by rw [respR_of hxt, respR_of hxf, et], by rw [respE_of hxt, respE_of hxf, et], fun hb => ?_, ?_⟩
  · have e : respO l n = respO (freeL l) n := respO_congr cc cd (by rw [hb, b0]) ci
    exact ⟨by rw [respR_of hx, respR_of hxf, e], by rw [respE_of hx, respE_of hxf, e]⟩
  · obtain ⟨B0, B1⟩ := blkV_bd hx
    obtain ⟨_, hok⟩ := validL_bd hv
    obtain ⟨_, hokf⟩ := validL_bd hvf
    have hp : ∀ {v : Int}, 0 ≤ v → v ≤ 100000 → 0 ≤ intL v 0 ((freeL l).take n) := fun h0 h1 => (intL_bd h0 h1 (fun t ht => hokf t (List.mem_of_mem_take ht))).1
    obtain ⟨⟨t1, t2, t3, t4, t5, t6, _⟩, _⟩ := okT_bd (hok _ (ctAt_mem hn))
    rw [respE_of hx, respE_of hxf, respR_of hx, respR_of hxf]
    cases h : respO l n with
    | none => left; rfl
    | some r =>
      right
      obtain ⟨q1, q2, q3, _⟩ := lf_spec h
      unfold baseV at q1 q2
      have q3' : (ctAt l n).c + blkV l n + intL r 0 ((freeL l).take n) = r := by
        have := q3; unfold rhs baseV at this; rw [ci] at this; exact this
      have hmono := intL_mono (v := r - blkV l n) (v' := r) (by omega) (l := (freeL l).take n) (fun t ht => hokf t (List.mem_of_mem_take ht))
      have eb : baseV (freeL l) n = (ctAt l n).c := by unfold baseV; rw [b0, ← cc]; omega
      have h0 := hp (v := (ctAt l n).c) (by omega) (by omega)
      obtain ⟨r', h', hle⟩ := lf_below (f := rhs (freeL l) n (baseV (freeL l) n)) (n := ((ctAt (freeL l) n).d + 1 - baseV (freeL l) n).toNat) (r0 := baseV (freeL l) n) (b := r - blkV l n)
        (fun x y hxy => rhs_mono hokf hxy) (by rw [eb]; unfold rhs; omega) (by rw [eb]; omega) (by rw [eb, ← cd]; omega) (by rw [eb]; unfold rhs; omega)
      have e : respO (freeL l) n = some r' := h'
      rw [e]
      refine ⟨rfl, ?_⟩
      show r' + blkV l n ≤ r
      omega
end Go.Proofs.Ytkedcnemldjbeaa
