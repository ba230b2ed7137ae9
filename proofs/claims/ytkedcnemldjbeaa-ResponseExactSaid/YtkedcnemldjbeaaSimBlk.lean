/- The blocking of the simulation of a valid list. Conditions: a valid list. -/
import Derived.Test.YtkedcnemldjbeaaSimEnv
import Derived.Test.YtkedcnemldjbeaaSimB
namespace Go.Proofs.Ytkedcnemldjbeaa
open Go.RowKit

def remS (d : Int) : List Sec → Int
  | [] => 0
  | s :: r => if s.f < d ∧ d < s.t then s.t - d else remS d r
def remV (l : List CT) (k : Nat) (d : Int) : Int := remS d (ctAt l k).ss
def limV (l : List CT) (i : Nat) : Int := blkTs (ceilM l) i 0 (l.drop (i + 1))

theorem blkS_ge {m : Int → Option Int} {i acc : Int} {s : Sec} : acc ≤ blkS m i acc s := by
  unfold blkS; split
  · exact Int.le_max_left ..
  · exact Int.le_refl _
theorem blkSs_ge {m : Int → Option Int} {i : Int} : ∀ {ss : List Sec} {acc : Int}, acc ≤ blkSs m i acc ss
  | [], _ => Int.le_refl _
  | s :: r, acc => by
    have h1 := blkS_ge (m := m) (i := i) (acc := acc) (s := s)
    have h2 := blkSs_ge (m := m) (i := i) (ss := r) (acc := blkS m i acc s)
    show acc ≤ blkSs m i (blkS m i acc s) r
    omega
theorem blkTs_ge {m : Int → Option Int} {i : Int} : ∀ {l : List CT} {acc : Int}, acc ≤ blkTs m i acc l
  | [], _ => Int.le_refl _
  | t :: r, acc => by
    have h1 := blkSs_ge (m := m) (i := i) (acc := acc) (ss := t.ss)
    have h2 := blkTs_ge (m := m) (i := i) (l := r) (acc := blkSs m i acc t.ss)
    show acc ≤ blkTs m i (blkSs m i acc t.ss) r
    omega
theorem blkSs_mem {m : Int → Option Int} {i : Int} {s : Sec} (hm : (m s.o).getD 0 ≤ i) : ∀ {ss : List Sec} {acc : Int}, s ∈ ss → s.t - s.f - 1 ≤ blkSs m i acc ss
  | [], _, h => by cases h
  | x :: r, acc, h => by
    show _ ≤ blkSs m i (blkS m i acc x) r
    rcases List.mem_cons.1 h with rfl | h
    · have h1 : s.t - s.f - 1 ≤ blkS m i acc s := by unfold blkS; rw [if_pos hm]; exact Int.le_max_right ..
      have h2 := blkSs_ge (m := m) (i := i) (ss := r) (acc := blkS m i acc s)
      omega
    · exact blkSs_mem hm h
theorem blkTs_mem {m : Int → Option Int} {i : Int} {s : Sec} {t : CT} (hm : (m s.o).getD 0 ≤ i) (hs : s ∈ t.ss) : ∀ {l : List CT} {acc : Int}, t ∈ l → s.t - s.f - 1 ≤ blkTs m i acc l
  | [], _, h => by cases h
  | x :: r, acc, h => by
    show _ ≤ blkTs m i (blkSs m i acc x.ss) r
    rcases List.mem_cons.1 h with rfl | h
    · have h1 := blkSs_mem (m := m) (i := i) hm (acc := acc) hs
      have h2 := blkTs_ge (m := m) (i := i) (l := r) (acc := blkSs m i acc t.ss)
      omega
    · exact blkTs_mem hm hs h
/-- Where a job holds, it holds one section. -/
theorem actS_hold {m : Int → Option Int} {n d : Int} : ∀ {ss : List Sec}, (actS m n d ss).2 = true → ∃ s ∈ ss, s.f < d ∧ d < s.t ∧ (actS m n d ss).1 = min n ((m s.o).getD 0) ∧ remS d ss = s.t - d
  | [], h => by cases h
  | s :: r, h => by
    rw [actS] at h ⊢
    rw [remS]
    by_cases hc : s.f < d ∧ d < s.t
    · rw [if_pos hc, if_pos hc]
      exact ⟨s, List.mem_cons_self .., hc.1, hc.2, rfl, rfl⟩
    · rw [if_neg hc] at h ⊢
      rw [if_neg hc]
      obtain ⟨x, hx, h1⟩ := actS_hold h
      exact ⟨x, List.mem_cons_of_mem _ hx, h1⟩
/-- No section of a list that begins at e holds up to e. -/
theorem actS_early {m : Int → Option Int} {n d c : Int} : ∀ {ss : List Sec} {e : Int}, secsOK e c ss = true → d ≤ e → (actS m n d ss).2 = false
  | [], _, _, _ => rfl
  | s :: r, e, h, hd => by
    simp only [secsOK, Bool.and_eq_true, secOK, decide_eq_true_eq] at h
    obtain ⟨⟨h1, h2, _⟩, h6⟩ := h
    rw [actS, if_neg (by omega)]
    exact actS_early h6 (by omega)
theorem remS_dec {m : Int → Option Int} {n d c : Int} : ∀ {ss : List Sec} {e : Int}, secsOK e c ss = true → (actS m n d ss).2 = true → (actS m n (d + 1) ss).2 = true → remS (d + 1) ss ≤ remS d ss - 1
  | [], _, _, h, _ => by cases h
  | s :: r, e, h, h1, h2 => by
    simp only [secsOK, Bool.and_eq_true, secOK, decide_eq_true_eq] at h
    obtain ⟨⟨g1, g2, _⟩, g6⟩ := h
    rw [actS] at h1 h2
    rw [remS, remS]
    by_cases hc : s.f < d ∧ d < s.t
    · by_cases hc2 : s.f < d + 1 ∧ d + 1 < s.t
      · rw [if_pos hc, if_pos hc2]; omega
      · rw [if_neg hc2] at h2
        rw [actS_early g6 (by omega)] at h2; cases h2
    · rw [if_neg hc] at h1 ⊢
      by_cases hc2 : s.f < d + 1 ∧ d + 1 < s.t
      · rw [actS_early g6 (by omega)] at h1; cases h1
      · rw [if_neg hc2] at h2 ⊢
        exact remS_dec g6 h1 h2
theorem ctAt_drop {l : List CT} {i k : Nat} (h : i < k) (hk : k < l.length) : ctAt l k ∈ l.drop (i + 1) := by
  have : (l.drop (i + 1))[k - (i + 1)]? = some (ctAt l k) := by
    rw [List.getElem?_drop, show i + 1 + (k - (i + 1)) = k by omega]; exact ctAt_get hk
  exact List.mem_of_getElem? this
theorem blk_env {l : List CT} (rs : List (List Int)) (hv : validL l = true) : BlkEnv (envOf l rs) (limV l) (remV l) where
  pos := fun k d hk h => by
    obtain ⟨s, _, h1, h2, _, h4⟩ := actS_hold (m := ceilM l) (n := k) (d := d) (ss := (ctAt l k).ss) h
    show 1 ≤ remS d (ctAt l k).ss
    omega
  bd := fun i k d hik hk h hac => by
    obtain ⟨s, hs, h1, h2, h3, h4⟩ := actS_hold (m := ceilM l) (n := k) (d := d) (ss := (ctAt l k).ss) h
    have hac : (actS (ceilM l) k d (ctAt l k).ss).1 ≤ i := hac
    rw [h3] at hac
    have hc : (ceilM l s.o).getD 0 ≤ i := by omega
    have := blkTs_mem (m := ceilM l) (i := i) hc hs (acc := 0) (ctAt_drop hik hk)
    show remS d (ctAt l k).ss ≤ blkTs (ceilM l) i 0 (l.drop (i + 1))
    omega
  dec := fun k d hk h1 h2 => by
    have hk : k < l.length := hk
    have hs := (okT_bd ((validL_bd hv).2 _ (ctAt_mem hk))).2
    exact remS_dec hs h1 h2
  nonneg := fun i => blkTs_ge
end Go.Proofs.Ytkedcnemldjbeaa
