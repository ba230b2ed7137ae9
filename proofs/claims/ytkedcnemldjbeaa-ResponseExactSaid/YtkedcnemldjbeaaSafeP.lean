/- A response time is safe: the plain part. Conditions: a valid list, permitted releases. -/
import Derived.Test.YtkedcnemldjbeaaSimX
import Derived.Test.YtkedcnemldjbeaaSimBlk
import Derived.Test.YtkedcnemldjbeaaRespPlain
namespace Go.Proofs.Ytkedcnemldjbeaa
open Go.RowKit

theorem intL_sum {l : List CT} {r : Int} : ∀ {i : Nat}, i ≤ l.length → intL r 0 (l.take i) = sumN i fun j => (ctAt l j).c * ((r + (ctAt l j).p - 1) / (ctAt l j).p)
  | 0, _ => rfl
  | i + 1, hi => by
    have hlt : i < l.length := by omega
    have hg := List.getElem?_eq_getElem hlt
    rw [ctAt_get hlt] at hg
    injection hg with hg
    rw [sumN, List.take_succ_eq_append_getElem hlt, ← hg, ← intL_sum (l := l) (r := r) (i := i) (by omega)]
    unfold intL
    rw [List.foldl_append]
    rfl
theorem resp_fit {l : List CT} {rs : List (List Int)} (hv : validL l = true) (hn : rs.length = l.length) (hs : rowsB l rs = true) {i : Nat} (hi : i < l.length) {r : Int} (hr : respO l i = some r) : 1 ≤ r ∧ r ≤ (ctAt l i).d ∧ Fit (envOf l rs) (limV l) i r := by
  obtain ⟨h1, h2, h3, _⟩ := lf_spec hr
  have hok := (validL_bd hv).2
  have hti := (okT_bd (hok _ (ctAt_mem hi))).1
  have hex : exB l i = true := by
    unfold exB
    rw [hv, decide_eq_true (by omega), decide_eq_true (by omega)]; rfl
  have hb := blkV_bd hex
  have hbv : blkV l (i : Int) = limV l i := by
    unfold blkV limV
    rw [if_pos hex, Int.toNat_natCast]
  unfold baseV at h1 h2 h3
  have hr1 : 1 ≤ r := by have := hti.1; omega
  have hrd : r ≤ (ctAt l i).d := by omega
  refine ⟨hr1, hrd, fit_of (fun j => (ctAt l j).p) (env_ok hv hn hs) hi (fun j hj => ?_) (fun j hj k x y hx hy => ?_) hr1 (by have := hti.2.2.2.2.2.1; omega) ?_⟩
  · exact (okT_bd (hok _ (ctAt_mem (show j < l.length by omega)))).1.2.2.1
  · exact okAt_mono (rowsB_iff.1 hs j (by omega)) hx hy
  · unfold rhs at h3
    rw [intL_sum (by omega)] at h3
    rw [← hbv]
    show sumN i (fun j => (ctAt l j).c * ((r + (ctAt l j).p - 1) / (ctAt l j).p)) + (ctAt l i).c ≤ _
    omega
theorem respE_zero {l : List CT} (hv : validL l = true) {i : Nat} (hi : i < l.length) (h : respE l i = 0) : ∃ r, respO l i = some r ∧ respR l i = r := by
  have hex : exB l i = true := by
    unfold exB
    rw [hv, decide_eq_true (by omega), decide_eq_true (by omega)]; rfl
  unfold respE at h
  rw [hv, hex] at h
  simp only [if_true, Int.toNat_natCast] at h
  cases hr : respO l i with
  | none => simp [hr] at h
  | some r => exact ⟨r, rfl, by unfold respR; rw [hex, Int.toNat_natCast, hr]; rfl⟩
theorem safe_job {l : List CT} {rs : List (List Int)} (hv : validL l = true) (hn : rs.length = l.length) (hs : rowsB l rs = true) {k : Nat} {j : Jb} (hj : j ∈ (run (envOf l rs) k).en) (ht : j.tk < l.length) (h : respE l j.tk = 0) : j.en - j.rel ≤ respR l j.tk := by
  obtain ⟨r, hr, hR⟩ := respE_zero hv ht h
  obtain ⟨h1, _, h2⟩ := resp_fit hv hn hs ht hr
  rw [hR]
  exact done_safe (env_ok hv hn hs) (blk_env rs hv) ht h1 h2 k j hj rfl
theorem safe_all {l : List CT} {rs : List (List Int)} (hv : validL l = true) (hn : rs.length = l.length) (hs : rowsB l rs = true) {i m u : Nat} (hi : i < l.length) (h : respE l i = 0) {x : Int} (hx : (rwAt rs i)[m]? = some x) (hu : x + respR l i ≤ u) : ∃ j ∈ (run (envOf l rs) u).en, j.tk = i ∧ j.rel = x := by
  obtain ⟨r, hr, hR⟩ := respE_zero hv hi h
  obtain ⟨h1, _, h2⟩ := resp_fit hv hn hs hi hr
  rw [hR] at hu
  exact done_all (env_ok hv hn hs) (blk_env rs hv) hi h1 h2 hx hu
end Go.Proofs.Ytkedcnemldjbeaa
