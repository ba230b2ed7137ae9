/- Several texts in one: Jobs that can be scheduled still can when they ask for less: plain Lean. Conditions: each theorem's own. Jobs that are copied, and one of them written. Conditions: each theorem's own. -/
import Derived.Test.YtfoadipocpopiaaGreatSchedule
import Derived.Test.YtfoadipocpopiaaGreatWinCat
namespace Go.Proofs.YtfoadipocpopiaaGreat
section
def b01 (b : Bool) : Int := if b = true then 1 else 0
theorem b01_01 (b : Bool) : 0 ≤ b01 b ∧ b01 b ≤ 1 := by unfold b01; split <;> omega
/-- The first slots of a job, up to a number. -/
def firstC (f : Nat → Bool) (c : Int) (s : Nat) : Bool := f s && decide (sm s (fun i => b01 (f i)) < c)
theorem firstC_cnt {f : Nat → Bool} {c : Int} (hc : 0 ≤ c) : ∀ k, sm k (fun s => b01 (firstC f c s)) = min (sm k (fun i => b01 (f i))) c
  | 0 => by show (0 : Int) = min 0 c; omega
  | k + 1 => by
    rw [sm, sm, firstC_cnt hc k]
    unfold firstC
    generalize sm k (fun i => b01 (f i)) = A
    cases hf : f k
    · simp [b01]
    · by_cases h : A < c
      · rw [decide_eq_true h]; show min A c + 1 = min (A + 1) c; omega
      · rw [decide_eq_false h]; show min A c + 0 = min (A + 1) c; omega
theorem maxD_mono {l l' : List FJ} (h : ∀ j, j < l.length → (fjAt l j).d ≤ (fjAt l' j).d) : ∀ {k : Nat}, k ≤ l.length → maxD l k ≤ maxD l' k
  | 0, _ => by unfold maxD; exact Int.le_refl _
  | k + 1, hk => by
    have h1 := maxD_mono h (k := k) (by omega)
    have h2 := h k (by omega)
    simp only [maxD]
    omega
theorem Can.ease {l l' : List FJ} {cores cores' : Int} (hlen : l'.length = l.length) (h : ∀ j, j < l.length → (fjAt l' j).r ≤ (fjAt l j).r ∧ (fjAt l j).d ≤ (fjAt l' j).d ∧ 0 ≤ (fjAt l' j).c ∧ (fjAt l' j).c ≤ (fjAt l j).c) (hc0 : 0 ≤ cores) (hc : cores ≤ cores') (hcan : Can l cores) : Can l' cores' := by
  obtain ⟨σ, hσ⟩ := hcan
  have hS : slotsN l ≤ slotsN l' := by
    have := maxD_mono (l := l) (l' := l') (fun j hj => (h j hj).2.1) (Nat.le_refl l.length)
    unfold slotsN
    rw [hlen]; omega
  refine ⟨fun j s => decide (s < slotsN l) && firstC (σ j) (fjAt l' j).c s, ?_, ?_, ?_⟩
  · intro j s hj hs hb
    rw [Bool.and_eq_true, decide_eq_true_eq] at hb
    obtain ⟨h1, h2⟩ := hb
    unfold firstC at h2
    rw [Bool.and_eq_true] at h2
    rw [hlen] at hj
    have := hσ.win j s hj h1 h2.1
    unfold winB at this ⊢
    rw [decide_eq_true_eq] at this ⊢
    have := h j hj
    omega
  · intro s hs
    rw [hlen]
    by_cases h1 : s < slotsN l
    · have h2 := hσ.room s h1
      have h3 : sm l.length (fun j => if (decide (s < slotsN l) && firstC (σ j) (fjAt l' j).c s) = true then (1 : Int) else 0) ≤ sm l.length (fun j => if σ j s = true then 1 else 0) := sm_le fun j hj => by
        unfold firstC
        cases hf : σ j s <;> simp
        split <;> omega
      omega
    · rw [sm_congr (g := fun _ => (0 : Int)) (fun j _ => by simp [h1]), sm_zero]
      omega
  · intro j hj
    rw [hlen] at hj
    obtain ⟨_, _, h3, h4⟩ := h j hj
    rw [sm_ext hS (fun s h1 _ => by simp [show ¬ s < slotsN l by omega])]
    have e := firstC_cnt (f := σ j) h3 (slotsN l)
    have hc2 : sm (slotsN l) (fun i => b01 (σ j i)) = (fjAt l j).c := hσ.cost j hj
    rw [hc2] at e
    rw [sm_congr (g := fun s => b01 (firstC (σ j) (fjAt l' j).c s)) (fun s hs => by simp [hs, b01]), e]
    omega
end

section
open Go.RowKit

theorem info_fj : (Tryz.prog.info? 58).map (fun i => (i.zero, i.size, i.bytes)) = some (some (.agg #[.int .i64 0, .int .i64 0, .int .i64 0]), 3, 24) := by kernel_rfl
def encJ (j : FJ) : List Value := [.int .i64 j.r, .int .i64 j.d, .int .i64 j.c]
theorem encJ_len (j : FJ) : (encJ j).length = 3 := rfl
theorem jobs_read {w : World} {N : Nat} {a : Option Addr} {l : List FJ} (hc : FJobsAt w N a l) (h0 : 0 < l.length) : ∃ ad, a = some ad ∧ ad.block < N ∧ ∀ j u, (l.flatMap encJ)[j]? = some u → w.cell? (ad.add j) = some u := by
  obtain ⟨b, off, rfl, hbN, hcell⟩ := hc (List.length_pos_iff.1 h0)
  refine ⟨_, rfl, hbN, fun j u hj => ?_⟩
  have hlt : j < (l.flatMap encJ).length := (List.getElem?_eq_some_iff.1 hj).1
  rw [flat_len encJ_len] at hlt
  have hi : j / 3 < l.length := by omega
  obtain ⟨c0, c1, c2⟩ := hcell _ _ (fjAt_get hi)
  have e := flat_get encJ_len (fjAt_get hi) (show j % 3 < 3 by omega)
  rw [show j / 3 * 3 + j % 3 = j by omega, hj] at e
  rw [addr_add]
  have : j % 3 = 0 ∨ j % 3 = 1 ∨ j % 3 = 2 := by omega
  rcases this with h | h | h <;> rw [h] at e <;> simp only [encJ, List.getElem?_cons_zero, List.getElem?_cons_succ, Option.some.injEq] at e <;> subst e
  · rw [show off + j = off + j / 3 * 3 by omega]; exact c0
  · rw [show off + j = off + j / 3 * 3 + 1 by omega]; exact c1
  · rw [show off + j = off + j / 3 * 3 + 2 by omega]; exact c2
theorem Win.jobs {w : World} {T : TypeId} {g o cap : Nat} {l : List FJ} (h : Win w T 3 (.slice (some ⟨g, o, none⟩) l.length cap) l.length (l.flatMap encJ)) (hg : g < w.heap.size) : FJobsAt w w.heap.size (some ⟨g, o, none⟩) l := fun _ =>
  ⟨g, o, rfl, hg, fun i j hj => by
    have f := fun k (hk : k < 3) => flat_get encJ_len hj hk
    have f0 := f 0 (by decide)
    have f1 := f 1 (by decide)
    have f2 := f 2 (by decide)
    simp only [encJ, List.getElem?_cons_zero, List.getElem?_cons_succ, Nat.add_zero] at f0 f1 f2
    exact ⟨h.cell f0, by rw [Nat.add_assoc]; exact h.cell f1, by rw [Nat.add_assoc]; exact h.cell f2⟩⟩
theorem Win.setJob {w : World} {T : TypeId} {g o cap i : Nat} {l : List FJ} (h : Win w T 3 (.slice (some ⟨g, o, none⟩) l.length cap) l.length (l.flatMap encJ)) (hi : i < l.length) (j : FJ) :
    Win (((w.setCell ⟨g, o + i * 3, none⟩ (.int .i64 j.r)).setCell ⟨g, o + i * 3 + 1, none⟩ (.int .i64 j.d)).setCell ⟨g, o + i * 3 + 2, none⟩ (.int .i64 j.c)) T 3 (.slice (some ⟨g, o, none⟩) l.length cap) l.length ((l.set i j).flatMap encJ) := by
  have hg := fjAt_get hi
  generalize fjAt l i = q at hg
  have e0 := flat_set (u := .int .i64 j.r) encJ_len (b := ⟨j.r, q.d, q.c⟩) hg (show 0 < 3 by decide) rfl
  have hg1 : (l.set i ⟨j.r, q.d, q.c⟩)[i]? = some ⟨j.r, q.d, q.c⟩ := by simp [hi]
  have e1 := flat_set (u := .int .i64 j.d) encJ_len (b := ⟨j.r, j.d, q.c⟩) hg1 (show 1 < 3 by decide) rfl
  have hg2 : ((l.set i ⟨j.r, q.d, q.c⟩).set i ⟨j.r, j.d, q.c⟩)[i]? = some ⟨j.r, j.d, q.c⟩ := by simp [hi]
  have e2 := flat_set (u := .int .i64 j.c) encJ_len (b := ⟨j.r, j.d, j.c⟩) hg2 (show 2 < 3 by decide) rfl
  have h3 := ((h.set (i * 3 + 0) (.int .i64 j.r)).set (i * 3 + 1) (.int .i64 j.d)).set (i * 3 + 2) (.int .i64 j.c)
  rw [e0, e1, e2] at h3
  simpa [← Nat.add_assoc] using h3
/-- 'append([]Job{}, l...)'. -/
theorem copy_jobs {w W : World} {a : Option Addr} {cap g0 : Nat} {l : List FJ} (hc : FJobsAt w w.heap.size a l) (h8 : l.length ≤ 1000) (hb : Below w.heap.size w W) (hg0 : w.heap.size ≤ g0)
    (hW : Win W 58 3 (.slice (some ⟨g0, 0, none⟩) 0 0) 0 []) :
    ∃ v1 w1, (Builtin.append_ #[32, 32] 32 #[.slice (some ⟨g0, 0, none⟩) 0 0, .slice a l.length cap]).run Tryz.prog W = .ok v1 w1 ∧
      Win w1 58 3 v1 l.length (l.flatMap encJ) ∧ Below w.heap.size w w1 ∧ (∀ k, v1.ownBlock = some k → w.heap.size ≤ k) := by
  obtain ⟨v1, w1, r1, k1, g1, o1⟩ := hW.cat (P := Tryz.prog) (t := 32) (ty := 32) Tryz.underlying32 info_fj (by simp [Value.cells]) (by decide) a l.length cap (l.flatMap encJ) (flat_len encJ_len l)
    (fun h0 => by
      obtain ⟨ad, e, hlt, hr⟩ := jobs_read hc h0
      refine ⟨ad, e, fun j u hj => ?_⟩
      have := hb.cell (p := ad.add j) (by unfold Addr.add; split <;> exact hlt)
      rw [this]; exact hr j u hj) (fun u hu => by
        simp only [List.mem_flatMap, encJ, List.mem_cons, List.not_mem_nil, or_false] at hu
        obtain ⟨_, _, rfl | rfl | rfl⟩ := hu <;> rfl) (by omega) (by omega)
  have sb := hb.size
  refine ⟨v1, w1, r1, by simpa using k1, hb.grown g1 sb (fun k hk => by simp [Value.ownBlock] at hk; omega), fun k hk => ?_⟩
  rcases o1 k hk with e | e
  · simp [Value.ownBlock] at e; omega
  · omega
end
end Go.Proofs.YtfoadipocpopiaaGreat
