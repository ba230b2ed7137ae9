/- A slice of jobs that the call builds. Conditions: each theorem's own. -/
import Derived.Test.YtkedcnemldjbeaaSimEnv
namespace Go.Proofs.Ytkedcnemldjbeaa
open Go.RowKit

def JW (N : Nat) (w : World) (v : Value) (js : List Jb) : Prop := Win w 59 5 v js.length (js.flatMap encJ) ∧ ∀ g, v.ownBlock = some g → N ≤ g
theorem JW.nil (N : Nat) (w : World) : JW N w (.slice none 0 0) [] := ⟨Win.nil _ _ _, fun g h => by simp [Value.ownBlock] at h⟩
theorem JW.below {N : Nat} {w w' : World} {v : Value} {js : List Jb} (h : JW N w v js) (hb : Below w.heap.size w w') : JW N w' v js := ⟨h.1.below hb fun _ hg => h.1.blk_lt hg, h.2⟩
theorem JW.jobs {N : Nat} {w : World} {v : Value} {js : List Jb} (h : JW N w v js) : ∃ a c, v = .slice a js.length c ∧ js.length ≤ c ∧ c ≤ 9223372036854775807 ∧ JobsAt w w.heap.size a js := jobs_of_win h.1
theorem JW.push {N : Nat} {w : World} {v : Value} {js : List Jb} (h : JW N w v js) (hN : N ≤ w.heap.size) (j : Jb) (hm : js.length ≤ 1000000) :
    ∃ v' w', (Builtin.append_ #[51, 51] 51 #[v, .slice (some ⟨w.heap.size, 0, none⟩) 1 1]).run Try.prog (w.alloc (.cells #[.int .i64 j.tk, .int .i64 j.rel, .int .i64 j.st, .int .i64 j.en, .int .i64 j.bl] 59)) = .ok v' w' ∧
      JW N w' v' (js ++ [j]) ∧ Below N w w' := by
  obtain ⟨hw, hv⟩ := h
  obtain ⟨g, o, c, w', hr, hw', hg, hl, hlt⟩ := Win.push (P := Try.prog) (t := 51) (ty := 51) Try.underlying51 info_job (by simp [Value.cells]) (by decide)
    (hw.alloc (.cells #[.int .i64 j.tk, .int .i64 j.rel, .int .i64 j.st, .int .i64 j.en, .int .i64 j.bl] 59)) ⟨w.heap.size, 0, none⟩ 1 (encJ j) rfl (fun k u hk => World.news_of_block (Go.Deep.blk_alloc_new _ _) k u hk) (fun u hu => by
      simp only [encJ, List.mem_cons, List.not_mem_nil, or_false] at hu
      rcases hu with rfl | rfl | rfl | rfl | rfl <;> rfl) (by omega) (by omega)
  refine ⟨_, w', hr, ⟨by simpa using hw', fun k hk => ?_⟩, ((Below.refl N w).alloc hN _).grown hg (by simp; omega) fun k hk => hv k hk⟩
  simp only [Value.ownBlock, Option.some.injEq] at hk
  subst hk
  rcases hl with hl | hl
  · exact hv _ hl
  · rw [hl]; simp; omega
/-- The jobs of the first n tasks among the first k. -/
def lowF (js : List Jb) (n k : Nat) : List Jb := (js.take k).filter fun j => decide (j.tk < n)
theorem lowF_yes {js : List Jb} {n k : Nat} (h : k < js.length) (hn : js[k].tk < n) : lowF js n (k + 1) = lowF js n k ++ [js[k]] := by
  unfold lowF
  rw [List.take_succ_eq_append_getElem h, List.filter_append]
  simp [hn]
theorem lowF_no {js : List Jb} {n k : Nat} (h : k < js.length) (hn : ¬ js[k].tk < n) : lowF js n (k + 1) = lowF js n k := by
  unfold lowF
  rw [List.take_succ_eq_append_getElem h, List.filter_append]
  simp [hn]
theorem lowF_len (js : List Jb) (n k : Nat) : (lowF js n k).length ≤ js.length := by
  unfold lowF
  have h1 := List.length_filter_le (fun j : Jb => decide (j.tk < n)) (js.take k)
  have h2 := List.length_take_le k js
  have h3 : (js.take k).length ≤ js.length := by simp; omega
  omega
end Go.Proofs.Ytkedcnemldjbeaa
