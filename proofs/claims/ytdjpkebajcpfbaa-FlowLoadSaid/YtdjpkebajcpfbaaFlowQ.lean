/- A queue of vertices, and a matrix that is read. Conditions: each theorem's own. -/
import Derived.Test.YtdjpkebajcpfbaaFlowM
import Derived.Test.YtdjpkebajcpfbaaM00
namespace Go.Proofs.Ytdjpkebajcpfbaa
open Go.RowKit Go.Deep

/-- The matrix r of n rows lies in the slice at O, o, in blocks below N. -/
def MatAt (w : World) (N O o n : Nat) (r : Nat → Nat → Int) : Prop := O < N ∧ ∀ i, i < n → ∃ b f c, w.cell? ⟨O, o + i, none⟩ = some (.slice (some ⟨b, f, none⟩) n c) ∧ n ≤ c ∧ c ≤ 9223372036854775807 ∧ b < N ∧ ∀ j, j < n → w.cell? ⟨b, f + j, none⟩ = some (.int .i64 (r i j))
theorem MatAt.keep {w w' : World} {N O o n : Nat} {r : Nat → Nat → Int} (h : MatAt w N O o n r) (hb : Below N w w') : MatAt w' N O o n r :=
  ⟨h.1, fun i hi => by
    obtain ⟨b, f, c, h1, h2, h3, h4, h5⟩ := h.2 i hi
    exact ⟨b, f, c, keep_cellN hb h.1 h1, h2, h3, h4, fun j hj => keep_cellN hb h4 (h5 j hj)⟩⟩
theorem MatAt.more {w : World} {N N' O o n : Nat} {r : Nat → Nat → Int} (h : MatAt w N O o n r) (hN : N ≤ N') : MatAt w N' O o n r :=
  ⟨by have := h.1; omega, fun i hi => by
    obtain ⟨b, f, c, h1, h2, h3, h4, h5⟩ := h.2 i hi
    exact ⟨b, f, c, h1, h2, h3, by omega, h5⟩⟩

def QW (N g : Nat) (w : World) (v : Value) (q : List Nat) : Prop := Win w 3 1 v q.length (q.map fun x : Nat => Value.int .i64 (x : Int)) ∧ ∀ k, v.ownBlock = some k → N ≤ k ∧ k ≠ g
section
variable {N g : Nat} {w w' : World} {v : Value} {q : List Nat}
theorem QW.below {B : Nat} (h : QW N g w v q) (hb : Below w.heap.size w w') : QW N g w' v q := ⟨h.1.below hb fun _ hg => h.1.blk_lt hg, h.2⟩
theorem QW.drewN (h : QW N g w v q) (n : Nat) : QW N g (w.drewN n) v q := ⟨h.1.of_block fun _ _ => rfl, h.2⟩
theorem QW.set (h : QW N g w v q) (j : Nat) (u : Value) : QW N g (w.setCell ⟨g, j, none⟩ u) v q := ⟨h.1.setOther (fun k hk => (h.2 k hk).2) u, h.2⟩
theorem QW.one (w : World) {H : Nat} (hH : w.heap.size = H) (hN : N ≤ H) (hg : g ≠ H) (x : Nat) : QW N g (w.alloc (.cells #[.int .i64 (x : Int)] 3)) (.slice (some ⟨H, 0, none⟩) 1 1) [x] := by
  subst hH
  refine ⟨⟨by simp, .inr ⟨w.heap.size, 0, 1, #[.int .i64 (x : Int)], rfl, Go.Deep.blk_alloc_new _ _, by simp, by unfold maxLen; omega, by simp, fun j u h => ?_⟩⟩, fun k hk => ?_⟩
  · match j with
    | 0 => simpa using h
    | j + 1 => simp at h
  · simp [Value.ownBlock] at hk
    subst hk
    exact ⟨hN, fun e => hg e.symm⟩
theorem QW.pop {u : Nat} (h : QW N g w v (u :: q)) : ∃ b o cap, v = .slice (some ⟨b, o, none⟩) (q.length + 1) cap ∧ b < w.heap.size ∧ w.cell? ⟨b, o, none⟩ = some (.int .i64 u) ∧
    ∃ v', (Instr.slice 41 v (some (.int .i64 1)) none none).run Try.prog w = .ok v' w ∧ QW N g w v' q := by
  obtain ⟨h1, h2⟩ := h
  obtain ⟨b, o, cap, rfl, hlt, _⟩ := h1.form (by simp)
  obtain ⟨v', r1, r2, r3⟩ := Win.pop (P := Try.prog) Try.underlying41 (by kernel_rfl) ⟨_, _, info_int⟩ h1
  refine ⟨b, o, cap, rfl, hlt, h1.cell (j := 0) rfl, v', r1, by simpa using r2, fun k hk => h2 k (by rw [← r3]; exact hk)⟩
theorem QW.push (h : QW N g w v q) (hN : N ≤ w.heap.size) (hg : g < w.heap.size) (x : Nat) (hq : q.length ≤ 1000000) :
    ∃ v' w', (Builtin.append_ #[41, 41] 41 #[v, .slice (some ⟨w.heap.size, 0, none⟩) 1 1]).run Try.prog (w.alloc (.cells #[.int .i64 (x : Int)] 3)) = .ok v' w' ∧ QW N g w' v' (q ++ [x]) ∧ Below N w w' ∧ w'.heap[g]? = w.heap[g]? := by
  obtain ⟨hw, hv⟩ := h
  obtain ⟨gg, o, c, w', hr, hw', hgr, hl, hlt⟩ := Win.push (P := Try.prog) (t := 41) (ty := 41) Try.underlying41 info_int (by simp [Value.cells]) (by decide)
    (hw.alloc (.cells #[.int .i64 (x : Int)] 3)) ⟨w.heap.size, 0, none⟩ 1 [.int .i64 (x : Int)] rfl (fun k u hk => World.news_of_block (Go.Deep.blk_alloc_new _ _) k u hk) (fun u hu => by
      simp only [List.mem_cons, List.not_mem_nil, or_false] at hu
      rcases hu with rfl <;> rfl) (by omega) (by omega)
  refine ⟨_, w', hr, ⟨by simpa using hw', fun k hk => ?_⟩, ((Below.refl N w).alloc hN _).grown hgr (by simp; omega) fun k hk => (hv k hk).1, ?_⟩
  · simp only [Value.ownBlock, Option.some.injEq] at hk
    subst hk
    rcases hl with hl | hl
    · exact hv _ hl
    · rw [hl]; simp; omega
  · rw [hgr.block g (by simp; omega) (fun e => (hv g e.symm).2 rfl)]
    exact Below.heap_alloc _ _ _ hg
end
end Go.Proofs.Ytdjpkebajcpfbaa
