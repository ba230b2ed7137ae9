/- Tasks that are copied and appended. Conditions: each theorem's own. -/
import Derived.Test.YtdjpkebajcpfbaaTs
import Derived.Test.YtdjpkebajcpfbaaWinCat
namespace Go.Proofs.Ytdjpkebajcpfbaa
open Go.RowKit

theorem info_tt : (Try.prog.info? 37).map (fun i => (i.zero, i.size, i.bytes)) = some (some (.agg #[.string (ByteArray.mk #[]), .int .i64 0, .int .i64 0]), 3, 32) := by kernel_rfl
theorem info_rtt : (Try.prog.info? 46).map (fun i => (i.zero, i.size, i.bytes)) = some (some (.agg #[.string (ByteArray.mk #[]), .int .i64 0, .int .i64 0]), 3, 32) := by kernel_rfl
def encT (j : TT) : List Value := [.string j.nm, .int .i64 j.c, .int .i64 j.p]
theorem encT_len (j : TT) : (encT j).length = 3 := rfl
theorem ts_read {w : World} {N : Nat} {a : Option Addr} {l : List TT} (hc : TSAt w N a l) (h0 : 0 < l.length) : ∃ ad, a = some ad ∧ ad.block < N ∧ ∀ j u, (l.flatMap encT)[j]? = some u → w.cell? (ad.add j) = some u := by
  obtain ⟨b, off, rfl, hbN, hcell⟩ := hc (List.length_pos_iff.1 h0)
  refine ⟨_, rfl, hbN, fun j u hj => ?_⟩
  have hlt : j < (l.flatMap encT).length := (List.getElem?_eq_some_iff.1 hj).1
  rw [flat_len encT_len] at hlt
  have hi : j / 3 < l.length := by omega
  obtain ⟨c0, c1, c2⟩ := hcell _ _ (ttAt_get hi)
  have e := flat_get encT_len (ttAt_get hi) (show j % 3 < 3 by omega)
  rw [show j / 3 * 3 + j % 3 = j by omega, hj] at e
  rw [addr_add]
  have : j % 3 = 0 ∨ j % 3 = 1 ∨ j % 3 = 2 := by omega
  rcases this with h | h | h <;> rw [h] at e <;> simp only [encT, List.getElem?_cons_zero, List.getElem?_cons_succ, Option.some.injEq] at e <;> subst e
  · rw [show off + j = off + j / 3 * 3 by omega]; exact c0
  · rw [show off + j = off + j / 3 * 3 + 1 by omega]; exact c1
  · rw [show off + j = off + j / 3 * 3 + 2 by omega]; exact c2
theorem Win.ts {w : World} {T : TypeId} {v : Value} {n : Nat} {l : List TT} (h : Win w T 3 v n (l.flatMap encT)) (hn : n = l.length) : ∃ a cap, v = .slice a l.length cap ∧ l.length ≤ cap ∧ cap ≤ 9223372036854775807 ∧ TSAt w w.heap.size a l := by
  subst hn
  obtain ⟨a, cap, e, h1, h2⟩ := h.form0
  refine ⟨a, cap, e, h1, h2, fun hne => ?_⟩
  obtain ⟨g, o, cap', e2, hlt, _⟩ := h.form (List.length_pos_iff.2 hne)
  rw [e2] at e h
  simp only [Value.slice.injEq] at e
  obtain ⟨rfl, _⟩ := e
  refine ⟨g, o, rfl, hlt, fun i j hj => ?_⟩
  have f := fun k (hk : k < 3) => flat_get encT_len hj hk
  have f0 := f 0 (by decide)
  have f1 := f 1 (by decide)
  have f2 := f 2 (by decide)
  simp only [encT, List.getElem?_cons_zero, List.getElem?_cons_succ, Nat.add_zero] at f0 f1 f2
  exact ⟨h.cell f0, by rw [Nat.add_assoc]; exact h.cell f1, by rw [Nat.add_assoc]; exact h.cell f2⟩
/-- The slice literal of one task. -/
theorem Win.oneT (w : World) (t : TT) : Win (w.alloc (.cells #[.string t.nm, .int .i64 t.c, .int .i64 t.p] 37)) 37 3 (.slice (some ⟨w.heap.size, 0, none⟩) 1 1) 1 ([t].flatMap encT) :=
  ⟨by simp [encT], .inr ⟨w.heap.size, 0, 1, _, rfl, Go.Deep.blk_alloc_new _ _, by omega, by unfold maxLen; omega, by simp, fun j u h => by
    rw [Nat.zero_add]
    simpa [encT] using h⟩⟩
/-- append of a list of tasks. -/
theorem cat_ts {w W : World} {a : Option Addr} {cap n : Nat} {l l0 : List TT} {v : Value} (hc : TSAt w w.heap.size a l) (h8 : l.length ≤ 1000) (h9 : n ≤ 1000) (hb : Below w.heap.size w W)
    (hW : Win W 37 3 v n (l0.flatMap encT)) (hv : ∀ k, v.ownBlock = some k → w.heap.size ≤ k) :
    ∃ v1 w1, (Builtin.append_ #[22, 22] 22 #[v, .slice a l.length cap]).run Try.prog W = .ok v1 w1 ∧
      Win w1 37 3 v1 (n + l.length) ((l0 ++ l).flatMap encT) ∧ Below w.heap.size w w1 ∧ (∀ k, v1.ownBlock = some k → w.heap.size ≤ k) := by
  obtain ⟨v1, w1, r1, k1, g1, o1⟩ := hW.cat (P := Try.prog) (t := 22) (ty := 22) Try.underlying22 info_tt (by simp [Value.cells]) (by decide) a l.length cap (l.flatMap encT) (flat_len encT_len l)
    (fun h0 => by
      obtain ⟨ad, e, hlt, hr⟩ := ts_read hc h0
      refine ⟨ad, e, fun j u hj => ?_⟩
      have := hb.cell (p := ad.add j) (by unfold Addr.add; split <;> exact hlt)
      rw [this]; exact hr j u hj) (fun u hu => by
        simp only [List.mem_flatMap, encT, List.mem_cons, List.not_mem_nil, or_false] at hu
        obtain ⟨_, _, rfl | rfl | rfl⟩ := hu <;> rfl) (by omega) (by omega)
  have sb := hb.size
  refine ⟨v1, w1, r1, by simpa [List.flatMap_append] using k1, hb.grown g1 sb hv, fun k hk => ?_⟩
  rcases o1 k hk with e | e
  · exact hv k e
  · omega
end Go.Proofs.Ytdjpkebajcpfbaa
