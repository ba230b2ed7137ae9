/- A map from int to int that the call made, as a function. Conditions: keys and elements that fit their kind. -/
import Derived.Test.YtkedcnemldjbeaaTk
import Derived.Maps.Own
import Derived.Maps.OwnOps
import Derived.Maps.OwnSet
namespace Go.Proofs.Ytkedcnemldjbeaa
open Go.RowKit Go.Maps

theorem law_int : Keyed Try.prog 3 := int_keyed Try.underlying3
theorem zero_int (w : World) : (zeroValue 3).run Try.prog w = .ok (.int .i64 0) w := by kernel_rfl
theorem wf64 {k : Int} (h1 : -9223372036854775808 ≤ k) (h2 : k ≤ 9223372036854775807) : (Lit.int .i64 k).wf = true := WalkArith.wf_i64 ⟨h1, h2⟩

/-- Block b is a map of at most n entries, sz by number, that holds m. -/
def IMap (w : World) (b n : Nat) (m : Int → Option Int) (sz : Nat) : Prop :=
  ∃ D : DataW Unit, w.ownsMap Try.prog 3 (plainElem Try.prog 3) b n D ∧ Maps.Tidy D ∧ Maps.size D = sz ∧
    ∀ k : Int, Maps.has D (.int .i64 k) = (m k).isSome ∧ D.atKey (.int .i64 k) (.lit (.int .i64 0)) = .lit (.int .i64 ((m k).getD 0))
def putM (m : Int → Option Int) (k v : Int) : Int → Option Int := fun x => if x = k then some v else m x

section
variable {w w' : World} {b n sz N : Nat} {m : Int → Option Int}
theorem IMap.new (w : World) : IMap (w.alloc (.map #[] 0)) w.heap.size 0 (fun _ => none) 0 :=
  ⟨.map [], World.ownsMap_made _ _ _ _, Maps.tidy_empty, rfl, fun _ => ⟨rfl, rfl⟩⟩
theorem IMap.keep (h : IMap w b n m sz) (hb : Below N w w') (hlt : b < N) : IMap w' b n m sz := by
  obtain ⟨D, ⟨es, clock, e, r⟩, h2⟩ := h
  exact ⟨D, ⟨es, clock, (hb.block b hlt).trans e, r⟩, h2⟩
theorem IMap.lt (h : IMap w b n m sz) : b < w.heap.size := by
  obtain ⟨D, h1, _⟩ := h; exact h1.lt
theorem IMap.look (h : IMap w b n m sz) {k : Int} (hk : (Lit.int .i64 k).wf = true) :
    (Instr.lookup 60 (.map (some b)) (.int .i64 k) true).run Try.prog w = .ok (.tuple #[.int .i64 ((m k).getD 0), .bool (m k).isSome]) w := by
  obtain ⟨D, h1, _, _, h2⟩ := h
  obtain ⟨v, ps, hrun, hv⟩ := h1.look_ok law_int Try.underlying60 (zero_int w) (plainElem_int Try.underlying3 (by decide)) (keyOf_int_mk Try.underlying3 hk)
  obtain ⟨c, rfl, hc, hwc⟩ := plainElem_int_inv Try.underlying3 hv
  simp only [Prod.mk.injEq] at hc
  have e := (h2 k).2.symm.trans hc.1
  injection e with e
  injection e with _ e
  rw [hrun, (h2 k).1, e]
theorem IMap.look1 (h : IMap w b n m sz) {k : Int} (hk : (Lit.int .i64 k).wf = true) :
    (Instr.lookup 60 (.map (some b)) (.int .i64 k) false).run Try.prog w = .ok (.int .i64 ((m k).getD 0)) w := by
  obtain ⟨D, h1, _, _, h2⟩ := h
  obtain ⟨c, hrun, hc, hwc⟩ := h1.lookup_int law_int Try.underlying60 Try.underlying3 (zero_int w) (keyOf_int_mk Try.underlying3 hk)
  have e := (h2 k).2.symm.trans hc
  injection e with e
  injection e with _ e
  rw [hrun, e]
theorem IMap.put (h : IMap w b n m sz) (hn : n < maxLen) {k v : Int} (hk : (Lit.int .i64 k).wf = true) (hv : (Lit.int .i64 v).wf = true) :
    ∃ w', (Instr.mapUpdate 60 (.map (some b)) (.int .i64 k) (.int .i64 v)).run Try.prog w = .ok () w' ∧ IMap w' b (n + 1) (putM m k v) (if (m k).isSome then sz else sz + 1) ∧ w.grownBy w' (some b) := by
  obtain ⟨D, h1, ht, hs, h2⟩ := h
  obtain ⟨w', hrun, hown, hg⟩ := h1.update law_int Try.underlying60 hn (keyOf_int_mk Try.underlying3 hk) (plainElem_int Try.underlying3 hv)
  refine ⟨w', hrun, ⟨_, hown, ht.put (show WideAt.IsKeyLit (.int .i64 k) from trivial) _, ?_, fun x => ?_⟩, hg⟩
  · rw [Maps.size_put ht, (h2 k).1, hs]
  · by_cases hx : x = k
    · subst hx
      rw [Maps.has_put_same ht.isMap (show WideAt.IsKeyLit (.int .i64 x) from trivial), Maps.atKey_put_same ht.isMap (show WideAt.IsKeyLit (.int .i64 x) from trivial)]
      simp [putM]
    · have hne : Lit.int .i64 x ≠ Lit.int .i64 k := by
        intro e; injection e with _ e; exact hx e
      rw [Maps.has_put_other hne, Maps.atKey_put_other hne, (h2 x).1, (h2 x).2]
      simp [putM, hx]
end
end Go.Proofs.Ytkedcnemldjbeaa
