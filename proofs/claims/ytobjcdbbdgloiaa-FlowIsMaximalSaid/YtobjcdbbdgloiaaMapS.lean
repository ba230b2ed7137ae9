/- A map from int to bool that the call made, all its elements true, as a set. Conditions: keys that fit their kind. -/
import Derived.Test.YtobjcdbbdgloiaaTk
import Derived.Maps.Own
import Derived.Maps.OwnOps
import Derived.Maps.OwnSet
namespace Go.Proofs.Ytobjcdbbdgloiaa
open Go.RowKit Go.Maps

theorem law_int : Keyed Try.prog 3 := int_keyed Try.underlying3
theorem zero_bool (w : World) : (zeroValue 4).run Try.prog w = .ok (.bool false) w := by kernel_rfl
theorem wf64 {k : Int} (h1 : -9223372036854775808 ≤ k) (h2 : k ≤ 9223372036854775807) : (Lit.int .i64 k).wf = true := WalkArith.wf_i64 ⟨h1, h2⟩
theorem plainElem_bool_inv {H : Type} {P : Program} {e : TypeId} (he : P.underlying e = some .bool) {v : Value} {z : DataW H × List MemPlace} (h : plainElem P e v = some z) : ∃ a, v = .bool a ∧ z = (.lit (.bool a), []) := by
  unfold plainElem at h
  rw [he] at h
  cases v <;> simp at h
  exact ⟨_, rfl, h.symm⟩
/-- Block b is a map of at most n entries whose keys are those of S, each with true. -/
def BSet (w : World) (b n : Nat) (S : Int → Bool) : Prop :=
  ∃ D : DataW Unit, w.ownsMap Try.prog 3 (plainElem Try.prog 4) b n D ∧ Maps.Tidy D ∧ ∀ k : Int, D.atKey (.int .i64 k) (.lit (.bool false)) = .lit (.bool (S k))
section
variable {w w' : World} {b n N : Nat} {S : Int → Bool}
theorem BSet.new (w : World) : BSet (w.alloc (.map #[] 0)) w.heap.size 0 (fun _ => false) :=
  ⟨.map [], World.ownsMap_made _ _ _ _, Maps.tidy_empty, fun _ => rfl⟩
theorem BSet.keep (h : BSet w b n S) (hb : Below N w w') (hlt : b < N) : BSet w' b n S := by
  obtain ⟨D, ⟨es, clock, e, r⟩, h2⟩ := h
  exact ⟨D, ⟨es, clock, (hb.block b hlt).trans e, r⟩, h2⟩
theorem BSet.same (h : BSet w b n S) (hb : w'.heap[b]? = w.heap[b]?) : BSet w' b n S := by
  obtain ⟨D, ⟨es, clock, e, r⟩, h2⟩ := h
  exact ⟨D, ⟨es, clock, hb.trans e, r⟩, h2⟩
theorem BSet.lt (h : BSet w b n S) : b < w.heap.size := by
  obtain ⟨D, h1, _⟩ := h; exact h1.lt
theorem BSet.look (h : BSet w b n S) {k : Int} (hk : (Lit.int .i64 k).wf = true) :
    (Instr.lookup 31 (.map (some b)) (.int .i64 k) false).run Try.prog w = .ok (.bool (S k)) w := by
  obtain ⟨D, h1, _, h2⟩ := h
  obtain ⟨v, ps, hrun, hv⟩ := h1.lookup law_int Try.underlying31 (zero_bool w) (plainElem_bool Try.underlying4 false) (keyOf_int_mk Try.underlying3 hk)
  obtain ⟨c, rfl, hc⟩ := plainElem_bool_inv Try.underlying4 hv
  simp only [Prod.mk.injEq] at hc
  have e := (h2 k).symm.trans hc.1
  injection e with e
  injection e with e
  rw [hrun, e]
theorem BSet.put (h : BSet w b n S) (hn : n < maxLen) {k : Int} (hk : (Lit.int .i64 k).wf = true) :
    ∃ w', (Instr.mapUpdate 31 (.map (some b)) (.int .i64 k) (.bool true)).run Try.prog w = .ok () w' ∧ BSet w' b (n + 1) (fun x => if x = k then true else S x) ∧ w.grownBy w' (some b) := by
  obtain ⟨D, h1, ht, h2⟩ := h
  obtain ⟨w', hrun, hown, hg⟩ := h1.update law_int Try.underlying31 hn (keyOf_int_mk Try.underlying3 hk) (plainElem_bool Try.underlying4 true)
  refine ⟨w', hrun, ⟨_, hown, ht.put (show WideAt.IsKeyLit (.int .i64 k) from trivial) _, fun x => ?_⟩, hg⟩
  by_cases hx : x = k
  · subst hx
    rw [Maps.atKey_put_same ht.isMap (show WideAt.IsKeyLit (.int .i64 x) from trivial)]
    simp
  · have hne : Lit.int .i64 x ≠ Lit.int .i64 k := by
      intro e; injection e with _ e; exact hx e
    rw [Maps.atKey_put_other hne, h2 x]
    simp [hx]
end
end Go.Proofs.Ytobjcdbbdgloiaa
