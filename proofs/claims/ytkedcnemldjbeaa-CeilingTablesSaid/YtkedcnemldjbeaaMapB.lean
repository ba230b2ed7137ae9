/- A map from int to bool that the call made, as a set; the length of a map. Conditions: keys that fit their kind. -/
import Derived.Test.YtkedcnemldjbeaaMap
namespace Go.Proofs.Ytkedcnemldjbeaa
open Go.RowKit Go.Maps

theorem IMap.len {w : World} {b n sz : Nat} {m : Int → Option Int} (h : IMap w b n m sz) (ty : TypeId) : (Builtin.len_ #[60] ty #[.map (some b)]).run Try.prog w = .ok (.int .i64 sz) w := by
  obtain ⟨D, h1, _, h3, _⟩ := h
  rw [h1.len Try.underlying60 ty, h3]
theorem wpList_len_by {P : Program} {w : World} {ops : Array Oper} {rest : List Oper} {o : Oper} {a : Act} {Q : Exit → Act → World → Prop} (hgd : o.guard = none) (s : Operand) (t : TypeId)
    (ho : o.op = .call { callee := .builtin .len, args := #[s], argTypes := #[t] }) (v r : Value) (hs : a.eval s = v) (hrun : (Builtin.len_ #[t] o.type #[v]).run P w = .ok r w) (h : wpList P ops Q rest (a.put o.dst r) w) : wpList P ops Q (o :: rest) a w := by
  refine wpList_plain hgd fun K hK => ?_
  unfold Oper.wp execOp
  simp only [ho, resolve, invoke, builtin, Sem.run_bind, Sem.run_pure, Result.andThen_ok, List.map_toArray, List.map_cons, List.map_nil, hs, hrun]
  exact hK _ _ h
/-- Block b is a map of at most n entries, sz by number, whose keys are those of S. -/
def BMap (w : World) (b n : Nat) (S : Int → Bool) (sz : Nat) : Prop :=
  ∃ D : DataW Unit, w.ownsMap Try.prog 3 (plainElem Try.prog 4) b n D ∧ Maps.Tidy D ∧ Maps.size D = sz ∧ ∀ k : Int, Maps.has D (.int .i64 k) = S k
section
variable {w w' : World} {b n sz N : Nat} {S : Int → Bool}
theorem BMap.new (w : World) : BMap (w.alloc (.map #[] 0)) w.heap.size 0 (fun _ => false) 0 :=
  ⟨.map [], World.ownsMap_made _ _ _ _, Maps.tidy_empty, rfl, fun _ => rfl⟩
theorem BMap.keep (h : BMap w b n S sz) (hb : Below N w w') (hlt : b < N) : BMap w' b n S sz := by
  obtain ⟨D, ⟨es, clock, e, r⟩, h2⟩ := h
  exact ⟨D, ⟨es, clock, (hb.block b hlt).trans e, r⟩, h2⟩
theorem BMap.lt (h : BMap w b n S sz) : b < w.heap.size := by
  obtain ⟨D, h1, _⟩ := h; exact h1.lt
theorem BMap.len (h : BMap w b n S sz) (ty : TypeId) : (Builtin.len_ #[69] ty #[.map (some b)]).run Try.prog w = .ok (.int .i64 sz) w := by
  obtain ⟨D, h1, _, h3, _⟩ := h
  rw [h1.len Try.underlying69 ty, h3]
theorem BMap.put (h : BMap w b n S sz) (hn : n < maxLen) {k : Int} (hk : (Lit.int .i64 k).wf = true) (v : Bool) :
    ∃ w', (Instr.mapUpdate 69 (.map (some b)) (.int .i64 k) (.bool v)).run Try.prog w = .ok () w' ∧ BMap w' b (n + 1) (fun x => if x = k then true else S x) (if S k then sz else sz + 1) ∧ w.grownBy w' (some b) := by
  obtain ⟨D, h1, ht, hs, h2⟩ := h
  obtain ⟨w', hrun, hown, hg⟩ := h1.update law_int Try.underlying69 hn (keyOf_int_mk Try.underlying3 hk) (plainElem_bool Try.underlying4 v)
  refine ⟨w', hrun, ⟨_, hown, ht.put (show WideAt.IsKeyLit (.int .i64 k) from trivial) _, ?_, fun x => ?_⟩, hg⟩
  · rw [Maps.size_put ht, h2 k, hs]
  · by_cases hx : x = k
    · subst hx
      rw [Maps.has_put_same ht.isMap (show WideAt.IsKeyLit (.int .i64 x) from trivial)]
      simp
    · have hne : Lit.int .i64 x ≠ Lit.int .i64 k := by
        intro e; injection e with _ e; exact hx e
      rw [Maps.has_put_other hne, h2 x]
      simp [hx]
end
end Go.Proofs.Ytkedcnemldjbeaa
