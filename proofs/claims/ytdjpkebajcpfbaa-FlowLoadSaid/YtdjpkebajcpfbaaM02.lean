/- Several texts in one: Rows of the call's own: appended to, read back. Conditions: few elements. Rows of integers in memory. Conditions: each theorem's own. -/
import Derived.Test.YtdjpkebajcpfbaaTk
import Derived.Deep.AppendLies
namespace Go.Proofs.Ytdjpkebajcpfbaa
section
open Go.RowKit

theorem info_int : (Try.prog.info? 3).map (fun i => (i.zero, i.size, i.bytes)) = some (some (.int .i64 0), 1, 8) := by kernel_rfl

/-- The integers xs lie at an address, in a block below N. -/
def IntsAt (w : World) (N : Nat) (a : Option Addr) (xs : List Int) : Prop :=
  xs ≠ [] → ∃ b off, a = some ⟨b, off, none⟩ ∧ b < N ∧ ∀ i x, xs[i]? = some x → w.cell? ⟨b, off + i, none⟩ = some (.int .i64 x)
theorem IntsAt.keep {w w' : World} {N : Nat} {a : Option Addr} {xs : List Int} (h : IntsAt w N a xs) (hb : Below N w w') : IntsAt w' N a xs := fun hne => by
  obtain ⟨b, off, e, hlt, hc⟩ := h hne
  exact ⟨b, off, e, hlt, fun i x hi => keep_cellN hb hlt (hc i x hi)⟩
theorem IntsAt.more {w : World} {N N' : Nat} {a : Option Addr} {xs : List Int} (h : IntsAt w N a xs) (hN : N ≤ N') : IntsAt w N' a xs := fun hne => by
  obtain ⟨b, off, e, hlt, hc⟩ := h hne
  exact ⟨b, off, e, by omega, hc⟩
theorem IntsAt.on {w w' : World} {N : Nat} {a : Option Addr} {xs : List Int} (h : IntsAt w N a xs) (hb : Below N w w') (hN : N ≤ w'.heap.size) : IntsAt w' w'.heap.size a xs := (h.keep hb).more hN

theorem own_below {w w' : World} {base B size n : Nat} {e : TypeId} {v : Value} {xs : List Value} (h : w.ownsRow base e size v n xs) (hb : Below B w w') (hB : w.heap.size ≤ B) : w'.ownsRow base e size v n xs := by
  refine ⟨h.1, ?_⟩
  rcases h.2 with h0 | ⟨g, cap, cur, hv, h1, h2, h3⟩
  · exact .inl h0
  · have hlt : g < w.heap.size := by
      rcases Nat.lt_or_ge g w.heap.size with h | h
      · exact h
      · rw [Array.getElem?_eq_none h] at h2; cases h2
    exact .inr ⟨g, cap, cur, hv, h1, (hb.block g (by omega)).trans h2, h3⟩
theorem own_ints {w : World} {base n : Nat} {v : Value} {xs : List Int} (h : w.ownsRow base 3 1 v n (xs.map (Value.int .i64))) : ∃ a cap, v = .slice a xs.length cap ∧ IntsAt w w.heap.size a xs ∧ xs.length ≤ cap ∧ cap ≤ 9223372036854775807 := by
  have hn : n = xs.length := by have := h.1; simp at this; omega
  subst hn
  rcases h.2 with ⟨hv, h0⟩ | ⟨g, cap, cur, hv, h1, h2, h3, h4, _⟩
  · refine ⟨none, 0, by rw [hv, h0], fun hne => ?_, by omega, by omega⟩
    exact absurd (List.eq_nil_of_length_eq_zero h0) hne
  · have hlt : g < w.heap.size := by
      rcases Nat.lt_or_ge g w.heap.size with h | h
      · exact h
      · rw [Array.getElem?_eq_none h] at h2; cases h2
    refine ⟨some ⟨g, 0, none⟩, cap, hv, fun _ => ⟨g, 0, rfl, hlt, fun i x hi => ?_⟩, h3, by unfold maxLen at h4; omega⟩
    subst hv
    have hlt2 : i < xs.length := (List.getElem?_eq_some_iff.1 hi).1
    have := h.cellAt i (by omega)
    rw [Nat.zero_add, this, List.getElem?_map, hi]; rfl

/-- 'append(v, x)' of one integer, onto a row of the call's own. -/
theorem app_int {w : World} {base n : Nat} {v : Value} {xs : List Int} (h : w.ownsRow base 3 1 v n (xs.map (Value.int .i64))) (x : Int) (hn : n ≤ 1000000000) (hbase : base ≤ w.heap.size) :
    ∃ v' w', (Builtin.append_ #[41, 41] 41 #[v, .slice (some ⟨w.heap.size, 0, none⟩) 1 1]).run Try.prog (w.alloc (.cells #[.int .i64 x] 3)) = .ok v' w' ∧
      w'.ownsRow base 3 1 v' (n + 1) ((xs ++ [x]).map (Value.int .i64)) ∧ Below base w w' := by
  obtain ⟨i0, hi, hz0, hz1, hz2⟩ := info_parts info_int
  obtain ⟨v', w', hrun, hown, hg, _⟩ := run_append_own (P := Try.prog) (w.alloc (.cells #[.int .i64 x] 3)) base 41 41 3 i0 (.int .i64 0) 1 8 Try.underlying41 hi hz0 hz1 hz2 rfl (by decide) v n _ (h.alloc _) ⟨w.heap.size, 0, none⟩ 1 1 [.int .i64 x] rfl
    (fun j u hj => by
      match j, hj with
      | 0, hj => obtain rfl : _ = u := by simpa using hj
                 simp [Addr.add, go_sem])
    (by simp [Value.oneCell']) (by unfold maxLen; omega) (by omega) (by simp; omega)
  refine ⟨v', w', hrun, by simpa using hown, ((Below.refl base w).alloc hbase _).grown hg (by simp; omega) (fun k hk => ?_)⟩
  rcases h.2 with ⟨rfl, _⟩ | ⟨g, cap, cur, rfl, hb, _⟩
  · simp [Value.ownBlock] at hk
  · simp [Value.ownBlock] at hk; omega

/-- A built-in append whose run is known, met in a walk. -/
theorem wpList_append_by {P : Program} {w : World} {ops : Array Oper} {rest : List Oper} {o : Oper} {a : Act} {Q : Exit → Act → World → Prop} (hgd : o.guard = none) (s x : Operand) (t : TypeId)
    (ho : o.op = .call { callee := .builtin .append, args := #[s, x], argTypes := #[t, t] }) (v sl v' : Value) (w' : World) (hs : a.eval s = v) (hx : a.eval x = sl)
    (hrun : (Builtin.append_ #[t, t] o.type #[v, sl]).run P w = .ok v' w') (h : wpList P ops Q rest (a.put o.dst v') w') : wpList P ops Q (o :: rest) a w := by
  refine wpList_plain hgd fun K hK => ?_
  unfold Oper.wp execOp
  simp only [ho, resolve, invoke, builtin, Sem.run_bind, Sem.run_pure, Result.andThen_ok, List.map_toArray, List.map_cons, List.map_nil, hs, hx, hrun]
  exact hK _ _ h
end

section
open Go.RowKit

def FitI (r : List Int) : Prop := ∀ x ∈ r, -9223372036854775808 ≤ x ∧ x ≤ 9223372036854775807
def RowsAt (w : World) (N : Nat) (a : Option Addr) (rs : List (List Int)) : Prop :=
  rs ≠ [] → ∃ b off, a = some ⟨b, off, none⟩ ∧ b < N ∧ ∀ i r, rs[i]? = some r → ∃ ra rc, w.cell? ⟨b, off + i, none⟩ = some (.slice ra r.length rc) ∧ r.length ≤ rc ∧ rc ≤ 9223372036854775807 ∧ IntsAt w N ra r
theorem RowsAt.keep {w w' : World} {N : Nat} {a : Option Addr} {rs : List (List Int)} (h : RowsAt w N a rs) (hb : Below N w w') : RowsAt w' N a rs := fun hne => by
  obtain ⟨b, off, e, hlt, hc⟩ := h hne
  refine ⟨b, off, e, hlt, fun i r hi => ?_⟩
  obtain ⟨ra, rc, c0, c1, c2, c3⟩ := hc i r hi
  exact ⟨ra, rc, keep_cellN hb hlt c0, c1, c2, c3.keep hb⟩
theorem RowsAt.more {w : World} {N N' : Nat} {a : Option Addr} {rs : List (List Int)} (h : RowsAt w N a rs) (hN : N ≤ N') : RowsAt w N' a rs := fun hne => by
  obtain ⟨b, off, e, hlt, hc⟩ := h hne
  refine ⟨b, off, e, by omega, fun i r hi => ?_⟩
  obtain ⟨ra, rc, c0, c1, c2, c3⟩ := hc i r hi
  exact ⟨ra, rc, c0, c1, c2, c3.more hN⟩
theorem RowsAt.on {w w' : World} {N : Nat} {a : Option Addr} {rs : List (List Int)} (h : RowsAt w N a rs) (hb : Below N w w') (hN : N ≤ w'.heap.size) : RowsAt w' w'.heap.size a rs := (h.keep hb).more hN
def rwAt (rs : List (List Int)) (i : Nat) : List Int := rs.getD i []
theorem rwAt_get {rs : List (List Int)} {i : Nat} (h : i < rs.length) : rs[i]? = some (rwAt rs i) := by
  rw [rwAt, List.getD_eq_getElem?_getD, List.getElem?_eq_getElem h]; rfl
theorem rwAt_mem {rs : List (List Int)} {i : Nat} (h : i < rs.length) : rwAt rs i ∈ rs := List.mem_of_getElem? (rwAt_get h)

theorem getD_get {r : List Int} {k : Nat} (h : k < r.length) : r[k]? = some (r.getD k 0) := by
  rw [List.getD_eq_getElem?_getD, List.getElem?_eq_getElem h]; rfl
theorem getD_fit {r : List Int} (h : FitI r) {k : Nat} (hk : k < r.length) : -9223372036854775808 ≤ r.getD k 0 ∧ r.getD k 0 ≤ 9223372036854775807 :=
  h _ (List.mem_of_getElem? (getD_get hk))
end
end Go.Proofs.Ytdjpkebajcpfbaa
