/- Rows of integers in memory. Conditions: each theorem's own. -/
import Derived.Test.YtdjpkebajcpfbaaTk
import Derived.Test.YtdjpkebajcpfbaaOwn
namespace Go.Proofs.Ytdjpkebajcpfbaa
open Go.RowKit

def FitI (r : List Int) : Prop := ∀ x ∈ r, -9223372036854775808 ≤ x ∧ x ≤ 9223372036854775807
def RowsAt (w : World) (N : Nat) (a : Option Addr) (rs : List (List Int)) : Prop :=
  rs ≠ [] → ∃ b off, a = some ⟨b, off, none⟩ ∧ b < N ∧ ∀ i r, rs[i]? = some r → ∃ ra rc, w.cell? ⟨b, off + i, none⟩ = some (.slice ra r.length rc) ∧ r.length ≤ rc ∧ rc ≤ 9223372036854775807 ∧ IntsAt w N ra r
theorem RowsAt.keep {w w' : World} {N : Nat} {a : Option Addr} {rs : List (List Int)} (h : RowsAt w N a rs) (hb : Below N w w') : RowsAt w' N a rs := fun hne => by
  obtain ⟨b, off, e, hlt, hc⟩ := h hne
  refine ⟨b, off, e, hlt, fun i r hi => ?_⟩
  obtain ⟨ra, rc, c0, c1, c2, c3⟩ := hc i r hi
  exact ⟨ra, rc, keep_cellN hb hlt c0, c1, c2, c3.keep hb⟩
theorem RowsAt.more {w : World} {N N' : Nat} {a : Option Addr} {rs : List (List Int)} (h : RowsAt w N a rs) (hN : N ≤ N') : RowsAt w N' a rs := fun hne => by
  obtain ⟨b, off, e, hlt, hc⟩ := h hne
  refine ⟨b, off, e, by omega, fun i r hi => ?_⟩
  obtain ⟨ra, rc, c0, c1, c2, c3⟩ := hc i r hi
  exact ⟨ra, rc, c0, c1, c2, c3.more hN⟩
theorem RowsAt.on {w w' : World} {N : Nat} {a : Option Addr} {rs : List (List Int)} (h : RowsAt w N a rs) (hb : Below N w w') (hN : N ≤ w'.heap.size) : RowsAt w' w'.heap.size a rs := (h.keep hb).more hN
def rwAt (rs : List (List Int)) (i : Nat) : List Int := rs.getD i []
theorem rwAt_get {rs : List (List Int)} {i : Nat} (h : i < rs.length) : rs[i]? = some (rwAt rs i) := by
  rw [rwAt, List.getD_eq_getElem?_getD, List.getElem?_eq_getElem h]; rfl
theorem rwAt_mem {rs : List (List Int)} {i : Nat} (h : i < rs.length) : rwAt rs i ∈ rs := List.mem_of_getElem? (rwAt_get h)

theorem getD_get {r : List Int} {k : Nat} (h : k < r.length) : r[k]? = some (r.getD k 0) := by
  rw [List.getD_eq_getElem?_getD, List.getElem?_eq_getElem h]; rfl
theorem getD_fit {r : List Int} (h : FitI r) {k : Nat} (hk : k < r.length) : -9223372036854775808 ≤ r.getD k 0 ∧ r.getD k 0 ≤ 9223372036854775807 :=
  h _ (List.mem_of_getElem? (getD_get hk))

end Go.Proofs.Ytdjpkebajcpfbaa
