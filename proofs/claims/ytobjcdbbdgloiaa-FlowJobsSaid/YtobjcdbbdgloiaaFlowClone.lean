/- The walk over slices.Clone of a row of integers. Conditions: the row lies in memory. -/
import Derived.Test.YtobjcdbbdgloiaaFlowQ
import Derived.Outline
namespace Go.Proofs.Ytobjcdbbdgloiaa
open Go.RowKit Go.Deep

def ClonePost (n : Nat) (f : Nat → Int) (w : World) (e : Ending) (w' : World) : Prop :=
  ∃ b o c, e = .returned (.slice (some ⟨b, o, none⟩) n c) ∧ Below w.heap.size w w' ∧ w.heap.size ≤ b ∧ b < w'.heap.size ∧ RowI w' b o n f ∧ n ≤ c ∧ c ≤ 9223372036854775807

set_option maxRecDepth 100000 in
set_option maxHeartbeats 3200000 in
theorem clone_any (n b o cap : Nat) (f : Nat → Int) (w : World) (hn : 0 < n) (hn2 : n ≤ 1000000) (hb : b < w.heap.size) (hf : ∀ j, j < n → w.cell? ⟨b, o + j, none⟩ = some (.int .i64 (f j))) :
    Calls Try.prog 35 #[.slice (some ⟨b, o, none⟩) n cap] w (ClonePost n f w) := by
  have hbw : Below w.heap.size w (w.alloc (.cells #[] 3)) := (Below.refl _ _).alloc (Nat.le_refl _) _
  obtain ⟨v', w', hrun, hw', hg, ho⟩ := (Win.lit w 3 1).cat (P := Try.prog) (t := 30) (ty := 30) Try.underlying30 info_int (by simp [Value.cells]) (by decide) (some ⟨b, o, none⟩) n cap ((List.range n).map fun j => Value.int .i64 (f j)) (by simp)
    (fun _ => ⟨_, rfl, fun j u hj => by
      have hlt : j < n := by
        have := (List.getElem?_eq_some_iff.1 hj).1
        simpa using this
      rw [List.getElem?_map, List.getElem?_range hlt] at hj
      simp at hj
      subst hj
      rw [addr_add, hbw.cell (p := ⟨b, o + j, none⟩) hb]
      exact hf j hlt⟩) (fun u hu => by
      obtain ⟨j, _, rfl⟩ := List.mem_map.1 hu
      rfl) (by omega) (by omega)
  have hb' : Below w.heap.size w w' := hbw.grown hg (by simp) (fun k hk => by simp [Value.ownBlock] at hk; omega)
  rw [Nat.zero_add] at hw'
  obtain ⟨g, oo, c, rfl, hlt, hc1, hc2⟩ := hw'.form hn
  have hge : w.heap.size ≤ g := by
    rcases ho g rfl with h | h
    · simp [Value.ownBlock] at h; omega
    · simp at h; omega
  have hrow := RowI.of_win (f := f) hw' (fun j hj => by simp [hj])
  have HP := Lib.hid (show ClonePost n f w (.returned (.slice (some ⟨g, oo, none⟩) n c)) w' from ⟨g, oo, c, rfl, hb', hge, hlt, hrow, hc1, hc2⟩)
  clear hf hbw hw' hg ho hb' hrow
  have heq : ∀ W : World, (binOp .eql 30 (.slice (some ⟨b, o, none⟩) n cap) (.slice none 0 0)).run Try.prog W = .ok (.bool false) W := fun W => Lib.run_eql_slice_nil W 30 3 (some ⟨b, o, none⟩) n cap 0 0 Try.underlying30
  go_enter Try.func35, Try.ntmps35
  go_wp2_with (at_builtin; refine wpList_append_by rfl (.tmp 5) (.tmp 6) 30 rfl (.slice (some ⟨w.heap.size, 0, none⟩) 0 0) (.slice (some ⟨b, o, none⟩) n cap) _ w' rfl rfl hrun ?_)
  go_ret
  exact HP.out
end Go.Proofs.Ytobjcdbbdgloiaa
