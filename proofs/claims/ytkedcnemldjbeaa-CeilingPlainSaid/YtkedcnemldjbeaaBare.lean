/- Tasks without sections: the copies that the call makes, and what is found of them. Conditions: each theorem's own. -/
import Derived.Test.YtkedcnemldjbeaaLower
import Derived.Test.YtkedcnemldjbeaaSimBlk
import Derived.Test.YtkedcnemldjbeaaWinBig
import Derived.Test.YtkedcnemldjbeaaLawAbove
namespace Go.Proofs.Ytkedcnemldjbeaa
open Go.RowKit

def bareT (t : CT) : CT := ⟨t.c, t.p, t.d, []⟩
def bareL (l : List CT) : List CT := l.map bareT
def enc0 (t : CT) : List Value := [.int .i64 t.c, .int .i64 t.p, .int .i64 t.d, .slice none 0 0]
theorem enc0_len (t : CT) : (enc0 t).length = 4 := rfl
theorem bareL_len (l : List CT) : (bareL l).length = l.length := by simp [bareL]
theorem bareL_free (l : List CT) : ∀ t ∈ bareL l, t.ss = [] := fun t ht => by
  simp only [bareL, List.mem_map] at ht
  obtain ⟨x, _, rfl⟩ := ht; rfl

/-- A slice of k tasks without sections, made by the call. -/
def BW (N : Nat) (w : World) (v : Value) (l : List CT) : Prop := Win w 30 4 v l.length (l.flatMap enc0) ∧ ∀ g, v.ownBlock = some g → N ≤ g
theorem BW.nil (N : Nat) (w : World) : BW N w (.slice none 0 0) [] := ⟨Win.nil _ _ _, fun g h => by simp [Value.ownBlock] at h⟩
theorem BW.below {N : Nat} {w w' : World} {v : Value} {l : List CT} (h : BW N w v l) (hb : Below w.heap.size w w') : BW N w' v l := ⟨h.1.below hb fun _ hg => h.1.blk_lt hg, h.2⟩
theorem BW.push {N : Nat} {w : World} {v : Value} {l : List CT} (h : BW N w v l) (hN : N ≤ w.heap.size) (t : CT) (hm : l.length ≤ 2932031007317) :
    ∃ v' w', (Builtin.append_ #[22, 22] 22 #[v, .slice (some ⟨w.heap.size, 0, none⟩) 1 1]).run Try.prog (w.alloc (.cells #[.int .i64 t.c, .int .i64 t.p, .int .i64 t.d, .slice none 0 0] 30)) = .ok v' w' ∧
      BW N w' v' (l ++ [t]) ∧ Below N w w' := by
  obtain ⟨hw, hv⟩ := h
  obtain ⟨g, o, c, w', hr, hw', hg, hl, hlt⟩ := Win.pushB (P := Try.prog) (t := 22) (ty := 22) Try.underlying22 info_task (by simp [Value.cells]) (by decide)
    (hw.alloc (.cells #[.int .i64 t.c, .int .i64 t.p, .int .i64 t.d, .slice none 0 0] 30)) ⟨w.heap.size, 0, none⟩ 1 (enc0 t) rfl (fun k u hk => World.news_of_block (Go.Deep.blk_alloc_new _ _) k u hk) (fun u hu => by
      simp only [enc0, List.mem_cons, List.not_mem_nil, or_false] at hu
      rcases hu with rfl | rfl | rfl | rfl <;> rfl) (by omega) (by omega)
  refine ⟨_, w', hr, ⟨by simpa using hw', fun k hk => ?_⟩, ((Below.refl N w).alloc hN _).grown hg (by simp; omega) fun k hk => hv k hk⟩
  simp only [Value.ownBlock, Option.some.injEq] at hk
  subst hk
  rcases hl with hl | hl
  · exact hv _ hl
  · rw [hl]; simp; omega
theorem bare_cells {w : World} {N : Nat} {l : List CT} (hf : ∀ t ∈ l, t.ss = []) : TaskCells w N (l.flatMap enc0) l := fun i t hi => by
  have e := hf t (List.mem_of_getElem? hi)
  have g : ∀ j, j < 4 → (l.flatMap enc0)[i * 4 + j]? = (enc0 t)[j]? := fun j hj => flat_get (size := 4) enc0_len hi hj
  refine ⟨(g 0 (by omega)).trans rfl, (g 1 (by omega)).trans rfl, (g 2 (by omega)).trans rfl, none, 0, ?_, by rw [e]; simp, fun h => absurd e h⟩
  rw [g 3 (by omega), e]; rfl
theorem BW.tasks {N : Nat} {w : World} {v : Value} {l : List CT} (h : BW N w v l) (hf : ∀ t ∈ l, t.ss = []) : ∃ a c, v = .slice a l.length c ∧ l.length ≤ c ∧ c ≤ 9223372036854775807 ∧ TasksAt w w.heap.size a l :=
  tasks_of_cells h.1 (bare_cells (N := w.heap.size) hf) (Nat.le_refl _)

/-! ### The plain part -/
theorem bare_zero {l : List CT} {rs : List (List Int)} (hf : ∀ t ∈ l, t.ss = []) (hv : validL l = true) (hn : rs.length = l.length) (hs : rowsB l rs = true) (k : Nat) : ∀ j ∈ (run (envOf l rs) k).en, j.bl = 0 := fun j hj => by
  have h1 := ((binv_run (env_ok hv hn hs) (blk_env rs hv) k).jobs j hj).1
  obtain ⟨x, hx⟩ := List.mem_iff_getElem?.1 hj
  have h2 := ((inv_run (env_ok hv hn hs) k).1.jobs x j hx)
  have h3 : limV l j.tk = 0 := blkTs_free (fun t ht => hf t (List.mem_of_mem_drop ht))
  have h4 : 0 ≤ j.bl := by obtain ⟨_, _, _, _, _, b, _⟩ := h2; exact b
  omega
theorem bare_same {l : List CT} {rs : List (List Int)} (hf : ∀ t ∈ l, t.ss = []) (hv : validL l = true) (hn : rs.length = l.length) (hs : rowsB l rs = true) {n : Nat} (hk : n ≤ l.length) (k : Nat) :
    (run (envOf l rs) k).en.filter (fun j => decide (j.tk < n)) = (run (envOf (l.take n) (rs.take n)) k).en := by
  have h := lower_same (l := l.take n) (r := l.drop n) (rs := rs.take n) (qs := rs.drop n) (by simp [hn]) (fun t ht => hf t (List.mem_of_mem_drop ht)) (by rw [List.take_append_drop]; exact hv) (by rw [List.take_append_drop, List.take_append_drop]; exact hn) (by rw [List.take_append_drop, List.take_append_drop]; exact hs) k
  rw [List.take_append_drop, List.take_append_drop] at h
  rw [show (l.take n).length = n by simp; omega] at h
  exact h
theorem take_check {l : List CT} {rs : List (List Int)} (hv : validL l = true) (hn : rs.length = l.length) (hs : rowsB l rs = true) {u : Int} (u0 : 0 ≤ u) (u1 : u ≤ 100000) (n : Nat) : checkV (l.take n) (rs.take n) u = 0 := by
  have v' : validL (l.take n) = true := by
    obtain ⟨h1, h2⟩ := validL_bd hv
    unfold validL
    simp only [Bool.and_eq_true, decide_eq_true_eq, List.all_eq_true]
    exact ⟨by simp; omega, fun t ht => h2 t (List.mem_of_mem_take ht)⟩
  have s' : rowsB (l.take n) (rs.take n) = true := by
    rw [rowsB_iff] at hs ⊢
    intro i hi
    have hi' : i < n ∧ i < rs.length := by simp at hi; omega
    have e1 : ctAt (l.take n) i = ctAt l i := by unfold ctAt; rw [List.getD_eq_getElem?_getD, List.getD_eq_getElem?_getD, List.getElem?_take, if_pos hi'.1]
    have e2 : rwAt (rs.take n) i = rwAt rs i := by unfold rwAt; rw [List.getD_eq_getElem?_getD, List.getD_eq_getElem?_getD, List.getElem?_take, if_pos hi'.1]
    rw [e1, e2]; exact hs i hi'.2
  unfold checkV
  rw [if_pos ⟨v', by simp [hn]⟩, if_neg (by omega), if_pos s']
theorem RowsAt.take {w : World} {N : Nat} {a : Option Addr} {rs : List (List Int)} (h : RowsAt w N a rs) (n : Nat) : RowsAt w N a (rs.take n) := fun hne => by
  obtain ⟨b, off, e, hlt, hc⟩ := h (fun e => hne (by rw [e]; simp))
  refine ⟨b, off, e, hlt, fun i r hi => hc i r ?_⟩
  rw [List.getElem?_take] at hi
  split at hi
  · exact hi
  · cases hi
theorem bareL_take_succ {l : List CT} {k : Nat} (h : k < l.length) : bareL (l.take (k + 1)) = bareL (l.take k) ++ [bareT l[k]] := by
  unfold bareL
  rw [List.take_succ_eq_append_getElem h, List.map_append]; rfl
end Go.Proofs.Ytkedcnemldjbeaa
