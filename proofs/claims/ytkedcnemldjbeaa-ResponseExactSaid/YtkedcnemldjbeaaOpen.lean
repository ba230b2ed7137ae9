/- An argument that is a list of tasks with sections, opened. Conditions: none. -/
import Derived.Test.YtkedcnemldjbeaaTk
import Derived.Test.YtkedcnemldjbeaaLift
import Derived.Deep.Slices
namespace Go.Proofs.Ytkedcnemldjbeaa
open Go.ChangeShapes Go.WideShapes Go.ChangeAt Go.RowKit Go.Deep

theorem list_of {α : Type} {P : Nat → α → Prop} : ∀ {n : Nat}, (∀ i, i < n → ∃ s, P i s) → ∃ ss : List α, ss.length = n ∧ ∀ i s, ss[i]? = some s → P i s
  | 0, _ => ⟨[], rfl, fun i s h => by simp at h⟩
  | n + 1, h => by
    obtain ⟨ss, hl, hs⟩ := list_of (n := n) (fun i hi => h i (by omega))
    obtain ⟨x, hx⟩ := h n (by omega)
    refine ⟨ss ++ [x], by simp [hl], fun i s hi => ?_⟩
    by_cases e : i < n
    · rw [List.getElem?_append_left (by omega)] at hi
      exact hs i s hi
    · have hlt : i < (ss ++ [x]).length := (List.getElem?_eq_some_iff.1 hi).1
      have e2 : i = n := by simp [hl] at hlt; omega
      subst e2
      rw [List.getElem?_append_right (by omega)] at hi
      simp [hl] at hi
      exact hi ▸ hx
theorem plain_addr {w : World} {a : Addr} {v : Value} (h : w.cell? a = some v) : a = ⟨a.block, a.off, none⟩ ∧ a.block < w.heap.size := by
  refine ⟨?_, World.block_lt_of_cell? w a h⟩
  obtain ⟨b, o, sp⟩ := a
  cases sp with
  | none => rfl
  | some s =>
    unfold World.cell? at h
    split at h <;> simp at h

theorem add_plain (b o n : Nat) : (⟨b, o, none⟩ : Addr).add n = ⟨b, o + n, none⟩ := by
  unfold Addr.add
  split
  · rename_i h; simp_all
  · rfl
theorem base_plain {w : World} {base : Nat} {a : Addr} {k n : Nat} {cs : List Value} (h : w.cells? base (a.add (0 * k)) n = some cs) (hn : 0 < n) :
    ∃ b off, a = ⟨b, off, none⟩ ∧ b < w.heap.size := by
  obtain ⟨_, hlen, hcell⟩ := World.cells?_some h
  have k0 := hcell 0 (by omega)
  have e : (a.add (0 * k)).add 0 = a := by simp [Addr.add]
  rw [e, List.getElem?_eq_getElem (by omega)] at k0
  obtain ⟨p1, p2⟩ := plain_addr k0
  exact ⟨_, _, p1, p2⟩

theorem Try.cellsInt : Try.prog.cellsOf 3 = 1 := by kernel_rfl
theorem Try.cellsSec : Try.prog.cellsOf 63 = 3 := by kernel_rfl
theorem Try.cellsTask : Try.prog.cellsOf 30 = 4 := by kernel_rfl
theorem Try.cellsSecs : Try.prog.cellsOf 28 = 1 := by kernel_rfl

section
variable {H : Type} {enc : TypeId × Value → H} {W : World} {base : Nat} {spare : Nat → Bool} {held : Bool}

theorem open_secs {fuel : Nat} {cs : List Value} {x : DataW H × List MemPlace} (h : DataW.trod enc Try.prog W base spare held fuel 28 cs = some x) :
    ∃ (a : Option Addr) (ss : List Sec) (cap : Nat), cs = [.slice a ss.length cap] ∧ ss.length ≤ cap ∧ cap ≤ 9223372036854775807 ∧ SecsAt W W.heap.size a ss := by
  rcases open_slice Try.underlying28 h with ⟨rfl, _⟩ | ⟨a, len, cap, m, n, D, Pl, rfl, hb, hl, hm, hmm, _, hi⟩
  · exact ⟨none, [], 0, rfl, by simp, by omega, fun h => absurd rfl h⟩
  · have hlm : len ≤ m := by rw [hmm]; split <;> omega
    have hel : ∀ i, i < len → ∃ s : Sec, (∃ b off, a = ⟨b, off, none⟩ ∧ b < W.heap.size ∧ W.cell? ⟨b, off + i * 3, none⟩ = some (.int .i64 s.o) ∧ W.cell? ⟨b, off + i * 3 + 1, none⟩ = some (.int .i64 s.f) ∧ W.cell? ⟨b, off + i * 3 + 2, none⟩ = some (.int .i64 s.t)) := by
      intro i hlt
      obtain ⟨cs0, hc0, ht0⟩ := hi 0 (by omega)
      rw [Try.cellsSec] at hc0
      obtain ⟨ab, ao, rfl, hab⟩ := base_plain hc0 (by omega)
      clear hc0 ht0 cs0
      obtain ⟨cs', hc, ht⟩ := hi i (by omega)
      rw [Try.cellsSec] at hc
      obtain ⟨_, hlen, hcell⟩ := World.cells?_some hc
      obtain ⟨ys, k, _, _, _, hyl, hg⟩ := DataW.trod_struct Try.underlying63 ht
      match cs', hlen, ys, hyl with
      | [c0, c1, c2], _, [y0, y1, y2], _ =>
        have g0 := hg 0 _ rfl
        have g1 := hg 1 _ rfl
        have g2 := hg 2 _ rfl
        simp [Try.cellsInt] at g0 g1 g2
        obtain ⟨v0, e0, _, _⟩ := DataW.trod_int Try.underlying3 g0
        obtain ⟨v1, e1, _, _⟩ := DataW.trod_int Try.underlying3 g1
        obtain ⟨v2, e2, _, _⟩ := DataW.trod_int Try.underlying3 g2
        simp at e0 e1 e2
        subst e0 e1 e2
        have k0 := hcell 0 (by omega)
        have k1 := hcell 1 (by omega)
        have k2 := hcell 2 (by omega)
        simp [add_plain] at k0 k1 k2
        exact ⟨⟨v0, v1, v2⟩, ab, ao, rfl, hab, k0, k1, k2⟩
    obtain ⟨ss, hsl, hss⟩ := list_of hel
    subst hsl
    refine ⟨some a, ss, cap, rfl, hl, by unfold maxLen at hm; omega, fun hne => ?_⟩
    have h0 : 0 < ss.length := List.length_pos_iff.2 hne
    obtain ⟨b, off, rfl, hlt, _⟩ := hss 0 ss[0] (List.getElem?_eq_getElem h0)
    refine ⟨b, off, rfl, hlt, fun j s hj => ?_⟩
    obtain ⟨b', off', e, _, h1, h2, h3⟩ := hss j s hj
    simp only [Addr.mk.injEq] at e
    obtain ⟨rfl, rfl, _⟩ := e
    exact ⟨h1, h2, h3⟩

theorem open_tasks {v : Value} {d : DataW H} {p : List MemPlace} {r0 : Reach} {b0 : Nat} (hv : Value.okWide Try.prog W r0 b0 22 v) (h : DataW.Trod enc Try.prog W base spare held 22 v d p) :
    ∃ (a : Option Addr) (l : List CT) (cap : Nat), v = .slice a l.length cap ∧ l.length ≤ cap ∧ cap ≤ 9223372036854775807 ∧ TasksAt W W.heap.size a l := by
  obtain ⟨a0, n0, cap0, rfl⟩ := okWide_slice Try.underlying22 hv
  obtain ⟨fuel, hf⟩ := h
  rcases open_slice Try.underlying22 hf with ⟨e, _⟩ | ⟨a, len, cap, m, n, D, Pl, e, hb, hl, hm, hmm, _, hi⟩
  · simp [Value.cells] at e
    obtain ⟨rfl, rfl, rfl⟩ := e
    exact ⟨none, [], 0, rfl, by simp, by omega, fun h => absurd rfl h⟩
  · simp [Value.cells] at e
    obtain ⟨rfl, rfl, rfl⟩ := e
    have hlm : n0 ≤ m := by rw [hmm]; split <;> omega
    have hel : ∀ i, i < n0 → ∃ t : CT, (∃ b off, a = ⟨b, off, none⟩ ∧ b < W.heap.size ∧ W.cell? ⟨b, off + i * 4, none⟩ = some (.int .i64 t.c) ∧ W.cell? ⟨b, off + i * 4 + 1, none⟩ = some (.int .i64 t.p) ∧ W.cell? ⟨b, off + i * 4 + 2, none⟩ = some (.int .i64 t.d) ∧
        ∃ sa sc, W.cell? ⟨b, off + i * 4 + 3, none⟩ = some (.slice sa t.ss.length sc) ∧ t.ss.length ≤ 9223372036854775807 ∧ SecsAt W W.heap.size sa t.ss) := by
      intro i hlt
      obtain ⟨cs0, hc0, ht0⟩ := hi 0 (by omega)
      rw [Try.cellsTask] at hc0
      obtain ⟨ab, ao, rfl, hab⟩ := base_plain hc0 (by omega)
      clear hc0 ht0 cs0
      obtain ⟨cs', hc, ht⟩ := hi i (by omega)
      rw [Try.cellsTask] at hc
      obtain ⟨_, hlen, hcell⟩ := World.cells?_some hc
      obtain ⟨ys, k, _, _, _, hyl, hg⟩ := DataW.trod_struct Try.underlying30 ht
      match cs', hlen, ys, hyl with
      | [c0, c1, c2, c3], _, [y0, y1, y2, y3], _ =>
        have g0 := hg 0 _ rfl
        have g1 := hg 1 _ rfl
        have g2 := hg 2 _ rfl
        have g3 := hg 3 _ rfl
        simp [Try.cellsInt, Try.cellsSecs] at g0 g1 g2 g3
        obtain ⟨v0, e0, _, _⟩ := DataW.trod_int Try.underlying3 g0
        obtain ⟨v1, e1, _, _⟩ := DataW.trod_int Try.underlying3 g1
        obtain ⟨v2, e2, _, _⟩ := DataW.trod_int Try.underlying3 g2
        obtain ⟨sa, ss, sc, e3, q1, q2, q3⟩ := open_secs g3
        simp at e0 e1 e2 e3
        subst e0 e1 e2 e3
        have k0 := hcell 0 (by omega)
        have k1 := hcell 1 (by omega)
        have k2 := hcell 2 (by omega)
        have k3 := hcell 3 (by omega)
        simp [add_plain] at k0 k1 k2 k3
        exact ⟨⟨v0, v1, v2, ss⟩, ab, ao, rfl, hab, k0, k1, k2, sa, sc, k3, by show ss.length ≤ _; omega, q3⟩
    obtain ⟨l, hsl, hss⟩ := list_of hel
    subst hsl
    refine ⟨some a, l, cap0, rfl, hl, by unfold maxLen at hm; omega, fun hne => ?_⟩
    have h0 : 0 < l.length := List.length_pos_iff.2 hne
    obtain ⟨b, off, rfl, hlt, _⟩ := hss 0 l[0] (List.getElem?_eq_getElem h0)
    refine ⟨b, off, rfl, hlt, fun j s hj => ?_⟩
    obtain ⟨b', off', e, _, h1⟩ := hss j s hj
    simp only [Addr.mk.injEq] at e
    obtain ⟨rfl, rfl, _⟩ := e
    exact h1
end
end Go.Proofs.Ytkedcnemldjbeaa
