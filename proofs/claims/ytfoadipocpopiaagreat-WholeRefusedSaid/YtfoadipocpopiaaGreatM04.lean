/- Several texts in one: Arguments opened: rows of integers, integers, jobs. Conditions: none. An argument that is a list of tasks of a set, opened. Conditions: none. -/
import Derived.Test.YtfoadipocpopiaaGreatJobsOK
import Derived.Test.YtfoadipocpopiaaGreatLift
import Derived.Deep.Slices
import Derived.Test.YtfoadipocpopiaaGreatM01
namespace Go.Proofs.YtfoadipocpopiaaGreat
section
open Go.ChangeShapes Go.WideShapes Go.ChangeAt Go.RowKit Go.Deep

set_option maxRecDepth 100000
theorem list_of {α : Type} {P : Nat → α → Prop} : ∀ {n : Nat}, (∀ i, i < n → ∃ s, P i s) → ∃ ss : List α, ss.length = n ∧ ∀ i s, ss[i]? = some s → P i s
  | 0, _ => ⟨[], rfl, fun i s h => by simp at h⟩
  | n + 1, h => by
    obtain ⟨ss, hl, hs⟩ := list_of (n := n) (fun i hi => h i (by omega))
    obtain ⟨x, hx⟩ := h n (by omega)
    refine ⟨ss ++ [x], by simp [hl], fun i s hi => ?_⟩
    by_cases e : i < n
    · rw [List.getElem?_append_left (by omega)] at hi
      exact hs i s hi
    · have hlt : i < (ss ++ [x]).length := (List.getElem?_eq_some_iff.1 hi).1
      have e2 : i = n := by simp [hl] at hlt; omega
      subst e2
      rw [List.getElem?_append_right (by omega)] at hi
      simp [hl] at hi
      exact hi ▸ hx
theorem plain_addr {w : World} {a : Addr} {v : Value} (h : w.cell? a = some v) : a = ⟨a.block, a.off, none⟩ ∧ a.block < w.heap.size := by
  refine ⟨?_, World.block_lt_of_cell? w a h⟩
  obtain ⟨b, o, sp⟩ := a
  cases sp with
  | none => rfl
  | some s =>
    unfold World.cell? at h
    split at h <;> simp at h

theorem add_plain (b o n : Nat) : (⟨b, o, none⟩ : Addr).add n = ⟨b, o + n, none⟩ := by
  unfold Addr.add
  split
  · rename_i h; simp_all
  · rfl
theorem base_plain {w : World} {base : Nat} {a : Addr} {k n : Nat} {cs : List Value} (h : w.cells? base (a.add (0 * k)) n = some cs) (hn : 0 < n) :
    ∃ b off, a = ⟨b, off, none⟩ ∧ b < w.heap.size := by
  obtain ⟨_, hlen, hcell⟩ := World.cells?_some h
  have k0 := hcell 0 (by omega)
  have e : (a.add (0 * k)).add 0 = a := by simp [Addr.add]
  rw [e, List.getElem?_eq_getElem (by omega)] at k0
  obtain ⟨p1, p2⟩ := plain_addr k0
  exact ⟨_, _, p1, p2⟩

theorem Tryz.cellsInt : Tryz.prog.cellsOf 3 = 1 := by kernel_rfl
theorem Tryz.cellsIntS : Tryz.prog.cellsOf 42 = 1 := by kernel_rfl
theorem Tryz.cellsFJ : Tryz.prog.cellsOf 58 = 3 := by kernel_rfl

section
variable {H : Type} {enc : TypeId × Value → H} {W : World} {base : Nat} {spare : Nat → Bool} {held : Bool}

theorem open_introw {fuel : Nat} {cs : List Value} {x : DataW H × List MemPlace} (h : DataW.trod enc Tryz.prog W base spare held fuel 42 cs = some x) :
    ∃ (a : Option Addr) (r : List Int) (cap : Nat), cs = [.slice a r.length cap] ∧ r.length ≤ cap ∧ cap ≤ 9223372036854775807 ∧ IntsAt W W.heap.size a r ∧ FitI r := by
  rcases open_slice Tryz.underlying42 h with ⟨rfl, _⟩ | ⟨a, len, cap, m, n, D, Pl, rfl, hb, hl, hm, hmm, _, hi⟩
  · exact ⟨none, [], 0, rfl, by simp, by omega, fun h => absurd rfl h, fun x hx => by cases hx⟩
  · have hlm : len ≤ m := by rw [hmm]; split <;> omega
    have hel : ∀ i, i < len → ∃ x : Int, (∃ b off, a = ⟨b, off, none⟩ ∧ b < W.heap.size ∧ W.cell? ⟨b, off + i, none⟩ = some (.int .i64 x)) ∧ -9223372036854775808 ≤ x ∧ x ≤ 9223372036854775807 := by
      intro i hlt
      obtain ⟨cs0, hc0, ht0⟩ := hi 0 (by omega)
      rw [Tryz.cellsInt] at hc0
      obtain ⟨ab, ao, rfl, hab⟩ := base_plain hc0 (by omega)
      clear hc0 ht0 cs0
      obtain ⟨cs', hc, ht⟩ := hi i (by omega)
      rw [Tryz.cellsInt] at hc
      obtain ⟨_, hlen, hcell⟩ := World.cells?_some hc
      match cs', hlen with
      | [c0], _ =>
        obtain ⟨v0, e0, _, hwf⟩ := DataW.trod_int Tryz.underlying3 ht
        simp at e0
        subst e0
        have k0 := hcell 0 (by omega)
        simp [add_plain] at k0
        exact ⟨v0, ⟨ab, ao, rfl, hab, k0⟩, by have := hwf; simp [Lit.wf, IntKind.min, IntKind.max, IntKind.signed, IntKind.bits] at this; omega, by have := hwf; simp [Lit.wf, IntKind.min, IntKind.max, IntKind.signed, IntKind.bits] at this; omega⟩
    obtain ⟨r, hsl, hss⟩ := list_of hel
    subst hsl
    refine ⟨some a, r, cap, rfl, hl, by unfold maxLen at hm; omega, fun hne => ?_, fun x hx => ?_⟩
    · have h0 : 0 < r.length := List.length_pos_iff.2 hne
      obtain ⟨⟨b, off, rfl, hlt, _⟩, _⟩ := hss 0 r[0] (List.getElem?_eq_getElem h0)
      refine ⟨b, off, rfl, hlt, fun j s hj => ?_⟩
      obtain ⟨⟨b', off', e, _, h1⟩, _⟩ := hss j s hj
      simp only [Addr.mk.injEq] at e
      obtain ⟨rfl, rfl, _⟩ := e
      exact h1
    · obtain ⟨j, hj⟩ := List.mem_iff_getElem?.1 hx
      exact (hss j x hj).2

theorem open_rows {v : Value} {d : DataW H} {p : List MemPlace} {r0 : Reach} {b0 : Nat} (hv : Value.okWide Tryz.prog W r0 b0 30 v) (h : DataW.Trod enc Tryz.prog W base spare held 30 v d p) :
    ∃ (a : Option Addr) (rs : List (List Int)) (cap : Nat), v = .slice a rs.length cap ∧ rs.length ≤ cap ∧ cap ≤ 9223372036854775807 ∧ RowsAt W W.heap.size a rs ∧ ∀ r ∈ rs, FitI r := by
  obtain ⟨a0, n0, cap0, rfl⟩ := okWide_slice Tryz.underlying30 hv
  obtain ⟨fuel, hf⟩ := h
  rcases open_slice Tryz.underlying30 hf with ⟨e, _⟩ | ⟨a, len, cap, m, n, D, Pl, e, hb, hl, hm, hmm, _, hi⟩
  · simp [Value.cells] at e
    obtain ⟨rfl, rfl, rfl⟩ := e
    exact ⟨none, [], 0, rfl, by simp, by omega, fun h => absurd rfl h, fun x hx => by cases hx⟩
  · simp [Value.cells] at e
    obtain ⟨rfl, rfl, rfl⟩ := e
    have hlm : n0 ≤ m := by rw [hmm]; split <;> omega
    have hel : ∀ i, i < n0 → ∃ r : List Int, (∃ b off, a = ⟨b, off, none⟩ ∧ b < W.heap.size ∧ ∃ ra rc, W.cell? ⟨b, off + i, none⟩ = some (.slice ra r.length rc) ∧ r.length ≤ rc ∧ rc ≤ 9223372036854775807 ∧ IntsAt W W.heap.size ra r) ∧ FitI r := by
      intro i hlt
      obtain ⟨cs0, hc0, ht0⟩ := hi 0 (by omega)
      rw [Tryz.cellsIntS] at hc0
      obtain ⟨ab, ao, rfl, hab⟩ := base_plain hc0 (by omega)
      clear hc0 ht0 cs0
      obtain ⟨cs', hc, ht⟩ := hi i (by omega)
      rw [Tryz.cellsIntS] at hc
      obtain ⟨_, hlen, hcell⟩ := World.cells?_some hc
      obtain ⟨ra, r, rc, rfl, q1, q2, q3, q4⟩ := open_introw ht
      have k0 := hcell 0 (by omega)
      simp [add_plain] at k0
      exact ⟨r, ⟨ab, ao, rfl, hab, ra, rc, k0, q1, q2, q3⟩, q4⟩
    obtain ⟨rs, hsl, hss⟩ := list_of hel
    subst hsl
    refine ⟨some a, rs, cap0, rfl, hl, by unfold maxLen at hm; omega, fun hne => ?_, fun r hr => ?_⟩
    · have h0 : 0 < rs.length := List.length_pos_iff.2 hne
      obtain ⟨⟨b, off, rfl, hlt, _⟩, _⟩ := hss 0 rs[0] (List.getElem?_eq_getElem h0)
      refine ⟨b, off, rfl, hlt, fun j s hj => ?_⟩
      obtain ⟨⟨b', off', e, _, h1⟩, _⟩ := hss j s hj
      simp only [Addr.mk.injEq] at e
      obtain ⟨rfl, rfl, _⟩ := e
      exact h1
    · obtain ⟨j, hj⟩ := List.mem_iff_getElem?.1 hr
      exact (hss j r hj).2
theorem open_intsv {v : Value} {d : DataW H} {p : List MemPlace} {r0 : Reach} {b0 : Nat} (hv : Value.okWide Tryz.prog W r0 b0 42 v) (h : DataW.Trod enc Tryz.prog W base spare held 42 v d p) :
    ∃ (a : Option Addr) (r : List Int) (cap : Nat), v = .slice a r.length cap ∧ r.length ≤ cap ∧ cap ≤ 9223372036854775807 ∧ IntsAt W W.heap.size a r ∧ FitI r := by
  obtain ⟨a0, n0, cap0, rfl⟩ := okWide_slice Tryz.underlying42 hv
  obtain ⟨fuel, hf⟩ := h
  obtain ⟨a, r, cap, e, h1, h2, h3, h4⟩ := open_introw hf
  have e : Value.slice a0 n0 cap0 = .slice a r.length cap := by
    simp [Value.cells] at e
    rw [e.1, e.2.1, e.2.2]
  exact ⟨a, r, cap, e, h1, h2, h3, h4⟩

def FitJ (j : FJ) : Prop := -9223372036854775808 ≤ j.r ∧ j.r ≤ 9223372036854775807 ∧ -9223372036854775808 ≤ j.d ∧ j.d ≤ 9223372036854775807 ∧ -9223372036854775808 ≤ j.c ∧ j.c ≤ 9223372036854775807
theorem wf_i64 {v : Int} (h : (Lit.int .i64 v).wf = true) : -9223372036854775808 ≤ v ∧ v ≤ 9223372036854775807 := by
  simp [Lit.wf, IntKind.min, IntKind.max, IntKind.signed, IntKind.bits] at h; omega
theorem open_fjobs {v : Value} {d : DataW H} {p : List MemPlace} {r0 : Reach} {b0 : Nat} (hv : Value.okWide Tryz.prog W r0 b0 32 v) (h : DataW.Trod enc Tryz.prog W base spare held 32 v d p) :
    ∃ (a : Option Addr) (ss : List FJ) (cap : Nat), v = .slice a ss.length cap ∧ ss.length ≤ cap ∧ cap ≤ 9223372036854775807 ∧ FJobsAt W W.heap.size a ss ∧ ∀ j ∈ ss, FitJ j := by
  obtain ⟨a0, n0, cap0, rfl⟩ := okWide_slice Tryz.underlying32 hv
  obtain ⟨fuel, hf⟩ := h
  rcases open_slice Tryz.underlying32 hf with ⟨e, _⟩ | ⟨a, len, cap, m, n, D, Pl, e, hb, hl, hm, hmm, _, hi⟩
  · simp [Value.cells] at e
    obtain ⟨rfl, rfl, rfl⟩ := e
    exact ⟨none, [], 0, rfl, by simp, by omega, fun h => absurd rfl h, fun j hj => by cases hj⟩
  · simp [Value.cells] at e
    obtain ⟨rfl, rfl, rfl⟩ := e
    have hlm : n0 ≤ m := by rw [hmm]; split <;> omega
    have hel : ∀ i, i < n0 → ∃ s : FJ, (∃ b off, a = ⟨b, off, none⟩ ∧ b < W.heap.size ∧ W.cell? ⟨b, off + i * 3, none⟩ = some (.int .i64 s.r) ∧ W.cell? ⟨b, off + i * 3 + 1, none⟩ = some (.int .i64 s.d) ∧ W.cell? ⟨b, off + i * 3 + 2, none⟩ = some (.int .i64 s.c)) ∧ FitJ s := by
      intro i hlt
      obtain ⟨cs0, hc0, ht0⟩ := hi 0 (by omega)
      rw [Tryz.cellsFJ] at hc0
      obtain ⟨ab, ao, rfl, hab⟩ := base_plain hc0 (by omega)
      clear hc0 ht0 cs0
      obtain ⟨cs', hc, ht⟩ := hi i (by omega)
      rw [Tryz.cellsFJ] at hc
      obtain ⟨_, hlen, hcell⟩ := World.cells?_some hc
      obtain ⟨ys, k, _, _, _, hyl, hg⟩ := DataW.trod_struct Tryz.underlying58 ht
      match cs', hlen, ys, hyl with
      | [c0, c1, c2], _, [y0, y1, y2], _ =>
        have g0 := hg 0 _ rfl
        have g1 := hg 1 _ rfl
        have g2 := hg 2 _ rfl
        simp [Tryz.cellsInt] at g0 g1 g2
        obtain ⟨v0, e0, _, f0⟩ := DataW.trod_int Tryz.underlying3 g0
        obtain ⟨v1, e1, _, f1⟩ := DataW.trod_int Tryz.underlying3 g1
        obtain ⟨v2, e2, _, f2⟩ := DataW.trod_int Tryz.underlying3 g2
        simp at e0 e1 e2
        subst e0 e1 e2
        have k0 := hcell 0 (by omega)
        have k1 := hcell 1 (by omega)
        have k2 := hcell 2 (by omega)
        simp [add_plain] at k0 k1 k2
        exact ⟨⟨v0, v1, v2⟩, ⟨ab, ao, rfl, hab, k0, k1, k2⟩, (wf_i64 f0).1, (wf_i64 f0).2, (wf_i64 f1).1, (wf_i64 f1).2, (wf_i64 f2).1, (wf_i64 f2).2⟩
    obtain ⟨ss, hsl, hss⟩ := list_of hel
    subst hsl
    refine ⟨some a, ss, cap0, rfl, hl, by unfold maxLen at hm; omega, fun hne => ?_, fun j hj => ?_⟩
    · have h0 : 0 < ss.length := List.length_pos_iff.2 hne
      obtain ⟨⟨b, off, rfl, hlt, _⟩, _⟩ := hss 0 ss[0] (List.getElem?_eq_getElem h0)
      refine ⟨b, off, rfl, hlt, fun j s hj => ?_⟩
      obtain ⟨⟨b', off', e, _, h1, h2, h3⟩, _⟩ := hss j s hj
      simp only [Addr.mk.injEq] at e
      obtain ⟨rfl, rfl, _⟩ := e
      exact ⟨h1, h2, h3⟩
    · obtain ⟨i, hi⟩ := List.mem_iff_getElem?.1 hj
      exact (hss i j hi).2
end
end

section
open Go.ChangeShapes Go.WideShapes Go.ChangeAt Go.RowKit Go.Deep

set_option maxRecDepth 100000
theorem Tryz.cellsTS : Tryz.prog.cellsOf 41 = 3 := by kernel_rfl
theorem Tryz.cellsStr : Tryz.prog.cellsOf 9 = 1 := by kernel_rfl

section
variable {H : Type} {enc : TypeId × Value → H} {W : World} {base : Nat} {spare : Nat → Bool} {held : Bool}
def FitT (t : TT) : Prop := -9223372036854775808 ≤ t.c ∧ t.c ≤ 9223372036854775807 ∧ -9223372036854775808 ≤ t.p ∧ t.p ≤ 9223372036854775807
theorem open_ts {v : Value} {d : DataW H} {p : List MemPlace} {r0 : Reach} {b0 : Nat} (hv : Value.okWide Tryz.prog W r0 b0 22 v) (h : DataW.Trod enc Tryz.prog W base spare held 22 v d p) :
    ∃ (a : Option Addr) (ss : List TT) (cap : Nat), v = .slice a ss.length cap ∧ ss.length ≤ cap ∧ cap ≤ 9223372036854775807 ∧ TSAt W W.heap.size a ss ∧ ∀ t ∈ ss, FitT t := by
  obtain ⟨a0, n0, cap0, rfl⟩ := okWide_slice Tryz.underlying22 hv
  obtain ⟨fuel, hf⟩ := h
  rcases open_slice Tryz.underlying22 hf with ⟨e, _⟩ | ⟨a, len, cap, m, n, D, Pl, e, hb, hl, hm, hmm, _, hi⟩
  · simp [Value.cells] at e
    obtain ⟨rfl, rfl, rfl⟩ := e
    exact ⟨none, [], 0, rfl, by simp, by omega, fun h => absurd rfl h, fun j hj => by cases hj⟩
  · simp [Value.cells] at e
    obtain ⟨rfl, rfl, rfl⟩ := e
    have hlm : n0 ≤ m := by rw [hmm]; split <;> omega
    have hel : ∀ i, i < n0 → ∃ s : TT, (∃ b off, a = ⟨b, off, none⟩ ∧ b < W.heap.size ∧ W.cell? ⟨b, off + i * 3, none⟩ = some (.string s.nm) ∧ W.cell? ⟨b, off + i * 3 + 1, none⟩ = some (.int .i64 s.c) ∧ W.cell? ⟨b, off + i * 3 + 2, none⟩ = some (.int .i64 s.p)) ∧ FitT s := by
      intro i hlt
      obtain ⟨cs0, hc0, ht0⟩ := hi 0 (by omega)
      rw [Tryz.cellsTS] at hc0
      obtain ⟨ab, ao, rfl, hab⟩ := base_plain hc0 (by omega)
      clear hc0 ht0 cs0
      obtain ⟨cs', hc, ht⟩ := hi i (by omega)
      rw [Tryz.cellsTS] at hc
      obtain ⟨_, hlen, hcell⟩ := World.cells?_some hc
      obtain ⟨ys, k, _, _, _, hyl, hg⟩ := DataW.trod_struct Tryz.underlying41 ht
      match cs', hlen, ys, hyl with
      | [c0, c1, c2], _, [y0, y1, y2], _ =>
        have g0 := hg 0 _ rfl
        have g1 := hg 1 _ rfl
        have g2 := hg 2 _ rfl
        simp [Tryz.cellsInt, Tryz.cellsStr] at g0 g1 g2
        obtain ⟨v0, e0, _, _⟩ := DataW.trod_string Tryz.underlying9 g0
        obtain ⟨v1, e1, _, f1⟩ := DataW.trod_int Tryz.underlying3 g1
        obtain ⟨v2, e2, _, f2⟩ := DataW.trod_int Tryz.underlying3 g2
        simp at e0 e1 e2
        subst e0 e1 e2
        have k0 := hcell 0 (by omega)
        have k1 := hcell 1 (by omega)
        have k2 := hcell 2 (by omega)
        simp [add_plain] at k0 k1 k2
        exact ⟨⟨v0, v1, v2⟩, ⟨ab, ao, rfl, hab, k0, k1, k2⟩, (wf_i64 f1).1, (wf_i64 f1).2, (wf_i64 f2).1, (wf_i64 f2).2⟩
    obtain ⟨ss, hsl, hss⟩ := list_of hel
    subst hsl
    refine ⟨some a, ss, cap0, rfl, hl, by unfold maxLen at hm; omega, fun hne => ?_, fun j hj => ?_⟩
    · have h0 : 0 < ss.length := List.length_pos_iff.2 hne
      obtain ⟨⟨b, off, rfl, hlt, _⟩, _⟩ := hss 0 ss[0] (List.getElem?_eq_getElem h0)
      refine ⟨b, off, rfl, hlt, fun j s hj => ?_⟩
      obtain ⟨⟨b', off', e, _, h1, h2, h3⟩, _⟩ := hss j s hj
      simp only [Addr.mk.injEq] at e
      obtain ⟨rfl, rfl, _⟩ := e
      exact ⟨h1, h2, h3⟩
    · obtain ⟨i, hi⟩ := List.mem_iff_getElem?.1 hj
      exact (hss i j hi).2
end
end
end Go.Proofs.YtfoadipocpopiaaGreat
