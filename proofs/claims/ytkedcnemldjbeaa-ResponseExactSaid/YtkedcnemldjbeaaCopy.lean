/- The walks over the two laws' plain: a copy of the tasks. Conditions: the tasks lie in memory; few. -/
import Derived.Test.YtkedcnemldjbeaaTk
import Derived.Test.YtkedcnemldjbeaaWin
import Derived.Test.YtkedcnemldjbeaaOwn
import Derived.Outline
namespace Go.Proofs.Ytkedcnemldjbeaa
open Go.RowKit

theorem info_rsec : (Try.prog.info? 80).map (fun i => (i.zero, i.size, i.bytes)) = some (some (.agg #[.int .i64 0, .int .i64 0, .int .i64 0]), 3, 24) := by kernel_rfl
theorem info_rtask : (Try.prog.info? 79).map (fun i => (i.zero, i.size, i.bytes)) = some (some (.agg #[.int .i64 0, .int .i64 0, .int .i64 0, .slice none 0 0]), 4, 48) := by kernel_rfl

def encS (s : Sec) : List Value := [.int .i64 s.o, .int .i64 s.f, .int .i64 s.t]
structure TC where
  t : CT
  a : Option Addr
  c : Nat
def encT (x : TC) : List Value := [.int .i64 x.t.c, .int .i64 x.t.p, .int .i64 x.t.d, .slice x.a x.t.ss.length x.c]
theorem encS_len (s : Sec) : (encS s).length = 3 := rfl
theorem encT_len (x : TC) : (encT x).length = 4 := rfl

/-- The sections ss lie at an address, in a block that is not ob. -/
def SecOwn (w : World) (ob : Option Nat) (a : Option Addr) (ss : List Sec) : Prop :=
  ss ≠ [] → ∃ b off, a = some ⟨b, off, none⟩ ∧ b < w.heap.size ∧ ob ≠ some b ∧ ∀ j s, ss[j]? = some s → w.cell? ⟨b, off + j * 3, none⟩ = some (.int .i64 s.o) ∧ w.cell? ⟨b, off + j * 3 + 1, none⟩ = some (.int .i64 s.f) ∧ w.cell? ⟨b, off + j * 3 + 2, none⟩ = some (.int .i64 s.t)

theorem SecOwn.of_win {w : World} {v : Value} {ss : List Sec} {ob : Option Nat} (h : Win w 80 3 v ss.length (ss.flatMap encS)) (hob : ∀ g, v.ownBlock = some g → ob ≠ some g) :
    ∃ a c, v = .slice a ss.length c ∧ SecOwn w ob a ss := by
  by_cases h0 : ss = []
  · subst h0
    obtain ⟨a, c, e, _⟩ := h.form0
    exact ⟨a, c, e, fun h => absurd rfl h⟩
  · obtain ⟨g, o, cap, e, hlt, _⟩ := h.form (List.length_pos_iff.2 h0)
    subst e
    refine ⟨_, cap, rfl, fun _ => ⟨g, o, rfl, hlt, hob g rfl, fun j s hj => ?_⟩⟩
    have g0 := flat_get encS_len (j := 0) hj (by omega)
    have g1 := flat_get encS_len (j := 1) hj (by omega)
    have g2 := flat_get encS_len (j := 2) hj (by omega)
    have k0 := h.cell (u := .int .i64 s.o) g0
    have k1 := h.cell (u := .int .i64 s.f) g1
    have k2 := h.cell (u := .int .i64 s.t) g2
    exact ⟨k0, by rw [Nat.add_assoc]; exact k1, by rw [Nat.add_assoc]; exact k2⟩
theorem SecOwn.kept {w w' : World} {ob ob' : Option Nat} {a : Option Addr} {ss : List Sec} (h : SecOwn w ob a ss) (hg : w.grownBy w' ob) (ho : ob' = ob ∨ ∀ g, ob' = some g → w.heap.size ≤ g) : SecOwn w' ob' a ss := fun hne => by
  obtain ⟨b, off, e, hlt, hb, hc⟩ := h hne
  have hk : ∀ o, w'.cell? ⟨b, o, none⟩ = w.cell? ⟨b, o, none⟩ := fun o => World.cell?_of_block (w := w) (hg.block b hlt (fun e => hb e.symm))
  refine ⟨b, off, e, Nat.lt_of_lt_of_le hlt hg.size, ?_, fun j s hj => ?_⟩
  · rcases ho with rfl | ho
    · exact hb
    · intro e
      have := ho b e
      omega
  · rw [hk, hk, hk]; exact hc j s hj
theorem SecOwn.below {w w' : World} {ob : Option Nat} {a : Option Addr} {ss : List Sec} (h : SecOwn w ob a ss) (hb : Below w.heap.size w w') : SecOwn w' ob a ss :=
  fun hne => by
  obtain ⟨b, off, e, hlt, h1, hc⟩ := h hne
  refine ⟨b, off, e, Nat.lt_of_lt_of_le hlt hb.size, h1, fun j s hj => ?_⟩
  obtain ⟨c0, c1, c2⟩ := hc j s hj
  exact ⟨keep_cellN hb hlt c0, keep_cellN hb hlt c1, keep_cellN hb hlt c2⟩

/-- The copy so far. -/
def CopyAt (B : Nat) (w : World) (v : Value) (l : List CT) : Prop :=
  ∃ tc : List TC, tc.map TC.t = l ∧ Win w 79 4 v l.length (tc.flatMap encT) ∧ (∀ g, v.ownBlock = some g → B ≤ g) ∧ ∀ x ∈ tc, SecOwn w v.ownBlock x.a x.t.ss

theorem CopyAt.below {B : Nat} {w w' : World} {v : Value} {l : List CT} (h : CopyAt B w v l) (hb : Below w.heap.size w w') : CopyAt B w' v l := by
  obtain ⟨tc, h1, h2, h3, h4⟩ := h
  exact ⟨tc, h1, h2.below hb (fun g hg => h2.blk_lt hg), h3, fun x hx => (h4 x hx).below hb⟩
theorem CopyAt.tasks {B : Nat} {w : World} {v : Value} {l : List CT} (h : CopyAt B w v l) (hl : ∀ t ∈ l, t.ss.length ≤ 1000) : ∃ a c, v = .slice a l.length c ∧ l.length ≤ c ∧ c ≤ 9223372036854775807 ∧ TasksAt w w.heap.size a l := by
  obtain ⟨tc, h1, h2, h3, h4⟩ := h
  obtain ⟨a, c, e, hc1, hc2⟩ := h2.form0
  refine ⟨a, c, e, hc1, hc2, fun hne => ?_⟩
  obtain ⟨g, o, cap, e', hlt, _⟩ := h2.form (List.length_pos_iff.2 hne)
  subst e'
  simp only [Value.slice.injEq] at e
  obtain ⟨rfl, _, rfl⟩ := e
  refine ⟨g, o, rfl, hlt, fun i t hi => ?_⟩
  have hx : ∃ x, tc[i]? = some x ∧ x.t = t := by
    rw [← h1, List.getElem?_map] at hi
    cases hq : tc[i]? with
    | none => rw [hq] at hi; simp at hi
    | some x => rw [hq] at hi; exact ⟨x, rfl, by simpa using hi⟩
  obtain ⟨x, hx, rfl⟩ := hx
  have g0 := flat_get encT_len (j := 0) hx (by omega)
  have g1 := flat_get encT_len (j := 1) hx (by omega)
  have g2 := flat_get encT_len (j := 2) hx (by omega)
  have g3 := flat_get encT_len (j := 3) hx (by omega)
  have k0 := h2.cell (u := .int .i64 x.t.c) g0
  have k1 := h2.cell (u := .int .i64 x.t.p) g1
  have k2 := h2.cell (u := .int .i64 x.t.d) g2
  have k3 := h2.cell (u := .slice x.a x.t.ss.length x.c) g3
  have hs := hl x.t (List.mem_of_getElem? hi)
  refine ⟨k0, by rw [Nat.add_assoc]; exact k1, by rw [Nat.add_assoc]; exact k2, x.a, x.c, by rw [Nat.add_assoc]; exact k3, by omega, fun hne => ?_⟩
  obtain ⟨b, off, e, hlt, _, hc⟩ := h4 x (List.mem_of_getElem? hx) hne
  exact ⟨b, off, e, hlt, hc⟩
/-- One more task. -/
theorem CopyAt.push {B : Nat} {w : World} {v : Value} {l : List CT} {t : CT} {sa : Option Addr} {sc : Nat} (h : CopyAt B w v l) (hs : SecOwn w v.ownBlock sa t.ss) (hn : l.length ≤ 1000000) (hB : B ≤ w.heap.size) :
    ∃ v' w', (Builtin.append_ #[40, 40] 40 #[v, .slice (some ⟨w.heap.size, 0, none⟩) 1 1]).run Try.prog (w.alloc (.cells #[.int .i64 t.c, .int .i64 t.p, .int .i64 t.d, .slice sa t.ss.length sc] 79)) = .ok v' w' ∧
      CopyAt B w' v' (l ++ [t]) ∧ Below B w w' := by
  obtain ⟨tc, h1, h2, h3, h4⟩ := h
  have hlen : tc.length = l.length := by rw [← h1]; simp
  obtain ⟨g, o, cap, w', hr, hw, hg, hl, hlt⟩ := Win.push (P := Try.prog) (t := 40) (ty := 40) Try.underlying40 info_rtask (by simp [Value.cells]) (by decide)
    (h2.alloc (.cells #[.int .i64 t.c, .int .i64 t.p, .int .i64 t.d, .slice sa t.ss.length sc] 79)) ⟨w.heap.size, 0, none⟩ 1 (encT ⟨t, sa, sc⟩) rfl
    (fun j u hj => World.news_of_block (Go.Deep.blk_alloc_new _ _) j u hj) (fun u hu => by
      simp only [encT, List.mem_cons, List.not_mem_nil, or_false] at hu
      rcases hu with rfl | rfl | rfl | rfl <;> rfl) (by omega) (by omega)
  have hga : (w.alloc (.cells #[.int .i64 t.c, .int .i64 t.p, .int .i64 t.d, .slice sa t.ss.length sc] 79)).heap.size = w.heap.size + 1 := by simp
  refine ⟨_, w', hr, ⟨tc ++ [⟨t, sa, sc⟩], by simp [h1], by simpa [List.flatMap_append] using hw, ?_, ?_⟩, ?_⟩
  · intro g' hg'
    simp only [Value.ownBlock, Option.some.injEq] at hg'
    subst hg'
    rcases hl with hl | hl
    · exact h3 g hl
    · omega
  · have hk : ∀ x : TC, SecOwn w v.ownBlock x.a x.t.ss → SecOwn w' (some g) x.a x.t.ss := fun x hx => by
      refine SecOwn.kept (SecOwn.below hx ((Below.refl _ _).alloc (Nat.le_refl _) _)) hg ?_
      rcases hl with hl | hl
      · exact .inl hl.symm
      · exact .inr fun g' e => by injection e with e; omega
    intro x hx
    rcases List.mem_append.1 hx with hx | hx
    · exact hk x (h4 x hx)
    · obtain rfl : x = ⟨t, sa, sc⟩ := by simpa using hx
      exact hk ⟨t, sa, sc⟩ hs
  · exact ((Below.refl B w).alloc hB _).grown hg (by omega) (fun k hk => h3 k hk)
/-- One more section of the task under construction. -/
theorem SecWin.push {w : World} {v : Value} {ss : List Sec} {s : Sec} (h : Win w 80 3 v ss.length (ss.flatMap encS)) (hn : ss.length ≤ 1000000) :
    ∃ g o c w', (Builtin.append_ #[77, 77] 77 #[v, .slice (some ⟨w.heap.size, 0, none⟩) 1 1]).run Try.prog (w.alloc (.cells #[.int .i64 s.o, .int .i64 s.f, .int .i64 s.t] 80)) = .ok (.slice (some ⟨g, o, none⟩) (ss.length + 1) c) w' ∧
      Win w' 80 3 (.slice (some ⟨g, o, none⟩) (ss.length + 1) c) (ss ++ [s]).length ((ss ++ [s]).flatMap encS) ∧ (w.alloc (.cells #[.int .i64 s.o, .int .i64 s.f, .int .i64 s.t] 80)).grownBy w' v.ownBlock ∧ (v.ownBlock = some g ∨ w.heap.size < g) := by
  obtain ⟨g, o, cap, w', hr, hw, hg, hl, hlt⟩ := Win.push (P := Try.prog) (t := 77) (ty := 77) Try.underlying77 info_rsec (by simp [Value.cells]) (by decide)
    (h.alloc (.cells #[.int .i64 s.o, .int .i64 s.f, .int .i64 s.t] 80)) ⟨w.heap.size, 0, none⟩ 1 (encS s) rfl
    (fun j u hj => World.news_of_block (Go.Deep.blk_alloc_new _ _) j u hj) (fun u hu => by
      simp only [encS, List.mem_cons, List.not_mem_nil, or_false] at hu
      rcases hu with rfl | rfl | rfl <;> rfl) (by omega) (by omega)
  refine ⟨g, o, cap, w', hr, by simpa [List.flatMap_append] using hw, hg, ?_⟩
  rcases hl with hl | hl
  · exact .inl hl
  · simp at hl; exact .inr (by omega)
end Go.Proofs.Ytkedcnemldjbeaa
