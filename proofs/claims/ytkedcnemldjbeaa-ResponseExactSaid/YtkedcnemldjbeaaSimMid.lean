/- The memory of ceiling.Simulate in the midst of a unit. Conditions: each theorem's own. -/
import Derived.Test.YtkedcnemldjbeaaSimEnv
import Derived.Test.YtkedcnemldjbeaaCopy44
import Derived.StillTailTactics
import Derived.Outline
import Derived.Deep.DeepCutAuto
import Derived.Deep.RegionLaw
namespace Go.Proofs.Ytkedcnemldjbeaa
open Go.RowKit

theorem gen_list {P : Program} {ops : Array Oper} {Q : Exit → Act → World → Prop} {rest : List Oper} {a : Act} {W : World} (F : World → Prop) (hF : F W) (h : ∀ w, F w → wpList P ops Q rest a w) : wpList P ops Q rest a W := h W hF
theorem gen_code {P : Program} {c : Code} {Q : Exit → Act → World → Prop} {a : Act} {W : World} (F : World → Prop) (hF : F W) (h : ∀ w, F w → Code.wp P c Q a w) : Code.wp P c Q a W := h W hF

/-- A built-in append whose run is known, at a step of a region that draws its order. -/
theorem step_append_by {P : Program} {ops : Array Oper} {o : Oper} {a : Act} {w : World} {K : Act → World → Prop} {Q : Exit → Act → World → Prop} {E : Prop} (hgd : o.guard = none) (s x : Operand) (t : TypeId)
    (ho : o.op = .call { callee := .builtin .append, args := #[s, x], argTypes := #[t, t] }) (v sl v' : Value) (w' : World) (hs : a.eval s = v) (hx : a.eval x = sl)
    (hrun : (Builtin.append_ #[t, t] o.type #[v, sl]).run P w = .ok v' w') (h : K (a.put o.dst v') w') : if Region.wanted o (yielded ops a.tmps) = true then Oper.wp P o a w K Q else E := by
  have hw : Region.wanted o (yielded ops a.tmps) = true := by simp [Region.wanted, hgd]
  rw [if_pos hw]
  unfold Oper.wp execOp
  simp only [ho, resolve, invoke, builtin, Sem.run_bind, Sem.run_pure, Result.andThen_ok, List.map_toArray, List.map_cons, List.map_nil, hs, hx, hrun]
  exact h

def SimPost (l : List CT) (rs : List (List Int)) (un : Int) (w : World) (e : Ending) (w' : World) : Prop :=
  Below w.heap.size w w' ∧ ((checkV l rs un ≠ 0 ∧ e = .returned (.tuple #[.slice none 0 0, .int .i64 (checkV l rs un)])) ∨
    (checkV l rs un = 0 ∧ ∃ a c, e = .returned (.tuple #[.slice a (run (envOf l rs) un.toNat).en.length c, .int .i64 0]) ∧ (run (envOf l rs) un.toNat).en.length ≤ c ∧ c ≤ 9223372036854775807 ∧ JobsAt w' w'.heap.size a (run (envOf l rs) un.toNat).en))

/-- What the outer loop keeps. -/
def OutAt (b : SB) (mn sz : Nat) (cm : Int → Option Int) (w wr : World) (ev : Value) (s : Sim) : Prop := SS b mn sz cm wr ev s ∧ Below w.heap.size w wr ∧ w.heap.size ≤ wr.heap.size

theorem SM.congr {b : SB} {mn sz : Nat} {cm : Int → Option Int} {w : World} {tg : Nat → Nat} {V : Nat → Value} {m m' : Nat → Nat} {X X' : Nat → List Value} {nx nx' lo lo' : Nat → Int} {ev : Value} {en en' : List Jb}
    (h : SM b mn sz cm w tg V m X nx lo ev en) (hm : ∀ i, m i = m' i) (hX : ∀ i, X i = X' i) (hn : ∀ i, nx i = nx' i) (hl : ∀ i, lo i = lo' i) (he : en = en') : SM b mn sz cm w tg V m' X' nx' lo' ev en' := by
  obtain rfl : m = m' := funext hm
  obtain rfl : X = X' := funext hX
  obtain rfl : nx = nx' := funext hn
  obtain rfl : lo = lo' := funext hl
  subst he
  exact h
theorem SM.take {b : SB} {mn sz : Nat} {cm : Int → Option Int} {w : World} {tg : Nat → Nat} {V : Nat → Value} {E : Env} {now : Int} {s : Sim} {i : Nat} {ev : Value} (hd : due E s now i = true)
    (h : SM b mn sz cm w tg V (upd (fun j => ((relK E now s i).wt j).length) i (((relK E now s i).wt i).length + 1)) (upd (fun j => ((relK E now s i).wt j).flatMap (encP j)) i (((relK E now s i).wt i).flatMap (encP i) ++ encP i (newPd s now i)))
      (upd (fun j => ((relK E now s i).nx j : Int)) i ((s.nx i : Int) + 1)) s.lo ev s.en) : SS b mn sz cm w ev (relK E now s (i + 1)) := by
  rw [relK_take hd]
  refine ⟨tg, V, h.congr ?_ ?_ ?_ (fun _ => rfl) rfl⟩
  · intro j
    by_cases e : j = i
    · subst e; simp [upd, relK_own.1]
    · simp [upd, e]
  · intro j
    by_cases e : j = i
    · subst e; simp [upd, relK_own.1, List.flatMap_append]
    · simp [upd, e]
  · intro j
    by_cases e : j = i
    · subst e; simp [upd]
    · simp [upd, e]

theorem SS.init {w2 : World} {B n mb mn sz : Nat} {cm : Int → Option Int} (hI : IMap w2 mb mn cm sz) (hB : B ≤ mb) (hBw : B ≤ w2.heap.size) :
    SS ⟨B, n, w2.heap.size, w2.heap.size + 1, w2.heap.size + 1 + 1, mb⟩ mn sz cm (((w2.alloc (.cells (madeCells #[.slice none 0 0] n) 85)).alloc (.cells (madeCells #[.int .i64 0] n) 3)).alloc (.cells (madeCells #[.int .i64 0] n) 3)) (.slice none 0 0) sim0 := by
  have hml := hI.lt
  refine ⟨fun x => if x = w2.heap.size then 0 else if x = w2.heap.size + 1 then 1 else if x = w2.heap.size + 1 + 1 then 2 else 3, fun _ => .slice none 0 0, ⟨⟨hBw, by show B ≤ w2.heap.size + 1; omega, by show B ≤ w2.heap.size + 1 + 1; omega, hB, by show B ≤ _; simp; omega⟩, ⟨if_pos rfl, by show (if w2.heap.size + 1 = w2.heap.size then _ else if _ then _ else _) = _; rw [if_neg (by omega), if_pos rfl], by show (if w2.heap.size + 1 + 1 = w2.heap.size then _ else if w2.heap.size + 1 + 1 = w2.heap.size + 1 then _ else if _ then _ else _) = _; rw [if_neg (by omega), if_neg (by omega), if_pos rfl], ?_⟩, ?_, ?_, ?_, ?_, fun i hi => ⟨Win.nil _ _ _, fun g hg => by cases hg⟩, ⟨Win.nil _ _ _, fun g hg => by cases hg⟩⟩⟩
  · show (if mb = _ then _ else if mb = _ then _ else if mb = _ then _ else _) = _
    rw [if_neg (by omega), if_neg (by omega), if_neg (by omega)]
  · refine hI.of_block ?_
    rw [Below.heap_alloc _ _ _ (by simp; omega), Below.heap_alloc _ _ _ (by simp; omega), Below.heap_alloc _ _ _ (by omega)]
  · exact ((World.rowIs_made w2 (.slice none 0 0) n _).alloc _).alloc _
  · have := (World.rowIs_made (w2.alloc (.cells (madeCells #[.slice none 0 0] n) 85)) (.int .i64 0) n 3).alloc (.cells (madeCells #[.int .i64 0] n) 3)
    simpa [sim0] using this
  · have := World.rowIs_made ((w2.alloc (.cells (madeCells #[.slice none 0 0] n) 85)).alloc (.cells (madeCells #[.int .i64 0] n) 3)) (.int .i64 0) n 3
    simpa [sim0] using this

/-- v[1:], its value written out. -/
theorem Win.cut {w : World} {E : TypeId} {size n g o cap : Nat} {xs : List Value} (h : Win w E size (.slice (some ⟨g, o, none⟩) (n + 1) cap) (n + 1) xs) (hs : 0 < size) : Win w E size (.slice (if cap = 1 then some ⟨g, o, none⟩ else some ⟨g, o + size, none⟩) n (cap - 1)) n (xs.drop size) := by
  have hxl := h.1
  rcases h.2 with ⟨h0, _⟩ | ⟨g', o', cap', cur, e, hb, h2, h3, h4, hc⟩
  · simp at h0
  · simp only [Value.slice.injEq, Option.some.injEq, Addr.mk.injEq] at e
    obtain ⟨⟨rfl, rfl, _⟩, _, rfl⟩ := e
    by_cases h1 : cap = 1
    · rw [if_pos h1]
      refine ⟨by simp [hxl, Nat.add_mul], .inr ⟨g, o, cap - 1, cur, rfl, hb, by omega, by omega, ?_, fun j u hj => ?_⟩⟩
      · rw [h1]; simp; rw [h1] at h4; omega
      · rw [List.getElem?_drop] at hj
        have : size + j < xs.length := (List.getElem?_eq_some_iff.1 hj).1
        have : n = 0 := by omega
        subst this
        simp at hxl
        omega
    · rw [if_neg h1]
      refine ⟨by simp [hxl, Nat.add_mul], .inr ⟨g, o + size, cap - 1, cur, rfl, hb, by omega, by omega, ?_, fun j u hj => ?_⟩⟩
      · have : cap = (cap - 1) + 1 := by omega
        rw [this, Nat.add_mul] at h4
        omega
      · rw [List.getElem?_drop] at hj
        rw [Nat.add_assoc]
        exact hc _ u hj
theorem bump_zero (f : Nat → Int) (j : Nat) : bump f 0 j = f j := by simp [bump]
theorem bump_succ (f : Nat → Int) (i j : Nat) : upd (bump f i) i (f i + 1) j = bump f (i + 1) j := by
  unfold upd bump
  by_cases e : j = i
  · subst e; simp
  · rw [if_neg e]
    by_cases h : j < i
    · rw [if_pos h, if_pos (by omega)]
    · rw [if_neg h, if_neg (by omega)]
/-- The state in the midst of a unit of task t: the head's cells are hd. -/
def MidAt (b : SB) (mn sz : Nat) (cm : Int → Option Int) (w wr : World) (tg : Nat → Nat) (V : Nat → Value) (s : Sim) (t : Nat) (hd rest : List Value) (lo : Nat → Int) (ev : Value) (en : List Jb) : Prop :=
  SM b mn sz cm wr tg V (fun i => (s.wt i).length) (upd (fun i => (s.wt i).flatMap (encP i)) t (hd ++ rest)) (fun i => (s.nx i : Int)) lo ev en ∧ Below w.heap.size w wr ∧ w.heap.size ≤ wr.heap.size
theorem MidAt.start {b : SB} {mn sz : Nat} {cm : Int → Option Int} {w wr : World} {tg : Nat → Nat} {V : Nat → Value} {s : Sim} {t : Nat} {p : Pd} {r : List Pd} {ev : Value} (hw : s.wt t = p :: r)
    (h : SM b mn sz cm wr tg V (fun i => (s.wt i).length) (fun i => (s.wt i).flatMap (encP i)) (fun i => (s.nx i : Int)) s.lo ev s.en) (hb : Below w.heap.size w wr) (hs : w.heap.size ≤ wr.heap.size) :
    MidAt b mn sz cm w wr tg V s t (encP t p) (r.flatMap (encP t)) s.lo ev s.en := by
  refine ⟨h.congr (fun _ => rfl) (fun i => ?_) (fun _ => rfl) (fun _ => rfl) rfl, hb, hs⟩
  unfold upd
  split
  · rename_i e; subst e; rw [hw, List.flatMap_cons]
  · rfl
section
variable {b : SB} {mn sz : Nat} {cm : Int → Option Int} {w wr : World} {tg : Nat → Nat} {V : Nat → Value} {s : Sim} {t : Nat} {hd rest : List Value} {lo : Nat → Int} {ev : Value} {en : List Jb}
theorem MidAt.set (h : MidAt b mn sz cm w wr tg V s t hd rest lo ev en) {g o c : Nat} (ht : t < b.n) (hB : b.B = w.heap.size) (hV : V t = .slice (some ⟨g, o, none⟩) (s.wt t).length c) (j : Nat) (u : Value) (hj : j < hd.length) :
    MidAt b mn sz cm w (wr.setCell ⟨g, o + j, none⟩ u) tg V s t (hd.set j u) rest lo ev en := by
  obtain ⟨h1, h2, h3⟩ := h
  have hg := (h1.win t ht).2 g (by rw [hV]; rfl)
  refine ⟨(h1.setX ht hV j u).congr (fun _ => rfl) (fun i => ?_) (fun _ => rfl) (fun _ => rfl) rfl, h2.setCell (p := ⟨g, o + j, none⟩) (show w.heap.size ≤ g by omega) _, by simpa using h3⟩
  unfold upd
  by_cases e : i = t
  · simp only [e, if_true]
    rw [List.set_append, if_pos hj]
  · simp only [e, if_false]
theorem MidAt.setL (h : MidAt b mn sz cm w wr tg V s t hd rest lo ev en) (hB : b.B = w.heap.size) (i : Nat) (v : Int) {lo' : Nat → Int} (hl : ∀ j, upd lo i v j = lo' j) :
    MidAt b mn sz cm w (wr.setCell ⟨b.L, i, none⟩ (.int .i64 v)) tg V s t hd rest lo' ev en := by
  obtain ⟨h1, h2, h3⟩ := h
  have := h1.ge.2.2.1
  exact ⟨(h1.setL i v).congr (fun _ => rfl) (fun _ => rfl) (fun _ => rfl) hl rfl, h2.setCell (p := ⟨b.L, i, none⟩) (show w.heap.size ≤ b.L by omega) _, by simpa using h3⟩
theorem MidAt.cell (h : MidAt b mn sz cm w wr tg V s t hd rest lo ev en) {g o c : Nat} (ht : t < b.n) (hV : V t = .slice (some ⟨g, o, none⟩) (s.wt t).length c) (j : Nat) (u : Value) (hj : hd[j]? = some u) : wr.cell? ⟨g, o + j, none⟩ = some u := by
  have h1 := (h.1.win t ht).1
  rw [hV] at h1
  refine h1.cell ?_
  simp only [upd, if_true]
  rw [List.getElem?_append_left (List.getElem?_eq_some_iff.1 hj).1]; exact hj
theorem MidAt.free (h : MidAt b mn sz cm w wr tg V s t hd rest lo ev en) {g o c : Nat} (ht : t < b.n) (hV : V t = .slice (some ⟨g, o, none⟩) (s.wt t).length c) (j : Nat) : wr.frozen? ⟨g, j, none⟩ = false := by
  have h1 := (h.1.win t ht).1
  rw [hV] at h1
  exact h1.frozen j
theorem MidAt.lt (h : MidAt b mn sz cm w wr tg V s t hd rest lo ev en) {g o c : Nat} (ht : t < b.n) (hV : V t = .slice (some ⟨g, o, none⟩) (s.wt t).length c) : g < wr.heap.size :=
  (h.1.win t ht).1.blk_lt (by rw [hV]; rfl)
theorem MidAt.below {w' : World} (h : MidAt b mn sz cm w wr tg V s t hd rest lo ev en) (hb : Below wr.heap.size wr w') : MidAt b mn sz cm w w' tg V s t hd rest lo ev en :=
  ⟨h.1.below hb, h.2.1.trans (hb.mono h.2.2), Nat.le_trans h.2.2 hb.size⟩
/-- The job goes on. -/
theorem MidAt.on {E : Env} {now : Int} {p : Pd} {r : List Pd} (h : MidAt b mn sz cm w wr tg V s t (encP t (stepPd E now t p)) (r.flatMap (encP t)) (bump s.lo t) ev s.en) (hw : s.wt t = p :: r) (hc : p.dn + 1 < E.cost t) : OutAt b mn sz cm w wr ev (exec E now t s) := by
  obtain ⟨h1, h2, h3⟩ := h
  have e : exec E now t s = ⟨upd s.wt t (stepPd E now t p :: r), s.nx, bump s.lo t, s.en⟩ := by unfold exec; rw [hw]; simp only; rw [if_pos hc]
  rw [e]
  refine ⟨⟨tg, V, h1.congr (fun i => ?_) (fun i => ?_) (fun _ => rfl) (fun _ => rfl) rfl⟩, h2, h3⟩
  · by_cases e : i = t
    · subst e; simp [upd, hw]
    · simp [upd, e]
  · by_cases e : i = t
    · subst e; simp [upd]
    · simp [upd, e]
/-- The job has ended: it is appended, and the row cut. -/
theorem MidAt.done {E : Env} {now : Int} {p : Pd} {r : List Pd} {hd : List Value} {g o c : Nat} (h : MidAt b mn sz cm w wr tg V s t hd (r.flatMap (encP t)) (bump s.lo t) ev s.en) (hw : s.wt t = p :: r) (hd9 : hd.length = 9) (ht : t < b.n) (hB : b.B = w.heap.size) (hV : V t = .slice (some ⟨g, o, none⟩) (s.wt t).length c) (hc : ¬ p.dn + 1 < E.cost t) (hen : s.en.length ≤ 1000000) :
    ∃ g2 o2 c2 w', (Builtin.append_ #[51, 51] 51 #[ev, .slice (some ⟨wr.heap.size, 0, none⟩) 1 1]).run Try.prog (wr.alloc (.cells #[.int .i64 (jobOf now t s p).tk, .int .i64 (jobOf now t s p).rel, .int .i64 (jobOf now t s p).st, .int .i64 (jobOf now t s p).en, .int .i64 (jobOf now t s p).bl] 59)) = .ok (.slice (some ⟨g2, o2, none⟩) (s.en.length + 1) c2) w' ∧
      w'.cell? ⟨b.W, t, none⟩ = some (V t) ∧ w'.frozen? ⟨b.W, t, none⟩ = false ∧ c ≤ 9223372036854775807 ∧ r.length + 1 ≤ c ∧
      OutAt b mn sz cm w (w'.setCell ⟨b.W, t, none⟩ (.slice (if c = 1 then some ⟨g, o, none⟩ else some ⟨g, o + 9, none⟩) r.length (c - 1))) (.slice (some ⟨g2, o2, none⟩) (s.en.length + 1) c2) (exec E now t s) := by
  obtain ⟨h1, h2, h3⟩ := h
  obtain ⟨g2, o2, c2, w', hrun, hb', tg', hsm⟩ := h1.pushE (jobOf now t s p) hen
  have hwin := hsm.win t ht
  have hXt : upd (fun i => (s.wt i).flatMap (encP i)) t (hd ++ r.flatMap (encP t)) t = hd ++ r.flatMap (encP t) := by simp [upd]
  have hlen : (s.wt t).length = r.length + 1 := by rw [hw]; rfl
  have hwt := hwin.1
  simp only [hXt, hlen] at hwt
  rw [hV, hlen] at hwt
  have hpw := hwt.cut (by decide)
  obtain ⟨_, _, _, e0, _, hc1, hc2⟩ := hwt.form (by omega)
  simp only [Value.slice.injEq] at e0
  obtain ⟨_, _, rfl⟩ := e0
  refine ⟨g2, o2, c2, w', hrun, hsm.cellW ht, hsm.wrow.frozen _, hc2, hc1, ?_⟩
  have hdrop : (hd ++ r.flatMap (encP t)).drop 9 = r.flatMap (encP t) := by rw [← hd9, List.drop_left]
  rw [hdrop] at hpw
  have e : exec E now t s = ⟨upd s.wt t r, s.nx, bump s.lo t, s.en ++ [jobOf now t s p]⟩ := by unfold exec; rw [hw]; simp only; rw [if_neg hc]
  have hW := h1.ge.1
  rw [e]
  refine ⟨⟨tg', _, (hsm.setW ht hpw (fun g' hg' => hwin.2 g' (by rw [hV]; split at hg' <;> exact hg'))).congr (fun i => ?_) (fun i => ?_) (fun _ => rfl) (fun _ => rfl) rfl⟩, ?_, ?_⟩
  · by_cases e : i = t
    · subst e; simp [upd]
    · simp [upd, e]
  · by_cases e : i = t
    · subst e; simp [upd]
    · simp [upd, e]
  · exact (h2.trans (by rw [← hB]; exact hb')).setCell (p := ⟨b.W, t, none⟩) (show w.heap.size ≤ b.W by omega) _
  · have := hb'.size; simp; omega
end
end Go.Proofs.Ytkedcnemldjbeaa
