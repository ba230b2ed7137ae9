/- The memory of ceiling.Simulate: its rows, told as data, and what a store or an append does to them. Conditions: each theorem's own. -/
import Derived.Test.YtkedcnemldjbeaaChoose
import Derived.Test.YtkedcnemldjbeaaWin
import Derived.Test.YtkedcnemldjbeaaOwn
import Derived.Deep.OwnRows
namespace Go.Proofs.Ytkedcnemldjbeaa
open Go.RowKit

theorem info_pend : (Try.prog.info? 84).map (fun i => (i.zero, i.size, i.bytes)) = some (some (.agg #[.int .i64 0, .int .i64 0, .int .i64 0, .int .i64 0, .int .i64 0, .int .i64 0, .int .i64 0, .int .i64 0, .bool false]), 9, 72) := by kernel_rfl
theorem info_job : (Try.prog.info? 59).map (fun i => (i.zero, i.size, i.bytes)) = some (some (.agg #[.int .i64 0, .int .i64 0, .int .i64 0, .int .i64 0, .int .i64 0]), 5, 40) := by kernel_rfl
theorem info_pends : (Try.prog.info? 85).map (fun i => (i.zero, i.size, i.bytes)) = some (some (.slice none 0 0), 1, 24) := by kernel_rfl

def encP (i : Nat) (p : Pd) : List Value := [.int .i64 i, .int .i64 p.rel, .int .i64 p.st, .int .i64 0, .int .i64 0, .int .i64 p.dn, .int .i64 p.lo, .int .i64 p.ac, .bool p.ho]
def encJ (j : Jb) : List Value := [.int .i64 j.tk, .int .i64 j.rel, .int .i64 j.st, .int .i64 j.en, .int .i64 j.bl]
theorem encP_len (i : Nat) (p : Pd) : (encP i p).length = 9 := rfl
theorem encJ_len (j : Jb) : (encJ j).length = 5 := rfl

/-- The blocks of a call of Simulate. -/
structure SB where
  B : Nat
  n : Nat
  W : Nat
  N : Nat
  L : Nat
  M : Nat
/-- The memory: V the rows' slice values, m their lengths, X their cells; nx, lo the counters; ev the finished jobs. tg gives each block its owner. -/
structure SM (b : SB) (mn sz : Nat) (cm : Int → Option Int) (w : World) (tg : Nat → Nat) (V : Nat → Value) (m : Nat → Nat) (X : Nat → List Value) (nx lo : Nat → Int) (ev : Value) (en : List Jb) : Prop where
  ge : b.B ≤ b.W ∧ b.B ≤ b.N ∧ b.B ≤ b.L ∧ b.B ≤ b.M ∧ b.B ≤ w.heap.size
  tags : tg b.W = 0 ∧ tg b.N = 1 ∧ tg b.L = 2 ∧ tg b.M = 3
  map : IMap w b.M mn cm sz
  wrow : w.rowIs b.W 85 b.n V
  nrow : w.rowIs b.N 3 b.n (fun i => .int .i64 (nx i))
  lrow : w.rowIs b.L 3 b.n (fun i => .int .i64 (lo i))
  win : ∀ i, i < b.n → Win w 84 9 (V i) (m i) (X i) ∧ ∀ g, (V i).ownBlock = some g → tg g = 5 + i ∧ b.B ≤ g
  ewin : Win w 59 5 ev en.length (en.flatMap encJ) ∧ ∀ g, ev.ownBlock = some g → tg g = 4 ∧ b.B ≤ g

theorem IMap.of_block {w w' : World} {b n sz : Nat} {m : Int → Option Int} (h : IMap w b n m sz) (e : w'.heap[b]? = w.heap[b]?) : IMap w' b n m sz := by
  obtain ⟨D, ⟨es, clock, e', r⟩, h2⟩ := h
  exact ⟨D, ⟨es, clock, e.trans e', r⟩, h2⟩

section
variable {b : SB} {mn sz : Nat} {cm : Int → Option Int} {w w' : World} {tg : Nat → Nat} {V : Nat → Value} {m : Nat → Nat} {X : Nat → List Value} {nx lo : Nat → Int} {ev : Value} {en : List Jb}

/-- What a change of blocks with the tag t alone leaves. -/
theorem SM.blk (h : SM b mn sz cm w tg V m X nx lo ev en) (hs : w.heap.size ≤ w'.heap.size) (hb : ∀ g, g < w.heap.size → w'.heap[g]? = w.heap[g]?) : SM b mn sz cm w' tg V m X nx lo ev en where
  ge := by obtain ⟨a, c, d, e, f⟩ := h.ge; exact ⟨a, c, d, e, by omega⟩
  tags := h.tags
  map := h.map.of_block (hb _ h.map.lt)
  wrow := h.wrow.of_block (hb _ h.wrow.lt)
  nrow := h.nrow.of_block (hb _ h.nrow.lt)
  lrow := h.lrow.of_block (hb _ h.lrow.lt)
  win := fun i hi => ⟨(h.win i hi).1.of_block (fun g hg => hb g ((h.win i hi).1.blk_lt hg)), (h.win i hi).2⟩
  ewin := ⟨h.ewin.1.of_block (fun g hg => hb g (h.ewin.1.blk_lt hg)), h.ewin.2⟩
theorem SM.alloc (h : SM b mn sz cm w tg V m X nx lo ev en) (o : Obj) : SM b mn sz cm (w.alloc o) tg V m X nx lo ev en :=
  h.blk (by simp) (fun g hg => Below.heap_alloc w o g hg)
theorem SM.drew (h : SM b mn sz cm w tg V m X nx lo ev en) : SM b mn sz cm w.drew tg V m X nx lo ev en :=
  h.blk (Nat.le_refl _) (fun _ _ => rfl)
theorem SM.below (h : SM b mn sz cm w tg V m X nx lo ev en) (hb : Below w.heap.size w w') : SM b mn sz cm w' tg V m X nx lo ev en :=
  h.blk hb.size (fun g hg => hb.block g hg)

theorem SM.cellN (h : SM b mn sz cm w tg V m X nx lo ev en) {i : Nat} (hi : i < b.n) : w.cell? ⟨b.N, i, none⟩ = some (.int .i64 (nx i)) := h.nrow.cell hi
theorem SM.cellL (h : SM b mn sz cm w tg V m X nx lo ev en) {i : Nat} (hi : i < b.n) : w.cell? ⟨b.L, i, none⟩ = some (.int .i64 (lo i)) := h.lrow.cell hi
theorem SM.cellW (h : SM b mn sz cm w tg V m X nx lo ev en) {i : Nat} (hi : i < b.n) : w.cell? ⟨b.W, i, none⟩ = some (V i) := h.wrow.cell hi

theorem SM.setN (h : SM b mn sz cm w tg V m X nx lo ev en) (i : Nat) (v : Int) : SM b mn sz cm (w.setCell ⟨b.N, i, none⟩ (.int .i64 v)) tg V m X (upd nx i v) lo ev en where
  ge := by obtain ⟨a, c, d, e, f⟩ := h.ge; exact ⟨a, c, d, e, by simpa using f⟩
  tags := h.tags
  map := h.map.of_block (Below.heap_setCell w _ _ _ (fun e => by have := h.tags; rw [show (⟨b.N, i, none⟩ : Addr).block = b.N from rfl] at e; rw [e] at this; omega))
  wrow := h.wrow.setOther (fun e => by have := h.tags; rw [show (⟨b.N, i, none⟩ : Addr).block = b.N from rfl] at e; rw [e] at this; omega) _
  nrow := (h.nrow.set i (.int .i64 v)).congr (fun j _ => by unfold upd; show (if j = i then _ else _) = _; split <;> rfl)
  lrow := h.lrow.setOther (fun e => by have := h.tags; rw [show (⟨b.N, i, none⟩ : Addr).block = b.N from rfl] at e; rw [e] at this; omega) _
  win := fun k hk => ⟨(h.win k hk).1.setOther (fun g hg e => by have h1 := (h.win k hk).2 g hg; have h2 := h.tags; rw [show (⟨b.N, i, none⟩ : Addr).block = b.N from rfl] at e; rw [e] at h1; omega) _, (h.win k hk).2⟩
  ewin := ⟨h.ewin.1.setOther (fun g hg e => by have h1 := h.ewin.2 g hg; have h2 := h.tags; rw [show (⟨b.N, i, none⟩ : Addr).block = b.N from rfl] at e; rw [e] at h1; omega) _, h.ewin.2⟩
theorem SM.setL (h : SM b mn sz cm w tg V m X nx lo ev en) (i : Nat) (v : Int) : SM b mn sz cm (w.setCell ⟨b.L, i, none⟩ (.int .i64 v)) tg V m X nx (upd lo i v) ev en where
  ge := by obtain ⟨a, c, d, e, f⟩ := h.ge; exact ⟨a, c, d, e, by simpa using f⟩
  tags := h.tags
  map := h.map.of_block (Below.heap_setCell w _ _ _ (fun e => by have := h.tags; rw [show (⟨b.L, i, none⟩ : Addr).block = b.L from rfl] at e; rw [e] at this; omega))
  wrow := h.wrow.setOther (fun e => by have := h.tags; rw [show (⟨b.L, i, none⟩ : Addr).block = b.L from rfl] at e; rw [e] at this; omega) _
  nrow := h.nrow.setOther (fun e => by have := h.tags; rw [show (⟨b.L, i, none⟩ : Addr).block = b.L from rfl] at e; rw [e] at this; omega) _
  lrow := (h.lrow.set i (.int .i64 v)).congr (fun j _ => by unfold upd; show (if j = i then _ else _) = _; split <;> rfl)
  win := fun k hk => ⟨(h.win k hk).1.setOther (fun g hg e => by have h1 := (h.win k hk).2 g hg; have h2 := h.tags; rw [show (⟨b.L, i, none⟩ : Addr).block = b.L from rfl] at e; rw [e] at h1; omega) _, (h.win k hk).2⟩
  ewin := ⟨h.ewin.1.setOther (fun g hg e => by have h1 := h.ewin.2 g hg; have h2 := h.tags; rw [show (⟨b.L, i, none⟩ : Addr).block = b.L from rfl] at e; rw [e] at h1; omega) _, h.ewin.2⟩
/-- A store into a cell of row t. -/
theorem SM.setX (h : SM b mn sz cm w tg V m X nx lo ev en) {t g o c : Nat} (ht : t < b.n) (hV : V t = .slice (some ⟨g, o, none⟩) (m t) c) (j : Nat) (u : Value) :
    SM b mn sz cm (w.setCell ⟨g, o + j, none⟩ u) tg V m (upd X t ((X t).set j u)) nx lo ev en := by
  have htg := (h.win t ht).2 g (by rw [hV]; rfl)
  have hbk : (⟨g, o + j, none⟩ : Addr).block = g := rfl
  refine ⟨by obtain ⟨a, c, d, e, f⟩ := h.ge; exact ⟨a, c, d, e, by simpa using f⟩, h.tags, h.map.of_block (Below.heap_setCell w _ _ _ (fun e => ?_)), h.wrow.setOther (fun e => ?_) _, h.nrow.setOther (fun e => ?_) _, h.lrow.setOther (fun e => ?_) _, fun k hk => ⟨?_, (h.win k hk).2⟩, ⟨h.ewin.1.setOther (fun g' hg e => ?_) _, h.ewin.2⟩⟩
  · have := h.tags; rw [hbk] at e; rw [e] at this; omega
  · have := h.tags; rw [hbk] at e; rw [e] at this; omega
  · have := h.tags; rw [hbk] at e; rw [e] at this; omega
  · have := h.tags; rw [hbk] at e; rw [e] at this; omega
  · by_cases e : k = t
    · subst e
      have := (h.win k hk).1
      rw [hV] at this ⊢
      simp only [upd, if_true]
      exact this.set j u
    · have e2 : upd X t ((X t).set j u) k = X k := by simp [upd, e]
      rw [e2]
      refine (h.win k hk).1.setOther (fun g' hg e' => ?_) _
      have := (h.win k hk).2 g' hg
      rw [hbk] at e'; rw [e'] at this; omega
  · have := h.ewin.2 g' hg; rw [hbk] at e; rw [e] at this; omega
/-- Row t becomes v', which reads as X'. -/
theorem SM.setW (h : SM b mn sz cm w tg V m X nx lo ev en) {t : Nat} (ht : t < b.n) {v' : Value} {m' : Nat} {X' : List Value} (hw : Win w 84 9 v' m' X') (hv : ∀ g, v'.ownBlock = some g → tg g = 5 + t ∧ b.B ≤ g) :
    SM b mn sz cm (w.setCell ⟨b.W, t, none⟩ v') tg (upd V t v') (upd m t m') (upd X t X') nx lo ev en := by
  have hbk : (⟨b.W, t, none⟩ : Addr).block = b.W := rfl
  have htg := h.tags
  refine ⟨by obtain ⟨a, c, d, e, f⟩ := h.ge; exact ⟨a, c, d, e, by simpa using f⟩, h.tags, h.map.of_block (Below.heap_setCell w _ _ _ (fun e => ?_)), (h.wrow.set t v').congr (fun j _ => by unfold upd; rfl), h.nrow.setOther (fun e => ?_) _, h.lrow.setOther (fun e => ?_) _, fun k hk => ?_, ⟨h.ewin.1.setOther (fun g' hg e => ?_) _, h.ewin.2⟩⟩
  · rw [hbk] at e; rw [e] at htg; omega
  · rw [hbk] at e; rw [e] at htg; omega
  · rw [hbk] at e; rw [e] at htg; omega
  · by_cases e : k = t
    · subst e
      simp only [upd, if_true]
      exact ⟨hw.setOther (fun g hg e => by have := hv g hg; rw [hbk] at e; rw [e] at this; omega) _, hv⟩
    · simp only [upd, e, if_false]
      exact ⟨(h.win k hk).1.setOther (fun g hg e => by have := (h.win k hk).2 g hg; rw [hbk] at e; rw [e] at this; omega) _, (h.win k hk).2⟩
  · have := h.ewin.2 g' hg; rw [hbk] at e; rw [e] at this; omega

/-- What an append to the row with the tag t leaves: all else, and the tags. -/
theorem SM.grown (h : SM b mn sz cm w tg V m X nx lo ev en) {row : Option Nat} (hg : w.grownBy w' row) :
    (∀ x, x < w.heap.size → (∀ g, row = some g → tg x ≠ tg g) → w'.heap[x]? = w.heap[x]?) := fun x hx hne => hg.block x hx (fun e => hne x e.symm rfl)

/-- 'waiting[i] = append(waiting[i], p)'. -/
theorem SM.push (h : SM b mn sz cm w tg V m X nx lo ev en) {i : Nat} (hi : i < b.n) (p : Pd) (hm : m i ≤ 1000000) :
    ∃ g o c w', (Builtin.append_ #[85, 85] 85 #[V i, .slice (some ⟨w.heap.size, 0, none⟩) 1 1]).run Try.prog (w.alloc (.cells #[.int .i64 i, .int .i64 p.rel, .int .i64 p.st, .int .i64 0, .int .i64 0, .int .i64 p.dn, .int .i64 p.lo, .int .i64 p.ac, .bool p.ho] 84)) = .ok (.slice (some ⟨g, o, none⟩) (m i + 1) c) w' ∧
      Below b.B w w' ∧ w'.cell? ⟨b.W, i, none⟩ = some (V i) ∧ w'.frozen? ⟨b.W, i, none⟩ = false ∧ w'.cell? ⟨b.N, i, none⟩ = some (.int .i64 (nx i)) ∧ w'.frozen? ⟨b.N, i, none⟩ = false ∧
      ∃ tg', SM b mn sz cm (w'.setCell ⟨b.W, i, none⟩ (.slice (some ⟨g, o, none⟩) (m i + 1) c)) tg' (upd V i (.slice (some ⟨g, o, none⟩) (m i + 1) c)) (upd m i (m i + 1)) (upd X i (X i ++ encP i p)) nx lo ev en := by
  obtain ⟨hw, hv⟩ := h.win i hi
  have ha := h.alloc (.cells #[.int .i64 i, .int .i64 p.rel, .int .i64 p.st, .int .i64 0, .int .i64 0, .int .i64 p.dn, .int .i64 p.lo, .int .i64 p.ac, .bool p.ho] 84)
  obtain ⟨g, o, c, w', hr, hw', hg, hl, hlt⟩ := Win.push (P := Try.prog) (t := 85) (ty := 85) Try.underlying85 info_pend (by simp [Value.cells]) (by decide)
    (ha.win i hi).1 ⟨w.heap.size, 0, none⟩ 1 (encP i p) rfl (fun j u hj => World.news_of_block (Go.Deep.blk_alloc_new _ _) j u hj) (fun u hu => by
      simp only [encP, List.mem_cons, List.not_mem_nil, or_false] at hu
      rcases hu with rfl | rfl | rfl | rfl | rfl | rfl | rfl | rfl | rfl <;> rfl) (by omega) (by omega)
  generalize hwa : w.alloc (.cells #[.int .i64 i, .int .i64 p.rel, .int .i64 p.st, .int .i64 0, .int .i64 0, .int .i64 p.dn, .int .i64 p.lo, .int .i64 p.ac, .bool p.ho] 84) = wa at *
  have hsz : w.heap.size < wa.heap.size := by rw [← hwa]; simp
  have hBw := h.ge.2.2.2.2
  -- blocks with another tag are as they were
  have hold : ∀ x, x < wa.heap.size → tg x ≠ 5 + i → w'.heap[x]? = wa.heap[x]? := fun x hx hne => hg.block x hx (fun e => hne (hv x e.symm).1)
  obtain ⟨t0, t1, t2, t3⟩ := h.tags
  have hWlt := ha.wrow.lt
  have hNlt := ha.nrow.lt
  have hLlt := ha.lrow.lt
  have hMlt := ha.map.lt
  let tg' : Nat → Nat := fun x => if x < wa.heap.size then tg x else 5 + i
  have tgl : ∀ x, x < wa.heap.size → tg' x = tg x := fun x hx => if_pos hx
  have hsm : SM b mn sz cm w' tg' (upd V i (V i)) (upd m i (m i)) (upd X i (X i)) nx lo ev en → True := fun _ => trivial
  have hgt : tg' g = 5 + i ∧ b.B ≤ g := by
    rcases hl with hl | hl
    · have := hv g hl
      rw [tgl g ((ha.win i hi).1.blk_lt hl)]; exact this
    · refine ⟨?_, by omega⟩
      show (if g < wa.heap.size then _ else _) = _
      rw [if_neg (by omega)]
  have hW' := ha.wrow.of_block (hold b.W hWlt (by omega))
  have hN' := ha.nrow.of_block (hold b.N hNlt (by omega))
  have hL' := ha.lrow.of_block (hold b.L hLlt (by omega))
  have hM' := ha.map.of_block (hold b.M hMlt (by omega))
  have hE' : Win w' 59 5 ev en.length (en.flatMap encJ) := ha.ewin.1.of_block (fun x hx => hold x (ha.ewin.1.blk_lt hx) (by have := ha.ewin.2 x hx; omega))
  refine ⟨g, o, c, w', hr, ?_, hW'.cell hi, hW'.frozen _, hN'.cell hi, hN'.frozen _, tg', ?_⟩
  · have := (Below.refl b.B w).alloc hBw (.cells #[.int .i64 i, .int .i64 p.rel, .int .i64 p.st, .int .i64 0, .int .i64 0, .int .i64 p.dn, .int .i64 p.lo, .int .i64 p.ac, .bool p.ho] 84)
    rw [hwa] at this
    exact this.grown hg (by omega) (fun k hk => (hv k hk).2)
  · have hbk : (⟨b.W, i, none⟩ : Addr).block = b.W := rfl
    have h0 : SM b mn sz cm w' tg' V m X nx lo ev en ∨ True := .inr trivial
    refine ⟨by obtain ⟨a, c, d, e, f⟩ := h.ge; refine ⟨a, c, d, e, ?_⟩; simp; have := hg.size; omega, ⟨by rw [tgl _ hWlt]; exact t0, by rw [tgl _ hNlt]; exact t1, by rw [tgl _ hLlt]; exact t2, by rw [tgl _ hMlt]; exact t3⟩,
      hM'.of_block (Below.heap_setCell w' _ _ _ (fun e => ?_)), (hW'.set i _).congr (fun j _ => by unfold upd; rfl), hN'.setOther (fun e => ?_) _, hL'.setOther (fun e => ?_) _, fun k hk => ?_, ⟨hE'.setOther (fun g' hg' e => ?_) _, fun g' hg' => ?_⟩⟩
    · rw [hbk] at e; rw [e] at t3; omega
    · rw [hbk] at e; rw [e] at t1; omega
    · rw [hbk] at e; rw [e] at t2; omega
    · by_cases e : k = i
      · subst e
        simp only [upd, if_true]
        refine ⟨hw'.setOther (fun g' hg' e => ?_) _, fun g' hg' => ?_⟩
        · simp only [Value.ownBlock, Option.some.injEq] at hg'
          rw [hbk] at e
          have h1 := hgt.1
          rw [hg', e, tgl _ hWlt] at h1
          omega
        · simp only [Value.ownBlock, Option.some.injEq] at hg'
          subst hg'
          exact hgt
      · simp only [upd, e, if_false]
        obtain ⟨k1, k2⟩ := ha.win k hk
        refine ⟨(k1.of_block (fun x hx => hold x (k1.blk_lt hx) (by have := k2 x hx; omega))).setOther (fun g' hg' e => ?_) _, fun g' hg' => ?_⟩
        · have := k2 g' hg'; rw [hbk] at e; rw [e] at this; omega
        · rw [tgl _ (k1.blk_lt hg')]; exact k2 g' hg'
    · have := h.ewin.2 g' hg'; rw [hbk] at e; rw [e] at this; omega
    · rw [tgl _ (ha.ewin.1.blk_lt hg')]; exact h.ewin.2 g' hg'

/-- 'ended = append(ended, j)'. -/
theorem SM.pushE (h : SM b mn sz cm w tg V m X nx lo ev en) (j : Jb) (hm : en.length ≤ 1000000) :
    ∃ g o c w', (Builtin.append_ #[51, 51] 51 #[ev, .slice (some ⟨w.heap.size, 0, none⟩) 1 1]).run Try.prog (w.alloc (.cells #[.int .i64 j.tk, .int .i64 j.rel, .int .i64 j.st, .int .i64 j.en, .int .i64 j.bl] 59)) = .ok (.slice (some ⟨g, o, none⟩) (en.length + 1) c) w' ∧
      Below b.B w w' ∧ ∃ tg', SM b mn sz cm w' tg' V m X nx lo (.slice (some ⟨g, o, none⟩) (en.length + 1) c) (en ++ [j]) := by
  obtain ⟨hw, hv⟩ := h.ewin
  have ha := h.alloc (.cells #[.int .i64 j.tk, .int .i64 j.rel, .int .i64 j.st, .int .i64 j.en, .int .i64 j.bl] 59)
  obtain ⟨g, o, c, w', hr, hw', hg, hl, hlt⟩ := Win.push (P := Try.prog) (t := 51) (ty := 51) Try.underlying51 info_job (by simp [Value.cells]) (by decide)
    ha.ewin.1 ⟨w.heap.size, 0, none⟩ 1 (encJ j) rfl (fun k u hk => World.news_of_block (Go.Deep.blk_alloc_new _ _) k u hk) (fun u hu => by
      simp only [encJ, List.mem_cons, List.not_mem_nil, or_false] at hu
      rcases hu with rfl | rfl | rfl | rfl | rfl <;> rfl) (by omega) (by omega)
  generalize hwa : w.alloc (.cells #[.int .i64 j.tk, .int .i64 j.rel, .int .i64 j.st, .int .i64 j.en, .int .i64 j.bl] 59) = wa at *
  have hsz : w.heap.size < wa.heap.size := by rw [← hwa]; simp
  have hBw := h.ge.2.2.2.2
  have hold : ∀ x, x < wa.heap.size → tg x ≠ 4 → w'.heap[x]? = wa.heap[x]? := fun x hx hne => hg.block x hx (fun e => hne (hv x e.symm).1)
  obtain ⟨t0, t1, t2, t3⟩ := h.tags
  have hWlt := ha.wrow.lt
  have hNlt := ha.nrow.lt
  have hLlt := ha.lrow.lt
  have hMlt := ha.map.lt
  let tg' : Nat → Nat := fun x => if x < wa.heap.size then tg x else 4
  have tgl : ∀ x, x < wa.heap.size → tg' x = tg x := fun x hx => if_pos hx
  have hgt : tg' g = 4 ∧ b.B ≤ g := by
    rcases hl with hl | hl
    · have := hv g hl
      rw [tgl g (ha.ewin.1.blk_lt hl)]; exact this
    · refine ⟨?_, by omega⟩
      show (if g < wa.heap.size then _ else _) = _
      rw [if_neg (by omega)]
  refine ⟨g, o, c, w', hr, ?_, tg', ?_⟩
  · have := (Below.refl b.B w).alloc hBw (.cells #[.int .i64 j.tk, .int .i64 j.rel, .int .i64 j.st, .int .i64 j.en, .int .i64 j.bl] 59)
    rw [hwa] at this
    exact this.grown hg (by omega) (fun k hk => (hv k hk).2)
  · refine ⟨by obtain ⟨a, c, d, e, f⟩ := h.ge; refine ⟨a, c, d, e, ?_⟩; have := hg.size; omega, ⟨by rw [tgl _ hWlt]; exact t0, by rw [tgl _ hNlt]; exact t1, by rw [tgl _ hLlt]; exact t2, by rw [tgl _ hMlt]; exact t3⟩,
      ha.map.of_block (hold b.M hMlt (by omega)), ha.wrow.of_block (hold b.W hWlt (by omega)), ha.nrow.of_block (hold b.N hNlt (by omega)), ha.lrow.of_block (hold b.L hLlt (by omega)), fun k hk => ?_, ⟨by simpa [List.flatMap_append] using hw', fun g' hg' => ?_⟩⟩
    · obtain ⟨k1, k2⟩ := ha.win k hk
      refine ⟨k1.of_block (fun x hx => hold x (k1.blk_lt hx) (by have := k2 x hx; omega)), fun g' hg' => ?_⟩
      rw [tgl _ (k1.blk_lt hg')]; exact k2 g' hg'
    · simp only [Value.ownBlock, Option.some.injEq] at hg'
      subst hg'
      exact hgt
end

/-- The memory holds the state s. -/
def SS (b : SB) (mn sz : Nat) (cm : Int → Option Int) (w : World) (ev : Value) (s : Sim) : Prop :=
  ∃ tg V, SM b mn sz cm w tg V (fun i => (s.wt i).length) (fun i => (s.wt i).flatMap (encP i)) (fun i => (s.nx i : Int)) s.lo ev s.en
end Go.Proofs.Ytkedcnemldjbeaa
