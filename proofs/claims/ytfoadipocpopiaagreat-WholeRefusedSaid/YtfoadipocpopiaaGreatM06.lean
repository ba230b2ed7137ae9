/- Several texts in one: The model of a simulation in memory. Conditions: each theorem's own. The load of a set as a fraction; greatest common divisors: plain Lean. Conditions: each theorem's own. The append of one element at a step of a region that draws its order. Conditions: each theorem's own. -/
import Derived.Test.YtfoadipocpopiaaGreatM00
import Derived.Test.YtfoadipocpopiaaGreatWin
import Derived.Test.YtfoadipocpopiaaGreatM01
import Derived.Deep.OwnRows
import Derived.Deep.RegionLaw
namespace Go.Proofs.YtfoadipocpopiaaGreat
section
open Go.RowKit
def encJS (j : JS) : List Value := [.bool j.lv, .int .i64 j.rl, .int .i64 j.dn, .int .i64 (j.nx : Int)]
theorem encJS_len (j : JS) : (encJS j).length = 4 := rfl
def jsL (js : Nat → JS) (n : Nat) : List JS := (List.range n).map js
theorem jsL_len (js : Nat → JS) (n : Nat) : (jsL js n).length = n := by simp [jsL]
theorem jsL_get {js : Nat → JS} {n i : Nat} (h : i < n) : (jsL js n)[i]? = some (js i) := by
  unfold jsL; rw [List.getElem?_map, List.getElem?_range h]; rfl
def updS (js : Nat → JS) (i : Nat) (j : JS) : Nat → JS := fun k => if k = i then j else js k
theorem jsL_set {js : Nat → JS} {n i : Nat} (j : JS) : (jsL js n).set i j = jsL (updS js i j) n := by
  refine List.ext_getElem? fun k => ?_
  rw [List.getElem?_set]
  unfold jsL
  rw [List.getElem?_map, List.getElem?_map]
  by_cases hk : k < n
  · rw [List.getElem?_range hk]
    by_cases e : i = k
    · subst e; simp [hk, updS]
    · rw [if_neg e]; simp [updS, Ne.symm e]
  · rw [List.getElem?_eq_none (by simp; omega)]
    by_cases e : i = k
    · subst e; simp; omega
    · simp [e]
theorem jsL_congr {js js' : Nat → JS} {n : Nat} (h : ∀ i, i < n → js i = js' i) : jsL js n = jsL js' n :=
  List.map_congr_left fun i hi => h i (by simpa using hi)
/-- The model: its variable gm, its jobs gj, its misses mv; gs is the block of the schedule, with the cells ob. -/
structure SMo (w : World) (N gm gj gs : Nat) (ob : Array Value) (tv rv : Value) (n : Nat) (js : Nat → JS) (mv : Value) (m : Nat) : Prop where
  mod : w.heap[gm]? = some (.cells #[tv, rv, .slice (some ⟨gj, 0, none⟩) n n, mv] 78 (0, 0))
  jobs : Win w 75 4 (.slice (some ⟨gj, 0, none⟩) n n) n ((jsL js n).flatMap encJS)
  miss : ∃ xs, Win w 90 3 mv m xs
  own : ∀ g, mv.ownBlock = some g → N ≤ g ∧ g ≠ gm ∧ g ≠ gj ∧ g ≠ gs
  ob : w.heap[gs]? = some (.cells ob 42 (0, 0))
  lay : N ≤ gm ∧ N ≤ gj ∧ N ≤ gs ∧ gm ≠ gj ∧ gm ≠ gs ∧ gj ≠ gs
  jlt : gj < w.heap.size
section
variable {w w' : World} {N gm gj gs n m : Nat} {ob : Array Value} {tv rv mv : Value} {js : Nat → JS}
theorem SMo.mlt (h : SMo w N gm gj gs ob tv rv n js mv m) : gm < w.heap.size := (Array.getElem?_eq_some_iff.1 h.mod).1
theorem SMo.slt (h : SMo w N gm gj gs ob tv rv n js mv m) : gs < w.heap.size := (Array.getElem?_eq_some_iff.1 h.ob).1
theorem SMo.vlt (h : SMo w N gm gj gs ob tv rv n js mv m) {g : Nat} (hg : mv.ownBlock = some g) : g < w.heap.size := by
  obtain ⟨xs, hx⟩ := h.miss
  exact hx.blk_lt hg
theorem SMo.Nle (h : SMo w N gm gj gs ob tv rv n js mv m) : N ≤ w.heap.size := by have := h.mlt; have := h.lay.1; omega
/-- Nothing of the model is written. -/
theorem SMo.of_block (h : SMo w N gm gj gs ob tv rv n js mv m) (hb : ∀ g, g < w.heap.size → w'.heap[g]? = w.heap[g]?) (hs : w.heap.size ≤ w'.heap.size) : SMo w' N gm gj gs ob tv rv n js mv m := by
  have h1 := h.mlt
  have h2 := h.slt
  have h3 := h.jlt
  refine ⟨(hb _ h1).trans h.mod, h.jobs.of_block fun g hg => ?_, ?_, h.own, (hb _ h2).trans h.ob, h.lay, by omega⟩
  · simp only [Value.ownBlock, Option.some.injEq] at hg
    subst hg
    exact hb _ h3
  · obtain ⟨xs, hx⟩ := h.miss
    exact ⟨xs, hx.of_block fun g hg => hb _ (hx.blk_lt hg)⟩
theorem SMo.below (h : SMo w N gm gj gs ob tv rv n js mv m) (hb : Below w.heap.size w w') : SMo w' N gm gj gs ob tv rv n js mv m :=
  h.of_block (fun g hg => hb.block g hg) hb.size
theorem SMo.cellM (h : SMo w N gm gj gs ob tv rv n js mv m) : w.cell? ⟨gm, 0, none⟩ = some tv ∧ w.cell? ⟨gm, 1, none⟩ = some rv ∧ w.cell? ⟨gm, 2, none⟩ = some (.slice (some ⟨gj, 0, none⟩) n n) ∧ w.cell? ⟨gm, 3, none⟩ = some mv := by
  simp [World.cell?, h.mod]
theorem SMo.frozenM (h : SMo w N gm gj gs ob tv rv n js mv m) (i : Nat) : w.frozen? ⟨gm, i, none⟩ = false := by
  simp [World.frozen?, h.mod]
theorem SMo.cellJ (h : SMo w N gm gj gs ob tv rv n js mv m) {i : Nat} (hi : i < n) :
    w.cell? ⟨gj, i * 4, none⟩ = some (.bool (js i).lv) ∧ w.cell? ⟨gj, i * 4 + 1, none⟩ = some (.int .i64 (js i).rl) ∧ w.cell? ⟨gj, i * 4 + 2, none⟩ = some (.int .i64 (js i).dn) ∧ w.cell? ⟨gj, i * 4 + 3, none⟩ = some (.int .i64 ((js i).nx : Int)) := by
  have hg := jsL_get (js := js) hi
  have f : ∀ j, j < 4 → ((jsL js n).flatMap encJS)[i * 4 + j]? = (encJS (js i))[j]? := fun j hj => flat_get encJS_len hg hj
  refine ⟨?_, ?_, ?_, ?_⟩
  · have := h.jobs.cell (j := i * 4 + 0) ((f 0 (by omega)).trans rfl); simpa using this
  · have := h.jobs.cell (j := i * 4 + 1) ((f 1 (by omega)).trans rfl); simpa using this
  · have := h.jobs.cell (j := i * 4 + 2) ((f 2 (by omega)).trans rfl); simpa using this
  · have := h.jobs.cell (j := i * 4 + 3) ((f 3 (by omega)).trans rfl); simpa using this
theorem SMo.frozenJ (h : SMo w N gm gj gs ob tv rv n js mv m) (i : Nat) : w.frozen? ⟨gj, i, none⟩ = false := h.jobs.frozen i
/-- A field of a job is written. -/
theorem SMo.set (h : SMo w N gm gj gs ob tv rv n js mv m) {i : Nat} (hi : i < n) (k : Nat) (hk : k < 4) (u : Value) (j : JS) (he : encJS j = (encJS (js i)).set k u) :
    SMo (w.setCell ⟨gj, i * 4 + k, none⟩ u) N gm gj gs ob tv rv n (updS js i j) mv m := by
  obtain ⟨l1, l2, l3, l4, l5, l6⟩ := h.lay
  have hj := h.jobs.set (i * 4 + k) u
  rw [Nat.zero_add] at hj
  rw [flat_set encJS_len (jsL_get hi) hk he, jsL_set] at hj
  refine ⟨?_, hj, ?_, h.own, ?_, h.lay, by simpa using h.jlt⟩
  · exact (Below.heap_setCell w ⟨gj, i * 4 + k, none⟩ u gm l4).trans h.mod
  · obtain ⟨xs, hx⟩ := h.miss
    exact ⟨xs, hx.setOther (fun g hg => (h.own g hg).2.2.1) u⟩
  · exact (Below.heap_setCell w ⟨gj, i * 4 + k, none⟩ u gs (Ne.symm l6)).trans h.ob
theorem SMo.congr (h : SMo w N gm gj gs ob tv rv n js mv m) {js' : Nat → JS} (e : ∀ i, i < n → js i = js' i) : SMo w N gm gj gs ob tv rv n js' mv m :=
  ⟨h.mod, by rw [← jsL_congr e]; exact h.jobs, h.miss, h.own, h.ob, h.lay, h.jlt⟩
theorem info_miss : (Tryz.prog.info? 90).map (fun i => (i.zero, i.size, i.bytes)) = some (some (.agg #[.int .i64 0, .int .i64 0, .int .i64 0]), 3, 24) := by kernel_rfl
/-- A miss is noted. -/
theorem SMo.note (h : SMo w N gm gj gs ob tv rv n js mv m) (x y z : Int) (hm : m ≤ 1000000) :
    ∃ v' w', (Builtin.append_ #[37, 37] 37 #[mv, .slice (some ⟨w.heap.size, 0, none⟩) 1 1]).run Tryz.prog (w.alloc (.cells #[.int .i64 x, .int .i64 y, .int .i64 z] 90)) = .ok v' w' ∧
      SMo (w'.setCell ⟨gm, 3, none⟩ v') N gm gj gs ob tv rv n js v' (m + 1) ∧ Below N w (w'.setCell ⟨gm, 3, none⟩ v') ∧ w'.cell? ⟨gm, 3, none⟩ = some mv ∧ w'.frozen? ⟨gm, 3, none⟩ = false ∧ gm < w'.heap.size ∧ ∃ g o c, v' = .slice (some ⟨g, o, none⟩) (m + 1) c := by
  obtain ⟨xs, hx⟩ := h.miss
  obtain ⟨l1, l2, l3, l4, l5, l6⟩ := h.lay
  obtain ⟨gg, o, c, w', hr, hw', hgr, hl, hlt⟩ := Win.push (P := Tryz.prog) (t := 37) (ty := 37) Tryz.underlying37 info_miss (by simp [Value.cells]) (by decide)
    (hx.alloc (.cells #[.int .i64 x, .int .i64 y, .int .i64 z] 90)) ⟨w.heap.size, 0, none⟩ 1 [.int .i64 x, .int .i64 y, .int .i64 z] rfl (fun k u hk => World.news_of_block (Go.Deep.blk_alloc_new _ _) k u hk) (fun u hu => by
      simp only [List.mem_cons, List.not_mem_nil, or_false] at hu
      rcases hu with rfl | rfl | rfl <;> rfl) (by omega) (by omega)
  have hold : ∀ g, g < w.heap.size → mv.ownBlock ≠ some g → w'.heap[g]? = w.heap[g]? := fun g hg hn => by
    rw [hgr.block g (by simp; omega) (fun e => hn e.symm)]
    exact Below.heap_alloc _ _ _ hg
  have hsz : w.heap.size + 1 ≤ w'.heap.size := by have := hgr.size; simpa using this
  have hb : Below N w w' := ((Below.refl N w).alloc h.Nle _).grown hgr (by simp; have := h.Nle; omega) fun g hg => (h.own g hg).1
  have m1 := hold gm h.mlt (fun e => (h.own gm e).2.1 rfl)
  have m2 := hold gj h.jlt (fun e => (h.own gj e).2.2.1 rfl)
  have m3 := hold gs h.slt (fun e => (h.own gs e).2.2.2 rfl)
  have hmod := m1.trans h.mod
  have hown : N ≤ gg ∧ gg ≠ gm ∧ gg ≠ gj ∧ gg ≠ gs := by
    rcases hl with hl | hl
    · exact h.own gg hl
    · have e : gg = w.heap.size + 1 := by simpa using hl
      have := h.mlt; have := h.jlt; have := h.slt; have := h.Nle
      omega
  refine ⟨_, w', hr, ⟨?_, ?_, ?_, fun g hg => ?_, ?_, h.lay, ?_⟩, hb.setCell l1 _, ?_, ?_, ?_, gg, o, c, rfl⟩
  · rw [setCell_eq_setRow w' gm 3 _ _ _ _ hmod]
    exact setRow_heap w' gm _ _ _ _ hmod
  · refine (h.jobs.of_block (w' := w') fun g hg => ?_).setOther (fun g hg => ?_) _
    · simp only [Value.ownBlock, Option.some.injEq] at hg
      subst hg; exact m2
    · simp only [Value.ownBlock, Option.some.injEq] at hg
      subst hg; exact Ne.symm l4
  · exact ⟨_, hw'.setOther (fun g hg => by
      simp only [Value.ownBlock, Option.some.injEq] at hg
      subst hg; exact hown.2.1) _⟩
  · simp only [Value.ownBlock, Option.some.injEq] at hg
    subst hg; exact hown
  · exact (Below.heap_setCell w' ⟨gm, 3, none⟩ _ gs (Ne.symm l5)).trans (m3.trans h.ob)
  · have := h.jlt; simp; omega
  · simp [World.cell?, hmod]
  · simp [World.frozen?, hmod]
  · have := h.mlt; omega
end
end

section
def tc (l : List TT) (k : Nat) : Nat := (ttAt l k).c.toNat
def tp (l : List TT) (k : Nat) : Nat := (ttAt l k).p.toNat
/-- The product of the first k periods. -/
def dn (l : List TT) : Nat → Nat
  | 0 => 1
  | k + 1 => dn l k * tp l k
/-- The sum of the first k loads, over dn. -/
def nm (l : List TT) : Nat → Nat
  | 0 => 0
  | k + 1 => nm l k * tp l k + tc l k * dn l k
section
variable {l : List TT} {k : Nat}
theorem tsOK_at (h : tsOK l = true) (hk : k < l.length) : 1 ≤ tc l k ∧ tc l k ≤ tp l k ∧ tp l k ≤ 1000 ∧ (ttAt l k).c = (tc l k : Int) ∧ (ttAt l k).p = (tp l k : Int) := by
  obtain ⟨h1, h2, h3⟩ := (tsOK_bd h).2 k hk
  unfold tc tp
  omega
theorem dn_pos (h : tsOK l = true) : ∀ k, k ≤ l.length → 0 < dn l k
  | 0, _ => Nat.one_pos
  | k + 1, hk => Nat.mul_pos (dn_pos h k (by omega)) (by have := tsOK_at h (show k < l.length by omega); omega)
theorem dn_le (h : tsOK l = true) : ∀ k, k ≤ l.length → dn l k ≤ BB ^ k
  | 0, _ => by simp [dn]
  | k + 1, hk => by
    rw [dn, Nat.pow_succ]
    exact Nat.mul_le_mul (dn_le h k (by omega)) (by have := tsOK_at h (show k < l.length by omega); have : BB = 4294967296 := rfl; omega)
theorem nm_le (h : tsOK l = true) : ∀ k, k ≤ l.length → nm l k ≤ k * dn l k
  | 0, _ => by simp [nm]
  | k + 1, hk => by
    have h1 := nm_le h k (by omega)
    have h2 := (tsOK_at h (show k < l.length by omega)).2.1
    have h3 : nm l k * tp l k ≤ k * dn l k * tp l k := Nat.mul_le_mul_right _ h1
    have h4 : tc l k * dn l k ≤ tp l k * dn l k := Nat.mul_le_mul_right _ h2
    rw [nm, dn, Nat.add_mul, Nat.one_mul, ← Nat.mul_assoc, Nat.mul_comm (dn l k) (tp l k)]
    omega
end
/-- p / q is the load of the first k tasks, in lowest terms. -/
structure LoadPQ (l : List TT) (k p q : Nat) : Prop where
  pos : 0 < q
  cop : Nat.gcd p q = 1
  eq : p * dn l k = nm l k * q
theorem LoadPQ.start (l : List TT) : LoadPQ l 0 0 1 := ⟨by decide, by decide, by simp [nm]⟩
theorem div_gcd_eq {a b : Nat} (_hb : 0 < b) : a = Nat.gcd a b * (a / Nat.gcd a b) ∧ b = Nat.gcd a b * (b / Nat.gcd a b) :=
  ⟨(Nat.mul_div_cancel' (Nat.gcd_dvd_left a b)).symm, (Nat.mul_div_cancel' (Nat.gcd_dvd_right a b)).symm⟩
theorem gcd_div_one {a b : Nat} (hb : 0 < b) : Nat.gcd (a / Nat.gcd a b) (b / Nat.gcd a b) = 1 := by
  have hg : 0 < Nat.gcd a b := Nat.gcd_pos_of_pos_right _ hb
  rw [Nat.gcd_div (Nat.gcd_dvd_left a b) (Nat.gcd_dvd_right a b), Nat.div_self hg]
theorem LoadPQ.step {l : List TT} {k p q : Nat} (h : LoadPQ l k p q) (ht : 0 < tp l k) :
    LoadPQ l (k + 1) ((p * (tp l k / Nat.gcd (tc l k) (tp l k)) + tc l k / Nat.gcd (tc l k) (tp l k) * q) / Nat.gcd (p * (tp l k / Nat.gcd (tc l k) (tp l k)) + tc l k / Nat.gcd (tc l k) (tp l k) * q) (q * (tp l k / Nat.gcd (tc l k) (tp l k)))) (q * (tp l k / Nat.gcd (tc l k) (tp l k)) / Nat.gcd (p * (tp l k / Nat.gcd (tc l k) (tp l k)) + tc l k / Nat.gcd (tc l k) (tp l k) * q) (q * (tp l k / Nat.gcd (tc l k) (tp l k)))) := by
  obtain ⟨e1, e2⟩ := div_gcd_eq (a := tc l k) ht
  have hg : 0 < Nat.gcd (tc l k) (tp l k) := Nat.gcd_pos_of_pos_right _ ht
  generalize tp l k / Nat.gcd (tc l k) (tp l k) = q2 at *
  generalize tc l k / Nat.gcd (tc l k) (tp l k) = p2 at *
  generalize Nat.gcd (tc l k) (tp l k) = g at *
  have hq2 : 0 < q2 := by
    rcases Nat.eq_zero_or_pos q2 with h0 | h0
    · subst h0; omega
    · exact h0
  have hQ : 0 < q * q2 := Nat.mul_pos h.pos hq2
  have hE : (p * q2 + p2 * q) * dn l (k + 1) = nm l (k + 1) * (q * q2) := by
    have h1 := h.eq
    rw [dn, nm]
    have a1 : p * q2 * (dn l k * tp l k) = p * dn l k * (q2 * tp l k) := by simp only [Nat.mul_assoc, Nat.mul_comm, Nat.mul_left_comm]
    have a2 : nm l k * tp l k * (q * q2) = nm l k * q * (q2 * tp l k) := by simp only [Nat.mul_assoc, Nat.mul_comm, Nat.mul_left_comm]
    have a3 : p2 * q * (dn l k * tp l k) = tc l k * dn l k * (q * q2) := by
      rw [e2]
      conv => rhs; rw [e1]
      simp only [Nat.mul_assoc, Nat.mul_comm, Nat.mul_left_comm]
    rw [Nat.add_mul, Nat.add_mul, a1, a2, a3, h1]
  generalize p * q2 + p2 * q = P at *
  generalize q * q2 = Q at *
  obtain ⟨f1, f2⟩ := div_gcd_eq (a := P) hQ
  have hG : 0 < Nat.gcd P Q := Nat.gcd_pos_of_pos_right _ hQ
  refine ⟨Nat.div_pos (Nat.le_of_dvd hQ (Nat.gcd_dvd_right _ _)) hG, gcd_div_one hQ, ?_⟩
  generalize P / Nat.gcd P Q = p' at *
  generalize Q / Nat.gcd P Q = q' at *
  generalize Nat.gcd P Q = G at *
  rw [f1, f2] at hE
  have hE2 : G * (p' * dn l (k + 1)) = G * (nm l (k + 1) * q') := by
    rw [← Nat.mul_assoc, hE]
    simp only [Nat.mul_assoc, Nat.mul_comm, Nat.mul_left_comm]
  exact Nat.eq_of_mul_eq_mul_left hG hE2
theorem LoadPQ.bounds {l : List TT} {k p q : Nat} (h : LoadPQ l k p q) (hl : tsOK l = true) (hk : k ≤ l.length) : p < BB ^ (k + 1) ∧ q < BB ^ (k + 1) := by
  have hd := dn_pos hl k hk
  have h1 := dn_le hl k hk
  have h2 := nm_le hl k hk
  have h3 : q ∣ p * dn l k := by rw [h.eq]; exact ⟨nm l k, Nat.mul_comm _ _⟩
  have h4 : q ∣ dn l k := Nat.Coprime.dvd_of_dvd_mul_left (show Nat.Coprime q p by rw [Nat.Coprime, Nat.gcd_comm]; exact h.cop) h3
  have h5 : q ≤ dn l k := Nat.le_of_dvd hd h4
  have h6 : BB ^ k < BB ^ (k + 1) := by
    rw [Nat.pow_succ]
    have := BBn_pos k
    have : 4294967296 * BB ^ k = BB ^ k * BB := Nat.mul_comm _ _
    omega
  have hlen := (tsOK_bd hl).1
  refine ⟨?_, by omega⟩
  have h7 : p * dn l k ≤ k * q * dn l k := by
    rw [h.eq]
    have : nm l k * q ≤ k * dn l k * q := Nat.mul_le_mul_right _ h2
    have e : k * dn l k * q = k * q * dn l k := by simp only [Nat.mul_assoc, Nat.mul_comm, Nat.mul_left_comm]
    omega
  have h8 := Nat.le_of_mul_le_mul_right h7 hd
  have h9 : k * q ≤ 40 * q := Nat.mul_le_mul_right _ (by omega)
  have h10 : 40 * q ≤ 40 * BB ^ k := Nat.mul_le_mul_left _ (by omega)
  rw [Nat.pow_succ]
  have := BBn_pos k
  have : 4294967296 * BB ^ k = BB ^ k * BB := Nat.mul_comm _ _
  omega
/-- The comparison of the load with a number of cores. -/
theorem LoadPQ.cmp {l : List TT} {k p q : Nat} (h : LoadPQ l k p q) (hl : tsOK l = true) (hk : k ≤ l.length) (z : Int) : ((p : Int) ≤ z * q) ↔ ((nm l k : Int) ≤ z * dn l k) := by
  have hd : (0 : Int) < (dn l k : Int) := by have := dn_pos hl k hk; omega
  have hq : (0 : Int) < (q : Int) := by have := h.pos; omega
  have he : (p : Int) * dn l k = nm l k * q := by exact_mod_cast h.eq
  constructor
  · intro h1
    have h2 := Int.mul_le_mul_of_nonneg_right h1 (Int.le_of_lt hd)
    rw [he, Int.mul_right_comm] at h2
    exact Int.le_of_mul_le_mul_right h2 hq
  · intro h1
    have h2 := Int.mul_le_mul_of_nonneg_right h1 (Int.le_of_lt hq)
    rw [← he, Int.mul_right_comm] at h2
    exact Int.le_of_mul_le_mul_right h2 hd
/-- Two fractions in lowest terms that are equal have the same numbers. -/
theorem lowest_unique {a b c d : Nat} (h1 : Nat.gcd a b = 1) (h2 : Nat.gcd c d = 1) (hb : 0 < b) (_hd : 0 < d) (h : a * d = c * b) : a = c ∧ b = d := by
  have e1 : b ∣ d := Nat.Coprime.dvd_of_dvd_mul_left (show Nat.Coprime b a by rw [Nat.Coprime, Nat.gcd_comm]; exact h1) ⟨c, by rw [h, Nat.mul_comm]⟩
  have e2 : d ∣ b := Nat.Coprime.dvd_of_dvd_mul_left (show Nat.Coprime d c by rw [Nat.Coprime, Nat.gcd_comm]; exact h2) ⟨a, by rw [← h, Nat.mul_comm]⟩
  have e3 : b = d := Nat.dvd_antisymm e1 e2
  subst e3
  exact ⟨Nat.eq_of_mul_eq_mul_right hb h, rfl⟩
end

section
open Go.RowKit
/-- A built-in append whose run is known, at a step of a region that draws its order. -/
theorem step_append_by {P : Program} {ops : Array Oper} {o : Oper} {a : Act} {w : World} {K : Act → World → Prop} {Q : Exit → Act → World → Prop} {E : Prop} (hgd : o.guard = none) (s x : Operand) (t : TypeId)
    (ho : o.op = .call { callee := .builtin .append, args := #[s, x], argTypes := #[t, t] }) (v sl v' : Value) (w' : World) (hs : a.eval s = v) (hx : a.eval x = sl)
    (hrun : (Builtin.append_ #[t, t] o.type #[v, sl]).run P w = .ok v' w') (h : K (a.put o.dst v') w') : if Region.wanted o (yielded ops a.tmps) = true then Oper.wp P o a w K Q else E := by
  have hw : Region.wanted o (yielded ops a.tmps) = true := by simp [Region.wanted, hgd]
  rw [if_pos hw]
  unfold Oper.wp execOp
  simp only [ho, resolve, invoke, builtin, Sem.run_bind, Sem.run_pure, Result.andThen_ok, List.map_toArray, List.map_cons, List.map_nil, hs, hx, hrun]
  exact h

/-- A built-in append of a region that draws its order: what is known of its outcome. -/
theorem step_append_ex {P : Program} {ops : Array Oper} {o : Oper} {a : Act} {w : World} {K : Act → World → Prop} {Q : Exit → Act → World → Prop} {E : Prop} (hgd : o.guard = none) (s x : Operand) (t : TypeId)
    (ho : o.op = .call { callee := .builtin .append, args := #[s, x], argTypes := #[t, t] }) {v sl : Value} {F : Value → World → Prop} (hs : a.eval s = v) (hx : a.eval x = sl)
    (hrun : ∃ v' w', (Builtin.append_ #[t, t] o.type #[v, sl]).run P w = .ok v' w' ∧ F v' w') (h : ∀ v' w', F v' w' → K (a.put o.dst v') w') : if Region.wanted o (yielded ops a.tmps) = true then Oper.wp P o a w K Q else E := by
  obtain ⟨v', w', h1, h2⟩ := hrun
  exact step_append_by hgd s x t ho v sl v' w' hs hx h1 (h v' w' h2)
end
end Go.Proofs.YtfoadipocpopiaaGreat
