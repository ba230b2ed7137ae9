/- Several texts in one: Rows of a matrix that are being written. Conditions: each theorem's own. How assign lays its capacities: plain Lean. Conditions: each theorem's own. -/
import Derived.Test.YtfoadipocpopiaaGreatFlowSat
import Derived.Test.YtfoadipocpopiaaGreatM01
import Derived.Test.YtfoadipocpopiaaGreatM00
import Derived.Test.YtfoadipocpopiaaGreatFlowM
namespace Go.Proofs.YtfoadipocpopiaaGreat
section
open Go.RowKit Go.Deep
theorem Rows1.congr {G n k : Nat} {c c' : Nat → Nat → Int} {w : World} {B F C : Nat → Nat} (h : Rows1 G n k c w B F C) (e : ∀ i j, i < k → j < n → c i j = c' i j) : Rows1 G n k c' w B F C :=
  ⟨h.out, h.cap, fun i hi => (h.row i hi).congr fun j hj => e i j hi hj, h.new, h.inc⟩
theorem Rows1.setR {G n k : Nat} {c : Nat → Nat → Int} {w : World} {B F C : Nat → Nat} (h : Rows1 G n k c w B F C) {i j : Nat} (hi : i < k) (hj : j < n) (x : Int) : Rows1 G n k (upd2 c i j x) (w.setCell ⟨B i, F i + j, none⟩ (.int .i64 x)) B F C := by
  refine ⟨h.out.setOther (show G ≠ B i by have := h.new i hi; omega) _, h.cap, fun p hp => ?_, h.new, h.inc⟩
  by_cases e : p = i
  · subst e
    refine ((h.row p hp).set hj x).congr fun q _ => ?_
    show (if q = j then x else c p q) = upd2 c p j x p q
    simp [upd2]
  · refine ((h.row p hp).of_block (blk_setCell_other _ _ _ _ (show B p ≠ B i by
      rcases Nat.lt_or_gt_of_ne e with h1 | h1
      · have := h.inc p i h1 hi; omega
      · have := h.inc i p h1 hp; omega))).congr fun q _ => ?_
    show c p q = upd2 c i j x p q
    simp [upd2, e]
theorem Rows1.drew {G n k : Nat} {c : Nat → Nat → Int} {w : World} {B F C : Nat → Nat} (h : Rows1 G n k c w B F C) : Rows1 G n k c w.drew B F C := ⟨h.out.drew, h.cap, h.row, h.new, h.inc⟩
theorem Rows1.mat {G n : Nat} {c : Nat → Nat → Int} {w : World} {B F C : Nat → Nat} (h : Rows1 G n n c w B F C) : MatAt w w.heap.size G 0 n c :=
  ⟨h.out.lt, fun i hi => ⟨B i, F i, C i, by rw [Nat.zero_add]; have := h.out.cell hi; rwa [if_pos hi] at this, (h.cap i hi).1, (h.cap i hi).2, (h.row i hi).lt, fun j hj => (h.row i hi).cell hj⟩⟩
/-- The entries before the m-th of the row k are written. -/
def part2 (f : Nat → Nat → Int) (k m : Nat) : Nat → Nat → Int := fun i j => if i < k ∨ (i = k ∧ j < m) then f i j else 0
theorem part2_step {f : Nat → Nat → Int} {k m : Nat} (i j : Nat) : upd2 (part2 f k m) k m (f k m) i j = part2 f k (m + 1) i j := by
  unfold upd2 part2
  by_cases e : i = k ∧ j = m
  · obtain ⟨rfl, rfl⟩ := e; simp
  · rw [if_neg e]
    by_cases e2 : i < k ∨ (i = k ∧ j < m)
    · rw [if_pos e2, if_pos (by omega)]
    · rw [if_neg e2, if_neg (by omega)]
theorem row_new (w : World) (n : Nat) : RowI (w.alloc (.cells (madeCells #[.int .i64 0] n) 3)) w.heap.size 0 n (fun _ => 0) :=
  ⟨_, Go.Deep.blk_alloc_new _ _, by simp [size_madeCells], fun j hj => by simp [madeCells, hj, Nat.mod_one]⟩
end

section
/-! ### How the capacities are laid -/
theorem if_iff {p q : Prop} [Decidable p] [Decidable q] {a b : Int} (h : p ↔ q) : (if p then a else b) = if q then a else b := by
  by_cases hp : p
  · rw [if_pos hp, if_pos (h.1 hp)]
  · rw [if_neg hp, if_neg (fun x => hp (h.2 x))]
def stgJ (l : List FJ) (S : Nat) (cores : Int) (i : Nat) : Nat → Nat → Int := netC l S cores (fun j => decide (j < i)) (fun j s => decide (j < i) && winB l j s) (fun _ => false)
def stgW (l : List FJ) (S : Nat) (cores : Int) (i q : Nat) : Nat → Nat → Int := netC l S cores (fun j => decide (j < i + 1)) (fun j s => (decide (j < i) && winB l j s) || (decide (j = i) && decide ((fjAt l i).r ≤ s) && decide (s < q))) (fun _ => false)
def stgS (l : List FJ) (S : Nat) (cores : Int) (k : Nat) : Nat → Nat → Int := netC l S cores (fun _ => true) (winB l) (fun s => decide (s < k))
theorem netC_congr {l : List FJ} {S : Nat} {cores : Int} {J J' : Nat → Bool} {W W' : Nat → Nat → Bool} {Q Q' : Nat → Bool} (hJ : ∀ j, j < l.length → J j = J' j) (hW : ∀ j s, j < l.length → s < S → W j s = W' j s) (hQ : ∀ s, s < S → Q s = Q' s) (u v : Nat) :
    netC l S cores J W Q u v = netC l S cores J' W' Q' u v := by
  unfold netC
  by_cases h0 : u = 0
  · rw [if_pos h0, if_pos h0]
    refine if_iff ⟨fun ⟨a, b, c⟩ => ⟨a, b, ?_⟩, fun ⟨a, b, c⟩ => ⟨a, b, ?_⟩⟩
    · rw [← hJ _ (by omega)]; exact c
    · rw [hJ _ (by omega)]; exact c
  · rw [if_neg h0, if_neg h0]
    by_cases h1 : u ≤ l.length
    · rw [if_pos h1, if_pos h1]
      refine if_iff ⟨fun ⟨a, b, c⟩ => ⟨a, b, ?_⟩, fun ⟨a, b, c⟩ => ⟨a, b, ?_⟩⟩
      · rw [← hW _ _ (by omega) (by omega)]; exact c
      · rw [hW _ _ (by omega) (by omega)]; exact c
    · rw [if_neg h1, if_neg h1]
      by_cases h2 : u ≤ l.length + S
      · rw [if_pos h2, if_pos h2]
        refine if_iff ⟨fun ⟨a, c⟩ => ⟨a, ?_⟩, fun ⟨a, c⟩ => ⟨a, ?_⟩⟩
        · rw [← hQ _ (by omega)]; exact c
        · rw [hQ _ (by omega)]; exact c
      · rw [if_neg h2, if_neg h2]
theorem netC_J {l : List FJ} {S : Nat} {cores : Int} {J : Nat → Bool} {W : Nat → Nat → Bool} {Q : Nat → Bool} {i : Nat} (hi : i < l.length) (u v : Nat) :
    upd2 (netC l S cores J W Q) 0 (1 + i) (fjAt l i).c u v = netC l S cores (fun j => J j || decide (j = i)) W Q u v := by
  unfold upd2
  by_cases e : u = 0 ∧ v = 1 + i
  · obtain ⟨rfl, rfl⟩ := e
    rw [if_pos ⟨rfl, rfl⟩]
    unfold netC
    rw [if_pos rfl, show 1 + i - 1 = i by omega, if_pos ⟨by omega, by omega, by simp⟩]
  · rw [if_neg e]
    unfold netC
    by_cases h0 : u = 0
    · rw [if_pos h0, if_pos h0]
      refine if_iff ⟨fun ⟨a, b, c⟩ => ⟨a, b, by simp [c]⟩, fun ⟨a, b, c⟩ => ⟨a, b, ?_⟩⟩
      simp only [Bool.or_eq_true, decide_eq_true_eq] at c
      rcases c with c | c
      · exact c
      · exact absurd ⟨h0, by omega⟩ e
    · rw [if_neg h0, if_neg h0]
theorem netC_W {l : List FJ} {S : Nat} {cores : Int} {J : Nat → Bool} {W : Nat → Nat → Bool} {Q : Nat → Bool} {i q : Nat} (hi : i < l.length) (hq : q < S) (u v : Nat) :
    upd2 (netC l S cores J W Q) (1 + i) (1 + l.length + q) 1 u v = netC l S cores J (fun j s => W j s || (decide (j = i) && decide (s = q))) Q u v := by
  unfold upd2
  by_cases e : u = 1 + i ∧ v = 1 + l.length + q
  · obtain ⟨rfl, rfl⟩ := e
    rw [if_pos ⟨rfl, rfl⟩]
    unfold netC
    rw [if_neg (by omega), if_pos (by omega), show 1 + i - 1 = i by omega, show 1 + l.length + q - 1 - l.length = q by omega, if_pos ⟨by omega, by omega, by simp⟩]
  · rw [if_neg e]
    unfold netC
    by_cases h0 : u = 0
    · rw [if_pos h0, if_pos h0]
    · rw [if_neg h0, if_neg h0]
      by_cases h1 : u ≤ l.length
      · rw [if_pos h1, if_pos h1]
        refine if_iff ⟨fun ⟨a, b, c⟩ => ⟨a, b, by simp [c]⟩, fun ⟨a, b, c⟩ => ⟨a, b, ?_⟩⟩
        simp only [Bool.or_eq_true, Bool.and_eq_true, decide_eq_true_eq] at c
        rcases c with c | ⟨c1, c2⟩
        · exact c
        · exact absurd ⟨by omega, by omega⟩ e
      · rw [if_neg h1, if_neg h1]
theorem netC_Q {l : List FJ} {S : Nat} {cores : Int} {J : Nat → Bool} {W : Nat → Nat → Bool} {Q : Nat → Bool} {k : Nat} (hk : k < S) (u v : Nat) :
    upd2 (netC l S cores J W Q) (1 + l.length + k) (1 + l.length + S) cores u v = netC l S cores J W (fun s => Q s || decide (s = k)) u v := by
  unfold upd2
  by_cases e : u = 1 + l.length + k ∧ v = 1 + l.length + S
  · obtain ⟨rfl, rfl⟩ := e
    rw [if_pos ⟨rfl, rfl⟩]
    unfold netC
    rw [if_neg (by omega), if_neg (by omega), if_pos (by omega), show 1 + l.length + k - 1 - l.length = k by omega, if_pos ⟨by omega, by simp⟩]
  · rw [if_neg e]
    unfold netC
    by_cases h0 : u = 0
    · rw [if_pos h0, if_pos h0]
    · rw [if_neg h0, if_neg h0]
      by_cases h1 : u ≤ l.length
      · rw [if_pos h1, if_pos h1]
      · rw [if_neg h1, if_neg h1]
        by_cases h2 : u ≤ l.length + S
        · rw [if_pos h2, if_pos h2]
          refine if_iff ⟨fun ⟨a, c⟩ => ⟨a, by simp [c]⟩, fun ⟨a, c⟩ => ⟨a, ?_⟩⟩
          simp only [Bool.or_eq_true, decide_eq_true_eq] at c
          rcases c with c | c
          · exact c
          · exact absurd ⟨by omega, by omega⟩ e
        · rw [if_neg h2, if_neg h2]
theorem stg_zero {l : List FJ} {S : Nat} {cores : Int} (u v : Nat) : stgJ l S cores 0 u v = 0 := by
  unfold stgJ netC
  simp
theorem stg_J {l : List FJ} {S : Nat} {cores : Int} {i q : Nat} (hi : i < l.length) (hq : (q : Int) = (fjAt l i).r) (u v : Nat) : upd2 (stgJ l S cores i) 0 (1 + i) (fjAt l i).c u v = stgW l S cores i q u v := by
  unfold stgJ stgW
  rw [netC_J hi]
  refine netC_congr (fun j _ => ?_) (fun j s _ _ => ?_) (fun _ _ => rfl) u v
  · rw [Bool.eq_iff_iff]; simp; omega
  · rw [Bool.eq_iff_iff]; simp; omega
theorem stg_W {l : List FJ} {S : Nat} {cores : Int} {i q : Nat} (hi : i < l.length) (hq : (fjAt l i).r ≤ q) (hS : q < S) (u v : Nat) : upd2 (stgW l S cores i q) (1 + i) (1 + l.length + q) 1 u v = stgW l S cores i (q + 1) u v := by
  unfold stgW
  rw [netC_W hi hS]
  refine netC_congr (fun j _ => rfl) (fun j s _ _ => ?_) (fun _ _ => rfl) u v
  rw [Bool.eq_iff_iff]
  by_cases e : j = i
  · subst e; simp; omega
  · simp [e]
theorem stg_done {l : List FJ} {S : Nat} {cores : Int} {i q : Nat} (hq : (fjAt l i).d ≤ q) (hr : (fjAt l i).r ≤ q) (hd : (q : Int) ≤ (fjAt l i).d) (u v : Nat) : stgW l S cores i q u v = stgJ l S cores (i + 1) u v := by
  unfold stgW stgJ
  refine netC_congr (fun j _ => rfl) (fun j s _ _ => ?_) (fun _ _ => rfl) u v
  rw [Bool.eq_iff_iff]
  by_cases e : j = i
  · subst e; simp [winB]; omega
  · simp [e]; omega
theorem stg_all {l : List FJ} {S : Nat} {cores : Int} (u v : Nat) : stgJ l S cores l.length u v = stgS l S cores 0 u v := by
  unfold stgS stgJ
  exact netC_congr (fun j hj => by simp [hj]) (fun j s hj _ => by simp [hj]) (fun _ _ => by simp) u v
theorem stg_S {l : List FJ} {S : Nat} {cores : Int} {k : Nat} (hk : k < S) (u v : Nat) : upd2 (stgS l S cores k) (1 + l.length + k) (1 + l.length + S) cores u v = stgS l S cores (k + 1) u v := by
  unfold stgS
  rw [netC_Q hk]
  refine netC_congr (fun j _ => rfl) (fun j s _ _ => rfl) (fun s _ => ?_) u v
  rw [Bool.eq_iff_iff]; simp; omega
theorem stg_fin {l : List FJ} {S : Nat} {cores : Int} (u v : Nat) : stgS l S cores S u v = netF l S cores u v := by
  unfold stgS netF
  exact netC_congr (fun j hj => rfl) (fun j s hj _ => rfl) (fun s hs => by simp [hs]) u v
end
end Go.Proofs.YtfoadipocpopiaaGreat
