/- The walk over ontimetop's awakeSlots. Conditions: none. -/
import Derived.Test.YtfoadipocpopiaaGreatSlSim
namespace Go.Proofs.YtfoadipocpopiaaGreat
open Go.RowKit Go.Deep
/-- The number of misses, computed. -/
def simT (l : List TT) (cores : Nat) (rs : List (List Int)) (U : Nat) : Nat :=
  (simL l.length cores (tc l) (tp l) (rwAt rs) U).2 + missN l.length (tc l) (tp l) U (nthJ (simL l.length cores (tc l) (tp l) (rwAt rs) U).1)
theorem ReachS.simT {l : List TT} {cores U m : Nat} {rs : List (List Int)} {js : Nat → JS} (h : ReachS l.length cores (tc l) (tp l) (rwAt rs) U js m) : m + missN l.length (tc l) (tp l) U js = Go.Proofs.YtfoadipocpopiaaGreat.simT l cores rs U := by
  obtain ⟨h1, h2⟩ := h.sim
  unfold Go.Proofs.YtfoadipocpopiaaGreat.simT
  rw [h1, missN_congr h2]
def tk1 : TT := ⟨ByteArray.mk #[], 1, 1⟩
theorem sim2 : simT [tk1, tk1] 2 [[0, 1], [0]] 4 = 0 := by decide +kernel
theorem sim3 : simT [tk1, tk1, tk1] 2 [[0], [0], [0]] 4 = 1 := by decide +kernel
theorem awk_ts {w : World} {g n : Nat} {l : List TT} {t : TypeId} (hl : ∀ x ∈ l, x = tk1) (hb : w.heap[g]? = some (.cells ((List.replicate n [Value.string (ByteArray.mk #[]), .int .i64 1, .int .i64 1]).flatten).toArray t (0, 0))) (hn : l.length = n) : TSAt w w.heap.size (some ⟨g, 0, none⟩) l := fun _ =>
  ⟨g, 0, rfl, (Array.getElem?_eq_some_iff.1 hb).1, fun i x hx => by
    have e := hl x (List.mem_of_getElem? hx)
    have hi : i < n := by rw [← hn]; exact (List.getElem?_eq_some_iff.1 hx).1
    subst e
    have f : ∀ j, j < 3 → ((List.replicate n [Value.string (ByteArray.mk #[]), .int .i64 1, .int .i64 1]).flatten)[i * 3 + j]? = [Value.string (ByteArray.mk #[]), .int .i64 1, .int .i64 1][j]? := fun j hj => by
      have := flat_get (enc := fun _ : Unit => [Value.string (ByteArray.mk #[]), Value.int .i64 1, Value.int .i64 1]) (fun _ => rfl) (l := List.replicate n ()) (i := i) (j := j) (a := ()) (by simp [hi]) hj
      simpa [List.flatMap] using this
    have f0 := f 0 (by decide)
    have f1 := f 1 (by decide)
    have f2 := f 2 (by decide)
    rw [Nat.add_zero] at f0
    simp only [Nat.zero_add]
    refine ⟨?_, ?_, ?_⟩
    · simp [World.cell?, hb, f0]; rfl
    · simp [World.cell?, hb, f1]; rfl
    · simp [World.cell?, hb, f2]; rfl⟩

theorem awI {w : World} {N g : Nat} {xs : List Int} {t : TypeId} (h : w.heap[g]? = some (.cells (xs.map (Value.int .i64)).toArray t (0, 0))) (hg : g < N) : IntsAt w N (some ⟨g, 0, none⟩) xs := fun _ =>
  ⟨g, 0, rfl, hg, fun i x hi => by
    rw [Nat.zero_add]
    simp [World.cell?, h, hi]⟩
theorem awR {w : World} {N g : Nat} {rs : List (List Int)} {t : TypeId} {vs : List Value} (h : w.heap[g]? = some (.cells vs.toArray t (0, 0))) (hg : g < N)
    (hr : ∀ (i : Nat) (r : List Int), rs[i]? = some r → ∃ (ra : Option Addr) (rc : Nat), vs[i]? = some (Value.slice ra r.length rc) ∧ r.length ≤ rc ∧ rc ≤ 9223372036854775807 ∧ IntsAt w N ra r) : RowsAt w N (some ⟨g, 0, none⟩) rs := fun _ =>
  ⟨g, 0, rfl, hg, fun i r hi => by
    obtain ⟨ra, rc, e, h1⟩ := hr i r hi
    refine ⟨ra, rc, ?_, h1⟩
    rw [Nat.zero_add]
    simp [World.cell?, h, e]⟩
def litA (w : World) : World := (((((w.alloc (.cells #[.string (ByteArray.mk #[]), .int .i64 1, .int .i64 1] 41)).alloc (.cells #[.string (ByteArray.mk #[]), .int .i64 1, .int .i64 1, .string (ByteArray.mk #[]), .int .i64 1, .int .i64 1] 41)).alloc (.cells #[.int .i64 0, .int .i64 1] 3)).alloc (.cells #[.int .i64 0] 3)).alloc (.cells #[.slice (some ⟨w.heap.size + 1 + 1, 0, none⟩) 2 2, .slice (some ⟨w.heap.size + 1 + 1 + 1, 0, none⟩) 1 1] 42))
def litB (w : World) : World := (((((w.alloc (.cells #[.string (ByteArray.mk #[]), .int .i64 1, .int .i64 1, .string (ByteArray.mk #[]), .int .i64 1, .int .i64 1, .string (ByteArray.mk #[]), .int .i64 1, .int .i64 1] 41)).alloc (.cells #[.int .i64 0] 3)).alloc (.cells #[.int .i64 0] 3)).alloc (.cells #[.int .i64 0] 3)).alloc (.cells #[.slice (some ⟨w.heap.size + 1, 0, none⟩) 1 1, .slice (some ⟨w.heap.size + 1 + 1, 0, none⟩) 1 1, .slice (some ⟨w.heap.size + 1 + 1 + 1, 0, none⟩) 1 1] 42))
theorem litA_below (w : World) : Below w.heap.size w (litA w) := ((((((Below.refl _ _).alloc (Nat.le_refl _) _).alloc (by simp) _).alloc (by simp <;> omega) _).alloc (by simp <;> omega) _).alloc (by simp <;> omega) _)
theorem litB_below (w : World) : Below w.heap.size w (litB w) := ((((((Below.refl _ _).alloc (Nat.le_refl _) _).alloc (by simp) _).alloc (by simp <;> omega) _).alloc (by simp <;> omega) _).alloc (by simp <;> omega) _)
theorem litA_size (w : World) : (litA w).heap.size = w.heap.size + 1 + 1 + 1 + 1 + 1 := by simp [litA]
theorem litB_size (w : World) : (litB w).heap.size = w.heap.size + 1 + 1 + 1 + 1 + 1 := by simp [litB]
theorem litA_one (w : World) : (litA w).heap[w.heap.size]? = some (.cells #[.string (ByteArray.mk #[]), .int .i64 1, .int .i64 1] 41 (0, 0)) := by
  unfold litA; exact blkU (by simp <;> omega) (blkU (by simp <;> omega) (blkU (by simp <;> omega) (blkU (by simp <;> omega) (blkA rfl))))
theorem litA_ts (w : World) : TSAt (litA w) (litA w).heap.size (some ⟨w.heap.size + 1, 0, none⟩) [tk1, tk1] :=
  awk_ts (n := 2) (t := 41) (fun x hx => by simpa using hx) (by unfold litA; exact blkU (by simp <;> omega) (blkU (by simp <;> omega) (blkU (by simp <;> omega) (blkA (by simp))))) rfl
theorem litB_ts (w : World) : TSAt (litB w) (litB w).heap.size (some ⟨w.heap.size, 0, none⟩) [tk1, tk1, tk1] :=
  awk_ts (n := 3) (t := 41) (fun x hx => by simpa using hx) (by unfold litB; exact blkU (by simp <;> omega) (blkU (by simp <;> omega) (blkU (by simp <;> omega) (blkU (by simp <;> omega) (blkA rfl))))) rfl
theorem litA_rows (w : World) : RowsAt (litA w) (litA w).heap.size (some ⟨w.heap.size + 1 + 1 + 1 + 1, 0, none⟩) [[0, 1], [0]] := by
  have s := litA_size w
  refine awR (vs := [.slice (some ⟨w.heap.size + 1 + 1, 0, none⟩) 2 2, .slice (some ⟨w.heap.size + 1 + 1 + 1, 0, none⟩) 1 1]) (t := 42) (by unfold litA; exact blkA (by simp)) (by omega) (fun i r hi => ?_)
  match i, hi with
  | 0, hi =>
    obtain rfl : _ = r := by simpa using hi
    exact ⟨_, _, rfl, by simp, by omega, awI (xs := [0, 1]) (t := 3) (by unfold litA; exact blkU (by simp <;> omega) (blkU (by simp <;> omega) (blkA (by simp)))) (by omega)⟩
  | 1, hi =>
    obtain rfl : _ = r := by simpa using hi
    exact ⟨_, _, rfl, by simp, by omega, awI (xs := [0]) (t := 3) (by unfold litA; exact blkU (by simp <;> omega) (blkA (by simp))) (by omega)⟩
  | n + 2, hi => simp at hi
theorem litB_rows (w : World) : RowsAt (litB w) (litB w).heap.size (some ⟨w.heap.size + 1 + 1 + 1 + 1, 0, none⟩) [[0], [0], [0]] := by
  have s := litB_size w
  refine awR (vs := [.slice (some ⟨w.heap.size + 1, 0, none⟩) 1 1, .slice (some ⟨w.heap.size + 1 + 1, 0, none⟩) 1 1, .slice (some ⟨w.heap.size + 1 + 1 + 1, 0, none⟩) 1 1]) (t := 42) (by unfold litB; exact blkA (by simp)) (by omega) (fun i r hi => ?_)
  match i, hi with
  | 0, hi =>
    obtain rfl : _ = r := by simpa using hi
    exact ⟨_, _, rfl, by simp, by omega, awI (xs := [0]) (t := 3) (by unfold litB; exact blkU (by simp <;> omega) (blkU (by simp <;> omega) (blkU (by simp <;> omega) (blkA (by simp))))) (by omega)⟩
  | 1, hi =>
    obtain rfl : _ = r := by simpa using hi
    exact ⟨_, _, rfl, by simp, by omega, awI (xs := [0]) (t := 3) (by unfold litB; exact blkU (by simp <;> omega) (blkU (by simp <;> omega) (blkA (by simp)))) (by omega)⟩
  | 2, hi =>
    obtain rfl : _ = r := by simpa using hi
    exact ⟨_, _, rfl, by simp, by omega, awI (xs := [0]) (t := 3) (by unfold litB; exact blkU (by simp <;> omega) (blkA (by simp))) (by omega)⟩
  | n + 3, hi => simp at hi
theorem sp_of {p : Nat} {r : List Int} (h : (decide (r.length ≤ 1000) && ((List.range r.length).all fun k => decide (0 ≤ r.getD k 0 ∧ r.getD k 0 ≤ 100000)) && (List.range r.length).all fun k => decide (k + 1 < r.length → (p : Int) ≤ r.getD (k + 1) 0 - r.getD k 0)) = true) : SpOK p r := by
  simp only [Bool.and_eq_true, decide_eq_true_eq, List.all_eq_true, List.mem_range] at h
  obtain ⟨⟨h1, h2⟩, h3⟩ := h
  exact ⟨h1, h2, fun k hk => h3 k (by omega) hk⟩
theorem spA (i : Nat) (hi : i < [[0, 1], ([0] : List Int)].length) : SpOK (tp [tk1, tk1] i) (rwAt [[0, 1], [0]] i) := by
  match i, hi with
  | 0, _ => exact sp_of (by decide +kernel)
  | 1, _ => exact sp_of (by decide +kernel)
theorem spB (i : Nat) (hi : i < [[0], [0], ([0] : List Int)].length) : SpOK (tp [tk1, tk1, tk1] i) (rwAt [[0], [0], [0]] i) := by
  match i, hi with
  | 0, _ => exact sp_of (by decide +kernel)
  | 1, _ => exact sp_of (by decide +kernel)
  | 2, _ => exact sp_of (by decide +kernel)

set_option maxRecDepth 100000 in
set_option maxHeartbeats 3200000 in
theorem awakeSlots_any (w : World) : Calls Tryz.prog 4 #[] w fun e w' => e = .returned (.bool true) ∧ Below w.heap.size w w' := by
  go_enter Tryz.func4, Tryz.ntmps4
  go_wp2_with fail
  have hch : (((((w.alloc (.cells #[.string (ByteArray.mk #[]), .int .i64 1, .int .i64 1] 41)).alloc (.cells #[.string (ByteArray.mk #[]), .int .i64 1, .int .i64 1, .string (ByteArray.mk #[]), .int .i64 1, .int .i64 1] 41)).alloc (.cells #[.int .i64 0, .int .i64 1] 3)).alloc (.cells #[.int .i64 0] 3)).alloc (.cells #[.slice (some ⟨w.heap.size + 1 + 1, 0, none⟩) 2 2, .slice (some ⟨w.heap.size + 1 + 1 + 1, 0, none⟩) 1 1] 42)) = litA w := rfl
  rw [hch]
  clear hch
  have b1 := litA_below w
  have s1 := b1.size
  have hlt1 : w.heap.size < (litA w).heap.size := by rw [litA_size]; omega
  have h1 := simulate_any [tk1, tk1] (some ⟨w.heap.size + 1, 0, none⟩) 2 [[0, 1], [0]] (some ⟨w.heap.size + 1 + 1 + 1 + 1, 0, none⟩) 2 2 4 (litA w) (by decide +kernel) (by decide) (by decide) (by decide) rfl spA (by decide) (litA_ts w) (litA_rows w)
  have one := litA_one w
  refine h1.mono ?_
  rintro e w2 ⟨hb2, js, m, sv, ma, mc, hR, rfl⟩
  rw [hR.simT, sim2]
  have one2 := (hb2.block _ hlt1).trans one
  have b2 := b1.trans (hb2.mono s1)
  have s2 := b2.size
  have c0 : w2.cell? ⟨w.heap.size, 0, none⟩ = some (.string (ByteArray.mk #[])) := by simp [World.cell?, one2]
  have c1 : w2.cell? ⟨w.heap.size, 1, none⟩ = some (.int .i64 1) := by simp [World.cell?, one2]
  have c2 : w2.cell? ⟨w.heap.size, 2, none⟩ = some (.int .i64 1) := by simp [World.cell?, one2]
  have hlt2 : w.heap.size < w2.heap.size := by have := hb2.size; omega
  clear h1 hR hb2 b1 s1 one one2 hlt1
  go_wp2_with fail
  have hch : (((((w2.alloc (.cells #[.string (ByteArray.mk #[]), .int .i64 1, .int .i64 1, .string (ByteArray.mk #[]), .int .i64 1, .int .i64 1, .string (ByteArray.mk #[]), .int .i64 1, .int .i64 1] 41)).alloc (.cells #[.int .i64 0] 3)).alloc (.cells #[.int .i64 0] 3)).alloc (.cells #[.int .i64 0] 3)).alloc (.cells #[.slice (some ⟨w2.heap.size + 1, 0, none⟩) 1 1, .slice (some ⟨w2.heap.size + 1 + 1, 0, none⟩) 1 1, .slice (some ⟨w2.heap.size + 1 + 1 + 1, 0, none⟩) 1 1] 42)) = litB w2 := rfl
  rw [hch]
  clear hch
  have h2 := simulate_any [tk1, tk1, tk1] (some ⟨w2.heap.size, 0, none⟩) 3 [[0], [0], [0]] (some ⟨w2.heap.size + 1 + 1 + 1 + 1, 0, none⟩) 3 2 4 (litB w2) (by decide +kernel) (by decide) (by decide) (by decide) rfl spB (by decide) (litB_ts w2) (litB_rows w2)
  refine h2.mono ?_
  rintro e w3 ⟨hb3, js3, m3, sv3, ma3, mc3, hR3, rfl⟩
  rw [hR3.simT, sim3]
  have b3 := b2.trans ((litB_below w2).mono s2)
  have b4 := b3.trans (hb3.mono b3.size)
  clear h2 hR3 hb3 b3 b2 s2 c0 c1 c2 hlt2
  go_wp2_with fail
  go_ret
  exact ⟨rfl, b4⟩
end Go.Proofs.YtfoadipocpopiaaGreat
