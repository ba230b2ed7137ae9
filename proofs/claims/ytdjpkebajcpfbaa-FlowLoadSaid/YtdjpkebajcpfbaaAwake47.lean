/- The walk over 47's awake. Conditions: none. -/
import Derived.Test.YtdjpkebajcpfbaaWitness
namespace Go.Proofs.Ytdjpkebajcpfbaa
open Go.RowKit Go.Deep

theorem ints_of_blk {w : World} {N g : Nat} {xs : List Int} {t : TypeId} (h : w.heap[g]? = some (.cells (xs.map (Value.int .i64)).toArray t (0, 0))) (hg : g < N) : IntsAt w N (some ⟨g, 0, none⟩) xs := fun _ =>
  ⟨g, 0, rfl, hg, fun i x hi => by
    rw [Nat.zero_add]
    simp [World.cell?, h, hi]⟩
theorem rows_of_blk {w : World} {N g : Nat} {rs : List (List Int)} {t : TypeId} {vs : List Value} (h : w.heap[g]? = some (.cells vs.toArray t (0, 0))) (hg : g < N)
    (hr : ∀ (i : Nat) (r : List Int), rs[i]? = some r → ∃ (ra : Option Addr) (rc : Nat), vs[i]? = some (Value.slice ra r.length rc) ∧ r.length ≤ rc ∧ rc ≤ 9223372036854775807 ∧ IntsAt w N ra r) : RowsAt w N (some ⟨g, 0, none⟩) rs := fun _ =>
  ⟨g, 0, rfl, hg, fun i r hi => by
    obtain ⟨ra, rc, e, h1⟩ := hr i r hi
    refine ⟨ra, rc, ?_, h1⟩
    rw [Nat.zero_add]
    simp [World.cell?, h, e]⟩
def rs4 : List (List Int) := [[0, 3, 2, 0], [0, 0, 5, 2], [0, 0, 0, 4], [0, 0, 0, 0]]
def jobs3 (d : Int) : List FJ := [⟨0, d, 2⟩, ⟨0, d, 2⟩, ⟨0, d, 2⟩]
theorem max_rs4 {val : Int} {r : Nat → Nat → Int} (h : Sat 4 (capOf rs4) 0 3 val r) : val = 5 := by
  obtain ⟨⟨S, h1, h2, h3⟩, h4⟩ := h.cut (by decide) (by decide)
  have a := h4 (fun v => decide (v = 0)) rfl rfl
  have b : cutV 4 (capOf rs4) (fun v => decide (v = 0)) = 5 := by decide +kernel
  have c : 5 ≤ cutV 4 (capOf rs4) S := by
    have e : cutV 4 (capOf rs4) S = cutV 4 (capOf rs4) (fun v => if v = 0 then true else if v = 3 then false else if v = 1 then S 1 else S 2) := by
      refine sm_congr fun u hu => sm_congr fun v hv => ?_
      have f : ∀ x, x < 4 → S x = if x = 0 then true else if x = 3 then false else if x = 1 then S 1 else S 2 := fun x hx => by
        match x, hx with
        | 0, _ => exact h1
        | 1, _ => rfl
        | 2, _ => rfl
        | 3, _ => exact h2
      show (if S u = true ∧ S v = false then _ else _) = (if (if u = 0 then true else if u = 3 then false else if u = 1 then S 1 else S 2) = true ∧ (if v = 0 then true else if v = 3 then false else if v = 1 then S 1 else S 2) = false then _ else _)
      rw [← f u hu, ← f v hv]
    rw [e]
    generalize S 1 = x
    generalize S 2 = y
    cases x <;> cases y <;> decide +kernel
  omega
theorem can3 : Can (jobs3 3) 2 := by
  refine ⟨fun j s => decide (j ≠ 2 ∧ s = j ∨ j ≠ 2 ∧ s = j + 1 ∨ j = 2 ∧ s ≠ 1), fun j s hj hs h => ?_, ?_, ?_⟩
  · have : slotsN (jobs3 3) = 3 := by decide +kernel
    rw [this] at hs
    have hj : j < 3 := hj
    revert h
    match j, hj, s, hs with
    | 0, _, 0, _ => decide +kernel
    | 0, _, 1, _ => decide +kernel
    | 0, _, 2, _ => decide +kernel
    | 1, _, 0, _ => decide +kernel
    | 1, _, 1, _ => decide +kernel
    | 1, _, 2, _ => decide +kernel
    | 2, _, 0, _ => decide +kernel
    | 2, _, 1, _ => decide +kernel
    | 2, _, 2, _ => decide +kernel
  · decide +kernel
  · decide +kernel
theorem cannot2 : ¬ Can (jobs3 2) 2 := by
  rintro ⟨σ, h⟩
  have h1 := h.le_cut (fun v => decide (v ≠ 1 + (jobs3 2).length + slotsN (jobs3 2))) (by decide +kernel) (by decide +kernel)
  have h2 : cutV (netN (jobs3 2) (slotsN (jobs3 2))) (netF (jobs3 2) (slotsN (jobs3 2)) 2) (fun v => decide (v ≠ 1 + (jobs3 2).length + slotsN (jobs3 2))) = 4 := by decide +kernel
  have h3 : totalC (jobs3 2) = 6 := by decide +kernel
  omega

set_option maxRecDepth 100000 in
set_option maxHeartbeats 3200000 in
theorem jobs3_any (d : Int) (w : World) : Calls Try.prog 48 #[.int .i64 d] w fun e w' => ∃ a, e = .returned (.slice a 3 3) ∧ FJobsAt w' w'.heap.size a (jobs3 d) ∧ Below w.heap.size w w' := by
  go_enter Try.func48, Try.ntmps48
  go_wp2_with fail
  go_ret
  refine ⟨_, rfl, fun _ => ⟨_, 0, rfl, by simp, fun i j hj => ?_⟩, ((Below.refl _ _).alloc (Nat.le_refl _) _).alloc (by simp) _⟩
  match i, hj with
  | 0, hj =>
    obtain rfl : _ = j := by simpa [jobs3] using hj
    exact ⟨by simp [go_sem], by simp [go_sem], by simp [go_sem]⟩
  | 1, hj =>
    obtain rfl : _ = j := by simpa [jobs3] using hj
    exact ⟨by simp [go_sem], by simp [go_sem], by simp [go_sem]⟩
  | 2, hj =>
    obtain rfl : _ = j := by simpa [jobs3] using hj
    exact ⟨by simp [go_sem], by simp [go_sem], by simp [go_sem]⟩
  | n + 3, hj => simp [jobs3] at hj

def lit47 (w : World) : World := (((((w.alloc (.cells #[.int .i64 0, .int .i64 3, .int .i64 2, .int .i64 0] 3)).alloc (.cells #[.int .i64 0, .int .i64 0, .int .i64 5, .int .i64 2] 3)).alloc (.cells #[.int .i64 0, .int .i64 0, .int .i64 0, .int .i64 4] 3)).alloc (.cells #[.int .i64 0, .int .i64 0, .int .i64 0, .int .i64 0] 3)).alloc (.cells #[.slice (some ⟨w.heap.size, 0, none⟩) 4 4, .slice (some ⟨w.heap.size + 1, 0, none⟩) 4 4, .slice (some ⟨w.heap.size + 1 + 1, 0, none⟩) 4 4, .slice (some ⟨w.heap.size + 1 + 1 + 1, 0, none⟩) 4 4] 41))
theorem lit47_below (w : World) : Below w.heap.size w (lit47 w) := ((((((Below.refl _ _).alloc (Nat.le_refl _) _).alloc (by simp) _).alloc (by simp <;> omega) _).alloc (by simp <;> omega) _).alloc (by simp <;> omega) _)
theorem lit47_size (w : World) : (lit47 w).heap.size = w.heap.size + 1 + 1 + 1 + 1 + 1 := by simp [lit47]
theorem lit47_rows (w : World) : RowsAt (lit47 w) (lit47 w).heap.size (some ⟨w.heap.size + 1 + 1 + 1 + 1, 0, none⟩) rs4 := by
  have s := lit47_size w
  refine rows_of_blk (vs := [.slice (some ⟨w.heap.size, 0, none⟩) 4 4, .slice (some ⟨w.heap.size + 1, 0, none⟩) 4 4, .slice (some ⟨w.heap.size + 1 + 1, 0, none⟩) 4 4, .slice (some ⟨w.heap.size + 1 + 1 + 1, 0, none⟩) 4 4]) (by unfold lit47; exact blk_at (by simp)) (by omega) (fun i r hi => ?_)
  match i, hi with
  | 0, hi =>
    obtain rfl : _ = r := by simpa [rs4] using hi
    exact ⟨_, _, rfl, by simp, by omega, ints_of_blk (xs := [0, 3, 2, 0]) (t := 3) (by unfold lit47; exact blk_up (by simp <;> omega) (blk_up (by simp <;> omega) (blk_up (by simp <;> omega) (blk_up (by simp <;> omega) (blk_at (by simp)))))) (by omega)⟩
  | 1, hi =>
    obtain rfl : _ = r := by simpa [rs4] using hi
    exact ⟨_, _, rfl, by simp, by omega, ints_of_blk (xs := [0, 0, 5, 2]) (t := 3) (by unfold lit47; exact blk_up (by simp <;> omega) (blk_up (by simp <;> omega) (blk_up (by simp <;> omega) (blk_at (by simp))))) (by omega)⟩
  | 2, hi =>
    obtain rfl : _ = r := by simpa [rs4] using hi
    exact ⟨_, _, rfl, by simp, by omega, ints_of_blk (xs := [0, 0, 0, 4]) (t := 3) (by unfold lit47; exact blk_up (by simp <;> omega) (blk_up (by simp <;> omega) (blk_at (by simp)))) (by omega)⟩
  | 3, hi =>
    obtain rfl : _ = r := by simpa [rs4] using hi
    exact ⟨_, _, rfl, by simp, by omega, ints_of_blk (xs := [0, 0, 0, 0]) (t := 3) (by unfold lit47; exact blk_up (by simp <;> omega) (blk_at (by simp))) (by omega)⟩
  | n + 4, hi => simp [rs4] at hi
theorem jobsOK3 (d : Int) (h : d = 2 ∨ d = 3) : jobsOK (jobs3 d) 2 = true := by
  rcases h with rfl | rfl <;> decide +kernel

set_option maxRecDepth 100000 in
set_option maxHeartbeats 3200000 in
theorem awake47_any (w : World) : Calls Try.prog 33 #[] w fun e w' => e = .returned (.bool true) ∧ Below w.heap.size w w' := by
  go_enter Try.func33, Try.ntmps33
  go_wp2_with fail
  have hch : (((((w.alloc (.cells #[.int .i64 0, .int .i64 3, .int .i64 2, .int .i64 0] 3)).alloc (.cells #[.int .i64 0, .int .i64 0, .int .i64 5, .int .i64 2] 3)).alloc (.cells #[.int .i64 0, .int .i64 0, .int .i64 0, .int .i64 4] 3)).alloc (.cells #[.int .i64 0, .int .i64 0, .int .i64 0, .int .i64 0] 3)).alloc (.cells #[.slice (some ⟨w.heap.size, 0, none⟩) 4 4, .slice (some ⟨w.heap.size + 1, 0, none⟩) 4 4, .slice (some ⟨w.heap.size + 1 + 1, 0, none⟩) 4 4, .slice (some ⟨w.heap.size + 1 + 1 + 1, 0, none⟩) 4 4] 41)) = lit47 w := rfl
  rw [hch]
  clear hch
  have b1 := lit47_below w
  have s1 := b1.size
  refine (max_any rs4 (some ⟨w.heap.size + 1 + 1 + 1 + 1, 0, none⟩) 4 0 3 (lit47 w) (by decide) (lit47_rows w) (fun r hr => by
    simp only [rs4, List.mem_cons, List.not_mem_nil, or_false] at hr
    rcases hr with rfl | rfl | rfl | rfl <;> (intro x hx; simp at hx; omega))).mono ?_
  rintro e w2 ⟨hb2, ⟨h, _⟩ | ⟨_, h, _⟩ | ⟨_, s, t, hs, ht, _, _, _, val, r, O, rfl, hsat, _, _⟩⟩
  · exact absurd h (by decide +kernel)
  · exact absurd h (by decide)
  · obtain rfl : s = 0 := by omega
    obtain rfl : t = 3 := by omega
    obtain rfl := max_rs4 hsat
    have b2 := b1.trans (hb2.mono s1)
    have s2 := b2.size
    clear hsat hb2 b1 s1 hs ht
    go_wp2_with fail
    refine (jobs3_any 3 _).mono ?_
    rintro e w3 ⟨a3, rfl, hj3, hb3⟩
    have b3 := b2.trans (hb3.mono s2)
    have s3 := b3.size
    clear b2 hb3
    go_wp2_with fail
    refine (schedule_any (jobs3 3) a3 3 2 w3 (by decide) hj3).mono ?_
    rintro e w4 ⟨hb4, ⟨h, _⟩ | ⟨_, h, _⟩ | ⟨_, σ, G, _, rfl, _⟩⟩
    · rw [jobsOK3 3 (.inr rfl)] at h; cases h
    · exact absurd can3 h.1
    · have b4 := b3.trans (hb4.mono s3)
      have s4 := b4.size
      clear b3 hb4 hj3
      go_wp2_with fail
      refine (jobs3_any 2 _).mono ?_
      rintro e w5 ⟨a5, rfl, hj5, hb5⟩
      have b5 := b4.trans (hb5.mono s4)
      have s5 := b5.size
      clear b4 hb5
      go_wp2_with fail
      refine (schedule_any (jobs3 2) a5 3 2 w5 (by decide) hj5).mono ?_
      rintro e w6 ⟨hb6, ⟨h, _⟩ | ⟨_, _, rfl⟩ | ⟨_, σ, G, hs, _, _⟩⟩
      · rw [jobsOK3 2 (.inl rfl)] at h; cases h
      · have b6 := b5.trans (hb6.mono s5)
        have s6 := b6.size
        clear b5 hb6 hj5
        go_wp2_with fail
        refine (jobs3_any 2 _).mono ?_
        rintro e w7 ⟨a7, rfl, hj7, hb7⟩
        have b7 := b6.trans (hb7.mono s6)
        have s7 := b7.size
        clear b6 hb7
        go_wp2_with fail
        refine (witness_any (jobs3 2) a7 3 2 w7 (by decide) hj7).mono ?_
        rintro e w8 ⟨hb8, ⟨h, _⟩ | ⟨_, h, _⟩ | ⟨_, _, lv, r, val, z1, z2, y1, y2, rfl, _⟩⟩
        · rw [jobsOK3 2 (.inl rfl)] at h; cases h
        · exact absurd h cannot2
        · have b8 := b7.trans (hb8.mono s7)
          clear b7 hb8 hj7
          go_wp2_with fail
          go_ret
          exact ⟨rfl, b8⟩
      · exact absurd ⟨σ, hs⟩ cannot2
end Go.Proofs.Ytdjpkebajcpfbaa
