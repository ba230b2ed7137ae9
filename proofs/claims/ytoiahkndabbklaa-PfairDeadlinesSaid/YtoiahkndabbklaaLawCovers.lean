/- The walk over PfairCovers. Conditions: none. -/
import Derived.Test.YtoiahkndabbklaaLawWindow
import Derived.Test.YtoiahkndabbklaaPlain2
namespace Go.Proofs.Ytoiahkndabbklaa
open Go.RowKit

theorem World.cell?_alloc_2 (w : World) (x0 x1 x2 : Value) (t : TypeId) : (w.alloc (.cells #[x0, x1, x2] t)).cell? ⟨w.heap.size, 2, none⟩ = some x2 := by simp [go_sem]
theorem keep5a {B b1 : Nat} {w W W' : World} {x0 x1 x2 : Value} {o : Obj} (h : Below B w W ∧ b1 < W.heap.size ∧ W.cell? ⟨b1, 0, none⟩ = some x0 ∧ W.cell? ⟨b1, 1, none⟩ = some x1 ∧ W.cell? ⟨b1, 2, none⟩ = some x2) (hb : Below (W.alloc o).heap.size (W.alloc o) W') (hB : B ≤ b1 := by exact Nat.le_refl _) :
    Below B w W' ∧ b1 < W'.heap.size ∧ W'.cell? ⟨b1, 0, none⟩ = some x0 ∧ W'.cell? ⟨b1, 1, none⟩ = some x1 ∧ W'.cell? ⟨b1, 2, none⟩ = some x2 := by
  obtain ⟨g0, g1, g2, g3, g4⟩ := h
  refine keep5 ⟨g0.alloc (by omega) _, by simp; omega, ?_, ?_, ?_⟩ hb hB
  · rw [World.cell?_alloc_lt _ _ _ g1]; exact g2
  · rw [World.cell?_alloc_lt _ _ _ g1]; exact g3
  · rw [World.cell?_alloc_lt _ _ _ g1]; exact g4

set_option maxHeartbeats 1600000 in
theorem law_covers_idle (nm : ByteArray) (c p : Int) (w : World) (hq : 200 < p ∨ c < 1 ∨ p < c) :
    Calls Try.prog 4 #[.agg #[.string nm, .int .i64 c, .int .i64 p]] w fun e w' => e = .returned (.bool true) ∧ Below w.heap.size w w' := by
  go_enter Try.func4, Try.ntmps4
  go_wp2_with fail
  refine (awake_any _).mono ?_
  rintro e w1 ⟨rfl, hb1⟩
  obtain ⟨hc1, hf1⟩ := bcell hb1
  have b1 : Below w.heap.size w w1 := ((Below.refl _ _).alloc (Nat.le_refl _) _).trans (hb1.mono (by simp))
  by_cases h1 : 200 < p
  · go_wp2_with fail
    go_ret
    exact ⟨rfl, b1⟩
  · by_cases h2 : c < 1
    · go_wp2_with fail
      go_ret
      exact ⟨rfl, b1⟩
    · have h3 : p < c := by omega
      go_wp2_with fail
      go_ret
      exact ⟨rfl, b1⟩

set_option maxRecDepth 100000 in
set_option maxHeartbeats 6400000 in
theorem law_covers_ok (nm : ByteArray) (c p : Int) (w : World) (h1 : p ≤ 200) (h2 : 1 ≤ c) (h3 : c ≤ p) :
    Calls Try.prog 4 #[.agg #[.string nm, .int .i64 c, .int .i64 p]] w fun e w' => e = .returned (.bool true) ∧ Below w.heap.size w w' := by
  have hv : vtB c p = true := by simp [vtB]; omega
  have HV := Lib.hid hv
  clear hv
  go_enter Try.func4, Try.ntmps4
  go_wp2_with fail
  refine (awake_any _).mono ?_
  rintro e w1 ⟨rfl, hb1⟩
  obtain ⟨hc1, hf1⟩ := bcell hb1
  have hz1 : w.heap.size < w1.heap.size := by have := hb1.size; simp at this; omega
  have b1 : Below w.heap.size w w1 := ((Below.refl _ _).alloc (Nat.le_refl _) _).trans (hb1.mono (by simp))
  have a0 : w1.cell? ⟨w.heap.size, 0, none⟩ = some (.string nm) := by rw [hc1 _ _ (by simp)]; simp [go_sem]
  have a1 : w1.cell? ⟨w.heap.size, 1, none⟩ = some (.int .i64 c) := by rw [hc1 _ _ (by simp)]; simp [go_sem]
  have a2 : w1.cell? ⟨w.heap.size, 2, none⟩ = some (.int .i64 p) := by rw [hc1 _ _ (by simp)]; simp [go_sem]
  have K := Lib.hid (⟨b1, hz1, a0, a1, a2⟩ : Below w.heap.size w w1 ∧ w.heap.size < w1.heap.size ∧ w1.cell? ⟨w.heap.size, 0, none⟩ = some (.string nm) ∧ w1.cell? ⟨w.heap.size, 1, none⟩ = some (.int .i64 c) ∧ w1.cell? ⟨w.heap.size, 2, none⟩ = some (.int .i64 p))
  clear hc1 hf1 hb1 b1
  go_wp2_with fail
  clear a0 a1 a2
  go_loopw [3, 4] (fun u v wr => ∃ L i : Int, u = .int .i64 L ∧ v = .int .i64 i ∧ 1 ≤ i ∧ i ≤ c + 1 ∧ Hid (L = lastV c p (i - 1)) ∧
      Hid (Below w.heap.size w wr ∧ w.heap.size < wr.heap.size ∧ wr.cell? ⟨w.heap.size, 0, none⟩ = some (.string nm) ∧ wr.cell? ⟨w.heap.size, 1, none⟩ = some (.int .i64 c) ∧ wr.cell? ⟨w.heap.size, 2, none⟩ = some (.int .i64 p))) (fun _ v _ => (c + 1 - intOf v).toNat)
  case atStart => exact ⟨0, 1, rfl, rfl, by omega, by omega, by simp [Hid, lastV], K⟩
  case round =>
    clear K
    obtain ⟨L, i, rfl, rfl, i1, i2, hL, K⟩ := hrel
    obtain ⟨k0, k1, k2, k3, k4⟩ := K.out
    by_cases hic : i ≤ c
    · have HE := Lib.hid (wE_ok HV.out i1 hic)
      have HI := Lib.hid (show wI c p i = i by simp [wI, HE.out])
      have HR := Lib.hid ((wR_last HE.out).trans hL.out.symm)
      have HH := Lib.hid (fun hv => len_heavy HE.out hv)
      have HS := Lib.hid (show lastV c p i = wD c p i - (if ovB c p i then 1 else 0) by rw [lastV, if_neg (by omega)])
      have r1 := len_pos HE.out
      have r2 := wR_bd HE.out
      have r3 := wD_bd HE.out
      obtain ⟨r2a, r2b⟩ := r2
      obtain ⟨r3a, r3b⟩ := r3
      rw [HR.out] at r1 r2a r2b
      have H1 := Lib.hid (show i = 1 → L = 0 from fun e => by rw [hL.out, e]; simp [lastV])
      go_wp2_with fail
      refine (window_any nm c p i _).mono ?_
      rintro e w2 ⟨rfl, hb2⟩
      rw [HE.out, HI.out, HR.out]
      generalize wD c p i = D at *
      have q := keep5 K.out hb2
      have Q := Lib.hid q
      clear k0 k1 k2 k3 k4 hb2
      obtain ⟨k0, k1, k2, k3, k4⟩ := q
      have r4 : L < D := r1
      have hfin : ∀ (wr : World) (o : Bool) (Lx : Int), Lx = D - (if o then 1 else 0) → ovB c p i = o → (Below w.heap.size w wr ∧ w.heap.size < wr.heap.size ∧ wr.cell? ⟨w.heap.size, 0, none⟩ = some (.string nm) ∧ wr.cell? ⟨w.heap.size, 1, none⟩ = some (.int .i64 c) ∧ wr.cell? ⟨w.heap.size, 2, none⟩ = some (.int .i64 p)) →
          ∃ L' i' : Int, Value.int .i64 Lx = .int .i64 L' ∧ Value.int .i64 (i + 1) = .int .i64 i' ∧ 1 ≤ i' ∧ i' ≤ c + 1 ∧ Hid (L' = lastV c p (i' - 1)) ∧
            Hid (Below w.heap.size w wr ∧ w.heap.size < wr.heap.size ∧ wr.cell? ⟨w.heap.size, 0, none⟩ = some (.string nm) ∧ wr.cell? ⟨w.heap.size, 1, none⟩ = some (.int .i64 c) ∧ wr.cell? ⟨w.heap.size, 2, none⟩ = some (.int .i64 p)) := by
        intro wr o Lx hLx ho hk
        refine ⟨_, i + 1, rfl, rfl, by omega, by omega, ?_, hk⟩
        show _ = _
        rw [show i + 1 - 1 = i by omega, HS.out, ho, hLx]
      have HF := Lib.hid hfin
      clear hfin r1
      have hcut : ∀ b : Bool, (b = true → D = L + 2 ∨ D = L + 3) → hvB c p = b → (b = false ∨ (b = true ∧ (D - L != 2) = false) ∨ (b = true ∧ (D - L != 2) = true ∧ (D - L != 3) = false)) := by
        intro b hb he
        cases b
        · exact .inl rfl
        · rcases hb rfl with h | h
          · exact .inr (.inl ⟨rfl, by simp; omega⟩)
          · exact .inr (.inr ⟨rfl, by simp; omega, by simp; omega⟩)
      generalize hgv : hvB c p = bv at *
      have HV2 := Lib.hid hgv
      have hcs := hcut bv (fun e => by have := HH.out; rw [HR.out] at this; exact this e) rfl
      clear hcut hgv
      generalize hgo : ovB c p i = bo at *
      have HO := Lib.hid hgo
      clear hgo
      by_cases hi1 : i = 1
      · have L0 : (L != 0) = false := by simp [H1.out hi1]
        have i3 : i ≤ 1 := by omega
        have i4 : (i == 1) = true := by simp [hi1]
        clear hi1
        rcases hcs with rfl | ⟨rfl, n2⟩ | ⟨rfl, n2, n3⟩
        all_goals
          go_wp2_with fail
          refine (heavy_any nm c p _).mono ?_
          rintro e w3 ⟨rfl, hb3⟩
          rw [HV2.out]
          obtain ⟨hc3, hf3⟩ := bcell hb3
          have d2 := (hc3 w2.heap.size 2 (by simp)).trans (World.cell?_alloc_2 w2 _ _ _ _)
          have hz3 : w2.heap.size < w3.heap.size := by have := hb3.size; simp at this; omega
          have q3 := keep5a Q.out hb3
          have Q3 := Lib.hid q3
          clear k0 k1 k2 k3 k4 hb3 hc3 hf3
          obtain ⟨k0, k1, k2, k3, k4⟩ := q3
          go_wp2_with fail
          refine (overlaps_any nm c p i _).mono ?_
          rintro e w4 ⟨rfl, hb4⟩
          rw [HO.out]
          have q4 := keep5 Q3.out hb4
          cases bo
          · go_wp2_with fail
            go_roundw
            case rel => exact HF.out _ false D (by simp) rfl q4
            case measure => simp [intOf]; omega
          · go_wp2_with fail
            go_roundw
            case rel => exact HF.out _ true (D - 1) (by simp) rfl q4
            case measure => simp [intOf]; omega
      · have LL : (L != L) = false := by simp
        have i3 : 1 < i := by omega
        have i4 : (i == 1) = false := by simp [hi1]
        clear hi1
        rcases hcs with rfl | ⟨rfl, n2⟩ | ⟨rfl, n2, n3⟩
        all_goals
          go_wp2_with fail
          refine (heavy_any nm c p _).mono ?_
          rintro e w3 ⟨rfl, hb3⟩
          rw [HV2.out]
          obtain ⟨hc3, hf3⟩ := bcell hb3
          have d2 := (hc3 w2.heap.size 2 (by simp)).trans (World.cell?_alloc_2 w2 _ _ _ _)
          have hz3 : w2.heap.size < w3.heap.size := by have := hb3.size; simp at this; omega
          have q3 := keep5a Q.out hb3
          have Q3 := Lib.hid q3
          clear k0 k1 k2 k3 k4 hb3 hc3 hf3
          obtain ⟨k0, k1, k2, k3, k4⟩ := q3
          go_wp2_with fail
          refine (overlaps_any nm c p i _).mono ?_
          rintro e w4 ⟨rfl, hb4⟩
          rw [HO.out]
          have q4 := keep5 Q3.out hb4
          cases bo
          · go_wp2_with fail
            go_roundw
            case rel => exact HF.out _ false D (by simp) rfl q4
            case measure => simp [intOf]; omega
          · go_wp2_with fail
            go_roundw
            case rel => exact HF.out _ true (D - 1) (by simp) rfl q4
            case measure => simp [intOf]; omega
    · have hi : i = c + 1 := by omega
      have hp : (L == p) = true := by
        rw [hL.out, hi, show c + 1 - 1 = c by omega, last_end (wE_ok HV.out h2 (Int.le_refl _))]; simp
      clear hi
      go_wp2_with fail
      go_ret
      exact ⟨rfl, k0⟩

theorem law_covers (nm : ByteArray) (c p : Int) (w : World) :
    Calls Try.prog 4 #[.agg #[.string nm, .int .i64 c, .int .i64 p]] w fun e w' => e = .returned (.bool true) ∧ Below w.heap.size w w' := by
  by_cases h : 200 < p ∨ c < 1 ∨ p < c
  · exact law_covers_idle nm c p w h
  · exact law_covers_ok nm c p w (by omega) (by omega) (by omega)
end Go.Proofs.Ytoiahkndabbklaa
