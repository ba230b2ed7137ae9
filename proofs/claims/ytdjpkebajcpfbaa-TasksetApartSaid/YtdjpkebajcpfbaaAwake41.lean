/- The walk over the law's awake of layer 41. Conditions: none. -/
import Derived.Test.YtdjpkebajcpfbaaTFits
import Derived.Test.YtdjpkebajcpfbaaTDem
import Derived.Test.YtdjpkebajcpfbaaTRel
import Derived.Test.YtdjpkebajcpfbaaInts41
namespace Go.Proofs.Ytdjpkebajcpfbaa
open Go.RowKit Go.Deep

def L0 : List TT := [⟨(ByteArray.mk #[]), 1, 2⟩, ⟨(ByteArray.mk #[]), 2, 3⟩]
def L1 : List TT := [⟨(ByteArray.mk #[]), 1, 4⟩]
theorem L0_hyp : hypR L0 = (6, 0) := by decide +kernel
theorem L0_load : loadR L0 = (7, 6, 0) := by decide +kernel
theorem L0_over : overR L0 1 = (6, 7, true) := by decide +kernel
theorem L0_fits2 : fitsB L0 2 = true := by decide +kernel
theorem L0_fits1 : fitsB L0 1 = false := by decide +kernel
theorem L1_relE : relE L1 [[0, 1, 9]] = 0 := by decide +kernel
theorem L1_rows : relRows L1 [[0, 1, 9]] 99 = [[0, 4, 9]] := by decide +kernel

theorem ts2_made (w : World) : TSAt (w.alloc (.cells #[.string (ByteArray.mk #[]), .int .i64 1, .int .i64 2, .string (ByteArray.mk #[]), .int .i64 2, .int .i64 3] 37)) (w.alloc (.cells #[.string (ByteArray.mk #[]), .int .i64 1, .int .i64 2, .string (ByteArray.mk #[]), .int .i64 2, .int .i64 3] 37)).heap.size (some ⟨w.heap.size, 0, none⟩) L0 := fun _ => by
  have hb := Go.Deep.blk_alloc_new w (.cells #[.string (ByteArray.mk #[]), .int .i64 1, .int .i64 2, .string (ByteArray.mk #[]), .int .i64 2, .int .i64 3] 37)
  refine ⟨w.heap.size, 0, rfl, by simp, fun i t hi => ?_⟩
  simp only [World.cell?, hb]
  match i, hi with
  | 0, hi => cases hi; exact ⟨rfl, rfl, rfl⟩
  | 1, hi => cases hi; exact ⟨rfl, rfl, rfl⟩
theorem ts1_made (w : World) : TSAt (w.alloc (.cells #[.string (ByteArray.mk #[]), .int .i64 1, .int .i64 4] 37)) (w.alloc (.cells #[.string (ByteArray.mk #[]), .int .i64 1, .int .i64 4] 37)).heap.size (some ⟨w.heap.size, 0, none⟩) L1 := fun _ => by
  have hb := Go.Deep.blk_alloc_new w (.cells #[.string (ByteArray.mk #[]), .int .i64 1, .int .i64 4] 37)
  refine ⟨w.heap.size, 0, rfl, by simp, fun i t hi => ?_⟩
  simp only [World.cell?, hb]
  match i, hi with
  | 0, hi => cases hi; exact ⟨rfl, rfl, rfl⟩
theorem ints3_made (w : World) (x y z : Int) : IntsAt (w.alloc (.cells #[.int .i64 x, .int .i64 y, .int .i64 z] 3)) (w.alloc (.cells #[.int .i64 x, .int .i64 y, .int .i64 z] 3)).heap.size (some ⟨w.heap.size, 0, none⟩) [x, y, z] := fun _ => by
  have hb := Go.Deep.blk_alloc_new w (.cells #[.int .i64 x, .int .i64 y, .int .i64 z] 3)
  refine ⟨w.heap.size, 0, rfl, by simp, fun i t hi => ?_⟩
  simp only [World.cell?, hb]
  match i, hi with
  | 0, hi => cases hi; rfl
  | 1, hi => cases hi; rfl
  | 2, hi => cases hi; rfl
theorem rows1_made (w : World) (a : Option Addr) (r : List Int) (c : Nat) (hc : r.length ≤ c) (hcm : c ≤ 9223372036854775807) (h : IntsAt w w.heap.size a r) : RowsAt (w.alloc (.cells #[.slice a r.length c] 41)) (w.alloc (.cells #[.slice a r.length c] 41)).heap.size (some ⟨w.heap.size, 0, none⟩) [r] := fun _ => by
  have hb := Go.Deep.blk_alloc_new w (.cells #[.slice a r.length c] 41)
  refine ⟨w.heap.size, 0, rfl, by simp, fun i t hi => ?_⟩
  match i, hi with
  | 0, hi =>
    cases hi
    exact ⟨a, c, by simp only [World.cell?, hb]; rfl, hc, hcm, h.on ((Below.refl _ _).alloc (Nat.le_refl _) _) (by simp)⟩

set_option maxRecDepth 100000 in
set_option maxHeartbeats 6400000 in
theorem awake_any (w : World) : Calls Try.prog 12 #[] w fun e w' => e = .returned (.bool true) ∧ Below w.heap.size w w' := by
  have b1 := (Below.refl w.heap.size w).alloc (Nat.le_refl _) (.cells #[.string (ByteArray.mk #[]), .int .i64 1, .int .i64 2, .string (ByteArray.mk #[]), .int .i64 2, .int .i64 3] 37)
  have t1 := ts2_made w
  have HH := fun a cap W (h : TSAt W W.heap.size a L0) => hyper_any L0 a cap W (by decide) h
  have HL := fun a cap W (h : TSAt W W.heap.size a L0) => load_any L0 a cap W (by decide) h
  have HO := fun a cap W (h : TSAt W W.heap.size a L0) => overload_any L0 1 a cap W (by decide) (by decide) h
  have HF2 := fun a cap W (h : TSAt W W.heap.size a L0) => fits_any L0 2 a cap W (by decide) (by decide) h
  have HF1 := fun a cap W (h : TSAt W W.heap.size a L0) => fits_any L0 1 a cap W (by decide) (by decide) h
  rw [L0_hyp] at HH
  rw [L0_load] at HL
  rw [L0_over] at HO
  rw [L0_fits2] at HF2
  rw [L0_fits1] at HF1
  go_enter Try.func12, Try.ntmps12
  go_upto_region 2 with fail
  generalize w.alloc _ = w1 at *
  go_wp2_with fail
  refine (HH _ _ _ t1).mono ?_
  rintro e w2 ⟨rfl, hb2⟩
  have t2 := t1.on hb2 hb2.size
  have b2 := b1.trans (hb2.mono b1.size)
  simp only []
  go_wp2_with fail
  refine (HL _ _ _ t2).mono ?_
  rintro e w3 ⟨rfl, hb3⟩
  have t3 := t2.on hb3 hb3.size
  have b3 := b2.trans (hb3.mono b2.size)
  simp only []
  go_wp2_with fail
  refine (HO _ _ _ t3).mono ?_
  rintro e w4 ⟨rfl, hb4⟩
  have t4 := t3.on hb4 hb4.size
  have b4 := b3.trans (hb4.mono b3.size)
  clear hb2 hb3 hb4 t1 t2 t3 b1 b2 b3
  simp only []
  go_wp2_with fail
  have u1 := ts1_made w4
  have v1 := ints3_made (w4.alloc (.cells #[.string (ByteArray.mk #[]), .int .i64 1, .int .i64 4] 37)) 0 1 9
  have v2 := rows1_made _ _ [0, 1, 9] 3 (by decide) (by decide) v1
  rw [show (w4.alloc (.cells #[.string (ByteArray.mk #[]), .int .i64 1, .int .i64 4] 37)).heap.size = w4.heap.size + 1 by simp] at v2
  rw [show ((w4.alloc (.cells #[.string (ByteArray.mk #[]), .int .i64 1, .int .i64 4] 37)).alloc (.cells #[.int .i64 0, .int .i64 1, .int .i64 9] 3)).heap.size = w4.heap.size + 1 + 1 by simp] at v2
  have ba := (Below.refl _ (w4.alloc (.cells #[.string (ByteArray.mk #[]), .int .i64 1, .int .i64 4] 37))).alloc (Nat.le_refl _) (.cells #[.int .i64 0, .int .i64 1, .int .i64 9] 3)
  have bb := (Below.refl _ ((w4.alloc (.cells #[.string (ByteArray.mk #[]), .int .i64 1, .int .i64 4] 37)).alloc (.cells #[.int .i64 0, .int .i64 1, .int .i64 9] 3))).alloc (Nat.le_refl _) (.cells #[.slice (some ⟨w4.heap.size + 1, 0, none⟩) 3 3] 41)
  have u2 := (u1.on ba ba.size).on bb bb.size
  have b0 := (((Below.refl w4.heap.size w4).alloc (Nat.le_refl _) (.cells #[.string (ByteArray.mk #[]), .int .i64 1, .int .i64 4] 37)).alloc (by simp) (.cells #[.int .i64 0, .int .i64 1, .int .i64 9] 3)).alloc (by simp; omega) (.cells #[.slice (some ⟨w4.heap.size + 1, 0, none⟩) 3 3] 41)
  have t5 := t4.on b0 b0.size
  have b5 := b4.trans (b0.mono b4.size)
  clear u1 v1 ba bb b0 t4 b4
  simp only [List.length_cons, List.length_nil] at v2
  generalize ((w4.alloc _).alloc _).alloc _ = w5 at *
  have HRL := treleases_any L1 (some ⟨w4.heap.size, 0, none⟩) 1 [[0, 1, 9]] (some ⟨w4.heap.size + 1 + 1, 0, none⟩) 1 99 w5 (by decide) (by decide) (by decide) (fun r hr => by
    simp only [List.mem_cons, List.not_mem_nil, or_false] at hr
    subst hr
    exact ⟨fun x hx => by simp only [List.mem_cons, List.not_mem_nil, or_false] at hx; omega, by decide, fun x hx => by simp only [List.mem_cons, List.not_mem_nil, or_false] at hx; omega⟩) u2 v2
  refine HRL.mono ?_
  rintro e w6 ⟨ra, m, rc, rfl, h1, _, hb6⟩
  obtain ⟨hma, hm1, hm2, hrows⟩ := h1 L1_relE
  have hm0 : m = 1 := hma
  clear hma hm1
  subst hm0
  rw [L1_rows] at hrows
  obtain ⟨rb, ro, rfl, hrb, hrc⟩ := hrows (by decide)
  obtain ⟨qa, qc, x0, x1, x2, x3⟩ := hrc 0 _ rfl
  rw [Nat.add_zero] at x0
  have t6 := t5.on hb6 hb6.size
  have b6 := b5.trans (hb6.mono b5.size)
  rw [L1_relE]
  clear HRL u2 v2 h1 hrows hrc t5 b5 hb6 HH HL HO
  simp only []
  go_wp2_with fail
  refine (HF2 _ _ _ t6).mono ?_
  rintro e w7 ⟨rfl, hb7⟩
  have t7 := t6.on hb7 hb7.size
  have b7 := b6.trans (hb7.mono b6.size)
  have x0 := keep_cellN hb7 hrb x0
  have x3 := x3.on hb7 hb7.size
  have hrb7 : rb < w7.heap.size := by have := hb7.size; omega
  simp only []
  go_wp2_with fail
  refine (HF1 _ _ _ t7).mono ?_
  rintro e w8 ⟨rfl, hb8⟩
  have b8 := b7.trans (hb8.mono b7.size)
  have x0 := keep_cellN hb8 hrb7 x0
  have x3 := x3.on hb8 hb8.size
  have hrb8 : rb < w8.heap.size := by have := hb8.size; omega
  clear hb7 hb8 t6 t7 b6 b7 HF1 HF2
  simp only []
  go_wp2_with fail
  have y3 := ints3_made w8 0 4 9
  have bz := (Below.refl w8.heap.size w8).alloc (Nat.le_refl _) (.cells #[.int .i64 0, .int .i64 4, .int .i64 9] 3)
  have HI := ints_any [0, 4, 9] [0, 4, 9] qa (some ⟨w8.heap.size, 0, none⟩) qc 3 _ (by decide) (by decide) (x3.on bz bz.size) y3
  have b9 := b8.trans (bz.mono b8.size)
  refine HI.mono ?_
  rintro e w9 ⟨rfl, hb9⟩
  have b10 := b9.trans (hb9.mono b9.size)
  clear HI bz b8 b9 hb9 x3 y3
  simp only [decide_true]
  go_wp2_with fail
  go_ret
  exact ⟨rfl, b10⟩
end Go.Proofs.Ytdjpkebajcpfbaa
