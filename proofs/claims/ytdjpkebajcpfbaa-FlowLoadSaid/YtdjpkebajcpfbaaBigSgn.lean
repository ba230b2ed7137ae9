/- The walks over bigint.Of and bigint.Int's Sign. Conditions: the integer lies in memory. -/
import Derived.Test.YtdjpkebajcpfbaaBigOps
namespace Go.Proofs.Ytdjpkebajcpfbaa
open Go.RowKit Go.Deep

def sg (z : Int) : Int := if z < 0 then -1 else if z = 0 then 0 else 1
theorem sg_neg {z : Int} (h : z < 0) : sg z = -1 := if_pos h
theorem sg_zero : sg 0 = 0 := rfl
theorem sg_pos {z : Int} (h : 0 < z) : sg z = 1 := by unfold sg; rw [if_neg (by omega), if_neg (by omega)]

set_option maxRecDepth 100000 in
set_option maxHeartbeats 6400000 in
theorem sign_any (x : Value) (a : Int) (K : Nat) (w w0 : World) (hK : K ≤ 10000) (hx : IntV w0 w0.heap.size x a K) :
    Calls Try.prog 46 #[x] w fun e w' => e = .returned (.int .i64 (sg a)) ∧ Below w.heap.size w w' := by
  obtain ⟨xg, xa, xn, xc, f, rfl, hx1, hx2, hx3, hx4, hx5, rfl, hx7⟩ := hx
  have b1 := (Below.refl w.heap.size w).alloc (Nat.le_refl _) (.cells #[.bool xg, .slice xa xn xc] 54)
  have hnI : (xn : Int) ≤ 10000 := by omega
  by_cases h0 : xn = 0
  · subst h0
    have hg : xg = false := by
      cases xg with
      | false => rfl
      | true => exact absurd (hx7 rfl) (Nat.lt_irrefl 0)
    subst hg
    go_enter Try.func46, Try.ntmps46
    go_wp2_with fail
    go_ret
    exact ⟨rfl, b1⟩
  · have h0I : ¬ (xn : Int) = 0 := by omega
    have hp := vl_pos hx2 (by omega)
    have h0b : ((xn : Int) == 0) = false := beq_eq_false_iff_ne.2 h0I
    cases xg with
    | false =>
      have hs := Lib.hid (sg_pos (z := sgn false (vl f xn)) (by simp [sgn]; exact hp))
      go_enter Try.func46, Try.ntmps46
      go_wp2_with fail
      go_ret
      exact ⟨ret_int hs.out.symm, b1⟩
    | true =>
      have hs := Lib.hid (sg_neg (z := sgn true (vl f xn)) (by simp [sgn]; exact hp))
      go_enter Try.func46, Try.ntmps46
      go_wp2_with fail
      go_ret
      exact ⟨ret_int hs.out.symm, b1⟩

def dig2 (A : Nat) : Nat → Nat := fun i => if i = 0 then A % BB else A / BB
theorem dig2_val (A : Nat) : vl (dig2 A) 2 = A := by
  have := carry_split A
  simp [vl, dig2]
  rw [Nat.mul_comm (A / BB)]
  omega
theorem dig2_dg {A : Nat} (h : A < 18446744073709551616) : Dg (dig2 A) 2 := fun i _ => by
  have hB : BB = 4294967296 := rfl
  unfold dig2
  rw [hB]
  split <;> omega

theorem of_mem (w : World) (A : Nat) (hA : A < 18446744073709551616) :
    DAt ((w.alloc (.cells #[.bool false, .slice none 0 0] 54)).alloc (.cells #[.int .u32 ((A : Int) % 4294967296), .int .u32 ((A : Int) / 4294967296)] 77)) ((w.alloc (.cells #[.bool false, .slice none 0 0] 54)).alloc (.cells #[.int .u32 ((A : Int) % 4294967296), .int .u32 ((A : Int) / 4294967296)] 77)).heap.size (some ⟨w.heap.size + 1, 0, none⟩) 2 (dig2 A) ∧
    ((w.alloc (.cells #[.bool false, .slice none 0 0] 54)).alloc (.cells #[.int .u32 ((A : Int) % 4294967296), .int .u32 ((A : Int) / 4294967296)] 77)).heap[w.heap.size]? = some (.cells #[.bool false, .slice none 0 0] 54 (0, 0)) ∧
    Below w.heap.size w ((w.alloc (.cells #[.bool false, .slice none 0 0] 54)).alloc (.cells #[.int .u32 ((A : Int) % 4294967296), .int .u32 ((A : Int) / 4294967296)] 77)) ∧ w.heap.size + 1 < ((w.alloc (.cells #[.bool false, .slice none 0 0] 54)).alloc (.cells #[.int .u32 ((A : Int) % 4294967296), .int .u32 ((A : Int) / 4294967296)] 77)).heap.size := by
  have hB : BB = 4294967296 := rfl
  refine ⟨fun _ => ⟨w.heap.size + 1, 0, rfl, by simp, fun i hi => ?_⟩, ?_, ((Below.refl w.heap.size w).alloc (Nat.le_refl _) _).alloc (by simp) _, by simp⟩
  · have h := Go.Deep.blk_alloc_new (w.alloc (.cells #[.bool false, .slice none 0 0] 54)) (.cells #[.int .u32 ((A : Int) % 4294967296), .int .u32 ((A : Int) / 4294967296)] 77)
    rw [show (w.alloc (.cells #[.bool false, .slice none 0 0] 54)).heap.size = w.heap.size + 1 by simp] at h
    simp only [World.cell?, h, Nat.zero_add]
    match i, hi with
    | 0, _ => simp [dig2, hB]
    | 1, _ => simp [dig2, hB]
  · exact (Below.heap_alloc _ _ _ (by simp)).trans (Go.Deep.blk_alloc_new _ _)
theorem of_fin {w w2 w3 : World} {v : Value} {z : Int} {K : Nat} (hb : Below w.heap.size w w2) (hs : w.heap.size + 1 < w2.heap.size) (h : w2.heap[w.heap.size]? = some (.cells #[.bool false, .slice none 0 0] 54 (0, 0))) (h3 : Below w2.heap.size w2 w3) (hv : IntV w3 w3.heap.size v z K) (x y : Value) :
    IntV ((w3.setCell ⟨w.heap.size, 0, none⟩ x).setCell ⟨w.heap.size, 1, none⟩ y) ((w3.setCell ⟨w.heap.size, 0, none⟩ x).setCell ⟨w.heap.size, 1, none⟩ y).heap.size v z K ∧ Below w.heap.size w ((w3.setCell ⟨w.heap.size, 0, none⟩ x).setCell ⟨w.heap.size, 1, none⟩ y) := by
  have h7 := (h3.block w.heap.size (by omega)).trans h
  exact ⟨(hv.other (no_u32 h7) (set_other w3 _ 0 1 x y)).more (by simp), ((hb.trans (h3.mono (by omega))).setCell (p := (⟨w.heap.size, 0, none⟩ : Addr)) (Nat.le_refl _) x).setCell (p := (⟨w.heap.size, 1, none⟩ : Addr)) (Nat.le_refl _) y⟩

set_option maxRecDepth 100000 in
set_option maxHeartbeats 6400000 in
theorem of_any (z : Int) (w : World) (hz : -9223372036854775808 ≤ z ∧ z ≤ 9223372036854775807) :
    Calls Try.prog 41 #[.int .i64 z] w fun e w' => ∃ v, e = .returned v ∧ IntV w' w'.heap.size v z 2 ∧ Below w.heap.size w w' := by
  have hB : BB = 4294967296 := rfl
  obtain ⟨A, hA⟩ : ∃ A : Nat, A = z.natAbs := ⟨_, rfl⟩
  have hA2 : A ≤ 9223372036854775808 := by omega
  obtain ⟨m1, m2, m3, m4⟩ := of_mem w A (by omega)
  have HS := Lib.hid (fun ng => signed_any ng 2 (dig2 A) (some ⟨w.heap.size + 1, 0, none⟩) 2 _ (by omega) (by omega) (by omega) (dig2_dg (by omega)) m1)
  by_cases h0 : z < 0
  · have u1 : IntKind.u64.wrap z = 18446744073709551616 - (A : Int) := by rw [IntKind.wrap_u64]; omega
    have u2 : IntKind.u64.wrap (-(18446744073709551616 - (A : Int))) = (A : Int) := by rw [IntKind.wrap_u64]; omega
    have hsg := Lib.hid (show sgn true (vl (dig2 A) 2) = z by rw [dig2_val]; simp [sgn]; omega)
    have HS := HS.out true
    clear hA
    go_enter Try.func41, Try.ntmps41
    go_wp2_with fail
    generalize (w.alloc _).alloc _ = w2 at *
    refine HS.mono ?_
    rintro e w3 ⟨v, rfl, hv, h7⟩
    have HFIN := Lib.hid (fun x y => of_fin m3 m4 m2 h7 hv x y)
    have jc := (h7.block w.heap.size (by omega)).trans m2
    have c0 : w3.cell? ⟨w.heap.size, 0, none⟩ = some (.bool false) := by simp [World.cell?, jc]
    have c1 : w3.cell? ⟨w.heap.size, 1, none⟩ = some (.slice none 0 0) := by simp [World.cell?, jc]
    have cf : ∀ j, w3.frozen? ⟨w.heap.size, j, none⟩ = false := by intro j; simp [World.frozen?, jc]
    obtain ⟨ng, va, vn, vc, rfl⟩ := hv.form
    clear hv jc
    simp only []
    go_wp2_with fail
    refine bodyPost_ret (v := .agg #[.bool ng, .slice va vn vc]) (by simp [results, Try.results41, go_sem, c0, c1]) rfl ⟨_, rfl, ?_, (HFIN.out _ _).2⟩
    have := (HFIN.out (.bool ng) (.slice va vn vc)).1
    rw [hsg.out] at this
    exact this
  · have u1 : IntKind.u64.wrap z = (A : Int) := by rw [IntKind.wrap_u64]; omega
    have hsg := Lib.hid (show sgn false (vl (dig2 A) 2) = z by rw [dig2_val]; simp [sgn]; omega)
    have HS := HS.out false
    clear hA
    go_enter Try.func41, Try.ntmps41
    go_wp2_with fail
    generalize (w.alloc _).alloc _ = w2 at *
    refine HS.mono ?_
    rintro e w3 ⟨v, rfl, hv, h7⟩
    have HFIN := Lib.hid (fun x y => of_fin m3 m4 m2 h7 hv x y)
    have jc := (h7.block w.heap.size (by omega)).trans m2
    have c0 : w3.cell? ⟨w.heap.size, 0, none⟩ = some (.bool false) := by simp [World.cell?, jc]
    have c1 : w3.cell? ⟨w.heap.size, 1, none⟩ = some (.slice none 0 0) := by simp [World.cell?, jc]
    have cf : ∀ j, w3.frozen? ⟨w.heap.size, j, none⟩ = false := by intro j; simp [World.frozen?, jc]
    obtain ⟨ng, va, vn, vc, rfl⟩ := hv.form
    clear hv jc
    simp only []
    go_wp2_with fail
    refine bodyPost_ret (v := .agg #[.bool ng, .slice va vn vc]) (by simp [results, Try.results41, go_sem, c0, c1]) rfl ⟨_, rfl, ?_, (HFIN.out _ _).2⟩
    have := (HFIN.out (.bool ng) (.slice va vn vc)).1
    rw [hsg.out] at this
    exact this
end Go.Proofs.Ytdjpkebajcpfbaa
