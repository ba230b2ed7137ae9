/- Several texts in one: The walks over bigint.Of and bigint.Int's Sign. Conditions: the integer lies in memory. The walks over bigint.Gcd and bigint.Int's Div. Conditions: the integers lie in memory. -/
import Derived.Test.YtfoadipocpopiaaGreatBigOps
import Derived.Test.YtfoadipocpopiaaGreatDivide
import Derived.Deep.LoopGhost
namespace Go.Proofs.YtfoadipocpopiaaGreat
section
open Go.RowKit Go.Deep

def sg (z : Int) : Int := if z < 0 then -1 else if z = 0 then 0 else 1
theorem sg_neg {z : Int} (h : z < 0) : sg z = -1 := if_pos h
theorem sg_zero : sg 0 = 0 := rfl
theorem sg_pos {z : Int} (h : 0 < z) : sg z = 1 := by unfold sg; rw [if_neg (by omega), if_neg (by omega)]

set_option maxRecDepth 100000 in
set_option maxHeartbeats 6400000 in
theorem sign_any (x : Value) (a : Int) (K : Nat) (w w0 : World) (hK : K ≤ 10000) (hx : IntV w0 w0.heap.size x a K) :
    Calls Tryz.prog 47 #[x] w fun e w' => e = .returned (.int .i64 (sg a)) ∧ Below w.heap.size w w' := by
  obtain ⟨xg, xa, xn, xc, f, rfl, hx1, hx2, hx3, hx4, hx5, rfl, hx7⟩ := hx
  have b1 := (Below.refl w.heap.size w).alloc (Nat.le_refl _) (.cells #[.bool xg, .slice xa xn xc] 48)
  have hnI : (xn : Int) ≤ 10000 := by omega
  by_cases h0 : xn = 0
  · subst h0
    have hg : xg = false := by
      cases xg with
      | false => rfl
      | true => exact absurd (hx7 rfl) (Nat.lt_irrefl 0)
    subst hg
    go_enter Tryz.func47, Tryz.ntmps47
    go_wp2_with fail
    go_ret
    exact ⟨rfl, b1⟩
  · have h0I : ¬ (xn : Int) = 0 := by omega
    have hp := vl_pos hx2 (by omega)
    have h0b : ((xn : Int) == 0) = false := beq_eq_false_iff_ne.2 h0I
    cases xg with
    | false =>
      have hs := Lib.hid (sg_pos (z := sgn false (vl f xn)) (by simp [sgn]; exact hp))
      go_enter Tryz.func47, Tryz.ntmps47
      go_wp2_with fail
      go_ret
      exact ⟨ret_int hs.out.symm, b1⟩
    | true =>
      have hs := Lib.hid (sg_neg (z := sgn true (vl f xn)) (by simp [sgn]; exact hp))
      go_enter Tryz.func47, Tryz.ntmps47
      go_wp2_with fail
      go_ret
      exact ⟨ret_int hs.out.symm, b1⟩

def dig2 (A : Nat) : Nat → Nat := fun i => if i = 0 then A % BB else A / BB
theorem dig2_val (A : Nat) : vl (dig2 A) 2 = A := by
  have := carry_split A
  simp [vl, dig2]
  rw [Nat.mul_comm (A / BB)]
  omega
theorem dig2_dg {A : Nat} (h : A < 18446744073709551616) : Dg (dig2 A) 2 := fun i _ => by
  have hB : BB = 4294967296 := rfl
  unfold dig2
  rw [hB]
  split <;> omega

theorem of_mem (w : World) (A : Nat) (hA : A < 18446744073709551616) :
    DAt ((w.alloc (.cells #[.bool false, .slice none 0 0] 48)).alloc (.cells #[.int .u32 ((A : Int) % 4294967296), .int .u32 ((A : Int) / 4294967296)] 108)) ((w.alloc (.cells #[.bool false, .slice none 0 0] 48)).alloc (.cells #[.int .u32 ((A : Int) % 4294967296), .int .u32 ((A : Int) / 4294967296)] 108)).heap.size (some ⟨w.heap.size + 1, 0, none⟩) 2 (dig2 A) ∧
    ((w.alloc (.cells #[.bool false, .slice none 0 0] 48)).alloc (.cells #[.int .u32 ((A : Int) % 4294967296), .int .u32 ((A : Int) / 4294967296)] 108)).heap[w.heap.size]? = some (.cells #[.bool false, .slice none 0 0] 48 (0, 0)) ∧
    Below w.heap.size w ((w.alloc (.cells #[.bool false, .slice none 0 0] 48)).alloc (.cells #[.int .u32 ((A : Int) % 4294967296), .int .u32 ((A : Int) / 4294967296)] 108)) ∧ w.heap.size + 1 < ((w.alloc (.cells #[.bool false, .slice none 0 0] 48)).alloc (.cells #[.int .u32 ((A : Int) % 4294967296), .int .u32 ((A : Int) / 4294967296)] 108)).heap.size := by
  have hB : BB = 4294967296 := rfl
  refine ⟨fun _ => ⟨w.heap.size + 1, 0, rfl, by simp, fun i hi => ?_⟩, ?_, ((Below.refl w.heap.size w).alloc (Nat.le_refl _) _).alloc (by simp) _, by simp⟩
  · have h := Go.Deep.blk_alloc_new (w.alloc (.cells #[.bool false, .slice none 0 0] 48)) (.cells #[.int .u32 ((A : Int) % 4294967296), .int .u32 ((A : Int) / 4294967296)] 108)
    rw [show (w.alloc (.cells #[.bool false, .slice none 0 0] 48)).heap.size = w.heap.size + 1 by simp] at h
    simp only [World.cell?, h, Nat.zero_add]
    match i, hi with
    | 0, _ => simp [dig2, hB]
    | 1, _ => simp [dig2, hB]
  · exact (Below.heap_alloc _ _ _ (by simp)).trans (Go.Deep.blk_alloc_new _ _)
theorem of_fin {w w2 w3 : World} {v : Value} {z : Int} {K : Nat} (hb : Below w.heap.size w w2) (hs : w.heap.size + 1 < w2.heap.size) (h : w2.heap[w.heap.size]? = some (.cells #[.bool false, .slice none 0 0] 48 (0, 0))) (h3 : Below w2.heap.size w2 w3) (hv : IntV w3 w3.heap.size v z K) (x y : Value) :
    IntV ((w3.setCell ⟨w.heap.size, 0, none⟩ x).setCell ⟨w.heap.size, 1, none⟩ y) ((w3.setCell ⟨w.heap.size, 0, none⟩ x).setCell ⟨w.heap.size, 1, none⟩ y).heap.size v z K ∧ Below w.heap.size w ((w3.setCell ⟨w.heap.size, 0, none⟩ x).setCell ⟨w.heap.size, 1, none⟩ y) := by
  have h7 := (h3.block w.heap.size (by omega)).trans h
  exact ⟨(hv.other (no_u32 h7) (set_other w3 _ 0 1 x y)).more (by simp), ((hb.trans (h3.mono (by omega))).setCell (p := (⟨w.heap.size, 0, none⟩ : Addr)) (Nat.le_refl _) x).setCell (p := (⟨w.heap.size, 1, none⟩ : Addr)) (Nat.le_refl _) y⟩

set_option maxRecDepth 100000 in
set_option maxHeartbeats 6400000 in
theorem of_any (z : Int) (w : World) (hz : -9223372036854775808 ≤ z ∧ z ≤ 9223372036854775807) :
    Calls Tryz.prog 33 #[.int .i64 z] w fun e w' => ∃ v, e = .returned v ∧ IntV w' w'.heap.size v z 2 ∧ Below w.heap.size w w' := by
  have hB : BB = 4294967296 := rfl
  obtain ⟨A, hA⟩ : ∃ A : Nat, A = z.natAbs := ⟨_, rfl⟩
  have hA2 : A ≤ 9223372036854775808 := by omega
  obtain ⟨m1, m2, m3, m4⟩ := of_mem w A (by omega)
  have HS := Lib.hid (fun ng => signed_any ng 2 (dig2 A) (some ⟨w.heap.size + 1, 0, none⟩) 2 _ (by omega) (by omega) (by omega) (dig2_dg (by omega)) m1)
  by_cases h0 : z < 0
  · have u1 : IntKind.u64.wrap z = 18446744073709551616 - (A : Int) := by rw [IntKind.wrap_u64]; omega
    have u2 : IntKind.u64.wrap (-(18446744073709551616 - (A : Int))) = (A : Int) := by rw [IntKind.wrap_u64]; omega
    have hsg := Lib.hid (show sgn true (vl (dig2 A) 2) = z by rw [dig2_val]; simp [sgn]; omega)
    have HS := HS.out true
    clear hA
    go_enter Tryz.func33, Tryz.ntmps33
    go_wp2_with fail
    generalize (w.alloc _).alloc _ = w2 at *
    refine HS.mono ?_
    rintro e w3 ⟨v, rfl, hv, h7⟩
    have HFIN := Lib.hid (fun x y => of_fin m3 m4 m2 h7 hv x y)
    have jc := (h7.block w.heap.size (by omega)).trans m2
    have c0 : w3.cell? ⟨w.heap.size, 0, none⟩ = some (.bool false) := by simp [World.cell?, jc]
    have c1 : w3.cell? ⟨w.heap.size, 1, none⟩ = some (.slice none 0 0) := by simp [World.cell?, jc]
    have cf : ∀ j, w3.frozen? ⟨w.heap.size, j, none⟩ = false := by intro j; simp [World.frozen?, jc]
    obtain ⟨ng, va, vn, vc, rfl⟩ := hv.form
    clear hv jc
    simp only []
    go_wp2_with fail
    refine bodyPost_ret (v := .agg #[.bool ng, .slice va vn vc]) (by simp [results, Tryz.results33, go_sem, c0, c1]) rfl ⟨_, rfl, ?_, (HFIN.out _ _).2⟩
    have := (HFIN.out (.bool ng) (.slice va vn vc)).1
    rw [hsg.out] at this
    exact this
  · have u1 : IntKind.u64.wrap z = (A : Int) := by rw [IntKind.wrap_u64]; omega
    have hsg := Lib.hid (show sgn false (vl (dig2 A) 2) = z by rw [dig2_val]; simp [sgn]; omega)
    have HS := HS.out false
    clear hA
    go_enter Tryz.func33, Tryz.ntmps33
    go_wp2_with fail
    generalize (w.alloc _).alloc _ = w2 at *
    refine HS.mono ?_
    rintro e w3 ⟨v, rfl, hv, h7⟩
    have HFIN := Lib.hid (fun x y => of_fin m3 m4 m2 h7 hv x y)
    have jc := (h7.block w.heap.size (by omega)).trans m2
    have c0 : w3.cell? ⟨w.heap.size, 0, none⟩ = some (.bool false) := by simp [World.cell?, jc]
    have c1 : w3.cell? ⟨w.heap.size, 1, none⟩ = some (.slice none 0 0) := by simp [World.cell?, jc]
    have cf : ∀ j, w3.frozen? ⟨w.heap.size, j, none⟩ = false := by intro j; simp [World.frozen?, jc]
    obtain ⟨ng, va, vn, vc, rfl⟩ := hv.form
    clear hv jc
    simp only []
    go_wp2_with fail
    refine bodyPost_ret (v := .agg #[.bool ng, .slice va vn vc]) (by simp [results, Tryz.results33, go_sem, c0, c1]) rfl ⟨_, rfl, ?_, (HFIN.out _ _).2⟩
    have := (HFIN.out (.bool ng) (.slice va vn vc)).1
    rw [hsg.out] at this
    exact this
end

section
open Go.RowKit Go.Deep

theorem gcd_step (a b : Nat) (_hb : 0 < b) : Nat.gcd b (a % b) = Nat.gcd a b := by
  rw [Nat.gcd_comm b, ← Nat.gcd_rec, Nat.gcd_comm]

set_option maxRecDepth 100000 in
set_option maxHeartbeats 6400000 in
theorem gcd_any (x y : Value) (a b : Int) (K : Nat) (w : World) (hK : K ≤ 10000) (hx : IntV w w.heap.size x a K) (hy : IntV w w.heap.size y b K) :
    Calls Tryz.prog 49 #[x, y] w fun e w' => ∃ v, e = .returned v ∧ IntV w' w'.heap.size v (Nat.gcd a.natAbs b.natAbs : Nat) K ∧ Below w.heap.size w w' := by
  obtain ⟨xg, xa, xn, xc, f, rfl, hx1, hx2, hx3, hx4, hx5, rfl, hx7⟩ := hx
  obtain ⟨yg, ya, yn, yc, g, rfl, hy1, hy2, hy3, hy4, hy5, rfl, hy7⟩ := hy
  rw [sgn_abs, sgn_abs]
  obtain ⟨t1, t2, t3, t4, t5, t6, t7⟩ := S2.start (w := w) (xg := xg) (yg := yg) (xa := xa) (ya := ya) (xn := xn) (xc := xc) (yn := yn) (yc := yc)
  have T7 := Lib.hid (show ((((w.alloc (.cells #[.bool xg, .slice xa xn xc] 48)).alloc (.cells #[.bool yg, .slice ya yn yc] 48)).alloc (.cells #[.bool false, .slice none 0 0] 48))).heap[w.heap.size + 1 + 1]? = some (.cells #[.bool false, .slice none 0 0] 48 (0, 0)) from blk_lies (by simp))
  have da := hx5.on t1 t1.size
  have db := hy5.on t1 t1.size
  generalize hG : Nat.gcd (vl f xn) (vl g yn) = G at *
  have HG := Lib.hid hG
  have HNF := Lib.hid hx2
  have HNG := Lib.hid hy2
  clear hG hx5 hy5 hx2 hy2 t7 hx7 hy7
  go_enter Tryz.func49, Tryz.ntmps49
  go_upto_region 1 with fail
  generalize ((w.alloc _).alloc _).alloc _ = w1 at *
  go_quiet (fail)
  go_wp2_with fail
  have b0 : Below w1.heap.size w1 (w1.drewN nq) := below_drewN (Below.refl _ _) _
  have da0 : DAt (w1.drewN nq) (w1.drewN nq).heap.size xa xn f := da
  have db0 : DAt (w1.drewN nq) (w1.drewN nq).heap.size ya yn g := db
  go_loopg [5, 6] (vl g yn + 1) (fun gh u v wr => ∃ (pa pb : Option Addr) (n m ca cb : Nat) (f g : Nat → Nat), u = .slice pa n ca ∧ v = .slice pb m cb ∧ n ≤ K ∧ m ≤ K ∧ Hid (Nrm f n) ∧ Hid (Nrm g m) ∧ n ≤ ca ∧ ca ≤ 9223372036854775807 ∧ m ≤ cb ∧ cb ≤ 9223372036854775807 ∧ DAt wr wr.heap.size pa n f ∧ DAt wr wr.heap.size pb m g ∧ Hid (Nat.gcd (vl f n) (vl g m) = G) ∧ vl g m < gh ∧ Below w1.heap.size w1 wr)
  case atStart => exact ⟨xa, ya, xn, yn, xc, yc, f, g, rfl, rfl, hx1, hy1, HNF, HNG, hx3, hx4, hy3, hy4, da0, db0, HG, Nat.lt_succ_self _, b0⟩
  case round =>
    clear b0 da0 db0 da db HG HNF HNG
    obtain ⟨pa, pb, n, m, ca, cb, f1, g1, rfl, rfl, hn, hm, hf, hg, q1, q2, q3, q4, da, db, HG, hgh, hbl⟩ := hrel
    have hmI : (m : Int) ≤ 10000 := by omega
    have hnI : (n : Int) ≤ 10000 := by omega
    by_cases h0 : 0 < m
    · have h0I : (0 : Int) < (m : Int) := by omega
      have HC := divide_any n m f1 g1 pa pb ca cb wr (by omega) (by omega) h0 hf.out hg.out q1 q2 q3 da db
      have hp := vl_pos hg.out h0
      have HG2 := Lib.hid ((gcd_step _ (vl g1 m) hp).trans HG.out)
      have HM := Lib.hid (Nat.mod_lt (vl f1 n) hp)
      clear HG hp
      go_upto_region 4 with (go_at_call 82; refine HC.mono ?_; rintro e w2 ⟨qa, qn, qc, h, ra, rn, rc, r, rfl, e1, e2, e3, e4, e5, e6, e7, e8, e9, e10, e11, e12, hb2⟩)
      have HR := Lib.hid e2
      have hrm : rn ≤ m := vl_len e2 hg.out (by rw [e4]; exact HM.out)
      have HG3 := Lib.hid (show Nat.gcd (vl g1 m) (vl r rn) = G by rw [e4]; exact HG2.out)
      have hlt : vl r rn < vl g1 m := by rw [e4]; exact HM.out
      have db2 := db.on hb2 hb2.size
      have hbl2 := hbl.trans (hb2.mono hbl.size)
      clear e1 e2 e3 e4 HM HG2
      go_wp2_with fail
      go_roundg (gk - 1)
      case measure => omega
      case rel => exact ⟨pb, ra, m, rn, cb, rc, g1, r, rfl, rfl, hm, by omega, hg, HR, q3, q4, e9, e10, db2, e12, HG3, by omega, hbl2⟩
    · obtain rfl : m = 0 := by omega
      have HV := Lib.hid (show vl f1 n = G by rw [← HG.out]; simp [vl])
      have HS := Lib.hid (signed_any false n f1 pa ca wr (by omega) q1 q2 hf.out.1 da)
      have jc := (hbl.block (w.heap.size + 1 + 1) t2).trans T7.out
      have hb1 := t1.trans (hbl.mono t1.size)
      clear HG hf hg
      go_wp2_with (go_at_call 51; refine HS.out.mono ?_; rintro e w3 ⟨v, rfl, hv3, h7⟩; obtain ⟨ng, va, vn, vc, hvv⟩ := IntV.form hv3; subst hvv; have jc3 := (h7.block (w.heap.size + 1 + 1) (by have := hbl.size; omega)).trans jc; have c0 : w3.cell? ⟨w.heap.size + 1 + 1, 0, none⟩ = some (.bool false) := (by simp [World.cell?, jc3]); have c1 : w3.cell? ⟨w.heap.size + 1 + 1, 1, none⟩ = some (.slice none 0 0) := (by simp [World.cell?, jc3]); have cf : ∀ j, w3.frozen? ⟨w.heap.size + 1 + 1, j, none⟩ = false := (by intro j; simp [World.frozen?, jc3]))
      have hb3 := hb1.trans (h7.mono hb1.size)
      refine bodyPost_ret (v := .agg #[.bool ng, .slice va vn vc]) (by simp [results, Tryz.results49, go_sem, c0, c1]) rfl ⟨_, rfl, ?_, (hb3.setCell (p := (⟨w.heap.size + 1 + 1, 0, none⟩ : Addr)) (show w.heap.size ≤ w.heap.size + 1 + 1 by omega) _).setCell (p := (⟨w.heap.size + 1 + 1, 1, none⟩ : Addr)) (show w.heap.size ≤ w.heap.size + 1 + 1 by omega) _⟩
      have h8 := (hv3.other (no_u32 jc3) (set_other w3 _ 0 1 (.bool ng) (.slice va vn vc))).more (N' := ((w3.setCell ⟨w.heap.size + 1 + 1, 0, none⟩ (.bool ng)).setCell ⟨w.heap.size + 1 + 1, 1, none⟩ (.slice va vn vc)).heap.size) (by simp)
      rw [HV.out] at h8
      exact h8.wide hn
end
end Go.Proofs.YtfoadipocpopiaaGreat
