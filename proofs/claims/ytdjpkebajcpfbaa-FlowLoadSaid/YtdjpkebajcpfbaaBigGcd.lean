/- The walks over bigint.Gcd and bigint.Int's Div. Conditions: the integers lie in memory. -/
import Derived.Test.YtdjpkebajcpfbaaDivide
import Derived.Test.YtdjpkebajcpfbaaBigSgn
import Derived.Deep.LoopGhost
namespace Go.Proofs.Ytdjpkebajcpfbaa
open Go.RowKit Go.Deep

theorem gcd_step (a b : Nat) (_hb : 0 < b) : Nat.gcd b (a % b) = Nat.gcd a b := by
  rw [Nat.gcd_comm b, ← Nat.gcd_rec, Nat.gcd_comm]

set_option maxRecDepth 100000 in
set_option maxHeartbeats 6400000 in
theorem gcd_any (x y : Value) (a b : Int) (K : Nat) (w : World) (hK : K ≤ 10000) (hx : IntV w w.heap.size x a K) (hy : IntV w w.heap.size y b K) :
    Calls Try.prog 53 #[x, y] w fun e w' => ∃ v, e = .returned v ∧ IntV w' w'.heap.size v (Nat.gcd a.natAbs b.natAbs : Nat) K ∧ Below w.heap.size w w' := by
  obtain ⟨xg, xa, xn, xc, f, rfl, hx1, hx2, hx3, hx4, hx5, rfl, hx7⟩ := hx
  obtain ⟨yg, ya, yn, yc, g, rfl, hy1, hy2, hy3, hy4, hy5, rfl, hy7⟩ := hy
  rw [sgn_abs, sgn_abs]
  obtain ⟨t1, t2, t3, t4, t5, t6, t7⟩ := S2.start (w := w) (xg := xg) (yg := yg) (xa := xa) (ya := ya) (xn := xn) (xc := xc) (yn := yn) (yc := yc)
  have T7 := Lib.hid (show ((((w.alloc (.cells #[.bool xg, .slice xa xn xc] 54)).alloc (.cells #[.bool yg, .slice ya yn yc] 54)).alloc (.cells #[.bool false, .slice none 0 0] 54))).heap[w.heap.size + 1 + 1]? = some (.cells #[.bool false, .slice none 0 0] 54 (0, 0)) from blk_lies (by simp))
  have da := hx5.on t1 t1.size
  have db := hy5.on t1 t1.size
  generalize hG : Nat.gcd (vl f xn) (vl g yn) = G at *
  have HG := Lib.hid hG
  have HNF := Lib.hid hx2
  have HNG := Lib.hid hy2
  clear hG hx5 hy5 hx2 hy2 t7 hx7 hy7
  go_enter Try.func53, Try.ntmps53
  go_upto_region 1 with fail
  generalize ((w.alloc _).alloc _).alloc _ = w1 at *
  go_quiet (fail)
  go_wp2_with fail
  have b0 : Below w1.heap.size w1 (w1.drewN nq) := below_drewN (Below.refl _ _) _
  have da0 : DAt (w1.drewN nq) (w1.drewN nq).heap.size xa xn f := da
  have db0 : DAt (w1.drewN nq) (w1.drewN nq).heap.size ya yn g := db
  go_loopg [5, 6] (vl g yn + 1) (fun gh u v wr => ∃ (pa pb : Option Addr) (n m ca cb : Nat) (f g : Nat → Nat), u = .slice pa n ca ∧ v = .slice pb m cb ∧ n ≤ K ∧ m ≤ K ∧ Hid (Nrm f n) ∧ Hid (Nrm g m) ∧ n ≤ ca ∧ ca ≤ 9223372036854775807 ∧ m ≤ cb ∧ cb ≤ 9223372036854775807 ∧ DAt wr wr.heap.size pa n f ∧ DAt wr wr.heap.size pb m g ∧ Hid (Nat.gcd (vl f n) (vl g m) = G) ∧ vl g m < gh ∧ Below w1.heap.size w1 wr)
  case atStart => exact ⟨xa, ya, xn, yn, xc, yc, f, g, rfl, rfl, hx1, hy1, HNF, HNG, hx3, hx4, hy3, hy4, da0, db0, HG, Nat.lt_succ_self _, b0⟩
  case round =>
    clear b0 da0 db0 da db HG HNF HNG
    obtain ⟨pa, pb, n, m, ca, cb, f1, g1, rfl, rfl, hn, hm, hf, hg, q1, q2, q3, q4, da, db, HG, hgh, hbl⟩ := hrel
    have hmI : (m : Int) ≤ 10000 := by omega
    have hnI : (n : Int) ≤ 10000 := by omega
    by_cases h0 : 0 < m
    · have h0I : (0 : Int) < (m : Int) := by omega
      have HC := divide_any n m f1 g1 pa pb ca cb wr (by omega) (by omega) h0 hf.out hg.out q1 q2 q3 da db
      have hp := vl_pos hg.out h0
      have HG2 := Lib.hid ((gcd_step _ (vl g1 m) hp).trans HG.out)
      have HM := Lib.hid (Nat.mod_lt (vl f1 n) hp)
      clear HG hp
      go_upto_region 4 with (go_at_call 63; refine HC.mono ?_; rintro e w2 ⟨qa, qn, qc, h, ra, rn, rc, r, rfl, e1, e2, e3, e4, e5, e6, e7, e8, e9, e10, e11, e12, hb2⟩)
      have HR := Lib.hid e2
      have hrm : rn ≤ m := vl_len e2 hg.out (by rw [e4]; exact HM.out)
      have HG3 := Lib.hid (show Nat.gcd (vl g1 m) (vl r rn) = G by rw [e4]; exact HG2.out)
      have hlt : vl r rn < vl g1 m := by rw [e4]; exact HM.out
      have db2 := db.on hb2 hb2.size
      have hbl2 := hbl.trans (hb2.mono hbl.size)
      clear e1 e2 e3 e4 HM HG2
      go_wp2_with fail
      go_roundg (gk - 1)
      case measure => omega
      case rel => exact ⟨pb, ra, m, rn, cb, rc, g1, r, rfl, rfl, hm, by omega, hg, HR, q3, q4, e9, e10, db2, e12, HG3, by omega, hbl2⟩
    · obtain rfl : m = 0 := by omega
      have HV := Lib.hid (show vl f1 n = G by rw [← HG.out]; simp [vl])
      have HS := Lib.hid (signed_any false n f1 pa ca wr (by omega) q1 q2 hf.out.1 da)
      have jc := (hbl.block (w.heap.size + 1 + 1) t2).trans T7.out
      have hb1 := t1.trans (hbl.mono t1.size)
      clear HG hf hg
      go_wp2_with (go_at_call 55; refine HS.out.mono ?_; rintro e w3 ⟨v, rfl, hv3, h7⟩; obtain ⟨ng, va, vn, vc, hvv⟩ := IntV.form hv3; subst hvv; have jc3 := (h7.block (w.heap.size + 1 + 1) (by have := hbl.size; omega)).trans jc; have c0 : w3.cell? ⟨w.heap.size + 1 + 1, 0, none⟩ = some (.bool false) := (by simp [World.cell?, jc3]); have c1 : w3.cell? ⟨w.heap.size + 1 + 1, 1, none⟩ = some (.slice none 0 0) := (by simp [World.cell?, jc3]); have cf : ∀ j, w3.frozen? ⟨w.heap.size + 1 + 1, j, none⟩ = false := (by intro j; simp [World.frozen?, jc3]))
      have hb3 := hb1.trans (h7.mono hb1.size)
      refine bodyPost_ret (v := .agg #[.bool ng, .slice va vn vc]) (by simp [results, Try.results53, go_sem, c0, c1]) rfl ⟨_, rfl, ?_, (hb3.setCell (p := (⟨w.heap.size + 1 + 1, 0, none⟩ : Addr)) (show w.heap.size ≤ w.heap.size + 1 + 1 by omega) _).setCell (p := (⟨w.heap.size + 1 + 1, 1, none⟩ : Addr)) (show w.heap.size ≤ w.heap.size + 1 + 1 by omega) _⟩
      have h8 := (hv3.other (no_u32 jc3) (set_other w3 _ 0 1 (.bool ng) (.slice va vn vc))).more (N' := ((w3.setCell ⟨w.heap.size + 1 + 1, 0, none⟩ (.bool ng)).setCell ⟨w.heap.size + 1 + 1, 1, none⟩ (.slice va vn vc)).heap.size) (by simp)
      rw [HV.out] at h8
      exact h8.wide hn
end Go.Proofs.Ytdjpkebajcpfbaa
