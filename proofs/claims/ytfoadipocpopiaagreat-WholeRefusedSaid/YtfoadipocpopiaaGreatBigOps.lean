/- The walks over bigint.Int's Mul, Add, Cmp. Conditions: the integers lie in memory. -/
import Derived.Test.YtfoadipocpopiaaGreatM31
import Derived.Deep.RegionHeld3
namespace Go.Proofs.YtfoadipocpopiaaGreat
open Go.RowKit Go.Deep

theorem blk_lies {w : World} {H : Nat} {o : Obj} (h : w.heap.size = H) : (w.alloc o).heap[H]? = some o := by subst h; exact Go.Deep.blk_alloc_new w o
def S2 (w : World) (xg yg : Bool) (xa ya : Option Addr) (xn xc yn yc : Nat) (W : World) : Prop := (Below w.heap.size w W ∧ w.heap.size + 1 + 1 < W.heap.size ∧ W.cell? ⟨w.heap.size, 0, none⟩ = some (.bool xg) ∧ W.cell? ⟨w.heap.size, 1, none⟩ = some (.slice xa xn xc) ∧ W.cell? ⟨w.heap.size + 1, 0, none⟩ = some (.bool yg) ∧ W.cell? ⟨w.heap.size + 1, 1, none⟩ = some (.slice ya yn yc) ∧ ∃ (u : Bool) (ra : Option Addr) (rn rc : Nat), W.heap[w.heap.size + 1 + 1]? = some (.cells #[.bool u, .slice ra rn rc] 48 (0, 0)))
theorem IntV.form {w : World} {N K : Nat} {v : Value} {z : Int} (h : IntV w N v z K) : ∃ ng a n c, v = .agg #[.bool ng, .slice a n c] := by
  obtain ⟨ng, a, n, cap, f, e, _⟩ := h
  exact ⟨ng, a, n, cap, e⟩
section
variable {w W W' : World} {xg yg : Bool} {xa ya : Option Addr} {xn xc yn yc : Nat}
theorem S2.start : S2 w xg yg xa ya xn xc yn yc (((w.alloc (.cells #[.bool xg, .slice xa xn xc] 48)).alloc (.cells #[.bool yg, .slice ya yn yc] 48)).alloc (.cells #[.bool false, .slice none 0 0] 48)) := by
  refine ⟨(((Below.refl w.heap.size w).alloc (Nat.le_refl _) _).alloc (by simp) _).alloc (by simp; omega) _, by simp, ?_, ?_, ?_, ?_, false, none, 0, 0, ?_⟩
  case refine_5 => exact blk_lies (by simp)
  all_goals simp [go_sem]
theorem S2.next (h : S2 w xg yg xa ya xn xc yn yc W) (hb : Below W.heap.size W W') : S2 w xg yg xa ya xn xc yn yc W' := by
  obtain ⟨h1, h2, h3, h4, h5, h6, u, ra, rn, rc, h7⟩ := h
  exact ⟨h1.trans (hb.mono h1.size), by have := hb.size; omega, keep_cell hb (by omega) h3, keep_cell hb (by omega) h4, keep_cell hb (by omega) h5, keep_cell hb (by omega) h6, u, ra, rn, rc, (hb.block _ (by omega)).trans h7⟩
theorem S2.drew (h : S2 w xg yg xa ya xn xc yn yc W) : S2 w xg yg xa ya xn xc yn yc W.drew := h.next (Below.refl _ _).drew
theorem S2.res (h : S2 w xg yg xa ya xn xc yn yc W) : (∃ u v, W.cell? ⟨w.heap.size + 1 + 1, 0, none⟩ = some u ∧ W.cell? ⟨w.heap.size + 1 + 1, 1, none⟩ = some v) ∧ ∀ j, W.frozen? ⟨w.heap.size + 1 + 1, j, none⟩ = false := by
  obtain ⟨h1, h2, h3, h4, h5, h6, u, ra, rn, rc, h7⟩ := h
  exact ⟨⟨.bool u, .slice ra rn rc, by simp [World.cell?, h7], by simp [World.cell?, h7]⟩, fun j => by simp [World.frozen?, h7]⟩
theorem S2.store (h : S2 w xg yg xa ya xn xc yn yc W) (x : Bool) (sa : Option Addr) (sn sc : Nat) : S2 w xg yg xa ya xn xc yn yc ((W.setCell ⟨w.heap.size + 1 + 1, 0, none⟩ (.bool x)).setCell ⟨w.heap.size + 1 + 1, 1, none⟩ (.slice sa sn sc)) := by
  obtain ⟨h1, h2, h3, h4, h5, h6, u, ra, rn, rc, h7⟩ := h
  refine ⟨(h1.setCell (p := (⟨w.heap.size + 1 + 1, 0, none⟩ : Addr)) (show w.heap.size ≤ w.heap.size + 1 + 1 by omega) (.bool x)).setCell (p := (⟨w.heap.size + 1 + 1, 1, none⟩ : Addr)) (show w.heap.size ≤ w.heap.size + 1 + 1 by omega) (.slice sa sn sc), by simpa using h2, ?_, ?_, ?_, ?_, x, sa, sn, sc, ?_⟩
  · simpa [go_sem] using h3
  · simpa [go_sem] using h4
  · simpa [go_sem] using h5
  · simpa [go_sem] using h6
  · simp [World.setCell, Array.getElem?_modify, h7]
theorem S2.fin (h : S2 w xg yg xa ya xn xc yn yc W) {v : Value} {z : Int} {K : Nat} (hv : IntV W W.heap.size v z K) (x y : Value) : IntV ((W.setCell ⟨w.heap.size + 1 + 1, 0, none⟩ x).setCell ⟨w.heap.size + 1 + 1, 1, none⟩ y) ((W.setCell ⟨w.heap.size + 1 + 1, 0, none⟩ x).setCell ⟨w.heap.size + 1 + 1, 1, none⟩ y).heap.size v z K ∧ Below w.heap.size w ((W.setCell ⟨w.heap.size + 1 + 1, 0, none⟩ x).setCell ⟨w.heap.size + 1 + 1, 1, none⟩ y) := by
  obtain ⟨h1, h2, h3, h4, h5, h6, u, ra, rn, rc, h7⟩ := h
  refine ⟨?_, (h1.setCell (p := (⟨w.heap.size + 1 + 1, 0, none⟩ : Addr)) (show w.heap.size ≤ w.heap.size + 1 + 1 by omega) x).setCell (p := (⟨w.heap.size + 1 + 1, 1, none⟩ : Addr)) (show w.heap.size ≤ w.heap.size + 1 + 1 by omega) y⟩
  exact (hv.other (no_u32 h7) (set_other W _ 0 1 x y)).more (by simp)
end

set_option maxRecDepth 100000 in
set_option maxHeartbeats 6400000 in
theorem mul_any (x y : Value) (a b : Int) (K K' : Nat) (w : World) (hK : K ≤ 10000) (hK' : K' ≤ 10000) (hx : IntV w w.heap.size x a K) (hy : IntV w w.heap.size y b K') :
    Calls Tryz.prog 35 #[x, y] w fun e w' => ∃ v, e = .returned v ∧ IntV w' w'.heap.size v (a * b) (K + K') ∧ Below w.heap.size w w' := by
  obtain ⟨xg, xa, xn, xc, f, rfl, hx1, hx2, hx3, hx4, hx5, rfl, hx7⟩ := hx
  obtain ⟨yg, ya, yn, yc, g, rfl, hy1, hy2, hy3, hy4, hy5, rfl, hy7⟩ := hy
  have HP := Lib.hid (fun W (h : (Below w.heap.size w W ∧ w.heap.size + 1 + 1 < W.heap.size ∧ W.cell? ⟨w.heap.size, 0, none⟩ = some (.bool xg) ∧ W.cell? ⟨w.heap.size, 1, none⟩ = some (.slice xa xn xc) ∧ W.cell? ⟨w.heap.size + 1, 0, none⟩ = some (.bool yg) ∧ W.cell? ⟨w.heap.size + 1, 1, none⟩ = some (.slice ya yn yc) ∧ ∃ (u : Bool) (ra : Option Addr) (rn rc : Nat), W.heap[w.heap.size + 1 + 1]? = some (.cells #[.bool u, .slice ra rn rc] 48 (0, 0)))) => product_any xn yn f g xa ya xc yc W (by omega) (by omega) hx2.1 hy2.1 (hx5.on h.1 (by have := h.1.size; omega)) (hy5.on h.1 (by have := h.1.size; omega)))
  have HS := Lib.hid (fun W a' k c' (h : Nat → Nat) (h1 : k ≤ xn + yn) (h2 : k ≤ c') (h3 : c' ≤ 9223372036854775807) (h4 : Dg h k) (h5 : DAt W W.heap.size a' k h) => signed_any (xg != yg) k h a' c' W (by omega) h2 h3 h4 h5)
  have s0 := S2.start (w := w) (xg := xg) (yg := yg) (xa := xa) (ya := ya) (xn := xn) (xc := xc) (yn := yn) (yc := yc)
  go_enter Tryz.func35, Tryz.ntmps35
  go_upto_region 1 with fail
  generalize ((w.alloc _).alloc _).alloc _ = w1 at *
  have HS := HS.out
  have HP := HP.out
  go_region_held3 (fun W => (Below w.heap.size w W ∧ w.heap.size + 1 + 1 < W.heap.size ∧ W.cell? ⟨w.heap.size, 0, none⟩ = some (.bool xg) ∧ W.cell? ⟨w.heap.size, 1, none⟩ = some (.slice xa xn xc) ∧ W.cell? ⟨w.heap.size + 1, 0, none⟩ = some (.bool yg) ∧ W.cell? ⟨w.heap.size + 1, 1, none⟩ = some (.slice ya yn yc) ∧ ∃ (u : Bool) (ra : Option Addr) (rn rc : Nat), W.heap[w.heap.size + 1 + 1]? = some (.cells #[.bool u, .slice ra rn rc] 48 (0, 0))))
    (first
      | exact s0
      | exact s0.drew
      | assumption
      | exact S2.next (by assumption) (by assumption)
      | exact S2.store (by assumption) _ _ _ _)
    (first
      | (go_at_call 52; refine (HP _ (by assumption)).mono ?_; rintro e w2 ⟨a', k, c', h, rfl, h1, hv, h2, h3, h4, h5, h6⟩)
      | (go_at_call 51; refine (HS _ _ _ _ _ h2 h3 h4 h1.1 (by assumption)).mono ?_; rintro e w3 ⟨v, rfl, hv3, h7⟩; obtain ⟨ng, va, vn, vc, hvv⟩ := IntV.form hv3; subst hvv; have HFIN := Lib.hid (fun x y => S2.fin (S2.next (by assumption) h7) hv3 x y); obtain ⟨⟨r0, r1, r2, r3⟩, rf⟩ := S2.res (S2.next (by assumption) h7)))
  have HV := Lib.hid hv
  clear hv hv3
  go_wp2_with fail
  refine bodyPost_ret (v := .agg #[.bool ng, .slice va vn vc]) (by simp [results, Tryz.results35, go_sem, r2, r3]) rfl ⟨_, rfl, ?_, (HFIN.out _ _).2⟩
  have e : sgn (xg != yg) (vl h k) = sgn xg (vl f xn) * sgn yg (vl g yn) := by
    rw [HV.out]
    cases xg <;> cases yg <;> simp [sgn, Int.natCast_mul, Int.mul_neg, Int.neg_mul]
  rw [← e]
  exact (HFIN.out _ _).1.wide (by omega)

theorem IntV.pos {w : World} {N K : Nat} {ng : Bool} {n : Nat} {f : Nat → Nat} (h : Nrm f n) (hz : 0 ≤ sgn ng (vl f n)) (hg : ng = true → 0 < n) : ng = false := by
  cases ng with
  | false => rfl
  | true =>
    have := vl_pos h (hg rfl)
    simp only [sgn, if_true] at hz
    omega

set_option maxRecDepth 100000 in
set_option maxHeartbeats 6400000 in
theorem add_any (x y : Value) (a b : Int) (K K' : Nat) (w : World) (hK : K ≤ 10000) (hK' : K' ≤ 10000) (ha : 0 ≤ a) (hb : 0 ≤ b) (hx : IntV w w.heap.size x a K) (hy : IntV w w.heap.size y b K') :
    Calls Tryz.prog 37 #[x, y] w fun e w' => ∃ v, e = .returned v ∧ IntV w' w'.heap.size v (a + b) (K + K' + 1) ∧ Below w.heap.size w w' := by
  obtain ⟨xg, xa, xn, xc, f, rfl, hx1, hx2, hx3, hx4, hx5, rfl, hx7⟩ := hx
  obtain ⟨yg, ya, yn, yc, g, rfl, hy1, hy2, hy3, hy4, hy5, rfl, hy7⟩ := hy
  obtain rfl := IntV.pos (w := w) (N := 0) (K := 0) hx2 ha hx7
  obtain rfl := IntV.pos (w := w) (N := 0) (K := 0) hy2 hb hy7
  have HP := Lib.hid (fun W (h : (Below w.heap.size w W ∧ w.heap.size + 1 + 1 < W.heap.size ∧ W.cell? ⟨w.heap.size, 0, none⟩ = some (.bool false) ∧ W.cell? ⟨w.heap.size, 1, none⟩ = some (.slice xa xn xc) ∧ W.cell? ⟨w.heap.size + 1, 0, none⟩ = some (.bool false) ∧ W.cell? ⟨w.heap.size + 1, 1, none⟩ = some (.slice ya yn yc) ∧ ∃ (u : Bool) (ra : Option Addr) (rn rc : Nat), W.heap[w.heap.size + 1 + 1]? = some (.cells #[.bool u, .slice ra rn rc] 48 (0, 0)))) => sum_any xn yn f g xa ya xc yc W (by omega) (by omega) hx2.1 hy2.1 (hx5.on h.1 (by have := h.1.size; omega)) (hy5.on h.1 (by have := h.1.size; omega)))
  have HS := Lib.hid (fun W a' k c' (h : Nat → Nat) (h1 : k ≤ xn + yn + 1) (h2 : k ≤ c') (h3 : c' ≤ 9223372036854775807) (h4 : Dg h k) (h5 : DAt W W.heap.size a' k h) => signed_any false k h a' c' W (by omega) h2 h3 h4 h5)
  have s0 := S2.start (w := w) (xg := false) (yg := false) (xa := xa) (ya := ya) (xn := xn) (xc := xc) (yn := yn) (yc := yc)
  go_enter Tryz.func37, Tryz.ntmps37
  go_upto_region 1 with fail
  generalize ((w.alloc _).alloc _).alloc _ = w1 at *
  obtain ⟨t1, t2, t3, t4, t5, t6, t7⟩ := s0
  have s0 : (Below w.heap.size w w1 ∧ w.heap.size + 1 + 1 < w1.heap.size ∧ w1.cell? ⟨w.heap.size, 0, none⟩ = some (.bool false) ∧ w1.cell? ⟨w.heap.size, 1, none⟩ = some (.slice xa xn xc) ∧ w1.cell? ⟨w.heap.size + 1, 0, none⟩ = some (.bool false) ∧ w1.cell? ⟨w.heap.size + 1, 1, none⟩ = some (.slice ya yn yc) ∧ ∃ (u : Bool) (ra : Option Addr) (rn rc : Nat), w1.heap[w.heap.size + 1 + 1]? = some (.cells #[.bool u, .slice ra rn rc] 48 (0, 0))) := ⟨t1, t2, t3, t4, t5, t6, t7⟩
  clear t7
  have HS := HS.out
  have HP := HP.out
  go_upto_region 2 with fail
  go_region_held3 (fun W => (Below w.heap.size w W ∧ w.heap.size + 1 + 1 < W.heap.size ∧ W.cell? ⟨w.heap.size, 0, none⟩ = some (.bool false) ∧ W.cell? ⟨w.heap.size, 1, none⟩ = some (.slice xa xn xc) ∧ W.cell? ⟨w.heap.size + 1, 0, none⟩ = some (.bool false) ∧ W.cell? ⟨w.heap.size + 1, 1, none⟩ = some (.slice ya yn yc) ∧ ∃ (u : Bool) (ra : Option Addr) (rn rc : Nat), W.heap[w.heap.size + 1 + 1]? = some (.cells #[.bool u, .slice ra rn rc] 48 (0, 0))))
    (first
      | exact s0
      | exact S2.drew s0
      | assumption
      | exact S2.next (by assumption) (by assumption)
      | exact S2.store (by assumption) _ _ _ _)
    (first
      | (go_at_call 53; refine (HP _ (by assumption)).mono ?_; rintro e w2 ⟨a', k, c', h, rfl, h1, hv, h2, h3, h4, h5, h6⟩)
      | (go_at_call 51; refine (HS _ _ _ _ _ h2 h3 h4 h1.1 (by assumption)).mono ?_; rintro e w3 ⟨v, rfl, hv3, h7⟩; obtain ⟨ng, va, vn, vc, hvv⟩ := IntV.form hv3; subst hvv; have HFIN := Lib.hid (fun x y => S2.fin (S2.next (by assumption) h7) hv3 x y); obtain ⟨⟨r0, r1, r2, r3⟩, rf⟩ := S2.res (S2.next (by assumption) h7)))
  have HV := Lib.hid hv
  clear hv hv3
  go_wp2_with fail
  refine bodyPost_ret (v := .agg #[.bool ng, .slice va vn vc]) (by simp [results, Tryz.results37, go_sem, r2, r3]) rfl ⟨_, rfl, ?_, (HFIN.out _ _).2⟩
  have e : sgn false (vl h k) = sgn false (vl f xn) + sgn false (vl g yn) := by
    rw [HV.out]
    simp [sgn]
  rw [← e]
  exact (HFIN.out _ _).1.wide (by omega)
end Go.Proofs.YtfoadipocpopiaaGreat
