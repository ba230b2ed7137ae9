/- Numbers are kept where other cells are written; the walk over bigint.Int's Div. Conditions: the integers lie in memory. -/
import Derived.Test.YtfoadipocpopiaaGreatM33
namespace Go.Proofs.YtfoadipocpopiaaGreat
open Go.RowKit Go.Deep

/-- Digits that lie in memory stay. -/
def Dk (w w' : World) : Prop := w.heap.size ≤ w'.heap.size ∧ ∀ b o i, w.cell? ⟨b, o, none⟩ = some (.int .u32 i) → w'.cell? ⟨b, o, none⟩ = some (.int .u32 i)
section
variable {w w' w'' : World}
theorem Dk.refl : Dk w w := ⟨Nat.le_refl _, fun _ _ _ h => h⟩
theorem Dk.trans (h : Dk w w') (k : Dk w' w'') : Dk w w'' := ⟨Nat.le_trans h.1 k.1, fun b o i hc => k.2 b o i (h.2 b o i hc)⟩
theorem cell_lt {b o : Nat} {v : Value} (h : w.cell? ⟨b, o, none⟩ = some v) : b < w.heap.size := by
  rcases Nat.lt_or_ge b w.heap.size with h1 | h1
  · exact h1
  · simp [World.cell?, Array.getElem?_eq_none h1] at h
theorem Dk.below (hb : Below w.heap.size w w') : Dk w w' := ⟨hb.size, fun _ _ _ h => keep_cellN hb (cell_lt h) h⟩
theorem Dk.set {g o : Nat} {u : Value} (h : w.cell? ⟨g, o, none⟩ = some u) (hu : ∀ i, u ≠ .int .u32 i) (x : Value) : Dk w (w.setCell ⟨g, o, none⟩ x) := by
  refine ⟨by simp [World.setCell], fun b p i hc => ?_⟩
  rw [World.cell?_setCell_other]
  · exact hc
  · rintro e
    rw [← e] at hc
    rw [hc] at h
    exact hu i (Option.some.inj h).symm
theorem DAt.dk {n : Nat} {a : Option Addr} {f : Nat → Nat} (h : DAt w w.heap.size a n f) (hk : Dk w w') : DAt w' w'.heap.size a n f := fun hn => by
  obtain ⟨b, off, e, hlt, hc⟩ := h hn
  exact ⟨b, off, e, Nat.lt_of_lt_of_le hlt hk.1, fun i hi => hk.2 _ _ _ (hc i hi)⟩
theorem IntV.dk {v : Value} {z : Int} {K : Nat} (h : IntV w w.heap.size v z K) (hk : Dk w w') : IntV w' w'.heap.size v z K := by
  obtain ⟨ng, a, n, cap, f, e, h1, h2, h3, h4, h5, h6⟩ := h
  exact ⟨ng, a, n, cap, f, e, h1, h2, h3, h4, h5.dk hk, h6⟩
theorem IntV.nxt {v : Value} {z : Int} {K : Nat} (hb : Below w.heap.size w w') (h : IntV w w.heap.size v z K) : IntV w' w'.heap.size v z K := h.on hb hb.size
/-- Two integers' boxes are written: numbers stay. -/
theorem Dk.box {g : Nat} {u : Bool} {a : Option Addr} {n c : Nat} {t : TypeId} (h : w.heap[g]? = some (.cells #[.bool u, .slice a n c] t (0, 0))) (x y : Value) : Dk w ((w.setCell ⟨g, 0, none⟩ x).setCell ⟨g, 1, none⟩ y) := by
  have h0 : w.cell? ⟨g, 0, none⟩ = some (.bool u) := by simp [World.cell?, h]
  have h1 : w.cell? ⟨g, 1, none⟩ = some (.slice a n c) := by simp [World.cell?, h]
  refine (Dk.set h0 (fun i e => by cases e) x).trans (Dk.set (u := .slice a n c) ?_ (fun i e => by cases e) y)
  rw [World.cell?_setCell_other]
  · exact h1
  · intro e; cases e
end

def S3 (w : World) (xg yg : Bool) (xa ya : Option Addr) (xn xc yn yc : Nat) (W : World) : Prop := Below w.heap.size w W ∧ w.heap.size + 1 + 1 + 1 < W.heap.size ∧ W.cell? ⟨w.heap.size, 0, none⟩ = some (.bool xg) ∧ W.cell? ⟨w.heap.size, 1, none⟩ = some (.slice xa xn xc) ∧ W.cell? ⟨w.heap.size + 1, 0, none⟩ = some (.bool yg) ∧ W.cell? ⟨w.heap.size + 1, 1, none⟩ = some (.slice ya yn yc) ∧ (∃ (u : Bool) (ra : Option Addr) (rn rc : Nat), W.heap[w.heap.size + 1 + 1]? = some (.cells #[.bool u, .slice ra rn rc] 48 (0, 0))) ∧ ∃ (u : Bool) (ra : Option Addr) (rn rc : Nat), W.heap[w.heap.size + 1 + 1 + 1]? = some (.cells #[.bool u, .slice ra rn rc] 48 (0, 0))
section
variable {w W W' : World} {xg yg : Bool} {xa ya : Option Addr} {xn xc yn yc : Nat}
theorem S3.start : S3 w xg yg xa ya xn xc yn yc ((((w.alloc (.cells #[.bool xg, .slice xa xn xc] 48)).alloc (.cells #[.bool yg, .slice ya yn yc] 48)).alloc (.cells #[.bool false, .slice none 0 0] 48)).alloc (.cells #[.bool false, .slice none 0 0] 48)) := by
  refine ⟨((((Below.refl w.heap.size w).alloc (Nat.le_refl _) _).alloc (by simp) _).alloc (by simp; omega) _).alloc (by simp; omega) _, by simp, ?_, ?_, ?_, ?_, ⟨false, none, 0, 0, ?_⟩, ⟨false, none, 0, 0, ?_⟩⟩
  case refine_5 => exact (Below.heap_alloc _ _ _ (by simp)).trans (blk_lies (by simp))
  case refine_6 => exact blk_lies (by simp)
  all_goals simp [go_sem]
theorem S3.next (h : S3 w xg yg xa ya xn xc yn yc W) (hb : Below W.heap.size W W') : S3 w xg yg xa ya xn xc yn yc W' := by
  obtain ⟨h1, h2, h3, h4, h5, h6, ⟨u, ra, rn, rc, h7⟩, ⟨u', ra', rn', rc', h8⟩⟩ := h
  exact ⟨h1.trans (hb.mono h1.size), by have := hb.size; omega, keep_cell hb (by omega) h3, keep_cell hb (by omega) h4, keep_cell hb (by omega) h5, keep_cell hb (by omega) h6, ⟨u, ra, rn, rc, (hb.block _ (by omega)).trans h7⟩, ⟨u', ra', rn', rc', (hb.block _ (by omega)).trans h8⟩⟩
theorem S3.drew (h : S3 w xg yg xa ya xn xc yn yc W) : S3 w xg yg xa ya xn xc yn yc W.drew := h.next (Below.refl _ _).drew
theorem S3.res (h : S3 w xg yg xa ya xn xc yn yc W) : (∃ u v u' v', W.cell? ⟨w.heap.size + 1 + 1, 0, none⟩ = some u ∧ W.cell? ⟨w.heap.size + 1 + 1, 1, none⟩ = some v ∧ W.cell? ⟨w.heap.size + 1 + 1 + 1, 0, none⟩ = some u' ∧ W.cell? ⟨w.heap.size + 1 + 1 + 1, 1, none⟩ = some v') ∧ (∀ j, W.frozen? ⟨w.heap.size + 1 + 1, j, none⟩ = false) ∧ ∀ j, W.frozen? ⟨w.heap.size + 1 + 1 + 1, j, none⟩ = false := by
  obtain ⟨h1, h2, h3, h4, h5, h6, ⟨u, ra, rn, rc, h7⟩, ⟨u', ra', rn', rc', h8⟩⟩ := h
  exact ⟨⟨.bool u, .slice ra rn rc, .bool u', .slice ra' rn' rc', by simp [World.cell?, h7], by simp [World.cell?, h7], by simp [World.cell?, h8], by simp [World.cell?, h8]⟩, fun j => by simp [World.frozen?, h7], fun j => by simp [World.frozen?, h8]⟩
theorem set_blk {W : World} {g g' : Nat} {u : Bool} {ra : Option Addr} {rn rc : Nat} {t : TypeId} (h : W.heap[g']? = some (.cells #[.bool u, .slice ra rn rc] t (0, 0))) (x : Bool) (sa : Option Addr) (sn sc : Nat) :
    ∃ (u : Bool) (ra : Option Addr) (rn rc : Nat), ((W.setCell ⟨g, 0, none⟩ (.bool x)).setCell ⟨g, 1, none⟩ (.slice sa sn sc)).heap[g']? = some (.cells #[.bool u, .slice ra rn rc] t (0, 0)) := by
  by_cases e : g' = g
  · subst e
    exact ⟨x, sa, sn, sc, by simp [World.setCell, Array.getElem?_modify, h]⟩
  · exact ⟨u, ra, rn, rc, ((Below.heap_setCell _ _ _ _ e).trans (Below.heap_setCell _ _ _ _ e)).trans h⟩
theorem S3.store (h : S3 w xg yg xa ya xn xc yn yc W) (g : Nat) (hg : g = w.heap.size + 1 + 1 ∨ g = w.heap.size + 1 + 1 + 1) (x : Bool) (sa : Option Addr) (sn sc : Nat) : S3 w xg yg xa ya xn xc yn yc ((W.setCell ⟨g, 0, none⟩ (.bool x)).setCell ⟨g, 1, none⟩ (.slice sa sn sc)) := by
  obtain ⟨h1, h2, h3, h4, h5, h6, ⟨u, ra, rn, rc, h7⟩, ⟨u', ra', rn', rc', h8⟩⟩ := h
  have hk : ∀ (b o : Nat) (v : Value), b ≠ g → W.cell? ⟨b, o, none⟩ = some v → ((W.setCell ⟨g, 0, none⟩ (.bool x)).setCell ⟨g, 1, none⟩ (.slice sa sn sc)).cell? ⟨b, o, none⟩ = some v := fun b o v hb hc => (set_other W g 0 1 (.bool x) (.slice sa sn sc) b o hb).trans hc
  exact ⟨(h1.setCell (p := (⟨g, 0, none⟩ : Addr)) (show w.heap.size ≤ g by omega) (.bool x)).setCell (p := (⟨g, 1, none⟩ : Addr)) (show w.heap.size ≤ g by omega) (.slice sa sn sc), by simpa using h2,
    hk _ _ _ (by omega) h3, hk _ _ _ (by omega) h4, hk _ _ _ (by omega) h5, hk _ _ _ (by omega) h6, set_blk h7 x sa sn sc, set_blk h8 x sa sn sc⟩
/-- Behind both results. -/
theorem S3.fin (h : S3 w xg yg xa ya xn xc yn yc W) {v : Value} {z : Int} {K : Nat} (hv : IntV W W.heap.size v z K) (x y x' y' : Value) :
    IntV ((((W.setCell ⟨w.heap.size + 1 + 1, 0, none⟩ x).setCell ⟨w.heap.size + 1 + 1, 1, none⟩ y).setCell ⟨w.heap.size + 1 + 1 + 1, 0, none⟩ x').setCell ⟨w.heap.size + 1 + 1 + 1, 1, none⟩ y') ((((W.setCell ⟨w.heap.size + 1 + 1, 0, none⟩ x).setCell ⟨w.heap.size + 1 + 1, 1, none⟩ y).setCell ⟨w.heap.size + 1 + 1 + 1, 0, none⟩ x').setCell ⟨w.heap.size + 1 + 1 + 1, 1, none⟩ y').heap.size v z K ∧
    Below w.heap.size w ((((W.setCell ⟨w.heap.size + 1 + 1, 0, none⟩ x).setCell ⟨w.heap.size + 1 + 1, 1, none⟩ y).setCell ⟨w.heap.size + 1 + 1 + 1, 0, none⟩ x').setCell ⟨w.heap.size + 1 + 1 + 1, 1, none⟩ y') := by
  obtain ⟨h1, h2, h3, h4, h5, h6, ⟨u, ra, rn, rc, h7⟩, ⟨u', ra', rn', rc', h8⟩⟩ := h
  have e := ((Below.heap_setCell (W.setCell ⟨w.heap.size + 1 + 1, 0, none⟩ x) ⟨w.heap.size + 1 + 1, 1, none⟩ y (w.heap.size + 1 + 1 + 1) (by show _ ≠ w.heap.size + 1 + 1; omega)).trans (Below.heap_setCell W ⟨w.heap.size + 1 + 1, 0, none⟩ x (w.heap.size + 1 + 1 + 1) (by show _ ≠ w.heap.size + 1 + 1; omega))).trans h8
  exact ⟨hv.dk ((Dk.box h7 x y).trans (Dk.box e x' y')), (((h1.setCell (p := (⟨w.heap.size + 1 + 1, 0, none⟩ : Addr)) (show w.heap.size ≤ w.heap.size + 1 + 1 by omega) x).setCell (p := (⟨w.heap.size + 1 + 1, 1, none⟩ : Addr)) (show w.heap.size ≤ w.heap.size + 1 + 1 by omega) y).setCell (p := (⟨w.heap.size + 1 + 1 + 1, 0, none⟩ : Addr)) (show w.heap.size ≤ w.heap.size + 1 + 1 + 1 by omega) x').setCell (p := (⟨w.heap.size + 1 + 1 + 1, 1, none⟩ : Addr)) (show w.heap.size ≤ w.heap.size + 1 + 1 + 1 by omega) y'⟩
end

theorem sgn_tdiv (x y : Bool) (a b : Nat) : sgn (x != y) (a / b) = (sgn x a).tdiv (sgn y b) := by
  cases x <;> cases y <;> simp [sgn, Int.neg_tdiv, Int.tdiv_neg, Int.ofNat_tdiv]

set_option maxRecDepth 100000 in
set_option maxHeartbeats 6400000 in
theorem div_any (x y : Value) (a b : Int) (K K' : Nat) (w : World) (hK : K ≤ 10000) (hK' : K' ≤ 10000) (hb0 : b ≠ 0) (hx : IntV w w.heap.size x a K) (hy : IntV w w.heap.size y b K') :
    Calls Tryz.prog 50 #[x, y] w fun e w' => ∃ v g2 a2 n2 c2, e = .returned (.tuple #[v, .agg #[.bool g2, .slice a2 n2 c2], .int .i64 0]) ∧ IntV w' w'.heap.size v (a.tdiv b) K ∧ Below w.heap.size w w' := by
  obtain ⟨xg, xa, xn, xc, f, rfl, hx1, hx2, hx3, hx4, hx5, rfl, hx7⟩ := hx
  obtain ⟨yg, ya, yn, yc, g, rfl, hy1, hy2, hy3, hy4, hy5, rfl, hy7⟩ := hy
  have hyn : 0 < yn := by
    rcases Nat.eq_zero_or_pos yn with h | h
    · subst h; exact absurd (by cases yg <;> simp [sgn, vl]) hb0
    · exact h
  have hynI : ¬ (yn : Int) = 0 := by omega
  have hynb : ((yn : Int) == 0) = false := beq_eq_false_iff_ne.2 hynI
  have hDV := Lib.hid (fun W (h : S3 w xg yg xa ya xn xc yn yc W) => divide_any xn yn f g xa ya xc yc W (by omega) (by omega) hyn hx2 hy2 hx3 hx4 hy3 (hx5.on h.1 h.1.size) (hy5.on h.1 h.1.size))
  have hEQ := Lib.hid (sgn_tdiv xg yg (vl f xn) (vl g yn))
  have s0 := S3.start (w := w) (xg := xg) (yg := yg) (xa := xa) (ya := ya) (xn := xn) (xc := xc) (yn := yn) (yc := yc)
  go_enter Tryz.func50, Tryz.ntmps50
  go_upto_region 1 with fail
  generalize (((w.alloc _).alloc _).alloc _).alloc _ = w1 at *
  have t := s0
  obtain ⟨t1, t2, t3, t4, t5, t6, _⟩ := t
  go_upto_region 4 with (go_at_call 82; refine (hDV.out _ s0).mono ?_; rintro e w2 ⟨qa, qn, qc, h, ra, rn, rc, r, rfl, e1, e2, e3, e4, e5, e6, e7, e8, e9, e10, e11, e12, hb2⟩)
  have s2 := s0.next hb2
  rw [← e3] at hEQ
  have HS1 := fun W (hd : DAt W W.heap.size qa qn h) => signed_any (!(xg == yg)) qn h qa qc W (by omega) e7 e8 e1.1 hd
  have HS2 := fun W (hd : DAt W W.heap.size ra rn r) => signed_any xg rn r ra rc W (by omega) e9 e10 e2.1 hd
  have e5' := e5
  clear e1 e2 e3 e4 e7 e8 e9 e10 hb2 t1 t2 t3 t4 t5 t6 s0 hDV hb0 hx2 hx5 hx7 hy2 hy5 hy7 hynI hynb
  go_region_held3 (fun W => (Below w.heap.size w W ∧ w.heap.size + 1 + 1 + 1 < W.heap.size ∧ W.cell? ⟨w.heap.size, 0, none⟩ = some (.bool xg) ∧ W.cell? ⟨w.heap.size, 1, none⟩ = some (.slice xa xn xc) ∧ W.cell? ⟨w.heap.size + 1, 0, none⟩ = some (.bool yg) ∧ W.cell? ⟨w.heap.size + 1, 1, none⟩ = some (.slice ya yn yc) ∧ (∃ (u : Bool) (ra : Option Addr) (rn rc : Nat), W.heap[w.heap.size + 1 + 1]? = some (.cells #[.bool u, .slice ra rn rc] 48 (0, 0))) ∧ ∃ (u : Bool) (ra : Option Addr) (rn rc : Nat), W.heap[w.heap.size + 1 + 1 + 1]? = some (.cells #[.bool u, .slice ra rn rc] 48 (0, 0))))
    (first
      | exact s2
      | exact s2.drew
      | assumption
      | exact S3.next (by assumption) (by assumption)
      | exact S3.store (by assumption) _ (.inl rfl) _ _ _ _
      | exact S3.store (by assumption) _ (.inr rfl) _ _ _ _)
    (first
      | (go_at_call 51; (with_reducible refine (HS1 _ (by first | exact e11 | exact DAt.on e11 (Below.refl _ _).drew (Nat.le_refl _) | exact (DAt.on e11 (Below.refl _ _).drew (Nat.le_refl _)).on hbB hbB.size)).mono ?_); rintro e w5 ⟨v, rfl, hvA, hbA⟩; obtain ⟨ng, va, vn, vc, hvv⟩ := IntV.form hvA; subst hvv; obtain ⟨⟨z0, z1, z2, z3, r0, r1, r2, r3⟩, rf1, rf2⟩ := S3.res (S3.next (show S3 w xg yg xa ya xn xc yn yc _ by assumption) hbA))
      | (go_at_call 51; (with_reducible refine (HS2 _ (by first | exact e12 | exact DAt.on e12 (Below.refl _ _).drew (Nat.le_refl _) | exact (DAt.on e12 (Below.refl _ _).drew (Nat.le_refl _)).on hbA hbA.size)).mono ?_); rintro e w6 ⟨v, rfl, hvB, hbB⟩; obtain ⟨ng2, va2, vn2, vc2, hvv⟩ := IntV.form hvB; subst hvv; have hS6 := S3.next (show S3 w xg yg xa ya xn xc yn yc _ by assumption) hbB; obtain ⟨⟨z0, z1, z2, z3, r0, r1, r2, r3⟩, rf1, rf2⟩ := S3.res hS6))
  all_goals go_wp2_with fail
  have HF := S3.fin hS6 (IntV.nxt hbB hvA) (.bool ng) (.slice va vn vc) (.bool ng2) (.slice va2 vn2 vc2)
  refine bodyPost_ret (v := .tuple #[.agg #[.bool ng, .slice va vn vc], .agg #[.bool ng2, .slice va2 vn2 vc2], .int .i64 0]) (by simp [results, Tryz.results50, go_sem, r0, r1, r2, r3]) rfl ⟨_, ng2, va2, vn2, vc2, rfl, ?_, HF.2⟩
  rw [← hEQ.out]
  exact HF.1.wide (by omega)
end Go.Proofs.YtfoadipocpopiaaGreat
