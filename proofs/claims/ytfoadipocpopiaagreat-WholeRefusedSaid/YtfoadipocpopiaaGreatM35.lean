/- Several texts in one: The walks over bigint.Int's Cmp and Int. Conditions: the integers lie in memory. Bits of two digits. Conditions: each theorem's own. Rational numbers in memory; the walk over rational.reduced. Conditions: the integers lie in memory, the denominator is positive. -/
import Derived.Test.YtfoadipocpopiaaGreatBigDiv
namespace Go.Proofs.YtfoadipocpopiaaGreat
section
open Go.RowKit Go.Deep

def cmpZ (a b : Int) : Int := if a < b then -1 else if b < a then 1 else 0
theorem cmpZ_sgn_pos (a b : Nat) : cmpZ (sgn false a) (sgn false b) = cmpN a b := by
  unfold cmpZ cmpN sgn
  simp
theorem cmpZ_sgn_neg (a b : Nat) : cmpZ (sgn true a) (sgn true b) = cmpN b a := by
  have h1 : (-(a : Int) < -(b : Int)) ↔ b < a := by omega
  have h2 : (-(b : Int) < -(a : Int)) ↔ a < b := by omega
  simp only [cmpZ, cmpN, sgn, if_true, h1, h2]
theorem cmpZ_sg_lt {a b : Int} (h : sg a < sg b) : cmpZ a b = -1 := by
  unfold cmpZ
  rw [if_pos]
  unfold sg at h
  split at h <;> split at h <;> (try split at h) <;> (try split at h) <;> omega
theorem cmpZ_sg_gt {a b : Int} (h : sg b < sg a) : cmpZ a b = 1 := by
  have hh : b < a := by
    unfold sg at h
    split at h <;> split at h <;> (try split at h) <;> (try split at h) <;> omega
  unfold cmpZ
  rw [if_neg (by omega), if_pos hh]
theorem sg_ne_neg (a : Nat) : sg (sgn false a) ≠ -1 := by
  rcases Nat.eq_zero_or_pos a with e | e
  · subst e; decide
  · rw [sg_pos (by simp only [sgn]; simpa using e)]; decide
theorem sg_eq_cases {xg yg : Bool} {a b : Nat} (hx : xg = true → 0 < a) (hy : yg = true → 0 < b) (h : sg (sgn xg a) = sg (sgn yg b)) : xg = yg := by
  cases xg <;> cases yg
  · rfl
  · have h1 := hy rfl
    rw [sg_neg (z := sgn true b) (by simp only [sgn, if_true]; omega)] at h
    exact absurd h (sg_ne_neg a)
  · have h1 := hx rfl
    rw [sg_neg (z := sgn true a) (by simp only [sgn, if_true]; omega)] at h
    exact absurd h.symm (sg_ne_neg b)
  · rfl

def SC (w : World) (xg yg : Bool) (xa ya : Option Addr) (xn xc yn yc : Nat) (W : World) : Prop := Below w.heap.size w W ∧ w.heap.size + 1 < W.heap.size ∧ W.cell? ⟨w.heap.size, 0, none⟩ = some (.bool xg) ∧ W.cell? ⟨w.heap.size, 1, none⟩ = some (.slice xa xn xc) ∧ W.cell? ⟨w.heap.size + 1, 0, none⟩ = some (.bool yg) ∧ W.cell? ⟨w.heap.size + 1, 1, none⟩ = some (.slice ya yn yc)
section
variable {w W W' : World} {xg yg : Bool} {xa ya : Option Addr} {xn xc yn yc : Nat}
theorem SC.start : SC w xg yg xa ya xn xc yn yc ((w.alloc (.cells #[.bool xg, .slice xa xn xc] 48)).alloc (.cells #[.bool yg, .slice ya yn yc] 48)) := by
  refine ⟨((Below.refl w.heap.size w).alloc (Nat.le_refl _) _).alloc (by simp) _, by simp, ?_, ?_, ?_, ?_⟩
  all_goals simp [go_sem]
theorem SC.next (h : SC w xg yg xa ya xn xc yn yc W) (hb : Below W.heap.size W W') : SC w xg yg xa ya xn xc yn yc W' := by
  obtain ⟨h1, h2, h3, h4, h5, h6⟩ := h
  exact ⟨h1.trans (hb.mono h1.size), by have := hb.size; omega, keep_cell hb (by omega) h3, keep_cell hb (by omega) h4, keep_cell hb (by omega) h5, keep_cell hb (by omega) h6⟩
theorem SC.drew (h : SC w xg yg xa ya xn xc yn yc W) : SC w xg yg xa ya xn xc yn yc W.drew := h.next (Below.refl _ _).drew
end

set_option maxRecDepth 100000 in
set_option maxHeartbeats 6400000 in
theorem cmp_any (x y : Value) (a b : Int) (K : Nat) (w : World) (hK : K ≤ 10000) (hx : IntV w w.heap.size x a K) (hy : IntV w w.heap.size y b K) :
    Calls Tryz.prog 38 #[x, y] w fun e w' => e = .returned (.int .i64 (cmpZ a b)) ∧ Below w.heap.size w w' := by
  have HX := fun W => sign_any x a K W w hK hx
  have HY := fun W => sign_any y b K W w hK hy
  obtain ⟨xg, xa, xn, xc, f, rfl, hx1, hx2, hx3, hx4, hx5, rfl, hx7⟩ := hx
  obtain ⟨yg, ya, yn, yc, g, rfl, hy1, hy2, hy3, hy4, hy5, rfl, hy7⟩ := hy
  have s0 := SC.start (w := w) (xg := xg) (yg := yg) (xa := xa) (ya := ya) (xn := xn) (xc := xc) (yn := yn) (yc := yc)
  have HC1 := Lib.hid (fun W (h : SC w xg yg xa ya xn xc yn yc W) => compare_any xn yn f g xa ya xc yc W (by omega) (by omega) hx2 hy2 (hx5.on h.1 h.1.size) (hy5.on h.1 h.1.size))
  have HC2 := Lib.hid (fun W (h : SC w xg yg xa ya xn xc yn yc W) => compare_any yn xn g f ya xa yc xc W (by omega) (by omega) hy2 hx2 (hy5.on h.1 h.1.size) (hx5.on h.1 h.1.size))
  have HSG := Lib.hid (sg_eq_cases (xg := xg) (yg := yg) (a := vl f xn) (b := vl g yn) (fun h => vl_pos hx2 (hx7 h)) (fun h => vl_pos hy2 (hy7 h)))
  have HLT := Lib.hid (fun (h : sg (sgn xg (vl f xn)) < sg (sgn yg (vl g yn))) => cmpZ_sg_lt h)
  have HGT := Lib.hid (fun (h : sg (sgn yg (vl g yn)) < sg (sgn xg (vl f xn))) => cmpZ_sg_gt h)
  generalize hs1 : sg (sgn xg (vl f xn)) = s1 at *
  generalize hs2 : sg (sgn yg (vl g yn)) = s2 at *
  clear hx2 hx5 hx7 hy2 hy5 hy7 hs1 hs2
  go_enter Tryz.func38, Tryz.ntmps38
  go_upto_region 1 with fail
  generalize (w.alloc _).alloc _ = w1 at *
  go_region_held3 (fun W => (Below w.heap.size w W ∧ w.heap.size + 1 < W.heap.size ∧ W.cell? ⟨w.heap.size, 0, none⟩ = some (.bool xg) ∧ W.cell? ⟨w.heap.size, 1, none⟩ = some (.slice xa xn xc) ∧ W.cell? ⟨w.heap.size + 1, 0, none⟩ = some (.bool yg) ∧ W.cell? ⟨w.heap.size + 1, 1, none⟩ = some (.slice ya yn yc)))
    (first
      | exact s0
      | exact s0.drew
      | assumption
      | exact SC.next (by assumption) (by assumption))
    (first
      | (go_at_call 47; (with_reducible refine (HX _).mono ?_); rintro e w2 ⟨rfl, hb2⟩)
      | (go_at_call 47; (with_reducible refine (HY _).mono ?_); rintro e w3 ⟨rfl, hb3⟩; have s3 := SC.next (show SC w xg yg xa ya xn xc yn yc _ by assumption) hb3))
  by_cases he : s1 = s2
  · have hbo : (s1 != s2) = false := by simp [he]
    obtain rfl := HSG.out he
    have q := s3
    obtain ⟨q1, q2, q3, q4, q5, q6⟩ := q
    clear HSG HLT HGT he hb2 hb3
    cases xg with
    | false =>
      have HE := Lib.hid (cmpZ_sgn_pos (vl f xn) (vl g yn))
      go_wp2_with (go_at_call 54; refine (HC1.out _ s3).mono ?_; rintro e w4 ⟨rfl, hb4⟩)
      go_ret
      exact ⟨ret_int HE.out.symm, q1.trans (hb4.mono q1.size)⟩
    | true =>
      have HE := Lib.hid (cmpZ_sgn_neg (vl f xn) (vl g yn))
      go_wp2_with (go_at_call 54; refine (HC2.out _ s3).mono ?_; rintro e w4 ⟨rfl, hb4⟩)
      go_ret
      exact ⟨ret_int HE.out.symm, q1.trans (hb4.mono q1.size)⟩
  · have hbo : (s1 != s2) = true := by simp [he]
    clear HSG HC1 HC2 hb2 hb3
    go_upto_region 2 with fail
    go_region_held3 (fun W => (Below w.heap.size w W ∧ w.heap.size + 1 < W.heap.size ∧ W.cell? ⟨w.heap.size, 0, none⟩ = some (.bool xg) ∧ W.cell? ⟨w.heap.size, 1, none⟩ = some (.slice xa xn xc) ∧ W.cell? ⟨w.heap.size + 1, 0, none⟩ = some (.bool yg) ∧ W.cell? ⟨w.heap.size + 1, 1, none⟩ = some (.slice ya yn yc)))
      (first
        | exact s3
        | exact s3.drew
        | assumption
        | exact SC.next (by assumption) (by assumption))
      (first
        | (go_at_call 47; (with_reducible refine (HX _).mono ?_); rintro e w4 ⟨rfl, hb4⟩)
        | (go_at_call 47; (with_reducible refine (HY _).mono ?_); rintro e w5 ⟨rfl, hb5⟩; have s5 := SC.next (show SC w xg yg xa ya xn xc yn yc _ by assumption) hb5))
    have q1 := s5.1
    by_cases hl : s1 < s2
    · have HV := Lib.hid (HLT.out hl)
      have hd : decide (s1 < s2) = true := decide_eq_true hl
      clear HLT HGT
      go_wp2_with fail
      go_ret
      exact ⟨ret_int HV.out.symm, q1⟩
    · have HV := Lib.hid (HGT.out (by omega))
      have hd : decide (s1 < s2) = false := decide_eq_false hl
      clear HLT HGT
      go_wp2_with fail
      go_ret
      exact ⟨ret_int HV.out.symm, q1⟩
end

section
open Go.RowKit Go.Deep

theorem or_hi (a b : Nat) (ha : a < BB) (hb : b < BB) : bits .or .u64 (b : Int) ((a : Int) * 4294967296) = ((b + a * BB : Nat) : Int) := by
  have hBB : BB = 4294967296 := rfl
  have h := bits_or_u64_nat b (a * 4294967296) (by omega) (by omega)
  rw [Int.natCast_mul] at h
  have h2 := Nat.two_pow_add_eq_or_of_lt (i := 32) (b := b) (by omega) a
  rw [show ((4294967296 : Nat) : Int) = 4294967296 from rfl] at h
  rw [h, hBB, Nat.or_comm, Nat.mul_comm a, show (4294967296 : Nat) = 2 ^ 32 from rfl, ← h2, Nat.add_comm]
theorem or_zero64 (a : Nat) (ha : a < BB) : bits .or .u64 0 (a : Int) = (a : Int) := by
  have hBB : BB = 4294967296 := rfl
  have h := bits_or_u64_nat 0 a (by omega) (by omega)
  simpa using h
end

section
open Go.RowKit Go.Deep

/-- v is the number p / q; a denominator 0 in memory stands for 1. -/
def RatV (w : World) (v : Value) (p : Int) (q K : Nat) : Prop :=
  ∃ (g1 : Bool) (a1 : Option Addr) (n1 c1 : Nat) (g2 : Bool) (a2 : Option Addr) (n2 c2 qd : Nat), v = .agg #[.bool g1, .slice a1 n1 c1, .bool g2, .slice a2 n2 c2] ∧ IntV w w.heap.size (.agg #[.bool g1, .slice a1 n1 c1]) p K ∧ IntV w w.heap.size (.agg #[.bool g2, .slice a2 n2 c2]) qd K ∧ (qd = q ∨ (qd = 0 ∧ q = 1)) ∧ 0 < q
section
variable {w w' : World} {v : Value} {p : Int} {q K K' : Nat}
theorem RatV.dk (h : RatV w v p q K) (hk : Dk w w') : RatV w' v p q K := by
  obtain ⟨g1, a1, n1, c1, g2, a2, n2, c2, qd, e, h1, h2, h3⟩ := h
  exact ⟨g1, a1, n1, c1, g2, a2, n2, c2, qd, e, h1.dk hk, h2.dk hk, h3⟩
theorem RatV.nxt (hb : Below w.heap.size w w') (h : RatV w v p q K) : RatV w' v p q K := h.dk (Dk.below hb)
theorem RatV.wide (h : RatV w v p q K) (hK : K ≤ K') : RatV w v p q K' := by
  obtain ⟨g1, a1, n1, c1, g2, a2, n2, c2, qd, e, h1, h2, h3⟩ := h
  exact ⟨g1, a1, n1, c1, g2, a2, n2, c2, qd, e, h1.wide hK, h2.wide hK, h3⟩
theorem RatV.form (h : RatV w v p q K) : ∃ (g1 : Bool) (a1 : Option Addr) (n1 c1 : Nat) (g2 : Bool) (a2 : Option Addr) (n2 c2 : Nat), v = .agg #[.bool g1, .slice a1 n1 c1, .bool g2, .slice a2 n2 c2] := by
  obtain ⟨g1, a1, n1, c1, g2, a2, n2, c2, qd, e, _⟩ := h
  exact ⟨g1, a1, n1, c1, g2, a2, n2, c2, e⟩
end
theorem IntV.zero (w : World) (N K : Nat) : IntV w N (.agg #[.bool false, .slice none 0 0]) 0 K :=
  ⟨false, none, 0, 0, fun _ => 0, rfl, by omega, Nrm.zero, by omega, by omega, DAt.zero _ _ _ _, rfl, fun h => by cases h⟩
theorem RatV.zero (w : World) (K : Nat) : RatV w (.agg #[.bool false, .slice none 0 0, .bool false, .slice none 0 0]) 0 1 K :=
  ⟨false, none, 0, 0, false, none, 0, 0, 0, rfl, IntV.zero _ _ _, IntV.zero _ _ _, .inr ⟨rfl, rfl⟩, by omega⟩

/-- The block g is a box of an integer. -/
def Box (w : World) (g : Nat) (u : Bool) (a : Option Addr) (n c : Nat) : Prop := w.cell? ⟨g, 0, none⟩ = some (.bool u) ∧ w.cell? ⟨g, 1, none⟩ = some (.slice a n c) ∧ g < w.heap.size
/-- The block g holds four cells of a rational number and can be written. -/
def Box4 (w : World) (g : Nat) : Prop := ∃ (g1 : Bool) (a1 : Option Addr) (n1 c1 : Nat) (g2 : Bool) (a2 : Option Addr) (n2 c2 : Nat), w.heap[g]? = some (.cells #[.bool g1, .slice a1 n1 c1, .bool g2, .slice a2 n2 c2] 50 (0, 0))
section
variable {w w' : World} {g : Nat} {u : Bool} {a : Option Addr} {n c : Nat}
theorem Box.next (h : Box w g u a n c) (hb : Below w.heap.size w w') : Box w' g u a n c :=
  ⟨keep_cellN hb h.2.2 h.1, keep_cellN hb h.2.2 h.2.1, by have := hb.size; have := h.2.2; omega⟩
theorem Box.made (w : World) (u : Bool) (a : Option Addr) (n c : Nat) (t : TypeId) : Box (w.alloc (.cells #[.bool u, .slice a n c] t)) w.heap.size u a n c :=
  ⟨by simp [go_sem], by simp [go_sem], by simp⟩
theorem Box4.lt (h : Box4 w g) : g < w.heap.size := by
  obtain ⟨g1, a1, n1, c1, g2, a2, n2, c2, e⟩ := h
  exact (Array.getElem?_eq_some_iff.1 e).1
theorem Box4.next (h : Box4 w g) (hb : Below w.heap.size w w') : Box4 w' g := by
  have hl := h.lt
  obtain ⟨g1, a1, n1, c1, g2, a2, n2, c2, e⟩ := h
  exact ⟨g1, a1, n1, c1, g2, a2, n2, c2, (hb.block g hl).trans e⟩
theorem Box4.cells (h : Box4 w g) : (∃ v0 v1 v2 v3, w.cell? ⟨g, 0, none⟩ = some v0 ∧ w.cell? ⟨g, 1, none⟩ = some v1 ∧ w.cell? ⟨g, 2, none⟩ = some v2 ∧ w.cell? ⟨g, 3, none⟩ = some v3) ∧ ∀ j, w.frozen? ⟨g, j, none⟩ = false := by
  obtain ⟨g1, a1, n1, c1, g2, a2, n2, c2, e⟩ := h
  exact ⟨⟨_, _, _, _, by simp only [World.cell?, e]; rfl, by simp only [World.cell?, e]; rfl, by simp only [World.cell?, e]; rfl, by simp only [World.cell?, e]; rfl⟩, fun j => by simp [World.frozen?, e]⟩
theorem no_u32_4 {g1 g2 : Bool} {a1 a2 : Option Addr} {n1 c1 n2 c2 : Nat} {t : TypeId} (h : w.heap[g]? = some (.cells #[.bool g1, .slice a1 n1 c1, .bool g2, .slice a2 n2 c2] t (0, 0))) (o : Nat) (i : Int) : w.cell? ⟨g, o, none⟩ ≠ some (.int .u32 i) := by
  simp only [World.cell?, h]
  match o with
  | 0 => simp
  | 1 => simp
  | 2 => simp
  | 3 => simp
  | k + 4 => simp
/-- Four cells written: numbers stay, and all else below. -/
theorem Box4.set (h : Box4 w g) (x0 x1 x2 x3 : Value) : Dk w ((((w.setCell ⟨g, 0, none⟩ x0).setCell ⟨g, 1, none⟩ x1).setCell ⟨g, 2, none⟩ x2).setCell ⟨g, 3, none⟩ x3) := by
  obtain ⟨g1, a1, n1, c1, g2, a2, n2, c2, e⟩ := h
  refine ⟨by simp [World.setCell], fun b o i hc => ?_⟩
  have hne : b ≠ g := by
    rintro rfl
    exact no_u32_4 e o i hc
  rw [World.cell?_setCell_other, World.cell?_setCell_other, World.cell?_setCell_other, World.cell?_setCell_other]
  · exact hc
  all_goals (intro e; injection e with e1; exact hne e1.symm)
end
theorem Below.set4 {N g : Nat} {w w' : World} (h : Below N w w') (hg : N ≤ g) (x0 x1 x2 x3 : Value) : Below N w ((((w'.setCell ⟨g, 0, none⟩ x0).setCell ⟨g, 1, none⟩ x1).setCell ⟨g, 2, none⟩ x2).setCell ⟨g, 3, none⟩ x3) :=
  (((h.setCell (p := (⟨g, 0, none⟩ : Addr)) hg x0).setCell (p := (⟨g, 1, none⟩ : Addr)) hg x1).setCell (p := (⟨g, 2, none⟩ : Addr)) hg x2).setCell (p := (⟨g, 3, none⟩ : Addr)) hg x3
end
end Go.Proofs.YtfoadipocpopiaaGreat
