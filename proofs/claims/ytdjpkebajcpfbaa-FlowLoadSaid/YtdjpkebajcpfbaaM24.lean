/- Several texts in one: The walk over bigint.Int's Int, for numbers that are not negative. Conditions: the integer lies in memory and is an int. Rational numbers in memory; the walk over rational.reduced. Conditions: the integers lie in memory, the denominator is positive. -/
import Derived.Test.YtdjpkebajcpfbaaBigCmp
namespace Go.Proofs.Ytdjpkebajcpfbaa
section
open Go.RowKit Go.Deep

theorem or_hi (a b : Nat) (ha : a < BB) (hb : b < BB) : bits .or .u64 (b : Int) ((a : Int) * 4294967296) = ((b + a * BB : Nat) : Int) := by
  have hBB : BB = 4294967296 := rfl
  have h := bits_or_u64_nat b (a * 4294967296) (by omega) (by omega)
  rw [Int.natCast_mul] at h
  have h2 := Nat.two_pow_add_eq_or_of_lt (i := 32) (b := b) (by omega) a
  rw [show ((4294967296 : Nat) : Int) = 4294967296 from rfl] at h
  rw [h, hBB, Nat.or_comm, Nat.mul_comm a, show (4294967296 : Nat) = 2 ^ 32 from rfl, ← h2, Nat.add_comm]
theorem or_zero64 (a : Nat) (ha : a < BB) : bits .or .u64 0 (a : Int) = (a : Int) := by
  have hBB : BB = 4294967296 := rfl
  have h := bits_or_u64_nat 0 a (by omega) (by omega)
  simpa using h

set_option maxRecDepth 100000 in
set_option maxHeartbeats 6400000 in
theorem int_any (x : Value) (z K : Nat) (w : World) (hz : z ≤ 9223372036854775807) (hx : IntV w w.heap.size x z K) :
    Calls Try.prog 31 #[x] w fun e w' => e = .returned (.tuple #[.int .i64 z, .bool true]) ∧ Below w.heap.size w w' := by
  obtain ⟨xg, xa, xn, xc, f, rfl, hx1, hx2, hx3, hx4, hx5, hz0, hx7⟩ := hx.tight (K' := 2) (by rw [Int.natAbs_natCast]; have : BB ^ 2 = 18446744073709551616 := rfl; omega)
  obtain rfl := IntV.pos (w := w) (N := 0) (K := 0) hx2 (by rw [← hz0]; omega) hx7
  have hze : z = vl f xn := by
    have h : (z : Int) = ((vl f xn : Nat) : Int) := by simpa [sgn] using hz0
    omega
  have hBB : BB = 4294967296 := rfl
  have hnI : (xn : Int) ≤ 2 := by omega
  have b1 := (Below.refl w.heap.size w).alloc (Nat.le_refl _) (.cells #[.bool false, .slice xa xn xc] 54)
  have hd := hx5.on b1 (by simp)
  have c0 : (w.alloc (.cells #[.bool false, .slice xa xn xc] 54)).cell? ⟨w.heap.size, 0, none⟩ = some (.bool false) := by simp [go_sem]
  have c1 : (w.alloc (.cells #[.bool false, .slice xa xn xc] 54)).cell? ⟨w.heap.size, 1, none⟩ = some (.slice xa xn xc) := by simp [go_sem]
  have hs1 : w.heap.size < (w.alloc (.cells #[.bool false, .slice xa xn xc] 54)).heap.size := by simp
  have HZ := Lib.hid hze
  have HD := Lib.hid hx2.1
  have HDA := Lib.hid hd
  clear hze hz0 hx2 hx5 hx7 hd hx
  go_enter Try.func31, Try.ntmps31
  go_upto_region 1 with fail
  generalize w.alloc (.cells #[.bool false, .slice xa xn xc] 54) = w1 at *
  go_wp2_with fail
  go_loopw [13, 4] (fun u v wr => ∃ k A : Nat, u = .int .i64 k ∧ k ≤ xn ∧ v = .int .u64 A ∧ Hid (A = vl f k) ∧ wr = w1) (fun u _ _ => xn - (intOf u).toNat)
  case atStart => exact ⟨0, 0, rfl, by omega, rfl, Lib.hid rfl, rfl⟩
  case round =>
    obtain ⟨k, A, rfl, hk, rfl, hA, rfl⟩ := hrel
    by_cases h0 : k < xn
    · obtain ⟨b, off, rfl, hbN, hcell⟩ := HDA.out (by omega)
      have x0 := hcell k h0
      have hf := HD.out k h0
      have hkn : (k : Int) < (xn : Int) := by omega
      have hk01 : k = 0 ∨ k = 1 := by omega
      clear hcell
      rcases hk01 with rfl | rfl
      · have hA0 : A = 0 := hA.out
        subst hA0
        have hv : vl f 1 = f 0 := vl_one
        have HV := Lib.hid hv.symm
        have ho := or_zero64 (f 0) hf
        rw [Nat.add_zero] at x0
        clear hA hv
        generalize f 0 = d at *
        go_wp2_with fail
        go_roundw
        case rel => exact ⟨1, d, by go_num, by omega, rfl, HV, trivial⟩
        case measure => simp [intOf]; omega
      · have hA1 : A = f 0 := hA.out.trans vl_one
        have hf0 := HD.out 0 (by omega)
        have HV := Lib.hid (show f 0 + f 1 * BB = vl f 2 by simp [vl])
        have ho := or_hi (f 1) (f 0) hf hf0
        rw [← hA1] at ho HV
        clear hA hA1
        generalize f 1 = d at *
        generalize hS : A + d * BB = S at *
        clear hS
        go_wp2_with fail
        go_roundw
        case rel => exact ⟨2, S, by go_num, by omega, rfl, HV, trivial⟩
        case measure => simp [intOf]; omega
    · obtain rfl : k = xn := by omega
      have hAz : A = z := hA.out.trans HZ.out.symm
      subst hAz
      have hAI : (A : Int) ≤ 9223372036854775807 := by omega
      have hAn : ¬ (9223372036854775808 : Int) ≤ (A : Int) := by omega
      have hAd : decide ((9223372036854775808 : Int) ≤ (A : Int)) = false := decide_eq_false hAn
      have hAw : wrap64 (A : Int) = (A : Int) := IntWalk.wrap64_in _ (by omega)
      clear hA HZ HDA hz
      go_wp2_with fail
      go_ret2
      exact ⟨rfl, b1⟩
end

section
open Go.RowKit Go.Deep

/-- v is the number p / q; a denominator 0 in memory stands for 1. -/
def RatV (w : World) (v : Value) (p : Int) (q K : Nat) : Prop :=
  ∃ (g1 : Bool) (a1 : Option Addr) (n1 c1 : Nat) (g2 : Bool) (a2 : Option Addr) (n2 c2 qd : Nat), v = .agg #[.bool g1, .slice a1 n1 c1, .bool g2, .slice a2 n2 c2] ∧ IntV w w.heap.size (.agg #[.bool g1, .slice a1 n1 c1]) p K ∧ IntV w w.heap.size (.agg #[.bool g2, .slice a2 n2 c2]) qd K ∧ (qd = q ∨ (qd = 0 ∧ q = 1)) ∧ 0 < q
section
variable {w w' : World} {v : Value} {p : Int} {q K K' : Nat}
theorem RatV.dk (h : RatV w v p q K) (hk : Dk w w') : RatV w' v p q K := by
  obtain ⟨g1, a1, n1, c1, g2, a2, n2, c2, qd, e, h1, h2, h3⟩ := h
  exact ⟨g1, a1, n1, c1, g2, a2, n2, c2, qd, e, h1.dk hk, h2.dk hk, h3⟩
theorem RatV.nxt (hb : Below w.heap.size w w') (h : RatV w v p q K) : RatV w' v p q K := h.dk (Dk.below hb)
theorem RatV.wide (h : RatV w v p q K) (hK : K ≤ K') : RatV w v p q K' := by
  obtain ⟨g1, a1, n1, c1, g2, a2, n2, c2, qd, e, h1, h2, h3⟩ := h
  exact ⟨g1, a1, n1, c1, g2, a2, n2, c2, qd, e, h1.wide hK, h2.wide hK, h3⟩
theorem RatV.form (h : RatV w v p q K) : ∃ (g1 : Bool) (a1 : Option Addr) (n1 c1 : Nat) (g2 : Bool) (a2 : Option Addr) (n2 c2 : Nat), v = .agg #[.bool g1, .slice a1 n1 c1, .bool g2, .slice a2 n2 c2] := by
  obtain ⟨g1, a1, n1, c1, g2, a2, n2, c2, qd, e, _⟩ := h
  exact ⟨g1, a1, n1, c1, g2, a2, n2, c2, e⟩
end
theorem IntV.zero (w : World) (N K : Nat) : IntV w N (.agg #[.bool false, .slice none 0 0]) 0 K :=
  ⟨false, none, 0, 0, fun _ => 0, rfl, by omega, Nrm.zero, by omega, by omega, DAt.zero _ _ _ _, rfl, fun h => by cases h⟩
theorem RatV.zero (w : World) (K : Nat) : RatV w (.agg #[.bool false, .slice none 0 0, .bool false, .slice none 0 0]) 0 1 K :=
  ⟨false, none, 0, 0, false, none, 0, 0, 0, rfl, IntV.zero _ _ _, IntV.zero _ _ _, .inr ⟨rfl, rfl⟩, by omega⟩

/-- The block g is a box of an integer. -/
def Box (w : World) (g : Nat) (u : Bool) (a : Option Addr) (n c : Nat) : Prop := w.cell? ⟨g, 0, none⟩ = some (.bool u) ∧ w.cell? ⟨g, 1, none⟩ = some (.slice a n c) ∧ g < w.heap.size
/-- The block g holds four cells of a rational number and can be written. -/
def Box4 (w : World) (g : Nat) : Prop := ∃ (g1 : Bool) (a1 : Option Addr) (n1 c1 : Nat) (g2 : Bool) (a2 : Option Addr) (n2 c2 : Nat), w.heap[g]? = some (.cells #[.bool g1, .slice a1 n1 c1, .bool g2, .slice a2 n2 c2] 56 (0, 0))
section
variable {w w' : World} {g : Nat} {u : Bool} {a : Option Addr} {n c : Nat}
theorem Box.next (h : Box w g u a n c) (hb : Below w.heap.size w w') : Box w' g u a n c :=
  ⟨keep_cellN hb h.2.2 h.1, keep_cellN hb h.2.2 h.2.1, by have := hb.size; have := h.2.2; omega⟩
theorem Box.made (w : World) (u : Bool) (a : Option Addr) (n c : Nat) (t : TypeId) : Box (w.alloc (.cells #[.bool u, .slice a n c] t)) w.heap.size u a n c :=
  ⟨by simp [go_sem], by simp [go_sem], by simp⟩
theorem Box4.lt (h : Box4 w g) : g < w.heap.size := by
  obtain ⟨g1, a1, n1, c1, g2, a2, n2, c2, e⟩ := h
  exact (Array.getElem?_eq_some_iff.1 e).1
theorem Box4.next (h : Box4 w g) (hb : Below w.heap.size w w') : Box4 w' g := by
  have hl := h.lt
  obtain ⟨g1, a1, n1, c1, g2, a2, n2, c2, e⟩ := h
  exact ⟨g1, a1, n1, c1, g2, a2, n2, c2, (hb.block g hl).trans e⟩
theorem Box4.cells (h : Box4 w g) : (∃ v0 v1 v2 v3, w.cell? ⟨g, 0, none⟩ = some v0 ∧ w.cell? ⟨g, 1, none⟩ = some v1 ∧ w.cell? ⟨g, 2, none⟩ = some v2 ∧ w.cell? ⟨g, 3, none⟩ = some v3) ∧ ∀ j, w.frozen? ⟨g, j, none⟩ = false := by
  obtain ⟨g1, a1, n1, c1, g2, a2, n2, c2, e⟩ := h
  exact ⟨⟨_, _, _, _, by simp only [World.cell?, e]; rfl, by simp only [World.cell?, e]; rfl, by simp only [World.cell?, e]; rfl, by simp only [World.cell?, e]; rfl⟩, fun j => by simp [World.frozen?, e]⟩
theorem no_u32_4 {g1 g2 : Bool} {a1 a2 : Option Addr} {n1 c1 n2 c2 : Nat} {t : TypeId} (h : w.heap[g]? = some (.cells #[.bool g1, .slice a1 n1 c1, .bool g2, .slice a2 n2 c2] t (0, 0))) (o : Nat) (i : Int) : w.cell? ⟨g, o, none⟩ ≠ some (.int .u32 i) := by
  simp only [World.cell?, h]
  match o with
  | 0 => simp
  | 1 => simp
  | 2 => simp
  | 3 => simp
  | k + 4 => simp
/-- Four cells written: numbers stay, and all else below. -/
theorem Box4.set (h : Box4 w g) (x0 x1 x2 x3 : Value) : Dk w ((((w.setCell ⟨g, 0, none⟩ x0).setCell ⟨g, 1, none⟩ x1).setCell ⟨g, 2, none⟩ x2).setCell ⟨g, 3, none⟩ x3) := by
  obtain ⟨g1, a1, n1, c1, g2, a2, n2, c2, e⟩ := h
  refine ⟨by simp [World.setCell], fun b o i hc => ?_⟩
  have hne : b ≠ g := by
    rintro rfl
    exact no_u32_4 e o i hc
  rw [World.cell?_setCell_other, World.cell?_setCell_other, World.cell?_setCell_other, World.cell?_setCell_other]
  · exact hc
  all_goals (intro e; injection e with e1; exact hne e1.symm)
end
theorem Below.set4 {N g : Nat} {w w' : World} (h : Below N w w') (hg : N ≤ g) (x0 x1 x2 x3 : Value) : Below N w ((((w'.setCell ⟨g, 0, none⟩ x0).setCell ⟨g, 1, none⟩ x1).setCell ⟨g, 2, none⟩ x2).setCell ⟨g, 3, none⟩ x3) :=
  (((h.setCell (p := (⟨g, 0, none⟩ : Addr)) hg x0).setCell (p := (⟨g, 1, none⟩ : Addr)) hg x1).setCell (p := (⟨g, 2, none⟩ : Addr)) hg x2).setCell (p := (⟨g, 3, none⟩ : Addr)) hg x3
end
end Go.Proofs.Ytdjpkebajcpfbaa
