/- The walks over rational.Of, Make, Frac and Rat's Den, Num. Conditions: each theorem's own. -/
import Derived.Test.YtdjpkebajcpfbaaReduced
namespace Go.Proofs.Ytdjpkebajcpfbaa
open Go.RowKit Go.Deep

theorem box4_made (w : World) : Box4 (w.alloc (.cells #[.bool false, .slice none 0 0, .bool false, .slice none 0 0] 56)) w.heap.size := ⟨false, none, 0, 0, false, none, 0, 0, blk_lies rfl⟩

set_option maxRecDepth 100000 in
set_option maxHeartbeats 6400000 in
theorem rof_any (z : Int) (w : World) (hz : -9223372036854775808 ≤ z ∧ z ≤ 9223372036854775807) :
    Calls Try.prog 26 #[.int .i64 z] w fun e w' => ∃ v, e = .returned v ∧ RatV w' v z 1 2 ∧ Below w.heap.size w w' := by
  have b1 := (Below.refl w.heap.size w).alloc (Nat.le_refl _) (.cells #[.bool false, .slice none 0 0, .bool false, .slice none 0 0] 56)
  have r1 := box4_made w
  have HR := fun W x y (hx : IntV W W.heap.size x z 2) (hy : IntV W W.heap.size y ((1 : Nat) : Int) 2) => reduced_any x y z 1 2 W (by omega) (by omega) (by omega) hx hy
  simp only [Nat.gcd_one_right, Nat.div_one, Int.natCast_one, Int.tdiv_one] at HR
  have HO := fun W => of_any z W hz
  have HO1 := fun W => of_any 1 W (by omega)
  clear hz
  go_enter Try.func26, Try.ntmps26
  go_upto_region 1 with fail
  generalize w.alloc _ = w1 at *
  have e1 := b1.size
  go_wp2_with fail
  refine (HO _).mono ?_
  rintro e w2 ⟨v, rfl, hv2, hb2⟩
  obtain ⟨g1, a1, n1, c1, rfl⟩ := hv2.form
  simp only []
  go_wp2_with fail
  refine (HO1 _).mono ?_
  rintro e w3 ⟨v, rfl, hv3, hb3⟩
  obtain ⟨g2, a2, n2, c2, rfl⟩ := hv3.form
  simp only []
  go_wp2_with fail
  refine (HR _ _ _ (hv2.nxt hb3) hv3).mono ?_
  rintro e w4 ⟨v, rfl, hv4, hb4⟩
  obtain ⟨k1, f1, m1, d1, k2, f2, m2, d2, rfl⟩ := hv4.form
  have bx := hb2.trans ((hb3.trans (hb4.mono hb3.size)).mono hb2.size)
  have r4 := r1.next bx
  have b4 := b1.trans (bx.mono b1.size)
  obtain ⟨⟨v0, v1, v2, v3, q0, q1, q2, q3⟩, cf⟩ := r4.cells
  have hlt := r4.lt
  have hdk := r4.set (.bool k1) (.slice f1 m1 d1) (.bool k2) (.slice f2 m2 d2)
  have hf := hv4.dk hdk
  clear hv2 hv3 hv4 hb2 hb3 hb4 bx r1 r4 hdk HR HO HO1
  simp only []
  go_wp2_with fail
  exact bodyPost_ret (v := .agg #[.bool k1, .slice f1 m1 d1, .bool k2, .slice f2 m2 d2]) (by simp [results, Try.results26, go_sem, q0, q1, q2, q3]) rfl ⟨_, rfl, hf, Below.set4 b4 (Nat.le_refl _) _ _ _ _⟩

set_option maxRecDepth 100000 in
set_option maxHeartbeats 6400000 in
theorem rmake_any (x y : Value) (a : Int) (D K : Nat) (w : World) (hK : K ≤ 10000) (hK1 : 1 ≤ K) (hD : 0 < D) (hx : IntV w w.heap.size x a K) (hy : IntV w w.heap.size y D K) :
    Calls Try.prog 42 #[x, y] w fun e w' => ∃ v, e = .returned (.tuple #[v, .int .i64 0]) ∧ RatV w' v (a.tdiv (Nat.gcd a.natAbs D)) (D / Nat.gcd a.natAbs D) K ∧ Below w.heap.size w w' := by
  have HY := fun W => sign_any y (D : Int) K W w hK hy
  have hsD : sg (D : Int) = 1 := sg_pos (by omega)
  rw [hsD] at HY
  have HR := fun W (hb : Below w.heap.size w W) => reduced_any x y a D K W hK hK1 hD (hx.on hb hb.size) (hy.on hb hb.size)
  obtain ⟨xg, xa, xn, xc, hxe⟩ := hx.form
  obtain ⟨yg, ya, yn, yc, hye⟩ := hy.form
  subst hxe hye
  obtain ⟨b1, x1, y1, r1⟩ := red_start w xg yg xa ya xn xc yn yc
  clear hsD hx hy
  generalize a.tdiv (Nat.gcd a.natAbs D) = p at *
  generalize D / Nat.gcd a.natAbs D = q at *
  go_enter Try.func42, Try.ntmps42
  go_upto_region 1 with fail
  generalize ((w.alloc _).alloc _).alloc _ = w1 at *
  have y1' := y1
  obtain ⟨y10, y11, y12⟩ := y1
  go_upto_region 3 with (go_at_call 46; refine (HY _).mono ?_; rintro e w2 ⟨rfl, hb2⟩)
  have x2 := x1.next hb2
  have y2 := y1'.next hb2
  have r2 := r1.next hb2
  have b2 := b1.trans (hb2.mono b1.size)
  obtain ⟨x20, x21, x22⟩ := x2
  obtain ⟨y20, y21, y22⟩ := y2
  clear y10 y11 y12 y1' x1 r1 b1 HY hb2
  go_wp2_with fail
  refine (HR _ b2).mono ?_
  rintro e w4 ⟨v, rfl, hv4, hb4⟩
  obtain ⟨k1, f1, m1, d1, k2, f2, m2, d2, rfl⟩ := hv4.form
  have r4 := r2.next hb4
  have b4 := b2.trans (hb4.mono b2.size)
  obtain ⟨⟨v0, v1, v2, v3, q0, q1, q2, q3⟩, cf⟩ := r4.cells
  have hlt := r4.lt
  have hdk := r4.set (.bool k1) (.slice f1 m1 d1) (.bool k2) (.slice f2 m2 d2)
  have hf := hv4.dk hdk
  clear hv4 hb4 r2 r4 hdk HR b2 x20 x21 x22 y20 y21 y22
  simp only []
  go_wp2_with fail
  exact bodyPost_ret (v := .tuple #[.agg #[.bool k1, .slice f1 m1 d1, .bool k2, .slice f2 m2 d2], .int .i64 0]) (by simp [results, Try.results42, go_sem, q0, q1, q2, q3]) rfl ⟨_, rfl, hf, Below.set4 b4 (by omega) _ _ _ _⟩

set_option maxRecDepth 100000 in
set_option maxHeartbeats 6400000 in
theorem rfrac_any (a D : Nat) (w : World) (ha : a ≤ 9223372036854775807) (hD : 0 < D) (hD2 : D ≤ 9223372036854775807) :
    Calls Try.prog 27 #[.int .i64 a, .int .i64 D] w fun e w' => ∃ v, e = .returned (.tuple #[v, .int .i64 0]) ∧ RatV w' v ((a / Nat.gcd a D : Nat) : Int) (D / Nat.gcd a D) 2 ∧ Below w.heap.size w w' := by
  have b1 := (Below.refl w.heap.size w).alloc (Nat.le_refl _) (.cells #[.bool false, .slice none 0 0, .bool false, .slice none 0 0] 56)
  have r1 := box4_made w
  have HR := fun W x y (hx : IntV W W.heap.size x (a : Int) 2) (hy : IntV W W.heap.size y (D : Int) 2) => rmake_any x y a D 2 W (by omega) (by omega) hD hx hy
  simp only [Int.natAbs_natCast, ← Int.ofNat_tdiv] at HR
  have HO := fun W => of_any (a : Int) W (by omega)
  have HO1 := fun W => of_any (D : Int) W (by omega)
  generalize D / Nat.gcd a D = q at *
  generalize a / Nat.gcd a D = p at *
  clear ha hD hD2
  go_enter Try.func27, Try.ntmps27
  go_upto_region 1 with fail
  generalize w.alloc _ = w1 at *
  have e1 := b1.size
  go_wp2_with fail
  refine (HO _).mono ?_
  rintro e w2 ⟨v, rfl, hv2, hb2⟩
  obtain ⟨g1, a1, n1, c1, rfl⟩ := hv2.form
  simp only []
  go_wp2_with fail
  refine (HO1 _).mono ?_
  rintro e w3 ⟨v, rfl, hv3, hb3⟩
  obtain ⟨g2, a2, n2, c2, rfl⟩ := hv3.form
  simp only []
  go_wp2_with fail
  refine (HR _ _ _ (hv2.nxt hb3) hv3).mono ?_
  rintro e w4 ⟨v, rfl, hv4, hb4⟩
  obtain ⟨k1, f1, m1, d1, k2, f2, m2, d2, rfl⟩ := hv4.form
  have bx := hb2.trans ((hb3.trans (hb4.mono hb3.size)).mono hb2.size)
  have r4 := r1.next bx
  have b4 := b1.trans (bx.mono b1.size)
  obtain ⟨⟨v0, v1, v2, v3, q0, q1, q2, q3⟩, cf⟩ := r4.cells
  have hlt := r4.lt
  have hdk := r4.set (.bool k1) (.slice f1 m1 d1) (.bool k2) (.slice f2 m2 d2)
  have hf := hv4.dk hdk
  clear hv2 hv3 hv4 hb2 hb3 hb4 bx r1 r4 hdk HR HO HO1
  simp only []
  go_wp2_with fail
  exact bodyPost_ret (v := .tuple #[.agg #[.bool k1, .slice f1 m1 d1, .bool k2, .slice f2 m2 d2], .int .i64 0]) (by simp [results, Try.results27, go_sem, q0, q1, q2, q3]) rfl ⟨_, rfl, hf, Below.set4 b4 (Nat.le_refl _) _ _ _ _⟩

/-- A rational's box and a box for an integer. -/
theorem den_start (w : World) (g1 g2 : Bool) (a1 a2 : Option Addr) (n1 c1 n2 c2 : Nat) :
    Below w.heap.size w ((w.alloc (.cells #[.bool g1, .slice a1 n1 c1, .bool g2, .slice a2 n2 c2] 56)).alloc (.cells #[.bool false, .slice none 0 0] 54)) ∧
    w.heap.size + 1 < ((w.alloc (.cells #[.bool g1, .slice a1 n1 c1, .bool g2, .slice a2 n2 c2] 56)).alloc (.cells #[.bool false, .slice none 0 0] 54)).heap.size ∧
    ((w.alloc (.cells #[.bool g1, .slice a1 n1 c1, .bool g2, .slice a2 n2 c2] 56)).alloc (.cells #[.bool false, .slice none 0 0] 54)).cell? ⟨w.heap.size, 0, none⟩ = some (.bool g1) ∧
    ((w.alloc (.cells #[.bool g1, .slice a1 n1 c1, .bool g2, .slice a2 n2 c2] 56)).alloc (.cells #[.bool false, .slice none 0 0] 54)).cell? ⟨w.heap.size, 1, none⟩ = some (.slice a1 n1 c1) ∧
    ((w.alloc (.cells #[.bool g1, .slice a1 n1 c1, .bool g2, .slice a2 n2 c2] 56)).alloc (.cells #[.bool false, .slice none 0 0] 54)).cell? ⟨w.heap.size, 2, none⟩ = some (.bool g2) ∧
    ((w.alloc (.cells #[.bool g1, .slice a1 n1 c1, .bool g2, .slice a2 n2 c2] 56)).alloc (.cells #[.bool false, .slice none 0 0] 54)).cell? ⟨w.heap.size, 3, none⟩ = some (.slice a2 n2 c2) ∧
    ((w.alloc (.cells #[.bool g1, .slice a1 n1 c1, .bool g2, .slice a2 n2 c2] 56)).alloc (.cells #[.bool false, .slice none 0 0] 54)).heap[w.heap.size + 1]? = some (.cells #[.bool false, .slice none 0 0] 54 (0, 0)) := by
  refine ⟨((Below.refl w.heap.size w).alloc (Nat.le_refl _) _).alloc (by simp) _, by simp, ?_, ?_, ?_, ?_, blk_lies (by simp)⟩
  all_goals simp [go_sem]
theorem box_res {w : World} {g : Nat} {u : Bool} {a : Option Addr} {n c : Nat} {t : TypeId} (h : w.heap[g]? = some (.cells #[.bool u, .slice a n c] t (0, 0))) : w.cell? ⟨g, 0, none⟩ = some (.bool u) ∧ w.cell? ⟨g, 1, none⟩ = some (.slice a n c) ∧ (∀ j, w.frozen? ⟨g, j, none⟩ = false) ∧ g < w.heap.size :=
  ⟨by simp [World.cell?, h], by simp [World.cell?, h], fun j => by simp [World.frozen?, h], (Array.getElem?_eq_some_iff.1 h).1⟩
theorem below_set2 {N g : Nat} {w w' : World} (h : Below N w w') (hg : N ≤ g) (x y : Value) : Below N w ((w'.setCell ⟨g, 0, none⟩ x).setCell ⟨g, 1, none⟩ y) :=
  (h.setCell (p := (⟨g, 0, none⟩ : Addr)) hg x).setCell (p := (⟨g, 1, none⟩ : Addr)) hg y

set_option maxRecDepth 100000 in
set_option maxHeartbeats 6400000 in
theorem rden_any (x : Value) (p : Int) (q K : Nat) (w : World) (hK : K ≤ 10000) (hK2 : 2 ≤ K) (hx : RatV w x p q K) :
    Calls Try.prog 32 #[x] w fun e w' => ∃ v, e = .returned v ∧ IntV w' w'.heap.size v (q : Int) K ∧ Below w.heap.size w w' := by
  obtain ⟨g1, a1, n1, c1, g2, a2, n2, c2, qd, rfl, hn, hd, hq, hq0⟩ := hx
  obtain ⟨b1, s1, x0, x1, x2, x3, r1⟩ := den_start w g1 g2 a1 a2 n1 c1 n2 c2
  have HS := fun W => sign_any (.agg #[.bool g2, .slice a2 n2 c2]) (qd : Int) K W w hK hd
  have HO := fun W => of_any 1 W (by omega)
  by_cases h0 : qd = 0
  · subst h0
    rw [show sg ((0 : Nat) : Int) = 0 from rfl] at HS
    have hq1 : q = 1 := by rcases hq with h | h <;> omega
    subst hq1
    clear hd hn hq hq0
    go_enter Try.func32, Try.ntmps32
    go_upto_region 1 with fail
    generalize (w.alloc _).alloc _ = w1 at *
    go_upto_region 2 with (go_at_call 46; refine (HS _).mono ?_; rintro e w2 ⟨rfl, hb2⟩)
    go_wp2_with fail
    refine (HO _).mono ?_
    rintro e w3 ⟨v, rfl, hv3, hb3⟩
    obtain ⟨g4, a4, n4, c4, rfl⟩ := hv3.form
    have bx := hb2.trans (hb3.mono hb2.size)
    have r3 := (bx.block _ s1).trans r1
    have b3 := b1.trans (bx.mono b1.size)
    obtain ⟨q0, q1, cf, hlt⟩ := box_res r3
    have hf := (hv3.wide hK2).dk (Dk.box r3 (.bool g4) (.slice a4 n4 c4))
    clear HS HO hb2 hb3 bx r1 r3 x0 x1 x2 x3 hv3
    simp only []
    go_wp2_with fail
    exact bodyPost_ret (v := .agg #[.bool g4, .slice a4 n4 c4]) (by simp [results, Try.results32, go_sem, q0, q1]) rfl ⟨_, rfl, hf, below_set2 b3 (by omega) _ _⟩
  · rw [sg_pos (z := (qd : Int)) (by omega)] at HS
    have hq1 : qd = q := by rcases hq with h | h; exact h; exact absurd h.1 h0
    subst hq1
    clear hn hq hq0 HO
    go_enter Try.func32, Try.ntmps32
    go_upto_region 1 with fail
    generalize (w.alloc _).alloc _ = w1 at *
    go_upto_region 3 with (go_at_call 46; refine (HS _).mono ?_; rintro e w2 ⟨rfl, hb2⟩)
    have y2 := keep_cell hb2 (by omega) x2
    have y3 := keep_cell hb2 (by omega) x3
    have hlx : w.heap.size < w2.heap.size := by have := hb2.size; omega
    have r3 := (hb2.block _ s1).trans r1
    have b3 := b1.trans (hb2.mono b1.size)
    obtain ⟨q0, q1, cf, hlt⟩ := box_res r3
    have hf := (hd.on b3 b3.size).dk (Dk.box r3 (.bool g2) (.slice a2 n2 c2))
    clear HS hb2 r1 r3 x0 x1 x2 x3 hd
    go_wp2_with fail
    exact bodyPost_ret (v := .agg #[.bool g2, .slice a2 n2 c2]) (by simp [results, Try.results32, go_sem, q0, q1]) rfl ⟨_, rfl, hf, below_set2 b3 (by omega) _ _⟩

set_option maxRecDepth 100000 in
set_option maxHeartbeats 6400000 in
theorem rnum_any (x : Value) (p : Int) (q K : Nat) (w : World) (hx : RatV w x p q K) :
    Calls Try.prog 30 #[x] w fun e w' => ∃ v, e = .returned v ∧ IntV w' w'.heap.size v p K ∧ Below w.heap.size w w' := by
  obtain ⟨g1, a1, n1, c1, g2, a2, n2, c2, qd, rfl, hn, hd, hq, hq0⟩ := hx
  obtain ⟨b1, s1, x0, x1, x2, x3, r1⟩ := den_start w g1 g2 a1 a2 n1 c1 n2 c2
  clear hd hq hq0
  go_enter Try.func30, Try.ntmps30
  go_upto_region 1 with fail
  generalize (w.alloc _).alloc _ = w1 at *
  obtain ⟨q0, q1, cf, hlt⟩ := box_res r1
  have hf := (hn.on b1 b1.size).dk (Dk.box r1 (.bool g1) (.slice a1 n1 c1))
  clear r1 hn
  go_wp2_with fail
  exact bodyPost_ret (v := .agg #[.bool g1, .slice a1 n1 c1]) (by simp [results, Try.results30, go_sem, q0, q1]) rfl ⟨_, rfl, hf, below_set2 b1 (by omega) _ _⟩
end Go.Proofs.Ytdjpkebajcpfbaa
