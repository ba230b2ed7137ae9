/- Several texts in one: The walk over rational.reduced. Conditions: the integers lie in memory, the denominator is positive. The walks over rational.Of, Make, Frac and Rat's Den, Num. Conditions: each theorem's own. -/
import Derived.Test.YtfoadipocpopiaaGreatM35
namespace Go.Proofs.YtfoadipocpopiaaGreat
section
open Go.RowKit Go.Deep

theorem red_start (w : World) (xg yg : Bool) (xa ya : Option Addr) (xn xc yn yc : Nat) :
    Below w.heap.size w (((w.alloc (.cells #[.bool xg, .slice xa xn xc] 48)).alloc (.cells #[.bool yg, .slice ya yn yc] 48)).alloc (.cells #[.bool false, .slice none 0 0, .bool false, .slice none 0 0] 50)) ∧
    Box (((w.alloc (.cells #[.bool xg, .slice xa xn xc] 48)).alloc (.cells #[.bool yg, .slice ya yn yc] 48)).alloc (.cells #[.bool false, .slice none 0 0, .bool false, .slice none 0 0] 50)) w.heap.size xg xa xn xc ∧
    Box (((w.alloc (.cells #[.bool xg, .slice xa xn xc] 48)).alloc (.cells #[.bool yg, .slice ya yn yc] 48)).alloc (.cells #[.bool false, .slice none 0 0, .bool false, .slice none 0 0] 50)) (w.heap.size + 1) yg ya yn yc ∧
    Box4 (((w.alloc (.cells #[.bool xg, .slice xa xn xc] 48)).alloc (.cells #[.bool yg, .slice ya yn yc] 48)).alloc (.cells #[.bool false, .slice none 0 0, .bool false, .slice none 0 0] 50)) (w.heap.size + 1 + 1) := by
  refine ⟨(((Below.refl w.heap.size w).alloc (Nat.le_refl _) _).alloc (by simp) _).alloc (by simp; omega) _, ⟨by simp [go_sem], by simp [go_sem], by simp; omega⟩, ⟨by simp [go_sem], by simp [go_sem], by simp⟩, false, none, 0, 0, false, none, 0, 0, blk_lies (by simp)⟩

set_option maxRecDepth 100000 in
set_option maxHeartbeats 6400000 in
theorem reduced_any (x y : Value) (a : Int) (D K : Nat) (w : World) (hK : K ≤ 10000) (hK1 : 1 ≤ K) (hD : 0 < D) (hx : IntV w w.heap.size x a K) (hy : IntV w w.heap.size y D K) :
    Calls Tryz.prog 32 #[x, y] w fun e w' => ∃ v, e = .returned v ∧ RatV w' v (a.tdiv (Nat.gcd a.natAbs D)) (D / Nat.gcd a.natAbs D) K ∧ Below w.heap.size w w' := by
  have HX := fun W => sign_any x a K W w hK hx
  have HY := fun W => sign_any y (D : Int) K W w hK hy
  have hsD : sg (D : Int) = 1 := sg_pos (by omega)
  rw [hsD] at HY
  have HG := fun W (hb : Below w.heap.size w W) => gcd_any x y a D K W hK (hx.on hb hb.size) (hy.on hb hb.size)
  simp only [Int.natAbs_natCast] at HG
  have HDX := fun W (v : Value) (G : Nat) (hG : (G : Int) ≠ 0) (hb : Below w.heap.size w W) (hv : IntV W W.heap.size v G K) => div_any x v a G K K W hK hK hG (hx.on hb hb.size) hv
  have HDY := fun W (v : Value) (G : Nat) (hG : (G : Int) ≠ 0) (hb : Below w.heap.size w W) (hv : IntV W W.heap.size v G K) => div_any y v D G K K W hK hK hG (hy.on hb hb.size) hv
  obtain ⟨xg, xa, xn, xc, hxe⟩ := hx.form
  obtain ⟨yg, ya, yn, yc, hye⟩ := hy.form
  subst hxe hye
  obtain ⟨b1, x1, y1, r1⟩ := red_start w xg yg xa ya xn xc yn yc
  have hgp : 0 < Nat.gcd a.natAbs D := Nat.gcd_pos_of_pos_right _ hD
  generalize hs : sg a = s at *
  have HS := Lib.hid hs
  have HDD := Lib.hid hD
  clear hs hx hy hsD hD
  go_enter Tryz.func32, Tryz.ntmps32
  go_upto_region 1 with fail
  generalize ((w.alloc _).alloc _).alloc _ = w1 at *
  obtain ⟨x10, x11, x12⟩ := x1
  by_cases h0 : s = 0
  · have ha : a = 0 := by
      have := HS.out
      unfold sg at this
      split at this
      · omega
      · split at this <;> omega
    have h0b : (s == 0) = true := by simp [h0]
    subst ha
    clear HG HDX HDY HY
    go_upto_region 2 with (go_at_call 47; refine (HX _).mono ?_; rintro e w2 ⟨rfl, hb2⟩)
    have r2 := r1.next hb2
    obtain ⟨⟨v0, v1, v2, v3, c0, c1, c2, c3⟩, cf⟩ := r2.cells
    have b2 := b1.trans (hb2.mono b1.size)
    have hlt := r2.lt
    go_wp2_with fail
    refine bodyPost_ret (v := .agg #[.bool false, .slice none 0 0, .bool false, .slice none 0 0]) (by simp [results, Tryz.results32, go_sem, c0, c1, c2, c3]) rfl ⟨_, rfl, ?_, Below.set4 b2 (by omega) _ _ _ _⟩
    have e1 : Nat.gcd (0 : Int).natAbs D = D := by simp
    rw [e1, Nat.div_self HDD.out, Int.zero_tdiv]
    exact RatV.zero _ _
  · have h0b : (s == 0) = false := by simp [h0]
    have hgI : ((Nat.gcd a.natAbs D : Nat) : Int) ≠ 0 := by omega
    have HGD := Lib.hid (Nat.le_of_dvd HDD.out (Nat.gcd_dvd_right a.natAbs D))
    generalize hGe : Nat.gcd a.natAbs D = G at *
    have HGE := Lib.hid hGe
    clear hGe
    go_upto_region 3 with (go_at_call 47; refine (HX _).mono ?_; rintro e w2 ⟨rfl, hb2⟩)
    have x2 := Box.next ⟨x10, x11, x12⟩ hb2
    have y2 := y1.next hb2
    have r2 := r1.next hb2
    have b2 := b1.trans (hb2.mono b1.size)
    have y2' := y2
    obtain ⟨y20, y21, y22⟩ := y2
    clear x10 x11 x12 y1 r1 b1 hb2 HX h0
    go_upto_region 5 with (go_at_call 47; refine (HY _).mono ?_; rintro e w3 ⟨rfl, hb3⟩)
    have x3 := x2.next hb3
    have y3 := y2'.next hb3
    have r3 := r2.next hb3
    have b3 := b2.trans (hb3.mono b2.size)
    have x3' := x3
    have y3' := y3
    obtain ⟨x30, x31, x32⟩ := x3
    obtain ⟨y30, y31, y32⟩ := y3
    clear y20 y21 y22 y2' x2 r2 b2 hb3 HY
    go_upto_region 6 with (go_at_call 49; refine (HG _ b3).mono ?_; rintro e w4 ⟨v, rfl, hv4, hb4⟩; obtain ⟨gg, ga, gn, gc, hvv⟩ := IntV.form hv4; subst hvv)
    have ba4 := (Below.refl w4.heap.size w4).alloc (Nat.le_refl _) (.cells #[.bool gg, .slice ga gn gc] 48)
    have d5 := Box.made w4 gg ga gn gc 48
    have hv5 := hv4.dk (Dk.below ba4)
    have hb5 := hb4.trans (ba4.mono hb4.size)
    have x5 := x3'.next hb5
    have y5 := y3'.next hb5
    have r5 := r3.next hb5
    have b5 := b3.trans (hb5.mono b3.size)
    clear x30 x31 x32 y30 y31 y32 x3' y3' r3 b3 hb4 hb5 HG ba4 hv4
    generalize w4.alloc _ = w5 at *
    generalize w4.heap.size = bd at *
    have x5' := x5
    have d5' := d5
    obtain ⟨x50, x51, x52⟩ := x5
    obtain ⟨d50, d51, d52⟩ := d5
    go_upto_region 7 with (go_at_call 50; refine (HDX _ _ G hgI b5 hv5).mono ?_; rintro e w6 ⟨v, g2, a2, n2, c2, rfl, hv6, hb6⟩; obtain ⟨ng, na, nn, nc, hvv⟩ := IntV.form hv6; subst hvv)
    have bA := (Below.refl w6.heap.size w6).alloc (Nat.le_refl _) (.cells #[.bool ng, .slice na nn nc] 48)
    have bB := (Below.refl _ (w6.alloc (.cells #[.bool ng, .slice na nn nc] 48))).alloc (Nat.le_refl _) (.cells #[.bool g2, .slice a2 n2 c2] 48)
    have n7 := (Box.made w6 ng na nn nc 48).next bB
    have bAB := bA.trans (bB.mono bA.size)
    have bx7 := hb6.trans (bAB.mono hb6.size)
    have hv7 := hv6.dk (Dk.below bAB)
    have hg7 := hv5.dk (Dk.below bx7)
    have y7 := y5.next bx7
    have d7 := d5'.next bx7
    have r7 := r5.next bx7
    have b7 := b5.trans (bx7.mono b5.size)
    clear x50 x51 x52 d50 d51 d52 x5' y5 d5' r5 b5 hb6 bA bB bAB bx7 hv6 hv5 HDX
    generalize (w6.alloc _).alloc _ = w7 at *
    generalize w6.heap.size = bn at *
    have y7' := y7
    have d7' := d7
    obtain ⟨y70, y71, y72⟩ := y7
    obtain ⟨d70, d71, d72⟩ := d7
    go_upto_region 8 with (go_at_call 50; refine (HDY _ _ G hgI b7 hg7).mono ?_; rintro e w8 ⟨v, g3, a3, n3, c3, rfl, hv8, hb8⟩; obtain ⟨dg, da, dn, dc, hvv⟩ := IntV.form hv8; subst hvv)
    have bA := (Below.refl w8.heap.size w8).alloc (Nat.le_refl _) (.cells #[.bool dg, .slice da dn dc] 48)
    have bB := (Below.refl _ (w8.alloc (.cells #[.bool dg, .slice da dn dc] 48))).alloc (Nat.le_refl _) (.cells #[.bool g3, .slice a3 n3 c3] 48)
    have e9 := (Box.made w8 dg da dn dc 48).next bB
    have bAB := bA.trans (bB.mono bA.size)
    have bx9 := hb8.trans (bAB.mono hb8.size)
    have hd9 := hv8.dk (Dk.below bAB)
    have hn9 := hv7.dk (Dk.below bx9)
    have n9 := n7.next bx9
    have r9 := r7.next bx9
    have b9 := b7.trans (bx9.mono b7.size)
    clear y70 y71 y72 d70 d71 d72 y7' d7' n7 r7 b7 hb8 bA bB bAB bx9 hv8 hv7 hg7 HDY
    generalize (w8.alloc _).alloc _ = w9 at *
    generalize w8.heap.size = be at *
    obtain ⟨n90, n91, n92⟩ := n9
    obtain ⟨e90, e91, e92⟩ := e9
    obtain ⟨⟨v0, v1, v2, v3, c0, c1, c2, c3⟩, cf⟩ := r9.cells
    have hlt := r9.lt
    have hdk := r9.set (.bool ng) (.slice na nn nc) (.bool dg) (.slice da dn dc)
    go_wp2_with fail
    refine bodyPost_ret (v := .agg #[.bool ng, .slice na nn nc, .bool dg, .slice da dn dc]) (by simp [results, Tryz.results32, go_sem, c0, c1, c2, c3]) rfl ⟨_, rfl, ?_, Below.set4 b9 (by omega) _ _ _ _⟩
    rw [HGE.out]
    have hd := hd9.dk hdk
    rw [show ((D : Nat) : Int).tdiv (G : Int) = ((D / G : Nat) : Int) from (Int.ofNat_tdiv D G).symm] at hd
    exact ⟨ng, na, nn, nc, dg, da, dn, dc, D / G, rfl, hn9.dk hdk, hd, .inl rfl, Nat.div_pos HGD.out hgp⟩
end

section
open Go.RowKit Go.Deep

theorem box4_made (w : World) : Box4 (w.alloc (.cells #[.bool false, .slice none 0 0, .bool false, .slice none 0 0] 50)) w.heap.size := ⟨false, none, 0, 0, false, none, 0, 0, blk_lies rfl⟩

set_option maxRecDepth 100000 in
set_option maxHeartbeats 6400000 in
theorem rof_any (z : Int) (w : World) (hz : -9223372036854775808 ≤ z ∧ z ≤ 9223372036854775807) :
    Calls Tryz.prog 17 #[.int .i64 z] w fun e w' => ∃ v, e = .returned v ∧ RatV w' v z 1 2 ∧ Below w.heap.size w w' := by
  have b1 := (Below.refl w.heap.size w).alloc (Nat.le_refl _) (.cells #[.bool false, .slice none 0 0, .bool false, .slice none 0 0] 50)
  have r1 := box4_made w
  have HR := fun W x y (hx : IntV W W.heap.size x z 2) (hy : IntV W W.heap.size y ((1 : Nat) : Int) 2) => reduced_any x y z 1 2 W (by omega) (by omega) (by omega) hx hy
  simp only [Nat.gcd_one_right, Nat.div_one, Int.natCast_one, Int.tdiv_one] at HR
  have HO := fun W => of_any z W hz
  have HO1 := fun W => of_any 1 W (by omega)
  clear hz
  go_enter Tryz.func17, Tryz.ntmps17
  go_upto_region 1 with fail
  generalize w.alloc _ = w1 at *
  have e1 := b1.size
  go_wp2_with fail
  refine (HO _).mono ?_
  rintro e w2 ⟨v, rfl, hv2, hb2⟩
  obtain ⟨g1, a1, n1, c1, rfl⟩ := hv2.form
  simp only []
  go_wp2_with fail
  refine (HO1 _).mono ?_
  rintro e w3 ⟨v, rfl, hv3, hb3⟩
  obtain ⟨g2, a2, n2, c2, rfl⟩ := hv3.form
  simp only []
  go_wp2_with fail
  refine (HR _ _ _ (hv2.nxt hb3) hv3).mono ?_
  rintro e w4 ⟨v, rfl, hv4, hb4⟩
  obtain ⟨k1, f1, m1, d1, k2, f2, m2, d2, rfl⟩ := hv4.form
  have bx := hb2.trans ((hb3.trans (hb4.mono hb3.size)).mono hb2.size)
  have r4 := r1.next bx
  have b4 := b1.trans (bx.mono b1.size)
  obtain ⟨⟨v0, v1, v2, v3, q0, q1, q2, q3⟩, cf⟩ := r4.cells
  have hlt := r4.lt
  have hdk := r4.set (.bool k1) (.slice f1 m1 d1) (.bool k2) (.slice f2 m2 d2)
  have hf := hv4.dk hdk
  clear hv2 hv3 hv4 hb2 hb3 hb4 bx r1 r4 hdk HR HO HO1
  simp only []
  go_wp2_with fail
  exact bodyPost_ret (v := .agg #[.bool k1, .slice f1 m1 d1, .bool k2, .slice f2 m2 d2]) (by simp [results, Tryz.results17, go_sem, q0, q1, q2, q3]) rfl ⟨_, rfl, hf, Below.set4 b4 (Nat.le_refl _) _ _ _ _⟩

set_option maxRecDepth 100000 in
set_option maxHeartbeats 6400000 in
theorem rmake_any (x y : Value) (a : Int) (D K : Nat) (w : World) (hK : K ≤ 10000) (hK1 : 1 ≤ K) (hD : 0 < D) (hx : IntV w w.heap.size x a K) (hy : IntV w w.heap.size y D K) :
    Calls Tryz.prog 34 #[x, y] w fun e w' => ∃ v, e = .returned (.tuple #[v, .int .i64 0]) ∧ RatV w' v (a.tdiv (Nat.gcd a.natAbs D)) (D / Nat.gcd a.natAbs D) K ∧ Below w.heap.size w w' := by
  have HY := fun W => sign_any y (D : Int) K W w hK hy
  have hsD : sg (D : Int) = 1 := sg_pos (by omega)
  rw [hsD] at HY
  have HR := fun W (hb : Below w.heap.size w W) => reduced_any x y a D K W hK hK1 hD (hx.on hb hb.size) (hy.on hb hb.size)
  obtain ⟨xg, xa, xn, xc, hxe⟩ := hx.form
  obtain ⟨yg, ya, yn, yc, hye⟩ := hy.form
  subst hxe hye
  obtain ⟨b1, x1, y1, r1⟩ := red_start w xg yg xa ya xn xc yn yc
  clear hsD hx hy
  generalize a.tdiv (Nat.gcd a.natAbs D) = p at *
  generalize D / Nat.gcd a.natAbs D = q at *
  go_enter Tryz.func34, Tryz.ntmps34
  go_upto_region 1 with fail
  generalize ((w.alloc _).alloc _).alloc _ = w1 at *
  have y1' := y1
  obtain ⟨y10, y11, y12⟩ := y1
  go_upto_region 3 with (go_at_call 47; refine (HY _).mono ?_; rintro e w2 ⟨rfl, hb2⟩)
  have x2 := x1.next hb2
  have y2 := y1'.next hb2
  have r2 := r1.next hb2
  have b2 := b1.trans (hb2.mono b1.size)
  obtain ⟨x20, x21, x22⟩ := x2
  obtain ⟨y20, y21, y22⟩ := y2
  clear y10 y11 y12 y1' x1 r1 b1 HY hb2
  go_wp2_with fail
  refine (HR _ b2).mono ?_
  rintro e w4 ⟨v, rfl, hv4, hb4⟩
  obtain ⟨k1, f1, m1, d1, k2, f2, m2, d2, rfl⟩ := hv4.form
  have r4 := r2.next hb4
  have b4 := b2.trans (hb4.mono b2.size)
  obtain ⟨⟨v0, v1, v2, v3, q0, q1, q2, q3⟩, cf⟩ := r4.cells
  have hlt := r4.lt
  have hdk := r4.set (.bool k1) (.slice f1 m1 d1) (.bool k2) (.slice f2 m2 d2)
  have hf := hv4.dk hdk
  clear hv4 hb4 r2 r4 hdk HR b2 x20 x21 x22 y20 y21 y22
  simp only []
  go_wp2_with fail
  exact bodyPost_ret (v := .tuple #[.agg #[.bool k1, .slice f1 m1 d1, .bool k2, .slice f2 m2 d2], .int .i64 0]) (by simp [results, Tryz.results34, go_sem, q0, q1, q2, q3]) rfl ⟨_, rfl, hf, Below.set4 b4 (by omega) _ _ _ _⟩

set_option maxRecDepth 100000 in
set_option maxHeartbeats 6400000 in
theorem rfrac_any (a D : Nat) (w : World) (ha : a ≤ 9223372036854775807) (hD : 0 < D) (hD2 : D ≤ 9223372036854775807) :
    Calls Tryz.prog 18 #[.int .i64 a, .int .i64 D] w fun e w' => ∃ v, e = .returned (.tuple #[v, .int .i64 0]) ∧ RatV w' v ((a / Nat.gcd a D : Nat) : Int) (D / Nat.gcd a D) 2 ∧ Below w.heap.size w w' := by
  have b1 := (Below.refl w.heap.size w).alloc (Nat.le_refl _) (.cells #[.bool false, .slice none 0 0, .bool false, .slice none 0 0] 50)
  have r1 := box4_made w
  have HR := fun W x y (hx : IntV W W.heap.size x (a : Int) 2) (hy : IntV W W.heap.size y (D : Int) 2) => rmake_any x y a D 2 W (by omega) (by omega) hD hx hy
  simp only [Int.natAbs_natCast, ← Int.ofNat_tdiv] at HR
  have HO := fun W => of_any (a : Int) W (by omega)
  have HO1 := fun W => of_any (D : Int) W (by omega)
  generalize D / Nat.gcd a D = q at *
  generalize a / Nat.gcd a D = p at *
  clear ha hD hD2
  go_enter Tryz.func18, Tryz.ntmps18
  go_upto_region 1 with fail
  generalize w.alloc _ = w1 at *
  have e1 := b1.size
  go_wp2_with fail
  refine (HO _).mono ?_
  rintro e w2 ⟨v, rfl, hv2, hb2⟩
  obtain ⟨g1, a1, n1, c1, rfl⟩ := hv2.form
  simp only []
  go_wp2_with fail
  refine (HO1 _).mono ?_
  rintro e w3 ⟨v, rfl, hv3, hb3⟩
  obtain ⟨g2, a2, n2, c2, rfl⟩ := hv3.form
  simp only []
  go_wp2_with fail
  refine (HR _ _ _ (hv2.nxt hb3) hv3).mono ?_
  rintro e w4 ⟨v, rfl, hv4, hb4⟩
  obtain ⟨k1, f1, m1, d1, k2, f2, m2, d2, rfl⟩ := hv4.form
  have bx := hb2.trans ((hb3.trans (hb4.mono hb3.size)).mono hb2.size)
  have r4 := r1.next bx
  have b4 := b1.trans (bx.mono b1.size)
  obtain ⟨⟨v0, v1, v2, v3, q0, q1, q2, q3⟩, cf⟩ := r4.cells
  have hlt := r4.lt
  have hdk := r4.set (.bool k1) (.slice f1 m1 d1) (.bool k2) (.slice f2 m2 d2)
  have hf := hv4.dk hdk
  clear hv2 hv3 hv4 hb2 hb3 hb4 bx r1 r4 hdk HR HO HO1
  simp only []
  go_wp2_with fail
  exact bodyPost_ret (v := .tuple #[.agg #[.bool k1, .slice f1 m1 d1, .bool k2, .slice f2 m2 d2], .int .i64 0]) (by simp [results, Tryz.results18, go_sem, q0, q1, q2, q3]) rfl ⟨_, rfl, hf, Below.set4 b4 (Nat.le_refl _) _ _ _ _⟩

/-- A rational's box and a box for an integer. -/
theorem den_start (w : World) (g1 g2 : Bool) (a1 a2 : Option Addr) (n1 c1 n2 c2 : Nat) :
    Below w.heap.size w ((w.alloc (.cells #[.bool g1, .slice a1 n1 c1, .bool g2, .slice a2 n2 c2] 50)).alloc (.cells #[.bool false, .slice none 0 0] 48)) ∧
    w.heap.size + 1 < ((w.alloc (.cells #[.bool g1, .slice a1 n1 c1, .bool g2, .slice a2 n2 c2] 50)).alloc (.cells #[.bool false, .slice none 0 0] 48)).heap.size ∧
    ((w.alloc (.cells #[.bool g1, .slice a1 n1 c1, .bool g2, .slice a2 n2 c2] 50)).alloc (.cells #[.bool false, .slice none 0 0] 48)).cell? ⟨w.heap.size, 0, none⟩ = some (.bool g1) ∧
    ((w.alloc (.cells #[.bool g1, .slice a1 n1 c1, .bool g2, .slice a2 n2 c2] 50)).alloc (.cells #[.bool false, .slice none 0 0] 48)).cell? ⟨w.heap.size, 1, none⟩ = some (.slice a1 n1 c1) ∧
    ((w.alloc (.cells #[.bool g1, .slice a1 n1 c1, .bool g2, .slice a2 n2 c2] 50)).alloc (.cells #[.bool false, .slice none 0 0] 48)).cell? ⟨w.heap.size, 2, none⟩ = some (.bool g2) ∧
    ((w.alloc (.cells #[.bool g1, .slice a1 n1 c1, .bool g2, .slice a2 n2 c2] 50)).alloc (.cells #[.bool false, .slice none 0 0] 48)).cell? ⟨w.heap.size, 3, none⟩ = some (.slice a2 n2 c2) ∧
    ((w.alloc (.cells #[.bool g1, .slice a1 n1 c1, .bool g2, .slice a2 n2 c2] 50)).alloc (.cells #[.bool false, .slice none 0 0] 48)).heap[w.heap.size + 1]? = some (.cells #[.bool false, .slice none 0 0] 48 (0, 0)) := by
  refine ⟨((Below.refl w.heap.size w).alloc (Nat.le_refl _) _).alloc (by simp) _, by simp, ?_, ?_, ?_, ?_, blk_lies (by simp)⟩
  all_goals simp [go_sem]
theorem box_res {w : World} {g : Nat} {u : Bool} {a : Option Addr} {n c : Nat} {t : TypeId} (h : w.heap[g]? = some (.cells #[.bool u, .slice a n c] t (0, 0))) : w.cell? ⟨g, 0, none⟩ = some (.bool u) ∧ w.cell? ⟨g, 1, none⟩ = some (.slice a n c) ∧ (∀ j, w.frozen? ⟨g, j, none⟩ = false) ∧ g < w.heap.size :=
  ⟨by simp [World.cell?, h], by simp [World.cell?, h], fun j => by simp [World.frozen?, h], (Array.getElem?_eq_some_iff.1 h).1⟩
theorem below_set2 {N g : Nat} {w w' : World} (h : Below N w w') (hg : N ≤ g) (x y : Value) : Below N w ((w'.setCell ⟨g, 0, none⟩ x).setCell ⟨g, 1, none⟩ y) :=
  (h.setCell (p := (⟨g, 0, none⟩ : Addr)) hg x).setCell (p := (⟨g, 1, none⟩ : Addr)) hg y

set_option maxRecDepth 100000 in
set_option maxHeartbeats 6400000 in
theorem rden_any (x : Value) (p : Int) (q K : Nat) (w : World) (hK : K ≤ 10000) (hK2 : 2 ≤ K) (hx : RatV w x p q K) :
    Calls Tryz.prog 36 #[x] w fun e w' => ∃ v, e = .returned v ∧ IntV w' w'.heap.size v (q : Int) K ∧ Below w.heap.size w w' := by
  obtain ⟨g1, a1, n1, c1, g2, a2, n2, c2, qd, rfl, hn, hd, hq, hq0⟩ := hx
  obtain ⟨b1, s1, x0, x1, x2, x3, r1⟩ := den_start w g1 g2 a1 a2 n1 c1 n2 c2
  have HS := fun W => sign_any (.agg #[.bool g2, .slice a2 n2 c2]) (qd : Int) K W w hK hd
  have HO := fun W => of_any 1 W (by omega)
  by_cases h0 : qd = 0
  · subst h0
    rw [show sg ((0 : Nat) : Int) = 0 from rfl] at HS
    have hq1 : q = 1 := by rcases hq with h | h <;> omega
    subst hq1
    clear hd hn hq hq0
    go_enter Tryz.func36, Tryz.ntmps36
    go_upto_region 1 with fail
    generalize (w.alloc _).alloc _ = w1 at *
    go_upto_region 2 with (go_at_call 47; refine (HS _).mono ?_; rintro e w2 ⟨rfl, hb2⟩)
    go_wp2_with fail
    refine (HO _).mono ?_
    rintro e w3 ⟨v, rfl, hv3, hb3⟩
    obtain ⟨g4, a4, n4, c4, rfl⟩ := hv3.form
    have bx := hb2.trans (hb3.mono hb2.size)
    have r3 := (bx.block _ s1).trans r1
    have b3 := b1.trans (bx.mono b1.size)
    obtain ⟨q0, q1, cf, hlt⟩ := box_res r3
    have hf := (hv3.wide hK2).dk (Dk.box r3 (.bool g4) (.slice a4 n4 c4))
    clear HS HO hb2 hb3 bx r1 r3 x0 x1 x2 x3 hv3
    simp only []
    go_wp2_with fail
    exact bodyPost_ret (v := .agg #[.bool g4, .slice a4 n4 c4]) (by simp [results, Tryz.results36, go_sem, q0, q1]) rfl ⟨_, rfl, hf, below_set2 b3 (by omega) _ _⟩
  · rw [sg_pos (z := (qd : Int)) (by omega)] at HS
    have hq1 : qd = q := by rcases hq with h | h; exact h; exact absurd h.1 h0
    subst hq1
    clear hn hq hq0 HO
    go_enter Tryz.func36, Tryz.ntmps36
    go_upto_region 1 with fail
    generalize (w.alloc _).alloc _ = w1 at *
    go_upto_region 3 with (go_at_call 47; refine (HS _).mono ?_; rintro e w2 ⟨rfl, hb2⟩)
    have y2 := keep_cell hb2 (by omega) x2
    have y3 := keep_cell hb2 (by omega) x3
    have hlx : w.heap.size < w2.heap.size := by have := hb2.size; omega
    have r3 := (hb2.block _ s1).trans r1
    have b3 := b1.trans (hb2.mono b1.size)
    obtain ⟨q0, q1, cf, hlt⟩ := box_res r3
    have hf := (hd.on b3 b3.size).dk (Dk.box r3 (.bool g2) (.slice a2 n2 c2))
    clear HS hb2 r1 r3 x0 x1 x2 x3 hd
    go_wp2_with fail
    exact bodyPost_ret (v := .agg #[.bool g2, .slice a2 n2 c2]) (by simp [results, Tryz.results36, go_sem, q0, q1]) rfl ⟨_, rfl, hf, below_set2 b3 (by omega) _ _⟩
end
end Go.Proofs.YtfoadipocpopiaaGreat
