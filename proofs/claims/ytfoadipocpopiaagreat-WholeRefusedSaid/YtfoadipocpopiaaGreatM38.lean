/- Several texts in one: The walk over taskset.Fits. Conditions: the tasks lie in memory. What Overload and Fits answer together: plain Lean. Conditions: each theorem's own. A growing slice of rows of integers, that lie in blocks of their own. Conditions: each theorem's own. -/
import Derived.Test.YtfoadipocpopiaaGreatM06
import Derived.Test.YtfoadipocpopiaaGreatRatAdd
import Derived.Test.YtfoadipocpopiaaGreatTDem
import Derived.Test.YtfoadipocpopiaaGreatM16
namespace Go.Proofs.YtfoadipocpopiaaGreat
section
open Go.RowKit Go.Deep

/-- The block g is the box of a rational number. -/
def BoxR (w : World) (g : Nat) (u1 : Bool) (b1 : Option Addr) (m1 d1 : Nat) (u2 : Bool) (b2 : Option Addr) (m2 d2 : Nat) : Prop :=
  w.heap[g]? = some (.cells #[.bool u1, .slice b1 m1 d1, .bool u2, .slice b2 m2 d2] 50 (0, 0))
section
variable {w w' : World} {g : Nat} {u1 u2 : Bool} {b1 b2 : Option Addr} {m1 d1 m2 d2 : Nat}
theorem BoxR.cells (h : BoxR w g u1 b1 m1 d1 u2 b2 m2 d2) : w.cell? ⟨g, 0, none⟩ = some (.bool u1) ∧ w.cell? ⟨g, 1, none⟩ = some (.slice b1 m1 d1) ∧ w.cell? ⟨g, 2, none⟩ = some (.bool u2) ∧ w.cell? ⟨g, 3, none⟩ = some (.slice b2 m2 d2) ∧ (∀ j, w.frozen? ⟨g, j, none⟩ = false) ∧ g < w.heap.size := by
  unfold BoxR at h
  exact ⟨by simp [World.cell?, h], by simp [World.cell?, h], by simp [World.cell?, h], by simp [World.cell?, h], fun j => by simp [World.frozen?, h], (Array.getElem?_eq_some_iff.1 h).1⟩
theorem BoxR.box4 (h : BoxR w g u1 b1 m1 d1 u2 b2 m2 d2) : Box4 w g := ⟨u1, b1, m1, d1, u2, b2, m2, d2, h⟩
theorem BoxR.next (hb : Below w.heap.size w w') (h : BoxR w g u1 b1 m1 d1 u2 b2 m2 d2) : BoxR w' g u1 b1 m1 d1 u2 b2 m2 d2 := (hb.block g h.cells.2.2.2.2.2).trans h
theorem BoxR.made (w : World) (u1 : Bool) (b1 : Option Addr) (m1 d1 : Nat) (u2 : Bool) (b2 : Option Addr) (m2 d2 : Nat) : BoxR (w.alloc (.cells #[.bool u1, .slice b1 m1 d1, .bool u2, .slice b2 m2 d2] 50)) w.heap.size u1 b1 m1 d1 u2 b2 m2 d2 := blk_lies rfl
theorem Box4.put (h : Box4 w g) (u1 : Bool) (b1 : Option Addr) (m1 d1 : Nat) (u2 : Bool) (b2 : Option Addr) (m2 d2 : Nat) : BoxR ((((w.setCell ⟨g, 0, none⟩ (.bool u1)).setCell ⟨g, 1, none⟩ (.slice b1 m1 d1)).setCell ⟨g, 2, none⟩ (.bool u2)).setCell ⟨g, 3, none⟩ (.slice b2 m2 d2)) g u1 b1 m1 d1 u2 b2 m2 d2 := by
  obtain ⟨v1, e1, k1, f1, v2, e2, k2, f2, e⟩ := h
  unfold BoxR
  simp [World.setCell, Array.getElem?_modify, e]
end
theorem RatV.alc {w : World} {v : Value} {p : Int} {q K : Nat} (o : Obj) (h : RatV w v p q K) : RatV (w.alloc o) v p q K := h.nxt ((Below.refl _ _).alloc (Nat.le_refl _) o)
theorem BB_le_pow {k : Nat} : 1 < BB ^ (k + 1) := by
  rw [Nat.pow_succ]
  have := BBn_pos k
  have : 4294967296 * BB ^ k = BB ^ k * BB := Nat.mul_comm _ _
  omega

def FS (w : World) (g : Nat) (u1 : Bool) (b1 : Option Addr) (m1 d1 : Nat) (u2 : Bool) (b2 : Option Addr) (m2 d2 : Nat) (W : World) : Prop := Below w.heap.size w W ∧ W.cell? ⟨g, 0, none⟩ = some (.bool u1) ∧ W.cell? ⟨g, 1, none⟩ = some (.slice b1 m1 d1) ∧ W.cell? ⟨g, 2, none⟩ = some (.bool u2) ∧ W.cell? ⟨g, 3, none⟩ = some (.slice b2 m2 d2) ∧ g < W.heap.size
theorem FS.next {w W W' : World} {g : Nat} {u1 u2 : Bool} {b1 b2 : Option Addr} {m1 d1 m2 d2 : Nat} (h : FS w g u1 b1 m1 d1 u2 b2 m2 d2 W) (hb : Below W.heap.size W W') : FS w g u1 b1 m1 d1 u2 b2 m2 d2 W' := by
  obtain ⟨h1, h2, h3, h4, h5, h6⟩ := h
  exact ⟨h1.trans (hb.mono h1.size), keep_cellN hb h6 h2, keep_cellN hb h6 h3, keep_cellN hb h6 h4, keep_cellN hb h6 h5, by have := hb.size; omega⟩
theorem FS.drew {w W : World} {g : Nat} {u1 u2 : Bool} {b1 b2 : Option Addr} {m1 d1 m2 d2 : Nat} (h : FS w g u1 b1 m1 d1 u2 b2 m2 d2 W) : FS w g u1 b1 m1 d1 u2 b2 m2 d2 W.drew := h.next (Below.refl _ _).drew

/-- What Fits answers. -/
def fitsB (l : List TT) (z : Int) : Bool := tsOK l && decide ((nm l l.length : Int) ≤ z * dn l l.length)

set_option maxRecDepth 100000 in
set_option maxHeartbeats 6400000 in
theorem fits_any (l : List TT) (z : Int) (a : Option Addr) (cap : Nat) (w : World) (hl : l.length ≤ 9223372036854775807) (hz : -9223372036854775808 ≤ z ∧ z ≤ 9223372036854775807) (hc : TSAt w w.heap.size a l) :
    Calls Tryz.prog 7 #[.slice a l.length cap, .int .i64 z] w fun e w' => e = .returned (.bool (fitsB l z)) ∧ Below w.heap.size w w' := by
  have HT := tvalid_any l a cap w hl hc
  by_cases hok : tsOK l = true
  · rw [hok] at HT
    have hl40 := (tsOK_bd hok).1
    have hlI : (l.length : Int) ≤ 40 := by omega
    have HOK := Lib.hid hok
    have HO := fun W => rof_any 0 W (by omega)
    have HZ := Lib.hid (fun W => rof_any z W hz)
    have HC := Lib.hid hc
    clear hok hl hc hz
    go_enter Tryz.func7, Tryz.ntmps7
    go_upto_region 3 with (go_at_call 13; refine HT.mono ?_; rintro e w1 ⟨rfl, hb1⟩)
    clear HT
    go_wp2_with fail
    refine (HO _).mono ?_
    rintro e w2 ⟨v, rfl, hv2, hb2⟩
    obtain ⟨u1, b1, m1, d1, u2, b2, m2, d2, rfl⟩ := hv2.form
    have b12 := hb1.trans (hb2.mono hb1.size)
    have b13 := b12.alloc b12.size (.cells #[.bool u1, .slice b1 m1 d1, .bool u2, .slice b2 m2 d2] 50)
    have bx3 := BoxR.made w2 u1 b1 m1 d1 u2 b2 m2 d2
    have hv3 := hv2.alc (.cells #[.bool u1, .slice b1 m1 d1, .bool u2, .slice b2 m2 d2] 50)
    have hsz := b12.size
    clear hv2 hb1 hb2 b12 HO
    simp only []
    go_wp2_with fail
    generalize w2.alloc _ = w3 at *
    generalize w2.heap.size = g0 at *
    go_loopw [16] (fun u wr => ∃ (k p q : Nat) (u1 : Bool) (b1 : Option Addr) (m1 d1 : Nat) (u2 : Bool) (b2 : Option Addr) (m2 d2 : Nat), u = .int .i64 k ∧ k ≤ l.length ∧ Hid (BoxR wr g0 u1 b1 m1 d1 u2 b2 m2 d2) ∧ RatV wr (.agg #[.bool u1, .slice b1 m1 d1, .bool u2, .slice b2 m2 d2]) p q (k + 2) ∧ Hid (LoadPQ l k p q) ∧ Below w.heap.size w wr) (fun u _ => l.length - (intOf u).toNat)
    case atStart => exact ⟨0, 0, 1, _, _, _, _, _, _, _, _, rfl, by omega, Lib.hid bx3, hv3, Lib.hid (LoadPQ.start l), b13⟩
    case round =>
      clear bx3 hv3 b13
      obtain ⟨k, p, q, u1, b1, m1, d1, u2, b2, m2, d2, rfl, hk, hbx, hrv, hpq, hbl⟩ := hrel
      by_cases h0 : k < l.length
      · obtain ⟨b, off, rfl, hbN, hcell⟩ := HC.out (by intro e; simp [e] at h0)
        obtain ⟨c0, c1, c2⟩ := hcell k _ (ttAt_get h0)
        have c0 := keep_cellN hbl hbN c0
        have c1 := keep_cellN hbl hbN c1
        have c2 := keep_cellN hbl hbN c2
        obtain ⟨t1, t2, t3, t4, t5⟩ := tsOK_at HOK.out h0
        rw [t4] at c1
        rw [t5] at c2
        have hbr : b < wr.heap.size := by have := hbl.size; omega
        have HST := Lib.hid (hpq.out.step (show 0 < tp l k by omega))
        have HBD := Lib.hid (fun (p q : Nat) (h : LoadPQ l (k + 1) p q) => h.bounds HOK.out (by omega))
        have HF := fun W => rfrac_any (tc l k) (tp l k) W (by omega) (by omega) (by omega)
        have hkl : (k : Int) < (l.length : Int) := by omega
        generalize (ttAt l k).nm = tn at *
        clear hcell hpq t4 t5
        generalize tp l k / Nat.gcd (tc l k) (tp l k) = q2 at *
        generalize tc l k / Nat.gcd (tc l k) (tp l k) = p2 at *
        generalize tc l k = cc at *
        generalize tp l k = pp at *
        have b4 := hbl.alloc hbl.size (.cells #[.string tn, .int .i64 cc, .int .i64 pp] 41)
        have ba := (Below.refl wr.heap.size wr).alloc (Nat.le_refl _) (.cells #[.string tn, .int .i64 cc, .int .i64 pp] 41)
        have jb := blkT (Go.Deep.blk_alloc_new wr (.cells #[.string tn, .int .i64 cc, .int .i64 pp] 41))
        have hj : wr.heap.size < (wr.alloc (.cells #[.string tn, .int .i64 cc, .int .i64 pp] 41)).heap.size := by simp
        have bx4 := BoxR.next ba hbx.out
        have hr4 := hrv.nxt ba
        clear ba hbx hrv hbl
        go_upto_region 7 with fail
        generalize wr.alloc _ = w4 at *
        obtain ⟨j0, j1, j2⟩ := jb
        go_wp2_with fail
        refine (HF _).mono ?_
        rintro e w5 ⟨v, rfl, hv5, hb5⟩
        obtain ⟨x1, f1, n1, k1, x2, f2, n2, k2, rfl⟩ := hv5.form
        have ba := (Below.refl w5.heap.size w5).alloc (Nat.le_refl _) (.cells #[.bool x1, .slice f1 n1 k1, .bool x2, .slice f2 n2 k2] 50)
        have bb := hb5.trans (ba.mono hb5.size)
        have y6 := BoxR.made w5 x1 f1 n1 k1 x2 f2 n2 k2
        have hv6 := hv5.nxt ba
        have bx6 := BoxR.next bb bx4
        have hr6 := hr4.nxt bb
        have b6 := b4.trans (bb.mono b4.size)
        clear ba bb hb5 hv5 hr4 bx4 b4 HF j0 j1 j2
        simp only []
        go_upto_region 10 with fail
        generalize w5.alloc _ = w6 at *
        generalize w5.heap.size = gx at *
        obtain ⟨y0, y1, y2, y3, yf, yl⟩ := BoxR.cells y6
        obtain ⟨z0, z1, z2, z3, zf, zl⟩ := BoxR.cells bx6
        have HA := radd_any _ _ p p2 q q2 (k + 2) w6 (by omega) (by omega) hr6 (hv6.wide (by omega))
        go_wp2_with fail
        refine HA.mono ?_
        rintro e w7 ⟨v, rfl, hv7, hb7⟩
        have hbd := HBD.out _ _ HST.out
        have hv7 := RatV.tight (K' := k + 1 + 2) hv7 (by rw [Int.natAbs_natCast]; exact Nat.lt_of_lt_of_le hbd.1 (Nat.pow_le_pow_right BB_pos (by omega))) (Nat.lt_of_lt_of_le hbd.2 (Nat.pow_le_pow_right BB_pos (by omega)))
        obtain ⟨x3, f3, n3, k3, x4, f4, n4, k4, rfl⟩ := hv7.form
        have bx7 := BoxR.next hb7 bx6
        obtain ⟨z0, z1, z2, z3, zf, zl⟩ := BoxR.cells bx7
        have b7 := b6.trans (hb7.mono b6.size)
        have b8 := Below.set4 b7 (show w.heap.size ≤ g0 by omega) (.bool x3) (.slice f3 n3 k3) (.bool x4) (.slice f4 n4 k4)
        have bx8 := Box4.put bx7.box4 x3 f3 n3 k3 x4 f4 n4 k4
        have hv8 := hv7.dk (bx7.box4.set (.bool x3) (.slice f3 n3 k3) (.bool x4) (.slice f4 n4 k4))
        clear HA hv7 hb7 bx7 b6 b7 bx6 y6 hr6 hv6 y0 y1 y2 y3 hbd
        simp only []
        go_wp2_with fail
        go_roundw
        case rel => exact ⟨k + 1, _, _, x3, f3, n3, k3, x4, f4, n4, k4, by go_num, by omega, Lib.hid bx8, hv8, HST, b8⟩
        case measure => simp [intOf]; omega
      · obtain rfl : k = l.length := by omega
        have HCZ := Lib.hid (hpq.out.cmp HOK.out (Nat.le_refl _) z)
        have hlen := hl40
        obtain ⟨z0, z1, z2, z3, zf, zl⟩ := BoxR.cells hbx.out
        have s0 : FS wr g0 u1 b1 m1 d1 u2 b2 m2 d2 wr := ⟨Below.refl _ _, z0, z1, z2, z3, zl⟩
        have HR := fun W v (hb : Below wr.heap.size wr W) (hv : RatV W v z 1 2) => rcmp_any (.agg #[.bool u1, .slice b1 m1 d1, .bool u2, .slice b2 m2 d2]) v p z q 1 (l.length + 2) W (by omega) (by omega) (hrv.dk (Dk.below hb)) (hv.wide (by omega))
        have HZO := HZ.out
        have HFB := Lib.hid (show decide (cmpZ ((p : Int) * ((1 : Nat) : Int)) (z * (q : Int)) ≤ 0) = fitsB l z from by
          unfold fitsB
          rw [HOK.out, Bool.true_and]
          refine decide_eq_decide.2 ?_
          rw [← HCZ.out]
          unfold cmpZ
          simp only [Int.natCast_one, Int.mul_one]
          split
          · omega
          · split <;> omega)
        generalize cmpZ ((p : Int) * ((1 : Nat) : Int)) (z * (q : Int)) = cz at *
        clear hbx hrv hpq HCZ z0 z1 z2 z3 zf hk h0
        go_upto_region 12 with fail
        go_region_held3 (fun W => (Below wr.heap.size wr W ∧ W.cell? ⟨g0, 0, none⟩ = some (.bool u1) ∧ W.cell? ⟨g0, 1, none⟩ = some (.slice b1 m1 d1) ∧ W.cell? ⟨g0, 2, none⟩ = some (.bool u2) ∧ W.cell? ⟨g0, 3, none⟩ = some (.slice b2 m2 d2) ∧ g0 < W.heap.size))
          (first
            | exact s0
            | exact FS.drew s0
            | assumption
            | exact FS.next (by assumption) (by assumption))
          (first
            | (go_at_call 17; (with_reducible refine (HZO _).mono ?_); rintro e w4 ⟨v, rfl, hv4, hb4⟩; obtain ⟨x1, f1, n1, k1, x2, f2, n2, k2, hvv⟩ := RatV.form hv4; subst hvv; have s4 := FS.next (show FS wr g0 u1 b1 m1 d1 u2 b2 m2 d2 _ by assumption) hb4; have h4 := s4.1)
            | (go_at_call 20; (with_reducible refine (HR _ _ h4 hv4).mono ?_); rintro e w5 ⟨rfl, hb5⟩))
        have b5 := hbl.trans ((h4.trans (hb5.mono h4.size)).mono hbl.size)
        clear HR HZO hv4 s4 h4 hb5
        go_wp2_with fail
        go_ret
        exact ⟨ret_bool HFB.out, b5⟩
  · have hok' : tsOK l = false := by simpa using hok
    rw [hok'] at HT
    have hf : fitsB l z = false := by unfold fitsB; rw [hok']; rfl
    have HF := Lib.hid hf
    clear hok hok' hc hf
    go_enter Tryz.func7, Tryz.ntmps7
    go_wp2_with (go_at_call 13; refine HT.mono ?_; rintro e w1 ⟨rfl, hb1⟩)
    go_ret
    exact ⟨ret_bool HF.out.symm, hb1⟩
end

section
theorem over_cases {l : List TT} {z : Int} (h0 : (hypR l).2 = 0) : (overR l z = (0, 0, false) ∧ fitsB l z = true) ∨ (overR l z = ((hyp l l.length : Int), (dem l (hyp l l.length) l.length : Int), true) ∧ fitsB l z = false ∧ z * (hyp l l.length : Int) < (dem l (hyp l l.length) l.length : Int)) := by
  obtain ⟨hok, hle, he⟩ := hypR_ok h0
  have hpos := hyp_pos hok l.length (Nat.le_refl _)
  have hf := fits_iff hok hpos (fun i hi => hyp_dvd hle l.length (Nat.le_refl _) hi) z
  have hF : fitsB l z = decide ((dem l (hyp l l.length) l.length : Int) ≤ z * (hyp l l.length : Int)) := by
    unfold fitsB
    rw [hok, Bool.true_and]
    exact decide_eq_decide.2 hf
  have hdl := dem_le hok (hyp l l.length) l.length (Nat.le_refl _)
  have hl40 := (tsOK_bd hok).1
  have hd2 : dem l (hyp l l.length) l.length ≤ 40 * hyp l l.length := Nat.le_trans hdl (Nat.mul_le_mul_right _ hl40)
  rw [hF]
  unfold overR
  generalize hyp l l.length = H at *
  generalize dem l H l.length = D at *
  by_cases hz : z < 40
  · rw [if_pos ⟨h0, hz⟩]
    by_cases hD : (D : Int) ≤ z * (H : Int)
    · have hz0 : 0 ≤ z := by
        rcases Int.lt_or_le z 0 with h | h
        · have : z * (H : Int) < 0 := Int.mul_neg_of_neg_of_pos h (by omega)
          omega
        · exact h
      rw [if_pos ⟨hz0, hD⟩]
      exact .inl ⟨rfl, decide_eq_true hD⟩
    · rw [if_neg (fun h => hD h.2)]
      exact .inr ⟨rfl, decide_eq_false hD, by omega⟩
  · rw [if_neg (fun h => hz h.2)]
    refine .inl ⟨rfl, decide_eq_true ?_⟩
    have h1 : (40 : Int) * H ≤ z * H := Int.mul_le_mul_of_nonneg_right (by omega) (by omega)
    omega
end

section
open Go.RowKit
def RowsW (N : Nat) (w : World) (v : Value) (R : List (List Int)) : Prop :=
  ∃ vals : List Value, Win w 42 1 v R.length vals ∧ (∀ g, v.ownBlock = some g → N ≤ g) ∧ ∀ (i : Nat) (r : List Int), R[i]? = some r → ∃ (a : Option Addr) (c : Nat), vals[i]? = some (Value.slice a r.length c) ∧ r.length ≤ c ∧ c ≤ 9223372036854775807 ∧ IntsAt w w.heap.size a r ∧ (r ≠ [] → ∀ g o, a = some ⟨g, o, none⟩ → v.ownBlock ≠ some g)
theorem RowsW.nil (N : Nat) (w : World) : RowsW N w (.slice none 0 0) [] :=
  ⟨[], Win.nil _ _ _, fun g h => by simp [Value.ownBlock] at h, fun i r h => by simp at h⟩
theorem RowsW.below {N : Nat} {w w' : World} {v : Value} {R : List (List Int)} (h : RowsW N w v R) (hb : Below w.heap.size w w') : RowsW N w' v R := by
  obtain ⟨vals, h1, h2, h3⟩ := h
  refine ⟨vals, h1.below hb fun g hg => h1.blk_lt hg, h2, fun i r hi => ?_⟩
  obtain ⟨a, c, q1, q2, q3, q4, q5⟩ := h3 i r hi
  exact ⟨a, c, q1, q2, q3, q4.on hb hb.size, q5⟩
/-- append of one row. -/
theorem RowsW.push {N : Nat} {w : World} {v : Value} {R : List (List Int)} (h : RowsW N w v R) (hN : N ≤ w.heap.size) (r : List Int) (a : Option Addr) (c : Nat) (hc : r.length ≤ c) (hcm : c ≤ 9223372036854775807) (hr : IntsAt w w.heap.size a r)
    (hne : r ≠ [] → ∀ g o, a = some ⟨g, o, none⟩ → v.ownBlock ≠ some g) (hm : R.length ≤ 1000000) :
    ∃ v' w', (Builtin.append_ #[30, 30] 30 #[v, .slice (some ⟨w.heap.size, 0, none⟩) 1 1]).run Tryz.prog (w.alloc (.cells #[.slice a r.length c] 42)) = .ok v' w' ∧ RowsW N w' v' (R ++ [r]) ∧ Below N w w' := by
  obtain ⟨vals, h1, h2, h3⟩ := h
  have hvl := h1.1
  obtain ⟨gg, o, cc, w', hrun, hw', hgr, hl, hlt⟩ := Win.push (P := Tryz.prog) (t := 30) (ty := 30) Tryz.underlying30 info_introw (by simp [Value.cells]) (by decide)
    (h1.alloc (.cells #[.slice a r.length c] 42)) ⟨w.heap.size, 0, none⟩ 1 [.slice a r.length c] rfl (fun k u hk => World.news_of_block (Go.Deep.blk_alloc_new _ _) k u hk) (fun u hu => by
      rw [List.mem_singleton.1 hu]; rfl) (by omega) (by omega)
  have hold : ∀ g, g < w.heap.size → v.ownBlock ≠ some g → w'.heap[g]? = w.heap[g]? := fun g hg hn => by
    rw [hgr.block g (by simp; omega) (fun e => hn e.symm)]
    exact Below.heap_alloc _ _ _ hg
  have hsz : w.heap.size ≤ w'.heap.size := by have := hgr.size; simp at this; omega
  have move : ∀ (a' : Option Addr) (r' : List Int), IntsAt w w.heap.size a' r' → (r' ≠ [] → ∀ g o, a' = some ⟨g, o, none⟩ → v.ownBlock ≠ some g) → IntsAt w' w'.heap.size a' r' := fun a' r' hi hn hne' => by
    obtain ⟨g, o', rfl, hg, hcell⟩ := hi hne'
    refine ⟨g, o', rfl, by omega, fun i x hx => ?_⟩
    rw [World.cell?_of_block (w := w) (a := ⟨g, o' + i, none⟩) (hold g hg (hn hne' g o' rfl))]
    exact hcell i x hx
  have own' : ∀ (a' : Option Addr) (r' : List Int), IntsAt w w.heap.size a' r' → (r' ≠ [] → ∀ g o, a' = some ⟨g, o, none⟩ → v.ownBlock ≠ some g) → r' ≠ [] → ∀ g o', a' = some ⟨g, o', none⟩ → (Value.slice (some ⟨gg, o, none⟩) (R.length + 1) cc).ownBlock ≠ some g := fun a' r' hi hn hne' g o' e e2 => by
    simp only [Value.ownBlock, Option.some.injEq] at e2
    obtain ⟨g2, o2, e3, hg, _⟩ := hi hne'
    subst e3
    simp only [Option.some.injEq, Addr.mk.injEq] at e
    obtain ⟨rfl, rfl, _⟩ := e
    rcases hl with hl | hl
    · exact hn hne' g2 o2 rfl (by rw [hl, e2])
    · have hl : gg = w.heap.size + 1 := by simpa using hl
      omega
  refine ⟨_, w', hrun, ⟨vals ++ [.slice a r.length c], by simpa using hw', fun g hg => ?_, fun i r' hi => ?_⟩, ((Below.refl N w).alloc hN _).grown hgr (by simp; omega) h2⟩
  · simp only [Value.ownBlock, Option.some.injEq] at hg
    subst hg
    rcases hl with hl | hl
    · exact h2 gg hl
    · rw [hl]; simp; omega
  · by_cases hlt2 : i < R.length
    · rw [List.getElem?_append_left hlt2] at hi
      obtain ⟨a', c', q1, q2, q3, q4, q5⟩ := h3 i r' hi
      have hv : (vals ++ [.slice a r.length c])[i]? = some (.slice a' r'.length c') := by
        rw [List.getElem?_append_left (by omega)]; exact q1
      exact ⟨a', c', hv, q2, q3, move a' r' q4 q5, own' a' r' q4 q5⟩
    · have hlt3 := (List.getElem?_eq_some_iff.1 hi).1
      rw [List.length_append, List.length_singleton] at hlt3
      obtain rfl : i = R.length := by omega
      rw [List.getElem?_append_right (Nat.le_refl _), Nat.sub_self] at hi
      simp only [List.getElem?_cons_zero, Option.some.injEq] at hi
      subst hi
      have hv : (vals ++ [.slice a r.length c])[R.length]? = some (.slice a r.length c) := by
        rw [List.getElem?_append_right (by omega), show R.length - vals.length = 0 by omega]; rfl
      exact ⟨a, c, hv, hc, hcm, move a r hr hne, own' a r hr hne⟩
theorem RowsW.rows {N : Nat} {w : World} {v : Value} {R : List (List Int)} (h : RowsW N w v R) : ∃ a c, v = .slice a R.length c ∧ R.length ≤ c ∧ c ≤ 9223372036854775807 ∧ RowsAt w w.heap.size a R := by
  obtain ⟨vals, h1, h2, h3⟩ := h
  obtain ⟨a, c, e, q1, q2⟩ := h1.form0
  refine ⟨a, c, e, q1, q2, fun hne => ?_⟩
  obtain ⟨g, o, cap, e2, hlt, _⟩ := h1.form (List.length_pos_iff.2 hne)
  rw [e2] at e h1
  simp only [Value.slice.injEq] at e
  obtain ⟨rfl, _⟩ := e
  refine ⟨g, o, rfl, hlt, fun i r hi => ?_⟩
  obtain ⟨a', c', p1, p2, p3, p4, _⟩ := h3 i r hi
  exact ⟨a', c', h1.cell p1, p2, p3, p4⟩
end
end Go.Proofs.YtfoadipocpopiaaGreat
