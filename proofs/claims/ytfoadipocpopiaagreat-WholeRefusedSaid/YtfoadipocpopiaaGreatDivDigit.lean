/- The walk over bigint.divideDigit. Conditions: the digits lie in memory, the part is a row of the call's own. -/
import Derived.Test.YtfoadipocpopiaaGreatBigShift
import Derived.Test.YtfoadipocpopiaaGreatKnuth
import Derived.Deep.CutBlock
namespace Go.Proofs.YtfoadipocpopiaaGreat
open Go.RowKit Go.Deep

/-- Nothing but the block b has turned. -/
structure Oth (b : Nat) (w w' : World) : Prop where
  os : w'.os = w.os
  tape : w'.tape = w.tape
  output : w'.output = w.output
  size : w'.heap.size = w.heap.size
  block : ∀ k, k ≠ b → w'.heap[k]? = w.heap[k]?
section
variable {b N : Nat} {w w' w'' : World}
theorem Oth.refl : Oth b w w := ⟨rfl, rfl, rfl, rfl, fun _ _ => rfl⟩
theorem Oth.drew (h : Oth b w w') : Oth b w w'.drew := ⟨h.os, h.tape, h.output, h.size, h.block⟩
theorem Oth.drewN (h : Oth b w w') (k : Nat) : Oth b w (w'.drewN k) := ⟨h.os, h.tape, h.output, h.size, h.block⟩
theorem Oth.set (h : Oth b w w') (j : Nat) (u : Value) : Oth b w (w'.setCell ⟨b, j, none⟩ u) :=
  ⟨h.os, h.tape, h.output, by simpa [World.setCell] using h.size, fun k hk => (Below.heap_setCell _ _ _ _ hk).trans (h.block k hk)⟩
theorem Oth.below (h : Oth b w w') (hN : N ≤ b) : Below N w w' := ⟨h.os, h.tape, h.output, by rw [h.size]; exact Nat.le_refl _, fun k hk => h.block k (by omega)⟩
theorem Oth.cell (h : Oth b w w') {a : Addr} {v : Value} (ha : a.block ≠ b) (hc : w.cell? a = some v) : w'.cell? a = some v := by
  rw [World.cell?_of_block (w := w) (h.block a.block ha)]; exact hc
end
theorem RowU.cell0 {w : World} {b n : Nat} {f : Nat → Nat} (h : RowU w b 0 n f) {j : Nat} (hj : j < n) : w.cell? ⟨b, j, none⟩ = some (.int .u32 (f j)) := by
  have := h.cell hj
  rwa [Nat.zero_add] at this
theorem updN_off (F : Nat → Nat) (o k x : Nat) : (fun i => updG F (o + k) x (o + i)) = updG (fun i => F (o + i)) k x := by
  funext i
  unfold updG
  by_cases e : i = k
  · rw [if_pos e, if_pos (by omega)]
  · rw [if_neg e, if_neg (by omega)]
/-- Outside of the part the row is as it was. -/
def Far (o n : Nat) (F F' : Nat → Nat) : Prop := ∀ i, i < o ∨ o + n + 1 ≤ i → F' i = F i
theorem Far.upd {o n k x : Nat} {F F' : Nat → Nat} (h : Far o n F F') (hk : k ≤ n) : Far o n F (updG F' (o + k) x) := fun i hi => by
  unfold updG
  rw [if_neg (by omega)]
  exact h i hi

/-- Two subtractions that may wrap around: the digit and the borrow. -/
theorem sub_step (x R bo : Nat) (hx : x < BB) (hR : R < BB) (hbo : bo ≤ 1) : ∃ Z1 Z2 : Nat, IntKind.u64.wrap ((x : Int) - (R : Int)) = (Z1 : Int) ∧ IntKind.u64.wrap ((Z1 : Int) - (bo : Int)) = (Z2 : Int) ∧ Z2 ≤ 18446744073709551615 ∧ Z2 / 9223372036854775808 ≤ 1 ∧ x + Z2 / 9223372036854775808 * BB = Z2 % BB + R + bo := by
  have hB : BB = 4294967296 := rfl
  rw [hB] at hx hR ⊢
  refine ⟨(x + 18446744073709551616 - R) % 18446744073709551616, ((x + 18446744073709551616 - R) % 18446744073709551616 + 18446744073709551616 - bo) % 18446744073709551616, ?_, ?_, ?_, ?_, ?_⟩
  · rw [IntKind.wrap_u64]; omega
  · rw [IntKind.wrap_u64]; omega
  all_goals omega

set_option maxRecDepth 100000 in
set_option maxHeartbeats 6400000 in
theorem divDigit_any (n M o : Nat) (F dv : Nat → Nat) (b bd od cap capd : Nat) (w : World) (hn2 : 2 ≤ n) (hn : n ≤ 100000) (hM : o + n + 1 ≤ M) (hrow : RowU w b 0 M F) (hF : Dg F M) (hdv : Dg dv n) (hne : bd ≠ b) (hdc : ∀ i, i < n → w.cell? ⟨bd, od + i, none⟩ = some (.int .u32 (dv i))) (htop : 2147483648 ≤ dv (n - 1)) (hl : vl (fun i => F (o + i)) (n + 1) < BB * vl dv n) :
    Calls Tryz.prog 100 #[.slice (some ⟨b, o, none⟩) (n + 1) cap, .slice (some ⟨bd, od, none⟩) n capd] w fun e w' => ∃ F', e = .returned (.int .u32 ((vl (fun i => F (o + i)) (n + 1) / vl dv n : Nat) : Int)) ∧ RowU w' b 0 M F' ∧ Dg F' M ∧ Far o n F F' ∧ vl (fun i => F' (o + i)) (n + 1) = vl (fun i => F (o + i)) (n + 1) % vl dv n ∧ Oth b w w' := by
  have hB : BB = 4294967296 := rfl
  have HDG : Dg (fun i => F (o + i)) (n + 1) := fun i hi => hF (o + i) (by omega)
  obtain ⟨n1, n2, e1, e2⟩ : ∃ n1 n2, n1 + 1 = n ∧ n2 + 2 = n := ⟨n - 1, n - 2, by omega, by omega⟩
  have hkd : KD (dv n1) (dv n2) (F (o + n)) (F (o + n1)) (F (o + n2)) (vl dv n) (vl (fun i => F (o + i)) (n + 1)) := by
    subst e2
    obtain rfl : n1 = n2 + 1 := by omega
    exact KD.of HDG hdv (by simpa using htop) hl
  have k1 : (n : Int) - 1 = (n1 : Int) := by omega
  have k2 : (n : Int) - 2 = (n2 : Int) := by omega
  have k3 : (n1 : Int) < (n : Int) := by omega
  have k4 : (n2 : Int) < (n : Int) := by omega
  have k5 : (n1 : Int) < (n : Int) + 1 := by omega
  have k6 : (n2 : Int) < (n : Int) + 1 := by omega
  have hnI : (n : Int) ≤ 100000 := by omega
  have x0 := hrow.cell0 (j := o + n) (by omega)
  have x1 := hrow.cell0 (j := o + n1) (by omega)
  have x2 := hrow.cell0 (j := o + n2) (by omega)
  have y1 := hdc n1 (by omega)
  have y2 := hdc n2 (by omega)
  have l0 := hF (o + n) (by omega)
  have HD0 := Lib.hid hkd.D_pos
  have HKD := Lib.hid hkd
  have HKQ := Lib.hid hkd.q_lt
  have HRD := Lib.hid (Nat.lt_trans (Nat.mod_lt (vl (fun i => F (o + i)) (n + 1)) hkd.D_pos) (vl_lt hdv))
  have l1 := hkd.u1l
  have l2 := hkd.u2l
  have l3 := hkd.v1l
  have l4 := hkd.v1g
  have l5 := hkd.v2l
  have l6 := hkd.u0_le
  have HDC := Lib.hid hdc
  have HDV := Lib.hid hdv
  have HE := Lib.hid (And.intro e1 e2)
  have hbr := hrow.lt
  have HDGH := Lib.hid HDG
  clear hkd hdc hdv e1 e2 htop hl HDG
  generalize F (o + n) = u0 at *
  generalize F (o + n1) = u1 at *
  generalize hu2 : F (o + n2) = u2 at *
  have HU2 := Lib.hid hu2
  clear hu2
  generalize dv n1 = v1 at *
  generalize dv n2 = v2 at *
  have hor := or_shl u0 u1 l0 l1
  have hHb : u0 * BB + u1 ≤ 18446744073709551615 := by rw [hB]; omega
  have hHd : (u0 * BB + u1) / v1 ≤ 18446744073709551615 := Nat.le_trans (Nat.div_le_self _ _) hHb
  have hHe := Lib.hid (Nat.div_add_mod (u0 * BB + u1) v1)
  have hHs := Lib.hid HKD.out.start
  have hHl : (u0 * BB + u1) % v1 < v1 := Nat.mod_lt _ (by omega)
  generalize hHg : u0 * BB + u1 = H at hor hHb hHd hHe hHs hHl
  have HH := Lib.hid hHg
  clear hHg
  have hq : IntKind.u64.wrap ((H : Int).tdiv (v1 : Int)) = ((H / v1 : Nat) : Int) := by
    rw [IntWalk.u64_quo _ _ (by omega)]; omega
  have hr : (H : Int).tmod (v1 : Int) = ((H % v1 : Nat) : Int) := by
    rw [Int.tmod_eq_emod_of_nonneg (by omega)]; omega
  have hq2 : IntKind.u64.wrap ((H : Int) / (v1 : Int)) = ((H / v1 : Nat) : Int) := by
    rw [← Int.natCast_ediv]; exact u64_nat _ (by omega)
  have hr2 : (H : Int) % (v1 : Int) = ((H % v1 : Nat) : Int) := by omega
  have hv0I : ¬ (v1 : Int) = 0 := by omega
  generalize H / v1 = g0 at *
  generalize H % v1 = f0 at *
  have hbd : bd < w.heap.size := by
    rcases Nat.lt_or_ge bd w.heap.size with h | h
    · exact h
    · simp [World.cell?, Array.getElem?_eq_none h] at y1
  go_enter Tryz.func100, Tryz.ntmps100
  go_upto_region 2 with fail
  go_quiet (fail)
  go_upto_block 0 with fail
  go_cut [7, 8] (fun u x wx => ∃ g left : Nat, u = .int .u64 g ∧ x = .int .u64 left ∧ g < BB ∧ Hid (vl (fun i => F (o + i)) (n + 1) / vl dv n ≤ g ∧ g ≤ vl (fun i => F (o + i)) (n + 1) / vl dv n + 1) ∧ RowU wx b 0 M F ∧ Oth b w wx)
  case first =>
    have hst := Lib.hid (show vl (fun i => F (o + i)) (n + 1) / vl dv n ≤ g0 ∧ g0 * v1 + f0 = H from ⟨hHs.out, by rw [Nat.mul_comm]; exact hHe.out⟩)
    clear hHs hHe hor hq hr hq2 hr2 HE k3 k5 HDC HDV HDGH hHb HD0
    go_wp2_with fail
    go_loopw [7, 8] (fun u x wr => ∃ g left : Nat, u = .int .u64 g ∧ x = .int .u64 left ∧ Hid (vl (fun i => F (o + i)) (n + 1) / vl dv n ≤ g ∧ g * v1 + left = H) ∧ g ≤ 18446744073709551615 ∧ left ≤ 8589934592 ∧ RowU wr b 0 M F ∧ Oth b w wr) (fun u _ _ => (intOf u).toNat)
    case atStart => exact ⟨g0, f0, rfl, rfl, hst, hHd, by omega, hrow.drewN _, Oth.refl.drewN _⟩
    case round =>
      obtain ⟨g, left, rfl, rfl, hgs, hgb, hlb, hrw, hot⟩ := hrel
      clear hst hrow
      have x2 := hot.cell (a := (⟨bd, od + n1, none⟩ : Addr)) hne y1
      have x3 := hot.cell (a := (⟨bd, od + n2, none⟩ : Addr)) hne y2
      have x4 := hrw.cell0 (j := o + n2) (by omega)
      rw [HU2.out] at x4
      have hbr1 : b < wr.heap.size := hrw.lt
      have hbd1 : bd < wr.heap.size := by rw [hot.size]; exact hbd
      clear y1 y2
      by_cases c1 : left < BB
      · have d1 : decide ((left : Int) < 4294967296) = true := decide_eq_true (by omega)
        have s1 : IntKind.u64.wrap ((left : Int) + (v1 : Int)) = ((left + v1 : Nat) : Int) := by rw [IntWalk.u64_in _ (by omega)]; omega
        by_cases c2 : BB ≤ g
        · have d2 : decide ((4294967296 : Int) ≤ (g : Int)) = true := decide_eq_true (by omega)
          have hg2 := Lib.hid (HKD.out.decB c2)
          have s2 : IntKind.u64.wrap ((g : Int) - 1) = ((g - 1 : Nat) : Int) := by rw [IntWalk.u64_in _ (by omega)]; omega
          have he2 := Lib.hid (show (g - 1) * v1 + (left + v1) = H by
            obtain ⟨q, rfl⟩ : ∃ q, g = q + 1 := ⟨g - 1, by omega⟩
            have := hgs.out.2
            rw [Nat.add_mul, Nat.one_mul] at this
            rw [Nat.add_sub_cancel]; omega)
          clear hgs
          go_upto_region 5 with fail
          go_quiet (fail)
          go_wp2_with fail
          go_roundw
          case rel => exact ⟨g - 1, left + v1, rfl, rfl, Lib.hid ⟨hg2.out, he2.out⟩, by omega, by omega, hrw.drewN _, hot.drewN _⟩
          case measure => simp [intOf]; omega
        · have d2 : decide ((4294967296 : Int) ≤ (g : Int)) = false := decide_eq_false (by omega)
          have hP1 : g * v2 ≤ 4294967295 * 4294967295 := Nat.mul_le_mul (by omega) (by omega)
          have t1 : IntKind.u64.wrap ((g : Int) * (v2 : Int)) = ((g * v2 : Nat) : Int) := by rw [← Int.natCast_mul]; exact u64_nat _ (by omega)
          have hor := or_shl left u2 c1 l2
          have hLb : left * BB + u2 ≤ 18446744073709551615 := by rw [hB]; omega
          by_cases c3 : left * BB + u2 < g * v2
          · have hg2 := Lib.hid (HKD.out.dec hgs.out.1 (hgs.out.2.trans HH.out.symm) c3)
            have hg1 : 1 ≤ g := by
              rcases Nat.eq_zero_or_pos g with e | e
              · subst e; omega
              · exact e
            have s2 : IntKind.u64.wrap ((g : Int) - 1) = ((g - 1 : Nat) : Int) := by rw [IntWalk.u64_in _ (by omega)]; omega
            have he2 := Lib.hid (show (g - 1) * v1 + (left + v1) = H by
              obtain ⟨q, rfl⟩ : ∃ q, g = q + 1 := ⟨g - 1, by omega⟩
              have := hgs.out.2
              rw [Nat.add_mul, Nat.one_mul] at this
              rw [Nat.add_sub_cancel]; omega)
            clear hgs
            generalize left * BB + u2 = L at *
            generalize g * v2 = G at *
            have d3 : (L : Int) < (G : Int) := by omega
            go_upto_region 5 with fail
            go_quiet (fail)
            go_wp2_with fail
            go_roundw
            case rel => exact ⟨g - 1, left + v1, rfl, rfl, Lib.hid ⟨hg2.out, he2.out⟩, by omega, by omega, hrw.drewN _, hot.drewN _⟩
            case measure => simp [intOf]; omega
          · have hfin := Lib.hid (And.intro hgs.out.1 (HKD.out.fin (hgs.out.2.trans HH.out.symm) (by omega) (by omega)))
            have hgB : g < BB := by omega
            clear hgs
            generalize left * BB + u2 = L at *
            generalize g * v2 = G at *
            have d3 : ¬ (L : Int) < (G : Int) := by omega
            go_upto_region 5 with fail
            go_quiet (fail)
            go_wp2_with fail
            go_meet
            case rel => exact ⟨g, left, rfl, rfl, hgB, hfin, hrw.drewN _, hot.drewN _⟩
      · have d1 : decide ((left : Int) < 4294967296) = false := decide_eq_false (by omega)
        obtain ⟨hgB, hc⟩ := HKD.out.over (hgs.out.2.trans HH.out.symm) (by omega)
        have hfin := Lib.hid (And.intro hgs.out.1 (HKD.out.fin (hgs.out.2.trans HH.out.symm) hgB hc))
        clear hgs hc
        go_upto_region 5 with fail
        go_quiet (fail)
        go_wp2_with fail
        go_meet
        case rel => exact ⟨g, left, rfl, rfl, hgB, hfin, hrw.drewN _, hot.drewN _⟩
  case rest =>
    obtain ⟨g, left, rfl, rfl, hgB, hgq, hrw, hot⟩ := hcut
    clear hor hq hr hq2 hr2 hHe hHs hHl hHd hHb x0 x1 x2 y1 y2 HKD HH HU2 HE k2 k3 k4 k5 k6 l0 l1 l2 l3 l4 l5 l6 hv0I hrow
    have hbr1 : b < wc.heap.size := hrw.lt
    have HF0 := Lib.hid hF
    clear hF
    generalize wc = w1 at *
    go_upto_block 2 with fail
    go_cut [9, 10] (fun u x wx => ∃ (c bo : Nat) (F' : Nat → Nat), u = .int .u64 c ∧ x = .int .u64 bo ∧ c < BB ∧ bo ≤ 1 ∧ RowU wx b 0 M F' ∧ Hid (MS n g (fun i => F (o + i)) dv n c bo (fun i => F' (o + i))) ∧ Hid (Far o n F F') ∧ Hid (Dg F' M) ∧ Oth b w wx)
    case first =>
      go_wp2_with fail
      go_loopw [85, 9, 10] (fun z u x wr => ∃ (k c bo : Nat) (F' : Nat → Nat), z = .int .i64 k ∧ k ≤ n ∧ u = .int .u64 c ∧ x = .int .u64 bo ∧ RowU wr b 0 M F' ∧ Hid (MS n g (fun i => F (o + i)) dv k c bo (fun i => F' (o + i))) ∧ Hid (Far o n F F') ∧ Hid (Dg F' M) ∧ Oth b w wr) (fun z _ _ _ => n - (intOf z).toNat)
      case atStart => exact ⟨0, 0, 0, F, rfl, by omega, rfl, rfl, hrw, Lib.hid (MS.start HDGH.out), Lib.hid (fun _ _ => rfl), HF0, hot⟩
      case round =>
        clear hrw hot
        obtain ⟨k, c, bo, F', rfl, hk, rfl, rfl, hrw, hms, hfar, hdg, hot⟩ := hrel
        have hcl := hms.out.cl
        have hbo := hms.out.bl
        by_cases h0 : k < n
        · have x0 := hrw.cell0 (j := o + k) (by omega)
          have y0 := hot.cell (a := (⟨bd, od + k, none⟩ : Addr)) hne (HDC.out k h0)
          have gf := hrw.frozen (o + k)
          have hbr2 : b < wr.heap.size := hrw.lt
          have hbd1 : bd < wr.heap.size := by rw [hot.size]; exact hbd
          have hxB := hdg.out (o + k) (by omega)
          have hyB := HDV.out k h0
          have hP1 : g * dv k ≤ 4294967295 * 4294967295 := Nat.mul_le_mul (by omega) (by omega)
          have tw : IntKind.u64.wrap ((g : Int) * (dv k : Int)) = ((g * dv k : Nat) : Int) := by rw [← Int.natCast_mul]; exact u64_nat _ (by omega)
          have tw2 : IntKind.u64.wrap (((g * dv k : Nat) : Int) + (c : Int)) = ((g * dv k + c : Nat) : Int) := by rw [← Int.natCast_add]; exact u64_nat _ (by omega)
          have hSTEP := Lib.hid (fun x b' h1 h2 h3 h4 => hms.out.step (T := g * dv k + c) (x := x) (b' := b') rfl h1 h2 h3 h4)
          have hT2 : (g * dv k + c) / BB < BB := by rw [hB]; omega
          have hTB : g * dv k + c ≤ 18446744073709551615 := by omega
          have HRP := Lib.hid (fun (x : Nat) (z : Int) (hz : z = ((x : Nat) : Int)) => hrw.put (show o + k < M by omega) x z hz)
          clear hms hrw hP1
          generalize g * dv k = P at *
          generalize dv k = y at *
          generalize P + c = T at *
          generalize F' (o + k) = xk at *
          obtain ⟨Z1, Z2, z1, z2, z3, z4, z5⟩ := sub_step xk (T % BB) bo hxB (Nat.mod_lt _ BB_pos) hbo
          rw [show ((T % BB : Nat) : Int) = (T : Int) % 4294967296 by rw [hB]; omega] at z1
          have hST := Lib.hid (hSTEP.out (Z2 % BB) (Z2 / 9223372036854775808) hT2 (Nat.mod_lt _ BB_pos) z4 z5)
          have hkn : (k : Int) < (n : Int) := by omega
          have hkn1 : (k : Int) < (n : Int) + 1 := by omega
          clear hSTEP z5
          go_wp2_with fail
          go_roundw
          case rel => exact ⟨k + 1, T / BB, Z2 / 9223372036854775808, updG F' (o + k) (Z2 % BB), by go_num, by omega, by rw [hB]; congr 1, by congr 1, HRP.out _ _ (by rw [hB]; omega), Lib.hid (by rw [updN_off]; exact hST.out), Lib.hid (hfar.out.upd (by omega)), Lib.hid (hdg.out.upd (Nat.mod_lt _ BB_pos)), hot.set _ _⟩
          case measure => simp [intOf]; omega
        · obtain rfl : k = n := by omega
          go_wp2_with fail
          go_meet
          case rel => exact ⟨c, bo, F', rfl, rfl, hcl, hbo, hrw, hms, hfar, hdg, hot⟩
    case rest =>
      clear hrw hot
      obtain ⟨c, bo, F', rfl, rfl, hcl, hbo, hrw, hms, hfar, hdg, hot⟩ := hcut
      have hbr2 : b < wc.heap.size := hrw.lt
      have x0 := hrw.cell0 (j := o + n) (by omega)
      have gf := hrw.frozen (o + n)
      have hxB := hdg.out (o + n) (by omega)
      obtain ⟨Z1, Z2, z1, z2, z3, z4, z5⟩ := sub_step (F' (o + n)) c bo hxB hcl hbo
      have HRP := Lib.hid (fun (x : Nat) (z : Int) (hz : z = ((x : Nat) : Int)) => hrw.put (show o + n < M by omega) x z hz)
      have hxl : Z2 % BB < BB := Nat.mod_lt _ BB_pos
      have hnn : (n : Int) < (n : Int) + 1 := by omega
      have hfar2 := Lib.hid (hfar.out.upd (k := n) (x := Z2 % BB) (Nat.le_refl _))
      have hdg2 := Lib.hid (hdg.out.upd (k := o + n) hxl)
      by_cases hz : Z2 / 9223372036854775808 = 0
      · rw [hz, Nat.zero_mul, Nat.add_zero] at z5
        obtain ⟨f1, f2⟩ := hms.out.fine rfl rfl hgq.out.1 HD0.out z5
        rw [← updN_off] at f2
        have HF1 := Lib.hid f1
        have HF2 := Lib.hid f2
        have hzI : ((Z2 : Int) / 9223372036854775808) = 0 := by omega
        have hgI : (g : Int) % 4294967296 = (g : Int) := by omega
        clear z4 z5 f1 f2 hms hgq hz hrw
        generalize F' (o + n) = xn at *
        go_wp2_with fail
        go_ret
        exact ⟨_, congrArg Ending.returned (congrArg (Value.int .u32) (by rw [← HF1.out])), HRP.out (Z2 % BB) _ (by rw [hB]; omega), hdg2.out, hfar2.out, HF2.out, hot.set _ _⟩
      · have hz1 : Z2 / 9223372036854775808 = 1 := by omega
        rw [hz1, Nat.one_mul] at z5
        obtain ⟨f1, f2⟩ := hms.out.below rfl rfl hgq.out.2 HD0.out z5 hxl
        rw [← updN_off] at f2
        have HF1 := Lib.hid f1
        have HF2 := Lib.hid f2
        have hzI : ¬ ((Z2 : Int) / 9223372036854775808) = 0 := by omega
        have hrow' := HRP.out (Z2 % BB) ((Z2 : Int) % 4294967296) (by rw [hB]; omega)
        have hot' := hot.set (o + n) (.int .u32 ((Z2 : Int) % 4294967296))
        clear z4 z5 f1 f2 hms hgq hz hrw hz1 hfar hdg HRP
        have hdi := Lib.hid (show Dg (fun i => updG F' (o + n) (Z2 % BB) (o + i)) (n + 1) from fun i hi => hdg2.out (o + i) (by omega))
        generalize updG F' (o + n) (Z2 % BB) = F1 at *
        generalize F' (o + n) = xn at *
        go_upto_block 4 with fail
        generalize wc.setCell ⟨b, o + n, none⟩ (.int .u32 ((Z2 : Int) % 4294967296)) = w3 at *
        obtain ⟨Q, hQe, hQB, hQg⟩ : ∃ Q, Q = vl (fun i => F (o + i)) (n + 1) / vl dv n ∧ Q < BB ∧ g = Q + 1 := ⟨_, rfl, HKQ.out, HF1.out⟩
        have HQE := Lib.hid hQe
        have hg1 : (g : Int) - 1 = (Q : Int) := by omega
        have hQm : (Q : Int) % 4294967296 = (Q : Int) := by omega
        clear hQe hQg
        go_wp2_with fail
        go_loopw [138, 9] (fun z u wr => ∃ (k c : Nat) (F2 : Nat → Nat), z = .int .i64 k ∧ k ≤ n ∧ u = .int .u64 c ∧ RowU wr b 0 M F2 ∧ Hid (AB n (fun i => F1 (o + i)) dv k c (fun i => F2 (o + i))) ∧ Hid (Far o n F F2) ∧ Hid (Dg F2 M) ∧ Oth b w wr) (fun z _ _ => n - (intOf z).toNat)
        case atStart => exact ⟨0, 0, F1, rfl, by omega, rfl, hrow', Lib.hid (AB.start hdi.out), hfar2, hdg2, hot'⟩
        case round =>
          clear hrow' hot' hot
          obtain ⟨k, c2, F2, rfl, hk, rfl, hrw, hab, hfar, hdg, hot⟩ := hrel
          have hcl2 := hab.out.cl
          have hbr3 : b < wr.heap.size := hrw.lt
          by_cases h0 : k < n
          · have x0 := hrw.cell0 (j := o + k) (by omega)
            have y0 := hot.cell (a := (⟨bd, od + k, none⟩ : Addr)) hne (HDC.out k h0)
            have gf := hrw.frozen (o + k)
            have hbd1 : bd < wr.heap.size := by rw [hot.size]; exact hbd
            have hxB := hdg.out (o + k) (by omega)
            have hyB := HDV.out k h0
            have hST := Lib.hid (hab.out.step (T := F2 (o + k) + dv k + c2) rfl hxB hyB)
            have HRP := Lib.hid (fun (q x : Nat) (z : Int) (hz : z = ((x : Nat) : Int)) => (hrw.drewN q).put (show o + k < M by omega) x z hz)
            have hkn : (k : Int) < (n : Int) := by omega
            have hkn1 : (k : Int) < (n : Int) + 1 := by omega
            clear hab hrw
            generalize F2 (o + k) = xk at *
            generalize dv k = y at *
            go_upto_region 26 with fail
            go_quiet (fail)
            go_wp2_with fail
            go_roundw
            case rel => exact ⟨k + 1, (xk + y + c2) / BB, updG F2 (o + k) ((xk + y + c2) % BB), by go_num, by omega, by rw [hB]; congr 1, HRP.out _ _ _ (by rw [hB]; omega), Lib.hid (by rw [updN_off]; exact hST.out), Lib.hid (hfar.out.upd (by omega)), Lib.hid (hdg.out.upd (Nat.mod_lt _ BB_pos)), (hot.drewN _).set _ _⟩
            case measure => simp [intOf]; omega
          · obtain rfl : k = n := by omega
            have x0 := hrw.cell0 (j := o + k) (by omega)
            have gf := hrw.frozen (o + k)
            have hxB := hdg.out (o + k) (by omega)
            have hkn1 : (k : Int) < (k : Int) + 1 := by omega
            have hxe := hab.out.rest k (Nat.le_refl _)
            have hdn := hab.out.done HF2.out HRD.out
            rw [← hxe] at hdn
            rw [← updN_off] at hdn
            have HDN := Lib.hid hdn
            have HRP := Lib.hid (fun (x : Nat) (z : Int) (hz : z = ((x : Nat) : Int)) => hrw.put (show o + k < M by omega) x z hz)
            have c32 : (c2 : Int) % 4294967296 = (c2 : Int) := by omega
            clear hab hdn hxe hrw
            generalize F2 (o + k) = xk at *
            have u32 : IntKind.u32.wrap ((xk : Int) + (c2 : Int)) = (((xk + c2) % BB : Nat) : Int) := by rw [IntKind.wrap_u32, hB]; omega
            go_wp2_with fail
            go_ret
            exact ⟨_, congrArg Ending.returned (congrArg (Value.int .u32) (congrArg Nat.cast HQE.out)), HRP.out ((xk + c2) % BB) _ (by rw [hB]; omega), Dg.upd hdg.out (Nat.mod_lt _ BB_pos), hfar.out.upd (Nat.le_refl _), HDN.out, hot.set _ _⟩
end Go.Proofs.YtfoadipocpopiaaGreat
