/- The walk over FlowReverses. Conditions: the arguments lie in memory. -/
import Derived.Test.YtobjcdbbdgloiaaBag
namespace Go.Proofs.Ytobjcdbbdgloiaa
open Go.RowKit Go.Deep

/-- The three matrices: the edges reversed, multiplied, and as they are. -/
def mats3 (c : Nat → Nat → Int) (times : Int) : Nat → Nat → Nat → Int := fun k i j => if k = 0 then c j i else if k = 1 then c i j * times else c i j
theorem mats_upd {TR TI : TypeId} {n : Nat} {m : Nat → Nat → Nat → Int} {F : Nat → WinD} (h : Mats TR TI n n (fun _ => 0) m F) {i j : Nat} (hi : i < n) (hj : j < n) (x : Int) :
    Mats TR TI n n (fun _ => 0) (fun k => if k = 2 then upd2 (m 2) i j x else m k) (updF F (3 + (i * 3 + 2)) ⟨(F (3 + (i * 3 + 2))).T, (F (3 + (i * 3 + 2))).v, (F (3 + (i * 3 + 2))).xs.set j (.int .i64 x)⟩) := by
  have hv : ∀ y, (updF F (3 + (i * 3 + 2)) ⟨(F (3 + (i * 3 + 2))).T, (F (3 + (i * 3 + 2))).v, (F (3 + (i * 3 + 2))).xs.set j (.int .i64 x)⟩ y).v = (F y).v := fun y => by
    by_cases e : y = 3 + (i * 3 + 2)
    · rw [e, updF_same]
    · rw [updF_ne _ _ e]
  have hT : ∀ y, (updF F (3 + (i * 3 + 2)) ⟨(F (3 + (i * 3 + 2))).T, (F (3 + (i * 3 + 2))).v, (F (3 + (i * 3 + 2))).xs.set j (.int .i64 x)⟩ y).T = (F y).T := fun y => by
    by_cases e : y = 3 + (i * 3 + 2)
    · rw [e, updF_same]
    · rw [updF_ne _ _ e]
  refine ⟨fun k hk => by rw [hT]; exact h.tr k hk, fun y => by rw [hT]; exact h.ti y, fun k hk => ?_, fun y k hy hk => ?_, fun k hk => ?_, fun y k hy hk => ?_, fun k hk _ => ?_⟩
  · rw [updF_ne _ _ (by omega), h.out k hk]
    exact List.map_congr_left fun y _ => by rw [hv]
  · by_cases e : 3 + (y * 3 + k) = 3 + (i * 3 + 2)
    · obtain ⟨rfl, rfl⟩ : y = i ∧ k = 2 := by omega
      rw [updF_same]
      simp only [if_true]
      rw [h.done y 2 hi hk]
      apply List.ext_getElem?
      intro z
      rw [List.getElem?_set]
      by_cases ez : j = z
      · subst ez
        rw [if_pos rfl, if_pos (by rw [rowV_len]; exact hj), rowV_get hj]
        simp [upd2]
      · rw [if_neg ez]
        by_cases hz : z < n
        · rw [rowV_get hz, rowV_get hz]
          simp only [if_true, upd2]
          rw [if_neg (fun h => ez h.2.symm)]
        · rw [List.getElem?_eq_none (by rw [rowV_len]; omega), List.getElem?_eq_none (by rw [rowV_len]; omega)]
    · rw [updF_ne _ _ e, h.done y k hy hk]
      apply List.ext_getElem?
      intro z
      by_cases hz : z < n
      · rw [rowV_get hz, rowV_get hz]
        by_cases ek : k = 2
        · subst ek
          simp only [if_true, upd2]
          rw [if_neg (by omega)]
        · simp only [if_neg ek]
      · rw [List.getElem?_eq_none (by rw [rowV_len]; omega), List.getElem?_eq_none (by rw [rowV_len]; omega)]
  · rw [updF_ne _ _ (by omega)]
    have := h.cur k hk
    rw [this]; rfl
  · rw [updF_ne _ _ (by omega)]; exact h.fut y k hy hk
  · rw [hv]; exact h.fresh k hk rfl

theorem Mats.cb {TR TI : TypeId} {n a : Nat} {b b' : Nat → Nat} {m : Nat → Nat → Nat → Int} {F : Nat → WinD} (h : Mats TR TI n a b m F) (e : ∀ k, k < 3 → b k = b' k) : Mats TR TI n a b' m F :=
  ⟨h.tr, h.ti, h.out, h.done, fun k hk => by rw [← e k hk]; exact h.cur k hk, h.fut, fun k hk h0 => h.fresh k hk (by rw [e k hk]; exact h0)⟩
theorem Mats.add3 {TR TI : TypeId} {n a b : Nat} {m : Nat → Nat → Nat → Int} {F : Nat → WinD} (h : Mats TR TI n a (fun _ => b) m F) {v0 v1 v2 : Value} :
    Mats TR TI n a (fun _ => b + 1) m (updF (updF (updF F (3 + (a * 3 + 0)) ⟨TI, v0, (F (3 + (a * 3 + 0))).xs ++ [.int .i64 (m 0 a b)]⟩) (3 + (a * 3 + 1)) ⟨TI, v1, (F (3 + (a * 3 + 1))).xs ++ [.int .i64 (m 1 a b)]⟩) (3 + (a * 3 + 2)) ⟨TI, v2, (F (3 + (a * 3 + 2))).xs ++ [.int .i64 (m 2 a b)]⟩) := by
  have h1 := h.add (k := 0) (by decide) (v := v0)
  have h2 := h1.add (k := 1) (by decide) (v := v1)
  rw [updF_ne _ _ (show 3 + (a * 3 + 1) ≠ 3 + (a * 3 + 0) by omega)] at h2
  have h3 := h2.add (k := 2) (by decide) (v := v2)
  rw [updF_ne _ _ (show 3 + (a * 3 + 2) ≠ 3 + (a * 3 + 1) by omega), updF_ne _ _ (show 3 + (a * 3 + 2) ≠ 3 + (a * 3 + 0) by omega)] at h3
  exact h3.cb fun k hk => by
    match k, hk with
    | 0, _ => rfl
    | 1, _ => rfl
    | 2, _ => rfl
/-- Three appends, one after the other. -/
theorem Bag.push3 {N : Nat} {w : World} {tg : Nat → Nat} {F : Nat → WinD} (h : Bag N w tg F) (hN : N ≤ w.heap.size) {i0 i1 i2 : Nat} (h01 : i1 ≠ i0) (h02 : i2 ≠ i0) (h12 : i2 ≠ i1) (T S : TypeId) (hT0 : (F i0).T = T) (hT1 : (F i1).T = T) (hT2 : (F i2).T = T) (u0 u1 u2 : Value)
    (hu0 : u0.oneCell' = true) (hu1 : u1.oneCell' = true) (hu2 : u2.oneCell' = true) (hS : Try.prog.underlying S = some (.slice T)) {z : Value} {bytes : Nat} (hz : z.cells.size = 1)
    (hinfo : (Try.prog.info? T).map (fun i => (i.zero, i.size, i.bytes)) = some (some z, 1, bytes)) (hb8 : bytes ≤ 24) (hm0 : (F i0).xs.length ≤ 1000000) (hm1 : (F i1).xs.length ≤ 1000000) (hm2 : (F i2).xs.length ≤ 1000000) :
    ∃ x0 w5 x1 w6 x2 w7, (Builtin.append_ #[S, S] S #[(F i0).v, .slice (some ⟨w.heap.size, 0, none⟩) 1 1]).run Try.prog (w.alloc (.cells #[u0] T)) = .ok x0 w5 ∧ (Builtin.append_ #[S, S] S #[(F i1).v, .slice (some ⟨w5.heap.size, 0, none⟩) 1 1]).run Try.prog (w5.alloc (.cells #[u1] T)) = .ok x1 w6 ∧
      (Builtin.append_ #[S, S] S #[(F i2).v, .slice (some ⟨w6.heap.size, 0, none⟩) 1 1]).run Try.prog (w6.alloc (.cells #[u2] T)) = .ok x2 w7 ∧ Below N w w5 ∧ Below N w w6 ∧ Below N w w7 ∧
      ∃ tg', Bag N w7 tg' (updF (updF (updF F i0 ⟨T, x0, (F i0).xs ++ [u0]⟩) i1 ⟨T, x1, (F i1).xs ++ [u1]⟩) i2 ⟨T, x2, (F i2).xs ++ [u2]⟩) := by
  obtain ⟨x0, w5, r0, ⟨tg1, h1⟩, b1, _⟩ := h.push hN i0 T S hT0 u0 hu0 hS hz hinfo hb8 hm0
  have s1 := b1.size
  obtain ⟨x1, w6, r1, ⟨tg2, h2⟩, b2, _⟩ := h1.push (by omega) i1 T S (by rw [updF_ne _ _ h01]; exact hT1) u1 hu1 hS hz hinfo hb8 (by rw [updF_ne _ _ h01]; exact hm1)
  rw [updF_ne _ _ h01] at r1 h2
  have s2 := b2.size
  obtain ⟨x2, w7, r2, ⟨tg3, h3⟩, b3, _⟩ := h2.push (by omega) i2 T S (by rw [updF_ne _ _ h12, updF_ne _ _ h02]; exact hT2) u2 hu2 hS hz hinfo hb8 (by rw [updF_ne _ _ h12, updF_ne _ _ h02]; exact hm2)
  rw [updF_ne _ _ h12, updF_ne _ _ h02] at r2 h3
  exact ⟨x0, w5, x1, w6, x2, w7, r0, r1, r2, b1, b1.trans b2, (b1.trans b2).trans b3, tg3, h3⟩
theorem Bag.form {N : Nat} {w : World} {tg : Nat → Nat} {F : Nat → WinD} (h : Bag N w tg F) {id n : Nat} (hl : (F id).xs.length = n) (hn : 0 < n) : ∃ g o c, (F id).v = .slice (some ⟨g, o, none⟩) n c ∧ n ≤ c ∧ c ≤ 9223372036854775807 ∧ g < w.heap.size ∧ (∀ j u, (F id).xs[j]? = some u → w.cell? ⟨g, o + j, none⟩ = some u) ∧ (∀ j, w.frozen? ⟨g, j, none⟩ = false) ∧ N ≤ g := by
  have hw := h.win id
  rw [hl] at hw
  obtain ⟨g, o, c, e, hlt, h1, h2⟩ := hw.form hn
  rw [e] at hw
  exact ⟨g, o, c, e, h1, h2, hlt, fun j u hj => hw.cell hj, fun j => hw.frozen j, (h.own id g (by rw [e]; rfl)).2⟩
theorem maxM (n : Nat) (m : Nat → Nat → Int) (a : Option Addr) (c A B : Nat) (w : World) (h2 : 2 ≤ n) (h14 : n ≤ 14) (hd : ∀ i, i < n → m i i = 0) (hb : ∀ i j, i < n → j < n → 0 ≤ m i j ∧ m i j ≤ 1073741824) (hA : A < n) (hB : B < n) (hne : A ≠ B) (hr : RowsAt w w.heap.size a (rowsM n m)) :
    Calls Try.prog 14 #[.slice a n c, .int .i64 (A : Int), .int .i64 (B : Int)] w fun e w' => Below w.heap.size w w' ∧ ∃ val O, e = .returned (.tuple #[.int .i64 val, .slice (some ⟨O, 0, none⟩) n n, .int .i64 0]) ∧ IsCut n m A B val := by
  have hok := rowsM_ok (most := 400) h2 (by omega) hd hb
  have h := max_any (rowsM n m) a c A B w (by rw [rowsM_len]; omega) hr (rowsM_fit hb)
  rw [rowsM_len] at h
  refine h.mono ?_
  rintro e w' ⟨hb', ⟨h1, _⟩ | ⟨_, h2, _⟩ | ⟨_, s', t', es, et, hs, ht, _, val, r, O, rfl, hsat, _⟩⟩
  · rw [hok] at h1; cases h1
  · rw [rowsM_len] at h2
    exact absurd ⟨by omega, by omega, by omega, by omega, by omega⟩ h2
  · obtain rfl : A = s' := by omega
    obtain rfl : B = t' := by omega
    have hc := hsat.cut hs ht
    rw [rowsM_len] at hc ⊢
    exact ⟨hb', val, O, rfl, hc.congr fun u v hu hv => rowsM_cap hu hv⟩

set_option maxRecDepth 100000 in
set_option maxHeartbeats 6400000 in
theorem law_rev (rs : List (List Int)) (a : Option Addr) (cap : Nat) (si ti ui vi ki : Int) (w : World) (hl : rs.length ≤ cap) (hcap : cap ≤ 9223372036854775807) (hr : RowsAt w w.heap.size a rs) (hrr : ∀ r ∈ rs, FitI r)
    (hs0 : 0 ≤ si) (hs1 : si ≤ 255) (ht0 : 0 ≤ ti) (ht1 : ti ≤ 255) (hu0 : 0 ≤ ui) (hu1 : ui ≤ 255) (hv0 : 0 ≤ vi) (hv1 : vi ≤ 255) (hk0 : 0 ≤ ki) (hk1 : ki ≤ 255) :
    Calls Try.prog 5 #[.slice a rs.length cap, .int .u8 si, .int .u8 ti, .int .u8 ui, .int .u8 vi, .int .u8 ki] w fun e w' => e = .returned (.bool true) ∧ Below w.heap.size w w' := by
  obtain ⟨s, rfl⟩ := Int.eq_ofNat_of_zero_le hs0
  obtain ⟨t, rfl⟩ := Int.eq_ofNat_of_zero_le ht0
  obtain ⟨u, rfl⟩ := Int.eq_ofNat_of_zero_le hu0
  obtain ⟨v, rfl⟩ := Int.eq_ofNat_of_zero_le hv0
  obtain ⟨k, rfl⟩ := Int.eq_ofNat_of_zero_le hk0
  have HRR := Lib.hid hrr
  clear hrr
  go_enter Try.func5, Try.ntmps5
  go_wp2_with fail
  refine (awake47_any _).mono ?_
  rintro e w1 ⟨rfl, hb1⟩
  have s1 := hb1.size
  have NW := Lib.hid (network_any rs a cap 14 (by decide) w1 (by omega) (hr.on hb1 s1) HRR.out)
  cases hn : netOK 14 rs
  · rw [hn] at NW
    go_wp2_with fail
    refine NW.out.mono ?_
    rintro e w2 ⟨rfl, rfl⟩
    go_wp2_with fail
    refine (awake47_any _).mono ?_
    rintro e w3 ⟨rfl, hb3⟩
    go_wp2_with fail
    go_ret
    exact ⟨rfl, hb1.trans (hb3.mono s1)⟩
  · rw [hn] at NW
    obtain ⟨n2, n14, hnet⟩ := netOK_bd hn
    have H400 := Lib.hid (netOK_more (k := 400) (by decide) hn)
    obtain ⟨O, o, rfl, _⟩ := rows_mat hr hn
    have HM := Lib.hid (fun W (h : RowsAt W W.heap.size (some ⟨O, o, none⟩) rs) => rows_mat h hn)
    have HB := Lib.hid (fun p q (hp : p < rs.length) (hq : q < rs.length) => (hnet p hp).2.2 q hq)
    have HZ := Lib.hid (fun p (hp : p < rs.length) => (hnet p hp).2.1)
    obtain ⟨ea1, ea2, ea3⟩ := ends_ok (s := s) (t := t) n2
    obtain ⟨uf1, uf2, uf3⟩ := ends_ok (s := u) (t := v) n2
    have EA := Lib.hid (ends_any rs (some ⟨O, o, none⟩) cap s t w1 n2 (by omega) (by omega) (by omega))
    have EB := Lib.hid (fun W => ends_any rs (some ⟨O, o, none⟩) cap u v W n2 (by omega) (by omega) (by omega))
    clear hn hnet
    generalize endA rs.length s = A at *
    generalize endB rs.length s t = B at *
    generalize endA rs.length u = U at *
    generalize endB rs.length u v = V at *
    go_wp2_with fail
    refine NW.out.mono ?_
    rintro e w2 ⟨rfl, rfl⟩
    go_wp2_with fail
    refine EA.out.mono ?_
    rintro e w2 ⟨rfl, rfl⟩
    go_wp2_with fail
    refine (max_any rs (some ⟨O, o, none⟩) cap A B _ (by omega) (hr.on hb1 s1) HRR.out).mono ?_
    rintro e w2 ⟨hb2, ⟨h, rfl⟩ | ⟨h, h2, rfl⟩ | ⟨h, s', t', es, et, hs, ht, hst, val, r, O2, rfl, hsat, hO2, hm2⟩⟩
    · rw [H400.out] at h; cases h
    · exact absurd ⟨by omega, by omega, by omega, by omega, by omega⟩ h2
    · obtain rfl : A = s' := by omega
      obtain rfl : B = t' := by omega
      have b2 := hb1.trans (hb2.mono s1)
      have s2 := b2.size
      obtain ⟨O', o', he, hm⟩ := HM.out _ (hr.on b2 s2)
      obtain ⟨rfl, rfl⟩ : O = O' ∧ o = o' := by cases he; exact ⟨rfl, rfl⟩
      have HMC := Lib.hid hm
      have HB2 := Lib.hid b2
      have hval0 := hsat.pos
      have hval1 := Int.le_trans (hsat.res.capS_le hs ht hst) (capS_bd hs (by omega) HB.out).2
      have HC := Lib.hid (hsat.cut hs ht)
      clear hm hm2 hsat hb2 b2 he es et h EA NW HM hO2 hr s1 hb1
      have hnI : (rs.length : Int) ≤ 14 := by omega
      have hn2 : (2 : Int) ≤ (rs.length : Int) := by omega
      generalize hnn : rs.length = n at *
      have HNN := Lib.hid hnn
      generalize hcc : capOf rs = c at *
      clear hcc hnn
      obtain ⟨times, hwt⟩ : ∃ times : Int, 1 + (k : Int) % 5 = times := ⟨_, rfl⟩
      have htm1 : 1 ≤ times := by omega
      have htm5 : times ≤ 5 := by omega
      have HBAG := Lib.hid (Bag.nil w2.heap.size w2 (fun id => if id < 3 then 30 else 3))
      go_wp2_with fail
      clear hwt
      go_loopw [67, 19, 20, 21] (fun u z0 z1 z2 wr => ∃ (a : Nat) (tg : Nat → Nat) (F : Nat → WinD), u = .int .i64 a ∧ z0 = (F 0).v ∧ z1 = (F 1).v ∧ z2 = (F 2).v ∧ a ≤ n ∧ Hid (Bag w2.heap.size wr tg F) ∧ Hid (Mats 30 3 n a (fun _ => 0) (mats3 c times) F) ∧ Hid (∀ i j, i < a → j < n → c i j ≤ 134217728) ∧ Below w2.heap.size w2 wr) (fun u _ _ _ _ => n - (intOf u).toNat)
      case atStart => exact ⟨0, _, _, rfl, rfl, rfl, rfl, by omega, HBAG.out, Mats.init _ _ _ _, fun i j hi => absurd hi (Nat.not_lt_zero _), Below.refl _ _⟩
      case round =>
        obtain ⟨a, tg, F, rfl, e0, e1, e2, ha, hbag, hmat, hlow, hbl⟩ := hrel
        have hbs := hbl.size
        clear HBAG
        by_cases hlt : a < n
        · have a0 : (0 : Int) ≤ (a : Int) := by omega
          have a1 : (a : Int) < (n : Int) := by omega
          have HE0 := Lib.hid e0
          have HE1 := Lib.hid e1
          have HE2 := Lib.hid e2
          have HS0 := Lib.hid (hmat.out.fresh 0 (by decide) rfl)
          have HS1 := Lib.hid (hmat.out.fresh 1 (by decide) rfl)
          have HS2 := Lib.hid (hmat.out.fresh 2 (by decide) rfl)
          clear e0 e1 e2
          go_wp2_with fail
          go_loopw [72, 23, 24, 25] (fun u z0 z1 z2 wr => ∃ (b : Nat) (tg : Nat → Nat) (F : Nat → WinD), u = .int .i64 b ∧ z0 = (F (3 + (a * 3 + 0))).v ∧ z1 = (F (3 + (a * 3 + 1))).v ∧ z2 = (F (3 + (a * 3 + 2))).v ∧ u19 = (F 0).v ∧ u20 = (F 1).v ∧ u21 = (F 2).v ∧ b ≤ n ∧ Hid (Bag w2.heap.size wr tg F) ∧ Hid (Mats 30 3 n a (fun _ => b) (mats3 c times) F) ∧ Hid (∀ i j, i < a ∨ (i = a ∧ j < b) → j < n → c i j ≤ 134217728) ∧ Below w2.heap.size w2 wr) (fun u _ _ _ _ => n - (intOf u).toNat)
          case atStart => exact ⟨0, tg, F, rfl, HS0.out.symm, HS1.out.symm, HS2.out.symm, HE0.out, HE1.out, HE2.out, by omega, hbag.out, hmat.out, fun i j h hj => hlow.out i j (by omega) hj, hbl⟩
          case round =>
            obtain ⟨b, tg, F, rfl, e3, e4, e5, e0, e1, e2, hb, hbag, hmat, hlow, hbl⟩ := hrel
            have hbs := hbl.size
            clear HE0 HE1 HE2 HS0 HS1 HS2
            by_cases hbn : b < n
            · have b0 : (0 : Int) ≤ (b : Int) := by omega
              have b1 : (b : Int) < (n : Int) := by omega
              obtain ⟨hOl, hMr⟩ := HMC.out
              obtain ⟨rb, rf, rc, c0, c1, c2, c3, c4⟩ := hMr a hlt
              obtain ⟨ra, rg, rd, d0, d1, d2, d3, d4⟩ := hMr b hbn
              have c0 := keep_cellN hbl hOl c0
              have c4 := keep_cellN hbl c3 (c4 b hbn)
              have d0 := keep_cellN hbl hOl d0
              have d4 := keep_cellN hbl d3 (d4 a hlt)
              have y1 : O < wr.heap.size := by omega
              have y2 : rb < wr.heap.size := by omega
              have y3 : ra < wr.heap.size := by omega
              obtain ⟨p1, p2⟩ := HB.out a b hlt hbn
              obtain ⟨p3, p4⟩ := HB.out b a hbn hlt
              clear hMr
              by_cases hbig : c a b ≤ 134217728
              · have hmul0 : 0 ≤ c a b * times := Int.mul_nonneg p1 (by omega)
                have hmul1 : c a b * times ≤ 134217728 * 5 := Int.mul_le_mul hbig htm5 (by omega) (by omega)
                have wm1 : wrap64 (c a b * times) = c a b * times := IntWalk.wrap64_in _ (by omega)
                have wm2 : IntKind.i64.wrap (c a b * times) = c a b * times := IntWalk.i64_in _ (by omega)
                have hlen : ∀ k, k < 3 → (F (3 + (a * 3 + k))).xs.length ≤ 1000000 := fun k hk => by rw [hmat.out.cur k hk, rowV_len]; omega
                obtain ⟨x0, w5, x1, w6, x2, w7, r0, r1, r2, b5, b6, b7, tg', hbag'⟩ := hbag.out.push3 hbs (i0 := 3 + (a * 3 + 0)) (i1 := 3 + (a * 3 + 1)) (i2 := 3 + (a * 3 + 2)) (by omega) (by omega) (by omega) 3 30 (hmat.out.ti _) (hmat.out.ti _) (hmat.out.ti _)
                  (.int .i64 (mats3 c times 0 a b)) (.int .i64 (mats3 c times 1 a b)) (.int .i64 (mats3 c times 2 a b)) rfl rfl rfl Try.underlying30 (by simp [Value.cells]) info_int (by decide) (hlen 0 (by decide)) (hlen 1 (by decide)) (hlen 2 (by decide))
                rw [← e3] at r0
                rw [← e4] at r1
                rw [← e5] at r2
                have r0 : (Builtin.append_ #[30, 30] 30 #[u23, .slice (some ⟨wr.heap.size, 0, none⟩) 1 1]).run Try.prog (wr.alloc (.cells #[.int .i64 (c b a)] 3)) = .ok x0 w5 := r0
                have r1 : (Builtin.append_ #[30, 30] 30 #[u24, .slice (some ⟨w5.heap.size, 0, none⟩) 1 1]).run Try.prog (w5.alloc (.cells #[.int .i64 (c a b * times)] 3)) = .ok x1 w6 := r1
                have r2 : (Builtin.append_ #[30, 30] 30 #[u25, .slice (some ⟨w6.heap.size, 0, none⟩) 1 1]).run Try.prog (w6.alloc (.cells #[.int .i64 (c a b)] 3)) = .ok x2 w7 := r2
                have HBG := Lib.hid hbag'
                have HMT := Lib.hid (hmat.out.add3 (v0 := x0) (v1 := x1) (v2 := x2))
                have HLOW := Lib.hid (show ∀ i j, i < a ∨ (i = a ∧ j < b + 1) → j < n → c i j ≤ 134217728 from fun i j h hj => by
                  by_cases e : i = a ∧ j = b
                  · rw [e.1, e.2]; exact hbig
                  · exact hlow.out i j (by omega) hj)
                have HF0 := Lib.hid (show u19 = (updF (updF (updF F (3 + (a * 3 + 0)) ⟨3, x0, (F (3 + (a * 3 + 0))).xs ++ [.int .i64 (mats3 c times 0 a b)]⟩) (3 + (a * 3 + 1)) ⟨3, x1, (F (3 + (a * 3 + 1))).xs ++ [.int .i64 (mats3 c times 1 a b)]⟩) (3 + (a * 3 + 2)) ⟨3, x2, (F (3 + (a * 3 + 2))).xs ++ [.int .i64 (mats3 c times 2 a b)]⟩ 0).v from by
                  rw [updF_ne _ _ (by omega), updF_ne _ _ (by omega), updF_ne _ _ (by omega)]; exact e0)
                have HF1 := Lib.hid (show u20 = (updF (updF (updF F (3 + (a * 3 + 0)) ⟨3, x0, (F (3 + (a * 3 + 0))).xs ++ [.int .i64 (mats3 c times 0 a b)]⟩) (3 + (a * 3 + 1)) ⟨3, x1, (F (3 + (a * 3 + 1))).xs ++ [.int .i64 (mats3 c times 1 a b)]⟩) (3 + (a * 3 + 2)) ⟨3, x2, (F (3 + (a * 3 + 2))).xs ++ [.int .i64 (mats3 c times 2 a b)]⟩ 1).v from by
                  rw [updF_ne _ _ (by omega), updF_ne _ _ (by omega), updF_ne _ _ (by omega)]; exact e1)
                have HF2 := Lib.hid (show u21 = (updF (updF (updF F (3 + (a * 3 + 0)) ⟨3, x0, (F (3 + (a * 3 + 0))).xs ++ [.int .i64 (mats3 c times 0 a b)]⟩) (3 + (a * 3 + 1)) ⟨3, x1, (F (3 + (a * 3 + 1))).xs ++ [.int .i64 (mats3 c times 1 a b)]⟩) (3 + (a * 3 + 2)) ⟨3, x2, (F (3 + (a * 3 + 2))).xs ++ [.int .i64 (mats3 c times 2 a b)]⟩ 2).v from by
                  rw [updF_ne _ _ (by omega), updF_ne _ _ (by omega), updF_ne _ _ (by omega)]; exact e2)
                have m0 := keep_cellN b5 hOl c0
                have m1 := keep_cellN b5 c3 c4
                have k0 := keep_cellN b6 hOl c0
                have k1 := keep_cellN b6 c3 c4
                have z5 := b5.size
                have z6 := b6.size
                have y4 : O < w5.heap.size := by omega
                have y5 : rb < w5.heap.size := by omega
                have y6 : O < w6.heap.size := by omega
                have y7 : rb < w6.heap.size := by omega
                have B7 := Lib.hid (hbl.trans b7)
                clear hbag' hbag hmat hlow e0 e1 e2 e3 e4 e5 hlen b5 b6 b7 hbl
                go_wp2_with (at_builtin; first | (refine wpList_append_by rfl (.tmp 83) (.tmp 91) 30 rfl u23 (.slice (some ⟨wr.heap.size, 0, none⟩) 1 1) _ w5 rfl rfl r0 ?_) | (refine wpList_append_by rfl (.tmp 93) (.tmp 103) 30 rfl u24 (.slice (some ⟨w5.heap.size, 0, none⟩) 1 1) _ w6 rfl rfl r1 ?_) | (refine wpList_append_by rfl (.tmp 105) (.tmp 113) 30 rfl u25 (.slice (some ⟨w6.heap.size, 0, none⟩) 1 1) _ w7 rfl rfl r2 ?_))
                go_roundw
                case rel => exact ⟨b + 1, tg', _, by go_num, by rw [updF_ne _ _ (by omega), updF_ne _ _ (by omega), updF_same], by rw [updF_ne _ _ (by omega), updF_same], by rw [updF_same], HF0.out, HF1.out, HF2.out, by omega, HBG.out, HMT.out, HLOW.out, B7.out⟩
                case measure => simp [intOf]; omega
              · have HB9 := Lib.hid (HB2.out.trans (hbl.mono s2))
                clear hbag hmat hlow e0 e1 e2 e3 e4 e5 hbl
                go_wp2_with fail
                go_ret
                exact ⟨rfl, HB9.out⟩
            · obtain rfl : b = n := by omega
              have hlen : ∀ k, k < 3 → (F (3 + (a * 3 + k))).xs.length = b := fun k hk => by rw [hmat.out.cur k hk, rowV_len]
              have hlen2 : ∀ k, k < 3 → (F k).xs.length ≤ 1000000 := fun k hk => by rw [hmat.out.out k hk]; simp; omega
              obtain ⟨g3, o3, k3, f3', _⟩ := hbag.out.form (hlen 0 (by decide)) (by omega)
              obtain ⟨g4, o4, k4, f4', _⟩ := hbag.out.form (hlen 1 (by decide)) (by omega)
              obtain ⟨g5, o5, k5, f5', _⟩ := hbag.out.form (hlen 2 (by decide)) (by omega)
              obtain ⟨x0, w5, x1, w6, x2, w7, r0, r1, r2, b5, b6, b7, tg', hbag'⟩ := hbag.out.push3 hbs (i0 := 0) (i1 := 1) (i2 := 2) (by decide) (by decide) (by decide) 30 22 (hmat.out.tr 0 (by decide)) (hmat.out.tr 1 (by decide)) (hmat.out.tr 2 (by decide))
                (F (3 + (a * 3 + 0))).v (F (3 + (a * 3 + 1))).v (F (3 + (a * 3 + 2))).v (by rw [f3']; rfl) (by rw [f4']; rfl) (by rw [f5']; rfl) Try.underlying22 (by simp [Value.cells]) info_rw (by decide) (hlen2 0 (by decide)) (hlen2 1 (by decide)) (hlen2 2 (by decide))
              have HMT := Lib.hid (hmat.out.next (v0 := x0) (v1 := x1) (v2 := x2))
              have HBG := Lib.hid hbag'
              rw [f3'] at r0 e3
              rw [f4'] at r1 e4
              rw [f5'] at r2 e5
              rw [← e0] at r0
              rw [← e1] at r1
              rw [← e2] at r2
              subst e3 e4 e5
              have HLOW := Lib.hid (show ∀ i j, i < a + 1 → j < b → c i j ≤ 134217728 from fun i j h hj => hlow.out i j (by omega) hj)
              have z5 := b5.size
              have z6 := b6.size
              have B7 := Lib.hid (hbl.trans b7)
              clear hbag' hbag hmat hlow e0 e1 e2 hlen hlen2 b5 b6 b7 hbl f3' f4' f5'
              go_wp2_with (at_builtin; first | (refine wpList_append_by rfl (.tmp 116) (.tmp 118) 22 rfl u19 (.slice (some ⟨wr.heap.size, 0, none⟩) 1 1) _ w5 rfl rfl r0 ?_) | (refine wpList_append_by rfl (.tmp 120) (.tmp 122) 22 rfl u20 (.slice (some ⟨w5.heap.size, 0, none⟩) 1 1) _ w6 rfl rfl r1 ?_) | (refine wpList_append_by rfl (.tmp 124) (.tmp 126) 22 rfl u21 (.slice (some ⟨w6.heap.size, 0, none⟩) 1 1) _ w7 rfl rfl r2 ?_))
              go_roundw
              case rel => exact ⟨a + 1, tg', _, by go_num, by rw [updF_ne _ _ (by decide), updF_ne _ _ (by decide), updF_same], by rw [updF_ne _ _ (by decide), updF_same], by rw [updF_same], by omega, HBG.out, HMT.out, HLOW.out, B7.out⟩
              case measure => simp [intOf]; omega
        · obtain rfl : a = n := by omega
          have hlen2 : ∀ k, k < 3 → (F k).xs.length = a := fun k hk => by rw [hmat.out.out k hk]; simp
          obtain ⟨g0, o0, k0, f0', i0, j0, l0, _, _, _⟩ := hbag.out.form (hlen2 0 (by decide)) (by omega)
          obtain ⟨g1, o1, k1, f1', i1, j1, l1, _, _, _⟩ := hbag.out.form (hlen2 1 (by decide)) (by omega)
          obtain ⟨g2, o2, k2, f2', i2, j2, l2, cl2, fr2, _⟩ := hbag.out.form (hlen2 2 (by decide)) (by omega)
          obtain ⟨g3, o3, k3, f3', i3, j3, l3, cl3, fr3, ng3⟩ := hbag.out.form (id := 3 + (U * 3 + 2)) (n := a) (by rw [hmat.out.done U 2 uf1 (by decide), rowV_len]) (by omega)
          have x2 := cl2 U (F (3 + (U * 3 + 2))).v (by rw [hmat.out.out 2 (by decide), List.getElem?_map, List.getElem?_range uf1]; rfl)
          rw [f3'] at x2
          have x3 := cl3 V (.int .i64 (c U V)) (by rw [hmat.out.done U 2 uf1 (by decide), rowV_get uf2]; rfl)
          have x4 := fr3 (o3 + V)
          have HBG9 := Lib.hid (hbag.out.set f3' V (.int .i64 (c U V + k)))
          have HMT9 := Lib.hid (mats_upd hmat.out uf1 uf2 (c U V + k))
          have b9 := hbl.setCell (p := ⟨g3, o3 + V, none⟩) ng3 (.int .i64 (c U V + k))
          have s9 : w2.heap.size ≤ (wr.setCell ⟨g3, o3 + V, none⟩ (.int .i64 (c U V + k))).heap.size := b9.size
          obtain ⟨_, _, t0, _, _, R0⟩ := HBG9.out.rows HMT9.out (k := 0) (by decide) (by omega)
          obtain ⟨_, _, t1, _, _, R1⟩ := HBG9.out.rows HMT9.out (k := 1) (by decide) (by omega)
          obtain ⟨_, _, t2, _, _, R2⟩ := HBG9.out.rows HMT9.out (k := 2) (by decide) (by omega)
          rw [updF_ne _ _ (by omega), f0'] at t0
          rw [updF_ne _ _ (by omega), f1'] at t1
          rw [updF_ne _ _ (by omega), f2'] at t2
          simp only [Value.slice.injEq] at t0 t1 t2
          obtain ⟨rfl, _⟩ := t0
          obtain ⟨rfl, _⟩ := t1
          obtain ⟨rfl, _⟩ := t2
          rw [f0'] at e0
          rw [f1'] at e1
          rw [f2'] at e2
          subst e0 e1 e2
          have hcb : ∀ i j, i < a → j < a → 0 ≤ c i j ∧ c i j ≤ 134217728 := fun i j hi hj => ⟨(HB.out i j hi hj).1, hlow.out i j hi hj⟩
          obtain ⟨cu0, cu1⟩ := hcb U V uf1 uf2
          have hmb : ∀ i j, i < a → j < a → 0 ≤ c i j * times ∧ c i j * times ≤ 1073741824 := fun i j hi hj => by
            obtain ⟨h1, h2⟩ := hcb i j hi hj
            have h3 : 0 ≤ c i j * times := Int.mul_nonneg h1 (by omega)
            have h4 : c i j * times ≤ 134217728 * 5 := Int.mul_le_mul h2 htm5 (by omega) (by omega)
            omega
          have hub : ∀ i j, i < a → j < a → 0 ≤ upd2 c U V (c U V + k) i j ∧ upd2 c U V (c U V + k) i j ≤ 1073741824 := fun i j hi hj => by
            have := hcb i j hi hj
            unfold upd2
            split <;> omega
          have MX0 := Lib.hid (fun cc W h => maxM a (fun i j => c j i) (some ⟨g0, o0, none⟩) cc B A W (by omega) n14 (fun i hi => HZ.out i hi) (fun i j hi hj => HB.out j i hj hi) ht hs (Ne.symm hst) h)
          have MX1 := Lib.hid (fun cc W h => maxM a (fun i j => c i j * times) (some ⟨g1, o1, none⟩) cc A B W (by omega) n14 (fun i hi => by rw [HZ.out i hi]; simp) hmb hs ht hst h)
          have MX2 := Lib.hid (fun cc W h => maxM a (upd2 c U V (c U V + k)) (some ⟨g2, o2, none⟩) cc A B W (by omega) n14 (fun i hi => by unfold upd2; rw [if_neg (by omega)]; exact HZ.out i hi) hub hs ht hst h)
          have RH0 := Lib.hid (show RowsAt _ _ _ (rowsM a (fun i j => c j i)) from R0)
          have RH1 := Lib.hid (show RowsAt _ _ _ (rowsM a (fun i j => c i j * times)) from R1)
          have RH2 := Lib.hid (show RowsAt _ _ _ (rowsM a (upd2 c U V (c U V + k))) from R2)
          clear R0 R1 R2
          have HUV := Lib.hid (show ∀ x y, x < a → y < a → ¬ (x = U ∧ y = V) → upd2 c U V (c U V + k) x y = c x y from fun x y _ _ h => by unfold upd2; rw [if_neg h])
          have HUV2 := Lib.hid (show upd2 c U V (c U V + k) U V = c U V + k by unfold upd2; simp)
          have B9 := Lib.hid b9
          clear HBG9 HMT9 hbag hmat hlow hcb hmb hub cl2 cl3 fr2 fr3 hlen2 f0' f1' f2' f3' hbl b9
          have hUI : (U : Int) < (a : Int) := by omega
          have hVI : (V : Int) < (a : Int) := by omega
          have hU0 : (0 : Int) ≤ (U : Int) := by omega
          have hV0 : (0 : Int) ≤ (V : Int) := by omega
          have EBW := Lib.hid (EB.out wr)
          clear EB
          go_wp2_with fail
          refine EBW.out.mono ?_
          rintro e w8 ⟨rfl, rfl⟩
          clear EBW
          generalize hCU : c U V + (k : Int) = CU at *
          have HCU := Lib.hid hCU
          generalize hcuv : c U V = cuv at *
          have HCUV := Lib.hid hcuv
          clear hcuv
          go_upto_region 24 with fail
          clear x2 x3 x4 hCU
          generalize wr.setCell ⟨g3, o3 + V, none⟩ (.int .i64 CU) = w9 at *
          have M0 := Lib.hid (fun cc => MX0.out cc w9 RH0.out)
          clear MX0 RH0
          go_wp2_with fail
          refine (M0.out _).mono ?_
          rintro e w10 ⟨hb10, v0, P0, rfl, hc0⟩
          have b10 := B9.out.trans (hb10.mono s9)
          have s10 := b10.size
          have HC0 := Lib.hid hc0
          have M1 := Lib.hid (fun cc => MX1.out cc w10 (RH1.out.on hb10 hb10.size))
          have RH2 := Lib.hid (RH2.out.on hb10 hb10.size)
          clear M0 MX1 RH1 B9 hc0 hb10
          go_wp2_with fail
          refine (M1.out _).mono ?_
          rintro e w11 ⟨hb11, v1, P1, rfl, hc1⟩
          have b11 := b10.trans (hb11.mono s10)
          have s11 := b11.size
          have HC1 := Lib.hid hc1
          have M2 := Lib.hid (fun cc => MX2.out cc w11 (RH2.out.on hb11 hb11.size))
          clear M1 MX2 RH2 b10 hc1 hb11
          go_wp2_with fail
          refine (M2.out _).mono ?_
          rintro e w12 ⟨hb12, v2, P2, rfl, hc2⟩
          have b12 := Lib.hid (HB2.out.trans ((b11.trans (hb12.mono s11)).mono s2))
          obtain rfl := HC0.out.uniq HC.out.rev
          obtain rfl := HC1.out.uniq (HC.out.mul (k := times) (by omega))
          obtain ⟨w0, w1'⟩ := HC.out.more (k := (k : Int)) hc2 uf1 uf2 (by omega) (by rw [HUV2.out, HCUV.out]; exact HCU.out.symm) HUV.out
          have hcm : times * v0 = v0 * times := Int.mul_comm _ _
          have hm0 : 0 ≤ v0 * times := Int.mul_nonneg hval0 (by omega)
          have hm1 : v0 * times ≤ 431644213248 * 5 := Int.mul_le_mul hval1 htm5 (by omega) (by omega)
          have wm1 : wrap64 (times * v0) = v0 * times := by rw [hcm]; exact IntWalk.wrap64_in _ (by omega)
          have wm2 : IntKind.i64.wrap (times * v0) = v0 * times := by rw [hcm]; exact IntWalk.i64_in _ (by omega)
          clear M2 HC0 HC1 hc2 HC b11 hb12 hcm
          go_wp2_with fail
          go_ret
          exact ⟨by first | rfl | exact ret_bool (by simp; omega), b12.out⟩
end Go.Proofs.Ytobjcdbbdgloiaa
