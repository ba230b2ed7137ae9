/- The walk over flow.Max. Conditions: the rows lie in memory. -/
import Derived.Test.YtdjpkebajcpfbaaFlowSat
import Derived.Test.YtdjpkebajcpfbaaNetOK
namespace Go.Proofs.Ytdjpkebajcpfbaa
open Go.RowKit Go.Deep

def capOf (rs : List (List Int)) (u v : Nat) : Int := (rwAt rs u).getD v 0
theorem netOK_bd {most : Nat} {rs : List (List Int)} (h : netOK most rs = true) : 2 ≤ rs.length ∧ rs.length ≤ most ∧ ∀ u, u < rs.length → (rwAt rs u).length = rs.length ∧ capOf rs u u = 0 ∧ ∀ v, v < rs.length → 0 ≤ capOf rs u v ∧ capOf rs u v ≤ 1073741824 := by
  unfold netOK at h
  rw [Bool.and_eq_true, decide_eq_true_eq, List.all_eq_true] at h
  obtain ⟨⟨h1, h2⟩, h3⟩ := h
  refine ⟨h1, h2, fun u hu => ?_⟩
  have := h3 u (by simpa using hu)
  unfold rowOK at this
  rw [Bool.and_eq_true, decide_eq_true_eq, List.all_eq_true] at this
  obtain ⟨⟨h4, h5⟩, h6⟩ := this
  refine ⟨h4, h5, fun v hv => ?_⟩
  have := h6 _ (List.mem_of_getElem? (getD_get (show v < (rwAt rs u).length by omega)))
  simp only [cellOK, decide_eq_true_eq] at this
  exact this
theorem rows_mat {w : World} {N : Nat} {a : Option Addr} {most : Nat} {rs : List (List Int)} (h : RowsAt w N a rs) (hv : netOK most rs = true) : ∃ O o, a = some ⟨O, o, none⟩ ∧ MatAt w N O o rs.length (capOf rs) := by
  obtain ⟨h1, h2, h3⟩ := netOK_bd hv
  obtain ⟨b, off, rfl, hb, hc⟩ := h (by intro e; rw [e] at h1; simp at h1)
  refine ⟨b, off, rfl, hb, fun i hi => ?_⟩
  obtain ⟨ra, rc, c0, c1, c2, c3⟩ := hc i _ (rwAt_get hi)
  obtain ⟨h4, _, _⟩ := h3 i hi
  obtain ⟨g, o, rfl, hg, hx⟩ := c3 (by intro e; rw [e] at h4; simp at h4; omega)
  rw [h4] at c0
  exact ⟨g, o, rc, c0, by omega, c2, hg, fun j hj => hx j _ (getD_get (by omega))⟩
theorem Rows1.congr {G n k : Nat} {c c' : Nat → Nat → Int} {w : World} {B F C : Nat → Nat} (h : Rows1 G n k c w B F C) (e : ∀ i j, i < k → j < n → c i j = c' i j) : Rows1 G n k c' w B F C :=
  ⟨h.out, h.cap, fun i hi => (h.row i hi).congr fun j hj => e i j hi hj, h.new, h.inc⟩
theorem Rows1.setR {G n k : Nat} {c : Nat → Nat → Int} {w : World} {B F C : Nat → Nat} (h : Rows1 G n k c w B F C) {i j : Nat} (hi : i < k) (hj : j < n) (x : Int) : Rows1 G n k (upd2 c i j x) (w.setCell ⟨B i, F i + j, none⟩ (.int .i64 x)) B F C := by
  refine ⟨h.out.setOther (show G ≠ B i by have := h.new i hi; omega) _, h.cap, fun p hp => ?_, h.new, h.inc⟩
  by_cases e : p = i
  · subst e
    refine ((h.row p hp).set hj x).congr fun q _ => ?_
    show (if q = j then x else c p q) = upd2 c p j x p q
    simp [upd2]
  · refine ((h.row p hp).of_block (blk_setCell_other _ _ _ _ (show B p ≠ B i by
      rcases Nat.lt_or_gt_of_ne e with h1 | h1
      · have := h.inc p i h1 hi; omega
      · have := h.inc i p h1 hp; omega))).congr fun q _ => ?_
    show c p q = upd2 c i j x p q
    simp [upd2, e]
theorem Rows1.drew {G n k : Nat} {c : Nat → Nat → Int} {w : World} {B F C : Nat → Nat} (h : Rows1 G n k c w B F C) : Rows1 G n k c w.drew B F C := ⟨h.out.drew, h.cap, h.row, h.new, h.inc⟩
theorem Rows1.mat {G n : Nat} {c : Nat → Nat → Int} {w : World} {B F C : Nat → Nat} (h : Rows1 G n n c w B F C) : MatAt w w.heap.size G 0 n c :=
  ⟨h.out.lt, fun i hi => ⟨B i, F i, C i, by rw [Nat.zero_add]; have := h.out.cell hi; rwa [if_pos hi] at this, (h.cap i hi).1, (h.cap i hi).2, (h.row i hi).lt, fun j hj => (h.row i hi).cell hj⟩⟩
/-- The entries before the m-th of the row k are written. -/
def part2 (f : Nat → Nat → Int) (k m : Nat) : Nat → Nat → Int := fun i j => if i < k ∨ (i = k ∧ j < m) then f i j else 0
theorem part2_step {f : Nat → Nat → Int} {k m : Nat} (i j : Nat) : upd2 (part2 f k m) k m (f k m) i j = part2 f k (m + 1) i j := by
  unfold upd2 part2
  by_cases e : i = k ∧ j = m
  · obtain ⟨rfl, rfl⟩ := e; simp
  · rw [if_neg e]
    by_cases e2 : i < k ∨ (i = k ∧ j < m)
    · rw [if_pos e2, if_pos (by omega)]
    · rw [if_neg e2, if_neg (by omega)]
theorem row_new (w : World) (n : Nat) : RowI (w.alloc (.cells (madeCells #[.int .i64 0] n) 3)) w.heap.size 0 n (fun _ => 0) :=
  ⟨_, Go.Deep.blk_alloc_new _ _, by simp [size_madeCells], fun j hj => by simp [madeCells, hj, Nat.mod_one]⟩

def MaxPost (rs : List (List Int)) (src snk : Int) (w : World) (e : Ending) (w' : World) : Prop :=
  Below w.heap.size w w' ∧ ((netOK 400 rs = false ∧ e = .returned (.tuple #[.int .i64 0, .slice none 0 0, .int .i64 1])) ∨
    (netOK 400 rs = true ∧ ¬ (0 ≤ src ∧ src < rs.length ∧ 0 ≤ snk ∧ snk < rs.length ∧ src ≠ snk) ∧ e = .returned (.tuple #[.int .i64 0, .slice none 0 0, .int .i64 2])) ∨
    (netOK 400 rs = true ∧ ∃ s t : Nat, src = s ∧ snk = t ∧ s < rs.length ∧ t < rs.length ∧ s ≠ t ∧ ∃ val r O, e = .returned (.tuple #[.int .i64 val, .slice (some ⟨O, 0, none⟩) rs.length rs.length, .int .i64 0]) ∧ Sat rs.length (capOf rs) s t val r ∧
      w.heap.size ≤ O ∧ MatAt w' w'.heap.size O 0 rs.length (fun u v => max 0 (capOf rs u v - r u v))))

set_option maxRecDepth 100000 in
set_option maxHeartbeats 6400000 in
theorem max_any (rs : List (List Int)) (a : Option Addr) (cap : Nat) (src snk : Int) (w : World) (hl : rs.length ≤ 9223372036854775807) (hr : RowsAt w w.heap.size a rs) (hrr : ∀ r ∈ rs, FitI r) :
    Calls Try.prog 47 #[.slice a rs.length cap, .int .i64 src, .int .i64 snk] w (MaxPost rs src snk w) := by
  have hlI : (rs.length : Int) ≤ 9223372036854775807 := by omega
  have FV := Lib.hid (fvalid_any rs a cap w hl hr hrr)
  cases hv : netOK 400 rs
  · have HV := Lib.hid hv
    rw [hv] at FV
    clear hv
    go_enter Try.func47, Try.ntmps47
    go_wp2_with fail
    refine FV.out.mono ?_
    rintro e w1 ⟨rfl, rfl⟩
    go_wp2_with fail
    go_ret3
    exact ⟨Below.refl _ _, .inl ⟨HV.out, rfl⟩⟩
  · have HV := Lib.hid hv
    obtain ⟨n2, n4, hnet⟩ := netOK_bd hv
    obtain ⟨O, o, rfl, hmat⟩ := rows_mat hr hv
    rw [hv] at FV
    have HNET := Lib.hid hnet
    have HMAT := Lib.hid hmat
    have hnI : (rs.length : Int) ≤ 400 := by omega
    have hn0I : (2 : Int) ≤ (rs.length : Int) := by omega
    clear hv hnet hmat hr hrr hlI
    by_cases hok : 0 ≤ src ∧ src < rs.length ∧ 0 ≤ snk ∧ snk < rs.length ∧ src ≠ snk
    · obtain ⟨k1, k2, k3, k4, k5⟩ := hok
      obtain ⟨s, rfl⟩ := Int.eq_ofNat_of_zero_le k1
      obtain ⟨t, rfl⟩ := Int.eq_ofNat_of_zero_le k3
      have hs : s < rs.length := by omega
      have ht : t < rs.length := by omega
      have hst : s ≠ t := fun e => k5 (by rw [e])
      have q1 : ((s : Int) == (t : Int)) = false := beq_eq_false_iff_ne.2 k5
      have q2 : (s == t) = false := beq_eq_false_iff_ne.2 hst
      have q3 : decide ((s : Int) < 0) = false := decide_eq_false (by omega)
      have q4 : decide ((t : Int) < 0) = false := decide_eq_false (by omega)
      have SA := Lib.hid (saturate_any rs.length s t O o cap (capOf rs) w (by omega) (by omega) hs ht hst (fun p q hp hq => (HNET.out p hp).2.2 q hq) HMAT.out)
      have HST := Lib.hid hst
      clear k5 hst
      obtain ⟨i0, hi0, hz0, hz1, hz2⟩ := info_parts info_rw
      have hmkO : ∀ W : World, (Instr.makeSlice 40 (.int .i64 (rs.length : Int)) (.int .i64 (rs.length : Int))).run Try.prog W = .ok (.slice (some ⟨W.heap.size, 0, none⟩) rs.length rs.length) (W.alloc (.cells (madeCells #[.slice none 0 0] rs.length) 41)) := fun W => by
        have h := run_make (P := Try.prog) W 40 41 i0 _ Try.underlying40 hi0 hz0 .i64 .i64 rs.length rs.length (by omega) (by omega) (by rw [hz2]; omega) (by omega)
        simp only [Int.toNat_natCast, hz1, Value.cells, Nat.mul_one] at h
        exact h
      clear hi0 hz0 hz1 hz2
      obtain ⟨i1, hi1, hz0, hz1, hz2⟩ := info_parts info_int
      have hmkI : ∀ W : World, (Instr.makeSlice 41 (.int .i64 (rs.length : Int)) (.int .i64 (rs.length : Int))).run Try.prog W = .ok (.slice (some ⟨W.heap.size, 0, none⟩) rs.length rs.length) (W.alloc (.cells (madeCells #[.int .i64 0] rs.length) 3)) := fun W => by
        have h := run_make (P := Try.prog) W 41 3 i1 _ Try.underlying41 hi1 hz0 .i64 .i64 rs.length rs.length (by omega) (by omega) (by rw [hz2]; omega) (by omega)
        simp only [Int.toNat_natCast, hz1, Value.cells, Nat.mul_one] at h
        exact h
      clear hi1 hz0 hz1 hz2
      go_enter Try.func47, Try.ntmps47
      go_wp2_with fail
      refine FV.out.mono ?_
      rintro e w1 ⟨rfl, rfl⟩
      go_wp2_with fail
      refine SA.out.mono ?_
      rintro e w2 ⟨val, r, O2, rfl, hb2, hO2, hm2, hsat⟩
      have hm2 := hm2.mat
      have HM2 := Lib.hid hm2
      have HSAT := Lib.hid hsat
      have HB2 := Lib.hid hb2
      have s2 := hb2.size
      clear hm2 hsat hb2 SA
      go_upto_region 8 with fail
      have hrow := World.rowIs_made w2 (.slice none 0 0) rs.length 41
      have b3 : Below w2.heap.size w2 (w2.alloc (.cells (madeCells #[.slice none 0 0] rs.length) 41)) := (Below.refl _ _).alloc (Nat.le_refl _) _
      have s3 : w2.heap.size < (w2.alloc (.cells (madeCells #[.slice none 0 0] rs.length) 41)).heap.size := by simp
      generalize w2.alloc (.cells (madeCells #[.slice none 0 0] rs.length) 41) = w3 at *
      generalize hG : w2.heap.size = G at *
      have HG := Lib.hid hG
      generalize hn : rs.length = n at *
      have HN := Lib.hid hn
      have HF := Lib.hid (show ∃ f : Nat → Nat → Int, ∀ i j, f i j = max 0 (capOf rs i j - r i j) from ⟨_, fun _ _ => rfl⟩)
      clear hG hn hmkO
      obtain ⟨f, hf⟩ := HF.out
      have HF := Lib.hid hf
      clear hf q1 q2 q3 q4
      go_wp2_with fail
      go_loopw [52] (fun u wr => ∃ (k : Nat) (B F C : Nat → Nat), u = .int .i64 k ∧ k ≤ n ∧ Hid (Rows1 G n k f wr B F C) ∧ Below G w2 wr ∧ G < wr.heap.size) (fun u _ => n - (intOf u).toNat)
      case atStart => exact ⟨0, fun _ => 0, fun _ => 0, fun _ => 0, rfl, by omega, ⟨hrow.congr (fun i _ => by simp), fun i hi => absurd hi (Nat.not_lt_zero _), fun i hi => absurd hi (Nat.not_lt_zero _), fun i hi => absurd hi (Nat.not_lt_zero _), fun i j _ hj => absurd hj (Nat.not_lt_zero _)⟩, b3, s3⟩
      case round =>
        obtain ⟨k, B, F, C, rfl, hk, hrw, hbl, hsl⟩ := hrel
        clear b3 s3 hrow
        by_cases hlt : k < n
        · have k0 : (0 : Int) ≤ (k : Int) := by omega
          have k1 : (k : Int) < (n : Int) := by omega
          have gf := (hrw.out.out.alloc (.cells (madeCells #[.int .i64 0] n) 3)).frozen k
          have gl := (hrw.out.out.alloc (.cells (madeCells #[.int .i64 0] n) 3)).cell hlt
          rw [if_neg (Nat.lt_irrefl k)] at gl
          have h4 := ((hrw.out.congr (c' := part2 f k 0) (fun i j hi _ => by unfold part2; rw [if_pos (.inl hi)])).step hlt ((Below.refl wr.heap.size wr).alloc (Nat.le_refl _) (.cells (madeCells #[.int .i64 0] n) 3)) (Nat.le_refl _) ((row_new wr n).congr (fun j _ => by unfold part2; rw [if_neg (by omega)])) (Nat.le_refl n) (by omega))
          have b4 := (hbl.alloc (Nat.le_of_lt hsl) (.cells (madeCells #[.int .i64 0] n) 3)).setCell (p := ⟨G, k, none⟩) (Nat.le_refl _) (.slice (some ⟨wr.heap.size, 0, none⟩) n n)
          have s4 : G < ((wr.alloc (.cells (madeCells #[.int .i64 0] n) 3)).setCell ⟨G, k, none⟩ (.slice (some ⟨wr.heap.size, 0, none⟩) n n)).heap.size := by simp; omega
          have sg : G < (wr.alloc (.cells (madeCells #[.int .i64 0] n) 3)).heap.size := by simp; omega
          have H4 := Lib.hid h4
          clear h4 hrw hbl
          go_upto_region 12 with fail
          have hcm : (wr.alloc (.cells (madeCells #[.int .i64 0] n) 3)).setCell ⟨G, k, none⟩ (.slice (some ⟨wr.heap.size, 0, none⟩) n n) = (wr.setCell ⟨G, k, none⟩ (.slice (some ⟨wr.heap.size, 0, none⟩) n n)).alloc (.cells (madeCells #[.int .i64 0] n) 3) := by simp [hsl, go_sem]
          rw [hcm] at H4 b4 s4
          clear gf gl sg hcm
          generalize (wr.setCell ⟨G, k, none⟩ (.slice (some ⟨wr.heap.size, 0, none⟩) n n)).alloc (.cells (madeCells #[.int .i64 0] n) 3) = w4 at *
          generalize wr.heap.size = H at *
          have co := H4.out.out.cell hlt
          rw [if_pos (Nat.lt_succ_self k)] at co
          simp only [updNN, if_true] at co
          clear hsl
          go_wp2_with fail
          go_loopw [65] (fun u wq => ∃ m : Nat, u = .int .i64 m ∧ m ≤ n ∧ Hid (Rows1 G n (k + 1) (part2 f k m) wq (updNN B k H) (updNN F k 0) (updNN C k n)) ∧ Below G w2 wq ∧ G < wq.heap.size) (fun u _ => n - (intOf u).toNat)
          case atStart => exact ⟨0, rfl, by omega, H4.out, b4, s4⟩
          case round =>
            obtain ⟨m, rfl, hm, hrm, hbm, hsm⟩ := hrel
            clear H4 b4 s4 co
            by_cases hml : m < n
            · have m0 : (0 : Int) ≤ (m : Int) := by omega
              have m1 : (m : Int) < (n : Int) := by omega
              have co := hrm.out.out.cell hlt
              rw [if_pos (Nat.lt_succ_self k)] at co
              simp only [updNN, if_true] at co
              have cx := (hrm.out.row k (Nat.lt_succ_self k)).cell hml
              have cf := (hrm.out.row k (Nat.lt_succ_self k)).frozen (0 + m)
              have col := (hrm.out.row k (Nat.lt_succ_self k)).lt
              have hHG := hrm.out.new k (Nat.lt_succ_self k)
              simp only [updNN, if_true, Nat.zero_add] at cx cf col hHG
              obtain ⟨rb, rf, rc, c0, c1, c2, c3, c4⟩ := (HMAT.out.keep HB2.out).2 k hlt
              obtain ⟨ra, rg, rd, d0, d1, d2, d3, d4⟩ := HM2.out.2 k hlt
              have hOl := HMAT.out.1
              have hO2l := HM2.out.1
              have x0 := keep_cellN hbm (show O < G by omega) c0
              have x1 := keep_cellN hbm (show rb < G by omega) (c4 m hml)
              have y0 := keep_cellN hbm hO2l d0
              have y1 := keep_cellN hbm d3 (d4 m hml)
              have z1 : O < wr.heap.size := by omega
              have z2 : rb < wr.heap.size := by omega
              have z3 : O2 < wr.heap.size := by omega
              have z4 : ra < wr.heap.size := by omega
              obtain ⟨p1, p2⟩ := (HNET.out k hlt).2.2 m hml
              obtain ⟨p3, p4⟩ := res_bd HSAT.out.res (fun p q hp hq => (HNET.out p hp).2.2 q hq) hlt hml
              have wc : IntKind.i64.wrap (capOf rs k m - r k m) = capOf rs k m - r k m := IntWalk.i64_in _ (by omega)
              have hfk := HF.out k m
              have hrd := hrm.out.drew
              have HST := Lib.hid ((hrd.setR (Nat.lt_succ_self k) hml (f k m)).congr (fun i j _ _ => part2_step i j))
              have bm := hbm.drew.setCell (p := ⟨H, m, none⟩) (Nat.le_of_lt hHG) (.int .i64 (f k m))
              have sm2 : G < (wr.drew.setCell ⟨H, m, none⟩ (.int .i64 (f k m))).heap.size := by have : G < wr.drew.heap.size := hsm; simpa using this
              have cxd : wr.drew.cell? ⟨H, m, none⟩ = _ := cx
              have cfd : wr.drew.frozen? ⟨H, m, none⟩ = false := cf
              simp only [updNN, if_true, Nat.zero_add] at HST
              rw [Nat.zero_add] at y0
              clear c0 c4 d0 d4 hrm hbm hrd
              generalize f k m = fkm at *
              by_cases hd : r k m < capOf rs k m
              · obtain rfl : fkm = capOf rs k m - r k m := by omega
                clear hfk
                go_upto_region 15 with fail
                go_still_tail 22, (by kernel_rfl)
                change wpList _ _ _ _ _ wr.drew
                clear x0 x1 y0 y1 wc cx cf co
                generalize wr.drew = w7 at *
                go_wp2_with fail
                go_roundw
                case rel => exact ⟨m + 1, by go_num, by omega, HST.out, bm, sm2⟩
                case measure => simp [intOf]; omega
              · obtain rfl : fkm = 0 := by omega
                clear hfk
                go_upto_region 15 with fail
                go_still_tail 22, (by kernel_rfl)
                change wpList _ _ _ _ _ wr.drew
                clear x0 x1 y0 y1 cx cf co
                generalize wr.drew = w7 at *
                go_wp2_with fail
                go_roundw
                case rel => exact ⟨m + 1, by go_num, by omega, HST.out, bm, sm2⟩
                case measure => simp [intOf]; omega
            · obtain rfl : n = m := by omega
              have HD := Lib.hid (hrm.out.congr (c' := f) (fun i j hi hj => by unfold part2; rw [if_pos (by omega)]))
              clear hrm
              go_wp2_with fail
              go_roundw
              case rel => exact ⟨k + 1, _, _, _, by go_num, by omega, HD.out, hbm, hsm⟩
              case measure => simp [intOf]; omega
        · obtain rfl : n = k := by omega
          have HMT := Lib.hid hrw.out.mat
          clear hrw
          go_wp2_with fail
          go_ret3
          refine ⟨HB2.out.trans (hbl.mono (by have := HG.out; have := HB2.out.size; omega)), .inr (.inr ⟨HV.out, s, t, rfl, rfl, by rw [HN.out]; exact hs, by rw [HN.out]; exact ht, HST.out, val, r, G, ?_, ?_, ?_, ?_⟩)⟩
          · rw [HN.out]; rfl
          · rw [HN.out]; exact HSAT.out
          · have := HG.out; have := HB2.out.size; omega
          · rw [HN.out]
            have e : (fun u v => max 0 (capOf rs u v - r u v)) = f := by funext u v; exact (HF.out u v).symm
            rw [e]; exact HMT.out
    · have HOK := Lib.hid hok
      have hor : src < 0 ∨ (rs.length : Int) ≤ src ∨ snk < 0 ∨ (rs.length : Int) ≤ snk ∨ src = snk := by
        apply Classical.byContradiction
        intro h
        exact hok ⟨by omega, by omega, by omega, by omega, by omega⟩
      clear hok
      go_enter Try.func47, Try.ntmps47
      go_wp2_with fail
      refine FV.out.mono ?_
      rintro e w1 ⟨rfl, rfl⟩
      by_cases c1 : src < 0
      · clear hor
        go_wp2_with fail
        go_ret3
        exact ⟨Below.refl _ _, .inr (.inl ⟨HV.out, HOK.out, rfl⟩)⟩
      · by_cases c2 : (rs.length : Int) ≤ src
        · clear hor
          go_wp2_with fail
          go_ret3
          exact ⟨Below.refl _ _, .inr (.inl ⟨HV.out, HOK.out, rfl⟩)⟩
        · by_cases c3 : snk < 0
          · clear hor
            go_wp2_with fail
            go_ret3
            exact ⟨Below.refl _ _, .inr (.inl ⟨HV.out, HOK.out, rfl⟩)⟩
          · by_cases c4 : (rs.length : Int) ≤ snk
            · clear hor
              go_wp2_with fail
              go_ret3
              exact ⟨Below.refl _ _, .inr (.inl ⟨HV.out, HOK.out, rfl⟩)⟩
            · have q1 : (src == snk) = true := by simp; omega
              clear hor
              go_wp2_with fail
              go_ret3
              exact ⟨Below.refl _ _, .inr (.inl ⟨HV.out, HOK.out, rfl⟩)⟩
end Go.Proofs.Ytdjpkebajcpfbaa
