/- The walk over flow.saturate. Conditions: the matrix lies in memory. -/
import Derived.Test.YtfoadipocpopiaaGreatM42
import Derived.Test.YtfoadipocpopiaaGreatM43
namespace Go.Proofs.YtfoadipocpopiaaGreat
open Go.RowKit Go.Deep

theorem info_rw : (Tryz.prog.info? 42).map (fun i => (i.zero, i.size, i.bytes)) = some (some (.slice none 0 0), 1, 24) := by kernel_rfl
/-- The tag of a row's block. -/
def tagOf (B : Nat → Nat) : Nat → Nat → Nat
  | 0, _ => 0
  | k + 1, x => if B k = x then 2 + k else tagOf B k x
theorem tagOf_none {B : Nat → Nat} {x : Nat} : ∀ {k : Nat}, (∀ i, i < k → B i ≠ x) → tagOf B k x = 0
  | 0, _ => rfl
  | k + 1, h => by rw [tagOf, if_neg (h k (by omega)), tagOf_none (fun i hi => h i (by omega))]
theorem tagOf_row {B : Nat → Nat} {i : Nat} : ∀ {k : Nat}, (∀ i j, i < j → j < k → B i < B j) → i < k → tagOf B k (B i) = 2 + i
  | 0, _, hi => by omega
  | k + 1, h, hi => by
    rw [tagOf]
    by_cases e : i = k
    · subst e; rw [if_pos rfl]
    · rw [if_neg (by have := h i k (by omega) (by omega); omega), tagOf_row (fun i j h1 h2 => h i j h1 (by omega)) (by omega)]
def updNN (f : Nat → Nat) (k x : Nat) : Nat → Nat := fun i => if i = k then x else f i
/-- The first k rows are copied. -/
structure Rows1 (G n k : Nat) (c : Nat → Nat → Int) (w : World) (B F C : Nat → Nat) : Prop where
  out : w.rowIs G 42 n (fun i => if i < k then .slice (some ⟨B i, F i, none⟩) n (C i) else .slice none 0 0)
  cap : ∀ i, i < k → n ≤ C i ∧ C i ≤ 9223372036854775807
  row : ∀ i, i < k → RowI w (B i) (F i) n (c i)
  new : ∀ i, i < k → G < B i
  inc : ∀ i j, i < j → j < k → B i < B j
theorem Rows1.step {G n k : Nat} {c : Nat → Nat → Int} {w w' : World} {B F C : Nat → Nat} (h : Rows1 G n k c w B F C) (hk : k < n) {b o cc : Nat} (hb : Below w.heap.size w w') (hge : w.heap.size ≤ b) (hr : RowI w' b o n (c k)) (h1 : n ≤ cc) (h2 : cc ≤ 9223372036854775807) :
    Rows1 G n (k + 1) c (w'.setCell ⟨G, k, none⟩ (.slice (some ⟨b, o, none⟩) n cc)) (updNN B k b) (updNN F k o) (updNN C k cc) := by
  have hG := h.out.lt
  have old : ∀ i, i < k → updNN B k b i = B i ∧ updNN F k o i = F i ∧ updNN C k cc i = C i := fun i hi => by simp [updNN, show i ≠ k by omega]
  have hB : ∀ i, i < k → B i < w.heap.size := fun i hi => (h.row i hi).lt
  refine ⟨((h.out.of_block (hb.block G hG)).set k _).congr fun i hi => ?_, fun i hi => ?_, fun i hi => ?_, fun i hi => ?_, fun i j hij hj => ?_⟩
  · by_cases e : i = k
    · subst e; simp [updNN]
    · rw [if_neg e]
      by_cases e2 : i < k
      · obtain ⟨e3, e4, e5⟩ := old i e2
        rw [if_pos e2, if_pos (by omega), e3, e4, e5]
      · rw [if_neg e2, if_neg (by omega)]
  · by_cases e : i = k
    · subst e; simp [updNN]; exact ⟨h1, h2⟩
    · obtain ⟨_, _, e5⟩ := old i (by omega)
      rw [e5]; exact h.cap i (by omega)
  · by_cases e : i = k
    · subst e
      simp only [updNN, if_true]
      exact hr.of_block (blk_setCell_other _ _ _ _ (by show b ≠ G; omega))
    · obtain ⟨e3, e4, _⟩ := old i (by omega)
      rw [e3, e4]
      have hlt := hB i (by omega)
      exact ((h.row i (by omega)).of_block (hb.block _ hlt)).of_block (blk_setCell_other _ _ _ _ (by have := h.new i (by omega); show B i ≠ G; omega))
  · by_cases e : i = k
    · subst e
      simp only [updNN, if_true]; omega
    · rw [(old i (by omega)).1]; exact h.new i (by omega)
  · by_cases e : j = k
    · subst e
      rw [(old i hij).1]
      simp only [updNN, if_true]
      have := hB i hij; omega
    · rw [(old i (by omega)).1, (old j (by omega)).1]; exact h.inc i j hij (by omega)
theorem Rows1.rm {G n : Nat} {c : Nat → Nat → Int} {w : World} {B F C : Nat → Nat} (h : Rows1 G n n c w B F C) : RM (tagOf B n) w G n B F C c :=
  ⟨fun i hi => by have := h.out.cell hi; rwa [if_pos hi] at this, h.cap, h.row, tagOf_none fun i hi => by have := h.new i hi; omega, fun i hi => tagOf_row h.inc hi⟩

/-- A greatest flow: what is left of the capacities, and a search that does not reach the sink. -/
structure Sat (n : Nat) (c : Nat → Nat → Int) (s t : Nat) (val : Int) (r : Nat → Nat → Int) : Prop where
  res : Res n c r (exOf s t val)
  pos : 0 ≤ val
  lev : ∃ lv, Lev n r s lv ∧ lv t < 0
theorem Sat.cut {n : Nat} {c r : Nat → Nat → Int} {s t : Nat} {val : Int} (h : Sat n c s t val r) (hs : s < n) (ht : t < n) : IsCut n c s t val := by
  obtain ⟨lv, hl, hlt⟩ := h.lev
  refine ⟨⟨fun v => decide (0 ≤ lv v), by simp [hl.src0], by simp; omega, ?_⟩, fun S h1 h2 => h.res.cut_le hs ht h1 h2⟩
  refine (h.res.cut_eq hs ht (by simp [hl.src0]) (by simp; omega) fun u v hu hv h1 h2 => ?_).symm
  have h1 : 0 ≤ lv u := by simpa using h1
  have h2 : lv v < 0 := by simpa using h2
  have := h.res.nonneg u v hu hv
  by_cases e : 0 < r u v
  · have := hl.cls u v hu hv h1 e; omega
  · omega
/-- The capacities that leave the source. -/
def capS (n : Nat) (c : Nat → Nat → Int) (s : Nat) : Int := cutV n c fun v => decide (v = s)
theorem Res.capS_le {n : Nat} {c r : Nat → Nat → Int} {s t : Nat} {val : Int} (h : Res n c r (exOf s t val)) (hs : s < n) (ht : t < n) (hne : s ≠ t) : val ≤ capS n c s :=
  h.cut_le hs ht (by simp) (by simpa using Ne.symm hne)
theorem capS_bd {n : Nat} {c : Nat → Nat → Int} {s : Nat} (hs : s < n) (hn : n ≤ 402) (hcb : ∀ p q, p < n → q < n → 0 ≤ c p q ∧ c p q ≤ 1073741824) : 0 ≤ capS n c s ∧ capS n c s ≤ 431644213248 := by
  refine ⟨cut_nonneg (fun u v hu hv => (hcb u v hu hv).1) _, ?_⟩
  unfold capS cutV
  rw [sm_one hs (fun i _ hne => by
    have e : sm n (fun v => if decide (i = s) = true ∧ decide (v = s) = false then c i v else 0) = sm n (fun _ => 0) := sm_congr fun v _ => by simp [hne]
    rw [e, sm_zero])]
  have h1 := sm_le (n := n) (f := fun v => if decide (s = s) = true ∧ decide (v = s) = false then c s v else 0) (g := fun _ => 1073741824) (fun v hv => by
    show (if _ then c s v else (0 : Int)) ≤ 1073741824
    have := hcb s v hs hv
    split <;> omega)
  rw [sm_const] at h1
  exact Int.le_trans h1 (by omega)
theorem ex_step {s t : Nat} {val x : Int} : (fun w => exOf s t val w + (if w = s then x else 0) - (if w = t then x else 0)) = exOf s t (val + x) := funext fun w => by
  unfold exOf
  split <;> split <;> omega
theorem res_init (n : Nat) {c : Nat → Nat → Int} (s t : Nat) (hc : ∀ p q, p < n → q < n → 0 ≤ c p q) : Res n c c (exOf s t 0) where
  nonneg := hc
  pair := fun _ _ _ _ => rfl
  net := fun u _ => by
    have e : sm n (fun v => c u v - c u v) = sm n (fun _ => 0) := sm_congr fun v _ => by omega
    rw [e, sm_zero]; unfold exOf; split <;> split <;> rfl

/-- A matrix whose rows lie in blocks from lo on. -/
def MatFr (w : World) (lo O n : Nat) (r : Nat → Nat → Int) : Prop := lo ≤ O ∧ O < w.heap.size ∧ ∀ i, i < n → ∃ b f c, w.cell? ⟨O, i, none⟩ = some (.slice (some ⟨b, f, none⟩) n c) ∧ n ≤ c ∧ c ≤ 9223372036854775807 ∧ lo ≤ b ∧ b < w.heap.size ∧ ∀ j, j < n → w.cell? ⟨b, f + j, none⟩ = some (.int .i64 (r i j))
theorem MatFr.mat {w : World} {lo O n : Nat} {r : Nat → Nat → Int} (h : MatFr w lo O n r) : MatAt w w.heap.size O 0 n r :=
  ⟨h.2.1, fun i hi => by
    obtain ⟨b, f, c, h1, h2, h3, _, h5, h6⟩ := h.2.2 i hi
    exact ⟨b, f, c, by rw [Nat.zero_add]; exact h1, h2, h3, h5, h6⟩⟩
theorem MatFr.setLow {w : World} {lo O n : Nat} {r : Nat → Nat → Int} (h : MatFr w lo O n r) {p : Addr} (hp : p.block < lo) (v : Value) : MatFr (w.setCell p v) lo O n r := by
  obtain ⟨h1, h2, h3⟩ := h
  have hc : ∀ {g o : Nat} {x : Value}, lo ≤ g → w.cell? ⟨g, o, none⟩ = some x → (w.setCell p v).cell? ⟨g, o, none⟩ = some x := fun {g o x} hg hc => by
    rw [World.cell?_of_block (w := w) (blk_setCell_other _ _ _ _ (show g ≠ p.block by omega))]; exact hc
  exact ⟨h1, by simpa using h2, fun i hi => by
    obtain ⟨b, f, c, c1, c2, c3, c4, c5, c6⟩ := h3 i hi
    exact ⟨b, f, c, hc h1 c1, c2, c3, c4, by simpa using c5, fun j hj => hc c4 (c6 j hj)⟩⟩
theorem MatFr.below {w w' : World} {lo O n : Nat} {r : Nat → Nat → Int} (h : MatFr w lo O n r) (hb : Below w.heap.size w w') : MatFr w' lo O n r := by
  obtain ⟨h1, h2, h3⟩ := h
  have hs := hb.size
  exact ⟨h1, by omega, fun i hi => by
    obtain ⟨b, f, c, c1, c2, c3, c4, c5, c6⟩ := h3 i hi
    exact ⟨b, f, c, keep_cell hb h2 c1, c2, c3, c4, by omega, fun j hj => keep_cell hb c5 (c6 j hj)⟩⟩
theorem RM.fr {tg : Nat → Nat} {w : World} {lo O n : Nat} {B F C : Nat → Nat} {r : Nat → Nat → Int} (h : RM tg w O n B F C r) (hn : 0 < n) (hO : lo ≤ O) (hB : ∀ i, i < n → lo ≤ B i) : MatFr w lo O n r :=
  ⟨hO, World.block_lt_of_cell? w _ (h.out 0 hn), fun i hi => ⟨B i, F i, C i, h.out i hi, (h.cap i hi).1, (h.cap i hi).2, hB i hi, (h.row i hi).lt, fun j hj => (h.row i hi).cell hj⟩⟩

def SatPost (n : Nat) (c : Nat → Nat → Int) (s t : Nat) (w : World) (e : Ending) (w' : World) : Prop :=
  ∃ val r O, e = .returned (.tuple #[.int .i64 val, .slice (some ⟨O, 0, none⟩) n n]) ∧ Below w.heap.size w w' ∧ w.heap.size ≤ O ∧ MatFr w' w.heap.size O n r ∧ Sat n c s t val r

set_option maxRecDepth 100000 in
set_option maxHeartbeats 6400000 in
theorem saturate_any (n s t O o cap : Nat) (c : Nat → Nat → Int) (w : World) (hn0 : 0 < n) (hn : n ≤ 402) (hs : s < n) (ht : t < n) (hst : s ≠ t) (hcb : ∀ p q, p < n → q < n → 0 ≤ c p q ∧ c p q ≤ 1073741824) (hm : MatAt w w.heap.size O o n c) :
    Calls Tryz.prog 39 #[.slice (some ⟨O, o, none⟩) n cap, .int .i64 s, .int .i64 t] w (SatPost n c s t w) := by
  have hnI : (n : Int) ≤ 402 := by omega
  have hn0I : (0 : Int) < (n : Int) := by omega
  have hsI : (s : Int) < (n : Int) := by omega
  have htI : (t : Int) < (n : Int) := by omega
  have hs0 : (0 : Int) ≤ (s : Int) := by omega
  have ht0 : (0 : Int) ≤ (t : Int) := by omega
  have hOl := hm.1
  have HM := Lib.hid hm.2
  have HCB := Lib.hid hcb
  clear hm hcb
  obtain ⟨i0, hi0, hz0, hz1, hz2⟩ := info_parts info_rw
  have hmk := run_make (P := Tryz.prog) w 30 42 i0 _ Tryz.underlying30 hi0 hz0 .i64 .i64 n n (by omega) (by omega) (by rw [hz2]; omega) (by omega)
  simp only [Int.toNat_natCast, hz1, Value.cells] at hmk
  clear hi0 hz0 hz1 hz2
  go_enter Tryz.func39, Tryz.ntmps39
  go_wp2_with fail
  clear hmk
  have hrow := World.rowIs_made w (.slice none 0 0) n 42
  have b1 : Below w.heap.size w (w.alloc (.cells (madeCells #[.slice none 0 0] n) 42)) := (Below.refl _ _).alloc (Nat.le_refl _) _
  have s1 : w.heap.size < (w.alloc (.cells (madeCells #[.slice none 0 0] n) 42)).heap.size := by simp
  generalize w.alloc (.cells (madeCells #[.slice none 0 0] n) 42) = w1 at *
  generalize hG : w.heap.size = G at *
  have HG := Lib.hid hG
  clear hG
  go_loopw [18] (fun u wr => ∃ (k : Nat) (B F C : Nat → Nat), u = .int .i64 k ∧ k ≤ n ∧ Hid (Rows1 G n k c wr B F C) ∧ Below G w wr ∧ G < wr.heap.size) (fun u _ => n - (intOf u).toNat)
  case atStart => exact ⟨0, fun _ => 0, fun _ => 0, fun _ => 0, rfl, by omega, ⟨hrow.congr (fun i _ => by simp), fun i hi => absurd hi (Nat.not_lt_zero _), fun i hi => absurd hi (Nat.not_lt_zero _), fun i hi => absurd hi (Nat.not_lt_zero _), fun i j _ hj => absurd hj (Nat.not_lt_zero _)⟩, b1, s1⟩
  case round =>
    obtain ⟨k, B, F, C, rfl, hk, hrw, hbl, hsl⟩ := hrel
    clear b1 s1 hrow
    by_cases hlt : k < n
    · have k0 : (0 : Int) ≤ (k : Int) := by omega
      have k1 : (k : Int) < (n : Int) := by omega
      obtain ⟨rb, rf, rc, c0, c1, c2, c3, c4⟩ := HM.out k hlt
      have c0 := keep_cellN hbl hOl c0
      have hOw : O < wr.heap.size := by omega
      have hrbw : rb < wr.heap.size := by omega
      have CL := Lib.hid (clone_any n rb rf rc (c k) wr hn0 (by omega) hrbw (fun j hj => keep_cellN hbl c3 (c4 j hj)))
      clear c4
      go_wp2_with fail
      refine CL.out.mono ?_
      rintro e w4 ⟨b, oo, cc, rfl, hb4, h1, h2, h3, h4, h5⟩
      have HST := Lib.hid (hrw.out.step hlt hb4 h1 h3 h4 h5)
      have gl : wr.cell? ⟨G, k, none⟩ = _ := hrw.out.out.cell hlt
      have gl := keep_cell hb4 hrw.out.out.lt gl
      have gf := (hrw.out.out.of_block (hb4.block G hrw.out.out.lt)).frozen k
      have b4 := (hbl.trans (hb4.mono (Nat.le_of_lt hsl))).setCell (p := ⟨G, k, none⟩) (Nat.le_refl _) (.slice (some ⟨b, oo, none⟩) n cc)
      have s4 : G < (w4.setCell ⟨G, k, none⟩ (.slice (some ⟨b, oo, none⟩) n cc)).heap.size := by have := hb4.size; simp; omega
      have s4' : G < w4.heap.size := by have := hb4.size; omega
      clear hrw hbl hb4 h3
      go_wp2_with fail
      go_roundw
      case rel => exact ⟨k + 1, _, _, _, by go_num, by omega, HST.out, b4, s4⟩
      case measure => simp [intOf]; omega
    · obtain rfl : n = k := by omega
      have HRM := Lib.hid hrw.out.rm
      have hnew := hrw.out.new
      have HNEW := Lib.hid hnew
      have HCS := Lib.hid (capS_bd (s := s) hs hn HCB.out)
      clear hrw hnew
      go_wp2_with fail
      generalize hTG : tagOf B n = tg at *
      have HTG := Lib.hid hTG
      have HT0 := Lib.hid (show ∀ g, (∀ i, i < n → B i ≠ g) → tg g = 0 from fun g h => by rw [← hTG]; exact tagOf_none h)
      clear hTG
      have htg0 : ∀ g, g < G → tg g = 0 := fun g hg => HT0.out g (fun i hi e => by have := HNEW.out i hi; omega)
      have HTGL := Lib.hid htg0
      clear htg0
      obtain ⟨hcs0, hcs1⟩ := HCS.out
      generalize hCS : capS n c s = CS at *
      have HCSe := Lib.hid hCS
      clear hCS HCS
      go_loopg [11] ((CS).toNat + 1) (fun gh v wq => ∃ (val : Int) (r : Nat → Nat → Int), v = .int .i64 val ∧ 0 ≤ val ∧ val ≤ CS ∧ (CS - val).toNat < gh ∧ Hid (Res n c r (exOf s t val)) ∧ Hid (RM tg wq G n B F C r) ∧ Below G w wq ∧ G < wq.heap.size)
      case atStart => exact ⟨0, c, rfl, by omega, by omega, by omega, res_init n s t (fun p q hp hq => (HCB.out p q hp hq).1), HRM.out, hbl, hsl⟩
      case round =>
        obtain ⟨val, r, rfl, v0, v1, hgh, hres, hrm, hbq, hsq⟩ := hrel
        clear HRM hbl hsl
        have LV := Lib.hid (levels_any n s G 0 n r wr hn hs (hrm.out.mat hn0))
        go_wp2_with fail
        refine LV.out.mono ?_
        rintro e w5 ⟨lv, g, rfl, hb5, g1, g2, g3, g4⟩
        have b5 := hbq.trans (hb5.mono (Nat.le_of_lt hsq))
        have s5 : G < w5.heap.size := by have := hb5.size; omega
        have HRM5 := Lib.hid (hrm.out.below hb5)
        have lt0 := g3 t ht
        rw [Nat.zero_add] at lt0
        have HG3 := Lib.hid g3
        have HG4 := Lib.hid g4
        have l1 := g4.low t ht
        have l2 := g4.top t ht
        have HBR := Lib.hid (fun i (hi : i < n) => (hrm.out.row i hi).lt)
        clear g3 g4 hrm hbq hb5 LV
        by_cases hneg : lv t < 0
        · have HSAT := Lib.hid (show Sat n c s t val r from ⟨hres.out, v0, lv, HG4.out, hneg⟩)
          have HMAT := Lib.hid (HRM5.out.fr (lo := G) hn0 (Nat.le_refl _) (fun i hi => Nat.le_of_lt (HNEW.out i hi)))
          clear hres HRM5
          go_wp2_with fail
          go_ret2
          exact ⟨val, r, G, rfl, by rw [HG.out]; exact b5, by rw [HG.out]; exact Nat.le_refl _, by rw [HG.out]; exact HMAT.out, HSAT.out⟩
        · have hneg' : ¬ lv t < 0 := hneg
          have htgg : tg g = 0 := HT0.out g (fun i hi e => by have := HBR.out i hi; omega)
          have AC := Lib.hid (augment_any n t s G g n c lv tg B F C r (exOf s t val) w5 hn ht hs (Nat.le_refl n) HCB.out (fun v hv => ⟨HG4.out.low v hv, HG4.out.top v hv⟩) (by rw [HG4.out.src0]; exact Int.le_refl _) hres.out HRM5.out HG3.out htgg)
          go_wp2_with fail
          refine AC.out.mono ?_
          rintro e w6 ⟨x, s', rfl, x1, x2, x3, x4, x5⟩
          have xp := sent_pos HG4.out hres.out.nonneg ht (by omega) x2 (by decide : (0 : Int) < 429496729600) x5
          have hr2 := x2.res _ hres.out
          rw [ex_step] at hr2
          have hle := hr2.capS_le hs ht hst
          rw [HCSe.out] at hle
          have HR2 := Lib.hid hr2
          have HRM6 := Lib.hid x3
          have b6 := b5.trans (x4.below (Nat.le_of_lt s5) HTGL.out)
          have s6 : G < w6.heap.size := by have := x4.size; omega
          clear AC x2 x3 x4 x5 hr2 HRM5 hres
          go_wp2_with fail
          go_roundg (gk - 1)
          case measure => omega
          case rel => exact ⟨val + x, s'.r, rfl, by omega, hle, by omega, HR2.out, HRM6.out, b6, s6⟩
end Go.Proofs.YtfoadipocpopiaaGreat
