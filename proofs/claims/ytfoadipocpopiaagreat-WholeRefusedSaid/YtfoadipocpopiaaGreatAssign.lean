/- The walk over flow.assign. Conditions: valid jobs lie in memory. -/
import Derived.Test.YtfoadipocpopiaaGreatM45
import Derived.Test.YtfoadipocpopiaaGreatJobsOK
namespace Go.Proofs.YtfoadipocpopiaaGreat
open Go.RowKit Go.Deep

def maxD (l : List FJ) : Nat → Int
  | 0 => 0
  | k + 1 => max (maxD l k) (fjAt l k).d
theorem maxD_bd {l : List FJ} (h : ∀ i, i < l.length → jobOK (fjAt l i)) : ∀ {k : Nat}, k ≤ l.length → 0 ≤ maxD l k ∧ maxD l k ≤ 200
  | 0, _ => ⟨Int.le_refl _, by show (0 : Int) ≤ 200; decide⟩
  | k + 1, hk => by
    obtain ⟨h1, h2⟩ := maxD_bd h (k := k) (by omega)
    obtain ⟨j1, j2, j3, _⟩ := h k (by omega)
    rw [maxD]; omega
theorem maxD_ge {l : List FJ} {j : Nat} : ∀ {k : Nat}, j < k → (fjAt l j).d ≤ maxD l k
  | k + 1, hj => by
    rw [maxD]
    by_cases e : j = k
    · subst e; omega
    · have := maxD_ge (l := l) (k := k) (j := j) (by omega); omega
def slotsN (l : List FJ) : Nat := (maxD l l.length).toNat
def sumC (l : List FJ) (k : Nat) : Int := sm k fun j => (fjAt l j).c
theorem sumC_bd {l : List FJ} (h : ∀ i, i < l.length → jobOK (fjAt l i)) : ∀ {k : Nat}, k ≤ l.length → 0 ≤ sumC l k ∧ sumC l k ≤ 200 * k
  | 0, _ => ⟨Int.le_refl _, by show (0 : Int) ≤ 200 * 0; decide⟩
  | k + 1, hk => by
    obtain ⟨h1, h2⟩ := sumC_bd h (k := k) (by omega)
    obtain ⟨_, _, _, j4, j5⟩ := h k (by omega)
    unfold sumC at h1 h2 ⊢
    rw [sm]; omega

/-- The variable 'a' of assign. -/
def AVar (w : World) (g : Nat) (x y z u : Value) : Prop := w.heap[g]? = some (.cells #[x, y, z, u] 61 (0, 0))
section
variable {w w' : World} {g : Nat} {x y z u v : Value}
theorem AVar.cells (h : AVar w g x y z u) : w.cell? ⟨g, 0, none⟩ = some x ∧ w.cell? ⟨g, 1, none⟩ = some y ∧ w.cell? ⟨g, 2, none⟩ = some z ∧ w.cell? ⟨g, 3, none⟩ = some u := by
  unfold AVar at h
  simp [World.cell?, h]
theorem AVar.frozen (h : AVar w g x y z u) (i : Nat) : w.frozen? ⟨g, i, none⟩ = false := by
  unfold AVar at h
  simp [World.frozen?, h]
theorem AVar.lt (h : AVar w g x y z u) : g < w.heap.size := (Array.getElem?_eq_some_iff.1 h).1
theorem AVar.of_block (h : AVar w g x y z u) (e : w'.heap[g]? = w.heap[g]?) : AVar w' g x y z u := e.trans h
theorem AVar.alloc (h : AVar w g x y z u) (o : Obj) : AVar (w.alloc o) g x y z u := h.of_block (blk_alloc_lt _ _ _ h.lt)
theorem AVar.other (h : AVar w g x y z u) {a : Addr} (ha : g ≠ a.block) (v : Value) : AVar (w.setCell a v) g x y z u := h.of_block (blk_setCell_other _ _ _ _ ha)
theorem AVar.set0 (h : AVar w g x y z u) : AVar (w.setCell ⟨g, 0, none⟩ v) g v y z u := by
  unfold AVar at h ⊢
  simp [World.setCell, Array.getElem?_modify, h]
theorem AVar.set1 (h : AVar w g x y z u) : AVar (w.setCell ⟨g, 1, none⟩ v) g x v z u := by
  unfold AVar at h ⊢
  simp [World.setCell, Array.getElem?_modify, h]
theorem AVar.set2 (h : AVar w g x y z u) : AVar (w.setCell ⟨g, 2, none⟩ v) g x y v u := by
  unfold AVar at h ⊢
  simp [World.setCell, Array.getElem?_modify, h]
theorem AVar.set3 (h : AVar w g x y z u) : AVar (w.setCell ⟨g, 3, none⟩ v) g x y z v := by
  unfold AVar at h ⊢
  simp [World.setCell, Array.getElem?_modify, h]
end

theorem Rows1.below {G n k : Nat} {c : Nat → Nat → Int} {w w' : World} {B F C : Nat → Nat} (h : Rows1 G n k c w B F C) (hb : Below w.heap.size w w') : Rows1 G n k c w' B F C :=
  ⟨h.out.of_block (hb.block _ h.out.lt), h.cap, fun i hi => (h.row i hi).of_block (hb.block _ (h.row i hi).lt), h.new, h.inc⟩

structure ABase (w : World) (H : Nat) (wr : World) (m : Nat) (S : Int) : Prop where
  res : AVar wr H (.int .i64 0) (.int .i64 0) (.bool false) (.slice none 0 0)
  var : AVar wr (H + 1) (.int .i64 m) (.int .i64 S) (.bool false) (.slice none 0 0)
  low : Below H w wr
theorem ABase.alloc {w wr : World} {H m : Nat} {S : Int} (h : ABase w H wr m S) (o : Obj) : ABase w H (wr.alloc o) m S := ⟨h.res.alloc o, h.var.alloc o, h.low.alloc (Nat.le_of_lt h.res.lt) o⟩
theorem ABase.set1 {w wr : World} {H m : Nat} {S S' : Int} (h : ABase w H wr m S) : ABase w H (wr.setCell ⟨H + 1, 1, none⟩ (.int .i64 S')) m S' := ⟨h.res.other (by show H ≠ H + 1; omega) _, h.var.set1, h.low.setCell (p := ⟨H + 1, 1, none⟩) (by show H ≤ H + 1; omega) _⟩
theorem ABase.other {w wr : World} {H m : Nat} {S : Int} (h : ABase w H wr m S) {p : Addr} (hp : H + 1 < p.block) (v : Value) : ABase w H (wr.setCell p v) m S := ⟨h.res.other (by omega) _, h.var.other (by omega) _, h.low.setCell (by omega) _⟩
theorem ABase.drew {w wr : World} {H m : Nat} {S : Int} (h : ABase w H wr m S) : ABase w H wr.drew m S := ⟨h.res, h.var, h.low.drew⟩

theorem netF_bd {l : List FJ} {S : Nat} {cores : Int} (h : ∀ i, i < l.length → jobOK (fjAt l i)) (c1 : 1 ≤ cores) (c4 : cores ≤ 4) (u v : Nat) : 0 ≤ netF l S cores u v ∧ netF l S cores u v ≤ 1073741824 := by
  unfold netF netC
  by_cases h0 : u = 0
  · rw [if_pos h0]
    split
    · obtain ⟨_, _, _, h4, h5⟩ := h (v - 1) (by omega)
      omega
    · omega
  · rw [if_neg h0]
    split
    · split <;> omega
    · split
      · split <;> omega
      · omega

def AssignPost (l : List FJ) (cores : Int) (w : World) (e : Ending) (w' : World) : Prop :=
  ∃ val r O, e = .returned (.agg #[.int .i64 l.length, .int .i64 (slotsN l), .bool (val == totalC l), .slice (some ⟨O, 0, none⟩) (netN l (slotsN l)) (netN l (slotsN l))]) ∧ Below w.heap.size w w' ∧
    MatAt w' w'.heap.size O 0 (netN l (slotsN l)) r ∧ Sat (netN l (slotsN l)) (netF l (slotsN l) cores) 0 (1 + l.length + slotsN l) val r

set_option maxRecDepth 100000 in
set_option maxHeartbeats 6400000 in
theorem assign_any (l : List FJ) (a : Option Addr) (cap : Nat) (cores : Int) (w : World) (hv : jobsOK l cores = true) (hc : FJobsAt w w.heap.size a l) :
    Calls Tryz.prog 23 #[.slice a l.length cap, .int .i64 cores] w (AssignPost l cores w) := by
  obtain ⟨hl, co1, co4, hjob⟩ := jobsOK_bd hv
  have hlI : (l.length : Int) ≤ 100 := by omega
  have HJ := Lib.hid hjob
  have HMB := Lib.hid (fun k (hk : k ≤ l.length) => maxD_bd hjob hk)
  have HSB := Lib.hid (fun k (hk : k ≤ l.length) => sumC_bd hjob hk)
  clear hjob hv
  go_enter Tryz.func23, Tryz.ntmps23
  go_wp2_with fail
  have hB0 : ABase w w.heap.size ((w.alloc (.cells #[.int .i64 0, .int .i64 0, .bool false, .slice none 0 0] 61)).alloc (.cells #[.int .i64 l.length, .int .i64 0, .bool false, .slice none 0 0] 61)) l.length 0 :=
    ⟨(show AVar _ _ _ _ _ _ from blk_at rfl).alloc _, blk_at (by simp), ((Below.refl _ _).alloc (Nat.le_refl _) _).alloc (by simp) _⟩
  generalize (w.alloc (.cells #[.int .i64 0, .int .i64 0, .bool false, .slice none 0 0] 61)).alloc (.cells #[.int .i64 l.length, .int .i64 0, .bool false, .slice none 0 0] 61) = w0 at *
  generalize hH : w.heap.size = H at *
  have HH := Lib.hid hH
  have HB0 := Lib.hid hB0
  clear hH hB0
  go_loopw [23, 6] (fun u tot wr => ∃ k : Nat, u = .int .i64 k ∧ tot = .int .i64 (sumC l k) ∧ k ≤ l.length ∧ Hid (ABase w H wr l.length (maxD l k))) (fun u _ _ => l.length - (intOf u).toNat)
  case atStart => exact ⟨0, rfl, rfl, by omega, HB0.out⟩
  case round =>
    obtain ⟨k, rfl, rfl, hk, hbs⟩ := hrel
    clear HB0
    by_cases hlt : k < l.length
    · have k0 : (0 : Int) ≤ (k : Int) := by omega
      have k1 : (k : Int) < (l.length : Int) := by omega
      obtain ⟨b, off, rfl, hbN, hcell⟩ := hc (by intro e; simp [e] at hlt)
      obtain ⟨c0, c1, c2⟩ := hcell k _ (fjAt_get hlt)
      have hbl := hbs.out.low
      have c0 := keep_cellN hbl hbN c0
      have c1 := keep_cellN hbl hbN c1
      have c2 := keep_cellN hbl hbN c2
      have hHr := hbs.out.var.lt
      have hbr : b < wr.heap.size := by omega
      obtain ⟨m0, m1⟩ := HMB.out k hk
      obtain ⟨t0, t1⟩ := HSB.out k hk
      obtain ⟨j1, j2, j3, j4, j5⟩ := HJ.out k hlt
      have HMX := Lib.hid (show maxD l (k + 1) = max (maxD l k) (fjAt l k).d from rfl)
      have HSX := Lib.hid (show sumC l (k + 1) = sumC l k + (fjAt l k).c from rfl)
      clear hcell hbl
      generalize fjAt l k = j at *
      obtain ⟨jr, jd, jc⟩ := j
      simp only at c0 c1 c2 j1 j2 j3 j4 j5 HMX HSX
      have jcl := Go.Deep.blk_alloc_new wr (.cells #[.int .i64 jr, .int .i64 jd, .int .i64 jc] 58)
      have hsj : wr.heap.size < (wr.alloc (.cells #[.int .i64 jr, .int .i64 jd, .int .i64 jc] 58)).heap.size := by simp
      have hbj := Lib.hid (hbs.out.alloc (.cells #[.int .i64 jr, .int .i64 jd, .int .i64 jc] 58))
      have hX : H + 1 < wr.heap.size := hHr
      clear hbs
      go_upto_region 6 with fail
      generalize wr.alloc (.cells #[.int .i64 jr, .int .i64 jd, .int .i64 jc] 58) = wj at *
      generalize wr.heap.size = X at *
      obtain ⟨g0, g1, g2⟩ := blk3 jcl
      have jcl := Lib.hid jcl
      obtain ⟨a0, a1, a2, a3⟩ := hbj.out.var.cells
      have af := hbj.out.var.frozen 1
      have al := hbj.out.var.lt
      clear c0 c1 c2
      generalize maxD l k = M at *
      generalize sumC l k = T at *
      by_cases hmx : M < jd
      · have hq : max M jd = jd := by omega
        have HB1 := Lib.hid (hbj.out.set1 (S' := jd))
        have HQ := Lib.hid hq
        have jcl2 := Lib.hid ((blk_setCell_other wj ⟨H + 1, 1, none⟩ (.int .i64 jd) X (by show X ≠ H + 1; omega)).trans jcl.out)
        clear hq
        go_upto_region 7 with fail
        clear g0 g1 g2 a0 a1 a2 a3 af
        generalize wj.setCell ⟨H + 1, 1, none⟩ (.int .i64 jd) = w7 at *
        obtain ⟨g0, g1, g2⟩ := blk3 jcl2.out
        go_wp2_with fail
        go_roundw
        case rel => exact ⟨k + 1, by go_num, by rw [HSX.out], by omega, by rw [HMX.out, HQ.out]; exact HB1.out⟩
        case measure => simp [intOf]; omega
      · have hq : max M jd = M := by omega
        have HB1 := Lib.hid (hbj.out.set1 (S' := M))
        have HQ := Lib.hid hq
        have jcl2 := Lib.hid ((blk_setCell_other wj ⟨H + 1, 1, none⟩ (.int .i64 M) X (by show X ≠ H + 1; omega)).trans jcl.out)
        clear hq
        go_upto_region 7 with fail
        clear g0 g1 g2 a0 a1 a2 a3 af
        generalize wj.setCell ⟨H + 1, 1, none⟩ (.int .i64 M) = w7 at *
        obtain ⟨g0, g1, g2⟩ := blk3 jcl2.out
        go_wp2_with fail
        go_roundw
        case rel => exact ⟨k + 1, by go_num, by rw [HSX.out], by omega, by rw [HMX.out, HQ.out]; exact HB1.out⟩
        case measure => simp [intOf]; omega
    · obtain rfl : k = l.length := by omega
      obtain ⟨M0, M1⟩ := HMB.out l.length (Nat.le_refl _)
      have HS := Lib.hid (show ((slotsN l : Nat) : Int) = maxD l l.length by unfold slotsN; omega)
      have hbs2 : ABase w H wr l.length ((slotsN l : Nat) : Int) := by rw [HS.out]; exact hbs.out
      have hS2 : slotsN l ≤ 200 := by have := HS.out; omega
      have HTOT := Lib.hid (show sumC l l.length = totalC l from rfl)
      have HBS := Lib.hid hbs2
      have HNN := Lib.hid (show netN l (slotsN l) = 2 + l.length + slotsN l from rfl)
      clear hbs hbs2
      generalize hSS : slotsN l = S at *
      have HSS := Lib.hid hSS
      clear hSS
      obtain ⟨n, hn⟩ : ∃ n, n = 2 + l.length + S := ⟨_, rfl⟩
      have hN : (2 : Int) + (l.length : Int) + (S : Int) = (n : Int) := by omega
      have HN := Lib.hid hn
      have nI : (n : Int) ≤ 302 := by omega
      clear hn
      obtain ⟨a0, a1, a2, a3⟩ := HBS.out.var.cells
      have al := HBS.out.var.lt
      generalize sumC l l.length = TOT at *
      go_upto_region 10 with fail
      clear hN a0 a1 a2 a3
      obtain ⟨i0, hi0, hz0, hz1, hz2⟩ := info_parts info_rw
      have hmkO := run_make (P := Tryz.prog) wr 30 42 i0 _ Tryz.underlying30 hi0 hz0 .i64 .i64 n n (by omega) (by omega) (by rw [hz2]; omega) (by omega)
      simp only [Int.toNat_natCast, hz1, Value.cells, Nat.mul_one] at hmkO
      clear hi0 hz0 hz1 hz2
      go_upto_region 11 with fail
      clear hmkO
      have hrow := World.rowIs_made wr (.slice none 0 0) n 42
      have HB1 := Lib.hid (HBS.out.alloc (.cells (madeCells #[.slice none 0 0] n) 42))
      have s1 : wr.heap.size < (wr.alloc (.cells (madeCells #[.slice none 0 0] n) 42)).heap.size := by simp
      generalize wr.alloc (.cells (madeCells #[.slice none 0 0] n) 42) = w1 at *
      generalize hG : wr.heap.size = G at *
      have HGw := Lib.hid hG
      clear hG HBS
      obtain ⟨i1, hi1, hz0, hz1, hz2⟩ := info_parts info_int
      have hmkI : ∀ W : World, (Instr.makeSlice 42 (.int .i64 (n : Int)) (.int .i64 (n : Int))).run Tryz.prog W = .ok (.slice (some ⟨W.heap.size, 0, none⟩) n n) (W.alloc (.cells (madeCells #[.int .i64 0] n) 3)) := fun W => by
        have h := run_make (P := Tryz.prog) W 42 3 i1 _ Tryz.underlying42 hi1 hz0 .i64 .i64 n n (by omega) (by omega) (by rw [hz2]; omega) (by omega)
        simp only [Int.toNat_natCast, hz1, Value.cells, Nat.mul_one] at h
        exact h
      clear hi1 hz0 hz1 hz2
      go_wp2_with fail
      go_loopw [48] (fun u wr => ∃ (k : Nat) (B F C : Nat → Nat), u = .int .i64 k ∧ k ≤ n ∧ Hid (Rows1 G n k (fun _ _ => 0) wr B F C) ∧ Hid (ABase w H wr l.length S) ∧ G < wr.heap.size) (fun u _ => n - (intOf u).toNat)
      case atStart => exact ⟨0, fun _ => 0, fun _ => 0, fun _ => 0, rfl, by omega, ⟨hrow.congr (fun i _ => by simp), fun i hi => absurd hi (Nat.not_lt_zero _), fun i hi => absurd hi (Nat.not_lt_zero _), fun i hi => absurd hi (Nat.not_lt_zero _), fun i j _ hj => absurd hj (Nat.not_lt_zero _)⟩, HB1.out, s1⟩
      case round =>
        obtain ⟨k, B, F, C, rfl, hk, hrw, hbb, hsl⟩ := hrel
        clear HB1 s1 hrow
        by_cases hlt : k < n
        · have k0 : (0 : Int) ≤ (k : Int) := by omega
          have k1 : (k : Int) < (n : Int) := by omega
          have gf := (hrw.out.out.alloc (.cells (madeCells #[.int .i64 0] n) 3)).frozen k
          have gl := (hrw.out.out.alloc (.cells (madeCells #[.int .i64 0] n) 3)).cell hlt
          rw [if_neg (Nat.lt_irrefl k)] at gl
          have h4 := (hrw.out.step hlt ((Below.refl wr.heap.size wr).alloc (Nat.le_refl _) (.cells (madeCells #[.int .i64 0] n) 3)) (Nat.le_refl _) (row_new wr n) (Nat.le_refl n) (by omega))
          have b4 := (hbb.out.alloc (.cells (madeCells #[.int .i64 0] n) 3)).other (p := ⟨G, k, none⟩) al (.slice (some ⟨wr.heap.size, 0, none⟩) n n)
          have s4 : G < ((wr.alloc (.cells (madeCells #[.int .i64 0] n) 3)).setCell ⟨G, k, none⟩ (.slice (some ⟨wr.heap.size, 0, none⟩) n n)).heap.size := by simp; omega
          have sg : G < (wr.alloc (.cells (madeCells #[.int .i64 0] n) 3)).heap.size := by simp; omega
          have hcm : (wr.alloc (.cells (madeCells #[.int .i64 0] n) 3)).setCell ⟨G, k, none⟩ (.slice (some ⟨wr.heap.size, 0, none⟩) n n) = (wr.setCell ⟨G, k, none⟩ (.slice (some ⟨wr.heap.size, 0, none⟩) n n)).alloc (.cells (madeCells #[.int .i64 0] n) 3) := by simp [hsl, go_sem]
          rw [hcm] at h4 b4 s4
          have H4 := Lib.hid h4
          have B4 := Lib.hid b4
          clear h4 b4 hrw hbb hcm
          go_upto_region 15 with fail
          clear gf gl sg
          generalize (wr.setCell ⟨G, k, none⟩ (.slice (some ⟨wr.heap.size, 0, none⟩) n n)).alloc (.cells (madeCells #[.int .i64 0] n) 3) = w4 at *
          go_wp2_with fail
          go_roundw
          case rel => exact ⟨k + 1, _, _, _, by go_num, by omega, H4.out, B4.out, s4⟩
          case measure => simp [intOf]; omega
        · obtain rfl : n = k := by omega
          clear hmkI
          go_upto_region 16 with fail
          have HR0 := Lib.hid (hrw.out.congr (c' := stgJ l S cores 0) (fun i j _ _ => (stg_zero i j).symm))
          have HNEW := Lib.hid hrw.out.new
          have HBB := hbb
          have hsl0 := hsl
          clear hrw hbb hsl
          go_wp2_with fail
          go_loopw [59] (fun u wr => ∃ i : Nat, u = .int .i64 i ∧ i ≤ l.length ∧ Hid (Rows1 G n n (stgJ l S cores i) wr B F C) ∧ Hid (ABase w H wr l.length S) ∧ G < wr.heap.size) (fun u _ => l.length - (intOf u).toNat)
          case atStart => exact ⟨0, rfl, by omega, HR0.out, HBB.out, hsl0⟩
          case round =>
            obtain ⟨i, rfl, hi, hrw, hbb, hsl⟩ := hrel
            clear HR0 HBB hsl0
            have hnv := HN.out
            by_cases hlt : i < l.length
            · have k0 : (0 : Int) ≤ (i : Int) := by omega
              have k1 : (i : Int) < (l.length : Int) := by omega
              obtain ⟨b, off, rfl, hbN, hcell⟩ := hc (by intro e; simp [e] at hlt)
              obtain ⟨c0, c1, c2⟩ := hcell i _ (fjAt_get hlt)
              have hbl := hbb.out.low
              have c0 := keep_cellN hbl hbN c0
              have c1 := keep_cellN hbl hbN c1
              have c2 := keep_cellN hbl hbN c2
              have hHr := hbb.out.var.lt
              have hbr : b < wr.heap.size := by omega
              obtain ⟨j1, j2, j3, j4, j5⟩ := HJ.out i hlt
              have hdS : (fjAt l i).d ≤ (S : Int) := by have := HS.out; have := maxD_ge (l := l) hlt; omega
              have HJC := Lib.hid (fun (q : Nat) (hq : (q : Int) = (fjAt l i).r) => stg_J (l := l) (S := S) (cores := cores) hlt hq)
              have HJW := Lib.hid (fun (q : Nat) (hq : (fjAt l i).r ≤ (q : Int)) hS => stg_W (l := l) (S := S) (cores := cores) hlt hq hS)
              have HJD := Lib.hid (fun (q : Nat) (h1 : (fjAt l i).d ≤ (q : Int)) h2 h3 => stg_done (l := l) (S := S) (cores := cores) (i := i) (q := q) h1 h2 h3)
              clear hcell hbl
              generalize fjAt l i = j at *
              obtain ⟨jr, jd, jc⟩ := j
              simp only at c0 c1 c2 j1 j2 j3 j4 j5 hdS HJC HJW HJD
              obtain ⟨q0, rfl⟩ := Int.eq_ofNat_of_zero_le j1
              obtain ⟨d0, rfl⟩ := Int.eq_ofNat_of_zero_le (show 0 ≤ jd by omega)
              have jcl := Go.Deep.blk_alloc_new wr (.cells #[.int .i64 q0, .int .i64 d0, .int .i64 jc] 58)
              have hsj : wr.heap.size < (wr.alloc (.cells #[.int .i64 q0, .int .i64 d0, .int .i64 jc] 58)).heap.size := by simp
              have hbj := Lib.hid (hbb.out.alloc (.cells #[.int .i64 q0, .int .i64 d0, .int .i64 jc] 58))
              have hrj := Lib.hid (hrw.out.below ((Below.refl _ _).alloc (Nat.le_refl _) (.cells #[.int .i64 q0, .int .i64 d0, .int .i64 jc] 58)))
              have HBX := Lib.hid (fun p (hp : p < n) => (hrw.out.row p hp).lt)
              have hX : H + 1 < wr.heap.size := hHr
              clear hbb hrw
              go_upto_region 19 with fail
              generalize wr.alloc (.cells #[.int .i64 q0, .int .i64 d0, .int .i64 jc] 58) = wj at *
              generalize wr.heap.size = X at *
              obtain ⟨g0, g1, g2⟩ := blk3 jcl
              have n0 : 0 < n := by omega
              have n1 : 1 + i < n := by omega
              have gl := hrj.out.out.cell n0
              rw [if_pos n0] at gl
              have gx := (hrj.out.row 0 n0).cell n1
              have gf := (hrj.out.row 0 n0).frozen (F 0 + (1 + i))
              have gb := (hrj.out.row 0 n0).lt
              have gn := HNEW.out 0 n0
              have w1 : IntKind.i64.wrap (1 + (i : Int)) = 1 + (i : Int) := IntWalk.i64_in _ (by omega)
              have w2 : (0 : Int) ≤ 1 + (i : Int) := by omega
              have w3 : (1 : Int) + (i : Int) < (n : Int) := by omega
              have w4 : ((1 : Int) + (i : Int)).toNat = 1 + i := by omega
              have w5 : (0 : Int) < (n : Int) := by omega
              have HR1 := Lib.hid ((hrj.out.drew.setR n0 n1 jc).congr (fun p q _ _ => HJC.out q0 rfl p q))
              have HB1 := Lib.hid (hbj.out.drew.other (p := ⟨B 0, F 0 + (1 + i), none⟩) (by show H + 1 < B 0; omega) (.int .i64 jc))
              have hBX0 := HBX.out 0 n0
              have JC1 := Lib.hid ((blk_setCell_other wj.drew ⟨B 0, F 0 + (1 + i), none⟩ (.int .i64 jc) X (by show X ≠ B 0; omega)).trans (show wj.drew.heap[X]? = _ from jcl))
              have S1 : X < (wj.drew.setCell ⟨B 0, F 0 + (1 + i), none⟩ (.int .i64 jc)).heap.size := by have : X < wj.drew.heap.size := hsj; simpa using this
              clear c0 c1 c2 hbj hrj jcl HJC hnv
              have gxd : wj.drew.cell? ⟨B 0, F 0 + (1 + i), none⟩ = some _ := gx
              have gfd : wj.drew.frozen? ⟨B 0, F 0 + (1 + i), none⟩ = false := gf
              go_still_tail 8, (by kernel_rfl)
              change wpList _ _ _ _ _ wj.drew
              clear g0 g1 g2 gl gx gf w1 w2 w3 w4 w5
              generalize wj.drew = wd at *
              go_upto_region 20 with fail
              clear gxd gfd hsj
              generalize wd.setCell ⟨B 0, F 0 + (1 + i), none⟩ (.int .i64 jc) = w20 at *
              obtain ⟨g0, g1, g2⟩ := blk3 JC1.out
              go_wp2_with fail
              clear g0 g1 g2
              go_loopw [14] (fun u wq => ∃ q : Nat, u = .int .i64 q ∧ q0 ≤ q ∧ q ≤ d0 ∧ Hid (Rows1 G n n (stgW l S cores i q) wq B F C) ∧ Hid (ABase w H wq l.length S) ∧ Hid (wq.heap[X]? = some (.cells #[.int .i64 q0, .int .i64 d0, .int .i64 jc] 58 (0, 0))) ∧ G < wq.heap.size ∧ X < wq.heap.size) (fun u _ => d0 - (intOf u).toNat)
              case atStart => exact ⟨q0, rfl, by omega, by omega, HR1.out, HB1.out, JC1.out, HR1.out.out.lt, S1⟩
              case round =>
                obtain ⟨q, rfl, hq1, hq2, hrq, hbq, hjq, hgq, hxq⟩ := hrel
                clear HR1 HB1 JC1 S1
                obtain ⟨g0, g1, g2⟩ := blk3 hjq.out
                by_cases hqd : q < d0
                · have n2 : 1 + l.length + q < n := by have := HN.out; omega
                  have hqd' : (q : Int) < (d0 : Int) := by omega
                  obtain ⟨a0, a1, a2, a3⟩ := hbq.out.var.cells
                  have al2 := hbq.out.var.lt
                  have gl := hrq.out.out.cell n1
                  rw [if_pos n1] at gl
                  have gx := (hrq.out.row (1 + i) n1).cell n2
                  have gf := (hrq.out.row (1 + i) n1).frozen (F (1 + i) + (1 + l.length + q))
                  have gb := (hrq.out.row (1 + i) n1).lt
                  have gn2 := HNEW.out (1 + i) n1
                  have v1 : IntKind.i64.wrap (1 + (i : Int)) = 1 + (i : Int) := IntWalk.i64_in _ (by omega)
                  have v2 : (0 : Int) ≤ 1 + (i : Int) := by omega
                  have v3 : (1 : Int) + (i : Int) < (n : Int) := by omega
                  have v4 : ((1 : Int) + (i : Int)).toNat = 1 + i := by omega
                  have v5 : IntKind.i64.wrap (1 + (l.length : Int)) = 1 + (l.length : Int) := IntWalk.i64_in _ (by omega)
                  have v6 : IntKind.i64.wrap (1 + (l.length : Int) + (q : Int)) = 1 + (l.length : Int) + (q : Int) := IntWalk.i64_in _ (by omega)
                  have v7 : (0 : Int) ≤ 1 + (l.length : Int) + (q : Int) := by omega
                  have v8 : (1 : Int) + (l.length : Int) + (q : Int) < (n : Int) := by omega
                  have v9 : ((1 : Int) + (l.length : Int) + (q : Int)).toNat = 1 + l.length + q := by omega
                  have HR2 := Lib.hid ((hrq.out.drew.setR n1 n2 1).congr (fun p r _ _ => HJW.out q (by omega) (by omega) p r))
                  have HB2 := Lib.hid (hbq.out.drew.other (p := ⟨B (1 + i), F (1 + i) + (1 + l.length + q), none⟩) (by show H + 1 < B (1 + i); omega) (.int .i64 1))
                  have hBX1 := HBX.out (1 + i) n1
                  have JC2 := Lib.hid ((blk_setCell_other wr.drew ⟨B (1 + i), F (1 + i) + (1 + l.length + q), none⟩ (.int .i64 1) X (by show X ≠ B (1 + i); omega)).trans (show wr.drew.heap[X]? = _ from hjq.out))
                  have S2 : X < (wr.drew.setCell ⟨B (1 + i), F (1 + i) + (1 + l.length + q), none⟩ (.int .i64 1)).heap.size := by have : X < wr.drew.heap.size := hxq; simpa using this
                  have gxd : wr.drew.cell? ⟨B (1 + i), F (1 + i) + (1 + l.length + q), none⟩ = some _ := gx
                  have gfd : wr.drew.frozen? ⟨B (1 + i), F (1 + i) + (1 + l.length + q), none⟩ = false := gf
                  clear hrq hbq hjq
                  go_upto_region 23 with fail
                  go_still_tail 11, (by kernel_rfl)
                  change wpList _ _ _ _ _ wr.drew
                  clear g0 g1 g2 gl gx gf v1 v2 v3 v4 v5 v6 v7 v8 v9 a0 a1 a2 a3
                  generalize wr.drew = wd at *
                  go_upto_region 22 with fail
                  clear gxd gfd
                  generalize wd.setCell ⟨B (1 + i), F (1 + i) + (1 + l.length + q), none⟩ (.int .i64 1) = w22 at *
                  go_wp2_with fail
                  go_roundw
                  case rel => exact ⟨q + 1, by go_num, by omega, by omega, HR2.out, HB2.out, JC2.out, HR2.out.out.lt, S2⟩
                  case measure => simp [intOf]; omega
                · obtain rfl : d0 = q := by omega
                  have HR3 := Lib.hid (hrq.out.congr (fun p r _ _ => HJD.out d0 (Int.le_refl _) (by omega) (Int.le_refl _) p r))
                  clear hrq
                  go_wp2_with fail
                  go_roundw
                  case rel => exact ⟨i + 1, by go_num, by omega, HR3.out, hbq.out, hgq⟩
                  case measure => simp [intOf]; omega
            · obtain rfl : i = l.length := by omega
              have HR4 := Lib.hid (hrw.out.congr (c' := stgS l S cores 0) (fun p r _ _ => stg_all p r))
              obtain ⟨a0, a1, a2, a3⟩ := hbb.out.var.cells
              have al2 := hbb.out.var.lt
              have HB4 := hbb
              have hsl4 := hsl
              clear hrw hbb hsl
              go_wp2_with fail
              clear a0 a1 a2 a3 al2
              go_loopw [94] (fun u wr => ∃ k : Nat, u = .int .i64 k ∧ k ≤ S ∧ Hid (Rows1 G n n (stgS l S cores k) wr B F C) ∧ Hid (ABase w H wr l.length S) ∧ G < wr.heap.size) (fun u _ => S - (intOf u).toNat)
              case atStart => exact ⟨0, rfl, by omega, HR4.out, HB4.out, hsl4⟩
              case round =>
                obtain ⟨k, rfl, hk, hrk, hbk, hsk⟩ := hrel
                clear HR4 HB4 hsl4
                obtain ⟨a0, a1, a2, a3⟩ := hbk.out.var.cells
                have al2 := hbk.out.var.lt
                by_cases hks : k < S
                · have n1 : 1 + l.length + k < n := by omega
                  have n2 : 1 + l.length + S < n := by omega
                  have hks' : (k : Int) < (S : Int) := by omega
                  have gl := hrk.out.out.cell n1
                  rw [if_pos n1] at gl
                  have gx := (hrk.out.row (1 + l.length + k) n1).cell n2
                  have gf := (hrk.out.row (1 + l.length + k) n1).frozen (F (1 + l.length + k) + (1 + l.length + S))
                  have gb := (hrk.out.row (1 + l.length + k) n1).lt
                  have gn2 := HNEW.out (1 + l.length + k) n1
                  have v7 : (0 : Int) ≤ 1 + (l.length : Int) + (k : Int) := by omega
                  have v8 : (1 : Int) + (l.length : Int) + (k : Int) < (n : Int) := by omega
                  have v9 : ((1 : Int) + (l.length : Int) + (k : Int)).toNat = 1 + l.length + k := by omega
                  have v4 : ((n : Int) - 1).toNat = 1 + l.length + S := by omega
                  have v5 : (0 : Int) ≤ (n : Int) - 1 := by omega
                  have HR5 := Lib.hid ((hrk.out.setR n1 n2 cores).congr (fun p r _ _ => stg_S hks p r))
                  have HB5 := Lib.hid (hbk.out.other (p := ⟨B (1 + l.length + k), F (1 + l.length + k) + (1 + l.length + S), none⟩) (by show H + 1 < B (1 + l.length + k); omega) (.int .i64 cores))
                  clear hrk hbk hnv
                  go_upto_region 29 with fail
                  clear a0 a1 a2 a3 gl gx gf v7 v8 v9 v4 v5
                  generalize wr.setCell ⟨B (1 + l.length + k), F (1 + l.length + k) + (1 + l.length + S), none⟩ (.int .i64 cores) = w29 at *
                  go_wp2_with fail
                  go_roundw
                  case rel => exact ⟨k + 1, by go_num, by omega, HR5.out, HB5.out, HR5.out.out.lt⟩
                  case measure => simp [intOf]; omega
                · obtain rfl : S = k := by omega
                  have HM := Lib.hid ((hrk.out.congr (c' := netF l S cores) (fun p r _ _ => stg_fin p r)).mat)
                  have HB6 := Lib.hid hbk.out
                  have hCB := Lib.hid (show ∀ p q, p < n → q < n → 0 ≤ netF l S cores p q ∧ netF l S cores p q ≤ 1073741824 from fun p q _ _ => netF_bd HJ.out co1 co4 p q)
                  obtain ⟨T, hT⟩ : ∃ T, T = 1 + l.length + S := ⟨_, rfl⟩
                  have HT := Lib.hid hT
                  have SA := saturate_any n 0 T G 0 n (netF l S cores) wr (by omega) (by omega) (by omega) (by omega) (by omega) hCB.out HM.out
                  rw [show ((0 : Nat) : Int) = 0 from rfl] at SA
                  have SA := Lib.hid SA
                  have v4 : (n : Int) - 1 = (T : Int) := by omega
                  clear hrk hbk hCB hnv hT
                  go_upto_region 30 with fail
                  go_wp2_with fail
                  refine SA.out.mono ?_
                  rintro e w30 ⟨val, r, O, rfl, hb, hO, hm, hsat⟩
                  have HV := Lib.hid (HB6.out.var.of_block (hb.block _ al2))
                  have HRS := Lib.hid (HB6.out.res.of_block (hb.block _ (by omega)))
                  have HSAT := Lib.hid hsat
                  have HMT := Lib.hid hm
                  have b30 := HB6.out.low.trans (hb.mono (by omega))
                  have s30 : H + 1 < w30.heap.size := by have := hb.size; omega
                  have hGO : H + 1 < O := by omega
                  clear hm hsat hb SA v4 HB6
                  obtain ⟨a0, a1, a2, a3⟩ := HV.out.cells
                  have f2 := HV.out.frozen 2
                  have f3 := HV.out.frozen 3
                  have HV2 := Lib.hid ((HV.out.set2 (v := .bool (val == TOT))).set3 (v := .slice (some ⟨O, 0, none⟩) n n))
                  have HR2 := Lib.hid ((HRS.out.other (a := ⟨H + 1, 2, none⟩) (by show H ≠ H + 1; omega) (.bool (val == TOT))).other (a := ⟨H + 1, 3, none⟩) (by show H ≠ H + 1; omega) (.slice (some ⟨O, 0, none⟩) n n))
                  have b32 := (b30.setCell (p := ⟨H + 1, 2, none⟩) (by show H ≤ H + 1; omega) (.bool (val == TOT))).setCell (p := ⟨H + 1, 3, none⟩) (by show H ≤ H + 1; omega) (.slice (some ⟨O, 0, none⟩) n n)
                  go_upto_region 33 with fail
                  clear a0 a1 a2 a3 f2 f3
                  have HM3 := Lib.hid (((HMT.out.setLow (p := ⟨H + 1, 2, none⟩) al2 (.bool (val == TOT))).setLow (p := ⟨H + 1, 3, none⟩) al2 (.slice (some ⟨O, 0, none⟩) n n)))
                  generalize (w30.setCell ⟨H + 1, 2, none⟩ (.bool (val == TOT))).setCell ⟨H + 1, 3, none⟩ (.slice (some ⟨O, 0, none⟩) n n) = w33 at *
                  obtain ⟨a0, a1, a2, a3⟩ := HV2.out.cells
                  obtain ⟨e0, e1, e2, e3⟩ := HR2.out.cells
                  have f0 := HR2.out.frozen 0
                  have f1 := HR2.out.frozen 1
                  have f2 := HR2.out.frozen 2
                  have f3 := HR2.out.frozen 3
                  have HP := Lib.hid (show ∀ w', Below H w33 w' → MatFr w' wr.heap.size O n r → AssignPost l cores w (.returned (.agg #[.int .i64 l.length, .int .i64 S, .bool (val == TOT), .slice (some ⟨O, 0, none⟩) n n])) w' from fun w' hb' hm' => by
                    refine ⟨val, r, O, ?_, ?_, ?_, ?_⟩
                    · rw [HSS.out, HNN.out, HTOT.out, HN.out]
                    · rw [HH.out]; exact b32.trans hb'
                    · rw [HSS.out, HNN.out, ← HN.out]; exact hm'.mat
                    · rw [HSS.out, HNN.out, ← HN.out, ← HT.out]; exact HSAT.out)
                  go_wp2_with fail
                  have HR4 := HR2.out.set0 (v := .int .i64 l.length) |>.set1 (v := .int .i64 S) |>.set2 (v := .bool (val == TOT)) |>.set3 (v := .slice (some ⟨O, 0, none⟩) n n)
                  have B4 := ((((Below.refl H w33).setCell (p := ⟨H, 0, none⟩) (Nat.le_refl _) (.int .i64 l.length)).setCell (p := ⟨H, 1, none⟩) (Nat.le_refl _) (.int .i64 S)).setCell (p := ⟨H, 2, none⟩) (Nat.le_refl _) (.bool (val == TOT))).setCell (p := ⟨H, 3, none⟩) (Nat.le_refl _) (.slice (some ⟨O, 0, none⟩) n n)
                  have M4 := (((HM3.out.setLow (p := ⟨H, 0, none⟩) (by show H < _; omega) (.int .i64 l.length)).setLow (p := ⟨H, 1, none⟩) (by show H < _; omega) (.int .i64 S)).setLow (p := ⟨H, 2, none⟩) (by show H < _; omega) (.bool (val == TOT))).setLow (p := ⟨H, 3, none⟩) (by show H < _; omega) (.slice (some ⟨O, 0, none⟩) n n)
                  have HPP := Lib.hid (HP.out _ B4 M4)
                  clear HP B4 M4 e0 e1 e2 e3
                  obtain ⟨e0, e1, e2, e3⟩ := HR4.cells
                  clear HR4 a0 a1 a2 a3 f0 f1 f2 f3 HR2 HV2
                  generalize (((w33.setCell ⟨H, 0, none⟩ (.int .i64 l.length)).setCell ⟨H, 1, none⟩ (.int .i64 S)).setCell ⟨H, 2, none⟩ (.bool (val == TOT))).setCell ⟨H, 3, none⟩ (.slice (some ⟨O, 0, none⟩) n n) = w34 at *
                  exact bodyPost_ret (v := .agg #[.int .i64 l.length, .int .i64 S, .bool (val == TOT), .slice (some ⟨O, 0, none⟩) n n]) (by simp [results, Tryz.results23, go_sem, e0, e1, e2, e3]) rfl HPP.out
end Go.Proofs.YtfoadipocpopiaaGreat
