/- The walk over bigint.product. Conditions: the digits lie in memory. -/
import Derived.Test.YtdjpkebajcpfbaaBigSum
namespace Go.Proofs.Ytdjpkebajcpfbaa
open Go.RowKit Go.Deep

structure ProdO (n m : Nat) (f g : Nat → Nat) (i : Nat) (r : Nat → Nat) : Prop where
  dg : Dg r (n + m)
  val : vl r (n + m) = vl f i * vl g m
  zero : ∀ j, i + m ≤ j → r j = 0
structure ProdI (n m : Nat) (f g : Nat → Nat) (i j c : Nat) (r : Nat → Nat) : Prop where
  dg : Dg r (n + m)
  cy : c < BB
  val : vl r (n + m) + c * BB ^ (i + j) = vl f i * vl g m + f i * BB ^ i * vl g j
  zero : ∀ j, i + m ≤ j → r j = 0
section
variable {n m i j c t : Nat} {f g r : Nat → Nat}
theorem ProdO.start : ProdO n m f g 0 (fun _ => 0) := ⟨fun _ _ => BB_pos, by rw [vl_zero (fun _ _ => rfl)]; simp [vl], fun _ _ => rfl⟩
theorem ProdO.inner (h : ProdO n m f g i r) : ProdI n m f g i 0 0 r := ⟨h.dg, BB_pos, by rw [h.val]; simp [vl], h.zero⟩
theorem ProdI.done (h : ProdI n m f g i m c r) (hi : i < n) : ProdO n m f g (i + 1) (updG r (i + m) c) := by
  refine ⟨h.dg.upd h.cy, ?_, fun j hj => ?_⟩
  · have h1 := vl_upd (f := r) (x := c) (show i + m < n + m by omega)
    rw [h.zero (i + m) (Nat.le_refl _), Nat.zero_mul, Nat.add_zero] at h1
    rw [h1, h.val, vl, Nat.add_mul]
  · unfold updG
    rw [if_neg (by omega)]
    exact h.zero j (by omega)
theorem ProdI.step (h : ProdI n m f g i j c r) (hi : i < n) (hj : j < m) (hf : f i < BB) (hg : g j < BB) (ht : t = f i * g j + r (i + j) + c) : ProdI n m f g i (j + 1) (t / BB) (updG r (i + j) (t % BB)) := by
  refine ⟨h.dg.upd (Nat.mod_lt _ BB_pos), ?_, ?_, fun k hk => ?_⟩
  · have h1 : f i * g j ≤ 4294967295 * 4294967295 := Nat.mul_le_mul (by have : BB = 4294967296 := rfl; omega) (by have : BB = 4294967296 := rfl; omega)
    have h2 := h.dg (i + j) (by omega)
    have h3 := h.cy
    have h4 : BB = 4294967296 := rfl
    rw [h4] at h2 h3 ⊢
    omega
  · have h1 := vl_upd (f := r) (x := t % BB) (show i + j < n + m by omega)
    have h2 := carry_split t
    have h3 : (t % BB) * BB ^ (i + j) + (t / BB) * BB ^ (i + (j + 1)) = t * BB ^ (i + j) := by
      conv => rhs; rw [← h2]
      rw [← Nat.add_assoc, Nat.pow_succ, Nat.add_mul, Nat.mul_comm (BB ^ (i + j)) BB, ← Nat.mul_assoc, Nat.mul_comm (t / BB) BB]
    have h4 : t * BB ^ (i + j) = f i * g j * BB ^ (i + j) + r (i + j) * BB ^ (i + j) + c * BB ^ (i + j) := by rw [ht, Nat.add_mul, Nat.add_mul]
    have h5 := h.val
    have h6 : f i * BB ^ i * vl g (j + 1) = f i * BB ^ i * vl g j + f i * g j * BB ^ (i + j) := by
      rw [vl, Nat.mul_add, Nat.pow_add]
      congr 1
      rw [Nat.mul_assoc, Nat.mul_assoc, Nat.mul_left_comm (BB ^ i)]
    rw [h6]
    omega
  · unfold updG
    rw [if_neg (by omega)]
    exact h.zero k hk
end

set_option maxRecDepth 100000 in
set_option maxHeartbeats 6400000 in
theorem product_any (n m : Nat) (f g : Nat → Nat) (a c : Option Addr) (cap cap' : Nat) (w : World) (hn : n ≤ 100000) (hm : m ≤ 100000) (hf : Dg f n) (hg : Dg g m) (ha : DAt w w.heap.size a n f) (hc : DAt w w.heap.size c m g) :
    Calls Try.prog 56 #[.slice a n cap, .slice c m cap'] w fun e w' => ∃ a' k c' h, e = .returned (.slice a' k c') ∧ Nrm h k ∧ vl h k = vl f n * vl g m ∧ k ≤ n + m ∧ k ≤ c' ∧ c' ≤ 9223372036854775807 ∧ DAt w' w'.heap.size a' k h ∧ Below w.heap.size w w' := by
  have hnI : (n : Int) ≤ 100000 := by omega
  have hmI : (m : Int) ≤ 100000 := by omega
  by_cases n0 : n = 0
  · subst n0
    go_enter Try.func56, Try.ntmps56
    go_wp2_with fail
    go_ret
    exact ⟨none, 0, 0, fun _ => 0, rfl, Nrm.zero, by simp [vl], by omega, by omega, by omega, DAt.zero _ _ _ _, Below.refl _ _⟩
  by_cases m0 : m = 0
  · subst m0
    have n0I : ¬ (n : Int) = 0 := by omega
    go_enter Try.func56, Try.ntmps56
    go_wp2_with fail
    go_ret
    exact ⟨none, 0, 0, fun _ => 0, rfl, Nrm.zero, by simp [vl], by omega, by omega, by omega, DAt.zero _ _ _ _, Below.refl _ _⟩
  obtain ⟨b, off, rfl, hbN, hcell⟩ := ha (by omega)
  obtain ⟨b', off', rfl, hbN', hcell'⟩ := hc (by omega)
  have n0I : ¬ (n : Int) = 0 := by omega
  have m0I : ¬ (m : Int) = 0 := by omega
  have nb : ((n : Int) == 0) = false := beq_eq_false_iff_ne.2 n0I
  have mb : ((m : Int) == 0) = false := beq_eq_false_iff_ne.2 m0I
  have hmk := make_u32 (n + m) (by omega)
  rw [show ((n + m : Nat) : Int) = (n : Int) + (m : Int) by omega] at hmk
  have HF := Lib.hid hf
  have HG := Lib.hid hg
  have HC := Lib.hid hcell
  have HC' := Lib.hid hcell'
  have hb1 := (Below.refl w.heap.size w).alloc (Nat.le_refl _) (.cells (madeCells #[.int .u32 0] (n + m)) 77)
  have hr1 := RowU.made w (n + m)
  clear hf hg hcell hcell' ha hc
  go_enter Try.func56, Try.ntmps56
  go_wp2_with fail
  generalize w.alloc (.cells (madeCells #[.int .u32 0] (n + m)) 77) = w1 at *
  go_loopw [26] (fun u wr => ∃ (i : Nat) (r : Nat → Nat), u = .int .i64 i ∧ i ≤ n ∧ RowU wr w.heap.size 0 (n + m) r ∧ Hid (ProdO n m f g i r) ∧ Below w.heap.size w wr) (fun u _ => n - (intOf u).toNat)
  case atStart => exact ⟨0, _, rfl, by omega, hr1, Lib.hid ProdO.start, hb1⟩
  case round =>
    obtain ⟨i, r, rfl, hi, hrow, hpr, hbl⟩ := hrel
    clear hr1 hb1
    generalize wr = w2 at *
    by_cases h0 : i < n
    · have x0 := HC.out i h0
      have hfi := HF.out i h0
      have hin : (i : Int) < (n : Int) := by omega
      go_wp2_with fail
      go_loopw [31, 7] (fun u x wr => ∃ (j c : Nat) (r : Nat → Nat), u = .int .i64 j ∧ j ≤ m ∧ x = .int .u64 c ∧ RowU wr w.heap.size 0 (n + m) r ∧ Hid (ProdI n m f g i j c r) ∧ Below w.heap.size w wr) (fun u _ _ => m - (intOf u).toNat)
      case atStart => exact ⟨0, 0, r, rfl, by omega, rfl, hrow, Lib.hid hpr.out.inner, hbl⟩
      case round =>
        clear hrow hpr hbl r
        obtain ⟨j, c, r, rfl, hj, rfl, hrow, hpr, hbl⟩ := hrel
        have hBB : BB = 4294967296 := rfl
        by_cases h1 : j < m
        · have x0 := keep_cellN hbl hbN x0
          have x1 := keep_cellN hbl hbN' (HC'.out j h1)
          have hgj := HG.out j h1
          have hbr : b < wr.heap.size := by have := hbl.size; omega
          have hbr' : b' < wr.heap.size := by have := hbl.size; omega
          have hgr : w.heap.size < wr.heap.size := hrow.lt
          have gf := hrow.frozen (i + j)
          have gl := hrow.cell (j := i + j) (by omega)
          rw [Nat.zero_add] at gl
          have hc1 := hpr.out.cy
          have hr1 := hpr.out.dg (i + j) (by omega)
          have hS := Lib.hid (fun t ht => hpr.out.step (t := t) h0 h1 hfi hgj ht)
          have hP1 : f i * g j ≤ 4294967295 * 4294967295 := Nat.mul_le_mul (by omega) (by omega)
          have t1 : (f i : Int) * (g j : Int) = ((f i * g j : Nat) : Int) := (Int.natCast_mul _ _).symm
          generalize f i * g j = P at *
          generalize f i = fi at *
          generalize g j = gj at *
          have tw : IntKind.u64.wrap ((fi : Int) * (gj : Int)) = (P : Int) := by rw [t1]; exact IntWalk.u64_in _ (by omega)
          have ij : ((i : Int) + (j : Int)) = ((i + j : Nat) : Int) := by omega
          have hjm : (j : Int) < (m : Int) := by omega
          have ijn : ((i + j : Nat) : Int) < (n : Int) + (m : Int) := by omega
          have HRP := Lib.hid (fun (q x : Nat) (z : Int) (hz : z = ((x : Nat) : Int)) => (hrow.drewN q).put (show i + j < n + m by omega) x z hz)
          clear t1
          generalize r (i + j) = rij at *
          generalize i + j = p at *
          go_upto_region 11 with fail
          go_quiet (fail)
          go_wp2_with fail
          go_roundw
          case rel => exact ⟨j + 1, (P + rij + c) / BB, updG r p ((P + rij + c) % BB), by go_num, by omega, by rw [hBB]; congr 1, HRP.out _ _ _ (by rw [hBB]; omega), Lib.hid (hS.out _ rfl), (below_drewN hbl _).setCell (Nat.le_refl _) _⟩
          case measure => simp [intOf]; omega
        · obtain rfl : j = m := by omega
          have hgr : w.heap.size < wr.heap.size := hrow.lt
          have gf := hrow.frozen (i + j)
          have gl := hrow.cell (j := i + j) (by omega)
          rw [Nat.zero_add] at gl
          have ij : ((i : Int) + (j : Int)) = ((i + j : Nat) : Int) := by omega
          have ijn : ((i + j : Nat) : Int) < (n : Int) + (j : Int) := by omega
          have hc1 := hpr.out.cy
          have hO := Lib.hid (hpr.out.done h0)
          have HRP := Lib.hid (fun (z : Int) (hz : z = ((c : Nat) : Int)) => hrow.put (show i + j < n + j by omega) c z hz)
          clear hpr
          generalize r (i + j) = rij at *
          generalize i + j = p at *
          go_wp2_with fail
          go_roundw
          case rel => exact ⟨i + 1, _, by go_num, by omega, HRP.out _ (by omega), hO, hbl.setCell (Nat.le_refl _) _⟩
          case measure => simp [intOf]; omega
    · obtain rfl : i = n := by omega
      have HD := Lib.hid hpr.out.dg
      have HV := Lib.hid hpr.out.val
      have HT := Lib.hid (trim_any (i + m) r (some ⟨w.heap.size, 0, none⟩) (i + m) w2 (by omega) (Nat.le_refl _) (by omega) HD.out hrow.dat)
      have im : ((i + m : Nat) : Int) = (i : Int) + (m : Int) := by omega
      clear hpr
      go_wp2_with (go_at_call 64; refine (HT.out).mono ?_; rintro e w3 ⟨a', m', c', rfl, h1, h2, h3, h4, _, h5⟩)
      go_ret
      exact ⟨a', m', c', _, rfl, h1.nrm HD.out, h1.val.trans HV.out, h1.1, h2, h3, h4.on h5 h5.size, hbl.trans (h5.mono hbl.size)⟩
end Go.Proofs.Ytdjpkebajcpfbaa
