/- Several texts in one: Rows of digits being written; the walk over bigint.sum. Conditions: the digits lie in memory. The walk over bigint.divideSmall. Conditions: the digits lie in memory. -/
import Derived.Test.YtfoadipocpopiaaGreatBigM
import Derived.Deep.OwnRows
import Derived.Laws.Bits64b
namespace Go.Proofs.YtfoadipocpopiaaGreat
section
open Go.RowKit Go.Deep

/-- n digits of the block b from the offset o on; the call's own. -/
def RowU (w : World) (b o n : Nat) (f : Nat → Nat) : Prop := ∃ cur : Array Value, w.heap[b]? = some (.cells cur 108 (0, 0)) ∧ o + n ≤ cur.size ∧ ∀ j, j < n → cur[o + j]? = some (.int .u32 (f j))
section
variable {w w' : World} {b o n : Nat} {f g : Nat → Nat}
theorem RowU.cell (h : RowU w b o n f) {j : Nat} (hj : j < n) : w.cell? ⟨b, o + j, none⟩ = some (.int .u32 (f j)) := by
  obtain ⟨cur, hb, _, hc⟩ := h
  simp [World.cell?, hb, hc j hj]
theorem RowU.frozen (h : RowU w b o n f) (j : Nat) : w.frozen? ⟨b, j, none⟩ = false := by
  obtain ⟨cur, hb, _, _⟩ := h
  simp [World.frozen?, hb]
theorem RowU.lt (h : RowU w b o n f) : b < w.heap.size := by
  obtain ⟨cur, hb, _, _⟩ := h
  exact (Array.getElem?_eq_some_iff.1 hb).1
theorem RowU.congr (h : RowU w b o n f) (e : ∀ j, j < n → f j = g j) : RowU w b o n g := by
  obtain ⟨cur, hb, h1, hc⟩ := h
  exact ⟨cur, hb, h1, fun j hj => by rw [hc j hj, e j hj]⟩
theorem RowU.of_block (h : RowU w b o n f) (e : w'.heap[b]? = w.heap[b]?) : RowU w' b o n f := by
  obtain ⟨cur, hb, h1, hc⟩ := h
  exact ⟨cur, e.trans hb, h1, hc⟩
theorem RowU.drewN (h : RowU w b o n f) (k : Nat) : RowU (w.drewN k) b o n f := h.of_block rfl
theorem RowU.set (h : RowU w b o n f) {j : Nat} (hj : j < n) (x : Nat) : RowU (w.setCell ⟨b, o + j, none⟩ (.int .u32 x)) b o n (updG f j x) := by
  obtain ⟨cur, hb, h1, hc⟩ := h
  refine ⟨cur.setIfInBounds (o + j) (.int .u32 x), by simp [World.setCell, Array.getElem?_modify, hb], by simpa using h1, fun k hk => ?_⟩
  rw [Array.getElem?_setIfInBounds]
  by_cases e : k = j
  · subst e
    simp [updG]; omega
  · rw [if_neg (by omega), hc k hk]
    simp [updG, e]
theorem RowU.dat (h : RowU w b o n f) : DAt w w.heap.size (some ⟨b, o, none⟩) n f := fun _ => ⟨b, o, rfl, h.lt, fun i hi => h.cell hi⟩
theorem RowU.made (w : World) (n : Nat) : RowU (w.alloc (.cells (madeCells #[.int .u32 0] n) 108)) w.heap.size 0 n (fun _ => 0) := by
  refine ⟨_, Go.Deep.blk_alloc_new _ _, by rw [size_madeCells]; simp, fun j hj => ?_⟩
  rw [Nat.zero_add]
  simp [madeCells, hj, Nat.mod_one]
end

theorem info_u32 : (Tryz.prog.info? 108).map (fun i => (i.zero, i.size, i.bytes)) = some (some (.int .u32 0), 1, 4) := by kernel_rfl
theorem make_u32 (n : Nat) (hn : n ≤ 100000000) (W : World) : (Instr.makeSlice 46 (.int .i64 (n : Int)) (.int .i64 (n : Int))).run Tryz.prog W = .ok (.slice (some ⟨W.heap.size, 0, none⟩) n n) (W.alloc (.cells (madeCells #[.int .u32 0] n) 108)) := by
  obtain ⟨i1, hi1, hz0, hz1, hz2⟩ := info_parts info_u32
  have h := run_make (P := Tryz.prog) W 46 108 i1 _ Tryz.underlying46 hi1 hz0 .i64 .i64 n n (by omega) (by omega) (by rw [hz2]; omega) (by omega)
  simp only [Int.toNat_natCast, hz1, Value.cells, Nat.mul_one] at h
  exact h

def zx (g : Nat → Nat) (m : Nat) : Nat → Nat := fun i => if i < m then g i else 0
theorem zx_lt {g : Nat → Nat} {m i : Nat} (h : i < m) : zx g m i = g i := if_pos h
theorem zx_ge {g : Nat → Nat} {m i : Nat} (h : ¬ i < m) : zx g m i = 0 := if_neg h
theorem zx_val {g : Nat → Nat} {m n : Nat} (h : m ≤ n) : vl (zx g m) n = vl g m := by
  rw [vl_more (n := m) (m := n) (fun i h1 _ => zx_ge (by omega)) h]
  exact vl_congr fun i hi => zx_lt hi
theorem zx_dg {g : Nat → Nat} {m : Nat} (h : Dg g m) (i : Nat) : zx g m i < BB := by
  unfold zx; split
  · exact h i (by assumption)
  · exact BB_pos

theorem vl_updTop {r : Nat → Nat} {k x : Nat} : vl (updG r k x) (k + 1) = vl r k + x * BB ^ k := by
  rw [vl, vl_congr (g := r) (fun i hi => by unfold updG; rw [if_neg (by omega)])]
  simp [updG]
theorem Dg.upd {r : Nat → Nat} {n k x : Nat} (h : Dg r n) (hx : x < BB) : Dg (updG r k x) n := fun i hi => by
  unfold updG; split
  · exact hx
  · exact h i hi
theorem sum_step {r f z : Nat → Nat} {k c t : Nat} (h : vl r k + c * BB ^ k = vl f k + vl z k) (ht : t = f k + c + z k) : vl (updG r k (t % BB)) (k + 1) + t / BB * BB ^ (k + 1) = vl f (k + 1) + vl z (k + 1) := by
  rw [vl_updTop, vl, vl]
  exact add_step h _ _ ht
theorem RowU.put {w : World} {b n : Nat} {f : Nat → Nat} (h : RowU w b 0 n f) {j : Nat} (hj : j < n) (x : Nat) (z : Int) (hz : z = x) : RowU (w.setCell ⟨b, j, none⟩ (.int .u32 z)) b 0 n (updG f j x) := by
  subst hz
  have := h.set hj x
  rwa [Nat.zero_add] at this
theorem ret_slice3 {a : Option Addr} {m c : Nat} : Ending.returned (.slice a m c) = .returned (.slice a m c) := rfl

set_option maxRecDepth 100000 in
set_option maxHeartbeats 6400000 in
theorem sum_any (n0 m0 : Nat) (f0 g0 : Nat → Nat) (a0 c0 : Option Addr) (cap0 cap0' : Nat) (w : World) (hn0 : n0 ≤ 100000) (hm0 : m0 ≤ 100000) (hf0 : Dg f0 n0) (hg0 : Dg g0 m0) (ha0 : DAt w w.heap.size a0 n0 f0) (hc0 : DAt w w.heap.size c0 m0 g0) :
    Calls Tryz.prog 53 #[.slice a0 n0 cap0, .slice c0 m0 cap0'] w fun e w' => ∃ a' m c' h, e = .returned (.slice a' m c') ∧ Nrm h m ∧ vl h m = vl f0 n0 + vl g0 m0 ∧ m ≤ n0 + m0 + 1 ∧ m ≤ c' ∧ c' ≤ 9223372036854775807 ∧ DAt w' w'.heap.size a' m h ∧ Below w.heap.size w w' := by
  have hnI0 : (n0 : Int) ≤ 100000 := by omega
  have hmI0 : (m0 : Int) ≤ 100000 := by omega
  go_enter Tryz.func53, Tryz.ntmps53
  go_upto_if 13 with fail
  go_cut [0, 1] (fun x y wx => wx = w ∧ ∃ n m f g a c cap cap', x = .slice a n cap ∧ y = .slice c m cap' ∧ m ≤ n ∧ n ≤ 100000 ∧ n + m = n0 + m0 ∧ Dg f n ∧ Dg g m ∧ DAt w w.heap.size a n f ∧ DAt w w.heap.size c m g ∧ vl f n + vl g m = vl f0 n0 + vl g0 m0)
  case first =>
    by_cases h1 : n0 < m0
    · have h1I : (n0 : Int) < (m0 : Int) := by omega
      go_wp2_with fail
      go_meet
      case rel => exact ⟨rfl, m0, n0, g0, f0, c0, a0, cap0', cap0, rfl, rfl, by omega, by omega, by omega, hg0, hf0, hc0, ha0, by omega⟩
    · have h1I : ¬ (n0 : Int) < (m0 : Int) := by omega
      go_wp2_with fail
      go_meet
      case rel => exact ⟨rfl, n0, m0, f0, g0, a0, c0, cap0, cap0', rfl, rfl, by omega, by omega, by omega, hf0, hg0, ha0, hc0, by omega⟩
  case rest =>
    obtain ⟨rfl, n, m, f, g, a, c, cap, cap', rfl, rfl, hmn, hn, hsz, hf, hg, ha, hc, hv⟩ := hcut
    have hnI : (n : Int) ≤ 100000 := by omega
    have hmI : (m : Int) ≤ (n : Int) := by omega
    have hmk := make_u32 (n + 1) (by omega)
    rw [show ((n + 1 : Nat) : Int) = (n : Int) + 1 from rfl] at hmk
    have hz := zx_val (g := g) hmn
    have hzd := fun i => zx_dg hg i
    rw [← hz] at hv
    have HV := Lib.hid hv
    have HF := Lib.hid hf
    have HZ := Lib.hid hzd
    have hb1 := (Below.refl wc.heap.size wc).alloc (Nat.le_refl _) (.cells (madeCells #[.int .u32 0] (n + 1)) 108)
    have hr1 := RowU.made wc (n + 1)
    have hnb : n ≤ n0 + m0 := by omega
    clear hv hz hf hg hzd ha0 hc0 hf0 hg0 hsz
    go_wp2_with fail
    generalize wc.alloc (.cells (madeCells #[.int .u32 0] (n + 1)) 108) = w1 at *
    go_loopw [22, 6] (fun u x wr => ∃ (k c : Nat) (r : Nat → Nat), u = .int .i64 k ∧ k ≤ n ∧ x = .int .u64 c ∧ c ≤ 1 ∧ Dg r (n + 1) ∧ RowU wr wc.heap.size 0 (n + 1) r ∧ Hid (vl r k + c * BB ^ k = vl f k + vl (zx g m) k) ∧ Below wc.heap.size wc wr) (fun u _ _ => n - (intOf u).toNat)
    case atStart => exact ⟨0, 0, fun _ => 0, rfl, by omega, rfl, by omega, fun _ _ => BB_pos, hr1, Lib.hid rfl, hb1⟩
    case round =>
      obtain ⟨k, c, r, rfl, hk, rfl, hc1, hdr, hrow, heq, hbl⟩ := hrel
      by_cases h0 : k < n
      · obtain ⟨b, off, rfl, hbN, hcell⟩ := ha (by omega)
        have x0 := keep_cellN hbl hbN (hcell k h0)
        have hbr : b < wr.heap.size := by have := hbl.size; omega
        have hgr : wc.heap.size < wr.heap.size := hrow.lt
        have gf := hrow.frozen k
        have gl := hrow.cell (j := k) (by omega)
        rw [Nat.zero_add] at gl
        have hfk := HF.out k h0
        have hBB : BB = 4294967296 := rfl
        clear hcell
        by_cases h1 : k < m
        · obtain ⟨b', off', rfl, hbN', hcell'⟩ := hc (by omega)
          have x1 := keep_cellN hbl hbN' (hcell' k h1)
          have hbr' : b' < wr.heap.size := by have := hbl.size; omega
          have hgk : zx g m k < BB := HZ.out k
          rw [zx_lt h1] at hgk
          have t1 : IntKind.u64.wrap ((f k : Int) + (c : Int)) = ((f k + c : Nat) : Int) := by rw [IntWalk.u64_in _ (by omega)]; omega
          have t2 : IntKind.u64.wrap (((f k + c : Nat) : Int) + (g k : Int)) = ((f k + c + g k : Nat) : Int) := by rw [IntWalk.u64_in _ (by omega)]; omega
          have hkm : (k : Int) < (m : Int) := by omega
          have hkn : (k : Int) < (n : Int) := by omega
          clear hcell'
          go_wp2_with fail
          go_roundw
          case rel => exact ⟨k + 1, (f k + c + g k) / BB, updG r k ((f k + c + g k) % BB), by go_num, by omega, by rw [hBB]; congr 1, by rw [hBB]; omega, hdr.upd (Nat.mod_lt _ BB_pos), hrow.put (by omega) _ _ (by rw [hBB]; omega), Lib.hid (sum_step heq.out (by rw [zx_lt h1])), hbl.setCell (Nat.le_refl _) _⟩
          case measure => simp [intOf]; omega
        · have t1 : IntKind.u64.wrap ((f k : Int) + (c : Int)) = ((f k + c : Nat) : Int) := by rw [IntWalk.u64_in _ (by omega)]; omega
          have hkm : ¬ (k : Int) < (m : Int) := by omega
          have hkn : (k : Int) < (n : Int) := by omega
          go_wp2_with fail
          go_roundw
          case rel => exact ⟨k + 1, (f k + c) / BB, updG r k ((f k + c) % BB), by go_num, by omega, by rw [hBB]; congr 1, by rw [hBB]; omega, hdr.upd (Nat.mod_lt _ BB_pos), hrow.put (by omega) _ _ (by rw [hBB]; omega), Lib.hid (sum_step heq.out (by rw [zx_ge h1]; rfl)), hbl.setCell (Nat.le_refl _) _⟩
          case measure => simp [intOf]; omega
      · obtain rfl : k = n := by omega
        have hgr : wc.heap.size < wr.heap.size := hrow.lt
        have gf := hrow.frozen k
        have gl := hrow.cell (j := k) (by omega)
        rw [Nat.zero_add] at gl
        have HV2 := Lib.hid (show vl (updG r k c) (k + 1) = vl f0 n0 + vl g0 m0 by rw [vl_updTop, heq.out]; exact HV.out)
        have HT := Lib.hid (fun W (h : RowU W wc.heap.size 0 (k + 1) (updG r k c)) => trim_any (k + 1) (updG r k c) (some ⟨wc.heap.size, 0, none⟩) (k + 1) W (by omega) (Nat.le_refl _) (by omega) (hdr.upd (by show c < 4294967296; omega)) h.dat)
        have hrow' := hrow.put (show k < k + 1 by omega) c _ rfl
        have hb2 := hbl.setCell (p := (⟨wc.heap.size, k, none⟩ : Addr)) (Nat.le_refl _) (.int .u32 c)
        have c32 : ((c : Nat) : Int) % 4294967296 = c := by omega
        have HD := Lib.hid (show Dg (updG r k c) (k + 1) from hdr.upd (by show c < 4294967296; omega))
        clear heq HV hdr hbl
        go_upto_region 15 with fail
        generalize wr.setCell ⟨wc.heap.size, k, none⟩ (.int .u32 c) = w2 at *
        go_wp2_with (go_at_call 83; refine (HT.out _ hrow').mono ?_; rintro e w3 ⟨a', m', c', rfl, h1, h2, h3, h4, _, h5⟩)
        go_ret
        exact ⟨a', m', c', _, rfl, h1.nrm HD.out, h1.val.trans HV2.out, by have := h1.1; omega, h2, h3, h4.on h5 h5.size, hb2.trans (h5.mono hb2.size)⟩
end

section
open Go.RowKit Go.Deep

structure DivS (n b : Nat) (f : Nat → Nat) (j rem : Nat) (q : Nat → Nat) : Prop where
  dg : Dg q n
  rm : rem < b
  val : vl f n = vl f j + b * vl q n + rem * BB ^ j
  zero : ∀ i, i < j → q i = 0
section
variable {n b j rem t : Nat} {f q : Nat → Nat}
theorem DivS.start (hb : 0 < b) : DivS n b f n 0 (fun _ => 0) := ⟨fun _ _ => BB_pos, hb, by rw [vl_zero (f := fun _ => 0) (fun _ _ => rfl)]; simp, fun _ _ => rfl⟩
theorem DivS.lt (h : DivS n b f (j + 1) rem q) (hj : j < n) (hf : Dg f n) : rem * BB + f j < b * BB := by
  have h1 := h.rm
  have h2 := hf j hj
  have h3 : (rem + 1) * BB ≤ b * BB := Nat.mul_le_mul_right _ h1
  rw [Nat.add_mul, Nat.one_mul] at h3
  omega
theorem DivS.step (h : DivS n b f (j + 1) rem q) (hj : j < n) (hb : 0 < b) (hf : Dg f n) (ht : t = rem * BB + f j) : DivS n b f j (t % b) (updG q j (t / b)) := by
  have hl := h.lt hj hf
  rw [← ht] at hl
  refine ⟨h.dg.upd (Nat.div_lt_of_lt_mul hl), Nat.mod_lt _ hb, ?_, fun i hi => ?_⟩
  · have h1 := vl_upd (f := q) (x := t / b) hj
    rw [h.zero j (by omega), Nat.zero_mul, Nat.add_zero] at h1
    have h2 : b * (t / b) + t % b = t := Nat.div_add_mod t b
    have h3 := h.val
    have h4 : t * BB ^ j = rem * BB ^ (j + 1) + f j * BB ^ j := by rw [ht, Nat.add_mul, Nat.pow_succ, Nat.mul_assoc, Nat.mul_comm BB]
    have h5 : t * BB ^ j = b * (t / b * BB ^ j) + t % b * BB ^ j := by
      conv => lhs; rw [← h2]
      rw [Nat.add_mul, Nat.mul_assoc]
    rw [h1, Nat.mul_add]
    rw [vl] at h3
    omega
  · unfold updG
    rw [if_neg (by omega)]
    exact h.zero i (by omega)
end

theorem u64_nat (q : Nat) (h : q ≤ 18446744073709551615) : IntKind.u64.wrap (q : Int) = q := IntWalk.u64_in _ (by omega)
theorem or_shl (a b : Nat) (ha : a < BB) (hb : b < BB) : bits .or .u64 ((a : Int) * 4294967296) (b : Int) = ((a * BB + b : Nat) : Int) := by
  have hBB : BB = 4294967296 := rfl
  have h := bits_or_u64_nat (a * 4294967296) b (by omega) (by omega)
  rw [Int.natCast_mul] at h
  have h2 := Nat.two_pow_add_eq_or_of_lt (i := 32) (b := b) (by omega) a
  rw [show ((4294967296 : Nat) : Int) = 4294967296 from rfl] at h
  rw [h, hBB, Nat.mul_comm a, show (4294967296 : Nat) = 2 ^ 32 from rfl, h2]

set_option maxRecDepth 100000 in
set_option maxHeartbeats 6400000 in
theorem divideSmall_any (n d : Nat) (f : Nat → Nat) (a : Option Addr) (cap : Nat) (w : World) (hn : n ≤ 100000) (hd0 : 0 < d) (hd : d < BB) (hf : Dg f n) (ha : DAt w w.heap.size a n f) :
    Calls Tryz.prog 97 #[.slice a n cap, .int .u64 d] w fun e w' => ∃ a' k c' h, e = .returned (.tuple #[.slice a' k c', .int .u64 ((vl f n % d : Nat) : Int)]) ∧ Nrm h k ∧ vl h k = vl f n / d ∧ k ≤ n ∧ k ≤ c' ∧ c' ≤ 9223372036854775807 ∧ DAt w' w'.heap.size a' k h ∧ Below w.heap.size w w' := by
  have hnI : (n : Int) ≤ 100000 := by omega
  have hBB : BB = 4294967296 := rfl
  have hmk := make_u32 n (by omega)
  have HF := Lib.hid hf
  have HA := Lib.hid ha
  have hb1 := (Below.refl w.heap.size w).alloc (Nat.le_refl _) (.cells (madeCells #[.int .u32 0] n) 108)
  have hr1 := RowU.made w n
  clear hf ha
  go_enter Tryz.func97, Tryz.ntmps97
  go_wp2_with fail
  generalize w.alloc (.cells (madeCells #[.int .u32 0] n) 108) = w1 at *
  go_loopw [15, 5] (fun u x wr => ∃ (k rem : Nat) (q : Nat → Nat), u = .int .i64 k ∧ k ≤ n ∧ x = .int .u64 rem ∧ RowU wr w.heap.size 0 n q ∧ Hid (DivS n d f (n - k) rem q) ∧ Below w.heap.size w wr) (fun u _ _ => n - (intOf u).toNat)
  case atStart => exact ⟨0, 0, _, rfl, by omega, rfl, hr1, Lib.hid (DivS.start hd0), hb1⟩
  case round =>
    obtain ⟨k, rem, q, rfl, hk, rfl, hrow, hpr, hbl⟩ := hrel
    clear hr1 hb1
    by_cases h0 : k < n
    · obtain ⟨j, hj⟩ : ∃ j, n = j + 1 + k := ⟨n - 1 - k, by omega⟩
      have hpr := hpr.out
      rw [show n - k = j + 1 by omega] at hpr
      obtain ⟨b, off, rfl, hbN, hcell⟩ := HA.out (by omega)
      have x0 := keep_cellN hbl hbN (hcell j (by omega))
      have hfj := HF.out j (by omega)
      have hbr : b < wr.heap.size := by have := hbl.size; omega
      have hgr : w.heap.size < wr.heap.size := hrow.lt
      have gf := hrow.frozen j
      have gl := hrow.cell (j := j) (by omega)
      rw [Nat.zero_add] at gl
      have hrd := hpr.rm
      have hl := hpr.lt (show j < n by omega) HF.out
      have hS := Lib.hid (hpr.step (show j < n by omega) hd0 HF.out rfl)
      have HRP := Lib.hid (fun (x : Nat) (z : Int) (hz : z = ((x : Nat) : Int)) => hrow.put (show j < n by omega) x z hz)
      have k0 : (n : Int) - 1 - (k : Int) = (j : Int) := by omega
      have k1 : (j : Int) < (n : Int) := by omega
      have k2 : (k : Int) < (n : Int) := by omega
      have HM := Lib.hid (show n - (k + 1) = j by omega)
      clear hcell hj hpr hrow
      generalize f j = fj at *
      generalize q j = qj at *
      have hor := or_shl rem fj (by omega) hfj
      have hT2 : (rem * BB + fj) / d < BB := Nat.div_lt_of_lt_mul hl
      have hT3 : (rem * BB + fj) % d < d := Nat.mod_lt _ hd0
      have hTB : rem * BB + fj ≤ 18446744073709551615 := by rw [hBB]; omega
      have hq : IntKind.u64.wrap (((rem * BB + fj : Nat) : Int).tdiv (d : Int)) = (((rem * BB + fj) / d : Nat) : Int) := by
        rw [IntWalk.u64_quo _ _ (by omega)]; omega
      have hr : ((rem * BB + fj : Nat) : Int).tmod (d : Int) = (((rem * BB + fj) % d : Nat) : Int) := by
        rw [Int.tmod_eq_emod_of_nonneg (by omega)]; omega
      have hq2 : IntKind.u64.wrap (((rem * BB + fj : Nat) : Int) / (d : Int)) = (((rem * BB + fj) / d : Nat) : Int) := by
        rw [← Int.natCast_ediv]; exact u64_nat _ (by omega)
      have hr2 : ((rem * BB + fj : Nat) : Int) % (d : Int) = (((rem * BB + fj) % d : Nat) : Int) := by omega
      have hd0I : ¬ (d : Int) = 0 := by omega
      clear hl
      generalize rem * BB + fj = T at *
      generalize T / d = Q at *
      generalize T % d = R at *
      go_wp2_with fail
      go_roundw
      case rel => exact ⟨k + 1, R, updG q j Q, by go_num, by omega, rfl, HRP.out _ _ (by omega), Lib.hid (by rw [HM.out]; exact hS.out), hbl.setCell (Nat.le_refl _) _⟩
      case measure => simp [intOf]; omega
    · obtain rfl : k = n := by omega
      have hpr := hpr.out
      rw [Nat.sub_self] at hpr
      have hv := hpr.val
      rw [vl, Nat.pow_zero, Nat.zero_add, Nat.mul_one] at hv
      have h1 : vl f k / d = vl q k := by rw [hv, Nat.add_comm, Nat.add_mul_div_left _ _ hd0, Nat.div_eq_of_lt hpr.rm, Nat.zero_add]
      have h2 : vl f k % d = rem := by rw [hv, Nat.add_comm, Nat.add_mul_mod_self_left, Nat.mod_eq_of_lt hpr.rm]
      have HD := Lib.hid hpr.dg
      have HV := Lib.hid h1
      have HR := Lib.hid h2
      have HT := Lib.hid (trim_any k q (some ⟨w.heap.size, 0, none⟩) k wr (by omega) (Nat.le_refl _) (by omega) HD.out hrow.dat)
      clear hpr hv h1 h2
      go_wp2_with (go_at_call 83; refine (HT.out).mono ?_; rintro e w3 ⟨a', m', c', rfl, h1, h2, h3, h4, _, h5⟩)
      go_ret2
      exact ⟨a', m', c', q, by rw [HR.out]; rfl, h1.nrm HD.out, h1.val.trans HV.out.symm, h1.1, h2, h3, h4.on h5 h5.size, hbl.trans (h5.mono hbl.size)⟩
end
end Go.Proofs.YtfoadipocpopiaaGreat
