/- Rows of digits being written; the walk over bigint.sum. Conditions: the digits lie in memory. -/
import Derived.Test.YtdjpkebajcpfbaaBigM
import Derived.Deep.OwnRows
namespace Go.Proofs.Ytdjpkebajcpfbaa
open Go.RowKit Go.Deep

/-- n digits of the block b from the offset o on; the call's own. -/
def RowU (w : World) (b o n : Nat) (f : Nat → Nat) : Prop := ∃ cur : Array Value, w.heap[b]? = some (.cells cur 77 (0, 0)) ∧ o + n ≤ cur.size ∧ ∀ j, j < n → cur[o + j]? = some (.int .u32 (f j))
section
variable {w w' : World} {b o n : Nat} {f g : Nat → Nat}
theorem RowU.cell (h : RowU w b o n f) {j : Nat} (hj : j < n) : w.cell? ⟨b, o + j, none⟩ = some (.int .u32 (f j)) := by
  obtain ⟨cur, hb, _, hc⟩ := h
  simp [World.cell?, hb, hc j hj]
theorem RowU.frozen (h : RowU w b o n f) (j : Nat) : w.frozen? ⟨b, j, none⟩ = false := by
  obtain ⟨cur, hb, _, _⟩ := h
  simp [World.frozen?, hb]
theorem RowU.lt (h : RowU w b o n f) : b < w.heap.size := by
  obtain ⟨cur, hb, _, _⟩ := h
  exact (Array.getElem?_eq_some_iff.1 hb).1
theorem RowU.congr (h : RowU w b o n f) (e : ∀ j, j < n → f j = g j) : RowU w b o n g := by
  obtain ⟨cur, hb, h1, hc⟩ := h
  exact ⟨cur, hb, h1, fun j hj => by rw [hc j hj, e j hj]⟩
theorem RowU.of_block (h : RowU w b o n f) (e : w'.heap[b]? = w.heap[b]?) : RowU w' b o n f := by
  obtain ⟨cur, hb, h1, hc⟩ := h
  exact ⟨cur, e.trans hb, h1, hc⟩
theorem RowU.drewN (h : RowU w b o n f) (k : Nat) : RowU (w.drewN k) b o n f := h.of_block rfl
theorem RowU.set (h : RowU w b o n f) {j : Nat} (hj : j < n) (x : Nat) : RowU (w.setCell ⟨b, o + j, none⟩ (.int .u32 x)) b o n (updG f j x) := by
  obtain ⟨cur, hb, h1, hc⟩ := h
  refine ⟨cur.setIfInBounds (o + j) (.int .u32 x), by simp [World.setCell, Array.getElem?_modify, hb], by simpa using h1, fun k hk => ?_⟩
  rw [Array.getElem?_setIfInBounds]
  by_cases e : k = j
  · subst e
    simp [updG]; omega
  · rw [if_neg (by omega), hc k hk]
    simp [updG, e]
theorem RowU.dat (h : RowU w b o n f) : DAt w w.heap.size (some ⟨b, o, none⟩) n f := fun _ => ⟨b, o, rfl, h.lt, fun i hi => h.cell hi⟩
theorem RowU.made (w : World) (n : Nat) : RowU (w.alloc (.cells (madeCells #[.int .u32 0] n) 77)) w.heap.size 0 n (fun _ => 0) := by
  refine ⟨_, Go.Deep.blk_alloc_new _ _, by rw [size_madeCells]; simp, fun j hj => ?_⟩
  rw [Nat.zero_add]
  simp [madeCells, hj, Nat.mod_one]
end

theorem info_u32 : (Try.prog.info? 77).map (fun i => (i.zero, i.size, i.bytes)) = some (some (.int .u32 0), 1, 4) := by kernel_rfl
theorem make_u32 (n : Nat) (hn : n ≤ 100000000) (W : World) : (Instr.makeSlice 52 (.int .i64 (n : Int)) (.int .i64 (n : Int))).run Try.prog W = .ok (.slice (some ⟨W.heap.size, 0, none⟩) n n) (W.alloc (.cells (madeCells #[.int .u32 0] n) 77)) := by
  obtain ⟨i1, hi1, hz0, hz1, hz2⟩ := info_parts info_u32
  have h := run_make (P := Try.prog) W 52 77 i1 _ Try.underlying52 hi1 hz0 .i64 .i64 n n (by omega) (by omega) (by rw [hz2]; omega) (by omega)
  simp only [Int.toNat_natCast, hz1, Value.cells, Nat.mul_one] at h
  exact h

def zx (g : Nat → Nat) (m : Nat) : Nat → Nat := fun i => if i < m then g i else 0
theorem zx_lt {g : Nat → Nat} {m i : Nat} (h : i < m) : zx g m i = g i := if_pos h
theorem zx_ge {g : Nat → Nat} {m i : Nat} (h : ¬ i < m) : zx g m i = 0 := if_neg h
theorem zx_val {g : Nat → Nat} {m n : Nat} (h : m ≤ n) : vl (zx g m) n = vl g m := by
  rw [vl_more (n := m) (m := n) (fun i h1 _ => zx_ge (by omega)) h]
  exact vl_congr fun i hi => zx_lt hi
theorem zx_dg {g : Nat → Nat} {m : Nat} (h : Dg g m) (i : Nat) : zx g m i < BB := by
  unfold zx; split
  · exact h i (by assumption)
  · exact BB_pos

theorem vl_updTop {r : Nat → Nat} {k x : Nat} : vl (updG r k x) (k + 1) = vl r k + x * BB ^ k := by
  rw [vl, vl_congr (g := r) (fun i hi => by unfold updG; rw [if_neg (by omega)])]
  simp [updG]
theorem Dg.upd {r : Nat → Nat} {n k x : Nat} (h : Dg r n) (hx : x < BB) : Dg (updG r k x) n := fun i hi => by
  unfold updG; split
  · exact hx
  · exact h i hi
theorem sum_step {r f z : Nat → Nat} {k c t : Nat} (h : vl r k + c * BB ^ k = vl f k + vl z k) (ht : t = f k + c + z k) : vl (updG r k (t % BB)) (k + 1) + t / BB * BB ^ (k + 1) = vl f (k + 1) + vl z (k + 1) := by
  rw [vl_updTop, vl, vl]
  exact add_step h _ _ ht
theorem RowU.put {w : World} {b n : Nat} {f : Nat → Nat} (h : RowU w b 0 n f) {j : Nat} (hj : j < n) (x : Nat) (z : Int) (hz : z = x) : RowU (w.setCell ⟨b, j, none⟩ (.int .u32 z)) b 0 n (updG f j x) := by
  subst hz
  have := h.set hj x
  rwa [Nat.zero_add] at this
theorem ret_slice3 {a : Option Addr} {m c : Nat} : Ending.returned (.slice a m c) = .returned (.slice a m c) := rfl

set_option maxRecDepth 100000 in
set_option maxHeartbeats 6400000 in
theorem sum_any (n0 m0 : Nat) (f0 g0 : Nat → Nat) (a0 c0 : Option Addr) (cap0 cap0' : Nat) (w : World) (hn0 : n0 ≤ 100000) (hm0 : m0 ≤ 100000) (hf0 : Dg f0 n0) (hg0 : Dg g0 m0) (ha0 : DAt w w.heap.size a0 n0 f0) (hc0 : DAt w w.heap.size c0 m0 g0) :
    Calls Try.prog 57 #[.slice a0 n0 cap0, .slice c0 m0 cap0'] w fun e w' => ∃ a' m c' h, e = .returned (.slice a' m c') ∧ Nrm h m ∧ vl h m = vl f0 n0 + vl g0 m0 ∧ m ≤ n0 + m0 + 1 ∧ m ≤ c' ∧ c' ≤ 9223372036854775807 ∧ DAt w' w'.heap.size a' m h ∧ Below w.heap.size w w' := by
  have hnI0 : (n0 : Int) ≤ 100000 := by omega
  have hmI0 : (m0 : Int) ≤ 100000 := by omega
  go_enter Try.func57, Try.ntmps57
  go_upto_if 13 with fail
  go_cut [0, 1] (fun x y wx => wx = w ∧ ∃ n m f g a c cap cap', x = .slice a n cap ∧ y = .slice c m cap' ∧ m ≤ n ∧ n ≤ 100000 ∧ n + m = n0 + m0 ∧ Dg f n ∧ Dg g m ∧ DAt w w.heap.size a n f ∧ DAt w w.heap.size c m g ∧ vl f n + vl g m = vl f0 n0 + vl g0 m0)
  case first =>
    by_cases h1 : n0 < m0
    · have h1I : (n0 : Int) < (m0 : Int) := by omega
      go_wp2_with fail
      go_meet
      case rel => exact ⟨rfl, m0, n0, g0, f0, c0, a0, cap0', cap0, rfl, rfl, by omega, by omega, by omega, hg0, hf0, hc0, ha0, by omega⟩
    · have h1I : ¬ (n0 : Int) < (m0 : Int) := by omega
      go_wp2_with fail
      go_meet
      case rel => exact ⟨rfl, n0, m0, f0, g0, a0, c0, cap0, cap0', rfl, rfl, by omega, by omega, by omega, hf0, hg0, ha0, hc0, by omega⟩
  case rest =>
    obtain ⟨rfl, n, m, f, g, a, c, cap, cap', rfl, rfl, hmn, hn, hsz, hf, hg, ha, hc, hv⟩ := hcut
    have hnI : (n : Int) ≤ 100000 := by omega
    have hmI : (m : Int) ≤ (n : Int) := by omega
    have hmk := make_u32 (n + 1) (by omega)
    rw [show ((n + 1 : Nat) : Int) = (n : Int) + 1 from rfl] at hmk
    have hz := zx_val (g := g) hmn
    have hzd := fun i => zx_dg hg i
    rw [← hz] at hv
    have HV := Lib.hid hv
    have HF := Lib.hid hf
    have HZ := Lib.hid hzd
    have hb1 := (Below.refl wc.heap.size wc).alloc (Nat.le_refl _) (.cells (madeCells #[.int .u32 0] (n + 1)) 77)
    have hr1 := RowU.made wc (n + 1)
    have hnb : n ≤ n0 + m0 := by omega
    clear hv hz hf hg hzd ha0 hc0 hf0 hg0 hsz
    go_wp2_with fail
    generalize wc.alloc (.cells (madeCells #[.int .u32 0] (n + 1)) 77) = w1 at *
    go_loopw [22, 6] (fun u x wr => ∃ (k c : Nat) (r : Nat → Nat), u = .int .i64 k ∧ k ≤ n ∧ x = .int .u64 c ∧ c ≤ 1 ∧ Dg r (n + 1) ∧ RowU wr wc.heap.size 0 (n + 1) r ∧ Hid (vl r k + c * BB ^ k = vl f k + vl (zx g m) k) ∧ Below wc.heap.size wc wr) (fun u _ _ => n - (intOf u).toNat)
    case atStart => exact ⟨0, 0, fun _ => 0, rfl, by omega, rfl, by omega, fun _ _ => BB_pos, hr1, Lib.hid rfl, hb1⟩
    case round =>
      obtain ⟨k, c, r, rfl, hk, rfl, hc1, hdr, hrow, heq, hbl⟩ := hrel
      by_cases h0 : k < n
      · obtain ⟨b, off, rfl, hbN, hcell⟩ := ha (by omega)
        have x0 := keep_cellN hbl hbN (hcell k h0)
        have hbr : b < wr.heap.size := by have := hbl.size; omega
        have hgr : wc.heap.size < wr.heap.size := hrow.lt
        have gf := hrow.frozen k
        have gl := hrow.cell (j := k) (by omega)
        rw [Nat.zero_add] at gl
        have hfk := HF.out k h0
        have hBB : BB = 4294967296 := rfl
        clear hcell
        by_cases h1 : k < m
        · obtain ⟨b', off', rfl, hbN', hcell'⟩ := hc (by omega)
          have x1 := keep_cellN hbl hbN' (hcell' k h1)
          have hbr' : b' < wr.heap.size := by have := hbl.size; omega
          have hgk : zx g m k < BB := HZ.out k
          rw [zx_lt h1] at hgk
          have t1 : IntKind.u64.wrap ((f k : Int) + (c : Int)) = ((f k + c : Nat) : Int) := by rw [IntWalk.u64_in _ (by omega)]; omega
          have t2 : IntKind.u64.wrap (((f k + c : Nat) : Int) + (g k : Int)) = ((f k + c + g k : Nat) : Int) := by rw [IntWalk.u64_in _ (by omega)]; omega
          have hkm : (k : Int) < (m : Int) := by omega
          have hkn : (k : Int) < (n : Int) := by omega
          clear hcell'
          go_wp2_with fail
          go_roundw
          case rel => exact ⟨k + 1, (f k + c + g k) / BB, updG r k ((f k + c + g k) % BB), by go_num, by omega, by rw [hBB]; congr 1, by rw [hBB]; omega, hdr.upd (Nat.mod_lt _ BB_pos), hrow.put (by omega) _ _ (by rw [hBB]; omega), Lib.hid (sum_step heq.out (by rw [zx_lt h1])), hbl.setCell (Nat.le_refl _) _⟩
          case measure => simp [intOf]; omega
        · have t1 : IntKind.u64.wrap ((f k : Int) + (c : Int)) = ((f k + c : Nat) : Int) := by rw [IntWalk.u64_in _ (by omega)]; omega
          have hkm : ¬ (k : Int) < (m : Int) := by omega
          have hkn : (k : Int) < (n : Int) := by omega
          go_wp2_with fail
          go_roundw
          case rel => exact ⟨k + 1, (f k + c) / BB, updG r k ((f k + c) % BB), by go_num, by omega, by rw [hBB]; congr 1, by rw [hBB]; omega, hdr.upd (Nat.mod_lt _ BB_pos), hrow.put (by omega) _ _ (by rw [hBB]; omega), Lib.hid (sum_step heq.out (by rw [zx_ge h1]; rfl)), hbl.setCell (Nat.le_refl _) _⟩
          case measure => simp [intOf]; omega
      · obtain rfl : k = n := by omega
        have hgr : wc.heap.size < wr.heap.size := hrow.lt
        have gf := hrow.frozen k
        have gl := hrow.cell (j := k) (by omega)
        rw [Nat.zero_add] at gl
        have HV2 := Lib.hid (show vl (updG r k c) (k + 1) = vl f0 n0 + vl g0 m0 by rw [vl_updTop, heq.out]; exact HV.out)
        have HT := Lib.hid (fun W (h : RowU W wc.heap.size 0 (k + 1) (updG r k c)) => trim_any (k + 1) (updG r k c) (some ⟨wc.heap.size, 0, none⟩) (k + 1) W (by omega) (Nat.le_refl _) (by omega) (hdr.upd (by show c < 4294967296; omega)) h.dat)
        have hrow' := hrow.put (show k < k + 1 by omega) c _ rfl
        have hb2 := hbl.setCell (p := (⟨wc.heap.size, k, none⟩ : Addr)) (Nat.le_refl _) (.int .u32 c)
        have c32 : ((c : Nat) : Int) % 4294967296 = c := by omega
        have HD := Lib.hid (show Dg (updG r k c) (k + 1) from hdr.upd (by show c < 4294967296; omega))
        clear heq HV hdr hbl
        go_upto_region 15 with fail
        generalize wr.setCell ⟨wc.heap.size, k, none⟩ (.int .u32 c) = w2 at *
        go_wp2_with (go_at_call 64; refine (HT.out _ hrow').mono ?_; rintro e w3 ⟨a', m', c', rfl, h1, h2, h3, h4, _, h5⟩)
        go_ret
        exact ⟨a', m', c', _, rfl, h1.nrm HD.out, h1.val.trans HV2.out, by have := h1.1; omega, h2, h3, h4.on h5 h5.size, hb2.trans (h5.mono hb2.size)⟩
end Go.Proofs.Ytdjpkebajcpfbaa
