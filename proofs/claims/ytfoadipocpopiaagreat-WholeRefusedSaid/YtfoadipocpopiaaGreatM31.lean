/- Several texts in one: The walk over bigint.product. Conditions: the digits lie in memory. Integers of any size in memory; the walks over bigint.signed, Of, Sign, Neg. Conditions: the digits lie in memory. -/
import Derived.Test.YtfoadipocpopiaaGreatM23
namespace Go.Proofs.YtfoadipocpopiaaGreat
section
open Go.RowKit Go.Deep

structure ProdO (n m : Nat) (f g : Nat → Nat) (i : Nat) (r : Nat → Nat) : Prop where
  dg : Dg r (n + m)
  val : vl r (n + m) = vl f i * vl g m
  zero : ∀ j, i + m ≤ j → r j = 0
structure ProdI (n m : Nat) (f g : Nat → Nat) (i j c : Nat) (r : Nat → Nat) : Prop where
  dg : Dg r (n + m)
  cy : c < BB
  val : vl r (n + m) + c * BB ^ (i + j) = vl f i * vl g m + f i * BB ^ i * vl g j
  zero : ∀ j, i + m ≤ j → r j = 0
section
variable {n m i j c t : Nat} {f g r : Nat → Nat}
theorem ProdO.start : ProdO n m f g 0 (fun _ => 0) := ⟨fun _ _ => BB_pos, by rw [vl_zero (fun _ _ => rfl)]; simp [vl], fun _ _ => rfl⟩
theorem ProdO.inner (h : ProdO n m f g i r) : ProdI n m f g i 0 0 r := ⟨h.dg, BB_pos, by rw [h.val]; simp [vl], h.zero⟩
theorem ProdI.done (h : ProdI n m f g i m c r) (hi : i < n) : ProdO n m f g (i + 1) (updG r (i + m) c) := by
  refine ⟨h.dg.upd h.cy, ?_, fun j hj => ?_⟩
  · have h1 := vl_upd (f := r) (x := c) (show i + m < n + m by omega)
    rw [h.zero (i + m) (Nat.le_refl _), Nat.zero_mul, Nat.add_zero] at h1
    rw [h1, h.val, vl, Nat.add_mul]
  · unfold updG
    rw [if_neg (by omega)]
    exact h.zero j (by omega)
theorem ProdI.step (h : ProdI n m f g i j c r) (hi : i < n) (hj : j < m) (hf : f i < BB) (hg : g j < BB) (ht : t = f i * g j + r (i + j) + c) : ProdI n m f g i (j + 1) (t / BB) (updG r (i + j) (t % BB)) := by
  refine ⟨h.dg.upd (Nat.mod_lt _ BB_pos), ?_, ?_, fun k hk => ?_⟩
  · have h1 : f i * g j ≤ 4294967295 * 4294967295 := Nat.mul_le_mul (by have : BB = 4294967296 := rfl; omega) (by have : BB = 4294967296 := rfl; omega)
    have h2 := h.dg (i + j) (by omega)
    have h3 := h.cy
    have h4 : BB = 4294967296 := rfl
    rw [h4] at h2 h3 ⊢
    omega
  · have h1 := vl_upd (f := r) (x := t % BB) (show i + j < n + m by omega)
    have h2 := carry_split t
    have h3 : (t % BB) * BB ^ (i + j) + (t / BB) * BB ^ (i + (j + 1)) = t * BB ^ (i + j) := by
      conv => rhs; rw [← h2]
      rw [← Nat.add_assoc, Nat.pow_succ, Nat.add_mul, Nat.mul_comm (BB ^ (i + j)) BB, ← Nat.mul_assoc, Nat.mul_comm (t / BB) BB]
    have h4 : t * BB ^ (i + j) = f i * g j * BB ^ (i + j) + r (i + j) * BB ^ (i + j) + c * BB ^ (i + j) := by rw [ht, Nat.add_mul, Nat.add_mul]
    have h5 := h.val
    have h6 : f i * BB ^ i * vl g (j + 1) = f i * BB ^ i * vl g j + f i * g j * BB ^ (i + j) := by
      rw [vl, Nat.mul_add, Nat.pow_add]
      congr 1
      rw [Nat.mul_assoc, Nat.mul_assoc, Nat.mul_left_comm (BB ^ i)]
    rw [h6]
    omega
  · unfold updG
    rw [if_neg (by omega)]
    exact h.zero k hk
end

set_option maxRecDepth 100000 in
set_option maxHeartbeats 6400000 in
theorem product_any (n m : Nat) (f g : Nat → Nat) (a c : Option Addr) (cap cap' : Nat) (w : World) (hn : n ≤ 100000) (hm : m ≤ 100000) (hf : Dg f n) (hg : Dg g m) (ha : DAt w w.heap.size a n f) (hc : DAt w w.heap.size c m g) :
    Calls Tryz.prog 52 #[.slice a n cap, .slice c m cap'] w fun e w' => ∃ a' k c' h, e = .returned (.slice a' k c') ∧ Nrm h k ∧ vl h k = vl f n * vl g m ∧ k ≤ n + m ∧ k ≤ c' ∧ c' ≤ 9223372036854775807 ∧ DAt w' w'.heap.size a' k h ∧ Below w.heap.size w w' := by
  have hnI : (n : Int) ≤ 100000 := by omega
  have hmI : (m : Int) ≤ 100000 := by omega
  by_cases n0 : n = 0
  · subst n0
    go_enter Tryz.func52, Tryz.ntmps52
    go_wp2_with fail
    go_ret
    exact ⟨none, 0, 0, fun _ => 0, rfl, Nrm.zero, by simp [vl], by omega, by omega, by omega, DAt.zero _ _ _ _, Below.refl _ _⟩
  by_cases m0 : m = 0
  · subst m0
    have n0I : ¬ (n : Int) = 0 := by omega
    go_enter Tryz.func52, Tryz.ntmps52
    go_wp2_with fail
    go_ret
    exact ⟨none, 0, 0, fun _ => 0, rfl, Nrm.zero, by simp [vl], by omega, by omega, by omega, DAt.zero _ _ _ _, Below.refl _ _⟩
  obtain ⟨b, off, rfl, hbN, hcell⟩ := ha (by omega)
  obtain ⟨b', off', rfl, hbN', hcell'⟩ := hc (by omega)
  have n0I : ¬ (n : Int) = 0 := by omega
  have m0I : ¬ (m : Int) = 0 := by omega
  have nb : ((n : Int) == 0) = false := beq_eq_false_iff_ne.2 n0I
  have mb : ((m : Int) == 0) = false := beq_eq_false_iff_ne.2 m0I
  have hmk := make_u32 (n + m) (by omega)
  rw [show ((n + m : Nat) : Int) = (n : Int) + (m : Int) by omega] at hmk
  have HF := Lib.hid hf
  have HG := Lib.hid hg
  have HC := Lib.hid hcell
  have HC' := Lib.hid hcell'
  have hb1 := (Below.refl w.heap.size w).alloc (Nat.le_refl _) (.cells (madeCells #[.int .u32 0] (n + m)) 108)
  have hr1 := RowU.made w (n + m)
  clear hf hg hcell hcell' ha hc
  go_enter Tryz.func52, Tryz.ntmps52
  go_wp2_with fail
  generalize w.alloc (.cells (madeCells #[.int .u32 0] (n + m)) 108) = w1 at *
  go_loopw [26] (fun u wr => ∃ (i : Nat) (r : Nat → Nat), u = .int .i64 i ∧ i ≤ n ∧ RowU wr w.heap.size 0 (n + m) r ∧ Hid (ProdO n m f g i r) ∧ Below w.heap.size w wr) (fun u _ => n - (intOf u).toNat)
  case atStart => exact ⟨0, _, rfl, by omega, hr1, Lib.hid ProdO.start, hb1⟩
  case round =>
    obtain ⟨i, r, rfl, hi, hrow, hpr, hbl⟩ := hrel
    clear hr1 hb1
    generalize wr = w2 at *
    by_cases h0 : i < n
    · have x0 := HC.out i h0
      have hfi := HF.out i h0
      have hin : (i : Int) < (n : Int) := by omega
      go_wp2_with fail
      go_loopw [31, 7] (fun u x wr => ∃ (j c : Nat) (r : Nat → Nat), u = .int .i64 j ∧ j ≤ m ∧ x = .int .u64 c ∧ RowU wr w.heap.size 0 (n + m) r ∧ Hid (ProdI n m f g i j c r) ∧ Below w.heap.size w wr) (fun u _ _ => m - (intOf u).toNat)
      case atStart => exact ⟨0, 0, r, rfl, by omega, rfl, hrow, Lib.hid hpr.out.inner, hbl⟩
      case round =>
        clear hrow hpr hbl r
        obtain ⟨j, c, r, rfl, hj, rfl, hrow, hpr, hbl⟩ := hrel
        have hBB : BB = 4294967296 := rfl
        by_cases h1 : j < m
        · have x0 := keep_cellN hbl hbN x0
          have x1 := keep_cellN hbl hbN' (HC'.out j h1)
          have hgj := HG.out j h1
          have hbr : b < wr.heap.size := by have := hbl.size; omega
          have hbr' : b' < wr.heap.size := by have := hbl.size; omega
          have hgr : w.heap.size < wr.heap.size := hrow.lt
          have gf := hrow.frozen (i + j)
          have gl := hrow.cell (j := i + j) (by omega)
          rw [Nat.zero_add] at gl
          have hc1 := hpr.out.cy
          have hr1 := hpr.out.dg (i + j) (by omega)
          have hS := Lib.hid (fun t ht => hpr.out.step (t := t) h0 h1 hfi hgj ht)
          have hP1 : f i * g j ≤ 4294967295 * 4294967295 := Nat.mul_le_mul (by omega) (by omega)
          have t1 : (f i : Int) * (g j : Int) = ((f i * g j : Nat) : Int) := (Int.natCast_mul _ _).symm
          generalize f i * g j = P at *
          generalize f i = fi at *
          generalize g j = gj at *
          have tw : IntKind.u64.wrap ((fi : Int) * (gj : Int)) = (P : Int) := by rw [t1]; exact IntWalk.u64_in _ (by omega)
          have ij : ((i : Int) + (j : Int)) = ((i + j : Nat) : Int) := by omega
          have hjm : (j : Int) < (m : Int) := by omega
          have ijn : ((i + j : Nat) : Int) < (n : Int) + (m : Int) := by omega
          have HRP := Lib.hid (fun (q x : Nat) (z : Int) (hz : z = ((x : Nat) : Int)) => (hrow.drewN q).put (show i + j < n + m by omega) x z hz)
          clear t1
          generalize r (i + j) = rij at *
          generalize i + j = p at *
          go_upto_region 11 with fail
          go_quiet (fail)
          go_wp2_with fail
          go_roundw
          case rel => exact ⟨j + 1, (P + rij + c) / BB, updG r p ((P + rij + c) % BB), by go_num, by omega, by rw [hBB]; congr 1, HRP.out _ _ _ (by rw [hBB]; omega), Lib.hid (hS.out _ rfl), (below_drewN hbl _).setCell (Nat.le_refl _) _⟩
          case measure => simp [intOf]; omega
        · obtain rfl : j = m := by omega
          have hgr : w.heap.size < wr.heap.size := hrow.lt
          have gf := hrow.frozen (i + j)
          have gl := hrow.cell (j := i + j) (by omega)
          rw [Nat.zero_add] at gl
          have ij : ((i : Int) + (j : Int)) = ((i + j : Nat) : Int) := by omega
          have ijn : ((i + j : Nat) : Int) < (n : Int) + (j : Int) := by omega
          have hc1 := hpr.out.cy
          have hO := Lib.hid (hpr.out.done h0)
          have HRP := Lib.hid (fun (z : Int) (hz : z = ((c : Nat) : Int)) => hrow.put (show i + j < n + j by omega) c z hz)
          clear hpr
          generalize r (i + j) = rij at *
          generalize i + j = p at *
          go_wp2_with fail
          go_roundw
          case rel => exact ⟨i + 1, _, by go_num, by omega, HRP.out _ (by omega), hO, hbl.setCell (Nat.le_refl _) _⟩
          case measure => simp [intOf]; omega
    · obtain rfl : i = n := by omega
      have HD := Lib.hid hpr.out.dg
      have HV := Lib.hid hpr.out.val
      have HT := Lib.hid (trim_any (i + m) r (some ⟨w.heap.size, 0, none⟩) (i + m) w2 (by omega) (Nat.le_refl _) (by omega) HD.out hrow.dat)
      have im : ((i + m : Nat) : Int) = (i : Int) + (m : Int) := by omega
      clear hpr
      go_wp2_with (go_at_call 83; refine (HT.out).mono ?_; rintro e w3 ⟨a', m', c', rfl, h1, h2, h3, h4, _, h5⟩)
      go_ret
      exact ⟨a', m', c', _, rfl, h1.nrm HD.out, h1.val.trans HV.out, h1.1, h2, h3, h4.on h5 h5.size, hbl.trans (h5.mono hbl.size)⟩
end

section
open Go.RowKit Go.Deep

def sgn (ng : Bool) (v : Nat) : Int := if ng then -(v : Int) else v
/-- v is the integer z, of at most K digits, in blocks below N. -/
def IntV (w : World) (N : Nat) (v : Value) (z : Int) (K : Nat) : Prop :=
  ∃ (ng : Bool) (a : Option Addr) (n cap : Nat) (f : Nat → Nat), v = .agg #[.bool ng, .slice a n cap] ∧ n ≤ K ∧ Nrm f n ∧ n ≤ cap ∧ cap ≤ 9223372036854775807 ∧ DAt w N a n f ∧ z = sgn ng (vl f n) ∧ (ng = true → 0 < n)
section
variable {w w' : World} {N N' K K' : Nat} {v : Value} {z : Int}
theorem IntV.keep (h : IntV w N v z K) (hb : Below N w w') : IntV w' N v z K := by
  obtain ⟨ng, a, n, cap, f, e, h1, h2, h3, h4, h5, h6⟩ := h
  exact ⟨ng, a, n, cap, f, e, h1, h2, h3, h4, h5.keep hb, h6⟩
theorem IntV.more (h : IntV w N v z K) (hN : N ≤ N') : IntV w N' v z K := by
  obtain ⟨ng, a, n, cap, f, e, h1, h2, h3, h4, h5, h6⟩ := h
  exact ⟨ng, a, n, cap, f, e, h1, h2, h3, h4, h5.more hN, h6⟩
theorem IntV.on (h : IntV w N v z K) (hb : Below N w w') (hN : N ≤ w'.heap.size) : IntV w' w'.heap.size v z K := (h.keep hb).more hN
theorem IntV.wide (h : IntV w N v z K) (hK : K ≤ K') : IntV w N v z K' := by
  obtain ⟨ng, a, n, cap, f, e, h1, h6⟩ := h
  exact ⟨ng, a, n, cap, f, e, by omega, h6⟩
theorem sgn_abs (ng : Bool) (x : Nat) : (sgn ng x).natAbs = x := by unfold sgn; split <;> omega
theorem IntV.tight (h : IntV w N v z K) (hz : z.natAbs < BB ^ K') : IntV w N v z K' := by
  obtain ⟨ng, a, n, cap, f, e, h1, h2, h3, h4, h5, h6, h7⟩ := h
  refine ⟨ng, a, n, cap, f, e, ?_, h2, h3, h4, h5, h6, h7⟩
  rw [h6, sgn_abs] at hz
  rcases Nat.lt_or_ge K' n with hl | hl
  · have h8 := vl_ge h2 (by omega)
    have h9 : BB ^ K' ≤ BB ^ (n - 1) := Nat.pow_le_pow_right BB_pos (by omega)
    omega
  · exact hl
end

/-- Digits lie in no block of other cells. -/
theorem DAt.other {w w' : World} {N n g : Nat} {a : Option Addr} {f : Nat → Nat} (h : DAt w N a n f) (hg : ∀ o i, w.cell? ⟨g, o, none⟩ ≠ some (.int .u32 i)) (he : ∀ b o, b ≠ g → w'.cell? ⟨b, o, none⟩ = w.cell? ⟨b, o, none⟩) : DAt w' N a n f := fun hn => by
  obtain ⟨b, off, e, hlt, hc⟩ := h hn
  refine ⟨b, off, e, hlt, fun i hi => ?_⟩
  rw [he b (off + i) (fun e => hg (off + i) _ (e ▸ hc i hi))]
  exact hc i hi
theorem IntV.other {w w' : World} {N K g : Nat} {v : Value} {z : Int} (h : IntV w N v z K) (hg : ∀ o i, w.cell? ⟨g, o, none⟩ ≠ some (.int .u32 i)) (he : ∀ b o, b ≠ g → w'.cell? ⟨b, o, none⟩ = w.cell? ⟨b, o, none⟩) : IntV w' N v z K := by
  obtain ⟨ng, a, n, cap, f, e, h1, h2, h3, h4, h5, h6⟩ := h
  exact ⟨ng, a, n, cap, f, e, h1, h2, h3, h4, h5.other hg he, h6⟩
theorem no_u32 {w : World} {g : Nat} {u : Bool} {a : Option Addr} {n c : Nat} {t : TypeId} (h : w.heap[g]? = some (.cells #[.bool u, .slice a n c] t (0, 0))) (o : Nat) (i : Int) : w.cell? ⟨g, o, none⟩ ≠ some (.int .u32 i) := by
  simp only [World.cell?, h]
  match o with
  | 0 => simp
  | 1 => simp
  | k + 2 => simp
theorem set_other (w : World) (g i j : Nat) (x y : Value) (b o : Nat) (hb : b ≠ g) : ((w.setCell ⟨g, i, none⟩ x).setCell ⟨g, j, none⟩ y).cell? ⟨b, o, none⟩ = w.cell? ⟨b, o, none⟩ := by
  have h1 := Below.heap_setCell (w.setCell ⟨g, i, none⟩ x) ⟨g, j, none⟩ y b hb
  have h2 := Below.heap_setCell w ⟨g, i, none⟩ x b hb
  exact World.cell?_of_block (h1.trans h2)

set_option maxRecDepth 100000 in
set_option maxHeartbeats 6400000 in
theorem signed_any (ng : Bool) (n : Nat) (f : Nat → Nat) (a : Option Addr) (cap : Nat) (w : World) (hn : n ≤ 100000) (hcap : n ≤ cap) (hcm : cap ≤ 9223372036854775807) (hd : Dg f n) (hc : DAt w w.heap.size a n f) :
    Calls Tryz.prog 51 #[.bool ng, .slice a n cap] w fun e w' => ∃ v, e = .returned v ∧ IntV w' w'.heap.size v (sgn ng (vl f n)) n ∧ Below w.heap.size w w' := by
  have b1 := (Below.refl w.heap.size w).alloc (Nat.le_refl _) (.cells #[.bool false, .slice none 0 0] 48)
  have HT := Lib.hid (fun W (hb : Below w.heap.size w W) (hs : w.heap.size ≤ W.heap.size) => trim_any n f a cap W (by omega) hcap hcm hd (hc.on hb hs))
  go_enter Tryz.func51, Tryz.ntmps51
  have jcl := Go.Deep.blk_alloc_new w (.cells #[.bool false, .slice none 0 0] 48)
  have hs1 : w.heap.size < (w.alloc (.cells #[.bool false, .slice none 0 0] 48)).heap.size := by simp
  go_upto_region 1 with fail
  generalize w.alloc _ = w1 at *
  go_upto_region 2 with (go_at_call 83; refine (HT.out _ b1 (by omega)).mono ?_; rintro e w3 ⟨a', m, c', rfl, h1, h2, h3, _, h4, h5⟩)
  have jc3 := (h5.block w.heap.size hs1).trans jcl
  have b3 := b1.trans (h5.mono b1.size)
  have s3 := h5.size
  have h4 := hc.trim h1.1 h4
  have c0 : w3.cell? ⟨w.heap.size, 0, none⟩ = some (.bool false) := by simp [World.cell?, jc3]
  have c1 : w3.cell? ⟨w.heap.size, 1, none⟩ = some (.slice none 0 0) := by simp [World.cell?, jc3]
  have cf : ∀ j, w3.frozen? ⟨w.heap.size, j, none⟩ = false := by intro j; simp [World.frozen?, jc3]
  clear jc3 jcl h5 b1 HT
  have HV := Lib.hid h1.val
  have HN := Lib.hid (h1.nrm hd)
  have hmn := h1.1
  clear h1
  have HF := Lib.hid (fun (x : Bool) (hx : x = true ↔ (ng = true ∧ 0 < m)) => show IntV ((w3.setCell ⟨w.heap.size, 0, none⟩ (.bool x)).setCell ⟨w.heap.size, 1, none⟩ (.slice a' m c')) ((w3.setCell ⟨w.heap.size, 0, none⟩ (.bool x)).setCell ⟨w.heap.size, 1, none⟩ (.slice a' m c')).heap.size (.agg #[.bool x, .slice a' m c']) (sgn ng (vl f n)) n ∧ Below w.heap.size w ((w3.setCell ⟨w.heap.size, 0, none⟩ (.bool x)).setCell ⟨w.heap.size, 1, none⟩ (.slice a' m c')) from by
    have b4 := (b3.setCell (p := (⟨w.heap.size, 0, none⟩ : Addr)) (Nat.le_refl _) (.bool x)).setCell (p := (⟨w.heap.size, 1, none⟩ : Addr)) (Nat.le_refl _) (.slice a' m c')
    refine ⟨⟨x, a', m, c', f, rfl, hmn, HN.out, h2, h3, h4.on b4 b4.size, ?_, fun h => (hx.1 h).2⟩, b4⟩
    rw [HV.out]
    cases ng with
    | false => cases x with
      | false => rfl
      | true => simp at hx
    | true => cases x with
      | false =>
        have h0 : m = 0 := by simp at hx; exact hx
        have : vl f n = 0 := by rw [← HV.out, h0]; rfl
        rw [this]; rfl
      | true => rfl)
  have hcapI : (m : Int) ≤ 100000 := by omega
  cases ng with
  | false =>
    have HG := Lib.hid (HF.out false (by simp))
    clear HV HN HF
    go_wp2_with fail
    refine bodyPost_ret (v := .agg #[.bool false, .slice a' m c']) (by simp [results, Tryz.results51, go_sem, c0, c1]) rfl ⟨_, rfl, HG.out⟩
  | true =>
    by_cases hm : 0 < m
    · have hmI : (0 : Int) < (m : Int) := by omega
      have HG := Lib.hid (HF.out true (by simp [hm]))
      clear HV HN HF
      go_wp2_with fail
      refine bodyPost_ret (v := .agg #[.bool true, .slice a' m c']) (by simp [results, Tryz.results51, go_sem, c0, c1]) rfl ⟨_, rfl, HG.out⟩
    · have hmI : ¬ (0 : Int) < (m : Int) := by omega
      have HG := Lib.hid (HF.out false (by simp; omega))
      clear HV HN HF
      go_wp2_with fail
      refine bodyPost_ret (v := .agg #[.bool false, .slice a' m c']) (by simp [results, Tryz.results51, go_sem, c0, c1]) rfl ⟨_, rfl, HG.out⟩
end
end Go.Proofs.YtfoadipocpopiaaGreat
