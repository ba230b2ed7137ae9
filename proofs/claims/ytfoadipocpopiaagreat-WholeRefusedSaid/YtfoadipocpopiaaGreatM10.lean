/- Several texts in one: The walks over pfair: Overlaps, Heavy. Conditions: none on the integers. The walks over pfair: the closures of Group, sort.Search at its predicate. Conditions: a heavy task for the closures. The walk over pfair.Group. Conditions: none. The walk over pfair.ends. Conditions: releases at most 2^40. -/
import Derived.Test.YtfoadipocpopiaaGreatPw1
import Derived.Outline
import Derived.Laws.EntriesVeiled
namespace Go.Proofs.YtfoadipocpopiaaGreat
section
open Go.RowKit
/-- pfair.Overlaps. -/
theorem overlaps_any (nm : ByteArray) (c p i : Int) (w : World) :
    Calls Tryz.prog 44 #[.agg #[.string nm, .int .i64 c, .int .i64 p], .int .i64 i] w fun e w' => e = .returned (.bool (ovB c p i)) ∧ Below w.heap.size w w' := by
  by_cases hE : wE c p i = 0
  · have hr : (wE c p i == 0) = true := by simp [hE]
    obtain ⟨v1, v2, v3, hi, hj⟩ := wE0 hE
    obtain ⟨m2a, m2b⟩ := mul_bd (i := i) (p := p) (by omega) (by omega) (by omega) (by omega)
    have hfin : (i * p % c != 0) = ovB c p i := by simp [ovB, hE]
    have H := Lib.hid hfin
    have HE := Lib.hid hE
    clear hE hfin
    have c0 : ¬ c = 0 := by omega
    go_enter Tryz.func44, Tryz.ntmps44
    go_wp2_with fail
    refine (window_any nm c p i _).mono ?_
    rintro e w1 ⟨rfl, hb⟩
    obtain ⟨hc, hf⟩ := bcell hb
    have hz : w.heap.size < w1.heap.size := by have := hb.size; simp at this; omega
    go_wp2
    go_ret
    refine ⟨ret_bool ?_, ?_⟩
    · rw [← H.out]
    · exact ((((Below.refl _ _).alloc (Nat.le_refl _) _).trans (hb.mono (by simp))).alloc (by omega) _)
  · have hr : (wE c p i == 0) = false := by simp [hE]
    have hfin : ovB c p i = false := by simp [ovB, hE]
    have H := Lib.hid hfin
    have HE := Lib.hid hE
    clear hE hfin
    go_enter Tryz.func44, Tryz.ntmps44
    go_wp2_with fail
    refine (window_any nm c p i _).mono ?_
    rintro e w1 ⟨rfl, hb⟩
    obtain ⟨hc, hf⟩ := bcell hb
    have hz : w.heap.size < w1.heap.size := by have := hb.size; simp at this; omega
    go_wp2
    go_ret
    refine ⟨ret_bool ?_, ?_⟩
    · rw [H.out]
    · exact ((((Below.refl _ _).alloc (Nat.le_refl _) _).trans (hb.mono (by simp))).alloc (by omega) _)
/-- pfair.Heavy. -/
theorem heavy_any (nm : ByteArray) (c p : Int) (w : World) :
    Calls Tryz.prog 71 #[.agg #[.string nm, .int .i64 c, .int .i64 p]] w fun e w' => e = .returned (.bool (hvB c p)) ∧ Below w.heap.size w w' := by
  by_cases hv : vtB c p = true
  · obtain ⟨v1, v2, v3⟩ := vtB_true hv
    have hfin : hvB c p = (decide (c < p) && decide (p ≤ 2 * c)) := by simp [hvB, hv]
    have H := Lib.hid hfin
    clear hfin
    by_cases h2 : c < p
    · go_enter Tryz.func71, Tryz.ntmps71
      go_wp2_with fail
      refine (pvalid_any nm c p _).mono ?_
      rintro e w1 ⟨rfl, hb⟩
      obtain ⟨hc, hf⟩ := bcell hb
      go_wp2
      go_ret
      refine ⟨ret_bool ?_, ?_⟩
      · rw [H.out]; simp [h2]; try omega
      · exact ((Below.refl _ _).alloc (Nat.le_refl _) _).trans (hb.mono (by simp))
    · have h3 : p ≤ c := by omega
      go_enter Tryz.func71, Tryz.ntmps71
      go_wp2_with fail
      refine (pvalid_any nm c p _).mono ?_
      rintro e w1 ⟨rfl, hb⟩
      obtain ⟨hc, hf⟩ := bcell hb
      go_wp2
      go_ret
      refine ⟨ret_bool ?_, ?_⟩
      · rw [H.out]; simp; intro h; omega
      · exact ((Below.refl _ _).alloc (Nat.le_refl _) _).trans (hb.mono (by simp))
  · have hv : vtB c p = false := by simpa using hv
    have hfin : hvB c p = false := by simp [hvB, hv]
    have H := Lib.hid hfin
    clear hfin
    go_enter Tryz.func71, Tryz.ntmps71
    go_wp2_with fail
    refine (pvalid_any nm c p _).mono ?_
    rintro e w1 ⟨rfl, hb⟩
    obtain ⟨hc, hf⟩ := bcell hb
    go_wp2
    go_ret
    refine ⟨ret_bool ?_, ?_⟩
    · rw [H.out]
    · exact ((Below.refl _ _).alloc (Nat.le_refl _) _).trans (hb.mono (by simp))
end

section
open Go.RowKit
/-- Group's first closure. -/
theorem g1_any (m p g : Int) (tb gb : Nat) (w : World) (hp : w.cell? ⟨tb, 2, none⟩ = some (.int .i64 p)) (hg : w.cell? ⟨gb, 0, none⟩ = some (.int .i64 g))
    (m0 : 0 ≤ m) (m1 : m ≤ 1000) (p0 : 0 ≤ p) (p1 : p ≤ 1000) (g0 : 1 ≤ g) (g1 : g ≤ 1000) :
    Calls Tryz.prog 90 #[.int .i64 m, .pointer (some ⟨tb, 0, none⟩), .pointer (some ⟨gb, 0, none⟩)] w fun e w' => e = .returned (.int .i64 (endN p g m)) ∧ w = w' := by
  obtain ⟨ma, mb⟩ := mul_bd (i := m) (p := p) m0 m1 p0 p1
  have wa : IntKind.i64.wrap (m * p) = m * p := IntWalk.i64_in _ (by omega)
  go_enter Tryz.func90, Tryz.ntmps90
  go_wp2_with fail
  refine (up_any _ _ _ (by omega) (by omega) (by omega) (by omega)).mono ?_
  rintro e w' ⟨rfl, rfl⟩
  go_wp2
  go_ret
  exact ⟨ret_int (by simp [endN]), rfl⟩
/-- Group's second closure. -/
theorem g2_any (n p g d : Int) (tb gb eb wb : Nat) (w : World) (hp : w.cell? ⟨tb, 2, none⟩ = some (.int .i64 p)) (hg : w.cell? ⟨gb, 0, none⟩ = some (.int .i64 g))
    (he : w.cell? ⟨eb, 0, none⟩ = some (.func (.func 90) #[] #[.pointer (some ⟨tb, 0, none⟩), .pointer (some ⟨gb, 0, none⟩)]))
    (hd : w.cell? ⟨wb, 2, none⟩ = some (.int .i64 d))
    (m0 : 0 ≤ n) (m1 : n ≤ 999) (p0 : 0 ≤ p) (p1 : p ≤ 1000) (g0 : 1 ≤ g) (g1 : g ≤ 1000) :
    Calls Tryz.prog 92 #[.int .i64 n, .pointer (some ⟨eb, 0, none⟩), .pointer (some ⟨wb, 0, none⟩)] w fun e w' => e = .returned (.bool (decide (d ≤ endN p g (n + 1)))) ∧ ∃ k, w' = w.drewN k := by
  have wa : IntKind.i64.wrap (n + 1) = n + 1 := IntWalk.i64_in _ (by omega)
  go_enter Tryz.func92, Tryz.ntmps92
  go_wp2_with fail
  go_quiet ((go_at_call 90; refine (g1_any _ p g tb gb _ (by simpa using hp) (by simpa using hg) (by omega) (by omega) p0 p1 g0 g1).mono ?_; rintro e w' ⟨he, hw⟩; exact ⟨he, _, hw.symm⟩))
  go_wp2
  go_ret
  exact ⟨rfl, _, rfl⟩
def SearchPost (N p g d : Int) (w : World) (e : Ending) (w' : World) : Prop :=
  ∃ r : Int, e = .returned (.int .i64 r) ∧ 0 ≤ r ∧ r ≤ N ∧ (r = 0 ∨ endN p g r < d) ∧ (r = N ∨ d ≤ endN p g (r + 1)) ∧ ∃ k, w' = w.drewN k
def SearchRel (N p g d : Int) (w : World) (i j : Int) (wr : World) : Prop :=
  0 ≤ i ∧ i ≤ j ∧ j ≤ N ∧ (i = 0 ∨ endN p g i < d) ∧ (j = N ∨ d ≤ endN p g (j + 1)) ∧ ∃ k, wr = w.drewN k
/-- sort.Search at Group's predicate. -/
theorem search_any (N p g d : Int) (tb gb eb wb : Nat) (w : World) (hp : w.cell? ⟨tb, 2, none⟩ = some (.int .i64 p)) (hg : w.cell? ⟨gb, 0, none⟩ = some (.int .i64 g))
    (he : w.cell? ⟨eb, 0, none⟩ = some (.func (.func 90) #[] #[.pointer (some ⟨tb, 0, none⟩), .pointer (some ⟨gb, 0, none⟩)]))
    (hd : w.cell? ⟨wb, 2, none⟩ = some (.int .i64 d))
    (m0 : 0 ≤ N) (m1 : N ≤ 999) (p0 : 0 ≤ p) (p1 : p ≤ 1000) (g0 : 1 ≤ g) (g1 : g ≤ 1000) :
    Calls Tryz.prog 91 #[.int .i64 N, .func (.func 92) #[] #[.pointer (some ⟨eb, 0, none⟩), .pointer (some ⟨wb, 0, none⟩)]] w (SearchPost N p g d w) := by
  go_enter Tryz.func91, Tryz.ntmps91
  go_wp2
  go_loopw [5, 6] (fun u v wr => ∃ i j : Int, u = .int .i64 i ∧ v = .int .i64 j ∧ SearchRel N p g d w i j wr) (fun u v _ => (intOf v - intOf u).toNat)
  case atStart => exact ⟨0, N, rfl, rfl, by omega, m0, by omega, .inl rfl, .inl rfl, 0, rfl⟩
  case round =>
    obtain ⟨i, j, rfl, rfl, i0, ij, jN, hi, hj, k, rfl⟩ := hrel
    have Hi := Lib.hid hi
    have Hj := Lib.hid hj
    clear hi hj
    by_cases hlt : i < j
    · by_cases hq : d ≤ endN p g ((i + j) / 2 + 1)
      · have hq' : decide (d ≤ endN p g ((i + j) / 2 + 1)) = true := by simp [hq]
        have Hq := Lib.hid hq
        clear hq
        go_wp2_with fail
        refine (g2_any _ p g d tb gb eb wb _ (by simpa using hp) (by simpa using hg) (by simpa using he) (by simpa using hd) (by omega) (by omega) p0 p1 g0 g1).mono ?_
        rintro e w' ⟨rfl, k1, rfl⟩
        go_wp2
        go_roundw
        case rel => exact ⟨i, (i + j) / 2, rfl, rfl, i0, by omega, by omega, Hi.out, .inr Hq.out, _, rfl⟩
        case measure => simp [intOf]; omega
      · have hq' : decide (d ≤ endN p g ((i + j) / 2 + 1)) = false := by simp [hq]
        have Hq := Lib.hid hq
        clear hq
        go_wp2_with fail
        refine (g2_any _ p g d tb gb eb wb _ (by simpa using hp) (by simpa using hg) (by simpa using he) (by simpa using hd) (by omega) (by omega) p0 p1 g0 g1).mono ?_
        rintro e w' ⟨rfl, k1, rfl⟩
        go_wp2
        go_roundw
        case rel => exact ⟨(i + j) / 2 + 1, j, rfl, rfl, by omega, by omega, by omega, .inr Hq.out, Hj.out, _, rfl⟩
        case measure => simp [intOf]; omega
    · go_wp2
      go_ret
      exact ⟨i, rfl, i0, by omega, Hi.out, by rw [show i = j by omega]; exact Hj.out, k, rfl⟩
end

section
open Go.RowKit
/-- pfair.Group. -/
theorem group_any (nm : ByteArray) (c p i : Int) (w : World) :
    Calls Tryz.prog 72 #[.agg #[.string nm, .int .i64 c, .int .i64 p], .int .i64 i] w fun e w' => e = .returned (.int .i64 (grp c p i)) ∧ Below w.heap.size w w' := by
  by_cases hE : wE c p i = 0
  · by_cases hv : hvB c p = true
    · obtain ⟨v1, v2, v3, v4⟩ := hv_bd hv
      obtain ⟨d1, d2⟩ := wD_bd hE
      have hr : (wE c p i != 0) = false := by simp [hE]
      have hfin : grp c p i = endN p (p - c) ((wD c p i - 1) * (p - c) / p + 1) := by simp [grp, hE, hv]
      have H := Lib.hid hfin
      have HE := Lib.hid hE
      clear hE hfin
      generalize hdd : wD c p i = d at *
      have Hdd := Lib.hid hdd
      clear hdd
      go_enter Tryz.func72, Tryz.ntmps72
      go_wp2_with fail
      refine (window_any nm c p i _).mono ?_
      rintro e w1 ⟨rfl, hb⟩
      rw [Hdd.out]
      obtain ⟨hc, hf⟩ := bcell hb
      have hz : w.heap.size < w1.heap.size := by have := hb.size; simp at this; omega
      go_wp2_with fail
      refine (heavy_any nm c p _).mono ?_
      rintro e w2 ⟨rfl, hb2⟩
      obtain ⟨hc2, hf2⟩ := bcell hb2
      have hz2 : w1.heap.size < w2.heap.size := by have := hb2.size; simp at this; omega
      have k1 : w2.cell? ⟨w.heap.size, 1, none⟩ = some (.int .i64 c) := by rw [hc2 _ _ (by simp; omega), World.cell?_alloc_lt _ _ _ hz, hc _ _ (by simp)]; simp [go_sem]
      have k2 : w2.cell? ⟨w.heap.size, 2, none⟩ = some (.int .i64 p) := by rw [hc2 _ _ (by simp; omega), World.cell?_alloc_lt _ _ _ hz, hc _ _ (by simp)]; simp [go_sem]
      have k3 : w2.cell? ⟨w1.heap.size, 2, none⟩ = some (.int .i64 d) := by rw [hc2 _ _ (by simp)]; simp [go_sem]
      have b2 : Below w.heap.size w w2 := (((Below.refl _ _).alloc (Nat.le_refl _) _).trans (hb.mono (by simp))).trans (((Below.refl w.heap.size w1).alloc (by omega) _).trans (hb2.mono (by simp; omega)))
      clear hc hf hc2 hf2 hb hb2
      go_wp2_with fail
      refine (search_any (p - c - 1) p (p - c) d w.heap.size w2.heap.size (w2.heap.size + 1) w1.heap.size _ ?_ ?_ ?_ ?_ (by omega) (by omega) (by omega) (by omega) (by omega) (by omega)).mono ?_
      · simp [go_sem, k2, World.cell?_alloc_some]
      · simp [go_sem]
      · simp [go_sem]
      · simp [go_sem, k3, World.cell?_alloc_some]
      rintro e w3 ⟨r, rfl, r0, r1, ra, rb, k, rfl⟩
      have hr := search_is (by omega) (by omega) (by omega) d1 d2 r0 r1 ra rb
      have Hr := Lib.hid hr
      clear hr ra rb
      go_wp2_with fail
      refine (g1_any _ p (p - c) w.heap.size w2.heap.size _ ?_ ?_ (by omega) (by omega) (by omega) (by omega) (by omega) (by omega)).mono ?_
      · simp [go_sem, k2, World.cell?_alloc_some]
      · simp [go_sem]
      rintro e w4 ⟨rfl, rfl⟩
      go_wp2
      go_ret
      refine ⟨ret_int ?_, ?_⟩
      · rw [H.out, Hr.out]; congr 1; omega
      · exact below_drewN ((b2.alloc b2.size _).alloc (by simp; have := b2.size; omega) _) _
    · have hv : hvB c p = false := by simpa using hv
      have hr : (wE c p i != 0) = false := by simp [hE]
      have hfin : grp c p i = 0 := grp_light hv
      have H := Lib.hid hfin
      have HE := Lib.hid hE
      clear hE hfin
      go_enter Tryz.func72, Tryz.ntmps72
      go_wp2_with fail
      refine (window_any nm c p i _).mono ?_
      rintro e w1 ⟨rfl, hb⟩
      obtain ⟨hc, hf⟩ := bcell hb
      have hz : w.heap.size < w1.heap.size := by have := hb.size; simp at this; omega
      go_wp2_with fail
      refine (heavy_any nm c p _).mono ?_
      rintro e w2 ⟨rfl, hb2⟩
      have b2 : Below w.heap.size w w2 := (((Below.refl _ _).alloc (Nat.le_refl _) _).trans (hb.mono (by simp))).trans (((Below.refl w.heap.size w1).alloc (by omega) _).trans (hb2.mono (by simp; omega)))
      go_wp2
      go_ret
      exact ⟨ret_int H.out.symm, b2⟩
  · have hr : (wE c p i != 0) = true := by simp [hE]
    have hfin : grp c p i = 0 := grp_err hE
    have H := Lib.hid hfin
    have HE := Lib.hid hE
    clear hE hfin
    go_enter Tryz.func72, Tryz.ntmps72
    go_wp2_with fail
    refine (window_any nm c p i _).mono ?_
    rintro e w1 ⟨rfl, hb⟩
    have hz : w.heap.size < w1.heap.size := by have := hb.size; simp at this; omega
    go_wp2
    go_ret
    exact ⟨ret_int H.out.symm, (((Below.refl _ _).alloc (Nat.le_refl _) _).trans (hb.mono (by simp))).alloc (by omega) _⟩
end

section
open Go.RowKit
theorem World.cell?_alloc_2 (w : World) (x0 x1 x2 : Value) (t : TypeId) : (w.alloc (.cells #[x0, x1, x2] t)).cell? ⟨w.heap.size, 2, none⟩ = some x2 := by simp [go_sem]
def CandAt (w : World) (b : Nat) (n : Int) (nm : ByteArray) (c p r i : Int) : Prop :=
  w.cell? ⟨b, 0, none⟩ = some (.int .i64 n) ∧ w.cell? ⟨b, 1, none⟩ = some (.string nm) ∧ w.cell? ⟨b, 2, none⟩ = some (.int .i64 c) ∧ w.cell? ⟨b, 3, none⟩ = some (.int .i64 p) ∧ w.cell? ⟨b, 4, none⟩ = some (.int .i64 r) ∧ w.cell? ⟨b, 5, none⟩ = some (.int .i64 i)
section
variable {w w' : World} {b : Nat} {n : Int} {nm : ByteArray} {c p r i : Int}
theorem CandAt.keep (h : CandAt w b n nm c p r i) (hb : Below w.heap.size w w') (hlt : b < w.heap.size) : CandAt w' b n nm c p r i := by
  obtain ⟨a0, a1, a2, a3, a4, a5⟩ := h
  exact ⟨keep_cell hb hlt a0, keep_cell hb hlt a1, keep_cell hb hlt a2, keep_cell hb hlt a3, keep_cell hb hlt a4, keep_cell hb hlt a5⟩
theorem CandAt.alloc (h : CandAt w b n nm c p r i) (hlt : b < w.heap.size) (o : Obj) : CandAt (w.alloc o) b n nm c p r i := by
  obtain ⟨a0, a1, a2, a3, a4, a5⟩ := h
  exact ⟨(World.cell?_alloc_lt _ _ _ hlt).trans a0, (World.cell?_alloc_lt _ _ _ hlt).trans a1, (World.cell?_alloc_lt _ _ _ hlt).trans a2, (World.cell?_alloc_lt _ _ _ hlt).trans a3, (World.cell?_alloc_lt _ _ _ hlt).trans a4, (World.cell?_alloc_lt _ _ _ hlt).trans a5⟩
theorem CandAt.new (w : World) (n : Int) (nm : ByteArray) (c p r i : Int) (t : TypeId) : CandAt (w.alloc (.cells #[.int .i64 n, .string nm, .int .i64 c, .int .i64 p, .int .i64 r, .int .i64 i] t)) w.heap.size n nm c p r i := by
  refine ⟨?_, ?_, ?_, ?_, ?_, ?_⟩ <;> simp [go_sem]
end
set_option maxHeartbeats 1600000 in
/-- pfair.ends. -/
theorem ends_any (n : Int) (nm : ByteArray) (c p r i : Int) (w : World) (h0 : -1099511627776 ≤ r) (h1 : r ≤ 1099511627776) :
    Calls Tryz.prog 45 #[.agg #[.int .i64 n, .string nm, .int .i64 c, .int .i64 p, .int .i64 r, .int .i64 i]] w fun e w' => e = .returned (.int .i64 (endsV c p r i)) ∧ Below w.heap.size w w' := by
  cases hv : hvB c p
  · have HF := Lib.hid (show endsV c p r i = 0 by simp [endsV, hv])
    have HV := Lib.hid hv
    clear hv
    go_enter Tryz.func45, Tryz.ntmps45
    go_wp2_with fail
    refine (heavy_any nm c p _).mono ?_
    rintro e w1 ⟨rfl, hb1⟩
    rw [HV.out]
    go_wp2_with fail
    go_ret
    exact ⟨ret_int HF.out.symm, ((Below.refl _ _).alloc (Nat.le_refl _) _).trans (hb1.mono (by simp))⟩
  · have HF := Lib.hid (show endsV c p r i = r + grp c p i by simp [endsV, hv])
    have HV := Lib.hid hv
    clear hv
    obtain ⟨g0, g1⟩ := grp_bd (c := c) (p := p) (i := i)
    go_enter Tryz.func45, Tryz.ntmps45
    go_wp2_with fail
    refine (heavy_any nm c p _).mono ?_
    rintro e w1 ⟨rfl, hb1⟩
    rw [HV.out]
    have hz1 : w.heap.size < w1.heap.size := by have := hb1.size; simp at this; omega
    obtain ⟨a0, a1, a2, a3, a4, a5⟩ := (CandAt.new w n nm c p r i 71).keep hb1 (by simp)
    have b1 : Below w.heap.size w w1 := ((Below.refl _ _).alloc (Nat.le_refl _) _).trans (hb1.mono (by simp))
    clear hb1
    have hw : IntKind.i64.wrap (r + grp c p i) = r + grp c p i := IntWalk.i64_in _ (by omega)
    go_wp2_with fail
    refine wp_region_quiet (C := fun W => Below w1.heap.size w1 W) (by kernel_rfl) (by kernel_rfl) (Below.refl _ _).drew ?_
    repeat (
      refine wpQuiet_step (fun K hK => ?_)
      go_simp
      first
        | (refine hK _ ?_; clear hK K)
        | (apply Exists.intro
           refine ⟨fun W q0 => ?_, hK _ ?_⟩
           (first
             | rfl
             | (have qc := (bcell q0).1; go_simp; rfl)
             | (go_at_call 72; ((with_reducible refine (group_any nm c p i _).mono ?_)); rintro e w5 ⟨rfl, hb5⟩; exact ⟨rfl, q0.trans (hb5.mono q0.size)⟩))
           clear hK K))
    refine wpQuiet_nil ?_
    intro W hW
    go_wp2_with fail
    go_ret
    exact ⟨ret_int HF.out.symm, b1.trans (hW.mono (by omega))⟩
end
end Go.Proofs.YtfoadipocpopiaaGreat
