/- The walk over bigint.divide. Conditions: the digits lie in memory, without leading zeros. -/
import Derived.Test.YtfoadipocpopiaaGreatDivDigit
import Derived.Test.YtfoadipocpopiaaGreatLongDiv
import Derived.Test.YtfoadipocpopiaaGreatBits
import Derived.Deep.RegionHeld3
namespace Go.Proofs.YtfoadipocpopiaaGreat
open Go.RowKit Go.Deep

/-- The answer of divide. -/
def DivPost (n m : Nat) (f g : Nat → Nat) (w : World) (e : Ending) (w' : World) : Prop :=
  ∃ qa qn qc h ra rn rc r, e = .returned (.tuple #[.slice qa qn qc, .slice ra rn rc]) ∧ Nrm h qn ∧ Nrm r rn ∧ vl h qn = vl f n / vl g m ∧ vl r rn = vl f n % vl g m ∧ qn ≤ n ∧ rn ≤ n ∧ qn ≤ qc ∧ qc ≤ 9223372036854775807 ∧ rn ≤ rc ∧ rc ≤ 9223372036854775807 ∧ DAt w' w'.heap.size qa qn h ∧ DAt w' w'.heap.size ra rn r ∧ Below w.heap.size w w'

theorem RowU.keepB {w w' : World} {N b o n : Nat} {f : Nat → Nat} (h : RowU w b o n f) (hb : Below N w w') (hN : b < N) : RowU w' b o n f := h.of_block (hb.block b hN)
theorem RowU.oth {w w' : World} {c b o n : Nat} {f : Nat → Nat} (h : RowU w b o n f) (hb : Oth c w w') (hN : b ≠ c) : RowU w' b o n f := h.of_block (hb.block b hN)

set_option maxRecDepth 100000 in
set_option maxHeartbeats 6400000 in
theorem divide_less (n m : Nat) (f g : Nat → Nat) (a c : Option Addr) (cap cap' : Nat) (w : World) (hn : n ≤ 50000) (hm : m ≤ 50000) (hf : Nrm f n) (hg : Nrm g m) (hcap : n ≤ cap) (hcm : cap ≤ 9223372036854775807) (ha : DAt w w.heap.size a n f) (hc : DAt w w.heap.size c m g) (hlt : vl f n < vl g m) :
    Calls Tryz.prog 82 #[.slice a n cap, .slice c m cap'] w (DivPost n m f g w) := by
  have HC := compare_any n m f g a c cap cap' w (by omega) (by omega) hf hg ha hc
  rw [cmpN_lt hlt] at HC
  have HV := Lib.hid (And.intro (Nat.div_eq_of_lt hlt) (Nat.mod_eq_of_lt hlt))
  clear hlt
  go_enter Tryz.func82, Tryz.ntmps82
  go_wp2_with (go_at_call 54; refine HC.mono ?_; rintro e w1 ⟨rfl, hb1⟩)
  go_ret2
  exact ⟨none, 0, 0, f, a, n, cap, f, rfl, Nrm.zero, hf, by rw [HV.out.1]; rfl, HV.out.2.symm, by omega, by omega, by omega, by omega, hcap, hcm, DAt.zero _ _ _ _, ha.on hb1 hb1.size, hb1⟩

set_option maxRecDepth 100000 in
set_option maxHeartbeats 6400000 in
theorem divide_one (n : Nat) (f g : Nat → Nat) (a c : Option Addr) (cap cap' : Nat) (w : World) (hn : n ≤ 50000) (hf : Nrm f n) (hg : Nrm g 1) (ha : DAt w w.heap.size a n f) (hc : DAt w w.heap.size c 1 g) (hle : ¬ vl f n < vl g 1) :
    Calls Tryz.prog 82 #[.slice a n cap, .slice c 1 cap'] w (DivPost n 1 f g w) := by
  have HC := compare_any n 1 f g a c cap cap' w (by omega) (by omega) hf hg ha hc
  have hz : ¬ cmpN (vl f n) (vl g 1) < 0 := by unfold cmpN; rw [if_neg hle]; split <;> omega
  have hd := hg.1 0 (by omega)
  have hd0 : 0 < g 0 := by rcases hg.2 with h | h <;> simp at h; omega
  have hn1 : 1 ≤ n := by
    rcases Nat.eq_zero_or_pos n with h | h
    · subst h; exact absurd (by rw [vl, vl_one]; exact hd0) hle
    · exact h
  generalize cmpN (vl f n) (vl g 1) = z at *
  have HS := Lib.hid (fun W (hb : Below w.heap.size w W) => divideSmall_any n (g 0) f a cap W (by omega) hd0 hd hf.1 (ha.on hb hb.size))
  obtain ⟨b, off, rfl, hbN, hcell⟩ := hc (by omega)
  have c0 := hcell 0 (by omega)
  rw [Nat.add_zero] at c0
  have hm0 : vl f n % g 0 < g 0 := Nat.mod_lt _ hd0
  have hr32 : ((vl f n % g 0 : Nat) : Int) % 4294967296 = ((vl f n % g 0 : Nat) : Int) := by
    have hB : BB = 4294967296 := rfl
    omega
  have hrB : vl f n % g 0 < BB := by omega
  have HE := Lib.hid (vl_one (f := g))
  have hwu := u64_nat (g 0) (by have hB : BB = 4294967296 := rfl; omega)
  generalize hrr : vl f n % g 0 = r0 at *
  have HR := Lib.hid hrr
  clear hcell hle hg hf ha hc hrr
  go_enter Tryz.func82, Tryz.ntmps82
  go_upto_region 5 with (first
    | (go_at_call 54; refine HC.mono ?_; rintro e w1 ⟨rfl, hb1⟩; have c1 := keep_cellN hb1 hbN c0; have hbw : b < w1.heap.size := (by have := hb1.size; omega))
    | (go_at_call 97; refine (HS.out _ hb1).mono ?_; rintro e w2 ⟨a', k, c', h, rfl, h1, hv, h2, h3, h4, h5, hb2⟩))
  have hd1 : DAt (w2.alloc (.cells #[.int .u32 r0] 108)) (w2.alloc (.cells #[.int .u32 r0] 108)).heap.size (some ⟨w2.heap.size, 0, none⟩) 1 (fun _ => r0) := fun _ => ⟨w2.heap.size, 0, rfl, by simp, fun i hi => by
    obtain rfl : i = 0 := by omega
    have hbk := Go.Deep.blk_alloc_new w2 (.cells #[.int .u32 r0] 108)
    simp only [World.cell?, hbk]; rfl⟩
  have b2 := hb1.trans (hb2.mono hb1.size)
  have b3 := b2.alloc b2.size (.cells #[.int .u32 r0] 108)
  have HT := Lib.hid (trim_any 1 (fun _ => r0) (some ⟨w2.heap.size, 0, none⟩) 1 _ (by omega) (by omega) (by omega) (fun _ _ => hrB) hd1)
  have h6 := h5.on ((Below.refl _ w2).alloc (Nat.le_refl _) (.cells #[.int .u32 r0] 108)) (by simp)
  have HVV := Lib.hid hv
  clear hd1 b2 hb1 hb2 h5 hv
  go_wp2_with (go_at_call 83; refine HT.out.mono ?_; rintro e w3 ⟨a2, k2, c2, rfl, t1, t2, t3, t4, _, hb3⟩)
  go_ret2
  refine ⟨a', k, c', h, a2, k2, c2, _, rfl, h1, t1.nrm (fun _ _ => hrB), by rw [HVV.out, HE.out], by rw [t1.val, vl_one, HE.out, HR.out], h2, by have := t1.1; omega, h3, h4, t2, t3, h6.on hb3 hb3.size, t4.on hb3 hb3.size, b3.trans (hb3.mono b3.size)⟩

/-- What the last region of divide keeps: the rest and the quotient. -/
def SD (w : World) (ba bq n cnt : Nat) (R q : Nat → Nat) (W : World) : Prop := RowU W ba 0 (n + 1) R ∧ RowU W bq 0 cnt q ∧ Below w.heap.size w W
theorem SD.next {w W W' : World} {ba bq n cnt : Nat} {R q : Nat → Nat} (h : SD w ba bq n cnt R q W) (hb : Below W.heap.size W W') : SD w ba bq n cnt R q W' :=
  ⟨h.1.keepB hb h.1.lt, h.2.1.keepB hb h.2.1.lt, h.2.2.trans (hb.mono h.2.2.size)⟩
theorem SD.drew {w W : World} {ba bq n cnt : Nat} {R q : Nat → Nat} (h : SD w ba bq n cnt R q W) : SD w ba bq n cnt R q W.drew := h.next (Below.refl _ _).drew
theorem SD.dat1 {w W : World} {ba bq n cnt k : Nat} {R q : Nat → Nat} {a : Option Addr} (h : SD w ba bq n cnt R q W) (ht : TrimOf cnt q k) (ha : k = 0 ∨ a = some ⟨bq, 0, none⟩) : DAt W W.heap.size a k q := h.2.1.dat.trim ht.1 ha
theorem SD.bel {w W : World} {ba bq n cnt : Nat} {R q : Nat → Nat} (h : SD w ba bq n cnt R q W) : Below w.heap.size w W := h.2.2

set_option maxRecDepth 100000 in
set_option maxHeartbeats 6400000 in
theorem divide_many (n m : Nat) (f g : Nat → Nat) (a c : Option Addr) (cap cap' : Nat) (w : World) (hn : n ≤ 50000) (hm : m ≤ 50000) (hm2 : 2 ≤ m) (hf : Nrm f n) (hg : Nrm g m) (hcap : m ≤ cap') (ha : DAt w w.heap.size a n f) (hc : DAt w w.heap.size c m g) (hle : ¬ vl f n < vl g m) :
    Calls Tryz.prog 82 #[.slice a n cap, .slice c m cap'] w (DivPost n m f g w) := by
  have HC := compare_any n m f g a c cap cap' w (by omega) (by omega) hf hg ha hc
  have hz : ¬ cmpN (vl f n) (vl g m) < 0 := by unfold cmpN; rw [if_neg hle]; split <;> omega
  have hmn : m ≤ n := by
    rcases Nat.lt_or_ge n m with h | h
    · exact absurd (vl_short hf hg h) hle
    · exact h
  obtain ⟨t, cnt, ht, hcnt⟩ : ∃ t cnt, m = t + 1 ∧ n + 1 = m + cnt := ⟨m - 1, n + 1 - m, by omega, by omega⟩
  have hd := hg.1 t (by omega)
  have hd0 : 0 < g t := by rcases hg.2 with h | h; omega; rw [ht, Nat.add_sub_cancel] at h; omega
  obtain ⟨s, hs, hs1, hs2, hs3⟩ := shift_ex (g t) hd0 hd
  obtain ⟨p1, p2⟩ := pow2_le hs
  have HND := Lib.hid (fun dv (h1 : Dg dv (m + 1)) (h2 : vl dv (m + 1) = vl g m * 2 ^ s) => show vl dv m = vl g m * 2 ^ s ∧ 2147483648 ≤ dv t ∧ vl g m * 2 ^ s < BB ^ m ∧ 2147483648 * BB ^ t ≤ vl g m * 2 ^ s from by
    subst ht
    exact norm_div (dv := dv) (m := t) hg.1 (pow2_dvd hs) hs2 hs1 h1 h2)
  have HSL := Lib.hid (fun D (hD : 2147483648 * BB ^ t ≤ D) => start_lt (n := n) (m := t) (cnt := cnt) hf.1 p2 p1 hD (by omega))
  have HMD := Lib.hid (mul_div_mod (a := vl f n) (b := vl g m) (P := 2 ^ s) p1)
  have HLZ := Lib.hid (fun W => lz32_any (g t) s W hd hs hs3)
  have HSA := Lib.hid (fun W (hb : Below w.heap.size w W) => shifted_any n s f a cap W (by omega) hs hf.1 (ha.on hb hb.size))
  have HSB := Lib.hid (fun W (hb : Below w.heap.size w W) => shifted_any m s g c cap' W (by omega) hs hg.1 (hc.on hb hb.size))
  obtain ⟨b, off, rfl, hbN, hcell⟩ := hc (by omega)
  have c0 := hcell t (by omega)
  have k1 : (m : Int) - 1 = (t : Int) := by omega
  have k2 : (t : Int) < (m : Int) := by omega
  have k3 : ¬ (m : Int) = 1 := by omega
  have k4 : ((m : Int) == 1) = false := beq_eq_false_iff_ne.2 k3
  have k5 : (n : Int) - (m : Int) + 1 = (cnt : Int) := by omega
  have hmk := make_u32 cnt (by omega)
  have hsI : (s : Int) ≤ 31 := by omega
  have HT := Lib.hid (And.intro ht hcnt)
  have hnI : (n : Int) ≤ 50000 := by omega
  have hcntI : (cnt : Int) ≤ 50001 := by omega
  generalize cmpN (vl f n) (vl g m) = z at *
  clear hcell hle hg hf ha hs1 hs2 hs3 p1 p2 hd0 ht hcnt
  generalize g t = d at *
  go_enter Tryz.func82, Tryz.ntmps82
  go_upto_region 6 with (go_at_call 54; refine HC.mono ?_; rintro e w1 ⟨rfl, hb1⟩; have c1 := keep_cellN hb1 hbN c0; have hbw : b < w1.heap.size := (by have := hb1.size; omega))
  go_upto_region 7 with (go_at_call 98; refine (HLZ.out _).mono ?_; rintro e w2 ⟨rfl, rfl⟩)
  go_upto_region 8 with (go_at_call 99; refine (HSB.out _ hb1).mono ?_; rintro e w2 ⟨bb, dv, rfl, hbb, hrb, hdb, hvb, hb2⟩)
  go_upto_region 9 with (go_at_call 99; refine (HSA.out _ (hb1.trans (hb2.mono hb1.size))).mono ?_; rintro e w3 ⟨ba, R0, rfl, hba, hra, hda, hva, hb3⟩)
  obtain ⟨n1, n2, n3, n4⟩ := HND.out dv hdb hvb
  have hld := Lib.hid (LD.start (m := m) (cnt := cnt) hda hva (HSL.out _ n4))
  have hdm : Dg dv m := fun i hi => hdb i (by omega)
  generalize hD : vl g m * 2 ^ s = D at *
  have HDE := Lib.hid hD
  generalize hA : vl f n * 2 ^ s = A at *
  have HAE := Lib.hid hA
  have b12 := hb1.trans (hb2.mono hb1.size)
  have b13 := b12.trans (hb3.mono b12.size)
  have hbl2 := hrb.lt
  have hbl3 := hra.lt
  have q1 := hb1.size
  have q2 := hb2.size
  have q3 := hb3.size
  have rb3 := hrb.keepB hb3 hbl2
  have b14 := b13.alloc b13.size (.cells (madeCells #[.int .u32 0] cnt) 108)
  have bx := (Below.refl w3.heap.size w3).alloc (Nat.le_refl _) (.cells (madeCells #[.int .u32 0] cnt) 108)
  have rb4 := rb3.keepB bx (by omega)
  have ra4 := hra.keepB bx (by omega)
  have rq4 := RowU.made w3 cnt
  have HN := Lib.hid (And.intro n1 (And.intro n2 n3))
  have HDM := Lib.hid hdm
  clear HSA HSB HC HLZ HSL HND hvb hva hdb hda n1 n2 n3 n4 hD hA hdm hb1 hb2 hb3 b12 b13 bx rb3 hra hrb c0 c1
  go_wp2_with fail
  generalize w3.alloc (.cells (madeCells #[.int .u32 0] cnt) 108) = w4 at *
  generalize w3.heap.size = bq at *
  go_loopw [62] (fun u wr => ∃ (k : Nat) (R q : Nat → Nat), u = .int .i64 k ∧ k ≤ cnt ∧ RowU wr ba 0 (n + 1) R ∧ RowU wr bq 0 cnt q ∧ RowU wr bb 0 (m + 1) dv ∧ Hid (LD n m cnt A D R q (cnt - k)) ∧ Below w.heap.size w wr) (fun u _ => cnt - (intOf u).toNat)
  case atStart => exact ⟨0, R0, _, rfl, by omega, ra4, rq4, rb4, hld, b14⟩
  case round =>
    obtain ⟨k, R, q, rfl, hk, hra, hrq, hrb, hld, hbl⟩ := hrel
    clear ra4 rq4 rb4 b14
    by_cases h0 : k < cnt
    · obtain ⟨j, hj⟩ : ∃ j, cnt = j + 1 + k := ⟨cnt - 1 - k, by omega⟩
      have hpr := hld.out
      rw [show cnt - k = j + 1 by omega] at hpr
      have HM := Lib.hid (show cnt - (k + 1) = j by omega)
      have hjn : j + m + 1 ≤ n + 1 := by have := HT.out.2; omega
      have hjc : j < cnt := by omega
      have HPART := Lib.hid (hpr.part HN.out.2.2 hjn)
      have hD0 : 0 < D := by
        have h1 := HN.out.2.2
        have h2 := hpr.lt
        rcases Nat.eq_zero_or_pos D with h | h
        · rw [h] at h2; omega
        · exact h
      have HSTEP := Lib.hid (fun R' h1 h2 h3 => hpr.step (R' := R') HN.out.2.2 hD0 hjn hjc h1 h2 h3)
      have HDG := Lib.hid hpr.dR
      have k6 : (cnt : Int) - 1 - (k : Int) = (j : Int) := by omega
      have k7 : (k : Int) < (cnt : Int) := by omega
      have k8 : (j : Int) < (cnt : Int) := by omega
      have HTOP := Lib.hid (show 2147483648 ≤ dv (m - 1) by have h1 := HN.out.2.1; have h2 := HT.out.1; rw [h2, Nat.add_sub_cancel]; exact h1)
      have hne1 : bb ≠ ba := by omega
      have hne2 : bq ≠ ba := by omega
      have hne3 : bq ≠ bb := by omega
      have HC := divDigit_any m (n + 1) j R dv ba bb 0 (n + 1 - j) (m + 1) wr hm2 (by omega) hjn hra hpr.dR HDM.out hne1 (fun i hi => hrb.cell (by omega)) HTOP.out (by rw [HN.out.1]; exact HPART.out)
      rw [HN.out.1] at HC
      have hjm : j + m + 1 - j = m + 1 := by omega
      clear hld hpr hj hra HPART
      generalize vl (fun i => R (j + i)) (m + 1) / D = Q at *
      go_upto_region 16 with (go_at_call 100; rw [hjm]; refine HC.mono ?_; rintro e w5 ⟨R', rfl, hra, hdr, hfar, hvr, hot⟩; have gq := (hrq.oth hot hne2).frozen j; have gl := (hrq.oth hot hne2).cell0 hjc; have hbq : bq < w5.heap.size := (hrq.oth hot hne2).lt)
      have hS := Lib.hid (HSTEP.out R' hdr hfar hvr)
      have hrq' := (hrq.oth hot hne2).put hjc Q _ rfl
      have hrb' := hrb.oth hot hne1
      have hbl' := hbl.trans (hot.below (show w.heap.size ≤ ba by omega))
      clear HSTEP hdr hfar hvr
      go_wp2_with fail
      go_roundw
      case rel => exact ⟨k + 1, R', updG q j Q, by go_num, by omega, hra.of_block (Below.heap_setCell _ _ _ _ (Ne.symm hne2)), hrq', hrb'.of_block (Below.heap_setCell _ _ _ _ (Ne.symm hne3)), Lib.hid (by rw [HM.out]; exact hS.out), hbl'.setCell (show w.heap.size ≤ bq by omega) _⟩
      case measure => simp [intOf]; omega
    · obtain rfl : k = cnt := by omega
      have hdn := hld.out
      rw [Nat.sub_self] at hdn
      obtain ⟨v1, v2⟩ := hdn.done HN.out.2.2 (by omega)
      have HV1 := Lib.hid (v1.trans HMD.out.1)
      have HV2 := Lib.hid v2
      have HDQ := Lib.hid hdn.dq
      have HDR := Lib.hid (show Dg R m from fun i hi => hdn.dR i (by omega))
      have s0 : SD w ba bq n k R q wr := ⟨hra, hrq, hbl⟩
      have HT1 := fun W (h : SD w ba bq n k R q W) => trim_any k q (some ⟨bq, 0, none⟩) k W (by omega) (Nat.le_refl _) (by omega) HDQ.out h.2.1.dat
      have HU := fun W (h : SD w ba bq n k R q W) => unshifted_any m s R (some ⟨ba, 0, none⟩) (n + 1) W (by omega) hs HDR.out (h.1.dat.less (by omega))
      have HT2 := fun W bu h (hd : Dg h m) (hr : RowU W bu 0 m h) => trim_any m h (some ⟨bu, 0, none⟩) m W (by omega) (Nat.le_refl _) (by omega) hd hr.dat
      have g1 : (0 : Int) ≤ (m : Int) := by omega
      have g2 : (m : Int) ≤ (n : Int) + 1 := by omega
      have g3 : (m : Int) ≤ ((n + 1 : Nat) : Int) := by omega
      clear hdn v1 v2 hld hra hrq hbl hrb
      go_upto_region 17 with fail
      go_region_held3 (fun W => SD w ba bq n k R q W)
        (first
          | exact s0
          | exact s0.drew
          | assumption
          | exact SD.next (by assumption) (by assumption))
        (first
          | (go_at_call 83; (with_reducible refine (HT1 _ (by assumption)).mono ?_); rintro e w6 ⟨a1, k1, c1, rfl, t1, t2, t3, t4, hq1, hbT1⟩)
          | (go_at_call 101; refine (HU _ (by assumption)).mono ?_; rintro e w5 ⟨bu, h, rfl, u1, hru, u2, u3, hbU⟩)
          | (go_at_call 83; (with_reducible refine (HT2 _ bu h u2 (by first | exact hru | exact hru.keepB hbT1 hru.lt)).mono ?_); rintro e w7 ⟨a2, k2, c2, rfl, r1, r2, r3, r4, hq2, hbT2⟩))
      all_goals go_wp2_with fail
      all_goals (
        go_ret2
        exact ⟨a1, k1, c1, q, a2, k2, c2, h, rfl, t1.nrm HDQ.out, r1.nrm u2, t1.val.trans HV1.out, (r1.val.trans u3).trans (by rw [HV2.out]; exact HMD.out.2),
          by have h1 := HT.out.2; have h2 := t1.1; omega, by have := r1.1; omega, t2, t3, r2, r3, SD.dat1 (by assumption) t1 hq1,
          DAt.trim (RowU.dat (by first | exact hru.keepB hbT2 hru.lt | exact (hru.keepB hbT1 hru.lt).keepB hbT2 (hru.keepB hbT1 hru.lt).lt | exact (hru.keepB hbT2 hru.lt).keepB hbT1 (hru.keepB hbT2 hru.lt).lt)) r1.1 hq2,
          SD.bel (by assumption)⟩)
theorem divide_any (n m : Nat) (f g : Nat → Nat) (a c : Option Addr) (cap cap' : Nat) (w : World) (hn : n ≤ 50000) (hm : m ≤ 50000) (hm0 : 0 < m) (hf : Nrm f n) (hg : Nrm g m) (hcap : n ≤ cap) (hcm : cap ≤ 9223372036854775807) (hcap' : m ≤ cap') (ha : DAt w w.heap.size a n f) (hc : DAt w w.heap.size c m g) :
    Calls Tryz.prog 82 #[.slice a n cap, .slice c m cap'] w (DivPost n m f g w) := by
  by_cases h1 : vl f n < vl g m
  · exact divide_less n m f g a c cap cap' w hn hm hf hg hcap hcm ha hc h1
  · by_cases h2 : m = 1
    · subst h2
      exact divide_one n f g a c cap cap' w hn hf hg ha hc h1
    · exact divide_many n m f g a c cap cap' w hn hm (by omega) hf hg hcap' ha hc h1
end Go.Proofs.YtfoadipocpopiaaGreat
