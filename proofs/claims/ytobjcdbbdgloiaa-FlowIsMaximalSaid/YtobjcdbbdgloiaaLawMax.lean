/- The walk over FlowIsMaximal. Conditions: the arguments lie in memory. -/
import Derived.Test.YtobjcdbbdgloiaaMaxP
import Derived.Test.YtobjcdbbdgloiaaMapS
import Derived.Test.YtobjcdbbdgloiaaLawCut
import Derived.BigQuiet
namespace Go.Proofs.Ytobjcdbbdgloiaa
open Go.RowKit Go.Deep

/-- What is reached so far, and what is still to be looked at. -/
structure Rch (n : Nat) (lv : Nat → Int) (T : Int → Bool) (q : List Nat) (e : Nat) : Prop where
  ok : ∀ v : Nat, v < n → T v = true → 0 ≤ lv v
  mem : ∀ x ∈ q, x < n ∧ 0 ≤ lv x
  ent : (e : Int) ≤ cntB n fun i => T i
  len : ((n : Int) - cntB n fun i => T i).toNat + q.length ≤ n
theorem Rch.add {n e j : Nat} {lv : Nat → Int} {T : Int → Bool} {q : List Nat} (h : Rch n lv T q e) (hj : j < n) (hT : T j = false) (hl : 0 ≤ lv j) :
    Rch n lv (fun x => if x = (j : Int) then true else T x) (q ++ [j]) (e + 1) ∧ ((n : Int) - cntB n fun i => (fun x => if x = (j : Int) then true else T x) (i : Int)).toNat + (q ++ [j]).length = ((n : Int) - cntB n fun i => T i).toNat + q.length := by
  have e1 : (fun i : Nat => (fun x => if x = (j : Int) then true else T x) (i : Int)) = addB (fun i : Nat => T i) j := by
    funext i
    unfold addB
    by_cases h : i = j
    · subst h; simp
    · show (if (i : Int) = (j : Int) then true else T i) = _
      rw [if_neg (by omega), if_neg h]
  have e2 := cntB_add (n := n) (S := fun i : Nat => T i) hj hT
  have e3 := (cntB_bd n (addB (fun i : Nat => T i) j)).2
  have hlen := h.len
  have hent := h.ent
  have key : ((n : Int) - cntB n fun i => (fun x => if x = (j : Int) then true else T x) (i : Int)).toNat + (q ++ [j]).length = ((n : Int) - cntB n fun i => T i).toNat + q.length := by
    rw [e1, e2]
    rw [e2] at e3
    simp only [List.length_append, List.length_cons, List.length_nil]
    omega
  refine ⟨⟨fun v hv hTv => ?_, fun x hx => ?_, ?_, ?_⟩, key⟩
  · by_cases e : v = j
    · subst e; exact hl
    · rw [if_neg (by omega)] at hTv; exact h.ok v hv hTv
  · rcases List.mem_append.1 hx with hx | hx
    · exact h.mem x hx
    · rw [List.mem_singleton.1 hx]; exact ⟨hj, hl⟩
  · rw [e1, e2]; omega
  · exact Nat.le_trans (Nat.le_of_eq key) hlen
theorem Rch.pop {n e u : Nat} {lv : Nat → Int} {T : Int → Bool} {q : List Nat} (h : Rch n lv T (u :: q) e) : Rch n lv T q e ∧ u < n ∧ 0 ≤ lv u :=
  ⟨⟨h.ok, fun x hx => h.mem x (List.mem_cons_of_mem _ hx), h.ent, by have := h.len; simp at this; omega⟩, (h.mem u (List.mem_cons_self ..)).1, (h.mem u (List.mem_cons_self ..)).2⟩
theorem Rch.init {n s : Nat} {lv : Nat → Int} (hs : s < n) (hl : lv s = 0) : Rch n lv (fun x => if x = (s : Int) then true else false) [s] 1 ∧ ((n : Int) - cntB n fun i => (fun x => if x = (s : Int) then true else false) (i : Int)).toNat + 1 = n := by
  have e1 : (fun i : Nat => (fun x => if x = (s : Int) then true else false) (i : Int)) = addB (fun _ => false) s := by
    funext i
    unfold addB
    by_cases h : i = s
    · subst h; simp
    · show (if (i : Int) = (s : Int) then true else false) = _
      rw [if_neg (by omega), if_neg h]
  have e2 := cntB_one hs
  refine ⟨⟨fun v hv hT => ?_, fun x hx => ?_, ?_, ?_⟩, ?_⟩
  · by_cases e : v = s
    · subst e; omega
    · rw [if_neg (by omega)] at hT; cases hT
  · rw [List.mem_singleton.1 hx]; exact ⟨hs, by omega⟩
  · rw [e1, e2]; omega
  · rw [e1, e2]; simp; omega
  · rw [e1, e2]; omega
theorem QW.kept {N g : Nat} {w w' : World} {v : Value} {q : List Nat} (h : QW N g w v q) (hg : w.grownBy w' (some g)) : QW N g w' v q :=
  ⟨h.1.kept hg fun k hk e => (h.2 k hk).2 (by injection e with e; exact e.symm), h.2⟩
theorem QW.head {N g u : Nat} {w : World} {v : Value} {q : List Nat} (h : QW N g w v (u :: q)) : ∃ b o cap, v = .slice (some ⟨b, o, none⟩) (q.length + 1) cap ∧ q.length + 1 ≤ cap ∧ cap ≤ 9223372036854775807 ∧ b < w.heap.size ∧ w.cell? ⟨b, o, none⟩ = some (.int .i64 u) := by
  obtain ⟨b, o, cap, rfl, hlt, h1, h2⟩ := h.1.form (by simp)
  exact ⟨b, o, cap, rfl, h1, h2, hlt, h.1.cell (j := 0) rfl⟩

set_option maxRecDepth 100000 in
set_option maxHeartbeats 6400000 in
theorem law_max (rs : List (List Int)) (a : Option Addr) (cap : Nat) (si ti : Int) (w : World) (hl : rs.length ≤ cap) (hcap : cap ≤ 9223372036854775807) (hr : RowsAt w w.heap.size a rs) (hrr : ∀ r ∈ rs, FitI r)
    (hs0 : 0 ≤ si) (hs1 : si ≤ 255) (ht0 : 0 ≤ ti) (ht1 : ti ≤ 255) :
    Calls Try.prog 3 #[.slice a rs.length cap, .int .u8 si, .int .u8 ti] w fun e w' => e = .returned (.bool true) ∧ Below w.heap.size w w' := by
  obtain ⟨s, rfl⟩ := Int.eq_ofNat_of_zero_le hs0
  obtain ⟨t, rfl⟩ := Int.eq_ofNat_of_zero_le ht0
  have HRR := Lib.hid hrr
  clear hrr
  have hmm := Lib.hid (@run_makeMap Try.prog)
  go_enter Try.func3, Try.ntmps3
  go_wp2_with fail
  refine (awake47_any _).mono ?_
  rintro e w1 ⟨rfl, hb1⟩
  have s1 := hb1.size
  have NW := Lib.hid (network_any rs a cap 14 (by decide) w1 (by omega) (hr.on hb1 s1) HRR.out)
  cases hn : netOK 14 rs
  · rw [hn] at NW
    go_wp2_with fail
    refine NW.out.mono ?_
    rintro e w2 ⟨rfl, rfl⟩
    go_wp2_with fail
    refine (awake47_any _).mono ?_
    rintro e w3 ⟨rfl, hb3⟩
    go_wp2_with fail
    go_ret
    exact ⟨rfl, hb1.trans (hb3.mono s1)⟩
  · rw [hn] at NW
    obtain ⟨n2, n14, hnet⟩ := netOK_bd hn
    have H400 := Lib.hid (netOK_more (k := 400) (by decide) hn)
    obtain ⟨O, o, rfl, _⟩ := rows_mat hr hn
    have HM := Lib.hid (fun W (h : RowsAt W W.heap.size (some ⟨O, o, none⟩) rs) => rows_mat h hn)
    have HB := Lib.hid (fun p q (hp : p < rs.length) (hq : q < rs.length) => (hnet p hp).2.2 q hq)
    have HZ := Lib.hid (fun p (hp : p < rs.length) => (hnet p hp).2.1)
    obtain ⟨e1, e2, e3⟩ := ends_ok (s := s) (t := t) n2
    have EA := Lib.hid (ends_any rs (some ⟨O, o, none⟩) cap s t w1 n2 (by omega) (by omega) (by omega))
    clear hn hnet
    generalize endA rs.length s = A at *
    generalize endB rs.length s t = B at *
    go_wp2_with fail
    refine NW.out.mono ?_
    rintro e w2 ⟨rfl, rfl⟩
    go_wp2_with fail
    refine EA.out.mono ?_
    rintro e w2 ⟨rfl, rfl⟩
    go_wp2_with fail
    refine (max_any rs (some ⟨O, o, none⟩) cap A B _ (by omega) (hr.on hb1 s1) HRR.out).mono ?_
    rintro e w2 ⟨hb2, ⟨h, rfl⟩ | ⟨h, h2, rfl⟩ | ⟨h, s', t', es, et, hs, ht, hst, val, r, O2, rfl, hsat, hO2, hm2⟩⟩
    · rw [H400.out] at h; cases h
    · exact absurd ⟨by omega, by omega, by omega, by omega, by omega⟩ h2
    · obtain rfl : A = s' := by omega
      obtain rfl : B = t' := by omega
      have b2 := hb1.trans (hb2.mono s1)
      have s2 := b2.size
      obtain ⟨O', o', he, hm⟩ := HM.out _ (hr.on b2 s2)
      obtain ⟨rfl, rfl⟩ : O = O' ∧ o = o' := by cases he; exact ⟨rfl, rfl⟩
      have HMC := Lib.hid hm
      have HMF := Lib.hid hm2
      have HSAT := Lib.hid hsat
      have HB2 := Lib.hid b2
      have hval0 := hsat.pos
      have hval1 := Int.le_trans (hsat.res.capS_le hs ht hst) (capS_bd hs (by omega) HB.out).2
      have HF := Lib.hid (show ∃ f : Nat → Nat → Int, f = flV (capOf rs) r from ⟨_, rfl⟩)
      obtain ⟨f, hf⟩ := HF.out
      have hf2 : (fun u v => max 0 (capOf rs u v - r u v)) = f := by rw [hf]; rfl
      rw [hf2] at HMF
      have FBD := Lib.hid (fun u v (hu : u < rs.length) (hv : v < rs.length) => show 0 ≤ f u v ∧ f u v ≤ capOf rs u v from by rw [hf]; exact flV_bd HSAT.out.res (fun p q hp hq => (HB.out p q hp hq).1) hu hv)
      have FNET := Lib.hid (fun x (hx : x < rs.length) => show netV f rs.length rs.length 0 x = exOf A B val x from by rw [netV_end hx, hf]; exact flV_net HSAT.out.res hx)
      have FRES := Lib.hid (fun u v (hu : u < rs.length) (hv : v < rs.length) (hh : f u v < capOf rs u v ∨ 0 < f v u) => show 0 < r u v from by rw [hf] at hh; exact flV_res HSAT.out.res (fun p q hp hq => (HB.out p q hp hq).1) hu hv hh)
      have NBD := Lib.hid (fun k m x (hx : x < rs.length) => netV_bd (f := f) (n := rs.length) (fun i j hi hj => ⟨(FBD.out i j hi hj).1, Int.le_trans (FBD.out i j hi hj).2 (HB.out i j hi hj).2⟩) (k := k) (m := m) hx)
      have hne : ((rs.length : Int) != (rs.length : Int)) = false := by simp
      obtain ⟨i0, hi0, hz0, hz1, hz2⟩ := info_parts info_int
      have hmk := run_make (P := Try.prog) w2 30 3 i0 _ Try.underlying30 hi0 hz0 .i64 .i64 rs.length rs.length (by omega) (by omega) (by rw [hz2]; omega) (by omega)
      simp only [Int.toNat_natCast, hz1, Value.cells, Nat.mul_one] at hmk
      clear hi0 hz0 hz1 hz2 hm hm2 hsat hb2 he es et hf hf2 HF h EA NW HM hO2 hr
      have hnI : (rs.length : Int) ≤ 14 := by omega
      have hn2 : (2 : Int) ≤ (rs.length : Int) := by omega
      generalize hnn : rs.length = n at *
      generalize hcc : capOf rs = c at *
      have HNN := Lib.hid hnn
      clear hnn hcc
      go_upto_region 8 with fail
      clear hmk hne
      have hrow := World.rowIs_made w2 (.int .i64 0) n 3
      have b3 : Below w2.heap.size w2 (w2.alloc (.cells (madeCells #[.int .i64 0] n) 3)) := (Below.refl _ _).alloc (Nat.le_refl _) _
      have s3 : w2.heap.size < (w2.alloc (.cells (madeCells #[.int .i64 0] n) 3)).heap.size := by simp
      generalize w2.alloc (.cells (madeCells #[.int .i64 0] n) 3) = w3 at *
      generalize hG : w2.heap.size = G at *
      have HG := Lib.hid hG
      clear hG
      go_wp2_with fail
      go_loopw [59] (fun u wr => ∃ k : Nat, u = .int .i64 k ∧ k ≤ n ∧ Hid (wr.rowIs G 3 n (fun x => .int .i64 (netV f n k 0 x))) ∧ Below G w2 wr ∧ G < wr.heap.size) (fun u _ => n - (intOf u).toNat)
      case atStart => exact ⟨0, rfl, by omega, hrow.congr (fun x _ => by rw [netV_zero]), b3, s3⟩
      case round =>
        obtain ⟨k, rfl, hk, hrw, hbl, hsl⟩ := hrel
        clear hrow b3 s3
        by_cases hlt : k < n
        · have k0 : (0 : Int) ≤ (k : Int) := by omega
          have k1 : (k : Int) < (n : Int) := by omega
          obtain ⟨hOl, hMr⟩ := HMC.out
          obtain ⟨hO2l, hM2r⟩ := HMF.out
          obtain ⟨rb, rf, rc, c0, c1, c2, c3, c4⟩ := hMr k hlt
          obtain ⟨ra, rg, rd, d0, d1, d2, d3, d4⟩ := hM2r k hlt
          rw [Nat.zero_add] at d0
          have HC0 := Lib.hid c0
          have HC4 := Lib.hid c4
          have HD4 := Lib.hid d4
          have d0 := keep_cellN hbl hO2l d0
          have hOw : O < wr.heap.size := by omega
          have hO2w : O2 < wr.heap.size := by omega
          have hne : ((n : Int) != (n : Int)) = false := by simp
          clear c0 c4 d4 hMr hM2r
          go_upto_region 14 with fail
          clear d0 hne
          go_loopw [75] (fun u wr => ∃ m : Nat, u = .int .i64 m ∧ m ≤ n ∧ Hid (wr.rowIs G 3 n (fun x => .int .i64 (netV f n k m x))) ∧ Below G w2 wr ∧ G < wr.heap.size) (fun u _ => n - (intOf u).toNat)
          case atStart => exact ⟨0, rfl, by omega, hrw.out, hbl, hsl⟩
          case round =>
            obtain ⟨m, rfl, hm, hrw, hbl, hsl⟩ := hrel
            clear hOw hO2w
            by_cases hml : m < n
            · have m0 : (0 : Int) ≤ (m : Int) := by omega
              have m1 : (m : Int) < (n : Int) := by omega
              have x0 := keep_cellN hbl hOl HC0.out
              have x1 := keep_cellN hbl c3 (HC4.out m hml)
              have x2 := keep_cellN hbl d3 (HD4.out m hml)
              have hOw : O < wr.heap.size := by omega
              have hrb : rb < wr.heap.size := by omega
              have hra : ra < wr.heap.size := by omega
              obtain ⟨f0, f1⟩ := FBD.out k m hlt hml
              obtain ⟨_, g1⟩ := HB.out k m hlt hml
              have g0 := hrw.out.cell (i := k) hlt
              have g2 := hrw.out.frozen k
              obtain ⟨a0, a1⟩ := NBD.out k m k hlt
              have hmk : m = k → f k m = 0 := fun e => by
                subst e
                have z := HZ.out m hlt
                have := FBD.out m m hlt hlt
                omega
              have HNX := Lib.hid (fun x => netV_step (f := f) (n := n) hlt hml x)
              have HR5 := Lib.hid (hrw.out.set k (.int .i64 (netV f n k m k + f k m)))
              have NB := NBD.out k m m hml
              obtain ⟨A2, hA2⟩ : ∃ A2, A2 = if m = k then netV f n k m k + f k m else netV f n k m m := ⟨_, rfl⟩
              have hA2b : -100000000000 ≤ A2 ∧ A2 ≤ 100000000000 := by
                rw [hA2]
                split <;> omega
              have HRC : (if m = k then (Value.int .i64 (netV f n k m k + f k m)) else .int .i64 (netV f n k m m)) = .int .i64 A2 := by rw [hA2]; split <;> rfl
              have HFIN := Lib.hid (fun x => show (if x = m then A2 - f k m else if x = k then netV f n k m k + f k m else netV f n k m x) = netV f n k (m + 1) x from by
                rw [HNX.out x, hA2]
                by_cases e1 : x = m
                · subst e1
                  rw [if_pos rfl, if_pos rfl]
                  by_cases e2 : x = k
                  · subst e2
                    rw [if_pos rfl, if_pos rfl]
                  · rw [if_neg e2, if_neg e2]; omega
                · rw [if_neg e1, if_neg e1]
                  by_cases e2 : x = k
                  · subst e2
                    rw [if_pos rfl, if_pos rfl]; omega
                  · rw [if_neg e2, if_neg e2]; omega)
              have wc1 : IntKind.i64.wrap (netV f n k m k + f k m) = netV f n k m k + f k m := IntWalk.i64_in _ (by omega)
              have wc2 : IntKind.i64.wrap (A2 - f k m) = A2 - f k m := IntWalk.i64_in _ (by omega)
              clear HNX hrw hmk hA2
              have HRCh := Lib.hid HRC
              clear HRC
              generalize netV f n k m k = A1 at *
              generalize f k m = fv at *
              have b5 := hbl.setCell (p := ⟨G, k, none⟩) (Nat.le_refl _) (.int .i64 (A1 + fv))
              have s5 : G < (wr.setCell ⟨G, k, none⟩ (.int .i64 (A1 + fv))).heap.size := by simpa using hsl
              go_upto_region 19 with fail
              clear x0 x1 x2 g0 g2 hbl hOw hrb hra wc1
              generalize wr.setCell ⟨G, k, none⟩ (.int .i64 (A1 + fv)) = w6 at *
              have g0 := HR5.out.cell (i := m) hml
              rw [HRCh.out] at g0
              have g2 := HR5.out.frozen m
              have HR6 := Lib.hid ((HR5.out.set m (.int .i64 (A2 - fv))).congr (g := fun x => .int .i64 (netV f n k (m + 1) x)) (fun x _ => by
                have h := HFIN.out x
                rw [← h]
                split
                · rfl
                · split <;> rfl))
              clear HRCh HR5 HFIN
              go_wp2_with fail
              go_roundw
              case rel => exact ⟨m + 1, by go_num, by omega, HR6.out, b5.setCell (p := ⟨G, m, none⟩) (Nat.le_refl _) _, by simpa using s5⟩
              case measure => simp [intOf]; omega
            · obtain rfl : m = n := by omega
              have HRW := Lib.hid (hrw.out.congr (g := fun x => .int .i64 (netV f m (k + 1) 0 x)) (fun x hx => by rw [netV_row hx]))
              clear hrw
              go_wp2_with fail
              go_roundw
              case rel => exact ⟨k + 1, by go_num, by omega, HRW.out, hbl, hsl⟩
              case measure => simp [intOf]; omega
        · obtain rfl : k = n := by omega
          have HRW := Lib.hid (hrw.out.congr (g := fun x => .int .i64 (exOf A B val x)) (fun x hx => by rw [FNET.out x hx]))
          clear hrw FNET NBD HZ
          have wneg : wrap64 (-val) = -val := IntWalk.wrap64_in _ (by omega)
          have wneg2 : IntKind.i64.wrap (-val) = -val := IntWalk.i64_in _ (by omega)
          go_wp2_with fail
          go_loop [111] (fun u => ∃ x : Nat, u = .int .i64 x ∧ x ≤ k) (fun u => k - (intOf u).toNat)
          case atStart => exact ⟨0, rfl, by omega⟩
          case round =>
            obtain ⟨x, rfl, hx⟩ := hrel
            by_cases hxl : x < k
            · have x0 : (0 : Int) ≤ (x : Int) := by omega
              have x1 : (x : Int) < (k : Int) := by omega
              have g0 := HRW.out.cell (i := x) hxl
              have hAB : ((A : Int) == (B : Int)) = false := beq_eq_false_iff_ne.2 (by omega)
              have hBA : ((B : Int) == (A : Int)) = false := beq_eq_false_iff_ne.2 (by omega)
              have hAB2 : (A == B) = false := beq_eq_false_iff_ne.2 (by omega)
              have hBA2 : (B == A) = false := beq_eq_false_iff_ne.2 (by omega)
              by_cases eA : x = A
              · subst eA
                have hex : exOf x B val x = val := by unfold exOf; rw [if_pos rfl, if_neg hst]; omega
                rw [hex] at g0
                clear hex
                go_wp2_with fail
                go_round
                case rel => exact ⟨x + 1, by go_num, by omega⟩
                case measure => simp [intOf]; omega
              · by_cases eB : x = B
                · subst eB
                  have hex : exOf A x val x = -val := by unfold exOf; rw [if_neg eA, if_pos rfl]; omega
                  rw [hex] at g0
                  clear hex
                  go_wp2_with fail
                  go_round
                  case rel => exact ⟨x + 1, by go_num, by omega⟩
                  case measure => simp [intOf]; omega
                · have hex : exOf A B val x = 0 := by unfold exOf; rw [if_neg eA, if_neg eB]; rfl
                  rw [hex] at g0
                  have hA : ((x : Int) == (A : Int)) = false := beq_eq_false_iff_ne.2 (by omega)
                  have hB : ((x : Int) == (B : Int)) = false := beq_eq_false_iff_ne.2 (by omega)
                  have hA2 : (x == A) = false := beq_eq_false_iff_ne.2 (by omega)
                  have hB2 : (x == B) = false := beq_eq_false_iff_ne.2 (by omega)
                  clear hex
                  go_wp2_with fail
                  go_round
                  case rel => exact ⟨x + 1, by go_num, by omega⟩
                  case measure => simp [intOf]; omega
            · obtain rfl : x = k := by omega
              clear HRW wneg wneg2
              obtain ⟨w7, hrun, hbs, hg7⟩ := (BSet.new wr).put (by unfold maxLen; omega) (wf64 (k := (A : Int)) (by omega) (by omega))
              have hmm1 := hmm.out
              have hblG := hbl
              have hslG := hsl
              have hb7 : Below wr.heap.size wr w7 := ((Below.refl _ _).alloc (Nat.le_refl _) (.map #[] 0)).grown hg7 (by simp) (fun k hk => by injection hk with hk; omega)
              have hs7 : wr.heap.size < w7.heap.size := hbs.lt
              have HBS := Lib.hid hbs
              obtain ⟨lv, hL, hneg⟩ := HSAT.out.lev
              have HL := Lib.hid hL
              obtain ⟨hrc0, hm0⟩ := Rch.init hs hL.src0
              have HRC := Lib.hid hrc0
              clear hbl hsl hbs hg7 hL hrc0
              go_upto_region 29 with fail
              clear hrun hmm1
              generalize wr = wb at *
              generalize wb.heap.size = MB at *
              have HQ := Lib.hid (QW.one (N := MB) (g := MB) w7 rfl (by omega) (by omega) A)
              have HBS8 := Lib.hid (HBS.out.same (Below.heap_alloc w7 (.cells #[.int .i64 (A : Int)] 3) MB hs7))
              have b8 := hb7.alloc (Nat.le_of_lt hs7) (.cells #[.int .i64 (A : Int)] 3)
              have s8 : MB < (w7.alloc (.cells #[.int .i64 (A : Int)] 3)).heap.size := by simp; omega
              go_wp2_with fail
              generalize w7.alloc (.cells #[.int .i64 (A : Int)] 3) = w8 at *
              clear hb7 hs7 HBS
              obtain ⟨hOl, hMr⟩ := HMC.out
              obtain ⟨hO2l, hM2r⟩ := HMF.out
              have HMr := Lib.hid hMr
              have HM2r := Lib.hid hM2r
              clear hMr hM2r
              go_loopg [19] (x + 2) (fun gh qv wq => ∃ (T : Int → Bool) (q : List Nat) (e : Nat), ((x : Int) - cntB x fun i => T i).toNat + q.length < gh ∧ Hid (Rch x lv T q e) ∧ Hid (QW MB MB wq qv q) ∧ Hid (BSet wq MB e T) ∧ Below MB wb wq ∧ MB < wq.heap.size)
              case atStart => exact ⟨_, [A], 1, by simp only [List.length_cons, List.length_nil]; omega, HRC.out, HQ.out, HBS8.out, b8, s8⟩
              case round =>
                obtain ⟨T, q, e, hgh, hrc, hqw, hbs, hbl, hsl⟩ := hrel
                clear HRC HQ HBS8 b8 s8
                cases q with
                | nil =>
                  obtain ⟨qa, qc, rfl, _, _⟩ := hqw.out.1.form0
                  have hTB : T B = false := by
                    cases h : T B with
                    | false => rfl
                    | true => have := hrc.out.ok B ht h; omega
                  have hlook := hbs.out.look (k := (B : Int)) (wf64 (by omega) (by omega))
                  rw [hTB] at hlook
                  have HB9 := Lib.hid (HB2.out.trans ((hblG.trans (hbl.mono (by omega))).mono (by have := HB2.out.size; have := HG.out; omega)))
                  clear hrc hqw hbs hgh
                  go_wp2_with fail
                  go_ret
                  exact ⟨by first | rfl | exact ret_bool (by simp), HB9.out⟩
                | cons u q =>
                  obtain ⟨qb, qo, qc, rfl, q1, q2, q3, q4⟩ := hqw.out.head
                  obtain ⟨hrc', hu, hu0⟩ := hrc.out.pop
                  have hgh' : ((x : Int) - cntB x fun i => T i).toNat + q.length + 1 < gk := by simp only [List.length_cons] at hgh; omega
                  have hu00 : (0 : Int) ≤ (u : Int) := by omega
                  have hux : (u : Int) < (x : Int) := by omega
                  have hqI : (0 : Int) < ((q.length + 1 : Nat) : Int) := by omega
                  have hqI2 : (0 : Int) < (q.length : Int) + 1 := by omega
                  clear hgh hrc'
                  go_wp2_with fail
                  clear q1 q2 q3 q4
                  go_loopw [19, 165] (fun qv idx wq => ∃ (j : Nat) (T : Int → Bool) (q : List Nat) (e : Nat), idx = .int .i64 j ∧ j ≤ x ∧ ((x : Int) - cntB x fun i => T i).toNat + q.length + 1 < gk ∧ Hid (Rch x lv T (u :: q) e) ∧ Hid (QW MB MB wq qv (u :: q)) ∧ Hid (BSet wq MB e T) ∧ Below MB wb wq ∧ MB < wq.heap.size) (fun _ idx _ => x - (intOf idx).toNat)
                  case atStart => exact ⟨0, T, q, e, rfl, by omega, hgh', hrc.out, hqw.out, hbs.out, hbl, hsl⟩
                  case round =>
                    obtain ⟨j, T, q, e, rfl, hj, hgh, hrc, hqw, hbs, hbl, hsl⟩ := hrel
                    clear hgh' hqI hqI2
                    by_cases hlt : j < x
                    · have j0 : (0 : Int) ≤ (j : Int) := by omega
                      have j1 : (j : Int) < (x : Int) := by omega
                      have hblw := hblG.trans (hbl.mono (Nat.le_of_lt hslG))
                      obtain ⟨rb, rf, rc, c0, c1, c2, c3, c4⟩ := HMr.out u hu
                      obtain ⟨ra, rg, rd, d0, d1, d2, d3, d4⟩ := HM2r.out u hu
                      obtain ⟨re, rh, ri, g0, g1, g2, g3, g4⟩ := HM2r.out j hlt
                      have c0 := keep_cellN hblw hOl c0
                      have c4 := keep_cellN hblw c3 (c4 j hlt)
                      have d0 := keep_cellN hblw hO2l d0
                      have d4 := keep_cellN hblw d3 (d4 j hlt)
                      have g0 := keep_cellN hblw hO2l g0
                      have g4 := keep_cellN hblw g3 (g4 u hu)
                      rw [Nat.zero_add] at d0 g0
                      have y1 : O < wr.heap.size := by omega
                      have y2 : O2 < wr.heap.size := by omega
                      have y3 : rb < wr.heap.size := by omega
                      have y4 : ra < wr.heap.size := by omega
                      have y5 : re < wr.heap.size := by omega
                      have hlook : ∀ n, (Instr.lookup 31 (.map (some MB)) (.int .i64 (j : Int)) false).run Try.prog (wr.drewN n) = .ok (.bool (T (j : Int))) (wr.drewN n) := fun n => (hbs.out.same (w' := wr.drewN n) rfl).look (wf64 (by omega) (by omega))
                      have HRES := Lib.hid (FRES.out u j hu hlt)
                      have HLJ := Lib.hid (HL.out.cls u j hu hlt (hrc.out.mem u (List.mem_cons_self ..)).2)
                      have hent := hrc.out.ent
                      have hcn := (cntB_bd x (fun i => T i)).2
                      have hqlen := hrc.out.len
                      simp only [List.length_cons] at hqlen
                      generalize f u j = f1 at *
                      generalize f j u = f2 at *
                      generalize c u j = cu at *
                      clear hblw
                      have NEXT : ∀ nq, (0 ≤ lv j) → T j = false → ∃ w9, (Instr.mapUpdate 31 (.map (some MB)) (.int .i64 (j : Int)) (.bool true)).run Try.prog (wr.drewN nq) = .ok () w9 ∧ Below MB wb w9 ∧ MB < w9.heap.size ∧ Hid (BSet w9 MB (e + 1) (fun x => if x = (j : Int) then true else T x)) ∧ Hid (QW MB MB w9 u19 (u :: q)) := fun nq h0 hT => by
                        obtain ⟨w9, r9, s9, g9⟩ := (hbs.out.same (w' := wr.drewN nq) rfl).put (by unfold maxLen; omega) (wf64 (k := (j : Int)) (by omega) (by omega))
                        exact ⟨w9, r9, (below_drewN hbl nq).grown g9 (Nat.le_of_lt hsl) (fun k hk => by injection hk with hk; omega), s9.lt, s9, (hqw.out.drewN nq).kept g9⟩
                      have NEXT := Lib.hid NEXT
                      cases hTj : T (j : Int) with
                      | true =>
                        rw [hTj] at hlook
                        clear NEXT HRES HLJ
                        go_wp2_with fail
                        go_quiet (fail)
                        have HB9 := Lib.hid (hbs.out.same (w' := wr.drewN nq) rfl)
                        have HQ9 := Lib.hid (hqw.out.drewN nq)
                        have b9 := below_drewN hbl nq
                        have s9 : MB < (wr.drewN nq).heap.size := hsl
                        generalize wr.drewN nq = w9 at *
                        clear c0 c4 d0 d4 g0 g4 hlook hqw hbs hbl hsl
                        go_wp2_with fail
                        go_roundw
                        case rel => exact ⟨j + 1, T, q, e, by go_num, by omega, hgh, hrc.out, HQ9.out, HB9.out, b9, s9⟩
                        case measure => simp [intOf]; omega
                      | false =>
                        rw [hTj] at hlook
                        by_cases h1 : f1 < cu
                        · have hlv : 0 ≤ lv j := HLJ.out (HRES.out (.inl h1))
                          obtain ⟨hadd1, hadd2⟩ := hrc.out.add hlt hTj hlv
                          have HADD := Lib.hid hadd1
                          have HA2 := Lib.hid hadd2
                          clear hadd1 hadd2 HRES HLJ
                          go_wp2_with fail
                          go_quiet (fail)
                          obtain ⟨w9, r9, b9, s9, hbs9, hq9⟩ := NEXT.out nq hlv hTj
                          obtain ⟨v5, w10, r10, hq10, hb10, hblk⟩ := hq9.out.push (Nat.le_of_lt s9) s9 j (by simp only [List.length_cons]; omega)
                          have HQ10 := Lib.hid hq10
                          have HBS10 := Lib.hid (hbs9.out.same hblk)
                          have b10 := b9.trans hb10
                          have s10 : MB < w10.heap.size := HBS10.out.lt
                          clear hq10 hb10 hblk hbs9 hq9 NEXT c0 c4 d0 d4 g0 g4 hlook hqw hbs hbl hsl hTj b9
                          go_wp2_with (at_builtin; refine wpList_append_by rfl (.tmp 201) (.tmp 203) 30 rfl u19 (.slice (some ⟨w9.heap.size, 0, none⟩) 1 1) _ w10 rfl rfl r10 ?_)
                          go_roundw
                          case rel => exact ⟨j + 1, fun z => if z = (j : Int) then true else T z, q ++ [j], e + 1, by go_num, by omega, Nat.lt_of_le_of_lt (Nat.le_of_eq HA2.out) hgh, HADD.out, HQ10.out, HBS10.out, b10, s10⟩
                          case measure => simp [intOf]; omega
                        · by_cases h2 : 0 < f2
                          · have hlv : 0 ≤ lv j := HLJ.out (HRES.out (.inr h2))
                            obtain ⟨hadd1, hadd2⟩ := hrc.out.add hlt hTj hlv
                            have HADD := Lib.hid hadd1
                            have HA2 := Lib.hid hadd2
                            clear hadd1 hadd2 HRES HLJ
                            go_wp2_with fail
                            go_quiet (fail)
                            obtain ⟨w9, r9, b9, s9, hbs9, hq9⟩ := NEXT.out nq hlv hTj
                            obtain ⟨v5, w10, r10, hq10, hb10, hblk⟩ := hq9.out.push (Nat.le_of_lt s9) s9 j (by simp only [List.length_cons]; omega)
                            have HQ10 := Lib.hid hq10
                            have HBS10 := Lib.hid (hbs9.out.same hblk)
                            have b10 := b9.trans hb10
                            have s10 : MB < w10.heap.size := HBS10.out.lt
                            clear hq10 hb10 hblk hbs9 hq9 NEXT c0 c4 d0 d4 g0 g4 hlook hqw hbs hbl hsl hTj b9
                            go_wp2_with (at_builtin; refine wpList_append_by rfl (.tmp 201) (.tmp 203) 30 rfl u19 (.slice (some ⟨w9.heap.size, 0, none⟩) 1 1) _ w10 rfl rfl r10 ?_)
                            go_roundw
                            case rel => exact ⟨j + 1, fun z => if z = (j : Int) then true else T z, q ++ [j], e + 1, by go_num, by omega, Nat.lt_of_le_of_lt (Nat.le_of_eq HA2.out) hgh, HADD.out, HQ10.out, HBS10.out, b10, s10⟩
                            case measure => simp [intOf]; omega
                          · clear NEXT HRES HLJ
                            go_wp2_with fail
                            go_quiet (fail)
                            have HB9 := Lib.hid (hbs.out.same (w' := wr.drewN nq) rfl)
                            have HQ9 := Lib.hid (hqw.out.drewN nq)
                            have b9 := below_drewN hbl nq
                            have s9 : MB < (wr.drewN nq).heap.size := hsl
                            generalize wr.drewN nq = w9 at *
                            clear c0 c4 d0 d4 g0 g4 hlook hqw hbs hbl hsl
                            go_wp2_with fail
                            go_roundw
                            case rel => exact ⟨j + 1, T, q, e, by go_num, by omega, hgh, hrc.out, HQ9.out, HB9.out, b9, s9⟩
                            case measure => simp [intOf]; omega
                    · obtain rfl : j = x := by omega
                      obtain ⟨qb, qo, qc, rfl, q1, q2, v', hpop, hqw'⟩ := hqw.out.pop
                      have HRC := Lib.hid hrc.out.pop.1
                      have HQ := Lib.hid hqw'
                      clear hrc hqw hqw'
                      go_wp2_with fail
                      go_roundg (gk - 1)
                      case measure => omega
                      case rel => exact ⟨T, q, e, by omega, HRC.out, HQ.out, hbs.out, hbl, hsl⟩
end Go.Proofs.Ytobjcdbbdgloiaa
