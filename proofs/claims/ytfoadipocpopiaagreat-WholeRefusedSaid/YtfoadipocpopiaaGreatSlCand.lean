/- The walks over the model's pending and candidates. Conditions: the tasks lie below the model; small numbers. -/
import Derived.Test.YtfoadipocpopiaaGreatSlBeg
import Derived.Test.YtfoadipocpopiaaGreatPw1
namespace Go.Proofs.YtfoadipocpopiaaGreat
open Go.RowKit Go.Deep
structure CD where
  num : Nat
  nm : ByteArray
  c : Nat
  p : Nat
  r : Int
  i : Int
def encC (x : CD) : List Value := [.int .i64 (x.num : Int), .string x.nm, .int .i64 (x.c : Int), .int .i64 (x.p : Int), .int .i64 x.r, .int .i64 x.i]
theorem encC_len (x : CD) : (encC x).length = 6 := rfl
def cdOf (l : List TT) (js : Nat → JS) (i : Nat) : CD := ⟨i, (ttAt l i).nm, tc l i, tp l i, (js i).rl, (js i).dn + 1⟩
def candsL (l : List TT) (s : Nat) (js : Nat → JS) (k : Nat) : List CD := ((List.range k).filter fun i => candJ (tc l i) (tp l i) s (js i)).map (cdOf l js)
theorem candsL_yes {l : List TT} {s : Nat} {js : Nat → JS} {k : Nat} (h : candJ (tc l k) (tp l k) s (js k) = true) : candsL l s js (k + 1) = candsL l s js k ++ [cdOf l js k] := by
  unfold candsL; rw [List.range_succ, List.filter_append, List.map_append]; simp [h]
theorem candsL_no {l : List TT} {s : Nat} {js : Nat → JS} {k : Nat} (h : candJ (tc l k) (tp l k) s (js k) = false) : candsL l s js (k + 1) = candsL l s js k := by
  unfold candsL; rw [List.range_succ, List.filter_append, List.map_append]; simp [h]
theorem candsL_len (l : List TT) (s : Nat) (js : Nat → JS) (k : Nat) : (candsL l s js k).length ≤ k := by
  unfold candsL
  rw [List.length_map]
  refine Nat.le_trans (List.length_filter_le ..) ?_
  simp
theorem info_cand : (Tryz.prog.info? 71).map (fun i => (i.zero, i.size, i.bytes)) = some (some (.agg #[.int .i64 0, .string (ByteArray.mk #[]), .int .i64 0, .int .i64 0, .int .i64 0, .int .i64 0]), 6, 56) := by kernel_rfl
/-- append of a candidate. -/
theorem cand_push {w : World} {v : Value} {q : List CD} {N : Nat} (hw : Win w 71 6 v q.length (q.flatMap encC)) (hv : ∀ g, v.ownBlock = some g → N ≤ g) (hN : N ≤ w.heap.size) (x : CD) (hq : q.length ≤ 1000000) :
    ∃ v' w', (Builtin.append_ #[67, 67] 67 #[v, .slice (some ⟨w.heap.size, 0, none⟩) 1 1]).run Tryz.prog (w.alloc (.cells #[.int .i64 (x.num : Int), .string x.nm, .int .i64 (x.c : Int), .int .i64 (x.p : Int), .int .i64 x.r, .int .i64 x.i] 71)) = .ok v' w' ∧
      Win w' 71 6 v' (q ++ [x]).length ((q ++ [x]).flatMap encC) ∧ Below N w w' ∧ (∀ g, v'.ownBlock = some g → N ≤ g) := by
  obtain ⟨gg, o, c, w', hr, hw', hgr, hl, hlt⟩ := Win.push (P := Tryz.prog) (t := 67) (ty := 67) Tryz.underlying67 info_cand (by simp [Value.cells]) (by decide)
    (hw.alloc (.cells #[.int .i64 (x.num : Int), .string x.nm, .int .i64 (x.c : Int), .int .i64 (x.p : Int), .int .i64 x.r, .int .i64 x.i] 71)) ⟨w.heap.size, 0, none⟩ 1 (encC x) rfl (fun k u hk => World.news_of_block (Go.Deep.blk_alloc_new _ _) k u hk) (fun u hu => by
      simp only [encC, List.mem_cons, List.not_mem_nil, or_false] at hu
      rcases hu with rfl | rfl | rfl | rfl | rfl | rfl <;> rfl) (by omega) (by omega)
  refine ⟨_, w', hr, by simpa [List.flatMap_append] using hw', ((Below.refl N w).alloc hN _).grown hgr (by simp; omega) hv, fun g hg => ?_⟩
  simp only [Value.ownBlock, Option.some.injEq] at hg
  subst hg
  rcases hl with hl | hl
  · exact hv gg hl
  · rw [hl]; simp; omega

set_option maxRecDepth 100000 in
set_option maxHeartbeats 6400000 in
theorem pending_any (i n : Nat) (w : World) (gm gj tb to' : Nat) (ln cap : Nat) (lv : Bool) (dn : Int) (cc : Nat) (hi : i < n) (hn : n ≤ 40) (hln : i < ln) (hl40 : ln ≤ 40)
    (m0 : w.cell? ⟨gm, 0, none⟩ = some (.slice (some ⟨tb, to', none⟩) ln cap)) (m2 : w.cell? ⟨gm, 2, none⟩ = some (.slice (some ⟨gj, 0, none⟩) n n)) (j0 : w.cell? ⟨gj, i * 4, none⟩ = some (.bool lv)) (j2 : w.cell? ⟨gj, i * 4 + 2, none⟩ = some (.int .i64 dn))
    (l1 : w.cell? ⟨tb, to' + i * 3 + 1, none⟩ = some (.int .i64 cc)) (q1 : gm < w.heap.size) (q2 : gj < w.heap.size) (q3 : tb < w.heap.size) :
    Calls Tryz.prog 40 #[.pointer (some ⟨gm, 0, none⟩), .int .i64 i] w fun e w' => e = .returned (.bool (lv && decide (dn < (cc : Int)))) ∧ ∃ k, w' = w.drewN k := by
  have hiI : (i : Int) < (n : Int) := by omega
  have hilI : (i : Int) < (ln : Int) := by omega
  cases lv with
  | false =>
    go_enter Tryz.func40, Tryz.ntmps40
    go_wp2_with fail
    go_quiet (fail)
    go_wp2_with fail
    go_ret
    exact ⟨rfl, _, rfl⟩
  | true =>
    go_enter Tryz.func40, Tryz.ntmps40
    go_wp2_with fail
    go_quiet (fail)
    go_wp2_with fail
    go_ret
    exact ⟨by simp, _, rfl⟩

/-- What stays while a window is computed: a task's cells, the model's first cell, a copy of the job. -/
def KW (w : World) (gm tb o gv : Nat) (tv x0 x1 x2 y0 y1 y2 y3 : Value) (W : World) : Prop :=
  Below w.heap.size w W ∧ W.cell? ⟨gm, 0, none⟩ = some tv ∧ W.cell? ⟨tb, o, none⟩ = some x0 ∧ W.cell? ⟨tb, o + 1, none⟩ = some x1 ∧ W.cell? ⟨tb, o + 2, none⟩ = some x2 ∧ W.cell? ⟨gv, 0, none⟩ = some y0 ∧ W.cell? ⟨gv, 1, none⟩ = some y1 ∧ W.cell? ⟨gv, 2, none⟩ = some y2 ∧ W.cell? ⟨gv, 3, none⟩ = some y3 ∧ gm < W.heap.size ∧ tb < W.heap.size ∧ gv < W.heap.size
section
variable {w W W' : World} {gm tb o gv : Nat} {tv x0 x1 x2 y0 y1 y2 y3 : Value}
theorem KW.next (h : KW w gm tb o gv tv x0 x1 x2 y0 y1 y2 y3 W) (hb : Below W.heap.size W W') : KW w gm tb o gv tv x0 x1 x2 y0 y1 y2 y3 W' := by
  obtain ⟨h1, h2, h3, h4, h5, h6, h7, h8, h9, q1, q2, q3⟩ := h
  have := hb.size
  exact ⟨h1.trans (hb.mono h1.size), keep_cellN hb q1 h2, keep_cellN hb q2 h3, keep_cellN hb q2 h4, keep_cellN hb q2 h5, keep_cellN hb q3 h6, keep_cellN hb q3 h7, keep_cellN hb q3 h8, keep_cellN hb q3 h9, by omega, by omega, by omega⟩
theorem KW.drew (h : KW w gm tb o gv tv x0 x1 x2 y0 y1 y2 y3 W) : KW w gm tb o gv tv x0 x1 x2 y0 y1 y2 y3 W.drew := h.next (Below.refl _ _).drew
theorem KW.alloc (h : KW w gm tb o gv tv x0 x1 x2 y0 y1 y2 y3 W) (ob : Obj) : KW w gm tb o gv tv x0 x1 x2 y0 y1 y2 y3 (W.alloc ob) := h.next ((Below.refl _ _).alloc (Nat.le_refl _) ob)
theorem KW.put (h : KW w gm tb o gv tv x0 x1 x2 y0 y1 y2 y3 W) {gx : Nat} (hg : w.heap.size ≤ gx) (q1 : gm < w.heap.size) (q2 : tb < w.heap.size) (q3 : gv < w.heap.size) (u v z : Value) :
    KW w gm tb o gv tv x0 x1 x2 y0 y1 y2 y3 (((W.setCell ⟨gx, 0, none⟩ u).setCell ⟨gx, 1, none⟩ v).setCell ⟨gx, 2, none⟩ z) := by
  obtain ⟨h1, h2, h3, h4, h5, h6, h7, h8, h9, p1, p2, p3⟩ := h
  have hb : Below gx W (((W.setCell ⟨gx, 0, none⟩ u).setCell ⟨gx, 1, none⟩ v).setCell ⟨gx, 2, none⟩ z) := (((Below.refl gx W).setCell (p := ⟨gx, 0, none⟩) (Nat.le_refl _) u).setCell (p := ⟨gx, 1, none⟩) (Nat.le_refl _) v).setCell (p := ⟨gx, 2, none⟩) (Nat.le_refl _) z
  have := hb.size
  exact ⟨h1.trans (hb.mono hg), keep_cellN hb (by omega) h2, keep_cellN hb (by omega) h3, keep_cellN hb (by omega) h4, keep_cellN hb (by omega) h5, keep_cellN hb (by omega) h6, keep_cellN hb (by omega) h7, keep_cellN hb (by omega) h8, keep_cellN hb (by omega) h9, by omega, by omega, by omega⟩
end
/-- The three cells of a window. -/
def Box3 (w : World) (g : Nat) (x y z : Value) : Prop := w.heap[g]? = some (.cells #[x, y, z] 93 (0, 0))
theorem Box3.cells {w : World} {g : Nat} {x y z : Value} (h : Box3 w g x y z) : w.cell? ⟨g, 0, none⟩ = some x ∧ w.cell? ⟨g, 1, none⟩ = some y ∧ w.cell? ⟨g, 2, none⟩ = some z ∧ (∀ i, w.frozen? ⟨g, i, none⟩ = false) ∧ g < w.heap.size := by
  have h' : w.heap[g]? = _ := h
  exact ⟨by simp [World.cell?, h'], by simp [World.cell?, h'], by simp [World.cell?, h'], fun i => by simp [World.frozen?, h'], (Array.getElem?_eq_some_iff.1 h').1⟩
theorem Box3.made (w : World) (x y z : Value) : Box3 (w.alloc (.cells #[x, y, z] 93)) w.heap.size x y z := Go.Deep.blk_alloc_new _ _
theorem Box3.next {w w' : World} {g : Nat} {x y z : Value} (hb : Below w.heap.size w w') (h : Box3 w g x y z) : Box3 w' g x y z :=
  (hb.block g (Array.getElem?_eq_some_iff.1 h).1).trans h
theorem Box3.put {w : World} {g : Nat} {x y z : Value} (h : Box3 w g x y z) (u v t : Value) : Box3 (((w.setCell ⟨g, 0, none⟩ u).setCell ⟨g, 1, none⟩ v).setCell ⟨g, 2, none⟩ t) g u v t := by
  have h' : w.heap[g]? = _ := h
  unfold Box3
  simp [World.setCell, Array.getElem?_modify, h']

set_option maxRecDepth 100000 in
set_option maxHeartbeats 6400000 in
theorem cands_any (l : List TT) (a : Option Addr) (cap : Nat) (rv : Value) (s : Nat) (w : World) (N gm gj gs : Nat) (ob : Array Value) (js : Nat → JS) (mv : Value) (m : Nat)
    (hok : tsOK l = true) (hs : s ≤ 1000) (hwf : ∀ i, i < l.length → 0 ≤ (js i).rl ∧ (js i).rl ≤ s ∧ 0 ≤ (js i).dn ∧ (js i).dn ≤ 1000)
    (hc : TSAt w N a l) (hM : SMo w N gm gj gs ob (.slice a l.length cap) rv l.length js mv m) :
    Calls Tryz.prog 27 #[.pointer (some ⟨gm, 0, none⟩), .int .i64 s] w fun e w' => ∃ v, e = .returned v ∧ Below w.heap.size w w' ∧ Win w' 71 6 v (candsL l s js l.length).length ((candsL l s js l.length).flatMap encC) ∧ ∀ g, v.ownBlock = some g → w.heap.size ≤ g := by
  have hl40 := (tsOK_bd hok).1
  have hlI : (l.length : Int) ≤ 40 := by omega
  have HM := Lib.hid hM
  have HOK := Lib.hid hok
  have HC := Lib.hid hc
  have HWF := Lib.hid hwf
  clear hM hok hc hwf
  go_enter Tryz.func27, Tryz.ntmps27
  obtain ⟨m0, m1, m2, m3⟩ := HM.out.cellM
  have hml := HM.out.mlt
  go_wp2_with fail
  go_loopw [15, 5] (fun u v wr => ∃ i : Nat, u = .int .i64 i ∧ i ≤ l.length ∧ Hid (Win wr 71 6 v (candsL l s js i).length ((candsL l s js i).flatMap encC) ∧ ∀ g, v.ownBlock = some g → w.heap.size ≤ g) ∧ Below w.heap.size w wr) (fun u _ _ => l.length - (intOf u).toNat)
  case atStart => exact ⟨0, rfl, by omega, Lib.hid ⟨Win.nil _ _ _, fun g hg => by simp [Value.ownBlock] at hg⟩, Below.refl _ _⟩
  case round =>
    clear m0 m1 m2 m3 hml
    obtain ⟨i, rfl, hi, hwin, hbl⟩ := hrel
    generalize wr = w2 at *
    have HM2 := Lib.hid (HM.out.below hbl)
    by_cases h0 : i < l.length
    · have h0I : (i : Int) < (l.length : Int) := by omega
      obtain ⟨j0, j1, j2, j3⟩ := HM2.out.cellJ h0
      obtain ⟨m0, m1, m2, m3⟩ := HM2.out.cellM
      have hml := HM2.out.mlt
      have hjl := HM2.out.jlt
      obtain ⟨f1, f2, f3, f4⟩ := HWF.out i h0
      have hN0 := HM.out.Nle
      obtain ⟨tb, to', rfl, htN, tcell⟩ := HC.out (by intro e; simp [e] at h0)
      obtain ⟨l0, l1, l2⟩ := tcell i _ (ttAt_get h0)
      obtain ⟨t1, t2, t3, t4, t5⟩ := tsOK_at HOK.out h0
      rw [t4] at l1
      rw [t5] at l2
      have hNl := HM2.out.Nle
      have htr : tb < w2.heap.size := by omega
      have hbN := hbl.mono (Nat.le_refl _)
      have hb0 : Below N w w := Below.refl _ _
      have l0 := keep_cellN hbl (show tb < w.heap.size by omega) l0
      have l1 := keep_cellN hbl (show tb < w.heap.size by omega) l1
      have l2 := keep_cellN hbl (show tb < w.heap.size by omega) l2
      have HY := Lib.hid (fun h => candsL_yes (l := l) (s := s) (js := js) (k := i) h)
      have HNo := Lib.hid (fun h => candsL_no (l := l) (s := s) (js := js) (k := i) h)
      have hcl := candsL_len l s js i
      have HCD := Lib.hid (show cdOf l js i = ⟨i, (ttAt l i).nm, tc l i, tp l i, (js i).rl, (js i).dn + 1⟩ from rfl)
      clear tcell t4 t5
      generalize hjj : js i = j at *
      obtain ⟨lv, rl, dn, nx⟩ := j
      simp only at j0 j1 j2 j3 f1 f2 f3 f4 HCD
      generalize hcc : tc l i = cc at *
      generalize hpp : tp l i = pp at *
      generalize (ttAt l i).nm = nm at *
      generalize cdOf l js i = cd at *
      have HJJ := Lib.hid hjj
      clear hjj hcc hpp
      go_upto_region 5 with fail
      have J0 := Go.Deep.blk_alloc_new w2 (.cells #[.bool lv, .int .i64 rl, .int .i64 dn, .int .i64 nx] 75)
      have bA := (Below.refl w2.heap.size w2).alloc (Nat.le_refl _) (.cells #[.bool lv, .int .i64 rl, .int .i64 dn, .int .i64 nx] 75)
      have hsA : w2.heap.size < (w2.alloc (.cells #[.bool lv, .int .i64 rl, .int .i64 dn, .int .i64 nx] 75)).heap.size := by simp
      generalize w2.alloc _ = w5 at *
      have m0 := keep_cellN bA hml m0
      have m2 := keep_cellN bA hml m2
      have j0 := keep_cellN bA hjl j0
      have j2 := keep_cellN bA hjl j2
      have l0 := keep_cellN bA htr l0
      have l1 := keep_cellN bA htr l1
      have l2 := keep_cellN bA htr l2
      have y0 : w5.cell? ⟨w2.heap.size, 0, none⟩ = some (.bool lv) := by simp [World.cell?, J0]
      have y1 : w5.cell? ⟨w2.heap.size, 1, none⟩ = some (.int .i64 rl) := by simp [World.cell?, J0]
      have y2 : w5.cell? ⟨w2.heap.size, 2, none⟩ = some (.int .i64 dn) := by simp [World.cell?, J0]
      have y3 : w5.cell? ⟨w2.heap.size, 3, none⟩ = some (.int .i64 nx) := by simp [World.cell?, J0]
      have hwin5 := Lib.hid (And.intro (hwin.out.1.below bA fun g hg => hwin.out.1.blk_lt hg) hwin.out.2)
      have hbl5 := hbl.trans (bA.mono hbl.size)
      have q1 : gm < w5.heap.size := by omega
      have q2 : gj < w5.heap.size := by omega
      have q3 : tb < w5.heap.size := by omega
      generalize w2.heap.size = gv at *
      have HPE := Lib.hid (pending_any i l.length w5 gm gj tb to' l.length cap lv dn cc h0 hl40 h0 hl40 m0 m2 j0 j2 l1 q1 q2 q3)
      have k0 : KW w5 gm tb (to' + i * 3) gv (.slice (some ⟨tb, to', none⟩) l.length cap) (.string nm) (.int .i64 cc) (.int .i64 pp) (.bool lv) (.int .i64 rl) (.int .i64 dn) (.int .i64 nx) w5 := ⟨Below.refl _ _, m0, l0, l1, l2, y0, y1, y2, y3, q1, q3, hsA⟩
      clear hwin hbl J0 bA m0 m1 m2 m3 j0 j1 j2 j3 l0 l1 l2 y0 y1 y2 y3 HM2 hbN hb0
      go_wp2_with fail
      refine HPE.out.mono ?_
      rintro e w6 ⟨rfl, kk, rfl⟩
      have k1 := k0.next (W' := w5.drewN kk) (below_drewN (Below.refl _ _) kk)
      have hwin6 := Lib.hid (And.intro (hwin5.out.1.of_block (w' := w5.drewN kk) (fun _ _ => rfl)) hwin5.out.2)
      have hbl6 := below_drewN hbl5 kk
      clear HPE k0 hwin5 hbl5
      simp only []
      by_cases hp : lv = true ∧ dn < (cc : Int)
      · obtain ⟨rfl, hdn⟩ := hp
        have hpb : (true && decide (dn < (cc : Int))) = true := by simp [hdn]
        rw [hpb]
        have hE : wE cc pp (dn + 1) = 0 := wE_ok (by unfold vtB; exact decide_eq_true (by omega)) (by omega) (by omega)
        have hwI : wI cc pp (dn + 1) = dn + 1 := by unfold wI; rw [if_pos hE]
        have hwd := wD_bd hE
        have hlp := len_pos hE
        have hwr0 : 0 ≤ wR cc pp (dn + 1) := by
          unfold wR; rw [if_pos hE]
          exact Int.ediv_nonneg (Int.mul_nonneg (by omega) (by omega)) (by omega)
        have HWN := fun W => window_any nm cc pp (dn + 1) W
        rw [hE, hwI] at HWN
        have hcand : candJ cc pp s ⟨true, rl, dn, nx⟩ = decide (rl + wR cc pp (dn + 1) ≤ s) := by unfold candJ; simp [hdn]
        rw [hcand] at HY HNo
        obtain ⟨hwd1, hwd2⟩ := hwd
        have hppI : (pp : Int) ≤ 1000 := by omega
        have hwrap : IntKind.i64.wrap (dn + 1) = dn + 1 := IntWalk.i64_in _ (by omega)
        have HWN : ∀ W, Calls Tryz.prog 41 #[.agg #[.string nm, .int .i64 cc, .int .i64 pp], .int .i64 (IntKind.i64.wrap (dn + 1))] W fun e w' => e = .returned (.tuple #[.agg #[.int .i64 (dn + 1), .int .i64 (wR cc pp (dn + 1)), .int .i64 (wD cc pp (dn + 1))], .int .i64 0]) ∧ Below W.heap.size W w' := fun W => by rw [hwrap]; exact HWN W
        clear hcand hwI hE hwrap
        generalize wR cc pp (dn + 1) = wr1 at *
        generalize wD cc pp (dn + 1) = wd1 at *
        generalize w5.drewN kk = w6 at *
        obtain ⟨_, e0, e1, e2, e3, e4, e5, e6, e7, q1, q2, q3⟩ := k1
        have s0 : KW w6 gm tb (to' + i * 3) gv (.slice (some ⟨tb, to', none⟩) l.length cap) (.string nm) (.int .i64 cc) (.int .i64 pp) (.bool true) (.int .i64 rl) (.int .i64 dn) (.int .i64 nx) w6 := ⟨Below.refl _ _, e0, e1, e2, e3, e4, e5, e6, e7, q1, q2, q3⟩
        clear e0 e1 e2 e3 e4 e5 e6 e7
        go_upto_region 6 with fail
        go_cut [8, 9] (fun u x wx => ∃ gx, u = .pointer (some ⟨gx, 0, none⟩) ∧ x = .int .i64 0 ∧ Box3 wx gx (.int .i64 (dn + 1)) (.int .i64 wr1) (.int .i64 wd1) ∧ Below w6.heap.size w6 wx)
        case first =>
          clear HY HNo HCD
          go_region_held3 (fun W => (Below w6.heap.size w6 W ∧ W.cell? ⟨gm, 0, none⟩ = some (.slice (some ⟨tb, to', none⟩) l.length cap) ∧ W.cell? ⟨tb, to' + i * 3, none⟩ = some (.string nm) ∧ W.cell? ⟨tb, to' + i * 3 + 1, none⟩ = some (.int .i64 cc) ∧ W.cell? ⟨tb, to' + i * 3 + 2, none⟩ = some (.int .i64 pp) ∧ W.cell? ⟨gv, 0, none⟩ = some (.bool true) ∧ W.cell? ⟨gv, 1, none⟩ = some (.int .i64 rl) ∧ W.cell? ⟨gv, 2, none⟩ = some (.int .i64 dn) ∧ W.cell? ⟨gv, 3, none⟩ = some (.int .i64 nx) ∧ gm < W.heap.size ∧ tb < W.heap.size ∧ gv < W.heap.size))
            (first
              | exact s0
              | exact KW.drew s0
              | assumption
              | exact KW.next (by assumption) (by assumption)
              | exact KW.alloc (by assumption) _
              | exact KW.alloc s5 _
              | exact KW.put (by assumption) hg5 q1 q2 q3 _ _ _)
            (first
              | (go_at_call 41; (with_reducible refine (HWN _).mono ?_); rintro e w7 ⟨rfl, hb7⟩; have s5 := KW.next (show KW w6 gm tb (to' + i * 3) gv (.slice (some ⟨tb, to', none⟩) l.length cap) (.string nm) (.int .i64 cc) (.int .i64 pp) (.bool true) (.int .i64 rl) (.int .i64 dn) (.int .i64 nx) _ by assumption) hb7;
                  (first
                    | (have hbz := Box3.next hb7 (Box3.made _ (.int .i64 0) (.int .i64 0) (.int .i64 0)); have hg5 := Nat.le_refl w6.heap.size; have z0 := (Box3.cells hbz).1; have z1 := (Box3.cells hbz).2.1; have z2 := (Box3.cells hbz).2.2.1; have zf0 := (Box3.cells hbz).2.2.2.1 0; have zf1 := (Box3.cells hbz).2.2.2.1 1; have zf2 := (Box3.cells hbz).2.2.2.1 2; have zl := (Box3.cells hbz).2.2.2.2)
                    | skip)))
          all_goals go_wp2_with fail
          all_goals go_meet
          all_goals (
            first
              | exact ⟨_, rfl, rfl, Box3.made _ _ _ _, s5.1.alloc s5.1.size _⟩
              | exact ⟨_, rfl, rfl, Box3.put hbz _ _ _, ((s5.1.setCell (p := ⟨w6.heap.size, 0, none⟩) (Nat.le_refl _) _).setCell (p := ⟨w6.heap.size, 1, none⟩) (Nat.le_refl _) _).setCell (p := ⟨w6.heap.size, 2, none⟩) (Nat.le_refl _) _⟩)
        case rest =>
          obtain ⟨gx, rfl, rfl, hbx, hbw⟩ := hcut
          have hwin7 := Lib.hid (And.intro (hwin6.out.1.below hbw fun g hg => hwin6.out.1.blk_lt hg) hwin6.out.2)
          have hbl7 := hbl6.trans (hbw.mono hbl6.size)
          obtain ⟨_, e0, e1, e2, e3, e4, e5, e6, e7, q1, q2, q3⟩ := s0.next hbw
          obtain ⟨z0, z1, z2, zf, zl⟩ := hbx.cells
          clear s0 hwin6 hbl6 hbw HWN hbx zf z2
          generalize wc = w7 at *
          have hrw : IntKind.i64.wrap (rl + wr1) = rl + wr1 := IntWalk.i64_in _ (by omega)
          by_cases hle : rl + wr1 ≤ (s : Int)
          · have HE := Lib.hid (HY.out (decide_eq_true hle))
            obtain ⟨v', w', hrun, h1, h2, h3⟩ := cand_push (w := w7.drew) (hwin7.out.1.of_block (fun _ _ => rfl)) hwin7.out.2 hbl7.size cd (by omega)
            rw [← HE.out] at h1
            have H1 := Lib.hid (And.intro h1 h3)
            have hbl8 := hbl7.trans (show Below w.heap.size w7 w' from (Below.refl _ _).drew.trans h2)
            rw [HCD.out] at hrun
            simp only at hrun
            have hrun2 : (Builtin.append_ #[67, 67] 67 #[u5, .slice (some ⟨w7.heap.size, 0, none⟩) 1 1]).run Tryz.prog (w7.drew.alloc (.cells #[.int .i64 (i : Int), .string nm, .int .i64 (cc : Int), .int .i64 (pp : Int), .int .i64 rl, .int .i64 (dn + 1)] 71)) = .ok v' w' := hrun
            clear HY HNo HCD hwin7 hbl7 h1 h2 h3 hrun HE
            go_upto_region 8 with fail
            go_region_law (refine step_append_by rfl (.tmp 49) (.tmp 63) 67 rfl u5 (.slice (some ⟨w7.heap.size, 0, none⟩) 1 1) v' w' (by rfl) (by rfl) hrun2 ?_)
            all_goals go_wp2_with fail
            all_goals go_roundw
            all_goals (first | exact ⟨i + 1, by go_num, by omega, H1, hbl8⟩ | (simp [intOf]; omega))
          · have HE := Lib.hid (HNo.out (decide_eq_false hle))
            clear HY HNo HCD
            go_wp2_with fail
            go_roundw
            case rel => exact ⟨i + 1, by go_num, by omega, by rw [HE.out]; exact hwin7, hbl7⟩
            case measure => simp [intOf]; omega
      · have hpb : (lv && decide (dn < (cc : Int))) = false := by
          cases lv with
          | false => rfl
          | true => rw [decide_eq_false (fun h => hp ⟨rfl, h⟩)]; rfl
        have hcand : candJ cc pp s ⟨lv, rl, dn, nx⟩ = false := by unfold candJ; simp only; rw [hpb]; rfl
        have HE := Lib.hid (HNo.out hcand)
        rw [hpb]
        clear hp hpb hcand HY HNo k1
        go_wp2_with fail
        go_roundw
        case rel => exact ⟨i + 1, by go_num, by omega, by rw [HE.out]; exact hwin6, hbl6⟩
        case measure => simp [intOf]; omega
    · obtain rfl : i = l.length := by omega
      have HW := Lib.hid hwin.out
      clear hwin
      go_wp2_with fail
      go_ret
      exact ⟨_, rfl, hbl, HW.out.1, HW.out.2⟩
end Go.Proofs.YtfoadipocpopiaaGreat
