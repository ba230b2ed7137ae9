/- Several texts in one: The walk over slots.valid at what synchronous gives. Conditions: a valid list, 1 to 8 cores, rows that keep the periods. Slices of integers in a row, each growing in blocks of its own. Conditions: each theorem's own. -/
import Derived.Test.YtfoadipocpopiaaGreatSlBeg
import Derived.Test.YtfoadipocpopiaaGreatWin
import Derived.Test.YtfoadipocpopiaaGreatM01
import Derived.Deep.OwnRows
import Derived.Deep.Heap
namespace Go.Proofs.YtfoadipocpopiaaGreat
section
open Go.RowKit Go.Deep
/-- A row of releases that keeps the period. -/
def SpOK (p : Nat) (r : List Int) : Prop := r.length ≤ 1000 ∧ (∀ k, k < r.length → 0 ≤ r.getD k 0 ∧ r.getD k 0 ≤ 100000) ∧ ∀ k, k + 1 < r.length → (p : Int) ≤ r.getD (k + 1) 0 - r.getD k 0

set_option maxRecDepth 100000 in
set_option maxHeartbeats 6400000 in
theorem svalid_any (l : List TT) (a : Option Addr) (cap : Nat) (rs : List (List Int)) (ra : Option Addr) (rcap cores : Nat) (w : World) (hok : tsOK l = true) (hc1 : 1 ≤ cores) (hc8 : cores ≤ 8) (hne : rs.length = l.length) (hsp : ∀ i, i < rs.length → SpOK (tp l i) (rwAt rs i))
    (hc : TSAt w w.heap.size a l) (hr : RowsAt w w.heap.size ra rs) :
    Calls Tryz.prog 24 #[.slice a l.length cap, .int .i64 (cores : Int), .slice ra rs.length rcap] w fun e w' => e = .returned (.bool true) ∧ Below w.heap.size w w' := by
  have hl40 := (tsOK_bd hok).1
  have hlI : (l.length : Int) ≤ 40 := by omega
  have hrI : (rs.length : Int) = (l.length : Int) := by omega
  have hcI : ¬ (cores : Int) < 1 := by omega
  have hcI8 : ¬ (8 : Int) < (cores : Int) := by omega
  have d1 : decide ((cores : Int) < 1) = false := decide_eq_false hcI
  have d2 : decide ((8 : Int) < (cores : Int)) = false := decide_eq_false hcI8
  have d3 : ((rs.length : Int) == (l.length : Int)) = true := by rw [hrI]; simp
  have VAL := Lib.hid ((tvalid_any l a cap w (by omega) hc).mono fun e w' (h : e = .returned (.bool (tsOK l)) ∧ Below w.heap.size w w') => And.intro (show e = .returned (.bool true) by rw [h.1, hok]) h.2)
  have HOK := Lib.hid hok
  have HC := Lib.hid hc
  have HR := Lib.hid hr
  have HNE := Lib.hid hne
  have HSP := Lib.hid hsp
  clear hok hc hr hsp
  go_enter Tryz.func24, Tryz.ntmps24
  go_wp2_with fail
  refine VAL.out.mono ?_
  rintro e w1 ⟨rfl, hb1⟩
  clear VAL
  go_wp2_with fail
  go_loopw [31] (fun u wr => ∃ (i : Nat), u = .int .i64 i ∧ i ≤ rs.length ∧ Below w.heap.size w wr) (fun u _ => rs.length - (intOf u).toNat)
  case atStart => exact ⟨0, rfl, by omega, hb1⟩
  case round =>
    clear hb1
    obtain ⟨i, rfl, hi, hbl⟩ := hrel
    generalize wr = w2 at *
    by_cases h0 : i < rs.length
    · have h0I : (i : Int) < (rs.length : Int) := by omega
      have h0l : (i : Int) < (l.length : Int) := by omega
      have hiM : rs.length - (intOf (.int .i64 ((i : Int) + 1))).toNat < rs.length - (intOf (.int .i64 (i : Int))).toNat := by
        show rs.length - ((i : Int) + 1).toNat < rs.length - ((i : Int)).toNat
        omega
      obtain ⟨tb, to', rfl, htN, tcell⟩ := HC.out (by intro e; have h := HNE.out; rw [e] at h; simp only [List.length_nil] at h; omega)
      obtain ⟨l0, l1, l2⟩ := tcell i _ (ttAt_get (by omega))
      obtain ⟨t1, t2, t3, t4, t5⟩ := tsOK_at HOK.out (show i < l.length by omega)
      rw [t5] at l2
      obtain ⟨rb, ro, rfl, hrN, rcell⟩ := HR.out (by intro e; simp [e] at h0)
      obtain ⟨qa, qc, c0, q1, q2, q3⟩ := rcell i _ (rwAt_get h0)
      have HL2 := Lib.hid l2
      obtain ⟨s1, s2, s3⟩ := HSP.out i h0
      have HS2 := Lib.hid s2
      have HS3 := Lib.hid s3
      have HQ := Lib.hid q3
      have c0 := keep_cellN hbl hrN c0
      have hrr : rb < w2.heap.size := by have := hbl.size; omega
      clear tcell rcell l0 l1 l2 q1 q2 q3 s2 s3 t4 t5
      generalize hos : rwAt rs i = os at *
      generalize hpp : tp l i = pp at *
      clear hos hpp
      have hlen : ¬ (10000 : Int) < (os.length : Int) := by omega
      have d4 : decide ((10000 : Int) < (os.length : Int)) = false := decide_eq_false hlen
      go_wp2_with fail
      go_loopw [41] (fun u wr => ∃ (k : Nat), u = .int .i64 k ∧ k ≤ os.length ∧ Below w.heap.size w wr) (fun u _ => os.length - (intOf u).toNat)
      case atStart => exact ⟨0, rfl, Nat.zero_le _, hbl⟩
      case round =>
        clear hbl c0
        obtain ⟨k, rfl, hk, hbl⟩ := hrel
        generalize wr = w3 at *
        by_cases h1 : k < os.length
        · have h1I : (k : Int) < (os.length : Int) := by omega
          have hkM : os.length - (intOf (.int .i64 ((k : Int) + 1))).toNat < os.length - (intOf (.int .i64 (k : Int))).toNat := by
            show os.length - ((k : Int) + 1).toNat < os.length - ((k : Int)).toNat
            omega
          have hkE : k + 1 ≤ os.length := h1
          have hw1 : wrap64 ((k : Int) + 1) = (k : Int) + 1 := IntWalk.wrap64_in _ (by omega)
          have HW1 := Lib.hid hw1
          clear hw1
          obtain ⟨ob, oo, rfl, hoN, ocell⟩ := HQ.out (by intro e; simp [e] at h1)
          have c1 := keep_cellN hbl hoN (ocell k _ (getD_get h1))
          have l2 := keep_cellN hbl htN HL2.out
          have hsz := hbl.size
          have htr3 : tb < w3.heap.size := by omega
          have hor3 : ob < w3.heap.size := by omega
          obtain ⟨v1, v2⟩ := HS2.out k h1
          by_cases hk0 : 0 < k
          · obtain ⟨j, hj⟩ : ∃ j, k = j + 1 := ⟨k - 1, by omega⟩
            have c2 := keep_cellN hbl hoN (ocell j _ (getD_get (show j < os.length by omega)))
            have v3 := HS3.out j (by omega)
            rw [← hj] at v3
            obtain ⟨v4, v5⟩ := HS2.out j (by omega)
            have hk0I : (0 : Int) < (k : Int) := by omega
            have hj1 : (k : Int) - 1 = (j : Int) := by omega
            have hjI : (j : Int) < (os.length : Int) := by omega
            generalize os.getD k 0 = x at *
            generalize os.getD j 0 = y at *
            have e1' : ¬ x < 0 := by omega
            have e2' : ¬ x - y < (pp : Int) := by omega
            have g1 : ¬ os.length = 0 := by omega
            have r1 : -9223372036854775808 ≤ (j : Int) ∧ (j : Int) ≤ 9223372036854775807 := by omega
            have r2 : -9223372036854775808 ≤ x - y ∧ x - y ≤ 9223372036854775807 := by omega
            have e1 : decide (x < 0) = false := decide_eq_false e1'
            have e2 : decide (x - y < (pp : Int)) = false := decide_eq_false e2'
            have e3 : decide ((0 : Int) < (k : Int)) = true := decide_eq_true hk0I
            have e4 : decide (0 < k) = true := decide_eq_true hk0
            have e5 : decide (k = 0) = false := decide_eq_false (Nat.ne_of_gt hk0)
            have hwj : IntKind.i64.wrap (j : Int) = (j : Int) := IntWalk.i64_in _ r1
            have hwj2 : wrap64 (j : Int) = (j : Int) := IntWalk.wrap64_in _ r1
            have hwx : IntKind.i64.wrap (x - y) = x - y := IntWalk.i64_in _ r2
            have hwx2 : wrap64 (x - y) = x - y := IntWalk.wrap64_in _ r2
            clear hj ocell v3
            go_upto_region 11 with fail
            refine wp_region_quiet (C := fun W => Below w3.heap.size w3 W) (by kernel_rfl) (by kernel_rfl) (Below.refl _ _).drew ?_
            repeat (
              refine wpQuiet_step (fun K hK => ?_)
              go_simp
              first
                | (refine hK _ ?_; clear hK K)
                | (apply Exists.intro
                   refine ⟨fun W q0 => ?_, hK _ ?_⟩
                   (first
                     | rfl
                     | (have qc := (bcell q0).1; go_simp; rfl))
                   clear hK K))
            refine wpQuiet_nil ?_
            intro w4 hW
            have hbl4 := hbl.trans (hW.mono hbl.size)
            clear hbl hW c1 c2 l2
            go_wp2_with fail
            go_roundw
            case rel => exact ⟨k + 1, by rw [HW1.out]; rfl, hkE, hbl4⟩
            case measure => rw [HW1.out]; exact hkM
          · obtain rfl : k = 0 := by omega
            generalize os.getD 0 0 = x at *
            rw [Nat.add_zero] at c1
            have e1 : decide (x < 0) = false := decide_eq_false (by omega)
            have e1' : ¬ x < 0 := by omega
            clear ocell
            go_upto_region 11 with fail
            go_quiet (fail)
            go_wp2_with fail
            go_roundw
            case rel => exact ⟨1, rfl, hkE, below_drewN hbl _⟩
            case measure => exact hkM
        · have h1I : ¬ (k : Int) < (os.length : Int) := by omega
          go_wp2_with fail
          go_roundw
          case rel => exact ⟨i + 1, rfl, h0, hbl⟩
          case measure => exact hiM
    · have h0I : ¬ (i : Int) < (rs.length : Int) := by omega
      go_wp2_with fail
      go_ret
      exact ⟨rfl, hbl⟩
end

section
open Go.RowKit

theorem info_introw : (Tryz.prog.info? 42).map (fun i => (i.zero, i.size, i.bytes)) = some (some (.slice none 0 0), 1, 24) := by kernel_rfl
def cellsI (q : List Int) : List Value := q.map fun x => Value.int .i64 x
theorem cellsI_app (q : List Int) (x : Int) : cellsI (q ++ [x]) = cellsI q ++ [.int .i64 x] := by simp [cellsI]
/-- append of one integer to a slice that the call made. -/
theorem int_push {w : World} {v : Value} {q : List Int} {N : Nat} (hw : Win w 3 1 v q.length (cellsI q)) (hv : ∀ g, v.ownBlock = some g → N ≤ g) (hN : N ≤ w.heap.size) (x : Int) (hq : q.length ≤ 1000000) :
    ∃ v' w', (Builtin.append_ #[42, 42] 42 #[v, .slice (some ⟨w.heap.size, 0, none⟩) 1 1]).run Tryz.prog (w.alloc (.cells #[.int .i64 x] 3)) = .ok v' w' ∧ Win w' 3 1 v' (q ++ [x]).length (cellsI (q ++ [x])) ∧ Below N w w' ∧
      (∀ g, g < w.heap.size → v.ownBlock ≠ some g → w'.heap[g]? = w.heap[g]?) ∧ (∀ g, v'.ownBlock = some g → v.ownBlock = some g ∨ w.heap.size ≤ g) := by
  obtain ⟨gg, o, c, w', hr, hw', hgr, hl, hlt⟩ := Win.push (P := Tryz.prog) (t := 42) (ty := 42) Tryz.underlying42 info_int (by simp [Value.cells]) (by decide)
    (hw.alloc (.cells #[.int .i64 x] 3)) ⟨w.heap.size, 0, none⟩ 1 [.int .i64 x] rfl (fun k u hk => World.news_of_block (Go.Deep.blk_alloc_new _ _) k u hk) (fun u hu => by
      simp only [List.mem_cons, List.not_mem_nil, or_false] at hu
      rcases hu with rfl <;> rfl) (by omega) (by omega)
  refine ⟨_, w', hr, by rw [cellsI_app]; simpa using hw', ((Below.refl N w).alloc hN _).grown hgr (by simp; omega) hv, fun g hg hne => ?_, fun g hg => ?_⟩
  · rw [hgr.block g (by simp; omega) (fun e => hne e.symm)]
    exact Below.heap_alloc _ _ _ hg
  · simp only [Value.ownBlock, Option.some.injEq] at hg
    subst hg
    rcases hl with hl | hl
    · exact .inl hl
    · exact .inr (by rw [hl]; simp)
theorem cellsI_ints {w : World} {v : Value} {q : List Int} (h : Win w 3 1 v q.length (cellsI q)) : ∃ a c, v = .slice a q.length c ∧ q.length ≤ c ∧ c ≤ 9223372036854775807 ∧ IntsAt w w.heap.size a q := by
  obtain ⟨a, c, e, h1, h2⟩ := h.form0
  refine ⟨a, c, e, h1, h2, fun hne => ?_⟩
  obtain ⟨g, o, cap, e2, hlt, _⟩ := h.form (List.length_pos_iff.2 hne)
  rw [e2] at e h
  simp only [Value.slice.injEq] at e
  obtain ⟨rfl, _⟩ := e
  refine ⟨g, o, rfl, hlt, fun i x hi => h.cell ?_⟩
  unfold cellsI
  rw [List.getElem?_map, hi]; rfl
def updI {α : Type} (f : Nat → α) (s : Nat) (v : α) : Nat → α := fun i => if i = s then v else f i
structure SI (N G S : Nat) (w : World) (tg : Nat → Nat) (V : Nat → Value) (R : Nat → List Int) : Prop where
  out : w.rowIs G 42 S V
  win : ∀ s, s < S → Win w 3 1 (V s) (R s).length (cellsI (R s))
  own : ∀ s, s < S → ∀ g, (V s).ownBlock = some g → tg g = s + 1 ∧ N ≤ g
  tG : tg G = 0
  nG : N ≤ G
theorem SI.same {N G S : Nat} {w w' : World} {tg : Nat → Nat} {V : Nat → Value} {R : Nat → List Int} (h : SI N G S w tg V R) (hb : ∀ g, g < w.heap.size → w'.heap[g]? = w.heap[g]?) : SI N G S w' tg V R :=
  ⟨h.out.of_block (hb _ h.out.lt), fun s hs => (h.win s hs).of_block fun g hg => hb g ((h.win s hs).blk_lt hg), h.own, h.tG, h.nG⟩
theorem SI.push {N G S : Nat} {w : World} {tg : Nat → Nat} {V : Nat → Value} {R : Nat → List Int} (h : SI N G S w tg V R) {s : Nat} (hs : s < S) (x : Int) (hq : (R s).length ≤ 1000000) :
    ∃ v' w', (Builtin.append_ #[42, 42] 42 #[V s, .slice (some ⟨w.heap.size, 0, none⟩) 1 1]).run Tryz.prog (w.alloc (.cells #[.int .i64 x] 3)) = .ok v' w' ∧ Below N w w' ∧ w'.heap[G]? = w.heap[G]? ∧ (∀ g, g < w.heap.size → tg g = S + 1 → w'.heap[g]? = w.heap[g]?) ∧
      ∃ tg', SI N G S (w'.setCell ⟨G, s, none⟩ v') tg' (updI V s v') (updI R s (R s ++ [x])) ∧ ∀ g, g < w.heap.size → tg' g = tg g := by
  have hGl := h.out.lt
  obtain ⟨v', w', hr, hw', hb, hold, hown⟩ := int_push (h.win s hs) (fun g hg => (h.own s hs g hg).2) (by have := h.nG; omega) x hq
  have hG : w'.heap[G]? = w.heap[G]? := hold G hGl (fun e => by have := (h.own s hs G e).1; rw [h.tG] at this; omega)
  refine ⟨v', w', hr, hb, hG, fun g hg ht => hold g hg (fun e => by have := (h.own s hs g e).1; omega), fun g => if g < w.heap.size then tg g else s + 1, ⟨?_, fun i hi => ?_, fun i hi g hg => ?_, ?_, h.nG⟩, fun g hg => if_pos hg⟩
  · exact ((h.out.of_block hG).set s v').congr fun i _ => rfl
  · by_cases e : i = s
    · subst e
      simp only [updI, if_true]
      refine hw'.setOther (fun g hg => ?_) _
      rcases hown g hg with e | e
      · have := (h.own i hi g e).1
        intro e2; rw [show g = G from e2, h.tG] at this; omega
      · show g ≠ G; omega
    · simp only [updI, if_neg e]
      have hwi := h.win i hi
      refine (hwi.of_block fun g hg => hold g (hwi.blk_lt hg) (fun e2 => ?_)).setOther (fun g hg => ?_) _
      · have h1 := (h.own i hi g hg).1
        have h2 := (h.own s hs g e2).1
        omega
      · have h1 := (h.own i hi g hg).1
        intro e2; rw [show g = G from e2, h.tG] at h1; omega
  · by_cases e : i = s
    · subst e
      simp only [updI, if_true] at hg
      rcases hown g hg with e | e
      · rw [if_pos ((h.win i hi).blk_lt e)]; exact h.own i hi g e
      · rw [if_neg (by omega)]; exact ⟨rfl, by have := h.nG; omega⟩
    · simp only [updI, if_neg e] at hg
      rw [if_pos ((h.win i hi).blk_lt hg)]; exact h.own i hi g hg
  · rw [if_pos hGl]; exact h.tG
/-- A new block gets a tag of its own. -/
theorem SI.mark {N G S : Nat} {w : World} {tg : Nat → Nat} {V : Nat → Value} {R : Nat → List Int} (h : SI N G S w tg V R) (o : Obj) : SI N G S (w.alloc o) (fun g => if g = w.heap.size then S + 1 else tg g) V R := by
  have h' := h.same (w' := w.alloc o) (fun g hg => Below.heap_alloc _ _ _ hg)
  refine ⟨h'.out, h'.win, fun s hs g hg => ?_, ?_, h.nG⟩
  · have := (h.win s hs).blk_lt hg
    rw [if_neg (by omega)]; exact h.own s hs g hg
  · have := h.out.lt
    rw [if_neg (by omega)]; exact h.tG
theorem SI.made {N : Nat} (w : World) (S : Nat) (hN : N ≤ w.heap.size) : SI N w.heap.size S (w.alloc (.cells (madeCells #[.slice none 0 0] S) 42)) (fun _ => 0) (fun _ => .slice none 0 0) (fun _ => []) :=
  ⟨World.rowIs_made _ _ _ _, fun s hs => Win.nil _ _ _, fun s hs g hg => by simp [Value.ownBlock] at hg, rfl, hN⟩
def rowsI (S : Nat) (R : Nat → List Int) : List (List Int) := (List.range S).map R
theorem rowsI_len (S : Nat) (R : Nat → List Int) : (rowsI S R).length = S := by simp [rowsI]
theorem rowsI_get {S : Nat} {R : Nat → List Int} {i : Nat} (h : i < S) : (rowsI S R)[i]? = some (R i) := by
  unfold rowsI; rw [List.getElem?_map, List.getElem?_range h]; rfl
theorem rowsI_at {S : Nat} {R : Nat → List Int} {i : Nat} (h : i < S) : rwAt (rowsI S R) i = R i := by
  unfold rwAt; rw [List.getD_eq_getElem?_getD, rowsI_get h]; rfl
theorem rowsI_congr {S : Nat} {R R' : Nat → List Int} (h : ∀ s, s < S → R s = R' s) : rowsI S R = rowsI S R' :=
  List.map_congr_left fun s hs => h s (by simpa using hs)
theorem SI.rows {N G S : Nat} {w : World} {tg : Nat → Nat} {V : Nat → Value} {R : Nat → List Int} (h : SI N G S w tg V R) : RowsAt w w.heap.size (some ⟨G, 0, none⟩) (rowsI S R) := fun _ =>
  ⟨G, 0, rfl, h.out.lt, fun i r hi => by
    have hlt : i < S := by
      have := (List.getElem?_eq_some_iff.1 hi).1
      simpa [rowsI] using this
    rw [rowsI_get hlt] at hi
    injection hi with hi
    subst hi
    obtain ⟨a, c, e, h1, h2, h3⟩ := cellsI_ints (h.win i hlt)
    exact ⟨a, c, by rw [Nat.zero_add, h.out.cell hlt, e], h1, h2, h3⟩⟩
end
end Go.Proofs.YtfoadipocpopiaaGreat
