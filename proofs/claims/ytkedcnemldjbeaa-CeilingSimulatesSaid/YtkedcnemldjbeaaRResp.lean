/- The walk over the reference's Response. Conditions: the tasks lie in memory; a valid list. -/
import Derived.Test.YtkedcnemldjbeaaRBlock
import Derived.Test.YtkedcnemldjbeaaPlainAbove
namespace Go.Proofs.Ytkedcnemldjbeaa
open Go.RowKit

theorem secsS_at {k : Int} {o : Int} : ∀ {ss : List Sec} {st : (Int → Option Int) × Nat}, (secsS k st ss).1 o = match st.1 o with | some x => some x | none => if hasO o ss then some k else none
  | [], st => by
    show st.1 o = _
    cases st.1 o <;> simp [hasO]
  | s :: r, st => by
    have ih := secsS_at (k := k) (o := o) (ss := r) (st := stepS k st s)
    have e : secsS k st (s :: r) = secsS k (stepS k st s) r := rfl
    rw [e, ih]
    by_cases h : (st.1 s.o).isSome
    · have e2 : stepS k st s = st := by simp [stepS, h]
      rw [e2]
      cases hq : st.1 o with
      | some x => rfl
      | none =>
        have hne : s.o ≠ o := fun e => by rw [e, hq] at h; simp at h
        have : hasO o (s :: r) = hasO o r := by simp [hasO, hne]
        rw [this]
    · have e2 : stepS k st s = (putM st.1 s.o k, st.2 + 1) := by simp [stepS, h]
      rw [e2]
      by_cases ho : o = s.o
      · subst ho
        have h1 : putM st.1 s.o k s.o = some k := by simp [putM]
        have h2 : st.1 s.o = none := by simpa using h
        have h3 : hasO s.o (s :: r) = true := by simp [hasO]
        show (match putM st.1 s.o k s.o with | some x => some x | none => _) = _
        rw [h1, h2, h3]; rfl
      · have h1 : putM st.1 s.o k o = st.1 o := by simp [putM, ho]
        have h3 : hasO o (s :: r) = hasO o r := by simp [hasO, Ne.symm ho]
        show (match putM st.1 s.o k o with | some x => some x | none => _) = _
        rw [h1, h3]
theorem tasksS_at {o : Int} : ∀ {l : List CT} {i : Nat} {st : (Int → Option Int) × Nat}, (tasksS i st l).1 o = match st.1 o with | some x => some x | none => if l.any (fun t => hasO o t.ss) then some ((i : Int) + l.findIdx (fun t => hasO o t.ss)) else none
  | [], i, st => by
    show st.1 o = _
    cases st.1 o <;> simp
  | t :: r, i, st => by
    rw [tasksS, tasksS_at (l := r), secsS_at]
    cases hq : st.1 o with
    | some x => rfl
    | none =>
      by_cases h : hasO o t.ss
      · simp [h, List.findIdx_cons]
      · simp only [h, List.any_cons, List.findIdx_cons, Bool.false_or, Bool.false_eq_true, if_false]
        split
        · simp [cond]; omega
        · rfl
theorem ceilM_eq {l : List CT} {o : Int} (h : ∃ t ∈ l, hasO o t.ss = true) : ceilM l o = some (ceilR l o) := by
  have e := tasksS_at (o := o) (l := l) (i := 0) (st := (fun _ => none, 0))
  have : l.any (fun t => hasO o t.ss) = true := by rw [List.any_eq_true]; exact h
  simp only [this, if_true] at e
  show (tasksS 0 (fun _ => none, 0) l).1 o = _
  rw [e]; simp [ceilR]
theorem ceilM_none {l : List CT} {o : Int} (h : ∀ t ∈ l, hasO o t.ss = false) : ceilM l o = none := by
  have e := tasksS_at (o := o) (l := l) (i := 0) (st := (fun _ => none, 0))
  have : l.any (fun t => hasO o t.ss) = false := by rw [List.any_eq_false]; intro t ht; simp [h t ht]
  simp only [this] at e
  show (tasksS 0 (fun _ => none, 0) l).1 o = _
  rw [e]; simp
theorem hasO_mem {s : Sec} {ss : List Sec} (h : s ∈ ss) : hasO s.o ss = true := by
  rw [hasO, List.any_eq_true]; exact ⟨s, h, by simp⟩
theorem blkSs_congr {m m' : Int → Option Int} {i : Int} : ∀ {ss : List Sec} {acc : Int}, (∀ s ∈ ss, (m s.o).getD 0 = (m' s.o).getD 0) → blkSs m i acc ss = blkSs m' i acc ss
  | [], _, _ => rfl
  | s :: r, acc, h => by
    show blkSs m i (blkS m i acc s) r = blkSs m' i (blkS m' i acc s) r
    have e : blkS m i acc s = blkS m' i acc s := by simp only [blkS, h s (List.mem_cons_self ..)]
    rw [e]
    exact blkSs_congr (fun x hx => h x (List.mem_cons_of_mem _ hx))
theorem blkTs_congr {m m' : Int → Option Int} {i : Int} : ∀ {l : List CT} {acc : Int}, (∀ t ∈ l, ∀ s ∈ t.ss, (m s.o).getD 0 = (m' s.o).getD 0) → blkTs m i acc l = blkTs m' i acc l
  | [], _, _ => rfl
  | t :: r, acc, h => by
    show blkTs m i (blkSs m i acc t.ss) r = blkTs m' i (blkSs m' i acc t.ss) r
    rw [blkSs_congr (h t (List.mem_cons_self ..))]
    exact blkTs_congr (fun x hx => h x (List.mem_cons_of_mem _ hx))
theorem blkR_eq {l : List CT} {n : Nat} (hx : exB l n = true) : blkTs (ceilRM l) n 0 (l.drop (n + 1)) = blkV l n := by
  rw [blkV, if_pos hx]
  refine blkTs_congr (fun t ht s hs => ?_)
  rw [ceilM_eq ⟨t, List.mem_of_mem_drop ht, hasO_mem hs⟩]; rfl

set_option maxRecDepth 100000 in
set_option maxHeartbeats 3200000 in
theorem rresp_any (l : List CT) (a : Option Addr) (cap n : Nat) (w : World) (hv : validL l = true) (hn : n < l.length) (hc : TasksAt w w.heap.size a l) :
    Calls Try.prog 25 #[.slice a l.length cap, .int .i64 n] w fun e w' => e = .returned (.tuple #[.int .i64 ((respO l n).getD 0), .bool (respO l n).isSome]) ∧ Below w.heap.size w w' := by
  have hx := exB_mk hv hn
  obtain ⟨B0, B1⟩ := blkV_bd hx
  have HBV := Lib.hid (blkR_eq hx)
  obtain ⟨h20, hok⟩ := validL_bd hv
  obtain ⟨b, off, rfl, hbN, hcell⟩ := hc (by intro e; subst e; simp at hn)
  obtain ⟨c0, _, c2, _, _, _, _, _⟩ := hcell n _ (ctAt_get hn)
  obtain ⟨⟨t1, t2, t3, t4, t5, t6, _⟩, _⟩ := okT_bd (hok _ (ctAt_mem hn))
  have HIB := Lib.hid (fun v (h0 : 0 ≤ v) (h1 : v ≤ 100000) => intL_bd h0 h1 (l := l.take n) (fun t ht => hok t (List.mem_of_mem_take ht)))
  have hn20 : ((l.take n).length : Int) ≤ 20 := by rw [List.length_take]; omega
  have HO := Lib.hid (show respO l n = lf (rhs l n ((ctAt l n).c + blkV l n)) ((ctAt l n).d + 1 - ((ctAt l n).c + blkV l n)).toNat ((ctAt l n).c + blkV l n) from rfl)
  have HRB := Lib.hid (fun w' hc' => rblock_any l (some ⟨b, off, none⟩) cap n w' hv hn hc')
  have HRI := Lib.hid (fun w' hc' v h0 h1 => rinterf_any l (some ⟨b, off, none⟩) cap n v w' hv hn hc' h0 h1)
  generalize (ctAt l n).c = c at *
  generalize (ctAt l n).d = d at *
  generalize blkV l n = B at *
  generalize blkTs (ceilRM l) n 0 (l.drop (n + 1)) = B' at *
  obtain rfl : B' = B := HBV.out
  clear HBV hv hok hcell hx
  have hlen : (l.length : Int) ≤ 20 := by omega
  have hn' : (n : Int) < (l.length : Int) := by omega
  have n0 : (0 : Int) ≤ (n : Int) := by omega
  have wa : IntKind.i64.wrap (c + B') = c + B' := IntWalk.i64_in _ (by omega)
  go_enter Try.func25, Try.ntmps25
  go_wp2_with fail
  refine wp_region_quiet (C := fun W => Below w.heap.size w W) (by kernel_rfl) (by kernel_rfl) (Below.refl _ _).drew ?_
  repeat (
    refine wpQuiet_step (fun K hK => ?_)
    go_simp
    first
      | (refine hK _ ?_; clear hK K)
      | (apply Exists.intro
         refine ⟨fun W q0 => ?_, hK _ ?_⟩
         (first
           | rfl
           | (have qc := (bcell q0).1; go_simp; rfl)
           | (go_at_call 28; ((with_reducible refine (HRB.out _ (hc.on q0 q0.size)).mono ?_)); rintro e w5 ⟨rfl, hb5⟩; exact ⟨rfl, q0.trans (hb5.mono q0.size)⟩))
         clear hK K))
  refine wpQuiet_nil ?_
  intro w1 b1
  have s1 := b1.size
  clear wa HRB
  generalize hbase : c + B' = base at *
  have hb0 : 1 ≤ base := by omega
  have hb1 : base ≤ 2000 := by omega
  clear hbase
  have C2 := Lib.hid c2
  clear c0 c2
  go_wp2_with fail
  go_loopw [7] (fun u wr => ∃ r : Int, u = .int .i64 r ∧ base ≤ r ∧ r ≤ 2000 ∧ Hid (∀ y, base ≤ y → y < r → rhs l n base y ≠ y) ∧ Below w.heap.size w wr) (fun u _ => (d + 1 - intOf u).toNat)
  case atStart => exact ⟨base, rfl, by omega, by omega, fun y h1 h2 => by omega, b1⟩
  case round =>
    obtain ⟨r, rfl, r0, r1, hno, hbl⟩ := hrel
    have hbs := hbl.size
    have c2 := keep_cellN hbl hbN C2.out
    by_cases hrd : r ≤ d
    · obtain ⟨i0, i1⟩ := HIB.out r (by omega) (by omega)
      have HR := Lib.hid (HRI.out _ (hc.on hbl hbs) r (by omega) (by omega))
      have HQ := Lib.hid (show rhs l n base r = base + intL r 0 (l.take n) from rfl)
      generalize intL r 0 (l.take n) = I at *
      by_cases he : base + I = r
      · have hs := lf_some (f := rhs l n base) (n := (d + 1 - base).toNat) r0 (by omega) (by rw [HQ.out, he]) hno.out
        have HF := Lib.hid (HO.out.trans hs)
        have hq : (base + I == r) = true := by simp [he]
        clear hs he
        go_wp2_with (go_at_call 29; refine (HR.out).mono ?_; rintro e w6 ⟨rfl, hb6⟩)
        go_ret2
        exact ⟨by rw [HF.out]; rfl, hbl.trans (hb6.mono hbs)⟩
      · have HN := Lib.hid (show ∀ y, base ≤ y → y < r + 1 → rhs l n base y ≠ y from fun y h1 h2 => by
          by_cases e : y = r
          · subst e; rw [HQ.out]; exact he
          · exact hno.out y h1 (by omega))
        have hq : (base + I == r) = false := beq_eq_false_iff_ne.2 he
        clear he
        go_wp2_with (go_at_call 29; refine (HR.out).mono ?_; rintro e w6 ⟨rfl, hb6⟩)
        go_roundw
        case rel => exact ⟨r + 1, rfl, by omega, by omega, HN.out, hbl.trans (hb6.mono hbs)⟩
        case measure => simp [intOf]; omega
    · have hs := lf_none (f := rhs l n base) (n := (d + 1 - base).toNat) (r0 := base) (fun y h1 h2 => hno.out y h1 (by omega))
      have HF := Lib.hid (HO.out.trans hs)
      clear hs
      go_wp2_with fail
      go_ret2
      exact ⟨by rw [HF.out]; rfl, hbl⟩
end Go.Proofs.Ytkedcnemldjbeaa
