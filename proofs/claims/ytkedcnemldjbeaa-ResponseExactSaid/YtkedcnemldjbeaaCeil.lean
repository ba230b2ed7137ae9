/- The walk over ceiling.Ceilings. Conditions: the tasks lie in memory. -/
import Derived.Test.YtkedcnemldjbeaaTkValid
import Derived.Test.YtkedcnemldjbeaaMap
namespace Go.Proofs.Ytkedcnemldjbeaa
open Go.RowKit

def stepS (k : Int) (st : (Int → Option Int) × Nat) (s : Sec) : (Int → Option Int) × Nat := if (st.1 s.o).isSome then st else (putM st.1 s.o k, st.2 + 1)
def secsS (k : Int) (st : (Int → Option Int) × Nat) (ss : List Sec) : (Int → Option Int) × Nat := ss.foldl (stepS k) st
def tasksS (i : Nat) (st : (Int → Option Int) × Nat) : List CT → (Int → Option Int) × Nat
  | [] => st
  | t :: r => tasksS (i + 1) (secsS i st t.ss) r
def ceilS (l : List CT) : (Int → Option Int) × Nat := tasksS 0 (fun _ => none, 0) l
def ceilM (l : List CT) : Int → Option Int := (ceilS l).1

theorem tasksS_step {st : (Int → Option Int) × Nat} {l : List CT} {k : Nat} (h : k < l.length) : tasksS k st (l.drop k) = tasksS (k + 1) (secsS k st l[k].ss) (l.drop (k + 1)) := by
  rw [List.drop_eq_getElem_cons h, tasksS]
theorem secsS_step {i : Int} {st : (Int → Option Int) × Nat} {ss : List Sec} {j : Nat} (h : j < ss.length) : secsS i st (ss.drop j) = secsS i (stepS i st ss[j]) (ss.drop (j + 1)) := by
  rw [List.drop_eq_getElem_cons h, secsS, List.foldl_cons]; rfl

theorem validL_bd {l : List CT} (h : validL l = true) : l.length ≤ 20 ∧ ∀ t ∈ l, okT t = true := by
  simp only [validL, Bool.and_eq_true, decide_eq_true_eq, List.all_eq_true] at h
  exact h
theorem okT_bd {t : CT} (h : okT t = true) : (1 ≤ t.c ∧ t.c ≤ 1000 ∧ 1 ≤ t.p ∧ t.p ≤ 1000 ∧ 1 ≤ t.d ∧ t.d ≤ t.p ∧ t.ss.length ≤ 8) ∧ secsOK 0 t.c t.ss = true := by
  simp only [okT, Bool.and_eq_true, headOK, decide_eq_true_eq] at h
  exact h
theorem secsOK_mem {c : Int} : ∀ {ss : List Sec} {e : Int}, secsOK e c ss = true → 0 ≤ e → ∀ s ∈ ss, 0 ≤ s.o ∧ s.o ≤ 1000 ∧ 0 ≤ s.f ∧ s.f < s.t ∧ s.t ≤ c
  | [], _, _, _, s, hs => by cases hs
  | x :: r, e, h, he, s, hs => by
    simp only [secsOK, Bool.and_eq_true, secOK, decide_eq_true_eq] at h
    obtain ⟨⟨h1, h2, h3, h4, h5⟩, h6⟩ := h
    rcases List.mem_cons.1 hs with rfl | hs
    · exact ⟨h4, h5, by omega, h2, h3⟩
    · exact secsOK_mem h6 (by omega) s hs

def CeilPost (l : List CT) (w : World) (e : Ending) (w' : World) : Prop :=
  ∃ b n, e = .returned (.map (some b)) ∧ w.heap.size ≤ b ∧ IMap w' b n (if validL l then ceilM l else fun _ => none) (if validL l then (ceilS l).2 else 0) ∧ Below w.heap.size w w'

set_option maxRecDepth 100000 in
set_option maxHeartbeats 6400000 in
theorem ceilings_any (l : List CT) (a : Option Addr) (cap : Nat) (w : World) (hl : l.length ≤ 9223372036854775807) (hc : TasksAt w w.heap.size a l) :
    Calls Try.prog 35 #[.slice a l.length cap] w (CeilPost l w) := by
  have hmm := @run_makeMap Try.prog
  have hlen : (l.length : Int) ≤ 9223372036854775807 := by omega
  go_enter Try.func35, Try.ntmps35
  go_wp2_with fail
  refine (valid_any l a cap _ hl (hc.on ((Below.refl _ _).alloc (Nat.le_refl _) _) (by simp))).mono ?_
  rintro e w1 ⟨rfl, hb1⟩
  have hz1 : w.heap.size < w1.heap.size := by have := hb1.size; simp at this; omega
  have b1 : Below w.heap.size w w1 := ((Below.refl _ _).alloc (Nat.le_refl _) _).trans (hb1.mono (by simp))
  have hI := Lib.hid ((IMap.new w).keep hb1 (by simp))
  cases hv : validL l
  · have HV := Lib.hid hv
    clear hv hb1
    go_wp2_with fail
    go_ret
    exact ⟨w.heap.size, 0, rfl, Nat.le_refl _, by rw [HV.out]; exact hI.out, b1⟩
  · have HV := Lib.hid hv
    obtain ⟨h20, hok⟩ := validL_bd hv
    have HOK := Lib.hid hok
    clear hv hb1 hok
    go_wp2_with fail
    go_loopw [17] (fun u wr => ∃ (k n : Nat) (st : (Int → Option Int) × Nat), u = .int .i64 k ∧ k ≤ l.length ∧ n ≤ 8 * k ∧ Hid (ceilS l = tasksS k st (l.drop k)) ∧ Hid (IMap wr w.heap.size n st.1 st.2) ∧ Below w.heap.size w wr ∧ w.heap.size < wr.heap.size) (fun u _ => l.length - (intOf u).toNat)
    case atStart => exact ⟨0, 0, (fun _ => none, 0), rfl, by omega, by omega, rfl, hI.out, b1, hz1⟩
    case round =>
      obtain ⟨k, n, st, rfl, hk, hn, hst, hI, hbl, hz⟩ := hrel
      clear hz1 b1
      by_cases hlt : k < l.length
      · obtain ⟨b, off, rfl, hbN, hcell⟩ := hc (by intro e; simp [e] at hlt)
        obtain ⟨c0, c1, c2, sa, sc, c3, hsl, hss⟩ := hcell k l[k] (List.getElem?_eq_getElem hlt)
        have c0 := keep_cellN hbl hbN c0
        have c1 := keep_cellN hbl hbN c1
        have c2 := keep_cellN hbl hbN c2
        have c3 := keep_cellN hbl hbN c3
        clear hcell
        have HS := Lib.hid (hst.out.trans (tasksS_step hlt))
        have ht := HOK.out l[k] (List.getElem_mem hlt)
        have htb := okT_bd ht
        clear hst ht
        have hkl : (k : Int) ≤ 20 := by omega
        obtain ⟨wo, rfl⟩ : ∃ wo : World, wo = wr := ⟨_, rfl⟩
        generalize l[k] = t at *
        obtain ⟨tc, tp, td, ss⟩ := t
        simp only at c0 c1 c2 c3 hsl
        have h8 : ss.length ≤ 8 := htb.1.2.2.2.2.2.2
        have HM := Lib.hid (secsOK_mem htb.2 (Int.le_refl 0))
        clear htb
        go_wp2_with fail
        have hy : w.heap.size < (wo.alloc (.cells #[.int .i64 tc, .int .i64 tp, .int .i64 td, .slice sa ss.length sc] 30)).heap.size := by simp; omega
        have hbb : Below w.heap.size w (wo.alloc (.cells #[.int .i64 tc, .int .i64 tp, .int .i64 td, .slice sa ss.length sc] 30)) := hbl.alloc (by omega) _
        have hI2 := Lib.hid (hI.out.keep (N := wo.heap.size) ((Below.refl _ _).alloc (Nat.le_refl _) (.cells #[.int .i64 tc, .int .i64 tp, .int .i64 td, .slice sa ss.length sc] 30)) hz)
        clear c0 c1 c2 c3 hI hbl hz
        generalize wo.alloc (.cells #[.int .i64 tc, .int .i64 tp, .int .i64 td, .slice sa ss.length sc] 30) = wb at *
        go_loopw [25] (fun u wq => ∃ (j n : Nat) (st' : (Int → Option Int) × Nat), u = .int .i64 j ∧ j ≤ ss.length ∧ n ≤ 8 * k + j ∧ Hid (secsS k st ss = secsS k st' (ss.drop j)) ∧ Hid (IMap wq w.heap.size n st'.1 st'.2) ∧ Below w.heap.size w wq ∧ w.heap.size < wq.heap.size) (fun u _ => ss.length - (intOf u).toNat)
        case atStart => exact ⟨0, n, st, rfl, by omega, by omega, rfl, hI2.out, hbb, hy⟩
        case round =>
          obtain ⟨j, n', st', rfl, hj, hn', hst, hI, hbl, hz⟩ := hrel
          clear hI2 hbb hy
          by_cases hjl : j < ss.length
          · obtain ⟨sb, soff, rfl, hsN, hscell⟩ := hss (by intro e; simp [e] at hjl)
            obtain ⟨s0, s1, s2⟩ := hscell j ss[j] (List.getElem?_eq_getElem hjl)
            have s0 := keep_cellN hbl hsN s0
            have s1 := keep_cellN hbl hsN s1
            have s2 := keep_cellN hbl hsN s2
            clear hscell
            have HT := Lib.hid (hst.out.trans (secsS_step hjl))
            have hsm := HM.out ss[j] (List.getElem_mem hjl)
            clear hst
            generalize ss[j] = s at *
            obtain ⟨so, sf, st1⟩ := s
            simp only at s0 s1 s2 hsm
            obtain ⟨o1, o2, _, _, _⟩ := hsm
            have hI3 := hI.out.keep (N := wr.heap.size) ((Below.refl _ _).alloc (Nat.le_refl _) (.cells #[.int .i64 so, .int .i64 sf, .int .i64 st1] 63)) hz
            have hlook := hI3.look (k := so) (wf64 (by omega) (by omega))
            have hbb : Below w.heap.size w (wr.alloc (.cells #[.int .i64 so, .int .i64 sf, .int .i64 st1] 63)) := hbl.alloc (by omega) _
            cases hq : (st'.1 so).isSome
            · obtain ⟨w2, hrun, hI4, hg⟩ := hI3.put (by simp only [maxLen]; omega) (k := so) (v := k) (wf64 (by omega) (by omega)) (wf64 (by omega) (by omega))
              rw [hq] at hlook hI4
              have HI4 := Lib.hid hI4
              have HT2 := Lib.hid (show secsS k st ss = secsS k (putM st'.1 so k, st'.2 + 1) (ss.drop (j + 1)) by rw [HT.out]; simp [stepS, hq])
              have hb2 : Below w.heap.size w w2 := hbb.grown hg (by simp; omega) (fun x hx => by cases hx; omega)
              have hz2 : w.heap.size < w2.heap.size := by have := hg.size; simp at this; omega
              clear hI3 hI4 hI HT hq hbb hg
              go_wp2_with fail
              go_roundw
              case rel => exact ⟨j + 1, n' + 1, _, by go_num, by omega, by omega, HT2.out, HI4.out, hb2, hz2⟩
              case measure => simp [intOf]; omega
            · have HT2 := Lib.hid (show secsS k st ss = secsS k st' (ss.drop (j + 1)) by rw [HT.out]; simp [stepS, hq])
              rw [hq] at hlook
              have HI3 := Lib.hid hI3
              clear hI3 hI HT hq
              go_wp2_with fail
              go_roundw
              case rel => exact ⟨j + 1, n', st', by go_num, by omega, by omega, HT2.out, HI3.out, hbb, by simp; omega⟩
              case measure => simp [intOf]; omega
          · have HT := Lib.hid (show secsS k st ss = st' by rw [hst.out, List.drop_of_length_le (by omega)]; rfl)
            have HS2 := Lib.hid (HS.out)
            clear hst
            go_wp2_with fail
            go_roundw
            case rel => exact ⟨k + 1, n', st', by go_num, by omega, by omega, by rw [← HT.out]; exact HS.out, hI.out, hbl, hz⟩
            case measure => simp [intOf]; omega
      · have HT := Lib.hid (show ceilS l = st by rw [hst.out, List.drop_of_length_le (by omega)]; rfl)
        clear hst
        go_wp2_with fail
        go_ret
        exact ⟨w.heap.size, n, rfl, Nat.le_refl _, by rw [HV.out]; simp only [if_true, ceilM, HT.out]; exact hI.out, hbl⟩
end Go.Proofs.Ytkedcnemldjbeaa
