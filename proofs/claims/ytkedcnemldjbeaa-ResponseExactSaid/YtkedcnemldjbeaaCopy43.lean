/- The walk over the other law's plain. Conditions: the tasks lie in memory; few. -/
import Derived.Test.YtkedcnemldjbeaaCopy44
namespace Go.Proofs.Ytkedcnemldjbeaa
open Go.RowKit

set_option maxRecDepth 100000 in
set_option maxHeartbeats 3200000 in
theorem plain43_any (l : List CT) (a : Option Addr) (cap : Nat) (w : World) (hl : l.length ≤ 1000) (hs : ∀ t ∈ l, t.ss.length ≤ 1000) (hc : TasksAt w w.heap.size a l) :
    Calls Try.prog 34 #[.slice a l.length cap] w (CopyPost l w) := by
  have hlen : (l.length : Int) ≤ 1000 := by omega
  have HS := Lib.hid hs
  clear hs
  go_enter Try.func34, Try.ntmps34
  go_wp2_with fail
  go_loopw [11, 3] (fun u v wr => ∃ k : Nat, u = .int .i64 k ∧ k ≤ l.length ∧ Hid (CopyAt w.heap.size wr v (l.take k)) ∧ Below w.heap.size w wr) (fun u _ _ => l.length - (intOf u).toNat)
  case atStart => exact ⟨0, rfl, by omega, ⟨[], rfl, Win.nil _ _ _, (fun g hg => by cases hg), (fun x hx => by cases hx)⟩, Below.refl _ _⟩
  case round =>
    obtain ⟨k, rfl, hk, hcp, hbl⟩ := hrel
    have hbs := hbl.size
    by_cases hlt : k < l.length
    · obtain ⟨b, off, rfl, hbN, hcell⟩ := hc (by intro e; simp [e] at hlt)
      obtain ⟨c0, c1, c2, sa, sc, c3, hsl, hss⟩ := hcell k l[k] (List.getElem?_eq_getElem hlt)
      have c0 := keep_cellN hbl hbN c0
      have c1 := keep_cellN hbl hbN c1
      have c2 := keep_cellN hbl hbN c2
      have c3 := keep_cellN hbl hbN c3
      clear hcell
      have HT := Lib.hid (List.take_succ_eq_append_getElem hlt)
      have h8 := HS.out l[k] (List.getElem_mem hlt)
      generalize l[k] = t at *
      have hss := hss.keep hbl
      have hn8 : (t.ss.length : Int) ≤ 1000 := by omega
      go_wp2_with fail
      have hI : InnAt t (wr.heap.size + 1) ((wr.alloc (.cells #[.int .i64 t.c, .int .i64 t.p, .int .i64 t.d, .slice sa t.ss.length sc] 30)).alloc (.cells #[.int .i64 t.c, .int .i64 t.p, .int .i64 t.d, .slice none 0 0] 79)) ((wr.alloc (.cells #[.int .i64 t.c, .int .i64 t.p, .int .i64 t.d, .slice sa t.ss.length sc] 30)).alloc (.cells #[.int .i64 t.c, .int .i64 t.p, .int .i64 t.d, .slice none 0 0] 79)) 0 (.slice none 0 0) := by
        refine ⟨?_, Win.nil _ _ _, (fun g hg => by cases hg), Below.refl _ _⟩
        have := Go.Deep.blk_alloc_new (wr.alloc (.cells #[.int .i64 t.c, .int .i64 t.p, .int .i64 t.d, .slice sa t.ss.length sc] 30)) (.cells #[.int .i64 t.c, .int .i64 t.p, .int .i64 t.d, .slice none 0 0] 79)
        simpa using this
      have hbb : Below wr.heap.size wr ((wr.alloc (.cells #[.int .i64 t.c, .int .i64 t.p, .int .i64 t.d, .slice sa t.ss.length sc] 30)).alloc (.cells #[.int .i64 t.c, .int .i64 t.p, .int .i64 t.d, .slice none 0 0] 79)) := ((Below.refl _ _).alloc (Nat.le_refl _) _).alloc (by simp) _
      have hI := Lib.hid hI
      obtain ⟨wo, rfl⟩ : ∃ wo : World, wo = wr := ⟨_, rfl⟩
      clear c0 c1 c2 c3
      generalize (wo.alloc (.cells #[.int .i64 t.c, .int .i64 t.p, .int .i64 t.d, .slice sa t.ss.length sc] 30)).alloc (.cells #[.int .i64 t.c, .int .i64 t.p, .int .i64 t.d, .slice none 0 0] 79) = wb at *
      go_loopw [25] (fun u wq => ∃ (j : Nat) (sv : Value), u = .int .i64 j ∧ j ≤ t.ss.length ∧ Hid (InnAt t (wo.heap.size + 1) wb wq j sv)) (fun u _ => t.ss.length - (intOf u).toNat)
      case atStart => exact ⟨0, _, rfl, by omega, hI.out⟩
      case round =>
        obtain ⟨j, sv, rfl, hj, hin⟩ := hrel
        obtain ⟨h1, h2, h3, h4⟩ := hin.out
        have hlt1 := row_lt h1
        have hwb : Below wo.heap.size wo wr := hbb.trans (h4.mono (by omega))
        by_cases hjl : j < t.ss.length
        · obtain ⟨sb, soff, rfl, hsN, hscell⟩ := hss (by intro e; simp [e] at hjl)
          obtain ⟨s0, s1, s2⟩ := hscell j t.ss[j] (List.getElem?_eq_getElem hjl)
          have s0 := keep_cellN hwb (by omega) s0
          have s1 := keep_cellN hwb (by omega) s1
          have s2 := keep_cellN hwb (by omega) s2
          clear hscell
          obtain ⟨g, o, c, w', hrun, hB', hlt', hI'⟩ := hin.out.step hjl h8
          have d3 := row_cell h1 (j := 3) rfl
          have d3' := row_cell hB' (j := 3) rfl
          have f3' := row_free 3 hB'
          have HI' := Lib.hid hI'
          clear hI' h1 h2 h3 h4 hB' hI hin
          generalize t.ss[j] = s at *
          go_wp2_with (at_builtin; refine wpList_append_by rfl (.tmp 30) (.tmp 38) 77 rfl sv (.slice (some ⟨wr.heap.size + 1, 0, none⟩) 1 1) _ w' rfl rfl hrun ?_)
          go_roundw
          case rel => exact ⟨j + 1, _, by go_num, by omega, HI'.out⟩
          case measure => simp [intOf]; omega
        · obtain rfl : j = t.ss.length := by omega
          rw [List.take_of_length_le (Nat.le_refl _)] at h2
          have hcp' := CopyAt.below hcp.out hwb
          obtain ⟨sa', sc', rfl, hso⟩ := SecOwn.of_win (ob := u3.ownBlock) h2 (fun g hg e => by
            have e1 := h3 g hg
            obtain ⟨tc, _, q2, _⟩ := hcp.out
            have := q2.blk_lt e
            omega)
          obtain ⟨v', w', hrun, hcp2, hb2⟩ := hcp'.push (sc := sc') hso (by rw [List.length_take]; omega) (by omega)
          have d0 := row_cell h1 (j := 0) rfl
          have d1 := row_cell h1 (j := 1) rfl
          have d2 := row_cell h1 (j := 2) rfl
          have d3 := row_cell h1 (j := 3) rfl
          rw [← HT.out] at hcp2
          have HC := Lib.hid hcp2
          have hbw : Below w.heap.size w w' := (hbl.trans (hwb.mono hbs)).trans hb2
          clear hI hcp' hso hcp2 h1 h2 h3 h4 hin hb2 hwb hbb hss hcp hsl
          go_wp2_with (at_builtin; refine wpList_append_by rfl (.tmp 42) (.tmp 44) 40 rfl u3 (.slice (some ⟨wr.heap.size, 0, none⟩) 1 1) v' w' rfl rfl hrun ?_)
          go_roundw
          case rel => exact ⟨k + 1, by go_num, by omega, HC.out, hbw⟩
          case measure => simp [intOf]; omega
    · obtain rfl : k = l.length := by omega
      have hcp' := hcp.out
      rw [List.take_of_length_le (Nat.le_refl _)] at hcp'
      obtain ⟨a', c', rfl, q1, q2, q3⟩ := hcp'.tasks HS.out
      have Q3 := Lib.hid q3
      clear hcp hcp' q3
      go_wp2_with fail
      go_ret
      exact ⟨a', c', rfl, q1, q2, Q3.out, hbl⟩
end Go.Proofs.Ytkedcnemldjbeaa
