/- The walks over the reference's Blocking, Interference and Response. Conditions: the tasks lie in memory; a valid list. -/
import Derived.Test.YtkedcnemldjbeaaRCeil
import Derived.Test.YtkedcnemldjbeaaResp2
namespace Go.Proofs.Ytkedcnemldjbeaa
open Go.RowKit

def ceilRM (l : List CT) (o : Int) : Option Int := some (ceilR l o)

set_option maxRecDepth 100000 in
set_option maxHeartbeats 3200000 in
theorem rblock_any (l : List CT) (a : Option Addr) (cap n : Nat) (w : World) (hv : validL l = true) (hn : n < l.length) (hc : TasksAt w w.heap.size a l) :
    Calls Try.prog 28 #[.slice a l.length cap, .int .i64 n] w fun e w' => e = .returned (.int .i64 (blkTs (ceilRM l) n 0 (l.drop (n + 1)))) ∧ Below w.heap.size w w' := by
  obtain ⟨h20, hok⟩ := validL_bd hv
  have HOK := Lib.hid hok
  clear hok hv
  have hlen : (l.length : Int) ≤ 20 := by omega
  have hn' : (n : Int) < (l.length : Int) := by omega
  go_enter Try.func28, Try.ntmps28
  go_wp2_with fail
  go_loopw [6, 5] (fun u x wr => ∃ (k : Nat) (acc : Int), u = .int .i64 (n + 1 + k) ∧ x = .int .i64 acc ∧ n + 1 + k ≤ l.length ∧ 0 ≤ acc ∧ acc ≤ 1000 ∧ Hid (blkTs (ceilRM l) n 0 (l.drop (n + 1)) = blkTs (ceilRM l) n acc (l.drop (n + 1 + k))) ∧ Below w.heap.size w wr) (fun u _ _ => l.length - (intOf u).toNat)
  case atStart => exact ⟨0, 0, rfl, rfl, by omega, by omega, by omega, rfl, Below.refl _ _⟩
  case round =>
    obtain ⟨k, acc, rfl, rfl, hk, a0, a1, hst, hbl⟩ := hrel
    have hbs := hbl.size
    by_cases hlt : n + 1 + k < l.length
    · obtain ⟨b, off, rfl, hbN, hcell⟩ := hc (by intro e; simp [e] at hlt)
      obtain ⟨c0, c1, c2, sa, sc, c3, hsl, hss⟩ := hcell (n + 1 + k) l[n + 1 + k] (List.getElem?_eq_getElem hlt)
      clear hcell
      have HS := Lib.hid (hst.out.trans (blkTs_step hlt))
      have htb := okT_bd (HOK.out l[n + 1 + k] (List.getElem_mem hlt))
      clear hst c0 c1 c2
      generalize l[n + 1 + k] = t at *
      have h8 : t.ss.length ≤ 8 := htb.1.2.2.2.2.2.2
      have htc : t.c ≤ 1000 := htb.1.2.1
      have HM := Lib.hid (secsOK_mem htb.2 (Int.le_refl 0))
      clear htb hsl
      have C3 := Lib.hid c3
      have c3 := keep_cellN hbl hbN c3
      have hlt' : (n : Int) + 1 + (k : Int) < (l.length : Int) := by omega
      have hn8 : (t.ss.length : Int) ≤ 8 := by omega
      go_wp2_with fail
      clear c3
      obtain ⟨wo, rfl⟩ : ∃ wo : World, wo = wr := ⟨_, rfl⟩
      go_loopw [7, 5] (fun u x wq => ∃ (j : Nat) (ac : Int), u = .int .i64 j ∧ x = .int .i64 ac ∧ j ≤ t.ss.length ∧ 0 ≤ ac ∧ ac ≤ 1000 ∧ Hid (blkSs (ceilRM l) n acc t.ss = blkSs (ceilRM l) n ac (t.ss.drop j)) ∧ Below w.heap.size w wq) (fun u _ _ => t.ss.length - (intOf u).toNat)
      case atStart => exact ⟨0, acc, rfl, rfl, by omega, a0, a1, rfl, hbl⟩
      case round =>
        obtain ⟨j, ac, rfl, rfl, hj, a0, a1, hst, hbl⟩ := hrel
        have hbs := hbl.size
        have c3 := keep_cellN hbl hbN C3.out
        by_cases hjl : j < t.ss.length
        · obtain ⟨sb, soff, rfl, hsN, hscell⟩ := hss (by intro e; simp [e] at hjl)
          obtain ⟨s0, s1, s2⟩ := hscell j t.ss[j] (List.getElem?_eq_getElem hjl)
          have s0 := keep_cellN hbl hsN s0
          have s1 := keep_cellN hbl hsN s1
          have s2 := keep_cellN hbl hsN s2
          clear hscell
          have HT := Lib.hid (hst.out.trans (blkSs_step hjl))
          have hsm := HM.out t.ss[j] (List.getElem_mem hjl)
          clear hst
          generalize t.ss[j] = s at *
          obtain ⟨so, sf, st1⟩ := s
          simp only at s0 s1 s2 hsm
          obtain ⟨o1, o2, f1, f2, f3⟩ := hsm
          have hbb : Below w.heap.size w (wr.alloc (.cells #[.int .i64 so, .int .i64 sf, .int .i64 st1] 80)) := hbl.alloc (by omega) _
          have HR := Lib.hid (rceil_any l (some ⟨b, off, none⟩) cap so (wr.alloc (.cells #[.int .i64 so, .int .i64 sf, .int .i64 st1] 80)) (by omega) (hc.on hbb (by simp; omega)))
          generalize hg : (ceilR l so : Int) = g at *
          have HG := Lib.hid (show (ceilRM l so).getD 0 = g from hg)
          have hjl' : (j : Int) < (t.ss.length : Int) := by omega
          clear hg
          by_cases hgn : g ≤ n
          · by_cases hmx : ac < st1 - sf - 1
            · have HT2 := Lib.hid (show blkSs (ceilRM l) n acc t.ss = blkSs (ceilRM l) n (st1 - sf - 1) (t.ss.drop (j + 1)) by rw [HT.out]; simp only [blkS, HG.out, if_pos hgn]; rw [Int.max_eq_right (by omega)])
              clear HT
              go_wp2_with (go_at_call 41; refine (HR.out).mono ?_; rintro e w5 ⟨rfl, rfl⟩)
              go_roundw
              case rel => exact ⟨j + 1, st1 - sf - 1, by go_num, rfl, by omega, by omega, by omega, HT2.out, hbb⟩
              case measure => simp [intOf]; omega
            · have HT2 := Lib.hid (show blkSs (ceilRM l) n acc t.ss = blkSs (ceilRM l) n ac (t.ss.drop (j + 1)) by rw [HT.out]; simp only [blkS, HG.out, if_pos hgn]; rw [Int.max_eq_left (by omega)])
              clear HT
              go_wp2_with (go_at_call 41; refine (HR.out).mono ?_; rintro e w5 ⟨rfl, rfl⟩)
              go_roundw
              case rel => exact ⟨j + 1, ac, by go_num, rfl, by omega, a0, a1, HT2.out, hbb⟩
              case measure => simp [intOf]; omega
          · have HT2 := Lib.hid (show blkSs (ceilRM l) n acc t.ss = blkSs (ceilRM l) n ac (t.ss.drop (j + 1)) by rw [HT.out]; simp only [blkS, HG.out, if_neg hgn])
            clear HT
            go_wp2_with (go_at_call 41; refine (HR.out).mono ?_; rintro e w5 ⟨rfl, rfl⟩)
            go_roundw
            case rel => exact ⟨j + 1, ac, by go_num, rfl, by omega, a0, a1, HT2.out, hbb⟩
            case measure => simp [intOf]; omega
        · have HT := Lib.hid (show blkSs (ceilRM l) n acc t.ss = ac by rw [hst.out, List.drop_of_length_le (by omega)]; rfl)
          have hjl' : ¬ (j : Int) < (t.ss.length : Int) := by omega
          clear hst
          go_wp2_with fail
          go_roundw
          case rel => exact ⟨k + 1, ac, by go_num, rfl, by omega, a0, a1, by rw [← HT.out]; exact HS.out, hbl⟩
          case measure => simp [intOf]; omega
    · have HT := Lib.hid (show blkTs (ceilRM l) n 0 (l.drop (n + 1)) = acc by rw [hst.out, List.drop_of_length_le (by omega)]; rfl)
      have hlt' : ¬ (n : Int) + 1 + (k : Int) < (l.length : Int) := by omega
      clear hst
      go_wp2_with fail
      go_ret
      exact ⟨ret_int HT.out.symm, hbl⟩

set_option maxRecDepth 100000 in
set_option maxHeartbeats 3200000 in
theorem rinterf_any (l : List CT) (a : Option Addr) (cap n : Nat) (v : Int) (w : World) (hv : validL l = true) (hn : n < l.length) (hc : TasksAt w w.heap.size a l) (v0 : 0 ≤ v) (v1 : v ≤ 100000) :
    Calls Try.prog 29 #[.slice a l.length cap, .int .i64 n, .int .i64 v] w fun e w' => e = .returned (.int .i64 (intL v 0 (l.take n))) ∧ Below w.heap.size w w' := by
  obtain ⟨h20, hok⟩ := validL_bd hv
  have htl := Lib.hid (show (l.take n).length = n by rw [List.length_take]; omega)
  have HOK := Lib.hid (fun t (ht : t ∈ l.take n) => hok t (List.mem_of_mem_take ht))
  have HCT := Lib.hid (hc.take n)
  clear hok hv
  have hlen : (l.length : Int) ≤ 20 := by omega
  have hn20 : n ≤ 20 := by omega
  have hn' : (n : Int) < (l.length : Int) := by omega
  generalize hL : l.take n = L at *
  clear hL
  go_enter Try.func29, Try.ntmps29
  go_wp2_with fail
  go_loopw [8, 7] (fun u x wr => ∃ (k : Nat) (m : Int), u = .int .i64 k ∧ x = .int .i64 m ∧ k ≤ n ∧ 0 ≤ m ∧ m ≤ 101000000 * k ∧ Hid (intL v 0 L = intL v m (L.drop k)) ∧ Below w.heap.size w wr) (fun u _ _ => n - (intOf u).toNat)
  case atStart => exact ⟨0, 0, rfl, rfl, by omega, by omega, by omega, rfl, Below.refl _ _⟩
  case round =>
    obtain ⟨k, m, rfl, rfl, hk, n0, n1, hst, hbl⟩ := hrel
    have hbs := hbl.size
    by_cases hlt : k < n
    · have hlt2 : k < L.length := by have := htl.out; omega
      obtain ⟨b, off, rfl, hbN, hcell⟩ := HCT.out (by intro e; simp [e] at hlt2)
      obtain ⟨c0, c1, c2, sa, sc, c3, hsl, hss⟩ := hcell k L[k] (List.getElem?_eq_getElem hlt2)
      have c0 := keep_cellN hbl hbN c0
      have c1 := keep_cellN hbl hbN c1
      clear hcell hss c2 c3
      have HS := Lib.hid (hst.out.trans (intL_step hlt2))
      have htb := (okT_bd (HOK.out L[k] (List.getElem_mem hlt2))).1
      clear hst
      generalize L[k] = t at *
      obtain ⟨tc, tp, td, ss⟩ := t
      simp only at c0 c1 hsl htb
      obtain ⟨t1, t2, t3, t4, _⟩ := htb
      obtain ⟨⟨q0, q1⟩, q2, q3⟩ := term_bd t1 t2 t3 t4 v0 v1
      have hlt' : (k : Int) < (n : Int) := by omega
      have hlt3 : (k : Int) < (l.length : Int) := by omega
      have k0 : (0 : Int) ≤ (k : Int) := by omega
      have hbw : b < wr.heap.size := by omega
      have p0 : ¬ tp = 0 := by omega
      have wa : IntKind.i64.wrap (v + tp) = v + tp := IntWalk.i64_in _ (by omega)
      have wb1 : IntKind.i64.wrap (v + tp - 1) = v + tp - 1 := IntWalk.i64_in _ (by omega)
      have wd : IntKind.i64.wrap ((v + tp - 1).tdiv tp) = (v + tp - 1) / tp := wrap_div (by omega) (by omega) t3
      rw [Int.mul_comm] at q2 q3
      have wm : IntKind.i64.wrap ((v + tp - 1) / tp * tc) = (v + tp - 1) / tp * tc := IntWalk.i64_in _ (by omega)
      have ws : IntKind.i64.wrap (m + (v + tp - 1) / tp * tc) = m + (v + tp - 1) / tp * tc := IntWalk.i64_in _ (by omega)
      go_wp2_with fail
      refine wp_region_quiet (C := fun W => Below wr.heap.size wr W) (by kernel_rfl) (by kernel_rfl) (Below.refl _ _).drew ?_
      repeat (
        refine wpQuiet_step (fun K hK => ?_)
        go_simp
        first
          | (refine hK _ ?_; clear hK K)
          | (apply Exists.intro
             refine ⟨fun W q0 => ?_, hK _ ?_⟩
             (first
               | rfl
               | (have qc := (bcell q0).1; go_simp; rfl))
             clear hK K))
      refine wpQuiet_nil ?_
      intro W hW
      have hWw : Below w.heap.size w W := hbl.trans (hW.mono (by omega))
      clear wa wb1 wd wm ws hW
      have HS2 := Lib.hid (show intL v 0 L = intL v (m + (v + tp - 1) / tp * tc) (L.drop (k + 1)) by rw [HS.out]; simp only [intS]; rw [Int.mul_comm])
      generalize (v + tp - 1) / tp * tc = T at *
      clear HS
      go_wp2_with fail
      go_roundw
      case rel => exact ⟨k + 1, m + T, by go_num, rfl, by omega, by omega, by omega, HS2.out, hWw⟩
      case measure => simp [intOf]; omega
    · have HT := Lib.hid (show intL v 0 L = m by rw [hst.out, List.drop_of_length_le (by have := htl.out; omega)]; rfl)
      have hlt' : ¬ (k : Int) < (n : Int) := by omega
      clear hst
      go_wp2_with fail
      go_ret
      exact ⟨ret_int HT.out.symm, hbl⟩
end Go.Proofs.Ytkedcnemldjbeaa
