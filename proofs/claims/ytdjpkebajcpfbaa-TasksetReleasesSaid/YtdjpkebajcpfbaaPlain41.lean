/- The walk over the law's Plain: a copy of the tasks. Conditions: at most 60 tasks, that lie in memory. -/
import Derived.Test.YtdjpkebajcpfbaaCopyT
import Derived.OwnWalk
import Derived.Outline
import Derived.Deep.DeepCutAuto
import Derived.Laws.EntriesVeiled
namespace Go.Proofs.Ytdjpkebajcpfbaa
open Go.RowKit

theorem rt_push {w : World} {v : Value} {q : List TT} {N n : Nat} (hn : n = q.length) (hw : Win w 46 3 v n (q.flatMap encT)) (hv : ∀ g, v.ownBlock = some g → N ≤ g) (hN : N ≤ w.heap.size) (t : TT) (hq : q.length ≤ 1000) :
    ∃ v' w', (Builtin.append_ #[29, 29] 29 #[v, .slice (some ⟨w.heap.size, 0, none⟩) 1 1]).run Try.prog (w.alloc (.cells #[.string t.nm, .int .i64 t.c, .int .i64 t.p] 46)) = .ok v' w' ∧ Win w' 46 3 v' (n + 1) ((q ++ [t]).flatMap encT) ∧ Below N w w' ∧ (∀ g, v'.ownBlock = some g → N ≤ g) := by
  obtain ⟨gg, o, c, w', hr, hw', hgr, hl, hlt⟩ := Win.push (P := Try.prog) (t := 29) (ty := 29) Try.underlying29 info_rtt (by simp [Value.cells]) (by decide)
    (hw.alloc (.cells #[.string t.nm, .int .i64 t.c, .int .i64 t.p] 46)) ⟨w.heap.size, 0, none⟩ 1 (encT t) rfl (fun k u hk => World.news_of_block (Go.Deep.blk_alloc_new _ _) k u hk) (fun u hu => by
      simp only [encT, List.mem_cons, List.not_mem_nil, or_false] at hu
      rcases hu with rfl | rfl | rfl <;> rfl) (by omega) (by omega)
  refine ⟨_, w', hr, by simpa [List.flatMap_append] using hw', ((Below.refl N w).alloc hN _).grown hgr (by simp; omega) hv, fun g hg => ?_⟩
  simp only [Value.ownBlock, Option.some.injEq] at hg
  subst hg
  rcases hl with hl | hl
  · exact hv gg hl
  · rw [hl]; simp; omega

set_option maxRecDepth 100000 in
set_option maxHeartbeats 6400000 in
theorem plain_any (l : List TT) (a : Option Addr) (cap : Nat) (w : World) (hl : l.length ≤ 60) (hc : TSAt w w.heap.size a l) :
    Calls Try.prog 15 #[.slice a l.length cap] w fun e w' => ∃ a' cap', e = .returned (.slice a' l.length cap') ∧ l.length ≤ cap' ∧ cap' ≤ 9223372036854775807 ∧ TSAt w' w'.heap.size a' l ∧ Below w.heap.size w w' := by
  have hlI : (l.length : Int) ≤ 60 := by omega
  have HC := Lib.hid hc
  clear hc
  go_enter Try.func15, Try.ntmps15
  go_wp2_with fail
  go_loopw [4, 3] (fun u v wr => ∃ k : Nat, u = .int .i64 k ∧ k ≤ l.length ∧ Hid (Win wr 46 3 v k ((l.take k).flatMap encT) ∧ ∀ g, v.ownBlock = some g → w.heap.size ≤ g) ∧ Below w.heap.size w wr) (fun u _ _ => l.length - (intOf u).toNat)
  case atStart => exact ⟨0, rfl, by omega, Lib.hid ⟨Win.nil _ _ _, fun g hg => by simp [Value.ownBlock] at hg⟩, Below.refl _ _⟩
  case round =>
    obtain ⟨k, rfl, hk, hw, hbl⟩ := hrel
    by_cases h0 : k < l.length
    · obtain ⟨b, off, rfl, hbN, hcell⟩ := HC.out (by intro e; simp [e] at h0)
      obtain ⟨c0, c1, c2⟩ := hcell k _ (ttAt_get h0)
      have c0 := keep_cellN hbl hbN c0
      have c1 := keep_cellN hbl hbN c1
      have c2 := keep_cellN hbl hbN c2
      have hbr : b < wr.heap.size := by have := hbl.size; omega
      have hkl : (k : Int) < (l.length : Int) := by omega
      have HT := Lib.hid (show l.take (k + 1) = l.take k ++ [ttAt l k] from by
        rw [List.take_add_one, ttAt_get h0]; rfl)
      obtain ⟨v', w', hrun, h1, h2, h3⟩ := rt_push (by simp; omega) hw.out.1 hw.out.2 hbl.size (ttAt l k) (by simp; omega)
      rw [← HT.out] at h1
      have H1 := Lib.hid (And.intro h1 h3)
      have b2 := hbl.trans h2
      clear hcell HT h1 h2 h3 hw hbl
      generalize ttAt l k = t at *
      obtain ⟨tn, tc, tp⟩ := t
      simp only at c0 c1 c2 hrun
      go_wp2_with (at_builtin; refine wpList_append_by rfl (.tmp 11) (.tmp 16) 29 rfl u3 (.slice (some ⟨wr.heap.size, 0, none⟩) 1 1) v' w' rfl rfl hrun ?_)
      go_roundw
      case rel => exact ⟨k + 1, by go_num, by omega, H1, b2⟩
      case measure => simp [intOf]; omega
    · obtain rfl : k = l.length := by omega
      have hw2 := hw.out.1
      rw [List.take_of_length_le (Nat.le_refl _)] at hw2
      obtain ⟨a', c', rfl, q1, q2, q3⟩ := hw2.ts rfl
      have Q3 := Lib.hid q3
      clear hw hw2 q3
      go_wp2_with fail
      go_ret
      exact ⟨a', c', rfl, q1, q2, Q3.out, hbl⟩
end Go.Proofs.Ytdjpkebajcpfbaa
