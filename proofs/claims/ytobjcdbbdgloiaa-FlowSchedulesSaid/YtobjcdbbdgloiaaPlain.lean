/- The law's plain: the jobs once more. Conditions: the jobs lie in memory. -/
import Derived.Test.YtobjcdbbdgloiaaFitsP
namespace Go.Proofs.Ytobjcdbbdgloiaa
open Go.RowKit Go.Deep

theorem info_rj : (Try.prog.info? 46).map (fun i => (i.zero, i.size, i.bytes)) = some (some (.agg #[.int .i64 0, .int .i64 0, .int .i64 0]), 3, 24) := by kernel_rfl
/-- A slice of the reference's jobs that the call builds. -/
def FW (N : Nat) (w : World) (v : Value) (js : List FJ) : Prop := Win w 46 3 v js.length (js.flatMap encJ) ∧ ∀ g, v.ownBlock = some g → N ≤ g
theorem FW.nil (N : Nat) (w : World) : FW N w (.slice none 0 0) [] := ⟨Win.nil _ _ _, fun g h => by simp [Value.ownBlock] at h⟩
theorem FW.below {N : Nat} {w w' : World} {v : Value} {js : List FJ} (h : FW N w v js) (hb : Below w.heap.size w w') : FW N w' v js := ⟨h.1.below hb fun _ hg => h.1.blk_lt hg, h.2⟩
theorem Win.jobs' {w : World} {T : TypeId} {v : Value} {l : List FJ} (h : Win w T 3 v l.length (l.flatMap encJ)) : ∃ a c, v = .slice a l.length c ∧ l.length ≤ c ∧ c ≤ 9223372036854775807 ∧ FJobsAt w w.heap.size a l := by
  obtain ⟨a, c, e, h1, h2⟩ := h.form0
  refine ⟨a, c, e, h1, h2, fun hne => ?_⟩
  obtain ⟨g, o, cap, e2, hlt, _⟩ := h.form (List.length_pos_iff.2 hne)
  rw [e2] at e h
  simp only [Value.slice.injEq] at e
  obtain ⟨rfl, _, _⟩ := e
  exact h.jobs hlt hne
theorem FW.push {N : Nat} {w : World} {v : Value} {js : List FJ} (h : FW N w v js) (hN : N ≤ w.heap.size) (j : FJ) (hm : js.length ≤ 1000000) :
    ∃ v' w', (Builtin.append_ #[47, 47] 47 #[v, .slice (some ⟨w.heap.size, 0, none⟩) 1 1]).run Try.prog (w.alloc (.cells #[.int .i64 j.r, .int .i64 j.d, .int .i64 j.c] 46)) = .ok v' w' ∧
      FW N w' v' (js ++ [j]) ∧ Below N w w' := by
  obtain ⟨hw, hv⟩ := h
  obtain ⟨g, o, c, w', hr, hw', hg, hl, hlt⟩ := Win.push (P := Try.prog) (t := 47) (ty := 47) Try.underlying47 info_rj (by simp [Value.cells]) (by decide)
    (hw.alloc (.cells #[.int .i64 j.r, .int .i64 j.d, .int .i64 j.c] 46)) ⟨w.heap.size, 0, none⟩ 1 (encJ j) rfl (fun k u hk => World.news_of_block (Go.Deep.blk_alloc_new _ _) k u hk) (fun u hu => by
      simp only [encJ, List.mem_cons, List.not_mem_nil, or_false] at hu
      rcases hu with rfl | rfl | rfl <;> rfl) (by omega) (by omega)
  refine ⟨_, w', hr, ⟨by simpa using hw', fun k hk => ?_⟩, ((Below.refl N w).alloc hN _).grown hg (by simp; omega) fun k hk => hv k hk⟩
  simp only [Value.ownBlock, Option.some.injEq] at hk
  subst hk
  rcases hl with hl | hl
  · exact hv _ hl
  · rw [hl]; simp; omega

set_option maxRecDepth 100000 in
set_option maxHeartbeats 6400000 in
theorem plain_any (l : List FJ) (a : Option Addr) (cap : Nat) (w : World) (hl : l.length ≤ 1000) (hc : FJobsAt w w.heap.size a l) :
    Calls Try.prog 21 #[.slice a l.length cap] w fun e w' => ∃ a' c', e = .returned (.slice a' l.length c') ∧ l.length ≤ c' ∧ c' ≤ 9223372036854775807 ∧ FJobsAt w' w'.heap.size a' l ∧ Below w.heap.size w w' := by
  have hlI : (l.length : Int) ≤ 1000 := by omega
  go_enter Try.func21, Try.ntmps21
  go_wp2_with fail
  go_loopw [8, 3] (fun u v wr => ∃ k : Nat, u = .int .i64 k ∧ k ≤ l.length ∧ Hid (FW w.heap.size wr v (l.take k)) ∧ Below w.heap.size w wr) (fun u _ _ => l.length - (intOf u).toNat)
  case atStart => exact ⟨0, rfl, by omega, FW.nil _ _, Below.refl _ _⟩
  case round =>
    obtain ⟨k, rfl, hk, hfw, hbl⟩ := hrel
    have hbs := hbl.size
    by_cases hlt : k < l.length
    · have k0 : (0 : Int) ≤ (k : Int) := by omega
      have k1 : (k : Int) < (l.length : Int) := by omega
      obtain ⟨b, off, rfl, hbN, hcell⟩ := hc (by intro e; simp [e] at hlt)
      obtain ⟨c0, c1, c2⟩ := hcell k _ (fjAt_get hlt)
      have c0 := keep_cellN hbl hbN c0
      have c1 := keep_cellN hbl hbN c1
      have c2 := keep_cellN hbl hbN c2
      have hbr : b < wr.heap.size := by omega
      have HT := Lib.hid (show l.take (k + 1) = l.take k ++ [fjAt l k] by
        have h := fjAt_get hlt
        rw [List.getElem?_eq_getElem hlt] at h
        rw [List.take_succ_eq_append_getElem hlt, Option.some.inj h])
      have hlen : (l.take k).length ≤ 1000 := by simp; omega
      clear hcell
      generalize l.take k = L at *
      generalize fjAt l k = j at *
      obtain ⟨jr, jd, jc⟩ := j
      simp only at c0 c1 c2
      go_upto_region 5 with fail
      have jcl := blk3 (Go.Deep.blk_alloc_new wr (.cells #[.int .i64 jr, .int .i64 jd, .int .i64 jc] 44))
      have bj := hbl.alloc hbs (.cells #[.int .i64 jr, .int .i64 jd, .int .i64 jc] 44)
      have hsj : wr.heap.size < (wr.alloc (.cells #[.int .i64 jr, .int .i64 jd, .int .i64 jc] 44)).heap.size := by simp
      have hjw := Lib.hid (hfw.out.below ((Below.refl _ _).alloc (Nat.le_refl _) (.cells #[.int .i64 jr, .int .i64 jd, .int .i64 jc] 44)))
      generalize wr.alloc (.cells #[.int .i64 jr, .int .i64 jd, .int .i64 jc] 44) = wj at *
      obtain ⟨g0, g1, g2⟩ := jcl
      have hsj2 : w.heap.size ≤ wj.heap.size := by omega
      clear c0 c1 c2 hbl hfw
      obtain ⟨v', w', hrun, hfw', hb'⟩ := hjw.out.push hsj2 ⟨jr, jd, jc⟩ (by omega)
      have b' := bj.trans hb'
      have HF := Lib.hid hfw'
      clear hfw' hb' bj hjw
      go_wp2_with (at_builtin; refine wpList_append_by rfl (.tmp 12) (.tmp 20) 47 rfl u3 (.slice (some ⟨wj.heap.size, 0, none⟩) 1 1) _ w' rfl rfl hrun ?_)
      go_roundw
      case rel => exact ⟨k + 1, by go_num, by omega, by rw [HT.out]; exact HF.out, b'⟩
      case measure => simp [intOf]; omega
    · obtain rfl : k = l.length := by omega
      rw [List.take_length] at hfw
      obtain ⟨a', c', rfl, z1, z2, z3⟩ := hfw.out.1.jobs'
      clear hfw
      go_wp2_with fail
      go_ret
      exact ⟨_, _, rfl, z1, z2, z3, hbl⟩
end Go.Proofs.Ytobjcdbbdgloiaa
