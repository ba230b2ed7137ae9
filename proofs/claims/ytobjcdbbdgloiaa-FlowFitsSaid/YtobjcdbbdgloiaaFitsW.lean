/- The walks over the reference's Fits and choose. Conditions: few valid jobs lie in memory. -/
import Derived.Test.YtobjcdbbdgloiaaPlain
namespace Go.Proofs.Ytobjcdbbdgloiaa
open Go.RowKit Go.Deep

/-- A Bool that says whether something holds; the old memory as it was. -/
def BP (p : Prop) (w : World) (e : Ending) (w' : World) : Prop := ∃ b, e = .returned (.bool b) ∧ (b = true ↔ p) ∧ Below w.heap.size w w'
def OpenB (l : List FJ) (k : Nat) (b : Bool) : Prop := b = true ↔ ∃ j, j < k ∧ 0 < (fjAt l j).c
def FitsC (cores : Int) (n slot til : Nat) : Prop := ∀ (l : List FJ) (a : Option Addr) (cap : Nat) (w : World), l.length = n → (∀ j, j < l.length → jobOK (fjAt l j)) → FJobsAt w w.heap.size a l →
  Calls Try.prog 22 #[.slice a l.length cap, .int .i64 cores, .int .i64 slot, .int .i64 til] w (BP (CanG l cores cores slot til 0) w)
def ChooseC (cores : Int) (n slot til frm : Nat) : Prop := ∀ (l : List FJ) (a : Option Addr) (cap : Nat) (free : Int) (w : World), l.length = n → (∀ j, j < l.length → jobOK (fjAt l j)) → 0 ≤ free → free ≤ cores → FJobsAt w w.heap.size a l →
  Calls Try.prog 34 #[.slice a l.length cap, .int .i64 cores, .int .i64 slot, .int .i64 til, .int .i64 frm, .int .i64 free] w (BP (CanG l cores free slot til frm) w)

set_option maxRecDepth 100000 in
set_option maxHeartbeats 6400000 in
theorem fits_step {cores : Int} {n slot til : Nat} (hc0 : 0 ≤ cores) (hc4 : cores ≤ 4) (hn : n ≤ 4) (ht : til ≤ 6) (hch : slot < til → ChooseC cores n slot til 0) (hs6 : slot ≤ 6) : FitsC cores n slot til := by
  intro l a cap w hln hjob hc
  subst hln
  have hlI : (l.length : Int) ≤ 4 := by omega
  have HJ := Lib.hid hjob
  have HCH := Lib.hid hch
  clear hjob hch
  go_enter Try.func22, Try.ntmps22
  go_wp2_with fail
  go_loop [10, 9] (fun u v => ∃ (k : Nat) (b : Bool), u = .int .i64 k ∧ v = .bool b ∧ k ≤ l.length ∧ Hid (OpenB l k b)) (fun u _ => l.length - (intOf u).toNat)
  case atStart => exact ⟨0, false, rfl, rfl, by omega, by show (false = true ↔ ∃ j, j < 0 ∧ 0 < (fjAt l j).c); simp⟩
  case round =>
    obtain ⟨k, b, rfl, rfl, hk, hb⟩ := hrel
    by_cases hlt : k < l.length
    · have k0 : (0 : Int) ≤ (k : Int) := by omega
      have k1 : (k : Int) < (l.length : Int) := by omega
      obtain ⟨bb, off, rfl, hbN, hcell⟩ := hc (by intro e; simp [e] at hlt)
      obtain ⟨c0, c1, c2⟩ := hcell k _ (fjAt_get hlt)
      have HY := Lib.hid (fun h : 0 < (fjAt l k).c => show OpenB l (k + 1) true from ⟨fun _ => ⟨k, by omega, h⟩, fun _ => rfl⟩)
      have HNo := Lib.hid (fun h : ¬ 0 < (fjAt l k).c => show OpenB l (k + 1) b from Iff.trans hb.out ⟨fun ⟨j, h1, h2⟩ => ⟨j, by omega, h2⟩, fun ⟨j, h1, h2⟩ => ⟨j, by
        by_cases e : j = k
        · subst e; exact absurd h2 h
        · omega, h2⟩⟩)
      clear hcell hb
      generalize fjAt l k = j at *
      obtain ⟨jr, jd, jc⟩ := j
      simp only at c0 c1 c2 HY HNo
      by_cases hjc : 0 < jc
      · have HP := Lib.hid (HY.out hjc)
        go_wp2_with fail
        go_round
        case rel => exact ⟨k + 1, true, by go_num, rfl, by omega, HP.out⟩
        case measure => simp [intOf]; omega
      · have HP := Lib.hid (HNo.out hjc)
        go_wp2_with fail
        go_round
        case rel => exact ⟨k + 1, b, by go_num, rfl, by omega, HP.out⟩
        case measure => simp [intOf]; omega
    · obtain rfl : k = l.length := by omega
      cases b
      · have hz := Lib.hid (CanG.done (l := l) (slot := slot) (til := til) hc0 (fun j hj => by
          have h1 := (HJ.out j hj).2.2.2.1
          by_cases h2 : 0 < (fjAt l j).c
          · exact absurd (hb.out.2 ⟨j, hj, h2⟩) (by simp)
          · omega))
        clear hb
        go_wp2_with fail
        go_ret
        exact ⟨true, rfl, ⟨fun _ => hz.out, fun _ => rfl⟩, Below.refl _ _⟩
      · obtain ⟨j, hj, hjc⟩ := hb.out.1 rfl
        clear hb
        by_cases hst : slot < til
        · have hst' : (slot : Int) < (til : Int) := by omega
          have CH := HCH.out hst l a cap cores w rfl HJ.out hc0 (Int.le_refl _) hc
          rw [show ((0 : Nat) : Int) = 0 from rfl] at CH
          have CH := Lib.hid CH
          clear hc hjc
          go_wp2_with fail
          refine (CH.out).mono ?_
          rintro e w1 ⟨b, rfl, hb, hbl⟩
          have HB := Lib.hid hb
          clear hb
          go_wp2_with fail
          go_ret
          exact ⟨b, rfl, HB.out, hbl⟩
        · have hst' : ¬ (slot : Int) < (til : Int) := by omega
          have HL := Lib.hid (CanG.late (cores := cores) (free := cores) (frm := 0) (show til ≤ slot by omega) hj hjc)
          clear hc hjc
          go_wp2_with fail
          go_ret
          exact ⟨false, rfl, ⟨fun h => (by cases h), fun h => absurd h HL.out⟩, Below.refl _ _⟩

set_option maxRecDepth 100000 in
set_option maxHeartbeats 6400000 in
theorem choose_end {cores : Int} {n slot til : Nat} (hc0 : 0 ≤ cores) (hc4 : cores ≤ 4) (hn : n ≤ 4) (ht : til ≤ 6) (hs : slot < til) (hf : FitsC cores n (slot + 1) til) : ChooseC cores n slot til n := by
  intro l a cap free w hln hjob hf0 hf1 hc
  subst hln
  have hlI : (l.length : Int) ≤ 4 := by omega
  have hsI : (slot : Int) < 6 := by omega
  have FI := hf l a cap w rfl hjob hc
  rw [Int.natCast_add] at FI
  have FI := Lib.hid FI
  have HN := Lib.hid (CanG.next (l := l) (cores := cores) (slot := slot) (til := til) hf0 hc0)
  clear hjob hc hf
  go_enter Try.func34, Try.ntmps34
  go_wp2_with fail
  refine (FI.out).mono ?_
  rintro e w1 ⟨b, rfl, hb, hbl⟩
  have HB := Lib.hid (hb.trans HN.out.symm)
  clear hb
  go_wp2_with fail
  go_ret
  exact ⟨b, rfl, HB.out, hbl⟩

/-- 'append([]Job{}, l...)' of the reference's jobs. -/
theorem copy_rjobs {w W : World} {a : Option Addr} {cap g0 : Nat} {l : List FJ} (hc : FJobsAt w w.heap.size a l) (h8 : l.length ≤ 1000) (hb : Below w.heap.size w W) (hg0 : w.heap.size ≤ g0)
    (hW : Win W 46 3 (.slice (some ⟨g0, 0, none⟩) 0 0) 0 []) :
    ∃ v1 w1, (Builtin.append_ #[47, 47] 47 #[.slice (some ⟨g0, 0, none⟩) 0 0, .slice a l.length cap]).run Try.prog W = .ok v1 w1 ∧
      Win w1 46 3 v1 l.length (l.flatMap encJ) ∧ Below w.heap.size w w1 ∧ (∀ k, v1.ownBlock = some k → w.heap.size ≤ k) := by
  obtain ⟨v1, w1, r1, k1, g1, o1⟩ := hW.cat (P := Try.prog) (t := 47) (ty := 47) Try.underlying47 info_rj (by simp [Value.cells]) (by decide) a l.length cap (l.flatMap encJ) (flat_len encJ_len l)
    (fun h0 => by
      obtain ⟨ad, e, hlt, hr⟩ := jobs_read hc h0
      refine ⟨ad, e, fun j u hj => ?_⟩
      have := hb.cell (p := ad.add j) (by unfold Addr.add; split <;> exact hlt)
      rw [this]; exact hr j u hj) (fun u hu => by
        simp only [List.mem_flatMap, encJ, List.mem_cons, List.not_mem_nil, or_false] at hu
        obtain ⟨_, _, rfl | rfl | rfl⟩ := hu <;> rfl) (by omega) (by omega)
  have sb := hb.size
  refine ⟨v1, w1, r1, by simpa using k1, hb.grown g1 sb (fun k hk => by simp [Value.ownBlock] at hk; omega), fun k hk => ?_⟩
  rcases o1 k hk with e | e
  · simp [Value.ownBlock] at e; omega
  · omega
theorem Win.dec {w : World} {T : TypeId} {g o cap i : Nat} {l : List FJ} (h : Win w T 3 (.slice (some ⟨g, o, none⟩) l.length cap) l.length (l.flatMap encJ)) (hi : i < l.length) :
    Win (w.setCell ⟨g, o + i * 3 + 2, none⟩ (.int .i64 ((fjAt l i).c - 1))) T 3 (.slice (some ⟨g, o, none⟩) (decJ l i).length cap) (decJ l i).length ((decJ l i).flatMap encJ) := by
  have e2 := flat_set (u := .int .i64 ((fjAt l i).c - 1)) encJ_len (b := ⟨(fjAt l i).r, (fjAt l i).d, (fjAt l i).c - 1⟩) (fjAt_get hi) (show 2 < 3 by decide) rfl
  have h3 := h.set (i * 3 + 2) (.int .i64 ((fjAt l i).c - 1))
  rw [e2] at h3
  rw [decJ_len]
  simpa [← Nat.add_assoc, decJ] using h3
theorem decJ_ok {l : List FJ} {i : Nat} (h : ∀ j, j < l.length → jobOK (fjAt l j)) (hi : i < l.length) (hc : 0 < (fjAt l i).c) : ∀ j, j < (decJ l i).length → jobOK (fjAt (decJ l i) j) := by
  intro j hj
  rw [decJ_len] at hj
  rw [decJ_at hi]
  by_cases e : j = i
  · rw [if_pos e]
    have := h i hi
    unfold jobOK at this ⊢
    simp only; omega
  · rw [if_neg e]; exact h j hj
end Go.Proofs.Ytobjcdbbdgloiaa
