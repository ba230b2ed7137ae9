/- The walk over ceiling.Active. Conditions: the tasks lie in memory. -/
import Derived.Test.YtkedcnemldjbeaaAct
import Derived.Outline
namespace Go.Proofs.Ytkedcnemldjbeaa
open Go.RowKit

def actOK (l : List CT) (t d : Int) : Prop := validL l = true ∧ 0 ≤ t ∧ t < l.length ∧ 0 ≤ d ∧ d ≤ (ctAt l t.toNat).c
instance (l : List CT) (t d : Int) : Decidable (actOK l t d) := by unfold actOK; infer_instance
def actTop (l : List CT) (t d : Int) : Int := if actOK l t d then (actV l t.toNat d).1 else -1

set_option maxRecDepth 100000 in
set_option maxHeartbeats 3200000 in
theorem cactive_any (l : List CT) (a : Option Addr) (cap : Nat) (t d : Int) (w : World) (hl : l.length ≤ 9223372036854775807) (hc : TasksAt w w.heap.size a l) :
    Calls Try.prog 40 #[.slice a l.length cap, .int .i64 t, .int .i64 d] w fun e w' => e = .returned (.int .i64 (actTop l t d)) ∧ Below w.heap.size w w' := by
  have hlI : (l.length : Int) ≤ 9223372036854775807 := by omega
  go_enter Try.func40, Try.ntmps40
  go_wp2_with fail
  refine (valid_any l a cap _ hl hc).mono ?_
  rintro e w1 ⟨rfl, hb1⟩
  have s1 := hb1.size
  have c1 := hc.on hb1 s1
  cases hv : validL l
  · have HT := Lib.hid (show actTop l t d = -1 from if_neg (fun h => by rw [h.1] at hv; cases hv))
    clear hv
    go_wp2_with fail
    go_ret
    exact ⟨by rw [HT.out]; rfl, hb1⟩
  · have HV := Lib.hid hv
    have hl20 : (l.length : Int) ≤ 20 := by have := (validL_bd hv).1; omega
    clear hv
    by_cases h1 : 0 ≤ t
    · by_cases h2 : t < l.length
      · obtain ⟨n, rfl⟩ := Int.eq_ofNat_of_zero_le h1
        have hn : n < l.length := by omega
        by_cases h3 : 0 ≤ d
        · obtain ⟨b, off, rfl, hbN, hcell⟩ := c1 (by intro e; rw [e] at hn; simp at hn)
          obtain ⟨c0, _, _, _, _, _, _, _⟩ := hcell n _ (ctAt_get hn)
          clear hcell
          by_cases h4 : d ≤ (ctAt l n).c
          · have HT := Lib.hid (show actTop l (n : Int) d = (actV l n d).1 from if_pos ⟨HV.out, h1, h2, h3, h4⟩)
            go_wp2_with fail
            refine (ceilings_any l (some ⟨b, off, none⟩) cap _ hl c1).mono ?_
            rintro e w2 ⟨mb, mn, rfl, hmb, hI, hb2⟩
            rw [HV.out] at hI
            simp only [if_true] at hI
            have HI := Lib.hid hI
            have c2 := c1.on hb2 hb2.size
            clear hI c0
            go_wp2_with fail
            refine (active_any l (some ⟨b, off, none⟩) cap mb mn _ n d _ HV.out hn c2 HI.out).mono ?_
            rintro e w3 ⟨rfl, hb3⟩
            go_wp2_with fail
            go_ret
            exact ⟨by rw [HT.out]; rfl, (hb1.trans (hb2.mono s1)).trans (hb3.mono (by have := hb2.size; omega))⟩
          · have HT := Lib.hid (show actTop l (n : Int) d = -1 from if_neg (fun h => h4 h.2.2.2.2))
            go_wp2_with fail
            go_ret
            exact ⟨by rw [HT.out]; rfl, hb1⟩
        · have HT := Lib.hid (show actTop l (n : Int) d = -1 from if_neg (fun h => h3 h.2.2.2.1))
          go_wp2_with fail
          go_ret
          exact ⟨by rw [HT.out]; rfl, hb1⟩
      · have HT := Lib.hid (show actTop l t d = -1 from if_neg (fun h => h2 h.2.2.1))
        go_wp2_with fail
        go_ret
        exact ⟨by rw [HT.out]; rfl, hb1⟩
    · have HT := Lib.hid (show actTop l t d = -1 from if_neg (fun h => h1 h.2.1))
      go_wp2_with fail
      go_ret
      exact ⟨by rw [HT.out]; rfl, hb1⟩
end Go.Proofs.Ytkedcnemldjbeaa
