/- The walk over TasksetValid: it answers true. Conditions: the tasks lie in memory. -/
import Derived.Test.YtdjpkebajcpfbaaAwake41
import Derived.Test.YtdjpkebajcpfbaaRefSet
import Derived.Test.YtdjpkebajcpfbaaPlain41
namespace Go.Proofs.Ytdjpkebajcpfbaa
open Go.RowKit Go.Deep

set_option maxRecDepth 100000 in
set_option maxHeartbeats 6400000 in
theorem law_valid (l : List TT) (a : Option Addr) (cap : Nat) (w : World) (hl : l.length ≤ cap) (hcap : cap ≤ 9223372036854775807) (hc : TSAt w w.heap.size a l) :
    Calls Try.prog 3 #[.slice a l.length cap] w fun e w' => e = .returned (.bool true) ∧ Below w.heap.size w w' := by
  have hll : l.length ≤ 9223372036854775807 := by omega
  have hlI : (l.length : Int) ≤ 9223372036854775807 := by omega
  have HA := awake_any w
  by_cases h60 : l.length ≤ 60
  · have h60I : ¬ (60 : Int) < (l.length : Int) := by omega
    have HH := fun W (hb : Below w.heap.size w W) => hyper_any l a cap W hll (hc.on hb hb.size)
    have HV := fun W (hb : Below w.heap.size w W) => tvalid_any l a cap W hll (hc.on hb hb.size)
    have HP := fun W (hb : Below w.heap.size w W) => plain_any l a cap W h60 (hc.on hb hb.size)
    have HRV := fun a' c' W (h : TSAt W W.heap.size a' l) => rvalid_any l a' c' W hll h
    have HRH := fun a' c' W (h : TSAt W W.heap.size a' l) => rhyper_any l a' c' W hll h
    clear hc
    generalize tsOK l = ok at *
    generalize (hypR l).1 = e1 at *
    generalize (hypR l).2 = e2 at *
    go_enter Try.func3, Try.ntmps3
    go_wp2_with (go_at_call 12; refine HA.mono ?_; rintro e w1 ⟨rfl, hb1⟩)
    refine (HH _ hb1).mono ?_
    rintro e w2 ⟨rfl, hb2⟩
    have b2 := hb1.trans (hb2.mono hb1.size)
    simp only []
    go_wp2_with fail
    refine (HP _ b2).mono ?_
    rintro e w3 ⟨pa, pc, rfl, _, _, hp3, hb3⟩
    have b3 := b2.trans (hb3.mono b2.size)
    simp only []
    go_wp2_with fail
    refine (HRH _ _ _ hp3).mono ?_
    rintro e w4 ⟨rfl, hb4⟩
    have b4 := b3.trans (hb4.mono b3.size)
    simp only []
    go_wp2_with fail
    refine (HV _ b4).mono ?_
    rintro e w5 ⟨rfl, hb5⟩
    have b5 := b4.trans (hb5.mono b4.size)
    simp only []
    go_wp2_with fail
    refine (HP _ b5).mono ?_
    rintro e w6 ⟨pa2, pc2, rfl, _, _, hp6, hb6⟩
    have b6 := b5.trans (hb6.mono b5.size)
    simp only []
    go_wp2_with fail
    refine (HRV _ _ _ hp6).mono ?_
    rintro e w7 ⟨rfl, hb7⟩
    have b7 := b6.trans (hb7.mono b6.size)
    clear hb1 hb2 hb3 hb4 hb5 hb6 hb7 b2 b3 b4 b5 b6 hp3 hp6 HH HV HP HRV HRH HA
    simp only []
    go_wp2_with fail
    go_ret
    exact ⟨ret_bool (by simp), b7⟩
  · have h60I : (60 : Int) < (l.length : Int) := by omega
    clear hc
    go_enter Try.func3, Try.ntmps3
    go_wp2_with (go_at_call 12; refine HA.mono ?_; rintro e w1 ⟨rfl, hb1⟩)
    go_ret
    exact ⟨rfl, hb1⟩
end Go.Proofs.Ytdjpkebajcpfbaa
