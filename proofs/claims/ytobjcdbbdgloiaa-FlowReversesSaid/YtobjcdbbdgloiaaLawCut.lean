/- The walk over FlowEqualsCut. Conditions: the arguments lie in memory. -/
import Derived.Test.YtobjcdbbdgloiaaCutWalk
namespace Go.Proofs.Ytobjcdbbdgloiaa
open Go.RowKit Go.Deep

theorem netOK_more {m k : Nat} {rs : List (List Int)} (hk : m ≤ k) (h : netOK m rs = true) : netOK k rs = true := by
  unfold netOK at h ⊢
  rw [Bool.and_eq_true, decide_eq_true_eq] at h ⊢
  exact ⟨⟨h.1.1, by omega⟩, h.2⟩

set_option maxRecDepth 100000 in
set_option maxHeartbeats 6400000 in
theorem law_cut (rs : List (List Int)) (a : Option Addr) (cap : Nat) (si ti : Int) (w : World) (hl : rs.length ≤ cap) (hcap : cap ≤ 9223372036854775807) (hr : RowsAt w w.heap.size a rs) (hrr : ∀ r ∈ rs, FitI r)
    (hs0 : 0 ≤ si) (hs1 : si ≤ 255) (ht0 : 0 ≤ ti) (ht1 : ti ≤ 255) :
    Calls Try.prog 4 #[.slice a rs.length cap, .int .u8 si, .int .u8 ti] w fun e w' => e = .returned (.bool true) ∧ Below w.heap.size w w' := by
  obtain ⟨s, rfl⟩ := Int.eq_ofNat_of_zero_le hs0
  obtain ⟨t, rfl⟩ := Int.eq_ofNat_of_zero_le ht0
  have HRR := Lib.hid hrr
  clear hrr
  go_enter Try.func4, Try.ntmps4
  go_wp2_with fail
  refine (awake47_any _).mono ?_
  rintro e w1 ⟨rfl, hb1⟩
  have s1 := hb1.size
  have NW := Lib.hid (network_any rs a cap 8 (by decide) w1 (by omega) (hr.on hb1 s1) HRR.out)
  cases hn : netOK 8 rs
  · rw [hn] at NW
    go_wp2_with fail
    refine NW.out.mono ?_
    rintro e w2 ⟨rfl, rfl⟩
    go_wp2_with fail
    refine (awake47_any _).mono ?_
    rintro e w3 ⟨rfl, hb3⟩
    go_wp2_with fail
    go_ret
    exact ⟨rfl, hb1.trans (hb3.mono s1)⟩
  · rw [hn] at NW
    obtain ⟨n2, n8, hnet⟩ := netOK_bd hn
    have H400 := Lib.hid (netOK_more (k := 400) (by decide) hn)
    obtain ⟨O, o, rfl, _⟩ := rows_mat hr hn
    have HM := Lib.hid (fun W (h : RowsAt W W.heap.size (some ⟨O, o, none⟩) rs) => rows_mat h hn)
    have HB := Lib.hid (fun p q (hp : p < rs.length) (hq : q < rs.length) => (hnet p hp).2.2 q hq)
    obtain ⟨e1, e2, e3⟩ := ends_ok (s := s) (t := t) n2
    have EA := Lib.hid (ends_any rs (some ⟨O, o, none⟩) cap s t w1 n2 (by omega) (by omega) (by omega))
    clear hn hnet
    generalize endA rs.length s = A at *
    generalize endB rs.length s t = B at *
    go_wp2_with fail
    refine NW.out.mono ?_
    rintro e w2 ⟨rfl, rfl⟩
    go_wp2_with fail
    refine EA.out.mono ?_
    rintro e w2 ⟨rfl, rfl⟩
    go_wp2_with fail
    refine (max_any rs (some ⟨O, o, none⟩) cap A B _ (by omega) (hr.on hb1 s1) HRR.out).mono ?_
    rintro e w2 ⟨hb2, ⟨h, rfl⟩ | ⟨h, h2, rfl⟩ | ⟨h, s', t', es, et, hs, ht, hst, val, r, O2, rfl, hsat, _⟩⟩
    · rw [H400.out] at h; cases h
    · exact absurd ⟨by omega, by omega, by omega, by omega, by omega⟩ h2
    · obtain rfl : A = s' := by omega
      obtain rfl : B = t' := by omega
      have b2 := hb1.trans (hb2.mono s1)
      have s2 := b2.size
      obtain ⟨O', o', he, hm⟩ := HM.out _ (hr.on b2 s2)
      obtain ⟨rfl, rfl⟩ : O = O' ∧ o = o' := by cases he; exact ⟨rfl, rfl⟩
      have CW := Lib.hid (cut_any rs.length A B O o cap (capOf rs) w2 n8 hs ht HB.out hm)
      have HC := Lib.hid (hsat.cut hs ht)
      clear hm he es et hsat h
      go_wp2_with fail
      refine CW.out.mono ?_
      rintro e w3 ⟨⟨best, rfl, hbest⟩, rfl⟩
      obtain rfl := hbest.cut hs ht HC.out
      clear hbest
      go_wp2_with fail
      go_ret
      exact ⟨rfl, b2⟩
end Go.Proofs.Ytobjcdbbdgloiaa
