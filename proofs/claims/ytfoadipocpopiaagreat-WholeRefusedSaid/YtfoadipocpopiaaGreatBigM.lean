/- Digits in memory; the walks over bigint.trim and bigint.compare. Conditions: the digits lie in memory. -/
import Derived.Test.YtfoadipocpopiaaGreatM01
import Derived.Test.YtfoadipocpopiaaGreatM00
import Derived.Outline
import Derived.Deep.Heap
import Derived.Deep.DeepCutAuto
import Derived.Laws.EntriesVeiled
namespace Go.Proofs.YtfoadipocpopiaaGreat
open Go.RowKit

def DAt (w : World) (N : Nat) (a : Option Addr) (n : Nat) (f : Nat → Nat) : Prop :=
  0 < n → ∃ b off, a = some ⟨b, off, none⟩ ∧ b < N ∧ ∀ i, i < n → w.cell? ⟨b, off + i, none⟩ = some (.int .u32 (f i))
section
variable {w w' : World} {N N' n m : Nat} {a : Option Addr} {f g : Nat → Nat}
theorem DAt.keep (h : DAt w N a n f) (hb : Below N w w') : DAt w' N a n f := fun hne => by
  obtain ⟨b, off, e, hlt, hc⟩ := h hne
  exact ⟨b, off, e, hlt, fun i hi => keep_cellN hb hlt (hc i hi)⟩
theorem DAt.more (h : DAt w N a n f) (hN : N ≤ N') : DAt w N' a n f := fun hne => by
  obtain ⟨b, off, e, hlt, hc⟩ := h hne
  exact ⟨b, off, e, by omega, hc⟩
theorem DAt.on (h : DAt w N a n f) (hb : Below N w w') (hN : N ≤ w'.heap.size) : DAt w' w'.heap.size a n f := (h.keep hb).more hN
theorem DAt.less (h : DAt w N a n f) (hm : m ≤ n) : DAt w N a m f := fun hne => by
  obtain ⟨b, off, e, hlt, hc⟩ := h (by omega)
  exact ⟨b, off, e, hlt, fun i hi => hc i (by omega)⟩
theorem DAt.zero (w : World) (N : Nat) (a : Option Addr) (f : Nat → Nat) : DAt w N a 0 f := fun h => absurd h (Nat.lt_irrefl 0)
theorem DAt.congr (h : DAt w N a n f) (e : ∀ i, i < n → f i = g i) : DAt w N a n g := fun hne => by
  obtain ⟨b, off, ha, hlt, hc⟩ := h hne
  exact ⟨b, off, ha, hlt, fun i hi => by rw [← e i hi]; exact hc i hi⟩
end
theorem DAt.trim {w : World} {N n m : Nat} {a a' : Option Addr} {f : Nat → Nat} (h : DAt w N a n f) (hm : m ≤ n) (ha : m = 0 ∨ a' = a) : DAt w N a' m f := by
  rcases ha with rfl | rfl
  · exact DAt.zero _ _ _ _
  · exact h.less hm
/-- What trim answers: a prefix without leading zeros. -/
def TrimOf (n : Nat) (f : Nat → Nat) (m : Nat) : Prop := m ≤ n ∧ (m = 0 ∨ f (m - 1) ≠ 0) ∧ ∀ i, m ≤ i → i < n → f i = 0
theorem TrimOf.val {n m : Nat} {f : Nat → Nat} (h : TrimOf n f m) : vl f m = vl f n := (vl_more h.2.2 h.1).symm
theorem TrimOf.nrm {n m : Nat} {f : Nat → Nat} (h : TrimOf n f m) (hd : Dg f n) : Nrm f m := ⟨fun i hi => hd i (by have := h.1; omega), h.2.1⟩

set_option maxRecDepth 100000 in
set_option maxHeartbeats 6400000 in
theorem trim_any (n : Nat) (f : Nat → Nat) (a : Option Addr) (cap : Nat) (w : World) (hn : n ≤ 1000000) (hcap : n ≤ cap) (hcm : cap ≤ 9223372036854775807) (hd : Dg f n) (hc : DAt w w.heap.size a n f) :
    Calls Tryz.prog 83 #[.slice a n cap] w fun e w' => ∃ a' m c', e = .returned (.slice a' m c') ∧ TrimOf n f m ∧ m ≤ c' ∧ c' ≤ 9223372036854775807 ∧ DAt w w.heap.size a' m f ∧ (m = 0 ∨ a' = a) ∧ Below w.heap.size w w' := by
  have hnI : (n : Int) ≤ 1000000 := by omega
  go_enter Tryz.func83, Tryz.ntmps83
  go_wp2_with fail
  go_loopw [3] (fun u wr => ∃ k : Nat, u = .int .i64 k ∧ k ≤ n ∧ Hid (∀ i, k ≤ i → i < n → f i = 0) ∧ Below w.heap.size w wr) (fun u _ => (intOf u).toNat)
  case atStart => exact ⟨n, rfl, by omega, Lib.hid (fun i h1 h2 => by omega), Below.refl _ _⟩
  case round =>
    obtain ⟨k, rfl, hk, hz, hbl⟩ := hrel
    by_cases h0 : 0 < k
    · obtain ⟨j, rfl⟩ : ∃ j, k = j + 1 := ⟨k - 1, by omega⟩
      obtain ⟨b, off, rfl, hbN, hcell⟩ := hc (by omega)
      have c0 := keep_cellN hbl hbN (hcell j (by omega))
      have hbr : b < wr.heap.size := by have := hbl.size; omega
      have k0 : ((j + 1 : Nat) : Int) - 1 = (j : Int) := by omega
      have k1 : (j : Int) < (n : Int) := by omega
      have k2 : (0 : Int) < ((j + 1 : Nat) : Int) := by omega
      clear hcell
      by_cases hf : f j = 0
      · have hfI : ((f j : Nat) : Int) = 0 := by omega
        go_wp2_with fail
        go_roundw
        case rel => exact ⟨j, by go_num, by omega, Lib.hid (fun i h1 h2 => by
          by_cases e : i = j
          · subst e; exact hf
          · exact hz.out i (by omega) h2), hbl⟩
        case measure => simp [intOf]
      · have hfI : ¬ ((f j : Nat) : Int) = 0 := by omega
        go_wp2_with fail
        go_ret
        exact ⟨_, j + 1, cap, rfl, ⟨by omega, .inr (by simpa using hf), hz.out⟩, by omega, by omega, hc.less (by omega), .inr rfl, hbl⟩
    · obtain rfl : k = 0 := by omega
      go_wp2_with fail
      go_ret
      exact ⟨_, 0, 0, rfl, ⟨by omega, .inl rfl, hz.out⟩, by omega, by omega, DAt.zero _ _ _ _, .inl rfl, hbl⟩

/-- The order of two numbers, as compare answers. -/
def cmpN (a b : Nat) : Int := if a < b then -1 else if b < a then 1 else 0
theorem cmpN_lt {a b : Nat} (h : a < b) : cmpN a b = -1 := if_pos h
theorem cmpN_gt {a b : Nat} (h : b < a) : cmpN a b = 1 := by unfold cmpN; rw [if_neg (by omega), if_pos h]
theorem cmpN_eq {a b : Nat} (h : a = b) : cmpN a b = 0 := by unfold cmpN; rw [if_neg (by omega), if_neg (by omega)]

set_option maxRecDepth 100000 in
set_option maxHeartbeats 6400000 in
theorem compare_any (n m : Nat) (f g : Nat → Nat) (a c : Option Addr) (cap cap' : Nat) (w : World) (hn : n ≤ 1000000) (hm : m ≤ 1000000) (hf : Nrm f n) (hg : Nrm g m) (ha : DAt w w.heap.size a n f) (hc : DAt w w.heap.size c m g) :
    Calls Tryz.prog 54 #[.slice a n cap, .slice c m cap'] w fun e w' => e = .returned (.int .i64 (cmpN (vl f n) (vl g m))) ∧ Below w.heap.size w w' := by
  have hnI : (n : Int) ≤ 1000000 := by omega
  have hmI : (m : Int) ≤ 1000000 := by omega
  by_cases h1 : n < m
  · have h1I : (n : Int) < (m : Int) := by omega
    have h2I : ¬ (n : Int) = (m : Int) := by omega
    have hv := Lib.hid (cmpN_lt (vl_short hf hg h1))
    go_enter Tryz.func54, Tryz.ntmps54
    go_wp2_with fail
    go_ret
    exact ⟨ret_int hv.out.symm, Below.refl _ _⟩
  by_cases h2 : m < n
  · have h1I : ¬ (n : Int) < (m : Int) := by omega
    have h2I : ¬ (n : Int) = (m : Int) := by omega
    have hv := Lib.hid (cmpN_gt (vl_short hg hf h2))
    go_enter Tryz.func54, Tryz.ntmps54
    go_wp2_with fail
    go_ret
    exact ⟨ret_int hv.out.symm, Below.refl _ _⟩
  obtain rfl : m = n := by omega
  clear h1 h2
  go_enter Tryz.func54, Tryz.ntmps54
  go_wp2_with fail
  go_loopw [19] (fun u wr => ∃ k : Nat, u = .int .i64 k ∧ k ≤ m ∧ Hid (∀ i, i < m → m ≤ i + k → f i = g i) ∧ Below w.heap.size w wr) (fun u _ => m - (intOf u).toNat)
  case atStart => exact ⟨0, rfl, by omega, Lib.hid (fun i h1 h2 => by omega), Below.refl _ _⟩
  case round =>
    obtain ⟨k, rfl, hk, hz, hbl⟩ := hrel
    by_cases h0 : k < m
    · obtain ⟨j, hj⟩ : ∃ j, m = j + 1 + k := ⟨m - 1 - k, by omega⟩
      obtain ⟨b, off, rfl, hbN, hcell⟩ := ha (by omega)
      obtain ⟨b', off', rfl, hbN', hcell'⟩ := hc (by omega)
      have c0 := keep_cellN hbl hbN (hcell j (by omega))
      have c1 := keep_cellN hbl hbN' (hcell' j (by omega))
      have hbr : b < wr.heap.size := by have := hbl.size; omega
      have hbr' : b' < wr.heap.size := by have := hbl.size; omega
      have k0 : (m : Int) - 1 - (k : Int) = (j : Int) := by omega
      have k1 : (j : Int) < (m : Int) := by omega
      have k2 : (k : Int) < (m : Int) := by omega
      have HL := Lib.hid (fun (h : f j < g j) => cmpN_lt (vl_cmp hf.1 (show j < m by omega) (fun i h1 h2 => hz.out i h2 (by omega)) h))
      have HG := Lib.hid (fun (h : g j < f j) => cmpN_gt (vl_cmp hg.1 (show j < m by omega) (fun i h1 h2 => (hz.out i h2 (by omega)).symm) h))
      clear hcell hcell'
      clear hj
      by_cases he : f j = g j
      · have heI : ((f j : Nat) : Int) = ((g j : Nat) : Int) := by omega
        have HS := Lib.hid (fun i (h1 : i < m) (h2 : m ≤ i + (k + 1)) => show f i = g i from by
          by_cases e : i = j
          · subst e; exact he
          · exact hz.out i h1 (by omega))
        clear hz HL HG
        rw [heI] at c0
        go_wp2_with fail
        go_quiet (fail)
        go_wp2_with fail
        go_roundw
        case rel => exact ⟨k + 1, by go_num, by omega, HS, below_drewN hbl _⟩
        case measure => simp [intOf]; omega
      · have heI : ¬ ((f j : Nat) : Int) = ((g j : Nat) : Int) := by omega
        by_cases hl : f j < g j
        · have hlI : ((f j : Nat) : Int) < ((g j : Nat) : Int) := by omega
          have HV := Lib.hid (HL.out hl)
          clear hz HL HG
          go_wp2_with fail
          go_quiet (fail)
          go_wp2_with fail
          go_quiet (fail)
          go_wp2_with fail
          go_ret
          exact ⟨ret_int HV.out.symm, below_drewN (below_drewN hbl _) _⟩
        · have hlI : ¬ ((f j : Nat) : Int) < ((g j : Nat) : Int) := by omega
          have HV := Lib.hid (HG.out (by omega))
          clear hz HL HG
          go_wp2_with fail
          go_quiet (fail)
          go_wp2_with fail
          go_quiet (fail)
          go_wp2_with fail
          go_ret
          exact ⟨ret_int HV.out.symm, below_drewN (below_drewN hbl _) _⟩
    · obtain rfl : k = m := by omega
      have HV := Lib.hid (cmpN_eq (vl_congr (n := k) (f := f) (g := g) (fun i hi => hz.out i hi (by omega))))
      go_wp2_with fail
      go_ret
      exact ⟨ret_int HV.out.symm, hbl⟩
end Go.Proofs.YtfoadipocpopiaaGreat
