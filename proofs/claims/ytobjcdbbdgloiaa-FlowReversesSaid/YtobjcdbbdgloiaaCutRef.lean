/- The walks over ends, and over the reference's pow and Cut. Conditions: a small valid network lies in memory. -/
import Derived.Test.YtobjcdbbdgloiaaAwake47
namespace Go.Proofs.Ytobjcdbbdgloiaa
open Go.RowKit Go.Deep

set_option maxRecDepth 100000 in
theorem pow_any (k : Nat) (w : World) (hk : k ≤ 8) : Calls Try.prog 30 #[.int .i64 k] w fun e w' => e = .returned (.int .i64 ((2 ^ k : Nat) : Int)) ∧ w = w' := by
  match k, hk with
  | 0, _ => go_enter Try.func30, Try.ntmps30; go_wp2_with fail; go_ret; exact ⟨rfl, rfl⟩
  | 1, _ => go_enter Try.func30, Try.ntmps30; go_wp2_with fail; go_ret; exact ⟨rfl, rfl⟩
  | 2, _ => go_enter Try.func30, Try.ntmps30; go_wp2_with fail; go_ret; exact ⟨rfl, rfl⟩
  | 3, _ => go_enter Try.func30, Try.ntmps30; go_wp2_with fail; go_ret; exact ⟨rfl, rfl⟩
  | 4, _ => go_enter Try.func30, Try.ntmps30; go_wp2_with fail; go_ret; exact ⟨rfl, rfl⟩
  | 5, _ => go_enter Try.func30, Try.ntmps30; go_wp2_with fail; go_ret; exact ⟨rfl, rfl⟩
  | 6, _ => go_enter Try.func30, Try.ntmps30; go_wp2_with fail; go_ret; exact ⟨rfl, rfl⟩
  | 7, _ => go_enter Try.func30, Try.ntmps30; go_wp2_with fail; go_ret; exact ⟨rfl, rfl⟩
  | 8, _ => go_enter Try.func30, Try.ntmps30; go_wp2_with fail; go_ret; exact ⟨rfl, rfl⟩

/-- The two vertices that ends picks. -/
def endA (n s : Nat) : Nat := s % n
def endB (n s t : Nat) : Nat := if s % n ≤ t % (n - 1) then t % (n - 1) + 1 else t % (n - 1)
theorem ends_ok {n s t : Nat} (hn : 2 ≤ n) : endA n s < n ∧ endB n s t < n ∧ endA n s ≠ endB n s t := by
  have h1 := Nat.mod_lt s (show 0 < n by omega)
  have h2 := Nat.mod_lt t (show 0 < n - 1 by omega)
  unfold endA endB
  split <;> omega

set_option maxRecDepth 100000 in
theorem ends_any (rs : List (List Int)) (a : Option Addr) (cap s t : Nat) (w : World) (hn : 2 ≤ rs.length) (hn2 : rs.length ≤ 1000) (hs : s ≤ 255) (ht : t ≤ 255) :
    Calls Try.prog 13 #[.slice a rs.length cap, .int .u8 s, .int .u8 t] w fun e w' => e = .returned (.tuple #[.int .i64 (endA rs.length s), .int .i64 (endB rs.length s t)]) ∧ w = w' := by
  have hnI : (2 : Int) ≤ (rs.length : Int) := by omega
  have hnI2 : (rs.length : Int) ≤ 1000 := by omega
  have hsI : (s : Int) ≤ 255 := by omega
  have htI : (t : Int) ≤ 255 := by omega
  have ws : IntKind.i64.wrap (s : Int) = (s : Int) := IntWalk.i64_in _ (by omega)
  have wt : IntKind.i64.wrap (t : Int) = (t : Int) := IntWalk.i64_in _ (by omega)
  have HA := Lib.hid (show endA rs.length s = s % rs.length from rfl)
  have HB := Lib.hid (show endB rs.length s t = if s % rs.length ≤ t % (rs.length - 1) then t % (rs.length - 1) + 1 else t % (rs.length - 1) from rfl)
  have a1 := Nat.mod_lt s (show 0 < rs.length by omega)
  have b1 := Nat.mod_lt t (show 0 < rs.length - 1 by omega)
  obtain ⟨a0, ha⟩ : ∃ a0, s % rs.length = a0 := ⟨_, rfl⟩
  obtain ⟨b0, hb⟩ : ∃ b0, t % (rs.length - 1) = b0 := ⟨_, rfl⟩
  rw [ha] at HA HB a1
  rw [hb] at HB b1
  have e1 : (s : Int) % (rs.length : Int) = (a0 : Int) := by omega
  have e2 : (s : Int).tmod (rs.length : Int) = (a0 : Int) := by rw [Int.tmod_eq_emod_of_nonneg (by omega)]; exact e1
  have e3 : (t : Int) % ((rs.length : Int) - 1) = (b0 : Int) := by
    have : (rs.length : Int) - 1 = ((rs.length - 1 : Nat) : Int) := by omega
    rw [this, ← hb]; rfl
  have e4 : (t : Int).tmod ((rs.length : Int) - 1) = (b0 : Int) := by rw [Int.tmod_eq_emod_of_nonneg (by omega)]; exact e3
  have z1 : ¬ (rs.length : Int) = 0 := by omega
  have z2 : ¬ (rs.length : Int) - 1 = 0 := by omega
  have z3 : ¬ rs.length = 0 := by omega
  have z4 : ¬ rs = [] := by intro e; subst e; simp at hn
  clear ha hb
  by_cases hab : a0 ≤ b0
  · have hab' : (a0 : Int) ≤ (b0 : Int) := by omega
    rw [if_pos hab] at HB
    go_enter Try.func13, Try.ntmps13
    go_wp2_with fail
    go_ret2
    exact ⟨by rw [HA.out, HB.out]; rfl, rfl⟩
  · have hab' : ¬ (a0 : Int) ≤ (b0 : Int) := by omega
    rw [if_neg hab] at HB
    go_enter Try.func13, Try.ntmps13
    go_wp2_with fail
    go_ret2
    exact ⟨by rw [HA.out, HB.out]; rfl, rfl⟩
end Go.Proofs.Ytobjcdbbdgloiaa
