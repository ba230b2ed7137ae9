/- The walks over pfair: the closures of Group, sort.Search at its predicate, Group. Conditions: a heavy task for the closures. -/
import Derived.Test.YtoiahkndabbklaaPfair2
import Derived.Outline
namespace Go.Proofs.Ytoiahkndabbklaa
open Go.RowKit

/-- The end of a group: m p / g, rounded up. -/
def endN (p g m : Int) : Int := (m * p + g - 1) / g

/-- Group's first closure. -/
theorem g1_any (m p g : Int) (tb gb : Nat) (w : World) (hp : w.cell? ⟨tb, 2, none⟩ = some (.int .i64 p)) (hg : w.cell? ⟨gb, 0, none⟩ = some (.int .i64 g))
    (m0 : 0 ≤ m) (m1 : m ≤ 1000) (p0 : 0 ≤ p) (p1 : p ≤ 1000) (g0 : 1 ≤ g) (g1 : g ≤ 1000) :
    Calls Try.prog 28 #[.int .i64 m, .pointer (some ⟨tb, 0, none⟩), .pointer (some ⟨gb, 0, none⟩)] w fun e w' => e = .returned (.int .i64 (endN p g m)) ∧ w = w' := by
  obtain ⟨ma, mb⟩ := mul_bd (i := m) (p := p) m0 m1 p0 p1
  have wa : IntKind.i64.wrap (m * p) = m * p := IntWalk.i64_in _ (by omega)
  go_enter Try.func28, Try.ntmps28
  go_wp2_with fail
  refine (up_any _ _ _ (by omega) (by omega) (by omega) (by omega)).mono ?_
  rintro e w' ⟨rfl, rfl⟩
  go_wp2
  go_ret
  exact ⟨ret_int (by simp [endN]), rfl⟩

/-- Group's second closure. -/
theorem g2_any (n p g d : Int) (tb gb eb wb : Nat) (w : World) (hp : w.cell? ⟨tb, 2, none⟩ = some (.int .i64 p)) (hg : w.cell? ⟨gb, 0, none⟩ = some (.int .i64 g))
    (he : w.cell? ⟨eb, 0, none⟩ = some (.func (.func 28) #[] #[.pointer (some ⟨tb, 0, none⟩), .pointer (some ⟨gb, 0, none⟩)]))
    (hd : w.cell? ⟨wb, 2, none⟩ = some (.int .i64 d))
    (m0 : 0 ≤ n) (m1 : n ≤ 999) (p0 : 0 ≤ p) (p1 : p ≤ 1000) (g0 : 1 ≤ g) (g1 : g ≤ 1000) :
    Calls Try.prog 30 #[.int .i64 n, .pointer (some ⟨eb, 0, none⟩), .pointer (some ⟨wb, 0, none⟩)] w fun e w' => e = .returned (.bool (decide (d ≤ endN p g (n + 1)))) ∧ ∃ k, w' = w.drewN k := by
  have wa : IntKind.i64.wrap (n + 1) = n + 1 := IntWalk.i64_in _ (by omega)
  go_enter Try.func30, Try.ntmps30
  go_wp2_with fail
  go_quiet ((go_at_call 28; refine (g1_any _ p g tb gb _ (by simpa using hp) (by simpa using hg) (by omega) (by omega) p0 p1 g0 g1).mono ?_; rintro e w' ⟨he, hw⟩; exact ⟨he, _, hw.symm⟩))
  go_wp2
  go_ret
  exact ⟨rfl, _, rfl⟩

def SearchPost (N p g d : Int) (w : World) (e : Ending) (w' : World) : Prop :=
  ∃ r : Int, e = .returned (.int .i64 r) ∧ 0 ≤ r ∧ r ≤ N ∧ (r = 0 ∨ endN p g r < d) ∧ (r = N ∨ d ≤ endN p g (r + 1)) ∧ ∃ k, w' = w.drewN k
def SearchRel (N p g d : Int) (w : World) (i j : Int) (wr : World) : Prop :=
  0 ≤ i ∧ i ≤ j ∧ j ≤ N ∧ (i = 0 ∨ endN p g i < d) ∧ (j = N ∨ d ≤ endN p g (j + 1)) ∧ ∃ k, wr = w.drewN k

/-- sort.Search at Group's predicate. -/
theorem search_any (N p g d : Int) (tb gb eb wb : Nat) (w : World) (hp : w.cell? ⟨tb, 2, none⟩ = some (.int .i64 p)) (hg : w.cell? ⟨gb, 0, none⟩ = some (.int .i64 g))
    (he : w.cell? ⟨eb, 0, none⟩ = some (.func (.func 28) #[] #[.pointer (some ⟨tb, 0, none⟩), .pointer (some ⟨gb, 0, none⟩)]))
    (hd : w.cell? ⟨wb, 2, none⟩ = some (.int .i64 d))
    (m0 : 0 ≤ N) (m1 : N ≤ 999) (p0 : 0 ≤ p) (p1 : p ≤ 1000) (g0 : 1 ≤ g) (g1 : g ≤ 1000) :
    Calls Try.prog 29 #[.int .i64 N, .func (.func 30) #[] #[.pointer (some ⟨eb, 0, none⟩), .pointer (some ⟨wb, 0, none⟩)]] w (SearchPost N p g d w) := by
  go_enter Try.func29, Try.ntmps29
  go_wp2
  go_loopw [5, 6] (fun u v wr => ∃ i j : Int, u = .int .i64 i ∧ v = .int .i64 j ∧ SearchRel N p g d w i j wr) (fun u v _ => (intOf v - intOf u).toNat)
  case atStart => exact ⟨0, N, rfl, rfl, by omega, m0, by omega, .inl rfl, .inl rfl, 0, rfl⟩
  case round =>
    obtain ⟨i, j, rfl, rfl, i0, ij, jN, hi, hj, k, rfl⟩ := hrel
    have Hi := Lib.hid hi
    have Hj := Lib.hid hj
    clear hi hj
    by_cases hlt : i < j
    · by_cases hq : d ≤ endN p g ((i + j) / 2 + 1)
      · have hq' : decide (d ≤ endN p g ((i + j) / 2 + 1)) = true := by simp [hq]
        have Hq := Lib.hid hq
        clear hq
        go_wp2_with fail
        refine (g2_any _ p g d tb gb eb wb _ (by simpa using hp) (by simpa using hg) (by simpa using he) (by simpa using hd) (by omega) (by omega) p0 p1 g0 g1).mono ?_
        rintro e w' ⟨rfl, k1, rfl⟩
        go_wp2
        go_roundw
        case rel => exact ⟨i, (i + j) / 2, rfl, rfl, i0, by omega, by omega, Hi.out, .inr Hq.out, _, rfl⟩
        case measure => simp [intOf]; omega
      · have hq' : decide (d ≤ endN p g ((i + j) / 2 + 1)) = false := by simp [hq]
        have Hq := Lib.hid hq
        clear hq
        go_wp2_with fail
        refine (g2_any _ p g d tb gb eb wb _ (by simpa using hp) (by simpa using hg) (by simpa using he) (by simpa using hd) (by omega) (by omega) p0 p1 g0 g1).mono ?_
        rintro e w' ⟨rfl, k1, rfl⟩
        go_wp2
        go_roundw
        case rel => exact ⟨(i + j) / 2 + 1, j, rfl, rfl, by omega, by omega, by omega, .inr Hq.out, Hj.out, _, rfl⟩
        case measure => simp [intOf]; omega
    · go_wp2
      go_ret
      exact ⟨i, rfl, i0, by omega, Hi.out, by rw [show i = j by omega]; exact Hj.out, k, rfl⟩
end Go.Proofs.Ytoiahkndabbklaa
