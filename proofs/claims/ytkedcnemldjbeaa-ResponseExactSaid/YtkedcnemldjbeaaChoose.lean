/- The walk over ceiling.choose. Conditions: the waiting jobs lie in memory. -/
import Derived.Test.YtkedcnemldjbeaaAct
namespace Go.Proofs.Ytkedcnemldjbeaa
open Go.RowKit

def HeadAt (w : World) (N : Nat) (a : Option Addr) (i : Nat) (ps : List Pd) : Prop := ∀ p r, ps = p :: r → ∃ b off, a = some ⟨b, off, none⟩ ∧ b < N ∧
  w.cell? ⟨b, off, none⟩ = some (.int .i64 i) ∧ w.cell? ⟨b, off + 1, none⟩ = some (.int .i64 p.rel) ∧ w.cell? ⟨b, off + 2, none⟩ = some (.int .i64 p.st) ∧ w.cell? ⟨b, off + 3, none⟩ = some (.int .i64 0) ∧ w.cell? ⟨b, off + 4, none⟩ = some (.int .i64 0) ∧
  w.cell? ⟨b, off + 5, none⟩ = some (.int .i64 p.dn) ∧ w.cell? ⟨b, off + 6, none⟩ = some (.int .i64 p.lo) ∧ w.cell? ⟨b, off + 7, none⟩ = some (.int .i64 p.ac) ∧ w.cell? ⟨b, off + 8, none⟩ = some (.bool p.ho)
def WaitAt (w : World) (N Wb n : Nat) (wt : Nat → List Pd) : Prop := ∀ i, i < n → ∃ a c, w.cell? ⟨Wb, i, none⟩ = some (.slice a (wt i).length c) ∧ HeadAt w N a i (wt i)
theorem HeadAt.keep {w w' : World} {N : Nat} {a : Option Addr} {i : Nat} {ps : List Pd} (h : HeadAt w N a i ps) (hb : Below N w w') : HeadAt w' N a i ps := fun p r e => by
  obtain ⟨b, off, e1, e2, c0, c1, c2, c3, c4, c5, c6, c7, c8⟩ := h p r e
  exact ⟨b, off, e1, e2, keep_cellN hb e2 c0, keep_cellN hb e2 c1, keep_cellN hb e2 c2, keep_cellN hb e2 c3, keep_cellN hb e2 c4, keep_cellN hb e2 c5, keep_cellN hb e2 c6, keep_cellN hb e2 c7, keep_cellN hb e2 c8⟩
def toI : Option Nat → Int
  | none => -1
  | some t => t
theorem chooseK_nil {wt : Nat → List Pd} {k : Nat} (h : wt k = []) : chooseK wt (k + 1) = chooseK wt k := by rw [chooseK, h]
theorem chooseK_first {wt : Nat → List Pd} {k : Nat} {p : Pd} {r : List Pd} (h : wt k = p :: r) (hn : chooseK wt k = none) : chooseK wt (k + 1) = some k := by rw [chooseK, h, hn]
theorem chooseK_yes {wt : Nat → List Pd} {k j : Nat} {p q : Pd} {r u : List Pd} (h : wt k = p :: r) (hn : chooseK wt k = some j) (hq : wt j = q :: u) (hb : bef k p j q = true) : chooseK wt (k + 1) = some k := by rw [chooseK, h, hn]; simp [hq, hb]
theorem chooseK_not {wt : Nat → List Pd} {k j : Nat} {p q : Pd} {r u : List Pd} (h : wt k = p :: r) (hn : chooseK wt k = some j) (hq : wt j = q :: u) (hb : bef k p j q = false) : chooseK wt (k + 1) = some j := by rw [chooseK, h, hn]; simp [hq, hb]

set_option maxRecDepth 100000 in
set_option maxHeartbeats 3200000 in
theorem choose_any (Wb n : Nat) (wt : Nat → List Pd) (w : World) (hn : n ≤ 1000) (hWb : Wb < w.heap.size) (hl : ∀ i, i < n → (wt i).length ≤ 1000000) (hW : WaitAt w w.heap.size Wb n wt) :
    Calls Try.prog 49 #[.slice (some ⟨Wb, 0, none⟩) n n] w fun e w' => e = .returned (.int .i64 (toI (chooseK wt n))) ∧ Below w.heap.size w w' := by
  have HL := Lib.hid hl
  have HW := Lib.hid hW
  clear hl hW
  have hnI : (n : Int) ≤ 1000 := by omega
  go_enter Try.func49, Try.ntmps49
  go_wp2_with fail
  go_loopw [8, 3] (fun u x wr => ∃ k : Nat, u = .int .i64 k ∧ k ≤ n ∧ x = .int .i64 (toI (chooseK wt k)) ∧ Below w.heap.size w wr) (fun u _ _ => n - (intOf u).toNat)
  case atStart => exact ⟨0, rfl, by omega, rfl, Below.refl _ _⟩
  case round =>
    obtain ⟨k, rfl, hk, rfl, hbl⟩ := hrel
    have hbs := hbl.size
    by_cases hlt : k < n
    · obtain ⟨a, c, m0, hh⟩ := HW.out k hlt
      have m0 := keep_cellN hbl hWb m0
      have hlk := HL.out k hlt
      have hWbr : Wb < wr.heap.size := by omega
      have hlt' : (k : Int) < (n : Int) := by omega
      have k0 : (0 : Int) ≤ (k : Int) := by omega
      cases hw : wt k with
      | nil =>
        have HF := Lib.hid (chooseK_nil hw)
        rw [hw] at m0
        simp only [List.length_nil] at m0
        clear hw hh hlk
        generalize chooseK wt k = o at *
        have hd : decide ((0 : Int) < (0 : Int)) = false := rfl
        go_wp2_with fail
        go_quiet (fail)
        go_wp2_with fail
        go_roundw
        case rel => exact ⟨k + 1, by go_num, by omega, by rw [HF.out]; first | rfl | skip, below_drewN hbl _⟩
        case measure => simp [intOf]; omega
      | cons p r =>
        obtain ⟨pb, po, rfl, hpb, p0, p1, p2, p3, p4, p5, p6, p7, p8⟩ := hh p r hw
        have p0 := keep_cellN hbl hpb p0
        have p1 := keep_cellN hbl hpb p1
        have p2 := keep_cellN hbl hpb p2
        have p3 := keep_cellN hbl hpb p3
        have p4 := keep_cellN hbl hpb p4
        have p5 := keep_cellN hbl hpb p5
        have p6 := keep_cellN hbl hpb p6
        have p7 := keep_cellN hbl hpb p7
        have p8 := keep_cellN hbl hpb p8
        have hpbr : pb < wr.heap.size := by omega
        rw [hw] at m0 hlk
        have hm1 : 0 < (((p :: r).length : Nat) : Int) := by simp
        have hm2 : (((p :: r).length : Nat) : Int) ≤ 1000000 := by omega
        generalize (p :: r).length = m at *
        have hmn : 0 < m := by omega
        have hd : decide (0 < m) = true := decide_eq_true hmn
        cases ho : chooseK wt k with
        | none =>
          have HF := Lib.hid (chooseK_first hw ho)
          clear hw ho hh
          have hd2 : decide ((-1 : Int) < (0 : Int)) = true := rfl
          rw [show toI none = -1 from rfl]
          go_wp2_with fail
          go_quiet (fail)
          go_wp2_with fail
          go_roundw
          case rel => exact ⟨k + 1, by go_num, by omega, by rw [HF.out]; first | rfl | skip, below_drewN hbl _⟩
          case measure => simp [intOf]; omega
        | some j =>
          obtain ⟨hjk, hjw⟩ := chooseK_lt ho
          obtain ⟨a', c', n0, hh'⟩ := HW.out j (by omega)
          have n0 := keep_cellN hbl hWb n0
          have hlj := HL.out j (by omega)
          cases hw' : wt j with
          | nil => exact absurd hw' hjw
          | cons q u =>
            obtain ⟨qb, qo, rfl, hqb, q0, q1, q2, q3, q4, q5, q6, q7, q8⟩ := hh' q u hw'
            have q0 := keep_cellN hbl hqb q0
            have q1 := keep_cellN hbl hqb q1
            have q2 := keep_cellN hbl hqb q2
            have q3 := keep_cellN hbl hqb q3
            have q4 := keep_cellN hbl hqb q4
            have q5 := keep_cellN hbl hqb q5
            have q6 := keep_cellN hbl hqb q6
            have q7 := keep_cellN hbl hqb q7
            have q8 := keep_cellN hbl hqb q8
            have hqbr : qb < wr.heap.size := by omega
            rw [hw'] at n0 hlj
            have hm3 : 0 < (((q :: u).length : Nat) : Int) := by simp
            have hm4 : (((q :: u).length : Nat) : Int) ≤ 1000000 := by omega
            generalize (q :: u).length = m' at *
            have hmn2 : 0 < m' := by omega
            have HY := Lib.hid (chooseK_yes hw ho hw')
            have HN := Lib.hid (chooseK_not hw ho hw')
            have hj0 : (0 : Int) ≤ (j : Int) := by omega
            have hjn : (j : Int) < (n : Int) := by omega
            have hd2 : decide ((j : Int) < (0 : Int)) = false := by simp
            clear hw ho hh hw' hh' hjw
            rw [show toI (some j) = (j : Int) from rfl]
            go_wp2_with fail
            refine wp_region_quiet (C := fun W => Below wr.heap.size wr W) (by kernel_rfl) (by kernel_rfl) (Below.refl _ _).drew ?_
            repeat (
              refine wpQuiet_step (fun K hK => ?_)
              go_simp
              first
                | (refine hK _ ?_; clear hK K)
                | (apply Exists.intro
                   refine ⟨fun W q0 => ?_, hK _ ?_⟩
                   (first
                     | rfl
                     | (have qc := (bcell q0).1; go_simp; rfl)
                     | (go_at_call 53; ((with_reducible refine (pbefore_any k j p q _).mono ?_)); rintro e w5 ⟨rfl, hb5⟩; exact ⟨rfl, q0.trans (hb5.mono q0.size)⟩))
                   clear hK K))
            refine wpQuiet_nil ?_
            intro W hW
            cases hb : bef k p j q
            · have HF := Lib.hid (HN.out hb)
              clear hb
              go_wp2_with fail
              go_roundw
              case rel => exact ⟨k + 1, by go_num, by omega, by rw [HF.out]; first | rfl | skip, hbl.trans (hW.mono hbs)⟩
              case measure => simp [intOf]; omega
            · have HF := Lib.hid (HY.out hb)
              clear hb
              go_wp2_with fail
              go_roundw
              case rel => exact ⟨k + 1, by go_num, by omega, by rw [HF.out]; first | rfl | skip, hbl.trans (hW.mono hbs)⟩
              case measure => simp [intOf]; omega
    · obtain rfl : k = n := by omega
      have hlt' : ¬ (k : Int) < (k : Int) := by omega
      generalize hoo : chooseK wt k = o
      have HO := Lib.hid hoo
      clear hoo
      go_wp2_with fail
      go_ret
      exact ⟨ret_int (by rw [HO.out]), hbl⟩
end Go.Proofs.Ytkedcnemldjbeaa
