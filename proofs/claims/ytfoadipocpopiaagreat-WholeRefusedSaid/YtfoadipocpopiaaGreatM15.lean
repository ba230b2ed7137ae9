/- Several texts in one: The walks over slices.SortFunc at candidates. Conditions: valid candidates with different numbers, at most 12. The walks over slices.Sort at ints: only that nothing else is written. Conditions: at most 12 ints. -/
import Derived.Test.YtfoadipocpopiaaGreatSlSort
import Derived.Test.YtfoadipocpopiaaGreatBitLen
namespace Go.Proofs.YtfoadipocpopiaaGreat
section
open Go.RowKit Go.Deep

set_option maxRecDepth 100000 in
set_option maxHeartbeats 6400000 in
theorem pdq_any (L : List CD) (a : Option Addr) (cap Nb : Nat) (lim : Int) (w : World) (hL : L.length ≤ 12) (hok : ∀ x ∈ L, CDok x) (hnum : NumsC L) (hown : ∀ g, (Value.slice a L.length cap).ownBlock = some g → Nb ≤ g) (hNb : Nb ≤ w.heap.size)
    (hw : Win w 71 6 (.slice a L.length cap) L.length (L.flatMap encC)) :
    Calls Tryz.prog 42 #[.slice a L.length cap, .int .i64 0, .int .i64 (L.length : Int), .int .i64 lim, .func (.func 29) #[] #[]] w
      fun e w' => e = .returned (.tuple #[]) ∧ Below Nb w w' ∧ ∃ L', L'.Perm L ∧ SortedC L' ∧ Win w' 71 6 (.slice a L.length cap) L.length (L'.flatMap encC) := by
  have hLI : (L.length : Int) ≤ 12 := by omega
  have CALL := Lib.hid (inssort_any L a cap Nb w hL hok hnum hown hNb hw)
  clear hw hok hnum hown
  have hd : decide ((L.length : Int) ≤ 12) = true := decide_eq_true hLI
  go_enter Tryz.func42, Tryz.ntmps42
  go_wp2_with fail
  go_loopw [1, 2, 3, 10, 11] (fun u1 u2 u3 u4 u5 wr => u1 = .int .i64 0 ∧ u2 = .int .i64 (L.length : Int) ∧ u3 = .int .i64 lim ∧ u4 = .bool true ∧ u5 = .bool true ∧ wr = w) (fun _ _ _ _ _ _ => 0)
  case atStart => exact ⟨rfl, rfl, rfl, rfl, rfl, rfl⟩
  case round =>
    obtain ⟨rfl, rfl, rfl, rfl, rfl, hw⟩ := hrel
    subst hw
    go_wp2_with fail
    refine CALL.out.mono ?_
    rintro e w2 ⟨rfl, hb, hp⟩
    have HP := Lib.hid (And.intro hb hp)
    clear CALL hb hp
    go_wp2_with fail
    refine bodyPost_ret (results_none rfl _ _ _) rfl ?_
    exact ⟨rfl, HP.out.1, HP.out.2⟩

set_option maxRecDepth 100000 in
set_option maxHeartbeats 6400000 in
theorem sortfunc_any (L : List CD) (a : Option Addr) (cap Nb : Nat) (w : World) (hL : L.length ≤ 12) (hok : ∀ x ∈ L, CDok x) (hnum : NumsC L) (hown : ∀ g, (Value.slice a L.length cap).ownBlock = some g → Nb ≤ g) (hNb : Nb ≤ w.heap.size)
    (hw : Win w 71 6 (.slice a L.length cap) L.length (L.flatMap encC)) :
    Calls Tryz.prog 28 #[.slice a L.length cap, .func (.func 29) #[] #[]] w
      fun e w' => e = .returned (.tuple #[]) ∧ Below Nb w w' ∧ ∃ L', L'.Perm L ∧ SortedC L' ∧ Win w' 71 6 (.slice a L.length cap) L.length (L'.flatMap encC) := by
  have hLI : (L.length : Int) ≤ 12 := by omega
  have wl : IntKind.u64.wrap (L.length : Int) = (L.length : Int) := IntWalk.u64_in _ (by omega)
  have LEN := Lib.hid (fun W => len_any (L.length : Int) W (by omega) (by omega))
  have CALL := Lib.hid (fun lim W (hb : Below w.heap.size w W) => pdq_any L a cap Nb lim W hL hok hnum hown (by have := hb.size; omega) (hw.below hb fun g hg => hw.blk_lt hg))
  clear hw hok hnum hown
  go_enter Tryz.func28, Tryz.ntmps28
  go_wp2_with fail
  refine (LEN.out _).mono ?_
  rintro e w1 ⟨rfl, hw1⟩
  subst hw1
  clear LEN
  go_wp2_with fail
  refine (CALL.out _ _ (Below.refl _ _)).mono ?_
  rintro e w2 ⟨rfl, hb, hp⟩
  have HP := Lib.hid (And.intro hb hp)
  clear CALL hb hp
  go_wp2_with fail
  go_end0
  exact ⟨rfl, HP.out.1, HP.out.2⟩
end

section
open Go.RowKit Go.Deep

set_option maxRecDepth 100000 in
theorem nan_any (x : Int) (w : World) : Calls Tryz.prog 96 #[.int .i64 x] w fun e w' => e = .returned (.bool false) ∧ w' = w := by
  go_enter Tryz.func96, Tryz.ntmps96
  go_wp2_with fail
  go_ret
  exact ⟨by simp, rfl⟩

set_option maxRecDepth 100000 in
theorem less_any (x y : Int) (w : World) : Calls Tryz.prog 79 #[.int .i64 x, .int .i64 y] w fun e w' => e = .returned (.bool (decide (x < y))) ∧ w' = w := by
  have N := Lib.hid (fun x W => nan_any x W)
  go_enter Tryz.func79, Tryz.ntmps79
  go_wp2_with (go_at_call 96; refine (N.out _ _).mono ?_; rintro e w' ⟨rfl, rfl⟩)
  all_goals (go_ret; exact ⟨by simp, rfl⟩)

/-- A slice of ints. -/
def IntW (w : World) (a : Option Addr) (n cap : Nat) : Prop := ∃ l : List Int, l.length = n ∧ Win w 3 1 (.slice a n cap) n (l.map (Value.int .i64))
theorem IntW.at {w : World} {g o n cap : Nat} (h : IntW w (some ⟨g, o, none⟩) n cap) {j : Nat} (hj : j < n) : ∃ x : Int, w.cell? ⟨g, o + j, none⟩ = some (.int .i64 x) := by
  obtain ⟨l, hl, hw⟩ := h
  refine ⟨l[j]'(by omega), hw.cell ?_⟩
  rw [List.getElem?_map, List.getElem?_eq_getElem (by omega)]; rfl
theorem IntW.set {w : World} {g o n cap : Nat} (h : IntW w (some ⟨g, o, none⟩) n cap) (j : Nat) (x : Int) : IntW (w.setCell ⟨g, o + j, none⟩ (.int .i64 x)) (some ⟨g, o, none⟩) n cap := by
  obtain ⟨l, hl, hw⟩ := h
  have := hw.set j (.int .i64 x)
  rw [← List.map_set] at this
  exact ⟨l.set j x, by simp [hl], this⟩
theorem IntW.drew {w : World} {a : Option Addr} {n cap : Nat} (h : IntW w a n cap) : IntW w.drew a n cap := by
  obtain ⟨l, hl, hw⟩ := h
  exact ⟨l, hl, hw.drew⟩
theorem IntW.below {w w' : World} {a : Option Addr} {n cap : Nat} (h : IntW w a n cap) (hb : Below w.heap.size w w') : IntW w' a n cap := by
  obtain ⟨l, hl, hw⟩ := h
  exact ⟨l, hl, hw.below hb fun g hg => hw.blk_lt hg⟩
theorem IntW.lt {w : World} {g o n cap : Nat} (h : IntW w (some ⟨g, o, none⟩) n cap) : g < w.heap.size := by
  obtain ⟨l, hl, hw⟩ := h
  exact hw.blk_lt rfl
theorem IntW.frozen {w : World} {g o n cap : Nat} (h : IntW w (some ⟨g, o, none⟩) n cap) (j : Nat) : w.frozen? ⟨g, j, none⟩ = false := by
  obtain ⟨l, hl, hw⟩ := h
  exact hw.frozen j

set_option maxRecDepth 100000 in
set_option maxHeartbeats 6400000 in
theorem inssortI_any (n : Nat) (a : Option Addr) (cap Nb : Nat) (w : World) (hn : n ≤ 12) (hown : ∀ g, (Value.slice a n cap).ownBlock = some g → Nb ≤ g) (hNb : Nb ≤ w.heap.size) (hw : IntW w a n cap) :
    Calls Tryz.prog 73 #[.slice a n cap, .int .i64 0, .int .i64 (n : Int)] w
      fun e w' => e = .returned (.tuple #[]) ∧ Below Nb w w' ∧ IntW w' a n cap := by
  have hLI : (n : Int) ≤ 12 := by omega
  have HOWN := Lib.hid hown
  have LESS := Lib.hid (fun x y W => less_any x y W)
  clear hown
  go_enter Tryz.func73, Tryz.ntmps73
  go_wp2_with fail
  go_loopw [6] (fun u wr => ∃ i : Nat, u = .int .i64 i ∧ 1 ≤ i ∧ (i ≤ n ∨ i = 1) ∧ Hid (IntW wr a n cap) ∧ Below Nb w wr) (fun u _ => n - (intOf u).toNat)
  case atStart => exact ⟨1, rfl, by omega, .inr rfl, Lib.hid hw, Below.refl _ _⟩
  case round =>
    clear hw
    obtain ⟨i, rfl, hi1, hi2, hst, hbl⟩ := hrel
    generalize wr = w2 at *
    by_cases h0 : i < n
    · have h0I : (i : Int) < (n : Int) := by omega
      obtain ⟨l, hl, hwin⟩ := hst.out
      obtain ⟨g, o, cap', hae, hgl, _⟩ := hwin.form (by omega)
      simp only [Value.slice.injEq] at hae
      obtain ⟨rfl, _, rfl⟩ := hae
      have hgN := HOWN.out g rfl
      clear hwin hl hgl
      go_wp2_with fail
      go_loopw [7] (fun u wr => ∃ (j : Nat), u = .int .i64 j ∧ j ≤ i ∧ Hid (IntW wr (some ⟨g, o, none⟩) n cap) ∧ Below Nb w wr) (fun u _ => (intOf u).toNat)
      case atStart => exact ⟨i, rfl, Nat.le_refl _, hst, hbl⟩
      case round =>
        clear hst hbl
        obtain ⟨j, rfl, hj, hst, hbl⟩ := hrel
        generalize wr = w3 at *
        have hiE : i + 1 ≤ n := by omega
        have hiM : n - ((i : Int) + 1).toNat < n - ((i : Int)).toNat := by omega
        have hiM2 : n - (intOf (.int .i64 ((i : Int) + 1))).toNat < n - (intOf (.int .i64 (i : Int))).toNat := hiM
        by_cases hj0 : 0 < j
        · have hj0I : (0 : Int) < (j : Int) := by omega
          obtain ⟨k, hk⟩ : ∃ k, j = k + 1 := ⟨j - 1, by omega⟩
          have hki : k ≤ i := by omega
          have hjn : j < n := by omega
          have hkn : k < n := by omega
          have hkm : ((k : Int)).toNat < ((j : Int)).toNat := by omega
          have HI := hst.out
          obtain ⟨x, hx⟩ := HI.at hjn
          obtain ⟨y, hy⟩ := HI.at hkn
          have hgl := HI.lt
          have hjl : (j : Int) < (n : Int) := by omega
          have hj1 : (j : Int) - 1 = (k : Int) := by omega
          have hj1l : (k : Int) < (n : Int) := by omega
          have hkI : (k : Int) ≤ 12 := by omega
          have hwk : IntKind.i64.wrap (k : Int) = (k : Int) := IntWalk.i64_in _ (by omega)
          have hwk2 : wrap64 (k : Int) = (k : Int) := IntWalk.wrap64_in _ (by omega)
          have hg1 : ¬ n = 0 := by omega
          clear hk
          cases hxy : decide (x < y) with
          | true =>
              have LS := Lib.hid (fun W => (LESS.out x y W).mono fun e w' (h : e = .returned (.bool (decide (x < y))) ∧ w' = W) => And.intro (show e = .returned (.bool true) by rw [h.1, hxy]) h.2)
              go_upto_region 4 with fail
              refine wp_region_quiet (C := fun W => Below w3.heap.size w3 W) (by kernel_rfl) (by kernel_rfl) (Below.refl _ _).drew ?_
              repeat (
                refine wpQuiet_step (fun K hK => ?_)
                go_simp
                first
                  | (refine hK _ ?_; clear hK K)
                  | (apply Exists.intro
                     refine ⟨fun W q0 => ?_, hK _ ?_⟩
                     (first
                       | rfl
                       | (have qc := (bcell q0).1; go_simp; rfl)
                       | (go_at_call 79; ((with_reducible refine (LS.out _).mono ?_)); rintro e w5 ⟨rfl, rfl⟩; exact ⟨rfl, q0⟩))
                     clear hK K))
              refine wpQuiet_nil ?_
              intro w4 hW
              have HI4 := HI.below hW
              have hbl4 := hbl.trans (hW.mono (Nat.le_trans hNb hbl.size))
              clear hst HI hW hx hy LS hxy hbl hgl
              obtain ⟨x', hx⟩ := HI4.at hjn
              obtain ⟨y', hy⟩ := HI4.at hkn
              have hgl := HI4.lt
              have hfr := HI4.frozen
              have HF := Lib.hid (And.intro ((HI4.set j y').set k x') ((hbl4.setCell (p := ⟨g, o + j, none⟩) hgN (.int .i64 y')).setCell (p := ⟨g, o + k, none⟩) hgN (.int .i64 x')))
              clear HI4
              go_wp2_with fail
              go_region_law (fail)
              all_goals (have HF2 := Lib.hid (And.intro HF.out.1.drew HF.out.2.drew))
              all_goals (generalize World.drew (World.setCell _ _ _) = w9 at HF2 ⊢)
              all_goals (clear HF hx hy hfr)
              all_goals go_simp
              all_goals go_at_K
              all_goals
                go_wp2_with fail
                go_roundw
                case rel => exact ⟨k, rfl, hki, Lib.hid HF2.out.1, HF2.out.2⟩
                case measure => exact hkm
          | false =>
              have LS := Lib.hid (fun W => (LESS.out x y W).mono fun e w' (h : e = .returned (.bool (decide (x < y))) ∧ w' = W) => And.intro (show e = .returned (.bool false) by rw [h.1, hxy]) h.2)
              go_upto_region 4 with fail
              refine wp_region_quiet (C := fun W => Below w3.heap.size w3 W) (by kernel_rfl) (by kernel_rfl) (Below.refl _ _).drew ?_
              repeat (
                refine wpQuiet_step (fun K hK => ?_)
                go_simp
                first
                  | (refine hK _ ?_; clear hK K)
                  | (apply Exists.intro
                     refine ⟨fun W q0 => ?_, hK _ ?_⟩
                     (first
                       | rfl
                       | (have qc := (bcell q0).1; go_simp; rfl)
                       | (go_at_call 79; ((with_reducible refine (LS.out _).mono ?_)); rintro e w5 ⟨rfl, rfl⟩; exact ⟨rfl, q0⟩))
                     clear hK K))
              refine wpQuiet_nil ?_
              intro w4 hW
              have HI4 := Lib.hid (HI.below hW)
              have hbl4 := hbl.trans (hW.mono (Nat.le_trans hNb hbl.size))
              clear hst HI hW hx hy LS hxy hbl hgl
              go_wp2_with fail
              go_roundw
              case rel => exact ⟨i + 1, rfl, Nat.le_add_left 1 i, .inl hiE, HI4, hbl4⟩
              case measure => exact hiM2
        · obtain rfl : j = 0 := by omega
          have HI := Lib.hid hst.out
          clear hst
          go_upto_region 4 with fail
          go_quiet (fail)
          have HI4 := Lib.hid (fun m => HI.out.below (below_drewN (Below.refl _ _) m))
          go_wp2_with fail
          go_roundw
          case rel => exact ⟨i + 1, rfl, Nat.le_add_left 1 i, .inl hiE, Lib.hid (HI4.out _), below_drewN hbl _⟩
          case measure => exact hiM2
    · have h0I : ¬ (i : Int) < (n : Int) := by omega
      have HST := Lib.hid hst.out
      clear hst
      go_wp2_with fail
      go_end0
      exact ⟨rfl, hbl, HST.out⟩

set_option maxRecDepth 100000 in
set_option maxHeartbeats 6400000 in
theorem pdqI_any (n : Nat) (a : Option Addr) (cap Nb : Nat) (lim : Int) (w : World) (hn : n ≤ 12) (hown : ∀ g, (Value.slice a n cap).ownBlock = some g → Nb ≤ g) (hNb : Nb ≤ w.heap.size) (hw : IntW w a n cap) :
    Calls Tryz.prog 46 #[.slice a n cap, .int .i64 0, .int .i64 (n : Int), .int .i64 lim] w
      fun e w' => e = .returned (.tuple #[]) ∧ Below Nb w w' ∧ IntW w' a n cap := by
  have hLI : (n : Int) ≤ 12 := by omega
  have CALL := Lib.hid (inssortI_any n a cap Nb w hn hown hNb hw)
  clear hw hown
  have hd : decide ((n : Int) ≤ 12) = true := decide_eq_true hLI
  go_enter Tryz.func46, Tryz.ntmps46
  go_wp2_with fail
  go_loopw [1, 2, 3, 8, 9] (fun u1 u2 u3 u4 u5 wr => u1 = .int .i64 0 ∧ u2 = .int .i64 (n : Int) ∧ u3 = .int .i64 lim ∧ u4 = .bool true ∧ u5 = .bool true ∧ wr = w) (fun _ _ _ _ _ _ => 0)
  case atStart => exact ⟨rfl, rfl, rfl, rfl, rfl, rfl⟩
  case round =>
    obtain ⟨rfl, rfl, rfl, rfl, rfl, hw⟩ := hrel
    subst hw
    go_wp2_with fail
    refine CALL.out.mono ?_
    rintro e w2 ⟨rfl, hb, hp⟩
    have HP := Lib.hid (And.intro hb hp)
    clear CALL hb hp
    go_wp2_with fail
    refine bodyPost_ret (results_none rfl _ _ _) rfl ?_
    exact ⟨rfl, HP.out.1, HP.out.2⟩

set_option maxRecDepth 100000 in
set_option maxHeartbeats 6400000 in
theorem sortI_any (n : Nat) (a : Option Addr) (cap Nb : Nat) (w : World) (hn : n ≤ 12) (hown : ∀ g, (Value.slice a n cap).ownBlock = some g → Nb ≤ g) (hNb : Nb ≤ w.heap.size) (hw : IntW w a n cap) :
    Calls Tryz.prog 31 #[.slice a n cap] w
      fun e w' => e = .returned (.tuple #[]) ∧ Below Nb w w' ∧ IntW w' a n cap := by
  have hLI : (n : Int) ≤ 12 := by omega
  have wl : IntKind.u64.wrap (n : Int) = (n : Int) := IntWalk.u64_in _ (by omega)
  have LEN := Lib.hid (fun W => len_any (n : Int) W (by omega) (by omega))
  have CALL := Lib.hid (fun lim => pdqI_any n a cap Nb lim w hn hown hNb hw)
  clear hw hown
  go_enter Tryz.func31, Tryz.ntmps31
  go_wp2_with fail
  refine (LEN.out _).mono ?_
  rintro e w1 ⟨rfl, hw1⟩
  subst hw1
  clear LEN
  go_wp2_with fail
  refine (CALL.out _).mono ?_
  rintro e w2 ⟨rfl, hb, hp⟩
  have HP := Lib.hid (And.intro hb hp)
  clear CALL hb hp
  go_wp2_with fail
  go_end0
  exact ⟨rfl, HP.out.1, HP.out.2⟩
end
end Go.Proofs.YtfoadipocpopiaaGreat
