/- Base for the walks over pfair: contracts of taskset.Valid, pfair.valid and pfair.up, and small lemmas. Conditions: each theorem's own. -/
import Derived.Test.YtoiahkndabbklaaRows
import Derived.WalkKit
import Derived.WalkSpells
import Derived.WalkLawsBesides
import Derived.Lib.Hide
namespace Go.Proofs.Ytoiahkndabbklaa
open Go.RowKit

theorem ret_bool {a b : Bool} (h : a = b) : Ending.returned (.bool a) = .returned (.bool b) := by rw [h]
theorem ret_int {a b : Int} (h : a = b) : Ending.returned (.int .i64 a) = .returned (.int .i64 b) := by rw [h]
theorem bcell {W w1 : World} (hb : Below W.heap.size W w1) : (∀ b o, b < W.heap.size → w1.cell? ⟨b, o, none⟩ = W.cell? ⟨b, o, none⟩) ∧ (∀ b o, b < W.heap.size → w1.frozen? ⟨b, o, none⟩ = W.frozen? ⟨b, o, none⟩) :=
  ⟨fun b o h => hb.cell (p := ⟨b, o, none⟩) h, fun b o h => hb.frozen (p := ⟨b, o, none⟩) h⟩
theorem below_drewN {B : Nat} {a w : World} (h : Below B a w) (n : Nat) : Below B a (w.drewN n) := ⟨h.os, h.tape, h.output, h.size, h.block⟩

structure Tk where
  nm : ByteArray
  c : Int
  p : Int

def vtB (c p : Int) : Bool := decide (1 ≤ c ∧ c ≤ p ∧ p ≤ 1000)
def validL (l : List Tk) : Bool := decide (l.length ≤ 40) && l.all fun t => vtB t.c t.p
theorem vtB_true {c p : Int} (h : vtB c p = true) : 1 ≤ c ∧ c ≤ p ∧ p ≤ 1000 := by simpa [vtB] using h
theorem vtB_false {c p : Int} (h : vtB c p = false) : ¬ (1 ≤ c ∧ c ≤ p ∧ p ≤ 1000) := by simpa [vtB] using h

/-- The tasks l lie at a place. -/
def TasksAt (w : World) (b off : Nat) (l : List Tk) : Prop :=
  ∀ i t, l[i]? = some t → w.cell? ⟨b, off + i * 3, none⟩ = some (.string t.nm) ∧ w.cell? ⟨b, off + i * 3 + 1, none⟩ = some (.int .i64 t.c) ∧ w.cell? ⟨b, off + i * 3 + 2, none⟩ = some (.int .i64 t.p)

theorem all_no (l : List Tk) (k : Nat) (h : k < l.length) (hv : vtB l[k].c l[k].p = false) : validL l = false := by
  unfold validL
  have : (l.all fun t => vtB t.c t.p) = false := by
    rw [List.all_eq_false]
    exact ⟨l[k], List.getElem_mem h, by simp [hv]⟩
  simp [this]
theorem take_yes (l : List Tk) (k : Nat) (h : k < l.length) (ha : (l.take k).all (fun t => vtB t.c t.p) = true) (hv : vtB l[k].c l[k].p = true) :
    (l.take (k + 1)).all (fun t => vtB t.c t.p) = true := by
  rw [List.take_succ_eq_append_getElem h, List.all_append, ha]; simp [hv]

/-- taskset.Valid on a list of tasks that lie in memory. -/
theorem valid_any (l : List Tk) (b off cap : Nat) (w : World) (hb : b < w.heap.size) (hl : l.length ≤ 9223372036854775807)
    (hc : TasksAt w b off l) :
    Calls Try.prog 32 #[.slice (some ⟨b, off, none⟩) l.length cap] w fun e w' => e = .returned (.bool (validL l)) ∧ Below w.heap.size w w' := by
  have hlen : (l.length : Int) ≤ 9223372036854775807 := by omega
  by_cases h40 : l.length ≤ 40
  · go_enter Try.func32, Try.ntmps32
    go_wp2
    go_loopw [10] (fun i wr => ∃ k : Nat, k ≤ l.length ∧ i = .int .i64 k ∧ (l.take k).all (fun t => vtB t.c t.p) = true ∧ Below w.heap.size w wr) (fun i _ => l.length - (intOf i).toNat)
    case atStart => exact ⟨0, by omega, rfl, rfl, Below.refl _ _⟩
    case round =>
      obtain ⟨k, hk, rfl, hall, hbl⟩ := hrel
      by_cases hlt : k < l.length
      · have ht : l[k]? = some l[k] := List.getElem?_eq_getElem hlt
        obtain ⟨c0, c1, c2⟩ := hc k l[k] ht
        have c0' := (hbl.cell (p := ⟨b, off + k * 3, none⟩) hb).trans c0
        have c1' := (hbl.cell (p := ⟨b, off + k * 3 + 1, none⟩) hb).trans c1
        have c2' := (hbl.cell (p := ⟨b, off + k * 3 + 2, none⟩) hb).trans c2
        have hno := all_no l k hlt
        have hyes := take_yes l k hlt hall
        clear c0 c1 c2 ht hall
        generalize l[k].nm = nm at *
        generalize l[k].c = c at *
        generalize l[k].p = p at *
        by_cases hv : 1 ≤ c ∧ c ≤ p ∧ p ≤ 1000
        · have hv' : vtB c p = true := by simp [vtB]; omega
          have hal := Lib.hid (hyes hv')
          clear hyes hno hv'
          obtain ⟨h1, h2, h3⟩ := hv
          go_wp2
          go_roundw
          case rel => exact ⟨k + 1, by omega, by go_num, hal.out, hbl.alloc hbl.size _⟩
          case measure => simp [intOf]; omega
        · have hv' : vtB c p = false := by simp [vtB]; omega
          have hal := Lib.hid (hno hv')
          clear hyes hno hv'
          by_cases h1 : 1 ≤ c
          · by_cases h2 : c ≤ p
            · have h3 : 1000 < p := by omega
              go_wp2
              go_ret
              exact ⟨ret_bool hal.out.symm, hbl.alloc hbl.size _⟩
            · go_wp2
              go_ret
              exact ⟨ret_bool hal.out.symm, hbl.alloc hbl.size _⟩
          · go_wp2
            go_ret
            exact ⟨ret_bool hal.out.symm, hbl.alloc hbl.size _⟩
      · have hfin : validL l = true := by
          unfold validL
          rw [List.take_of_length_le (by omega)] at hall
          simp only [hall, Bool.and_true, decide_eq_true_eq]; exact h40
        have H := Lib.hid hfin
        clear hfin hall
        go_wp2
        go_ret
        exact ⟨ret_bool H.out.symm, hbl⟩
  · have hfin : validL l = false := by
      unfold validL; simp [h40]
    have H := Lib.hid hfin
    clear hfin
    go_enter Try.func32, Try.ntmps32
    go_wp2
    go_ret
    exact ⟨ret_bool H.out.symm, Below.refl _ _⟩

/-- taskset.Valid on one task. -/
theorem valid_one (nm : ByteArray) (c p : Int) (b : Nat) (w : World) (hb : b < w.heap.size)
    (hc0 : w.cell? ⟨b, 0, none⟩ = some (.string nm)) (hc1 : w.cell? ⟨b, 1, none⟩ = some (.int .i64 c)) (hc2 : w.cell? ⟨b, 2, none⟩ = some (.int .i64 p)) :
    Calls Try.prog 32 #[.slice (some ⟨b, 0, none⟩) 1 1] w fun e w' => e = .returned (.bool (vtB c p)) ∧ Below w.heap.size w w' := by
  have h := valid_any [⟨nm, c, p⟩] b 0 1 w hb (by simp) (by
    intro i t hi
    match i, hi with
    | 0, hi => obtain rfl : _ = t := by simpa using hi
               exact ⟨hc0, hc1, hc2⟩)
  simpa [validL] using h

/-- pfair.up. -/
theorem up_any (a b : Int) (w : World) (h0 : 0 ≤ a) (h1 : a ≤ 1000000000000) (h2 : 1 ≤ b) (h3 : b ≤ 1000000000000) :
    Calls Try.prog 27 #[.int .i64 a, .int .i64 b] w fun e w' => e = .returned (.int .i64 ((a + b - 1) / b)) ∧ w = w' := by
  go_enter Try.func27, Try.ntmps27
  go_wp2
  go_ret
  exact ⟨rfl, rfl⟩

/-- pfair.valid. -/
theorem pvalid_any (nm : ByteArray) (c p : Int) (w : World) :
    Calls Try.prog 26 #[.agg #[.string nm, .int .i64 c, .int .i64 p]] w fun e w' => e = .returned (.bool (vtB c p)) ∧ Below w.heap.size w w' := by
  go_enter Try.func26, Try.ntmps26
  go_wp2_with fail
  refine (valid_one nm c p _ _ (by simp) (by simp [go_sem]) (by simp [go_sem]) (by simp [go_sem])).mono ?_
  rintro e w1 ⟨rfl, hb⟩
  go_wp2_with fail
  go_ret
  exact ⟨rfl, (((Below.refl _ _).alloc (Nat.le_refl _) _).alloc (by simp) _).trans (hb.mono (by simp; omega))⟩
end Go.Proofs.Ytoiahkndabbklaa
