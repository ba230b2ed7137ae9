/- The walk over the insertion sort of candidates. Conditions: valid candidates with different numbers, at most 12. -/
import Derived.Test.YtfoadipocpopiaaGreatM11
namespace Go.Proofs.YtfoadipocpopiaaGreat
open Go.RowKit Go.Deep
/-- A candidate is stored. -/
def storeC (w : World) (g o j : Nat) (x : CD) : World :=
  (((((w.setCell ⟨g, o + j * 6, none⟩ (.int .i64 (x.num : Int))).setCell ⟨g, o + j * 6 + 1, none⟩ (.string x.nm)).setCell ⟨g, o + j * 6 + 2, none⟩ (.int .i64 (x.c : Int))).setCell ⟨g, o + j * 6 + 3, none⟩ (.int .i64 (x.p : Int))).setCell ⟨g, o + j * 6 + 4, none⟩ (.int .i64 x.r)).setCell ⟨g, o + j * 6 + 5, none⟩ (.int .i64 x.i)
theorem Win.setC {w : World} {T : TypeId} {g o cap j : Nat} {l : List CD} (h : Win w T 6 (.slice (some ⟨g, o, none⟩) l.length cap) l.length (l.flatMap encC)) (hj : j < l.length) (x : CD) :
    Win (storeC w g o j x) T 6 (.slice (some ⟨g, o, none⟩) l.length cap) l.length ((l.set j x).flatMap encC) := by
  obtain ⟨q, hg⟩ : ∃ q, l[j]? = some q := ⟨l[j], List.getElem?_eq_getElem hj⟩
  have e0 := flat_set (u := .int .i64 (x.num : Int)) encC_len (b := ⟨x.num, q.nm, q.c, q.p, q.r, q.i⟩) hg (show 0 < 6 by decide) rfl
  have hg1 : (l.set j ⟨x.num, q.nm, q.c, q.p, q.r, q.i⟩)[j]? = some ⟨x.num, q.nm, q.c, q.p, q.r, q.i⟩ := by simp [hj]
  have e1 := flat_set (u := .string x.nm) encC_len (b := ⟨x.num, x.nm, q.c, q.p, q.r, q.i⟩) hg1 (show 1 < 6 by decide) rfl
  rw [List.set_set] at e1
  have hg2 : (l.set j ⟨x.num, x.nm, q.c, q.p, q.r, q.i⟩)[j]? = some ⟨x.num, x.nm, q.c, q.p, q.r, q.i⟩ := by simp [hj]
  have e2 := flat_set (u := .int .i64 (x.c : Int)) encC_len (b := ⟨x.num, x.nm, x.c, q.p, q.r, q.i⟩) hg2 (show 2 < 6 by decide) rfl
  rw [List.set_set] at e2
  have hg3 : (l.set j ⟨x.num, x.nm, x.c, q.p, q.r, q.i⟩)[j]? = some ⟨x.num, x.nm, x.c, q.p, q.r, q.i⟩ := by simp [hj]
  have e3 := flat_set (u := .int .i64 (x.p : Int)) encC_len (b := ⟨x.num, x.nm, x.c, x.p, q.r, q.i⟩) hg3 (show 3 < 6 by decide) rfl
  rw [List.set_set] at e3
  have hg4 : (l.set j ⟨x.num, x.nm, x.c, x.p, q.r, q.i⟩)[j]? = some ⟨x.num, x.nm, x.c, x.p, q.r, q.i⟩ := by simp [hj]
  have e4 := flat_set (u := .int .i64 x.r) encC_len (b := ⟨x.num, x.nm, x.c, x.p, x.r, q.i⟩) hg4 (show 4 < 6 by decide) rfl
  rw [List.set_set] at e4
  have hg5 : (l.set j ⟨x.num, x.nm, x.c, x.p, x.r, q.i⟩)[j]? = some ⟨x.num, x.nm, x.c, x.p, x.r, q.i⟩ := by simp [hj]
  have e5 := flat_set (u := .int .i64 x.i) encC_len (b := x) hg5 (show 5 < 6 by decide) rfl
  rw [List.set_set] at e5
  have h6 := (((((h.set (j * 6 + 0) (.int .i64 (x.num : Int))).set (j * 6 + 1) (.string x.nm)).set (j * 6 + 2) (.int .i64 (x.c : Int))).set (j * 6 + 3) (.int .i64 (x.p : Int))).set (j * 6 + 4) (.int .i64 x.r)).set (j * 6 + 5) (.int .i64 x.i)
  rw [e0, e1, e2, e3, e4, e5] at h6
  unfold storeC
  simpa [← Nat.add_assoc] using h6
theorem Win.setC' {w : World} {T : TypeId} {g o cap j n : Nat} {l : List CD} (h : Win w T 6 (.slice (some ⟨g, o, none⟩) n cap) n (l.flatMap encC)) (hn : n = l.length) (hj : j < l.length) (x : CD) :
    Win (storeC w g o j x) T 6 (.slice (some ⟨g, o, none⟩) n cap) n ((l.set j x).flatMap encC) := by
  subst hn; exact h.setC hj x
theorem storeC_below {N : Nat} {w w' : World} (h : Below N w w') {g : Nat} (hg : N ≤ g) (o j : Nat) (x : CD) : Below N w (storeC w' g o j x) := by
  unfold storeC
  exact (((((h.setCell (p := ⟨g, o + j * 6, none⟩) hg _).setCell (p := ⟨g, o + j * 6 + 1, none⟩) hg _).setCell (p := ⟨g, o + j * 6 + 2, none⟩) hg _).setCell (p := ⟨g, o + j * 6 + 3, none⟩) hg _).setCell (p := ⟨g, o + j * 6 + 4, none⟩) hg _).setCell (p := ⟨g, o + j * 6 + 5, none⟩) hg _
theorem Win.cellC {w : World} {T : TypeId} {g o cap j n : Nat} {l : List CD} {x : CD} (h : Win w T 6 (.slice (some ⟨g, o, none⟩) n cap) n (l.flatMap encC)) (hj : l[j]? = some x) :
    w.cell? ⟨g, o + j * 6, none⟩ = some (.int .i64 (x.num : Int)) ∧ w.cell? ⟨g, o + j * 6 + 1, none⟩ = some (.string x.nm) ∧ w.cell? ⟨g, o + j * 6 + 2, none⟩ = some (.int .i64 (x.c : Int)) ∧ w.cell? ⟨g, o + j * 6 + 3, none⟩ = some (.int .i64 (x.p : Int)) ∧ w.cell? ⟨g, o + j * 6 + 4, none⟩ = some (.int .i64 x.r) ∧ w.cell? ⟨g, o + j * 6 + 5, none⟩ = some (.int .i64 x.i) := by
  have f := fun k (hk : k < 6) => flat_get encC_len hj hk
  have f0 := f 0 (by decide)
  have f1 := f 1 (by decide)
  have f2 := f 2 (by decide)
  have f3 := f 3 (by decide)
  have f4 := f 4 (by decide)
  have f5 := f 5 (by decide)
  simp only [encC, List.getElem?_cons_zero, List.getElem?_cons_succ, Nat.add_zero] at f0 f1 f2 f3 f4 f5
  exact ⟨h.cell f0, by rw [Nat.add_assoc]; exact h.cell f1, by rw [Nat.add_assoc]; exact h.cell f2, by rw [Nat.add_assoc]; exact h.cell f3, by rw [Nat.add_assoc]; exact h.cell f4, by rw [Nat.add_assoc]; exact h.cell f5⟩
/-! ### Sorted lists -/
def SortedC (l : List CD) : Prop := l.Pairwise fun x y => ltC x y = true
/-- The numbers are different. -/
def NumsC (l : List CD) : Prop := (l.map CD.num).Nodup
theorem lt_tot {x y : CD} (h : x.num ≠ y.num) (h2 : ltC x y = false) : ltC y x = true := by
  have := bf_tot (n1 := (x.num : Int)) (n2 := (y.num : Int)) (c1 := x.c) (p1 := x.p) (r1 := x.r) (i1 := x.i) (c2 := y.c) (p2 := y.p) (r2 := y.r) (i2 := y.i) (by omega)
  unfold ltC at h2 ⊢
  rw [h2] at this
  cases e : bfB y.num y.c y.p y.r y.i x.num x.c x.p x.r x.i with
  | true => rfl
  | false => rw [e] at this; simp at this
theorem lt_trans' {x y z : CD} (h1 : ltC x y = true) (h2 : ltC y z = true) : ltC x z = true := bf_trans h1 h2
/-- x put behind A and before B, where it is less than all of B and not less than the last of A. -/
theorem ins_sorted {A B : List CD} {x : CD} (hs : SortedC (A ++ B)) (hB : ∀ b ∈ B, ltC x b = true) (hA : ∀ a, A.getLast? = some a → ltC a x = true) : SortedC (A ++ x :: B) := by
  unfold SortedC at *
  rw [List.pairwise_append] at hs ⊢
  obtain ⟨h1, h2, h3⟩ := hs
  refine ⟨h1, List.pairwise_cons.2 ⟨hB, h2⟩, fun a ha b hb => ?_⟩
  rcases List.mem_cons.1 hb with rfl | hb
  · rcases List.eq_nil_or_concat A with rfl | ⟨A', y, rfl⟩
    · cases ha
    · have hy := hA y (by simp)
      simp only [List.concat_eq_append] at ha h1
      rcases List.mem_append.1 ha with h4 | h4
      · exact lt_trans' ((List.pairwise_append.1 h1).2.2 a h4 y (by simp)) hy
      · rw [List.mem_singleton.1 h4]; exact hy
  · exact h3 a ha b hb

theorem nums_ne {L : List CD} (h : NumsC L) {i : Nat} {x y : CD} (hx : L[i]? = some x) (hy : y ∈ L.take i) : x.num ≠ y.num := by
  obtain ⟨k, hk⟩ := List.mem_iff_getElem?.1 hy
  have hkl := (List.getElem?_eq_some_iff.1 hk).1
  have hki : k < i := by simp at hkl; omega
  rw [List.getElem?_take, if_pos hki] at hk
  intro e
  unfold NumsC at h
  have h1 : (L.map CD.num)[i]? = some x.num := by rw [List.getElem?_map, hx]; rfl
  have h2 : (L.map CD.num)[k]? = some y.num := by rw [List.getElem?_map, hk]; rfl
  obtain ⟨hil, e1⟩ := List.getElem?_eq_some_iff.1 h1
  obtain ⟨hkl', e2⟩ := List.getElem?_eq_some_iff.1 h2
  have := List.pairwise_iff_getElem.1 h k i hkl' hil hki
  rw [e1, e2, e] at this
  exact this rfl
/-- The state of the sort in a round: A, x, B, and the rest. -/
structure InsR (L S : List CD) (i j : Nat) (x : CD) (A B : List CD) : Prop where
  len : A.length = j
  spl : A ++ B = S
  big : ∀ b ∈ B, ltC x b = true
theorem swap_list {A' B R : List CD} {x y : CD} : ((A' ++ [y] ++ x :: (B ++ R)).set (A'.length + 1) y).set A'.length x = A' ++ x :: (y :: B ++ R) := by
  rw [List.append_assoc, List.set_append, if_neg (by omega), List.set_append, if_neg (by omega)]
  simp

/-- A round's exchange. -/
theorem swap_step {L S A' B R : List CD} {x y : CD} {i j k g o cap Nb : Nat} {T : TypeId} {w w4 : World} (hk : j = k + 1) (hS : S.length = i) (hi : i < L.length) (hR : R.length = L.length - (i + 1)) (hg : Nb ≤ g) (hl : ltC x y = true)
    (h : InsR L S i j x (A' ++ [y]) B) (hw : Win w4 T 6 (.slice (some ⟨g, o, none⟩) L.length cap) L.length ((A' ++ [y] ++ x :: (B ++ R)).flatMap encC)) (hb : Below Nb w w4) :
    InsR L S i k x A' (y :: B) ∧ Win (storeC (storeC w4 g o j y) g o k x) T 6 (.slice (some ⟨g, o, none⟩) L.length cap) L.length ((A' ++ x :: (y :: B ++ R)).flatMap encC) ∧ Below Nb w (storeC (storeC w4 g o j y) g o k x) := by
  obtain ⟨q1, q2, q3⟩ := h
  have hA : A'.length = k := by simp at q1; omega
  have hLE : L.length = (A' ++ [y] ++ x :: (B ++ R)).length := by
    have : (A' ++ [y] ++ B).length = i := by rw [q2]; exact hS
    simp at this ⊢
    omega
  have hLE2 : (A' ++ [y] ++ x :: (B ++ R)).length = A'.length + 1 + (B.length + R.length + 1) := by simp; omega
  refine ⟨⟨hA, by rw [← q2, List.append_assoc]; rfl, fun b hb => ?_⟩, ?_, storeC_below (storeC_below hb hg _ _ _) hg _ _ _⟩
  · rcases List.mem_cons.1 hb with rfl | hb
    · exact hl
    · exact q3 b hb
  · have h1 := hw.setC' hLE (j := j) (by omega) y
    have h2 := h1.setC' (by rw [List.length_set]; exact hLE) (j := k) (by rw [List.length_set]; omega) x
    have e := swap_list (A' := A') (B := B) (R := R) (x := x) (y := y)
    rw [hA, ← hk] at e
    rw [e] at h2
    exact h2

set_option maxRecDepth 100000 in
set_option maxHeartbeats 6400000 in
theorem inssort_any (L : List CD) (a : Option Addr) (cap Nb : Nat) (w : World) (hL : L.length ≤ 12) (hok : ∀ x ∈ L, CDok x) (hnum : NumsC L) (hown : ∀ g, (Value.slice a L.length cap).ownBlock = some g → Nb ≤ g) (hNb : Nb ≤ w.heap.size)
    (hw : Win w 71 6 (.slice a L.length cap) L.length (L.flatMap encC)) :
    Calls Tryz.prog 61 #[.slice a L.length cap, .int .i64 0, .int .i64 (L.length : Int), .func (.func 29) #[] #[]] w
      fun e w' => e = .returned (.tuple #[]) ∧ Below Nb w w' ∧ ∃ L', L'.Perm L ∧ SortedC L' ∧ Win w' 71 6 (.slice a L.length cap) L.length (L'.flatMap encC) := by
  have hLI : (L.length : Int) ≤ 12 := by omega
  have HW := Lib.hid hw
  have HOK := Lib.hid hok
  have HNUM := Lib.hid hnum
  have HOWN := Lib.hid hown
  clear hw hok hnum hown
  go_enter Tryz.func61, Tryz.ntmps61
  go_wp2_with fail
  go_loopw [8] (fun u wr => ∃ i : Nat, u = .int .i64 i ∧ 1 ≤ i ∧ (i ≤ L.length ∨ i = 1) ∧ Hid (∃ S, S.Perm (L.take i) ∧ SortedC S ∧ Win wr 71 6 (.slice a L.length cap) L.length ((S ++ L.drop i).flatMap encC)) ∧ Below Nb w wr) (fun u _ => L.length - (intOf u).toNat)
  case atStart => exact ⟨1, rfl, by omega, .inr rfl, Lib.hid ⟨L.take 1, List.Perm.refl _, by
    unfold SortedC
    match L with
    | [] => exact List.Pairwise.nil
    | x :: l => simp, by rw [List.take_append_drop]; exact HW.out⟩, Below.refl _ _⟩
  case round =>
    clear HW
    obtain ⟨i, rfl, hi1, hi2, hst, hbl⟩ := hrel
    generalize wr = w2 at *
    by_cases h0 : i < L.length
    · have h0I : (i : Int) < (L.length : Int) := by omega
      obtain ⟨S, hperm, hsort, hwin⟩ := hst.out
      obtain ⟨x, hx⟩ : ∃ x, L[i]? = some x := ⟨L[i], List.getElem?_eq_getElem h0⟩
      have hdrop : L.drop i = x :: L.drop (i + 1) := by
        rw [List.drop_eq_getElem_cons h0]
        rw [List.getElem?_eq_getElem h0] at hx
        injection hx with hx
        rw [hx]
      have hSl : S.length = i := by rw [hperm.length_eq]; simp; omega
      obtain ⟨g, o, cap', hae, hgl, _⟩ := hwin.form (by omega)
      simp only [Value.slice.injEq] at hae
      obtain ⟨rfl, _, rfl⟩ := hae
      have hgN := HOWN.out g rfl
      have HX := Lib.hid hx
      have HPERM := Lib.hid hperm
      have HSORT := Lib.hid hsort
      have HTAKE := Lib.hid (show L.take (i + 1) = L.take i ++ [x] from by rw [List.take_add_one, hx]; rfl)
      have HNE := Lib.hid (fun y (hy : y ∈ S) => nums_ne HNUM.out hx (hperm.mem_iff.1 hy))
      have HXO := Lib.hid (HOK.out x (List.mem_of_getElem? hx))
      have HSO := Lib.hid (fun y (hy : y ∈ S) => HOK.out y (List.mem_of_mem_take (hperm.mem_iff.1 hy)))
      have HST := Lib.hid (show InsR L S i i x S [] ∧ Win w2 71 6 (.slice (some ⟨g, o, none⟩) L.length cap) L.length ((S ++ x :: ([] ++ L.drop (i + 1))).flatMap encC) from ⟨⟨hSl, by simp, fun b hb => by cases hb⟩, by rw [List.nil_append, ← hdrop]; exact hwin⟩)
      have hRL : (L.drop (i + 1)).length = L.length - (i + 1) := by simp
      have HRL := Lib.hid hRL
      clear hst hperm hsort hwin hdrop hx hRL hSl
      generalize hR : L.drop (i + 1) = R at *
      have HRE := Lib.hid hR
      clear hR
      go_wp2_with fail
      go_loopw [9] (fun u wr => ∃ (j : Nat) (A B : List CD), u = .int .i64 j ∧ j ≤ i ∧ Hid (InsR L S i j x A B ∧ Win wr 71 6 (.slice (some ⟨g, o, none⟩) L.length cap) L.length ((A ++ x :: (B ++ R)).flatMap encC)) ∧ Below Nb w wr) (fun u _ => (intOf u).toNat)
      case atStart => exact ⟨i, S, [], rfl, Nat.le_refl _, HST, hbl⟩
      case round =>
        clear HST hbl
        obtain ⟨j, A, B, rfl, hj, hst, hbl⟩ := hrel
        generalize wr = w3 at *
        obtain ⟨⟨q1, q2, q3⟩, hwin⟩ := hst.out
        -- the end of the inner loop
        have HEND := Lib.hid (fun (W : World) (hA : ∀ y, A.getLast? = some y → ltC y x = true) (hb : Below w3.heap.size w3 W) => show Hid (∃ S', S'.Perm (L.take (i + 1)) ∧ SortedC S' ∧ Win W 71 6 (.slice (some ⟨g, o, none⟩) L.length cap) L.length ((S' ++ L.drop (i + 1)).flatMap encC)) from Lib.hid ⟨A ++ x :: B, by
            rw [HTAKE.out]
            have p1 : (A ++ x :: B).Perm (x :: (A ++ B)) := List.perm_middle
            rw [q2] at p1
            have p2 : (x :: S).Perm (S ++ [x]) := List.perm_append_comm (l₁ := [x]) (l₂ := S)
            exact p1.trans (p2.trans (HPERM.out.append_right [x])), ins_sorted (by rw [q2]; exact HSORT.out) q3 hA, by
            have := hwin.below hb fun g hg => hwin.blk_lt hg
            rw [HRE.out, List.append_assoc, List.cons_append]; exact this⟩)
        by_cases hj0 : 0 < j
        · have hj0I : (0 : Int) < (j : Int) := by omega
          rcases List.eq_nil_or_concat A with rfl | ⟨A', y, rfl⟩
          · simp at q1; omega
          · rw [List.concat_eq_append] at *
            obtain ⟨k, hk⟩ : ∃ k, j = k + 1 := ⟨j - 1, by omega⟩
            have hki : k ≤ i := by omega
            have hkm : ((k : Int)).toNat < ((j : Int)).toNat := by omega
            have hjy : A'.length = k := by simp at q1; omega
            have hly : (A' ++ [y] ++ x :: (B ++ R))[k]? = some y := by
              rw [List.append_assoc, List.getElem?_append_right (by omega), show k - A'.length = 0 by omega]; rfl
            have hlx : (A' ++ [y] ++ x :: (B ++ R))[j]? = some x := by
              rw [List.getElem?_append_right (by simp; omega), show j - (A' ++ [y]).length = 0 by simp; omega]; rfl
            have hyS : y ∈ S := by rw [← q2]; simp
            have hnum := HNE.out y hyS
            obtain ⟨c0, c1, c2, c3, c4, c5⟩ := hwin.cellC hlx
            obtain ⟨d0, d1, d2, d3, d4, d5⟩ := hwin.cellC hly
            have hgl : g < w3.heap.size := hwin.blk_lt rfl
            have HCM := Lib.hid (fun W => ccmp_any x y W HXO.out (HSO.out y hyS) hnum)
            have hjl : (j : Int) < (L.length : Int) := by omega
            have hj1 : (j : Int) - 1 = (k : Int) := by omega
            have hj1l : (k : Int) < (L.length : Int) := by omega
            have hkI : (k : Int) ≤ 12 := by omega
            have hwk : IntKind.i64.wrap (k : Int) = (k : Int) := IntWalk.i64_in _ (by omega)
            have hwk2 : wrap64 (k : Int) = (k : Int) := IntWalk.wrap64_in _ (by omega)
            have HKJ := Lib.hid hk
            clear hk
            have HCMP := Lib.hid (show ltC x y = true ∨ ltC x y = false from by cases ltC x y <;> simp)
            have hg1 : ¬ L.length = 0 := by omega
            clear HCMP
            cases hl : ltC x y with
            | true =>
              have HC1 := fun W => (HCM.out W).mono fun e w' (h : e = .returned (.int .i64 (if ltC x y = true then -1 else 1)) ∧ _) => And.intro (show e = .returned (.int .i64 (-1)) by rw [h.1, hl]; rfl) h.2
              clear HEND HCM
              go_upto_region 4 with fail
              refine wp_region_quiet (C := fun W => Below w3.heap.size w3 W) (by kernel_rfl) (by kernel_rfl) (Below.refl _ _).drew ?_
              repeat (
                refine wpQuiet_step (fun K hK => ?_)
                go_simp
                first
                  | (refine hK _ ?_; clear hK K)
                  | (apply Exists.intro
                     refine ⟨fun W q0 => ?_, hK _ ?_⟩
                     (first
                       | rfl
                       | (have qc := (bcell q0).1; go_simp; rfl)
                       | (go_at_call 29; ((with_reducible refine (HC1 _).mono ?_)); rintro e w5 ⟨rfl, hb5⟩; exact ⟨rfl, q0.trans (hb5.mono q0.size)⟩))
                     clear hK K))
              refine wpQuiet_nil ?_
              intro w4 hW
              have hwin4 := hwin.below hW fun g hg => hwin.blk_lt hg
              have hbl4 := hbl.trans (hW.mono (by have := hbl.size; omega))
              obtain ⟨c0, c1, c2, c3, c4, c5⟩ := hwin4.cellC hlx
              obtain ⟨d0, d1, d2, d3, d4, d5⟩ := hwin4.cellC hly
              have hgl := hwin4.blk_lt (g := g) rfl
              have hfr := hwin4.frozen
              clear hwin hst hW HC1 hbl
              have HW4 := Lib.hid hwin4
              have HN4 := Lib.hid (show InsR L S i j x (A' ++ [y]) B from ⟨q1, q2, q3⟩)
              have HHL := Lib.hid hl
              clear hwin4 hly hlx q1 q2 q3 hl
              go_wp2_with fail
              have HF := Lib.hid (swap_step HKJ.out (by rw [HPERM.out.length_eq]; simp; omega) (by omega) HRL.out hgN HHL.out HN4.out HW4.out hbl4)
              go_region_law (fail)
              all_goals (have HF2 := Lib.hid (And.intro HF.out.2.1.drew HF.out.2.2.drew))
              all_goals (unfold storeC at HF2)
              all_goals (have HI := Lib.hid HF.out.1)
              all_goals (generalize World.drew (World.setCell _ _ _) = w9 at HF2 ⊢)
              all_goals (clear HF HW4 HN4 HHL c0 c1 c2 c3 c4 c5 d0 d1 d2 d3 d4 d5 hfr)
              all_goals go_simp
              all_goals go_at_K
              all_goals
                go_wp2_with fail
                go_roundw
                case rel => exact ⟨k, A', y :: B, rfl, hki, Lib.hid ⟨HI.out, HF2.out.1⟩, HF2.out.2⟩
                case measure => exact hkm
            | false =>
              have HC1 := fun W => (HCM.out W).mono fun e w' (h : e = .returned (.int .i64 (if ltC x y = true then -1 else 1)) ∧ _) => And.intro (show e = .returned (.int .i64 1) by rw [h.1, hl]; rfl) h.2
              have hyx := lt_tot hnum hl
              have HE := Lib.hid (fun W hb => HEND.out W (fun z hz => by
                have : z = y := by simpa using hz.symm
                rw [this]; exact hyx) hb)
              clear HEND HCM hyx
              go_upto_region 4 with fail
              refine wp_region_quiet (C := fun W => Below w3.heap.size w3 W) (by kernel_rfl) (by kernel_rfl) (Below.refl _ _).drew ?_
              repeat (
                refine wpQuiet_step (fun K hK => ?_)
                go_simp
                first
                  | (refine hK _ ?_; clear hK K)
                  | (apply Exists.intro
                     refine ⟨fun W q0 => ?_, hK _ ?_⟩
                     (first
                       | rfl
                       | (have qc := (bcell q0).1; go_simp; rfl)
                       | (go_at_call 29; ((with_reducible refine (HC1 _).mono ?_)); rintro e w5 ⟨rfl, hb5⟩; exact ⟨rfl, q0.trans (hb5.mono q0.size)⟩))
                     clear hK K))
              refine wpQuiet_nil ?_
              intro w4 hW
              have HE4 := Lib.hid (HE.out w4 hW)
              have hbl4 := hbl.trans (hW.mono (by have := hbl.size; omega))
              clear HE hW hst hwin HC1
              go_wp2_with fail
              go_roundw
              case rel => exact ⟨i + 1, by go_num, by omega, .inl (by omega), HE4.out, hbl4⟩
              case measure => simp [intOf]; omega
        · obtain rfl : j = 0 := by omega
          have HE := Lib.hid (fun n => HEND.out (w3.drewN n) (fun y hy => by rw [List.eq_nil_of_length_eq_zero q1] at hy; simp at hy) (below_drewN (Below.refl _ _) n))
          clear HEND hst hwin
          go_upto_region 4 with fail
          go_quiet (fail)
          go_wp2_with fail
          go_roundw
          case rel => exact ⟨i + 1, by go_num, by omega, .inl (by omega), HE.out _, below_drewN hbl _⟩
          case measure => simp [intOf]; omega
    · have hdn : L.drop i = [] := List.drop_eq_nil_of_le (by omega)
      have htk : L.take i = L := List.take_of_length_le (by omega)
      have h0I : ¬ (i : Int) < (L.length : Int) := by omega
      rw [hdn, htk] at hst
      have HST := Lib.hid hst.out
      clear hst hdn htk
      go_wp2_with fail
      go_end0
      obtain ⟨S, s1, s2, s3⟩ := HST.out
      exact ⟨rfl, hbl, S, s1, s2, by rw [List.append_nil] at s3; exact s3⟩
end Go.Proofs.YtfoadipocpopiaaGreat
