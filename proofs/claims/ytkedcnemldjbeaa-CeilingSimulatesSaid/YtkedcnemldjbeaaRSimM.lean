/- The memory of the reference's Simulate: three slices that the call builds. Conditions: each theorem's own. -/
import Derived.Test.YtkedcnemldjbeaaRBefore
import Derived.Test.YtkedcnemldjbeaaWin
namespace Go.Proofs.Ytkedcnemldjbeaa
open Go.RowKit

theorem info_rp : (Try.prog.info? 91).map (fun i => (i.zero, i.size, i.bytes)) = some (some (.agg #[.int .i64 0, .int .i64 0, .int .i64 0, .int .i64 0, .int .i64 0, .int .i64 0]), 6, 48) := by kernel_rfl
theorem info_rjob : (Try.prog.info? 58).map (fun i => (i.zero, i.size, i.bytes)) = some (some (.agg #[.int .i64 0, .int .i64 0, .int .i64 0, .int .i64 0, .int .i64 0]), 5, 40) := by kernel_rfl
theorem encR_len (p : RJ) : (encR p).length = 6 := rfl

structure RS (N : Nat) (tg : Nat → Nat) (w : World) (wv : Value) (W : List RJ) (ov : Value) (J : List Jb) (rv : Value) (xs : List Value) : Prop where
  ww : Win w 91 6 wv W.length (W.flatMap encR)
  wo : Win w 58 5 ov J.length (J.flatMap encJ)
  wr : Win w 3 1 rv xs.length xs
  tw : ∀ g, wv.ownBlock = some g → tg g = 1 ∧ N ≤ g
  tjo : ∀ g, ov.ownBlock = some g → tg g = 2 ∧ N ≤ g
  tr : ∀ g, rv.ownBlock = some g → tg g = 3 ∧ N ≤ g

section
variable {N : Nat} {tg : Nat → Nat} {w w' : World} {wv ov rv : Value} {W : List RJ} {J : List Jb} {xs : List Value}
theorem RS.nil (N : Nat) (w : World) : RS N (fun _ => 0) w (.slice none 0 0) [] (.slice none 0 0) [] (.slice none 0 0) [] :=
  ⟨Win.nil _ _ _, Win.nil _ _ _, Win.nil _ _ _, fun g h => by simp [Value.ownBlock] at h, fun g h => by simp [Value.ownBlock] at h, fun g h => by simp [Value.ownBlock] at h⟩
theorem RS.below (h : RS N tg w wv W ov J rv xs) (hb : Below w.heap.size w w') : RS N tg w' wv W ov J rv xs :=
  ⟨h.ww.below hb fun _ hg => h.ww.blk_lt hg, h.wo.below hb fun _ hg => h.wo.blk_lt hg, h.wr.below hb fun _ hg => h.wr.blk_lt hg, h.tw, h.tjo, h.tr⟩
/-- The tags when block g is new. -/
def tagN (tg : Nat → Nat) (S k : Nat) : Nat → Nat := fun g => if g < S then tg g else k
theorem RS.pushW (h : RS N tg w wv W ov J rv xs) (hN : N ≤ w.heap.size) (i : Nat) (x : Int) (hm : W.length ≤ 1000000) :
    ∃ v' w', (Builtin.append_ #[89, 89] 89 #[wv, .slice (some ⟨w.heap.size, 0, none⟩) 1 1]).run Try.prog (w.alloc (.cells #[.int .i64 i, .int .i64 x, .int .i64 (-1), .int .i64 0, .int .i64 0, .int .i64 0] 91)) = .ok v' w' ∧
      (∃ tg', RS N tg' w' v' (W ++ [⟨i, x, -1, 0, 0, 0⟩]) ov J rv xs) ∧ Below N w w' := by
  obtain ⟨g, o, c, w', hr, hw', hg, hl, hlt⟩ := Win.push (P := Try.prog) (t := 89) (ty := 89) Try.underlying89 info_rp (by simp [Value.cells]) (by decide)
    (h.ww.alloc (.cells #[.int .i64 i, .int .i64 x, .int .i64 (-1), .int .i64 0, .int .i64 0, .int .i64 0] 91)) ⟨w.heap.size, 0, none⟩ 1 (encR ⟨i, x, -1, 0, 0, 0⟩) rfl (fun k u hk => World.news_of_block (Go.Deep.blk_alloc_new _ _) k u hk) (fun u hu => by
      simp only [encR, List.mem_cons, List.not_mem_nil, or_false] at hu
      rcases hu with rfl | rfl | rfl | rfl | rfl | rfl <;> rfl) (by omega) (by omega)
  have hb : Below N w w' := ((Below.refl N w).alloc hN _).grown hg (by simp; omega) fun k hk => (h.tw k hk).2
  refine ⟨_, w', hr, ⟨tagN tg w.heap.size 1, by simpa using hw', (h.wo.alloc _).kept hg fun k hk e => ?_, (h.wr.alloc _).kept hg fun k hk e => ?_, fun k hk => ?_, fun k hk => ?_, fun k hk => ?_⟩, hb⟩
  · have h1 := (h.tjo k hk).1; have h2 := (h.tw k e).1; omega
  · have h1 := (h.tr k hk).1; have h2 := (h.tw k e).1; omega
  · simp only [Value.ownBlock, Option.some.injEq] at hk
    subst hk
    unfold tagN
    rcases hl with hl | hl
    · rw [if_pos (h.ww.blk_lt hl)]; exact h.tw _ hl
    · rw [if_neg (by rw [hl]; simp)]; exact ⟨rfl, by rw [hl]; simp; omega⟩
  · unfold tagN; rw [if_pos (h.wo.blk_lt hk)]; exact h.tjo k hk
  · unfold tagN; rw [if_pos (h.wr.blk_lt hk)]; exact h.tr k hk
theorem RS.pushO (h : RS N tg w wv W ov J rv xs) (hN : N ≤ w.heap.size) (j : Jb) (hm : J.length ≤ 1000000) :
    ∃ v' w', (Builtin.append_ #[54, 54] 54 #[ov, .slice (some ⟨w.heap.size, 0, none⟩) 1 1]).run Try.prog (w.alloc (.cells #[.int .i64 j.tk, .int .i64 j.rel, .int .i64 j.st, .int .i64 j.en, .int .i64 j.bl] 58)) = .ok v' w' ∧
      (∃ tg', RS N tg' w' wv W v' (J ++ [j]) rv xs) ∧ Below N w w' := by
  obtain ⟨g, o, c, w', hr, hw', hg, hl, hlt⟩ := Win.push (P := Try.prog) (t := 54) (ty := 54) Try.underlying54 info_rjob (by simp [Value.cells]) (by decide)
    (h.wo.alloc (.cells #[.int .i64 j.tk, .int .i64 j.rel, .int .i64 j.st, .int .i64 j.en, .int .i64 j.bl] 58)) ⟨w.heap.size, 0, none⟩ 1 (encJ j) rfl (fun k u hk => World.news_of_block (Go.Deep.blk_alloc_new _ _) k u hk) (fun u hu => by
      simp only [encJ, List.mem_cons, List.not_mem_nil, or_false] at hu
      rcases hu with rfl | rfl | rfl | rfl | rfl <;> rfl) (by omega) (by omega)
  have hb : Below N w w' := ((Below.refl N w).alloc hN _).grown hg (by simp; omega) fun k hk => (h.tjo k hk).2
  refine ⟨_, w', hr, ⟨tagN tg w.heap.size 2, (h.ww.alloc _).kept hg fun k hk e => ?_, by simpa using hw', (h.wr.alloc _).kept hg fun k hk e => ?_, fun k hk => ?_, fun k hk => ?_, fun k hk => ?_⟩, hb⟩
  · have h1 := (h.tw k hk).1; have h2 := (h.tjo k e).1; omega
  · have h1 := (h.tr k hk).1; have h2 := (h.tjo k e).1; omega
  · unfold tagN; rw [if_pos (h.ww.blk_lt hk)]; exact h.tw k hk
  · simp only [Value.ownBlock, Option.some.injEq] at hk
    subst hk
    unfold tagN
    rcases hl with hl | hl
    · rw [if_pos (h.wo.blk_lt hl)]; exact h.tjo _ hl
    · rw [if_neg (by rw [hl]; simp)]; exact ⟨rfl, by rw [hl]; simp; omega⟩
  · unfold tagN; rw [if_pos (h.wr.blk_lt hk)]; exact h.tr k hk
theorem RS.pushR (h : RS N tg w wv W ov J rv xs) (hN : N ≤ w.heap.size) (x : Int) (hm : xs.length ≤ 1000000) :
    ∃ v' w', (Builtin.append_ #[35, 35] 35 #[rv, .slice (some ⟨w.heap.size, 0, none⟩) 1 1]).run Try.prog (w.alloc (.cells #[.int .i64 x] 3)) = .ok v' w' ∧
      (∃ tg', RS N tg' w' wv W ov J v' (xs ++ [.int .i64 x])) ∧ Below N w w' := by
  obtain ⟨g, o, c, w', hr, hw', hg, hl, hlt⟩ := Win.push (P := Try.prog) (t := 35) (ty := 35) Try.underlying35 info_int (by simp [Value.cells]) (by decide)
    (h.wr.alloc (.cells #[.int .i64 x] 3)) ⟨w.heap.size, 0, none⟩ 1 [.int .i64 x] rfl (fun k u hk => World.news_of_block (Go.Deep.blk_alloc_new _ _) k u hk) (fun u hu => by
      simp only [List.mem_cons, List.not_mem_nil, or_false] at hu
      rcases hu with rfl <;> rfl) (by omega) (by omega)
  have hb : Below N w w' := ((Below.refl N w).alloc hN _).grown hg (by simp; omega) fun k hk => (h.tr k hk).2
  refine ⟨_, w', hr, ⟨tagN tg w.heap.size 3, (h.ww.alloc _).kept hg fun k hk e => ?_, (h.wo.alloc _).kept hg fun k hk e => ?_, by simpa using hw', fun k hk => ?_, fun k hk => ?_, fun k hk => ?_⟩, hb⟩
  · have h1 := (h.tw k hk).1; have h2 := (h.tr k e).1; omega
  · have h1 := (h.tjo k hk).1; have h2 := (h.tr k e).1; omega
  · unfold tagN; rw [if_pos (h.ww.blk_lt hk)]; exact h.tw k hk
  · unfold tagN; rw [if_pos (h.wo.blk_lt hk)]; exact h.tjo k hk
  · simp only [Value.ownBlock, Option.some.injEq] at hk
    subst hk
    unfold tagN
    rcases hl with hl | hl
    · rw [if_pos (h.wr.blk_lt hl)]; exact h.tr _ hl
    · rw [if_neg (by rw [hl]; simp)]; exact ⟨rfl, by rw [hl]; simp; omega⟩
theorem rat_get {W : List RJ} {i : Nat} (h : i < W.length) : W[i]? = some (rat W i) := by
  unfold rat; rw [List.getD_eq_getElem?_getD, List.getElem?_eq_getElem h]; rfl
/-- One field of a pending job. -/
theorem RS.setW {g o cap n : Nat} (h : RS N tg w (.slice (some ⟨g, o, none⟩) n cap) W ov J rv xs) {b f : Nat} (hb : b < W.length) (hf : f < 6) {a : RJ} {u : Value} (he : encR a = (encR (rat W b)).set f u) :
    RS N tg (w.setCell ⟨g, o + b * 6 + f, none⟩ u) (.slice (some ⟨g, o, none⟩) n cap) (W.set b a) ov J rv xs := by
  have hn : n = W.length := by
    rcases h.ww.2 with ⟨h0, _⟩ | ⟨_, _, _, _, e, _⟩
    · simp at h0
    · injection e
  subst hn
  have ht := h.tw g rfl
  have e2 := flat_set (u := u) encR_len (b := a) (rat_get hb) hf he
  have h3 := h.ww.set (b * 6 + f) u
  rw [e2, ← Nat.add_assoc] at h3
  refine ⟨by rw [List.length_set]; exact h3, h.wo.setOther (fun k hk e => ?_) _, h.wr.setOther (fun k hk e => ?_) _, h.tw, h.tjo, h.tr⟩
  · have h1 := (h.tjo k hk).1; rw [show k = g from e] at h1; omega
  · have h1 := (h.tr k hk).1; rw [show k = g from e] at h1; omega
theorem RS.cells {g o cap n : Nat} (h : RS N tg w (.slice (some ⟨g, o, none⟩) n cap) W ov J rv xs) {i : Nat} (hi : i < W.length) :
    w.cell? ⟨g, o + i * 6, none⟩ = some (.int .i64 (rat W i).tk) ∧ w.cell? ⟨g, o + i * 6 + 1, none⟩ = some (.int .i64 (rat W i).rel) ∧ w.cell? ⟨g, o + i * 6 + 2, none⟩ = some (.int .i64 (rat W i).st) ∧
    w.cell? ⟨g, o + i * 6 + 3, none⟩ = some (.int .i64 (rat W i).en) ∧ w.cell? ⟨g, o + i * 6 + 4, none⟩ = some (.int .i64 (rat W i).bl) ∧ w.cell? ⟨g, o + i * 6 + 5, none⟩ = some (.int .i64 (rat W i).dn) ∧ (∀ j, w.frozen? ⟨g, j, none⟩ = false) ∧ g < w.heap.size := by
  have hn : n = W.length := by
    rcases h.ww.2 with ⟨h0, _⟩ | ⟨_, _, _, _, e, _⟩
    · simp at h0
    · injection e
  subst hn
  have k : ∀ x u, x < 6 → (encR (rat W i))[x]? = some u → w.cell? ⟨g, o + i * 6 + x, none⟩ = some u := fun x u hx hu => by
    rw [Nat.add_assoc]
    exact h.ww.cell ((flat_get encR_len (rat_get hi) hx).trans hu)
  exact ⟨k 0 _ (by omega) rfl, k 1 _ (by omega) rfl, k 2 _ (by omega) rfl, k 3 _ (by omega) rfl, k 4 _ (by omega) rfl, k 5 _ (by omega) rfl, fun j => h.ww.frozen j, h.ww.blk_lt rfl⟩
theorem RS.form (h : RS N tg w wv W ov J rv xs) (hi : 0 < W.length) : ∃ g o cap, wv = .slice (some ⟨g, o, none⟩) W.length cap ∧ W.length ≤ cap ∧ cap ≤ 9223372036854775807 := by
  obtain ⟨g, o, cap, e, _, h1, h2⟩ := h.ww.form hi
  exact ⟨g, o, cap, e, h1, h2⟩
end
/-! ### Bounds, and a step by its parts -/
def rbd (k : Int) (a : RJ) : Prop := 0 ≤ a.dn ∧ a.dn ≤ k ∧ 0 ≤ a.bl ∧ a.bl ≤ k
theorem blkUp_bd {now k : Int} {t : Nat} {a : RJ} (h : rbd k a) : rbd (k + 1) (blkUp now t a) := by
  obtain ⟨h1, h2, h3, h4⟩ := h
  unfold blkUp
  split
  · exact ⟨h1, by show a.dn ≤ k + 1; omega, by show 0 ≤ a.bl + 1; omega, by show a.bl + 1 ≤ k + 1; omega⟩
  · exact ⟨h1, by omega, h3, by omega⟩
theorem rstep_bd {E : Env} {now k : Int} {x : List RJ × List Jb} (h : ∀ a ∈ x.1, rbd k a) : ∀ a ∈ (rstep E now x).1, rbd (k + 1) a := by
  intro a ha
  unfold rstep at ha
  split at ha
  · have := h a ha; unfold rbd at *; omega
  · rename_i b hb
    have hm : ∀ a ∈ x.1.map (blkUp now (rat x.1 b).tk), rbd (k + 1) a := fun a ha => by
      obtain ⟨a0, h1, rfl⟩ := List.mem_map.1 ha
      exact blkUp_bd (h a0 h1)
    have hlt := (rbestK_lt hb).1
    have hr : rbd (k + 1) (runUp now (rat (x.1.map (blkUp now (rat x.1 b).tk)) b)) := by
      rw [rat_map' _ hlt]
      have h0 := h _ (List.mem_of_getElem? (rat_get hlt))
      have h1 := blkUp_bd (now := now) (t := (rat x.1 b).tk) h0
      have h2 := (blkUp_tk (now := now) (rat x.1 b).tk (rat x.1 b)).2.2.2.2
      unfold runUp rbd at *
      simp only at *
      omega
    simp only at ha
    split at ha
    · rcases List.mem_or_eq_of_mem_set ha with ha | rfl
      · exact hm a ha
      · exact hr
    · rcases List.mem_or_eq_of_mem_set ha with ha | rfl
      · exact hm a ha
      · exact hr
theorem rel0_bd (E : Env) : ∀ (n : Nat), ∀ a ∈ rel0 E n, rbd 0 a
  | 0, a, h => by simp [rel0] at h
  | n + 1, a, h => by
    rw [rel0] at h
    rcases List.mem_append.1 h with h | h
    · exact rel0_bd E n a h
    · obtain ⟨x, _, rfl⟩ := List.mem_map.1 h
      exact ⟨Int.le_refl _, Int.le_refl _, Int.le_refl _, Int.le_refl _⟩
theorem rrun_bd (E : Env) (n : Nat) : ∀ k : Nat, ∀ a ∈ (rrun E (rel0 E n) k).1, rbd k a
  | 0 => rel0_bd E n
  | k + 1 => by
    have h := rstep_bd (E := E) (now := k) (rrun_bd E n k)
    rw [rrun]
    rw [Int.natCast_add]
    exact h
/-- The first i jobs have been told that they wait. -/
def blkPart (now : Int) (t : Nat) (W : List RJ) (i : Nat) : List RJ := (W.take i).map (blkUp now t) ++ W.drop i
theorem blkPart_zero (now : Int) (t : Nat) (W : List RJ) : blkPart now t W 0 = W := by simp [blkPart]
theorem blkPart_len (now : Int) (t : Nat) (W : List RJ) (i : Nat) : (blkPart now t W i).length = W.length := by
  unfold blkPart
  rw [List.length_append, List.length_map, ← List.length_append, List.take_append_drop]
theorem blkPart_all (now : Int) (t : Nat) (W : List RJ) : blkPart now t W W.length = W.map (blkUp now t) := by simp [blkPart]
theorem blkPart_at {now : Int} {t : Nat} {W : List RJ} {i : Nat} (hi : i < W.length) : rat (blkPart now t W i) i = rat W i := by
  unfold blkPart rat
  rw [List.getD_eq_getElem?_getD, List.getD_eq_getElem?_getD, List.getElem?_append_right (by simp; omega), List.length_map, List.length_take, Nat.min_eq_left (by omega), Nat.sub_self, List.getElem?_drop, Nat.add_zero]
theorem blkPart_step {now : Int} {t : Nat} {W : List RJ} {i : Nat} (hi : i < W.length) : (blkPart now t W i).set i (blkUp now t (rat W i)) = blkPart now t W (i + 1) := by
  unfold blkPart
  have h1 : ((W.take i).map (blkUp now t)).length = i := by simp; omega
  rw [List.set_append, if_neg (by rw [h1]; omega), h1, Nat.sub_self, List.drop_eq_getElem_cons hi, List.set_cons_zero, List.take_succ_eq_append_getElem hi, List.map_append]
  have h2 : rat W i = W[i] := by unfold rat; rw [List.getD_eq_getElem?_getD, List.getElem?_eq_getElem hi]; rfl
  simp [h2]
theorem blkPart_skip {now : Int} {t : Nat} {W : List RJ} {i : Nat} (hi : i < W.length) (h : ¬ (rdy now (rat W i) = true ∧ (rat W i).tk < t)) : blkPart now t W i = blkPart now t W (i + 1) := by
  rw [← blkPart_step hi, blkUp_same h]
  apply List.ext_getElem?
  intro j
  rw [List.getElem?_set]
  split
  · rename_i e
    subst e
    rw [if_pos (by rw [blkPart_len]; exact hi), rat_get (by rw [blkPart_len]; exact hi), blkPart_at hi]
  · rfl
end Go.Proofs.Ytkedcnemldjbeaa
