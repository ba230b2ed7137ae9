/- Tasks of a set in memory; the walk over taskset.Valid. Conditions: the tasks lie in memory. -/
import Derived.Test.YtdjpkebajcpfbaaM02
import Derived.Outline
import Derived.Deep.Heap
import Derived.Deep.DeepCutAuto
namespace Go.Proofs.Ytdjpkebajcpfbaa
open Go.RowKit

structure TT where
  nm : ByteArray
  c : Int
  p : Int
def ttAt (l : List TT) (j : Nat) : TT := l.getD j ⟨ByteArray.empty, 0, 0⟩
def TSAt (w : World) (N : Nat) (a : Option Addr) (l : List TT) : Prop :=
  l ≠ [] → ∃ b off, a = some ⟨b, off, none⟩ ∧ b < N ∧ ∀ i t, l[i]? = some t → w.cell? ⟨b, off + i * 3, none⟩ = some (.string t.nm) ∧ w.cell? ⟨b, off + i * 3 + 1, none⟩ = some (.int .i64 t.c) ∧ w.cell? ⟨b, off + i * 3 + 2, none⟩ = some (.int .i64 t.p)
theorem TSAt.keep {w w' : World} {N : Nat} {a : Option Addr} {l : List TT} (h : TSAt w N a l) (hb : Below N w w') : TSAt w' N a l := fun hne => by
  obtain ⟨b, off, e, hlt, hc⟩ := h hne
  refine ⟨b, off, e, hlt, fun i j hj => ?_⟩
  obtain ⟨c0, c1, c2⟩ := hc i j hj
  exact ⟨keep_cellN hb hlt c0, keep_cellN hb hlt c1, keep_cellN hb hlt c2⟩
theorem TSAt.more {w : World} {N N' : Nat} {a : Option Addr} {l : List TT} (h : TSAt w N a l) (hN : N ≤ N') : TSAt w N' a l := fun hne => by
  obtain ⟨b, off, e, hlt, hc⟩ := h hne
  exact ⟨b, off, e, by omega, hc⟩
theorem TSAt.on {w w' : World} {N : Nat} {a : Option Addr} {l : List TT} (h : TSAt w N a l) (hb : Below N w w') (hN : N ≤ w'.heap.size) : TSAt w' w'.heap.size a l := (h.keep hb).more hN
theorem ttAt_get {l : List TT} {i : Nat} (h : i < l.length) : l[i]? = some (ttAt l i) := by
  rw [ttAt, List.getD_eq_getElem?_getD, List.getElem?_eq_getElem h]; rfl
theorem ttAt_mem {l : List TT} {i : Nat} (h : i < l.length) : ttAt l i ∈ l := List.mem_of_getElem? (ttAt_get h)
def ttOK (t : TT) : Prop := 1 ≤ t.c ∧ t.c ≤ t.p ∧ t.p ≤ 1000
instance (t : TT) : Decidable (ttOK t) := by unfold ttOK; infer_instance
def tsOK (l : List TT) : Bool := decide (l.length ≤ 40) && (List.range l.length).all fun i => decide (ttOK (ttAt l i))
theorem tsOK_size {l : List TT} (h : ¬ l.length ≤ 40) : tsOK l = false := by simp only [tsOK, decide_eq_false h, Bool.false_and]
theorem tsOK_no {l : List TT} {i : Nat} (hi : i < l.length) (h : ¬ ttOK (ttAt l i)) : tsOK l = false := by
  unfold tsOK
  rw [Bool.and_eq_false_iff]
  right
  rw [List.all_eq_false]
  exact ⟨i, by simpa using hi, by simp [h]⟩
theorem tsOK_mk {l : List TT} (h : l.length ≤ 40) (hj : ∀ i, i < l.length → ttOK (ttAt l i)) : tsOK l = true := by
  unfold tsOK
  rw [decide_eq_true h, Bool.true_and, List.all_eq_true]
  intro i hi
  exact decide_eq_true (hj i (by simpa using hi))
theorem tsOK_bd {l : List TT} (h : tsOK l = true) : l.length ≤ 40 ∧ ∀ i, i < l.length → ttOK (ttAt l i) := by
  unfold tsOK at h
  rw [Bool.and_eq_true, decide_eq_true_eq, List.all_eq_true] at h
  exact ⟨h.1, fun i hi => of_decide_eq_true (h.2 i (by simpa using hi))⟩
theorem blkT {w : World} {g : Nat} {x y z : Value} {t : TypeId} (h : w.heap[g]? = some (.cells #[x, y, z] t (0, 0))) : w.cell? ⟨g, 0, none⟩ = some x ∧ w.cell? ⟨g, 1, none⟩ = some y ∧ w.cell? ⟨g, 2, none⟩ = some z := by
  simp [World.cell?, h]

set_option maxRecDepth 100000 in
set_option maxHeartbeats 6400000 in
theorem tvalid_any (l : List TT) (a : Option Addr) (cap : Nat) (w : World) (hl : l.length ≤ 9223372036854775807) (hc : TSAt w w.heap.size a l) :
    Calls Try.prog 16 #[.slice a l.length cap] w fun e w' => e = .returned (.bool (tsOK l)) ∧ Below w.heap.size w w' := by
  have hlI : (l.length : Int) ≤ 9223372036854775807 := by omega
  by_cases h1 : l.length ≤ 40
  · have h1' : (l.length : Int) ≤ 40 := by omega
    go_enter Try.func16, Try.ntmps16
    go_wp2_with fail
    go_loopw [10] (fun u wr => ∃ k : Nat, u = .int .i64 k ∧ k ≤ l.length ∧ Hid (∀ i, i < k → ttOK (ttAt l i)) ∧ Below w.heap.size w wr) (fun u _ => l.length - (intOf u).toNat)
    case atStart => exact ⟨0, rfl, by omega, fun i hi => absurd hi (Nat.not_lt_zero _), Below.refl _ _⟩
    case round =>
      obtain ⟨k, rfl, hk, hall, hbl⟩ := hrel
      have hbs := hbl.size
      by_cases hlt : k < l.length
      · have k0 : (0 : Int) ≤ (k : Int) := by omega
        have k1 : (k : Int) < (l.length : Int) := by omega
        obtain ⟨b, off, rfl, hbN, hcell⟩ := hc (by intro e; simp [e] at hlt)
        obtain ⟨c0, c1, c2⟩ := hcell k _ (ttAt_get hlt)
        have c0 := keep_cellN hbl hbN c0
        have c1 := keep_cellN hbl hbN c1
        have c2 := keep_cellN hbl hbN c2
        have hbr : b < wr.heap.size := by omega
        have HNO := Lib.hid (fun h => tsOK_no hlt h)
        have HST := Lib.hid (fun (h : ttOK (ttAt l k)) i (hi : i < k + 1) => show ttOK (ttAt l i) from by
          by_cases e : i = k
          · subst e; exact h
          · exact hall.out i (by omega))
        clear hcell hall
        generalize ttAt l k = j at *
        obtain ⟨jn, jc, jp⟩ := j
        simp only at c0 c1 c2
        have bj := hbl.alloc hbs (.cells #[.string jn, .int .i64 jc, .int .i64 jp] 37)
        have jcl := Go.Deep.blk_alloc_new wr (.cells #[.string jn, .int .i64 jc, .int .i64 jp] 37)
        have hsj : wr.heap.size < (wr.alloc (.cells #[.string jn, .int .i64 jc, .int .i64 jp] 37)).heap.size := by simp
        clear hbl
        go_upto_region 6 with fail
        generalize wr.alloc (.cells #[.string jn, .int .i64 jc, .int .i64 jp] 37) = wj at *
        obtain ⟨g0, g1, g2⟩ := blkT jcl
        clear jcl c0 c1 c2
        by_cases p1 : 1 ≤ jc
        · by_cases p2 : jc ≤ jp
          · by_cases p3 : jp ≤ 1000
            · have HS2 := Lib.hid (HST.out ⟨p1, p2, p3⟩)
              clear HST
              go_wp2_with fail
              go_roundw
              case rel => exact ⟨k + 1, by go_num, by omega, HS2.out, bj⟩
              case measure => simp [intOf]; omega
            · have HN := Lib.hid (HNO.out (fun h => p3 h.2.2))
              clear HST
              go_wp2_with fail
              go_ret
              exact ⟨ret_bool HN.out.symm, bj⟩
          · have HN := Lib.hid (HNO.out (fun h => p2 h.2.1))
            clear HST
            go_wp2_with fail
            go_ret
            exact ⟨ret_bool HN.out.symm, bj⟩
        · have HN := Lib.hid (HNO.out (fun h => p1 h.1))
          clear HST
          go_wp2_with fail
          go_ret
          exact ⟨ret_bool HN.out.symm, bj⟩
      · obtain rfl : k = l.length := by omega
        have HN := Lib.hid (tsOK_mk h1 hall.out)
        clear hall
        go_wp2_with fail
        go_ret
        exact ⟨ret_bool HN.out.symm, hbl⟩
  · have h1' : ¬ (l.length : Int) ≤ 40 := by omega
    have HN := Lib.hid (tsOK_size h1)
    go_enter Try.func16, Try.ntmps16
    go_wp2_with fail
    go_ret
    exact ⟨ret_bool HN.out.symm, Below.refl _ _⟩
end Go.Proofs.Ytdjpkebajcpfbaa
