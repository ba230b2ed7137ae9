/- The walk over the law's releases. Conditions: a small valid list lies in memory. -/
import Derived.Test.YtkedcnemldjbeaaSwI
import Derived.Test.YtkedcnemldjbeaaTkValid
import Derived.Test.YtkedcnemldjbeaaCopy44
import Derived.Test.YtkedcnemldjbeaaRespPlain
import Derived.Outline
import Derived.Deep.DeepCutAuto
namespace Go.Proofs.Ytkedcnemldjbeaa
open Go.RowKit

def BytesAt (w : World) (N : Nat) (a : Option Addr) (xs : List Int) : Prop :=
  xs ≠ [] → ∃ b off, a = some ⟨b, off, none⟩ ∧ b < N ∧ ∀ i x, xs[i]? = some x → w.cell? ⟨b, off + i, none⟩ = some (.int .u8 x)
theorem BytesAt.keep {w w' : World} {N : Nat} {a : Option Addr} {xs : List Int} (h : BytesAt w N a xs) (hb : Below N w w') : BytesAt w' N a xs := fun hne => by
  obtain ⟨b, off, e, hlt, hc⟩ := h hne
  exact ⟨b, off, e, hlt, fun i x hi => keep_cellN hb hlt (hc i x hi)⟩
theorem BytesAt.more {w : World} {N N' : Nat} {a : Option Addr} {xs : List Int} (h : BytesAt w N a xs) (hN : N ≤ N') : BytesAt w N' a xs := fun hne => by
  obtain ⟨b, off, e, hlt, hc⟩ := h hne
  exact ⟨b, off, e, by omega, hc⟩
theorem BytesAt.on {w w' : World} {N : Nat} {a : Option Addr} {xs : List Int} (h : BytesAt w N a xs) (hb : Below N w w') (hN : N ≤ w'.heap.size) : BytesAt w' w'.heap.size a xs := (h.keep hb).more hN
def FitB (r : List Int) : Prop := ∀ x ∈ r, 0 ≤ x ∧ x ≤ 255
def addD (dl : List Int) (j : Nat) : Int := if dl.length = 0 then 0 else dl.getD (j % dl.length) 0 % 8
def relNx (P : Int) (dl : List Int) (i k : Nat) (x : Int) : Int := x + P + addD dl (i * 7 + k)
def relGo (P : Int) (dl : List Int) (i : Nat) : Nat → Nat → Int → List Int
  | 0, _, _ => []
  | f + 1, k, x => if x < 400 then x :: relGo P dl i f (k + 1) (relNx P dl i k x) else []
def offAt (os : List Int) (i : Nat) : Int := if i < os.length then os.getD i 0 else 0
def relR (l : List CT) (os dl : List Int) (i : Nat) : List Int := relGo (ctAt l i).p dl i 12 0 (offAt os i)
def relsOf (l : List CT) (os dl : List Int) : List (List Int) := rowsI l.length (relR l os dl)
theorem addD_bd (dl : List Int) (j : Nat) : 0 ≤ addD dl j ∧ addD dl j ≤ 7 := by
  unfold addD
  split <;> omega
theorem relGo_len (P : Int) (dl : List Int) (i : Nat) : ∀ (f k : Nat) (x : Int), (relGo P dl i f k x).length ≤ f
  | 0, _, _ => by simp [relGo]
  | f + 1, k, x => by
    rw [relGo]
    split
    · have := relGo_len P dl i f (k + 1) (relNx P dl i k x)
      simp; omega
    · simp
theorem relGo_ok {P : Int} (hP : 1 ≤ P) (dl : List Int) (i : Nat) : ∀ (f k : Nat) (x : Int), 0 ≤ x → (∀ y ∈ relGo P dl i f k x, x ≤ y ∧ y < 400) ∧ ∀ j a b, (relGo P dl i f k x)[j]? = some a → (relGo P dl i f k x)[j + 1]? = some b → a + P ≤ b
  | 0, _, _, _ => ⟨fun y h => by simp [relGo] at h, fun j a b h => by simp [relGo] at h⟩
  | f + 1, k, x, h0 => by
    rw [relGo]
    split
    · have hb := addD_bd dl (i * 7 + k)
      have hx : x + P ≤ relNx P dl i k x := by unfold relNx; omega
      obtain ⟨h1, h2⟩ := relGo_ok hP dl i f (k + 1) (relNx P dl i k x) (by omega)
      refine ⟨fun y hy => ?_, fun j a b ha hb' => ?_⟩
      · rcases List.mem_cons.1 hy with rfl | hy
        · omega
        · have := h1 y hy; omega
      · cases j with
        | zero =>
          simp at ha hb'
          subst ha
          have := h1 b (List.mem_of_getElem? hb')
          omega
        | succ j =>
          simp at ha hb'
          exact h2 j a b ha hb'
    · exact ⟨fun y h => (by cases h), fun j a b h => (by simp at h)⟩
theorem offAt_bd {os : List Int} (h : FitB os) (i : Nat) : 0 ≤ offAt os i ∧ offAt os i ≤ 255 := by
  unfold offAt
  split
  · rename_i hi; exact h _ (List.mem_of_getElem? (getD_get hi))
  · omega
theorem relGo_yes {P : Int} {dl : List Int} {i f k : Nat} {x : Int} (h : x < 400) : relGo P dl i (f + 1) k x = x :: relGo P dl i f (k + 1) (relNx P dl i k x) := by rw [relGo, if_pos h]
theorem relGo_no {P : Int} {dl : List Int} {i f k : Nat} {x : Int} (h : ¬ x < 400) : relGo P dl i f k x = [] := by
  cases f with
  | zero => rfl
  | succ f => rw [relGo, if_neg h]
def rowP (R : Nat → List Int) (i : Nat) (D : List Int) : Nat → List Int := fun s => if s < i then R s else if s = i then D else []
theorem rowP_set {R : Nat → List Int} {i : Nat} {D : List Int} {x : Int} : updI (rowP R i D) i (rowP R i D i ++ [x]) = rowP R i (D ++ [x]) := by
  funext s
  unfold updI rowP
  by_cases e : s = i
  · subst e; simp
  · simp [e]
theorem rowP_next {R : Nat → List Int} {i : Nat} {D : List Int} (h : R i = D) : rowP R i D = rowP R (i + 1) [] := by
  funext s
  unfold rowP
  by_cases e : s < i
  · rw [if_pos e, if_pos (by omega)]
  · by_cases e2 : s = i
    · subst e2; rw [if_neg e, if_pos rfl, if_pos (by omega), h]
    · rw [if_neg e, if_neg e2, if_neg (by omega)]; split <;> rfl
theorem rowP_zero (R : Nat → List Int) : rowP R 0 [] = fun _ => [] := by
  funext s; unfold rowP; rw [if_neg (by omega)]; split <;> rfl

set_option maxRecDepth 100000 in
set_option maxHeartbeats 6400000 in
theorem releases_any (l : List CT) (a : Option Addr) (cap : Nat) (os : List Int) (oa : Option Addr) (oc : Nat) (dl : List Int) (da : Option Addr) (dc : Nat) (w : World) (hv : validL l = true) (hos : FitB os) (hdl : FitB dl) (hol : os.length ≤ 9223372036854775807) (hdll : dl.length ≤ 1000)
    (hc : TasksAt w w.heap.size a l) (ho : BytesAt w w.heap.size oa os) (hd : BytesAt w w.heap.size da dl) :
    Calls Try.prog 43 #[.slice a l.length cap, .slice oa os.length oc, .slice da dl.length dc] w fun e w' => ∃ G, e = .returned (.slice (some ⟨G, 0, none⟩) l.length l.length) ∧ RowsAt w' w'.heap.size (some ⟨G, 0, none⟩) (relsOf l os dl) ∧ Below w.heap.size w w' := by
  obtain ⟨h20, hok⟩ := validL_bd hv
  have HOK := Lib.hid hok
  have HOS := Lib.hid hos
  have HDL := Lib.hid hdl
  have hlI : (l.length : Int) ≤ 20 := by omega
  have hoI : (os.length : Int) ≤ 9223372036854775807 := by omega
  have hdI : (dl.length : Int) ≤ 1000 := by omega
  obtain ⟨i0, hi0, hz0, hz1, hz2⟩ := info_parts info_introw
  have hmk := run_make (P := Try.prog) w 49 35 i0 _ Try.underlying49 hi0 hz0 .i64 .i64 l.length l.length (by omega) (by omega) (by rw [hz2]; omega) (by omega)
  simp only [Int.toNat_natCast, hz1, Value.cells, Nat.mul_one] at hmk
  clear hi0 hz0 hz1 hz2 hok hos hdl hv
  go_enter Try.func43, Try.ntmps43
  go_upto_region 2 with fail
  clear hmk
  have HSI := SI.made (N := w.heap.size) w l.length (Nat.le_refl _)
  have b1 : Below w.heap.size w (w.alloc (.cells (madeCells #[.slice none 0 0] l.length) 35)) := (Below.refl _ _).alloc (Nat.le_refl _) _
  rw [← rowP_zero (relR l os dl)] at HSI
  have HSI := Lib.hid HSI
  generalize w.alloc (.cells (madeCells #[.slice none 0 0] l.length) 35) = w1 at *
  generalize hG : w.heap.size = G at *
  have HG := Lib.hid hG
  clear hG
  go_wp2_with fail
  go_loopw [17] (fun u wr => ∃ (i : Nat) (tg : Nat → Nat) (V : Nat → Value), u = .int .i64 i ∧ i ≤ l.length ∧ Hid (SI G G l.length wr tg V (rowP (relR l os dl) i [])) ∧ Below G w wr) (fun u _ => l.length - (intOf u).toNat)
  case atStart => exact ⟨0, _, _, rfl, by omega, HSI.out, b1⟩
  case round =>
    obtain ⟨i, tg, V, rfl, hi, hsi, hbl⟩ := hrel
    clear HSI b1
    by_cases hlt : i < l.length
    · have k0 : (0 : Int) ≤ (i : Int) := by omega
      have k1 : (i : Int) < (l.length : Int) := by omega
      have hGw := hsi.out.out.lt
      obtain ⟨b, off, rfl, hbN, hcell⟩ := hc (by intro e; simp [e] at hlt)
      obtain ⟨c0, c1, c2, sa, sc, c3, hsl, hss⟩ := hcell i _ (ctAt_get hlt)
      have c0 := keep_cellN hbl hbN c0
      have c1 := keep_cellN hbl hbN c1
      have c2 := keep_cellN hbl hbN c2
      have c3 := keep_cellN hbl hbN c3
      have hbr : b < wr.heap.size := by omega
      have htb := (okT_bd (HOK.out _ (ctAt_mem hlt))).1
      have hp1 := htb.2.2.1
      have hp2 := htb.2.2.2.1
      have HRR := Lib.hid (show relR l os dl i = relGo (ctAt l i).p dl i 12 0 (offAt os i) from rfl)
      obtain ⟨of0, of1⟩ := offAt_bd HOS.out i
      have HOF := Lib.hid (fun (h : i < os.length) => show offAt os i = os.getD i 0 from if_pos h)
      have HOF2 := Lib.hid (fun (h : ¬ i < os.length) => show offAt os i = 0 from if_neg h)
      clear hcell hss htb
      have HM := Lib.hid (hsi.out.mark (.cells #[.int .i64 (ctAt l i).c, .int .i64 (ctAt l i).p, .int .i64 (ctAt l i).d, .slice sa (ctAt l i).ss.length sc] 30))
      have jcl := Go.Deep.blk_alloc_new wr (.cells #[.int .i64 (ctAt l i).c, .int .i64 (ctAt l i).p, .int .i64 (ctAt l i).d, .slice sa (ctAt l i).ss.length sc] 30)
      have bj := hbl.alloc (Nat.le_of_lt hGw) (.cells #[.int .i64 (ctAt l i).c, .int .i64 (ctAt l i).p, .int .i64 (ctAt l i).d, .slice sa (ctAt l i).ss.length sc] 30)
      have hsj : wr.heap.size < (wr.alloc (.cells #[.int .i64 (ctAt l i).c, .int .i64 (ctAt l i).p, .int .i64 (ctAt l i).d, .slice sa (ctAt l i).ss.length sc] 30)).heap.size := by simp
      generalize ctAt l i = t at *
      clear hsi hbl
      go_upto_region 6 with fail
      clear c0 c1 c2 c3
      generalize wr.alloc (.cells #[.int .i64 t.c, .int .i64 t.p, .int .i64 t.d, .slice sa t.ss.length sc] 30) = wj at *
      generalize wr.heap.size = X at *
      obtain ⟨tg1, htg1⟩ : ∃ tg1 : Nat → Nat, tg1 = fun g => if g = X then l.length + 1 else tg g := ⟨_, rfl⟩
      have htX : tg1 X = l.length + 1 := by rw [htg1]; simp
      rw [← htg1] at HM
      clear htg1
      have HJC := Lib.hid jcl
      clear jcl
      go_upto_if 25 with fail
      go_cut [10] (fun u wx => u = .int .i64 (offAt os i) ∧ wx = wj)
      case first =>
        by_cases hio : i < os.length
        · have hio' : (i : Int) < (os.length : Int) := by omega
          obtain ⟨ob, oo, rfl, hoN, hoc⟩ := ho (by intro e; rw [e] at hio; simp at hio)
          have x0 := keep_cellN bj hoN (hoc i _ (getD_get hio))
          have how : ob < wj.heap.size := by omega
          have HO := Lib.hid (HOF.out hio)
          obtain ⟨ov0, ov1⟩ := HOS.out _ (List.mem_of_getElem? (getD_get hio))
          clear hoc HOF HOF2
          generalize os.getD i 0 = ov at *
          have wv : wrap64 ov = ov := IntWalk.wrap64_in _ (by omega)
          have wv2 : IntKind.i64.wrap ov = ov := IntWalk.i64_in _ (by omega)
          go_wp2_with fail
          go_meet
          case rel => exact ⟨by rw [HO.out], rfl⟩
        · have hio' : ¬ (i : Int) < (os.length : Int) := by omega
          have HO := Lib.hid (HOF2.out hio)
          clear HOF HOF2
          go_wp2_with fail
          go_meet
          case rel => exact ⟨by rw [HO.out], rfl⟩
      case rest =>
        obtain ⟨rfl, rfl⟩ := hcut
        clear HOF HOF2
        generalize offAt os i = x0 at *
        go_wp2_with fail
        go_loopw [11, 10] (fun u v wr => ∃ (k : Nat) (x : Int) (D : List Int) (tg : Nat → Nat) (V : Nat → Value), u = .int .i64 k ∧ v = .int .i64 x ∧ k ≤ 12 ∧ 0 ≤ x ∧ x ≤ 1500 ∧ D.length = k ∧ Hid (relR l os dl i = D ++ relGo t.p dl i (12 - k) k x) ∧ Hid (SI G G l.length wr tg V (rowP (relR l os dl) i D)) ∧ tg X = l.length + 1 ∧ Hid (wr.heap[X]? = some (.cells #[.int .i64 t.c, .int .i64 t.p, .int .i64 t.d, .slice sa t.ss.length sc] 30 (0, 0))) ∧ Below G w wr) (fun u _ _ => 12 - (intOf u).toNat)
        case atStart => exact ⟨0, x0, [], tg1, V, rfl, rfl, by omega, of0, by omega, rfl, by rw [HRR.out]; rfl, HM.out, htX, HJC.out, bj⟩
        case round =>
          obtain ⟨k, x, D, tg2, V, rfl, rfl, hk, hx0, hx1, hD, hrel2, hsi, htX2, hjc, hbl⟩ := hrel
          clear HM HJC bj htX
          have hbs := hbl.size
          have hXw : X < wr.heap.size := row_lt hjc.out
          have g1 := row_cell hjc.out (j := 1) rfl
          simp only [List.getElem_toArray, List.getElem_cons_succ, List.getElem_cons_zero] at g1
          by_cases hgo : k < 12 ∧ x < 400
          · obtain ⟨hk12, hx4⟩ := hgo
            have hk0 : (0 : Int) ≤ (k : Int) := by omega
            have hkI : (k : Int) < 12 := by omega
            have HR2 := Lib.hid (show relR l os dl i = (D ++ [x]) ++ relGo t.p dl i (12 - (k + 1)) (k + 1) (relNx t.p dl i k x) from by
              rw [hrel2.out, show 12 - k = (12 - (k + 1)) + 1 by omega, relGo_yes hx4, List.append_assoc]; rfl)
            have gl := hsi.out.out.cell hlt
            have gf := hsi.out.out.frozen i
            have hrl : rowP (relR l os dl) i D i = D := by unfold rowP; rw [if_neg (by omega), if_pos rfl]
            obtain ⟨v', w', hrun, hb', hbG, hbX, tg', hsi', htg'⟩ := hsi.out.push hlt x (by rw [hrl]; omega)
            have hform := (hsi'.win i hlt).form0
            simp only [updI, if_true] at hform
            obtain ⟨va, vc, hve, _, _⟩ := hform
            generalize (rowP (relR l os dl) i D i ++ [x]).length = vn at hve
            subst hve
            rw [rowP_set] at hsi'
            have HS' := Lib.hid hsi'
            have gl' : w'.cell? ⟨G, i, none⟩ = some (V i) := (World.cell?_of_block (w := wr) (a := ⟨G, i, none⟩) hbG).trans gl
            have gf' : w'.frozen? ⟨G, i, none⟩ = false := (World.frozen?_of_block (w := wr) (a := ⟨G, i, none⟩) hbG).trans gf
            have hGw := hsi.out.out.lt
            have hGX : X ≠ G := by
              intro e
              rw [e, hsi.out.tG] at htX2
              omega
            have HJ2 := Lib.hid ((Below.heap_setCell w' ⟨G, i, none⟩ (.slice va vn vc) X hGX).trans ((hbX X hXw htX2).trans hjc.out))
            have htX' : tg' X = l.length + 1 := (htg' X hXw).trans htX2
            have b' := (hbl.trans hb').setCell (p := ⟨G, i, none⟩) (Nat.le_refl _) (.slice va vn vc)
            have sG' : G < w'.heap.size := by have := hb'.size; omega
            have HNX := Lib.hid (show relNx t.p dl i k x = x + t.p + addD dl (i * 7 + k) from rfl)
            obtain ⟨ad0, ad1⟩ := addD_bd dl (i * 7 + k)
            clear hsi hsi' hb' hbl hbG hbX htg' hjc hrel2 g1 hrl htX2
            generalize V i = vs at *
            go_upto_region 12 with (at_builtin; refine wpList_append_by rfl (.tmp 44) (.tmp 46) 35 rfl vs (.slice (some ⟨wr.heap.size, 0, none⟩) 1 1) _ w' rfl rfl hrun ?_)
            clear gl gf gl' gf' hrun hXw hGw
            generalize w'.setCell ⟨G, i, none⟩ (.slice va vn vc) = w9 at *
            have hXw : X < w9.heap.size := row_lt HJ2.out
            have g1 := row_cell HJ2.out (j := 1) rfl
            simp only [List.getElem_toArray, List.getElem_cons_succ, List.getElem_cons_zero] at g1
            by_cases hd0 : dl.length = 0
            · have hd0' : ¬ (0 : Int) < (dl.length : Int) := by omega
              have HA := Lib.hid (show relNx t.p dl i k x = x + t.p from by rw [HNX.out]; unfold addD; rw [if_pos hd0]; omega)
              clear HNX
              go_wp2_with fail
              go_roundw
              case rel => exact ⟨k + 1, x + t.p, D ++ [x], tg', _, by go_num, rfl, by omega, by omega, by omega, by rw [List.length_append, hD]; rfl, by rw [← HA.out]; exact HR2.out, HS'.out, htX', HJ2.out, b'⟩
              case measure => simp [intOf]; omega
            · have hd0' : (0 : Int) < (dl.length : Int) := by omega
              have hj : (i * 7 + k) % dl.length < dl.length := Nat.mod_lt _ (by omega)
              obtain ⟨db, dof, rfl, hdN, hdc⟩ := hd (by intro e; rw [e] at hd0; simp at hd0)
              have y0 := keep_cellN b' hdN (hdc _ _ (getD_get hj))
              have hdw : db < w9.heap.size := by have := b'.size; omega
              obtain ⟨y1, y2⟩ := HDL.out _ (List.mem_of_getElem? (getD_get hj))
              have HA := Lib.hid (show relNx t.p dl i k x = x + t.p + dl.getD ((i * 7 + k) % dl.length) 0 % 8 from by rw [HNX.out]; unfold addD; rw [if_neg hd0])
              have hne0 : ¬ (dl.length : Int) = 0 := by omega
              have hjI : ((i : Int) * 7 + (k : Int)) % (dl.length : Int) = (((i * 7 + k) % dl.length : Nat) : Int) := by simp
              have hjI2 : (((i * 7 + k) % dl.length : Nat) : Int) < (dl.length : Int) := by omega
              have hjI0 : (0 : Int) ≤ (((i * 7 + k) % dl.length : Nat) : Int) := by omega
              have hadn : addD dl (i * 7 + k) = dl.getD ((i * 7 + k) % dl.length) 0 % 8 := by unfold addD; rw [if_neg hd0]
              rw [hadn] at ad0 ad1
              clear HNX hdc hadn hd0
              generalize dl.getD ((i * 7 + k) % dl.length) 0 = dv at *
              generalize (i * 7 + k) % dl.length = jj at *
              have wd : wrap64 dv = dv := IntWalk.wrap64_in _ (by omega)
              go_wp2_with fail
              go_roundw
              case rel => exact ⟨k + 1, x + t.p + dv % 8, D ++ [x], tg', _, by go_num, rfl, by omega, by omega, by omega, by rw [List.length_append, hD]; rfl, by rw [← HA.out]; exact HR2.out, HS'.out, htX', HJ2.out, b'⟩
              case measure => simp [intOf]; omega
          · have HE := Lib.hid (show relR l os dl i = D from by
              rw [hrel2.out]
              by_cases hk12 : k < 12
              · rw [relGo_no (by omega), List.append_nil]
              · rw [show 12 - k = 0 by omega]
                exact List.append_nil _)
            have HS' := hsi.out
            rw [rowP_next HE.out] at HS'
            have HS' := Lib.hid HS'
            clear hsi hrel2 hjc g1
            by_cases hk12 : k < 12
            · have hkI : (k : Int) < 12 := by omega
              have hx4 : ¬ x < 400 := by omega
              go_wp2_with fail
              go_roundw
              case rel => exact ⟨i + 1, _, _, by go_num, by omega, HS'.out, hbl⟩
              case measure => simp [intOf]; omega
            · have hkI : ¬ (k : Int) < 12 := by omega
              go_wp2_with fail
              go_roundw
              case rel => exact ⟨i + 1, _, _, by go_num, by omega, HS'.out, hbl⟩
              case measure => simp [intOf]; omega
    · obtain rfl : i = l.length := by omega
      have HR := Lib.hid hsi.out.rows
      clear hsi
      go_wp2_with fail
      go_ret
      refine ⟨G, rfl, ?_, by rw [HG.out]; exact hbl⟩
      have e : relsOf l os dl = rowsI l.length (rowP (relR l os dl) l.length []) := rowsI_congr fun s hs => by unfold rowP; rw [if_pos hs]
      rw [e]; exact HR.out
end Go.Proofs.Ytkedcnemldjbeaa
