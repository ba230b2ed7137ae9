/- Several texts in one: The walks over ontimetop's tasks and synchronous. Conditions: the tasks lie in memory. Tasks that are released together are simulated without a miss exactly if the demand fits. Plain Lean. Conditions: each theorem's own. -/
import Derived.Test.YtfoadipocpopiaaGreatTDem
import Derived.Test.YtfoadipocpopiaaGreatM38
import Derived.Test.YtfoadipocpopiaaGreatLoadFit
import Derived.Test.YtfoadipocpopiaaGreatSlQ
import Derived.Test.YtfoadipocpopiaaGreatM16
namespace Go.Proofs.YtfoadipocpopiaaGreat
section
open Go.RowKit Go.Deep
theorem perR_succ (p : Int) (k : Nat) : perR p (k + 1) = perR p k ++ [(k : Int) * p] := by simp [perR, List.range_succ]
theorem perR_len (p : Int) (k : Nat) : (perR p k).length = k := by simp [perR]
theorem perRows_of {l : List TT} {H : Nat} : perRows l H (rowsI l.length fun i => perR (tp l i : Nat) (H / tp l i)) := ⟨rowsI_len _ _, fun i hi => rowsI_at hi⟩
theorem per_small {l : List TT} {H : Nat} (hok : tsOK l = true) (hH : H ≤ 200) : small40 (rowsI l.length fun i => perR (tp l i : Nat) (H / tp l i)) := fun r hr => by
  obtain ⟨i, hi, rfl⟩ := List.mem_map.1 hr
  have hi : i < l.length := by simpa using hi
  obtain ⟨t1, t2, t3, _⟩ := tsOK_at hok hi
  have hq := Nat.div_le_self H (tp l i)
  refine ⟨by rw [perR_len]; omega, fun x hx => ?_⟩
  obtain ⟨k, hk, rfl⟩ := List.mem_map.1 hx
  have hk : k < H / tp l i := by simpa using hk
  have h1 : k * tp l i ≤ 200 * 1000 := Nat.mul_le_mul (by omega) t3
  have h2 : (k : Int) * (tp l i : Nat) = ((k * tp l i : Nat) : Int) := by rw [Int.natCast_mul]
  rw [h2]; omega
/-- What Schedule answers for such jobs. -/
theorem per_sched {l : List TT} {H : Nat} {z : Int} {w w' : World} {e : Ending} (hok : tsOK l = true) (hd : ∀ i, i < l.length → tp l i ∣ H) (hH : 0 < H) (hH2 : H ≤ 200) (h1 : 1 ≤ z) (h4 : z ≤ 4) (hn : (perAll l H l.length).length ≤ 100)
    (h : SchedPost (perAll l H l.length) z w e w') : Below w.heap.size w w' ∧ ∃ a m c, e = .returned (.tuple #[.slice a m c, .bool (decide ((dem l H l.length : Int) ≤ z * H)), .int .i64 0]) := by
  obtain ⟨hb, h⟩ := h
  have hv := per_ok hok hd hH hH2 h1 h4 hn
  refine ⟨hb, ?_⟩
  rcases h with ⟨h, _⟩ | ⟨_, ⟨_, val, r, hs, hne⟩, rfl⟩ | ⟨_, σ, G, hσ, rfl, _⟩
  · rw [hv] at h; cases h
  · refine ⟨none, 0, 0, ?_⟩
    have hno : ¬ ((dem l H l.length : Int) ≤ z * H) := fun hf => by
      obtain ⟨⟨T, T1, T2, T3⟩, _⟩ := hs.cut (by unfold netN; omega) (by unfold netN; omega)
      have c1 := per_cut hok hH hd hf T T1 T2
      have c2 := net_le hs.res
      omega
    rw [decide_eq_false hno]
  · exact ⟨some ⟨G, 0, none⟩, _, _, by rw [decide_eq_true (per_can hd (by omega) ⟨σ, hσ⟩)]⟩
/-- What Schedule answers for too many jobs. -/
theorem many_sched {l : List FJ} {z : Int} {w w' : World} {e : Ending} (hn : ¬ l.length ≤ 100) (h : SchedPost l z w e w') : Below w.heap.size w w' ∧ e = .returned (.tuple #[.slice none 0 0, .bool false, .int .i64 1]) := by
  have hv : jobsOK l z = false := jobsOK_size fun q => hn q.1
  obtain ⟨hb, ⟨_, h⟩ | ⟨h, _⟩ | ⟨h, _⟩⟩ := h
  · exact ⟨hb, h⟩
  · rw [hv] at h; cases h
  · rw [hv] at h; cases h

def tasksB (l : List TT) (z : Int) : Bool := tsOK l && decide (l.length ≤ 6 ∧ 1 ≤ z ∧ z ≤ 4 ∧ ∀ i, i < l.length → tp l i ≤ 24)

set_option maxRecDepth 100000 in
set_option maxHeartbeats 3200000 in
theorem tasks_any (l : List TT) (a : Option Addr) (cap : Nat) (z : Int) (w : World) (hl : l.length ≤ 9223372036854775807) (hc : TSAt w w.heap.size a l) :
    Calls Tryz.prog 5 #[.slice a l.length cap, .int .i64 z] w fun e w' => e = .returned (.bool (tasksB l z)) ∧ Below w.heap.size w w' := by
  have hlI : (l.length : Int) ≤ 9223372036854775807 := by omega
  have TV := Lib.hid (tvalid_any l a cap w hl hc)
  have HC := Lib.hid hc
  clear hc
  go_enter Tryz.func5, Tryz.ntmps5
  go_wp2_with fail
  refine TV.out.mono ?_
  rintro e w1 ⟨rfl, hb1⟩
  clear TV
  by_cases hok : tsOK l = true
  · have HB := Lib.hid (show tasksB l z = decide (l.length ≤ 6 ∧ 1 ≤ z ∧ z ≤ 4 ∧ ∀ i, i < l.length → tp l i ≤ 24) from by unfold tasksB; rw [hok]; rfl)
    have HOK := Lib.hid hok
    rw [hok]
    clear hok
    by_cases h6 : l.length ≤ 6
    · have h6I : ¬ (6 : Int) < (l.length : Int) := by omega
      by_cases z1 : 1 ≤ z
      · have z1I : ¬ z < 1 := by omega
        by_cases z4 : z ≤ 4
        · have z4I : ¬ 4 < z := by omega
          go_wp2_with fail
          go_loopw [5] (fun u wr => ∃ i : Nat, u = .int .i64 i ∧ i ≤ l.length ∧ Hid (∀ k, k < i → tp l k ≤ 24) ∧ Below w.heap.size w wr) (fun u _ => l.length - (intOf u).toNat)
          case atStart => exact ⟨0, rfl, by omega, Lib.hid fun k hk => absurd hk (Nat.not_lt_zero _), hb1⟩
          case round =>
            clear hb1
            obtain ⟨i, rfl, hi, hall, hbl⟩ := hrel
            generalize wr = w2 at *
            by_cases h0 : i < l.length
            · have h0I : (i : Int) < (l.length : Int) := by omega
              obtain ⟨tb, to', rfl, htN, tcell⟩ := HC.out (by intro e; simp [e] at h0)
              obtain ⟨l0, l1, l2⟩ := tcell i _ (ttAt_get h0)
              obtain ⟨t1, t2, t3, t4, t5⟩ := tsOK_at HOK.out h0
              rw [t5] at l2
              have l2 := keep_cellN hbl htN l2
              have htr : tb < w2.heap.size := by have := hbl.size; omega
              have hiE : i + 1 ≤ l.length := h0
              have hiM : l.length - (intOf (.int .i64 ((i : Int) + 1))).toNat < l.length - (intOf (.int .i64 (i : Int))).toNat := by
                show l.length - ((i : Int) + 1).toNat < l.length - ((i : Int)).toNat
                omega
              clear tcell l0 l1 t1 t2 t4 t5
              by_cases h24 : tp l i ≤ 24
              · have h24I : ¬ (24 : Int) < (tp l i : Int) := by omega
                have HALL := Lib.hid (show ∀ k, k < i + 1 → tp l k ≤ 24 from fun k hk => by
                  by_cases e : k = i
                  · rw [e]; exact h24
                  · exact hall.out k (by omega))
                clear hall
                go_wp2_with fail
                go_roundw
                case rel => exact ⟨i + 1, rfl, hiE, HALL, hbl⟩
                case measure => exact hiM
              · have h24I : (24 : Int) < (tp l i : Int) := by omega
                have HF := Lib.hid (show tasksB l z = false from HB.out.trans (decide_eq_false fun q => h24 (q.2.2.2 i h0)))
                clear hall
                go_wp2_with fail
                go_ret
                exact ⟨by rw [HF.out]; rfl, hbl⟩
            · obtain rfl : i = l.length := by omega
              have HT := Lib.hid (show tasksB l z = true from HB.out.trans (decide_eq_true ⟨h6, z1, z4, hall.out⟩))
              clear hall
              go_wp2_with fail
              go_ret
              exact ⟨by rw [HT.out]; rfl, hbl⟩
        · have z4I : 4 < z := by omega
          have HF := Lib.hid (show tasksB l z = false from HB.out.trans (decide_eq_false fun q => z4 q.2.2.1))
          go_wp2_with fail
          go_ret
          exact ⟨by rw [HF.out]; rfl, hb1⟩
      · have z1I : z < 1 := by omega
        have HF := Lib.hid (show tasksB l z = false from HB.out.trans (decide_eq_false fun q => z1 q.2.1))
        go_wp2_with fail
        go_ret
        exact ⟨by rw [HF.out]; rfl, hb1⟩
    · have h6I : (6 : Int) < (l.length : Int) := by omega
      have HF := Lib.hid (show tasksB l z = false from HB.out.trans (decide_eq_false fun q => h6 q.1))
      go_wp2_with fail
      go_ret
      exact ⟨by rw [HF.out]; rfl, hb1⟩
  · have hok : tsOK l = false := by simpa using hok
    have HF := Lib.hid (show tasksB l z = false from by unfold tasksB; rw [hok]; rfl)
    rw [hok]
    go_wp2_with fail
    go_ret
    exact ⟨by rw [HF.out]; rfl, hb1⟩

set_option maxRecDepth 100000 in
set_option maxHeartbeats 6400000 in
theorem sync_any (l : List TT) (a : Option Addr) (cap H : Nat) (w : World) (hok : tsOK l = true) (hd : ∀ i, i < l.length → tp l i ∣ H) (h60 : H ≤ 200) (hc : TSAt w w.heap.size a l) :
    Calls Tryz.prog 9 #[.slice a l.length cap, .int .i64 (H : Int)] w fun e w' => ∃ v, e = .returned v ∧ RowsW w.heap.size w' v (rowsI l.length (fun i => perR (tp l i : Nat) (H / tp l i))) ∧ Below w.heap.size w w' := by
  have hl40 := (tsOK_bd hok).1
  have hlI : (l.length : Int) ≤ 40 := by omega
  have HC := Lib.hid hc
  have HOK := Lib.hid hok
  have HD := Lib.hid hd
  clear hc hok hd
  go_enter Tryz.func9, Tryz.ntmps9
  go_wp2_with fail
  go_loopw [6, 5] (fun u v wr => ∃ i : Nat, u = .int .i64 i ∧ i ≤ l.length ∧ Hid (RowsW w.heap.size wr v (rowsI i (fun i => perR (tp l i : Nat) (H / tp l i)))) ∧ Below w.heap.size w wr) (fun u _ _ => l.length - (intOf u).toNat)
  case atStart => exact ⟨0, rfl, by omega, Lib.hid (RowsW.nil _ _), Below.refl _ _⟩
  case round =>
    obtain ⟨i, rfl, hi, hrw, hbl⟩ := hrel
    generalize wr = w4 at *
    by_cases h0 : i < l.length
    · have h0I : (i : Int) < (l.length : Int) := by omega
      obtain ⟨tb, to', rfl, htN, tcell⟩ := HC.out (by intro e; simp [e] at h0)
      obtain ⟨l0, l1, l2⟩ := tcell i _ (ttAt_get h0)
      obtain ⟨t1, t2, t3, t4, t5⟩ := tsOK_at HOK.out h0
      rw [t5] at l2
      have HL2 := Lib.hid l2
      have HRW := Lib.hid (show rowsI (i + 1) (fun i => perR (tp l i : Nat) (H / tp l i)) = rowsI i (fun i => perR (tp l i : Nat) (H / tp l i)) ++ [perR (tp l i : Nat) (H / tp l i)] from by
        unfold rowsI
        rw [List.range_succ, List.map_append]; rfl)
      have hrlen : (rowsI i (fun i => perR (tp l i : Nat) (H / tp l i))).length ≤ 1000000 := by rw [rowsI_len]; omega
      have HDI := Lib.hid (HD.out i h0)
      have hiE : i + 1 ≤ l.length := h0
      have hiM : l.length - (intOf (.int .i64 ((i : Int) + 1))).toNat < l.length - (intOf (.int .i64 (i : Int))).toNat := by
        show l.length - ((i : Int) + 1).toNat < l.length - ((i : Int)).toNat
        omega
      clear tcell t4 t5 l0 l1 l2
      generalize rowsI i (fun i => perR (tp l i : Nat) (H / tp l i)) = R at *
      generalize tp l i = P at *
      have HK := Lib.hid (show ∀ k : Nat, (k ≤ H / P → ((k : Int) * (P : Int) < (H : Int) ↔ k < H / P)) ∧ (k < H / P → (k : Int) * (P : Int) + (P : Int) ≤ (H : Int)) ∧ 0 ≤ (k : Int) * (P : Int) from fun k => by
        have hq : H / P * P = H := Nat.div_mul_cancel HDI.out
        have e : (k : Int) * (P : Int) = ((k * P : Nat) : Int) := (Int.natCast_mul _ _).symm
        rw [e]
        refine ⟨fun hk => ⟨fun hlt => ?_, fun hlt => ?_⟩, fun hlt => ?_, by omega⟩
        · have : k * P < H / P * P := by omega
          exact Nat.lt_of_mul_lt_mul_right this
        · have h1 : (k + 1) * P ≤ H / P * P := Nat.mul_le_mul_right _ hlt
          rw [Nat.add_mul, Nat.one_mul] at h1; omega
        · have h1 : (k + 1) * P ≤ H / P * P := Nat.mul_le_mul_right _ hlt
          rw [Nat.add_mul, Nat.one_mul] at h1; omega)
      have hq60 : H / P ≤ 200 := Nat.le_trans (Nat.div_le_self _ _) h60
      have HI60 : (H : Int) ≤ 200 := by omega
      have hPI : (P : Int) ≤ 1000 := by omega
      have hP1 : (1 : Int) ≤ (P : Int) := by omega
      clear HDI
      generalize H / P = q at *
      go_wp2_with fail
      have br5 := Below.refl w4.heap.size w4
      go_loopw [8, 7] (fun u v wr => ∃ (k : Nat) (x : Int), u = .int .i64 x ∧ k ≤ q ∧ Hid (x = (k : Int) * (P : Int)) ∧ 0 ≤ x ∧ x ≤ H ∧ Hid (Win wr 3 1 v (perR (P : Int) k).length (cellsI (perR (P : Int) k)) ∧ ∀ g, v.ownBlock = some g → w4.heap.size ≤ g) ∧ Below w4.heap.size w4 wr) (fun u _ _ => ((H : Int) - intOf u).toNat)
      case atStart => exact ⟨0, 0, rfl, by omega, Lib.hid (by simp), by omega, by omega, Lib.hid ⟨Win.nil _ _ _, fun g hg => by simp [Value.ownBlock] at hg⟩, br5⟩
      case round =>
        clear br5
        obtain ⟨k, x, rfl, hk, hx, hx0, hxH, hwin, hbl2⟩ := hrel
        by_cases hlt : x < (H : Int)
        · have hkq : k < q := ((HK.out k).1 hk).1 (by rw [← hx.out]; exact hlt)
          have hxP := (HK.out k).2.1 hkq
          rw [← hx.out] at hxP
          obtain ⟨v', w', hrun, h1, h2, h3, h4⟩ := int_push hwin.out.1 hwin.out.2 hbl2.size x (by rw [perR_len]; omega)
          have b3' := hbl2.trans h2
          have hP2 := keep_cellN (hbl.trans (b3'.mono hbl.size)) htN HL2.out
          have htr : tb < w'.heap.size := by have := b3'.size; have := hbl.size; omega
          have H1 := Lib.hid (show Win w' 3 1 v' (perR (P : Int) (k + 1)).length (cellsI (perR (P : Int) (k + 1))) ∧ ∀ g, v'.ownBlock = some g → w4.heap.size ≤ g from by
            rw [perR_succ, ← hx.out]
            exact ⟨h1, fun g hg => by
              rcases h4 g hg with h5 | h5
              · exact hwin.out.2 g h5
              · have := hbl2.size; omega⟩)
          have H2 := Lib.hid (show x + (P : Int) = ((k + 1 : Nat) : Int) * (P : Int) from by rw [Int.natCast_add, Int.add_mul, ← hx.out]; simp)
          have hkE : k + 1 ≤ q := hkq
          have hx1 : 0 ≤ x + (P : Int) := by omega
          have hxM : ((H : Int) - intOf (.int .i64 (x + (P : Int)))).toNat < ((H : Int) - intOf (.int .i64 x)).toNat := by
            show ((H : Int) - (x + (P : Int))).toNat < ((H : Int) - x).toNat
            omega
          clear hwin h1 h2 h3 h4 hx HK
          go_wp2_with (at_builtin; refine wpList_append_by rfl (.tmp 25) (.tmp 27) 42 rfl u7 (.slice (some ⟨wr.heap.size, 0, none⟩) 1 1) v' w' rfl rfl hrun ?_)
          go_roundw
          case rel => exact ⟨k + 1, x + P, rfl, hkE, H2, hx1, hxP, H1, b3'⟩
          case measure => exact hxM
        · have hkq : k = q := by
            have := ((HK.out k).1 hk)
            rw [← hx.out] at this
            omega
          subst hkq
          obtain ⟨xa, xc, hve, q1, q2, q3⟩ := cellsI_ints hwin.out.1
          have hown : perR (P : Int) k ≠ [] → ∀ g o, xa = some ⟨g, o, none⟩ → u5.ownBlock ≠ some g := fun _ g o e e2 => by
            obtain ⟨vals, w0, _⟩ := hrw.out
            have h1 := w0.blk_lt e2
            have h2 := hwin.out.2 g (by rw [hve, e]; rfl)
            omega
          have hrw6 := hrw.out.below hbl2
          have b6 := hbl.trans (hbl2.mono hbl.size)
          obtain ⟨v', w', hrun, hrw', hb'⟩ := hrw6.push b6.size (perR (P : Int) k) xa xc q1 q2 q3 hown hrlen
          rw [← HRW.out] at hrw'
          have HRW' := Lib.hid hrw'
          have b8 := b6.trans hb'
          subst hve
          clear hrw hrw6 hwin q3 hown hrw' hb' HRW hx HK hbl
          generalize (perR (P : Int) k).length = xn at *
          go_wp2_with (at_builtin; refine wpList_append_by rfl (.tmp 29) (.tmp 31) 30 rfl u5 (.slice (some ⟨wr.heap.size, 0, none⟩) 1 1) v' w' rfl rfl hrun ?_)
          go_roundw
          case rel => exact ⟨i + 1, rfl, hiE, HRW', b8⟩
          case measure => exact hiM
    · obtain rfl : i = l.length := by omega
      go_wp2_with fail
      go_ret
      exact ⟨_, rfl, hrw.out, hbl⟩
end

section
theorem PickL.cong {n cores : Nat} {lt lt' : Nat → Nat → Bool} {cand cand' : Nat → Bool} {ch : List Nat} (h : PickL n cores lt cand ch) (hl : ∀ i k, i < n → k < n → lt i k = lt' i k) (hc : ∀ i, i < n → cand i = cand' i) : PickL n cores lt' cand' ch :=
  ⟨h.nd, fun i hi => ⟨(h.sub i hi).1, by rw [← hc i (h.sub i hi).1]; exact (h.sub i hi).2⟩, h.le, fun i hi hci hn => by
    rw [← hc i hi] at hci
    obtain ⟨f1, f2⟩ := h.full i hi hci hn
    exact ⟨f1, fun k hk => by rw [← hl k i (h.sub k hk).1 hi]; exact f2 k hk⟩⟩
theorem ReachS.cong {n cores : Nat} {c p : Nat → Nat} {r r' : Nat → List Int} {t m : Nat} {js : Nat → JS} (h : ReachS n cores c p r t js m) (hr : ∀ i, i < n → r i = r' i) : ∃ js', ReachS n cores c p r' t js' m ∧ ∀ i, i < n → js i = js' i := by
  induction h with
  | zero => exact ⟨_, .zero, fun _ _ => rfl⟩
  | @step t js m ch hr' hp ih =>
    obtain ⟨js', h1, h2⟩ := ih
    have hb : ∀ i, i < n → begS p r t js i = begS p r' t js' i := fun i hi => by unfold begS; rw [hr i hi, h2 i hi]
    have hp' : PickL n cores (bef2 c p (begS p r' t js')) (fun i => candJ (c i) (p i) t (begS p r' t js' i)) ch := hp.cong (fun i k hi hk => by unfold bef2; rw [hb i hi, hb k hk]) (fun i hi => by simp only [hb i hi])
    refine ⟨_, by rw [missN_congr h2]; exact .step h1 hp', fun i hi => ?_⟩
    unfold runJ
    rw [hb i hi]
theorem sm_dem (l : List TT) (H : Nat) : ∀ k, sm k (wP (tc l) (tp l) H) = (dem l H k : Int)
  | 0 => rfl
  | k + 1 => by rw [sm, sm_dem l H k, dem, wP, Int.natCast_add]
theorem per_of {l : List TT} {H : Nat} (hok : tsOK l = true) (hH : 0 < H) (hd : ∀ i, i < l.length → tp l i ∣ H) : Per l.length (tc l) (tp l) H :=
  ⟨fun i hi => (tsOK_at hok hi).1, fun i hi => (tsOK_at hok hi).2.1, fun i hi => (tsOK_at hok hi).2.2.1, hd, hH⟩
theorem late_iff {l : List TT} {H cores m : Nat} {js : Nat → JS} (hok : tsOK l = true) (hH : 0 < H) (hd : ∀ i, i < l.length → tp l i ∣ H) (h : ReachS l.length cores (tc l) (tp l) (rwAt (rowsI l.length fun i => perR (tp l i : Nat) (H / tp l i))) H js m) :
    m + missN l.length (tc l) (tp l) H js = 0 ↔ (dem l H l.length : Int) ≤ (cores : Int) * (H : Int) := by
  obtain ⟨js', h1, h2⟩ := h.cong (r' := fun i => synR (tp l i) H) fun i hi => rowsI_at hi
  rw [missN_congr h2, ← sm_dem]
  have P := per_of hok hH hd
  exact ⟨fun q => P.onlyFits h1 q, fun q => P.fits q h1⟩
theorem syn_sp {l : List TT} {H : Nat} (hok : tsOK l = true) (hH : H ≤ 200) (hd : ∀ i, i < l.length → tp l i ∣ H) (i : Nat) (hi : i < (rowsI l.length fun i => perR (tp l i : Nat) (H / tp l i)).length) : SpOK (tp l i) (rwAt (rowsI l.length fun i => perR (tp l i : Nat) (H / tp l i)) i) := by
  rw [rowsI_len] at hi
  rw [rowsI_at hi]
  have hq := Nat.div_le_self H (tp l i)
  have he : H / tp l i * tp l i = H := Nat.div_mul_cancel (hd i hi)
  have g : ∀ k, k < H / tp l i → (perR (tp l i : Nat) (H / tp l i)).getD k 0 = ((k * tp l i : Nat) : Int) := fun k hk => synR_get hk
  refine ⟨by rw [perR_len]; omega, fun k hk => ?_, fun k hk => ?_⟩
  · rw [perR_len] at hk
    rw [g k hk]
    have : k * tp l i ≤ H / tp l i * tp l i := Nat.mul_le_mul_right _ (by omega)
    omega
  · rw [perR_len] at hk
    rw [g k (by omega), g (k + 1) hk, Nat.add_mul, Nat.one_mul]
    omega
end
end Go.Proofs.YtfoadipocpopiaaGreat
