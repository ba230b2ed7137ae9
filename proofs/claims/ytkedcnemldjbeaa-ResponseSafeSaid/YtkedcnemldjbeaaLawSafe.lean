/- The walk over ResponseSafe. Conditions: the arguments lie in memory. -/
import Derived.Test.YtkedcnemldjbeaaSafeP
import Derived.Test.YtkedcnemldjbeaaRels
import Derived.Test.YtkedcnemldjbeaaMapP
import Derived.Test.YtkedcnemldjbeaaSimWalk
import Derived.Test.YtkedcnemldjbeaaGreat
import Derived.Test.YtkedcnemldjbeaaLawOrder43
namespace Go.Proofs.Ytkedcnemldjbeaa
open Go.RowKit

theorem PMap.iff {w : World} {b n : Nat} {S S' : Int → Int → Prop} (h : PMap w b n S) (e : ∀ x y, S x y ↔ S' x y) : PMap w b n S' := by
  obtain ⟨es, c, h1, h2, h3, h4⟩ := h
  exact ⟨es, c, h1, h2, h3, fun x y => (e x y).symm.trans (h4 x y)⟩
theorem relsOf_len (l : List CT) (os dl : List Int) : (relsOf l os dl).length = l.length := rowsI_len _ _
theorem rels_rows {l : List CT} {os dl : List Int} (hv : validL l = true) (ho : FitB os) : rowsB l (relsOf l os dl) = true := by
  rw [rowsB_iff]
  intro i hi
  rw [relsOf_len] at hi
  unfold relsOf
  rw [rowsI_at hi]
  have hp := (okT_bd ((validL_bd hv).2 _ (ctAt_mem hi))).1.2.2.1
  obtain ⟨h1, h2⟩ := relGo_ok hp dl i 12 0 (offAt os i) (offAt_bd ho i).1
  rw [spB_iff]
  intro k hk
  have hk' : k < (relGo (ctAt l i).p dl i 12 0 (offAt os i)).length := hk
  show okAt (ctAt l i).p (relGo (ctAt l i).p dl i 12 0 (offAt os i)) k
  generalize relGo (ctAt l i).p dl i 12 0 (offAt os i) = r at *
  have ha := h1 _ (List.mem_of_getElem? (getD_get hk'))
  have hb := (offAt_bd ho i).1
  unfold okAt
  refine ⟨by omega, ?_⟩
  by_cases h0 : k = 0
  · exact .inl h0
  · right
    have h3 := h2 (k - 1) _ _ (getD_get (show k - 1 < r.length by omega)) (by rw [show k - 1 + 1 = k by omega]; exact getD_get hk')
    have h4 := h1 _ (List.mem_of_getElem? (getD_get (show k - 1 < r.length by omega)))
    omega
theorem rels_fit {l : List CT} {os dl : List Int} (hv : validL l = true) (ho : FitB os) : ∀ r ∈ relsOf l os dl, r.length ≤ 12 ∧ ∀ x ∈ r, 0 ≤ x ∧ x < 400 := by
  intro r hr
  obtain ⟨i, hi, rfl⟩ := List.mem_map.1 hr
  have hi : i < l.length := by simpa using hi
  have hp := (okT_bd ((validL_bd hv).2 _ (ctAt_mem hi))).1.2.2.1
  obtain ⟨h1, _⟩ := relGo_ok hp dl i 12 0 (offAt os i) (offAt_bd ho i).1
  have hb := (offAt_bd ho i).1
  exact ⟨relGo_len _ _ _ _ _ _, fun x hx => by have := h1 x hx; omega⟩

set_option maxRecDepth 100000 in
set_option maxHeartbeats 6400000 in
theorem law_safe (l : List CT) (a : Option Addr) (cap : Nat) (os : List Int) (oa : Option Addr) (oc : Nat) (dl : List Int) (da : Option Addr) (dc : Nat) (w : World) (hl : l.length ≤ cap) (hcap : cap ≤ 9223372036854775807) (hc : TasksAt w w.heap.size a l)
    (hol : os.length ≤ oc) (hoc : oc ≤ 9223372036854775807) (ho : BytesAt w w.heap.size oa os) (hos : FitB os) (hdl : dl.length ≤ dc) (hdc : dc ≤ 9223372036854775807) (hd : BytesAt w w.heap.size da dl) (hds : FitB dl) :
    Calls Try.prog 16 #[.slice a l.length cap, .slice oa os.length oc, .slice da dl.length dc] w fun e w' => e = .returned (.bool true) ∧ Below w.heap.size w w' := by
  have hlen : (l.length : Int) ≤ 9223372036854775807 := by omega
  have hdlI : (dl.length : Int) ≤ 9223372036854775807 := by omega
  have HOS := Lib.hid hos
  have HDS := Lib.hid hds
  have hmm := Lib.hid (@run_makeMap Try.prog)
  clear hos hds
  go_enter Try.func16, Try.ntmps16
  go_wp2_with fail
  refine (awake_any _).mono ?_
  rintro e w1 ⟨rfl, hb1⟩
  have s1 := hb1.size
  go_wp2_with fail
  refine (great_any l a cap _ (by omega) (hc.on hb1 s1)).mono ?_
  rintro e w2 ⟨rfl, hb2⟩
  have b2 := hb1.trans (hb2.mono s1)
  have s2 := b2.size
  clear hb1 hb2
  cases hg : greatB l
  · by_cases h6 : l.length ≤ 6
    · have h6' : (l.length : Int) ≤ 6 := by omega
      have VA := Lib.hid (valid_any l a cap w2 (by omega) (hc.on b2 s2))
      clear hg
      cases hv : validL l
      · rw [hv] at VA
        clear hv
        go_wp2_with fail
        refine VA.out.mono ?_
        rintro e w3 ⟨rfl, hb3⟩
        go_wp2_with fail
        go_ret
        exact ⟨rfl, b2.trans (hb3.mono s2)⟩
      · rw [hv] at VA
        have HV := Lib.hid hv
        clear hv
        by_cases h100 : dl.length ≤ 100
        · have h100' : (dl.length : Int) ≤ 100 := by omega
          go_wp2_with fail
          refine VA.out.mono ?_
          rintro e w3 ⟨rfl, hb3⟩
          have b3 := b2.trans (hb3.mono s2)
          have s3 := b3.size
          have RL := Lib.hid (fun W h1 h2 h3 => releases_any l a cap os oa oc dl da dc W HV.out HOS.out HDS.out (by omega) (by omega) h1 h2 h3)
          have HRB := Lib.hid (rels_rows (dl := dl) HV.out HOS.out)
          have HRF := Lib.hid (rels_fit (dl := dl) HV.out HOS.out)
          have HRL := Lib.hid (relsOf_len l os dl)
          have R3 := Lib.hid (RL.out w3 (hc.on b3 s3) (ho.on b3 s3) (hd.on b3 s3))
          have HCK := Lib.hid (show checkV l (relsOf l os dl) 500 = 0 from by
            unfold checkV
            rw [if_pos ⟨HV.out, HRL.out⟩, if_neg (by omega), if_pos HRB.out])
          clear VA b2 hb3 s2
          go_wp2_with fail
          refine R3.out.mono ?_
          rintro e w4 ⟨G, rfl, hrw, hb4⟩
          have b4 := b3.trans (hb4.mono s3)
          have s4 := b4.size
          have SM := simulate_any l a cap (relsOf l os dl) (some ⟨G, 0, none⟩) l.length 500 w4 (by omega) (by rw [HRL.out]; omega) (fun r hr x hx => by have := (HRF.out r hr).2 x hx; omega) (hc.on b4 s4) hrw
          rw [HRL.out] at SM
          have SM := Lib.hid SM
          clear R3 hrw hb4 b3
          go_wp2_with fail
          refine SM.out.mono ?_
          rintro e w5 ⟨hb5, ⟨h, _⟩ | ⟨_, ja, jc, rfl, hj1, hj2, hj3⟩⟩
          · exact absurd HCK.out h
          · rw [show (500 : Int).toNat = 500 from rfl] at hj1 hj3 ⊢
            have b5 := b4.trans (hb5.mono s4)
            have s5 := b5.size
            have hjl : (run (envOf l (relsOf l os dl)) 500).en.length ≤ 500 := (run_bd (envOf l (relsOf l os dl)) 500).1
            have HSJ := Lib.hid (fun k (j : Jb) (h : (run (envOf l (relsOf l os dl)) 500).en[k]? = some j) => show j.tk < l.length ∧ 0 ≤ j.rel ∧ j.rel ≤ j.en ∧ j.en ≤ 500 ∧ (respE l j.tk = 0 → j.en - j.rel ≤ respR l j.tk) from by
              obtain ⟨f1, _, f3, f4, f5, f6, _, f8, _⟩ := job_facts (env_ok HV.out HRL.out HRB.out) h
              have hcst := (env_ok HV.out HRL.out HRB.out).cost j.tk f1
              exact ⟨f1, f3, by omega, by omega, fun h0 => safe_job HV.out HRL.out HRB.out (List.mem_of_getElem? h) f1 h0⟩)
            have HSA := Lib.hid (fun i m x (hi : i < l.length) (h0 : respE l i = 0) (hx : (rwAt (relsOf l os dl) i)[m]? = some x) (hu : x + respR l i ≤ 500) => safe_all (u := 500) HV.out HRL.out HRB.out hi h0 hx hu)
            have HRP := Lib.hid (fun i (hi : i < l.length) (h0 : respE l (i : Nat) = 0) => show 0 ≤ respR l i ∧ respR l i ≤ 1000 from by
              obtain ⟨r, hr, hR⟩ := respE_zero HV.out hi h0
              obtain ⟨h1, h2, _⟩ := resp_fit HV.out HRL.out HRB.out hi hr
              have := (okT_bd ((validL_bd HV.out).2 _ (ctAt_mem hi))).1
              rw [hR]
              have := this.2.2.2.2.2.1
              have := (okT_bd ((validL_bd HV.out).2 _ (ctAt_mem hi))).1.2.2.2.1
              omega)
            have HJ3 := Lib.hid hj3
            clear hj3 SM b4 hb5 HCK HRB
            generalize (run (envOf l (relsOf l os dl)) 500).en = js at *
            have hjlI : (js.length : Int) ≤ 500 := by omega
            have hmm1 := hmm.out
            have hpm := PMap.new w5
            have bM := b5.alloc s5 (.map #[] 0)
            have bM5 : Below w5.heap.size w5 (w5.alloc (.map #[] 0)) := (Below.refl _ _).alloc (Nat.le_refl _) _
            have HPM := Lib.hid hpm
            clear hpm
            go_upto_region 9 with fail
            clear hmm1 hmm
            generalize w5.alloc (.map #[] 0) = w6 at *
            generalize hMB : w5.heap.size = MB at *
            have HMB := Lib.hid hMB
            have HJ6 := Lib.hid (HJ3.out.keep bM5)
            clear hMB HJ3
            have RESP := Lib.hid (fun (t : Nat) W (h : TasksAt W W.heap.size a l) => response_any l a cap (t : Int) W hl hcap h)
            go_wp2_with fail
            go_loopw [53] (fun u wr => ∃ k : Nat, u = .int .i64 k ∧ k ≤ js.length ∧ Hid (PMap wr MB k (fun x y => ∃ j ∈ js.take k, (j.tk : Int) = x ∧ j.rel = y)) ∧ Below MB w6 wr) (fun u _ => js.length - (intOf u).toNat)
            case atStart => exact ⟨0, rfl, by omega, HPM.out.iff (fun x y => by simp), Below.refl _ _⟩
            case round =>
              obtain ⟨k, rfl, hk, hpm, hbl⟩ := hrel
              have hbs := hbl.size
              have hMw := hpm.out.lt
              clear HPM
              by_cases hlt : k < js.length
              · have k0 : (0 : Int) ≤ (k : Int) := by omega
                have k1 : (k : Int) < (js.length : Int) := by omega
                have hget := List.getElem?_eq_getElem hlt
                obtain ⟨jb, jo, rfl, hjN, hjc⟩ := HJ6.out (by intro e; rw [e] at hlt; simp at hlt)
                obtain ⟨a0, a1, a2, a3, a4⟩ := hjc k _ hget
                have a0 := keep_cellN hbl hjN a0
                have a1 := keep_cellN hbl hjN a1
                have a2 := keep_cellN hbl hjN a2
                have a3 := keep_cellN hbl hjN a3
                have a4 := keep_cellN hbl hjN a4
                have hjw : jb < wr.heap.size := by omega
                obtain ⟨f1, f2, f3, f4, f5⟩ := HSJ.out k _ hget
                have HF5 := Lib.hid f5
                have HTK := Lib.hid (show js.take (k + 1) = js.take k ++ [js[k]] from List.take_succ_eq_append_getElem hlt)
                have HRPk := Lib.hid (HRP.out _ f1)
                clear hjc f5
                generalize js[k] = j at *
                have bj := hbl.alloc (Nat.le_of_lt hMw) (.cells #[.int .i64 j.tk, .int .i64 j.rel, .int .i64 j.st, .int .i64 j.en, .int .i64 j.bl] 59)
                have jcl := Go.Deep.blk_alloc_new wr (.cells #[.int .i64 j.tk, .int .i64 j.rel, .int .i64 j.st, .int .i64 j.en, .int .i64 j.bl] 59)
                have HPM2 := Lib.hid (hpm.out.same (w' := wr.alloc (.cells #[.int .i64 j.tk, .int .i64 j.rel, .int .i64 j.st, .int .i64 j.en, .int .i64 j.bl] 59)) (Below.heap_alloc _ _ _ hMw))
                have hsj : wr.heap.size < (wr.alloc (.cells #[.int .i64 j.tk, .int .i64 j.rel, .int .i64 j.st, .int .i64 j.en, .int .i64 j.bl] 59)).heap.size := by simp
                clear hpm hbl
                go_upto_region 12 with fail
                clear a0 a1 a2 a3 a4
                generalize wr.alloc (.cells #[.int .i64 j.tk, .int .i64 j.rel, .int .i64 j.st, .int .i64 j.en, .int .i64 j.bl] 59) = wj at *
                have hMX : MB < wr.heap.size := hMw
                generalize wr.heap.size = X at *
                have g0 := row_cell jcl (j := 0) rfl
                have g1 := row_cell jcl (j := 1) rfl
                simp only [List.getElem_toArray, List.getElem_cons_succ, List.getElem_cons_zero] at g0 g1
                obtain ⟨w8, hput, hp8, hg8⟩ := HPM2.out.put (j.tk : Int) j.rel
                have hput : (Instr.mapUpdate 72 (.map (some MB)) (.agg #[.int .i64 (j.tk : Int), .int .i64 j.rel]) (.bool true)).run Try.prog wj = .ok () w8 := hput
                have hX8 : w8.heap[X]? = wj.heap[X]? := hg8.block X hsj (by intro e; injection e with e; omega)
                have jcl8 := hX8.trans jcl
                have b8 := bj.grown hg8 (by omega) (fun q hq => by injection hq with hq; omega)
                have HP8 := Lib.hid hp8
                have htI : (j.tk : Int) < (l.length : Int) := by omega
                have ht0 : (0 : Int) ≤ (j.tk : Int) := by omega
                clear hp8 hg8 HPM2 jcl
                go_upto_region 15 with fail
                clear g0 g1 hput
                have g0 := row_cell jcl8 (j := 0) rfl
                have g1 := row_cell jcl8 (j := 1) rfl
                have g3 := row_cell jcl8 (j := 3) rfl
                simp only [List.getElem_toArray, List.getElem_cons_succ, List.getElem_cons_zero] at g0 g1 g3
                have bw8 := bM.trans (b8.mono (by have := HMB.out; omega))
                have R8 := Lib.hid (RESP.out j.tk w8 (hc.on bw8 bw8.size))
                have hX8w : X < w8.heap.size := row_lt jcl8
                have hM8w := HP8.out.lt
                clear jcl8 hX8
                go_wp2_with fail
                refine R8.out.mono ?_
                rintro e w9 ⟨rfl, hb9⟩
                have g1 := keep_cell hb9 hX8w g1
                have g3 := keep_cell hb9 hX8w g3
                have hX9w : X < w9.heap.size := by have := hb9.size; omega
                have HP9 := Lib.hid (HP8.out.same (hb9.block MB hM8w))
                have b9 := b8.trans (hb9.mono (by omega))
                have HFIN := Lib.hid (show PMap w9 MB (k + 1) (fun x y => ∃ j' ∈ js.take (k + 1), (j'.tk : Int) = x ∧ j'.rel = y) from by
                  obtain ⟨es, c, q1, q2, q3, q4⟩ := HP9.out
                  refine ⟨es, c, q1, q2, q3, fun x y => ?_⟩
                  rw [← q4 x y, HTK.out]
                  constructor
                  · rintro ⟨j', hj', e1, e2⟩
                    rcases List.mem_append.1 hj' with h | h
                    · exact .inr ⟨j', h, e1, e2⟩
                    · rw [List.mem_singleton.1 h] at e1 e2
                      exact .inl ⟨e1.symm, e2.symm⟩
                  · rintro (⟨rfl, rfl⟩ | ⟨j', h, e1, e2⟩)
                    · exact ⟨j, List.mem_append_right _ (List.mem_singleton_self _), rfl, rfl⟩
                    · exact ⟨j', List.mem_append_left _ h, e1, e2⟩)
                clear R8 hb9 HP8 HP9 HTK b8 bw8
                by_cases h0 : respE l (j.tk : Int) = 0
                · have d0 : (respE l (j.tk : Int) == 0) = true := beq_iff_eq.2 h0
                  have hle := HF5.out h0
                  obtain ⟨z1, z2⟩ := HRPk.out h0
                  clear h0 HF5 HRPk
                  generalize respR l (j.tk : Int) = rr at *
                  generalize respE l (j.tk : Int) = re at *
                  have hd1 : ¬ rr < j.en - j.rel := by omega
                  go_wp2_with fail
                  go_roundw
                  case rel => exact ⟨k + 1, by go_num, by omega, HFIN.out, b9⟩
                  case measure => simp [intOf]; omega
                · have d0 : (respE l (j.tk : Int) == 0) = false := beq_eq_false_iff_ne.2 h0
                  clear h0 HF5 HRPk
                  generalize respR l (j.tk : Int) = rr at *
                  generalize respE l (j.tk : Int) = re at *
                  go_wp2_with fail
                  go_roundw
                  case rel => exact ⟨k + 1, by go_num, by omega, HFIN.out, b9⟩
                  case measure => simp [intOf]; omega
              · obtain rfl : k = js.length := by omega
                rw [List.take_length] at hpm
                have HPM := hpm
                have b7 := bM.trans (hbl.mono (by have := HMB.out; omega))
                have s7 := b7.size
                have R7 := Lib.hid (RL.out wr (hc.on b7 s7) (ho.on b7 s7) (hd.on b7 s7))
                clear hpm hbl HSJ HJ6 RL
                go_wp2_with fail
                refine R7.out.mono ?_
                rintro e w8 ⟨G2, rfl, hrw8, hb8⟩
                have b8 := b7.trans (hb8.mono s7)
                have s8 := b8.size
                have HP8 := Lib.hid (HPM.out.same (hb8.block MB hMw))
                have hM8 := HP8.out.lt
                have HRW := Lib.hid hrw8
                clear R7 HPM hb8 hrw8
                go_wp2_with fail
                go_loopw [97] (fun u wr => ∃ i : Nat, u = .int .i64 i ∧ i ≤ l.length ∧ Below w8.heap.size w8 wr) (fun u _ => l.length - (intOf u).toNat)
                case atStart => exact ⟨0, rfl, by omega, Below.refl _ _⟩
                case round =>
                  obtain ⟨i, rfl, hi, hbl⟩ := hrel
                  have hbs := hbl.size
                  by_cases hil : i < l.length
                  · have i0 : (0 : Int) ≤ (i : Int) := by omega
                    have i1 : (i : Int) < (l.length : Int) := by omega
                    obtain ⟨rb, ro, e, hrN, hrc⟩ := HRW.out (by intro e; have := HRL.out; rw [e] at this; simp at this; omega)
                    obtain ⟨rfl, rfl⟩ : G2 = rb ∧ 0 = ro := by injection e with e; injection e with e1 e2; exact ⟨e1, e2⟩
                    obtain ⟨xa, xc, r0, r1, r2, r3⟩ := hrc i _ (rwAt_get (by rw [HRL.out]; exact hil))
                    rw [Nat.zero_add] at r0
                    have r0 := keep_cellN hbl hrN r0
                    have hGw : G2 < wr.heap.size := by omega
                    obtain ⟨m1, m2⟩ := HRF.out _ (rwAt_mem (show i < (relsOf l os dl).length by rw [HRL.out]; exact hil))
                    have HM2 := Lib.hid m2
                    have HR3 := Lib.hid r3
                    have HSAi := Lib.hid (fun m x h0 hx hu => HSA.out i m x hil h0 hx hu)
                    have HRPi := Lib.hid (HRP.out i hil)
                    have b9 := b8.trans (hbl.mono s8)
                    have R9 := Lib.hid (RESP.out i wr (hc.on b9 b9.size))
                    clear hrc r3 m2 e
                    generalize rwAt (relsOf l os dl) i = r at *
                    have hmI : (r.length : Int) ≤ 12 := by omega
                    go_wp2_with fail
                    refine R9.out.mono ?_
                    rintro e w9 ⟨rfl, hb9⟩
                    have b10 := hbl.trans (hb9.mono hbs)
                    have s10 := b10.size
                    clear R9 hb9 b9 r0 hbl
                    go_wp2_with fail
                    go_loop [110] (fun u => ∃ k : Nat, u = .int .i64 k ∧ k ≤ r.length) (fun u => r.length - (intOf u).toNat)
                    case atStart => exact ⟨0, rfl, by omega⟩
                    case round =>
                      obtain ⟨k, rfl, hk⟩ := hrel
                      by_cases hkl : k < r.length
                      · have k0 : (0 : Int) ≤ (k : Int) := by omega
                        have k1 : (k : Int) < (r.length : Int) := by omega
                        obtain ⟨xb, xo, rfl, hxN, hxc⟩ := HR3.out (by intro e; rw [e] at hkl; simp at hkl)
                        have x0 := keep_cellN b10 hxN (hxc k _ (getD_get hkl))
                        have hxw : xb < w9.heap.size := by omega
                        obtain ⟨y1, y2⟩ := HM2.out _ (List.mem_of_getElem? (getD_get hkl))
                        have HSX := Lib.hid (fun h0 hu => HSAi.out k _ h0 (getD_get hkl) hu)
                        obtain ⟨rs, hlook, hiff⟩ := (HP8.out.same (b10.block MB hM8)).look (i : Int) (r.getD k 0)
                        have hlook : (Instr.lookup 72 (.map (some MB)) (.agg #[.int .i64 (i : Int), .int .i64 (r.getD k 0)]) false).run Try.prog w9 = .ok (.bool rs) w9 := hlook
                        have HIFF := Lib.hid hiff
                        clear hxc hiff
                        generalize r.getD k 0 = x at *
                        by_cases h0 : respE l (i : Int) = 0
                        · have d0 : (respE l (i : Int) == 0) = true := beq_iff_eq.2 h0
                          obtain ⟨z1, z2⟩ := HRPi.out h0
                          have HSY := Lib.hid (fun hu => HSX.out h0 hu)
                          clear HSX h0
                          generalize respR l (i : Int) = rr at *
                          generalize respE l (i : Int) = re at *
                          by_cases hu : x + rr ≤ 500
                          · have hrs : rs = true := HIFF.out.2 (by
                              obtain ⟨j, hj, e1, e2⟩ := HSY.out hu
                              exact ⟨j, hj, by rw [e1], e2⟩)
                            rw [hrs] at hlook
                            clear HSY HIFF
                            go_wp2_with fail
                            go_round
                            case rel => exact ⟨k + 1, by go_num, by omega⟩
                            case measure => simp [intOf]; omega
                          · clear HSY HIFF
                            go_wp2_with fail
                            go_round
                            case rel => exact ⟨k + 1, by go_num, by omega⟩
                            case measure => simp [intOf]; omega
                        · have d0 : (respE l (i : Int) == 0) = false := beq_eq_false_iff_ne.2 h0
                          clear HSX h0 HIFF
                          generalize respR l (i : Int) = rr at *
                          generalize respE l (i : Int) = re at *
                          go_wp2_with fail
                          go_round
                          case rel => exact ⟨k + 1, by go_num, by omega⟩
                          case measure => simp [intOf]; omega
                      · obtain rfl : k = r.length := by omega
                        go_wp2_with fail
                        go_roundw
                        case rel => exact ⟨i + 1, by go_num, by omega, b10⟩
                        case measure => simp [intOf]; omega
                  · obtain rfl : i = l.length := by omega
                    go_wp2_with fail
                    go_ret
                    exact ⟨rfl, b8.trans (hbl.mono s8)⟩
        · have h100' : ¬ (dl.length : Int) ≤ 100 := by omega
          go_wp2_with fail
          refine VA.out.mono ?_
          rintro e w3 ⟨rfl, hb3⟩
          go_wp2_with fail
          go_ret
          exact ⟨rfl, b2.trans (hb3.mono s2)⟩
    · have h6' : ¬ (l.length : Int) ≤ 6 := by omega
      go_wp2_with fail
      go_ret
      exact ⟨rfl, b2⟩
  · go_wp2_with fail
    go_ret
    exact ⟨rfl, b2⟩
end Go.Proofs.Ytkedcnemldjbeaa
