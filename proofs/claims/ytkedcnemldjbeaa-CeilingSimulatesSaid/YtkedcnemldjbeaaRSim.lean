/- The walk over the reference's Simulate. Conditions: small valid arguments lie in memory. -/
import Derived.Test.YtkedcnemldjbeaaRSimM
import Derived.Test.YtkedcnemldjbeaaFits2
namespace Go.Proofs.Ytkedcnemldjbeaa
open Go.RowKit

def oI : Option Nat → Int
  | none => -1
  | some j => j
/-- The jobs of the tasks below i, and the first k of the task i. -/
def relP (E : Env) (i k : Nat) : List RJ := rel0 E i ++ ((E.rel i).take k).map fun x => ⟨i, x, -1, 0, 0, 0⟩
theorem relP_zero (E : Env) (i : Nat) : relP E i 0 = rel0 E i := by simp [relP]
theorem relP_end (E : Env) (i : Nat) : relP E i (E.rel i).length = rel0 E (i + 1) := by simp [relP, rel0]
theorem relP_step {E : Env} {i k : Nat} (h : k < (E.rel i).length) : relP E i (k + 1) = relP E i k ++ [⟨i, (E.rel i).getD k 0, -1, 0, 0, 0⟩] := by
  unfold relP
  rw [List.take_succ_eq_append_getElem h, List.map_append, List.append_assoc, List.getD_eq_getElem?_getD, List.getElem?_eq_getElem h]; rfl
theorem rb_no {E : Env} {now : Int} {W : List RJ} {k : Nat} (h : rdy now (rat W k) = false) : rbestK E now W (k + 1) = rbestK E now W k := by
  rw [rbestK, h]; rfl
theorem rb_first {E : Env} {now : Int} {W : List RJ} {k : Nat} (h : rdy now (rat W k) = true) (hb : rbestK E now W k = none) : rbestK E now W (k + 1) = some k := by
  rw [rbestK, h, hb]; rfl
theorem rb_cmp {E : Env} {now : Int} {W : List RJ} {k b : Nat} (h : rdy now (rat W k) = true) (hb : rbestK E now W k = some b) : rbestK E now W (k + 1) = if rbef E (rat W k) (rat W b) then some k else some b := by
  rw [rbestK, h, hb]; rfl
theorem rdy_of {now : Int} {a : RJ} : rdy now a = (decide (a.rel ≤ now) && decide (a.en = 0)) := rfl
theorem rjobs_of_win {w : World} {v : Value} {T : TypeId} {js : List Jb} (h : Win w T 5 v js.length (js.flatMap encJ)) : ∃ a c, v = .slice a js.length c ∧ js.length ≤ c ∧ c ≤ 9223372036854775807 ∧ JobsAt w w.heap.size a js := by
  obtain ⟨a, c, e, h1, h2⟩ := h.form0
  refine ⟨a, c, e, h1, h2, fun hne => ?_⟩
  obtain ⟨g, o, cap, e2, hlt, _⟩ := h.form (List.length_pos_iff.2 hne)
  rw [e2] at e h
  simp only [Value.slice.injEq] at e
  obtain ⟨rfl, _, _⟩ := e
  refine ⟨g, o, rfl, hlt, fun i j hj => ?_⟩
  have k : ∀ x u, x < 5 → (encJ j)[x]? = some u → w.cell? ⟨g, o + i * 5 + x, none⟩ = some u := fun x u hx hu => by
    rw [Nat.add_assoc]
    exact h.cell ((flat_get encJ_len hj hx).trans hu)
  exact ⟨k 0 _ (by omega) rfl, k 1 _ (by omega) rfl, k 2 _ (by omega) rfl, k 3 _ (by omega) rfl, k 4 _ (by omega) rfl⟩
/-- What is known of the waiting jobs at a time. -/
structure WK (l : List CT) (M : Nat) (t : Int) (W : List RJ) : Prop where
  len : W.length = M
  tk : ∀ i, i < M → (rat W i).tk < l.length
  bd : ∀ i, i < M → rbd t (rat W i)
theorem wk_run {l : List CT} {rs : List (List Int)} (hE : EnvOK (envOf l rs)) (h0 : ∀ i, i < l.length → actV l i 0 = ((i : Int), false)) (k : Nat) :
    WK l (rel0 (envOf l rs) l.length).length k (rrun (envOf l rs) (rel0 (envOf l rs) l.length) k).1 := by
  obtain ⟨h1, _⟩ := rr_run hE h0 k
  have hl : (rrun (envOf l rs) (rel0 (envOf l rs) l.length) k).1.length = (rel0 (envOf l rs) l.length).length := by
    rw [rel0_len]; exact h1.len
  refine ⟨hl, fun i hi => ?_, fun i hi => ?_⟩
  · rw [rel0_len] at hi
    obtain ⟨j, m, hj, hm, rfl⟩ := offs_split _ hi
    have a := h1.at_ j m _ hj (List.getElem?_eq_getElem hm)
    have ht := a.tk
    have ht : (rat (rrun (envOf l rs) (rel0 (envOf l rs) l.length) k).1 (offs (envOf l rs) j + m)).tk = j := ht
    rw [ht]; exact hj
  · rw [← hl] at hi
    exact rrun_bd (envOf l rs) l.length k _ (List.mem_of_getElem? (rat_get hi))

theorem actS_zero {m : Int → Option Int} {n : Int} : ∀ {ss : List Sec}, (∀ s ∈ ss, 0 ≤ s.f) → actS m n 0 ss = (n, false)
  | [], _ => rfl
  | s :: r, h => by
    rw [actS, if_neg (fun x => by have := h s (List.mem_cons_self ..); omega)]
    exact actS_zero fun x hx => h x (List.mem_cons_of_mem _ hx)
theorem act_zero {l : List CT} (hv : validL l = true) {i : Nat} (hi : i < l.length) : actV l i 0 = ((i : Int), false) :=
  actS_zero fun s hs => (secsOK_mem (okT_bd ((validL_bd hv).2 _ (ctAt_mem hi))).2 (Int.le_refl 0) s hs).2.2.1
theorem encR_st (a : RJ) (x : Int) : encR ⟨a.tk, a.rel, x, a.en, a.bl, a.dn⟩ = (encR a).set 2 (.int .i64 x) := rfl
theorem encR_en (a : RJ) (x : Int) : encR ⟨a.tk, a.rel, a.st, x, a.bl, a.dn⟩ = (encR a).set 3 (.int .i64 x) := rfl
theorem encR_bl (a : RJ) (x : Int) : encR ⟨a.tk, a.rel, a.st, a.en, x, a.dn⟩ = (encR a).set 4 (.int .i64 x) := rfl
theorem encR_dn (a : RJ) (x : Int) : encR ⟨a.tk, a.rel, a.st, a.en, a.bl, x⟩ = (encR a).set 5 (.int .i64 x) := rfl
/-- A step's second half: the best job runs. -/
theorem rstep_some {E : Env} {now : Int} {W : List RJ} {J : List Jb} {b : Nat} (hb : rbestK E now W W.length = some b) {r : RJ} (hr : r = runUp now (rat W b)) :
    rstep E now (W, J) = if (rat W b).dn + 1 = E.cost (rat W b).tk then ((W.map (blkUp now (rat W b).tk)).set b (endUp now r), J ++ [rjob (endUp now r)]) else ((W.map (blkUp now (rat W b).tk)).set b r, J) := by
  have hlt := (rbestK_lt hb).1
  unfold rstep
  simp only
  rw [hb]
  simp only
  have h1 : rat (W.map (blkUp now (rat W b).tk)) b = rat W b := by
    rw [rat_map' _ hlt]
    exact blkUp_same (fun h => by omega)
  rw [h1, ← hr]
  have e1 : r.dn = (rat W b).dn + 1 := by rw [hr]; rfl
  have e2 : r.tk = (rat W b).tk := by rw [hr]; rfl
  rw [e1, e2]
theorem rstep_none {E : Env} {now : Int} {W : List RJ} {J : List Jb} (hb : rbestK E now W W.length = none) : rstep E now (W, J) = (W, J) := by
  unfold rstep
  simp only
  rw [hb]

theorem set_rat {W : List RJ} {b : Nat} {a : RJ} (h : b < W.length) (e : rat W b = a) : W.set b a = W := by
  apply List.ext_getElem?
  intro j
  rw [List.getElem?_set]
  split
  · rename_i e2
    subst e2
    rw [rat_get h, e]
  · rfl

def RSimPost (l : List CT) (rs : List (List Int)) (un : Nat) (w : World) (e : Ending) (w' : World) : Prop :=
  ∃ oa oc rv, e = .returned (.tuple #[.slice oa (run (envOf l rs) un).en.length oc, rv]) ∧ (run (envOf l rs) un).en.length ≤ oc ∧ oc ≤ 9223372036854775807 ∧ JobsAt w' w'.heap.size oa (run (envOf l rs) un).en ∧ Below w.heap.size w w'

set_option maxRecDepth 100000 in
set_option maxHeartbeats 6400000 in
theorem rsimulate_any (l : List CT) (a : Option Addr) (cap : Nat) (rs : List (List Int)) (ra : Option Addr) (rcap : Nat) (un : Nat) (w : World) (hv : validL l = true) (hn : rs.length = l.length) (hl6 : l.length ≤ 6) (hrw : rowsB l rs = true) (h12 : ∀ r ∈ rs, r.length ≤ 12) (hun : un ≤ 300) (hrr : ∀ r ∈ rs, FitI r)
    (hc : TasksAt w w.heap.size a l) (hr : RowsAt w w.heap.size ra rs) :
    Calls Try.prog 33 #[.slice a l.length cap, .slice ra rs.length rcap, .int .i64 (un : Int)] w (RSimPost l rs un w) := by
  have hlI : (l.length : Int) ≤ 6 := by omega
  have hunI : (un : Int) ≤ 300 := by omega
  have H0 := Lib.hid (fun i (hi : i < l.length) => show actV l i 0 = ((i : Int), false) from act_zero hv hi)
  have HE := Lib.hid (env_ok hv hn hrw)
  have HWK := Lib.hid (fun k => wk_run (rs := rs) HE.out H0.out k)
  have HRUN := Lib.hid (fun k => show (rrun (envOf l rs) (rel0 (envOf l rs) l.length) k).2 = (run (envOf l rs) k).en from (rr_run HE.out H0.out k).2)
  have HEr := Lib.hid (show ∀ i, (envOf l rs).rel i = rwAt rs i from fun _ => rfl)
  have HEc := Lib.hid (show ∀ i, (envOf l rs).cost i = (ctAt l i).c from fun _ => rfl)
  have HEb := Lib.hid (show ∀ p q, rbef (envOf l rs) p q = befL l p q from fun _ _ => rfl)
  have HEN := Lib.hid (fun k => (run_bd (envOf l rs) k).1)
  have HL := Lib.hid (fun i => show (rel0 (envOf l rs) i).length = offs (envOf l rs) i from rel0_len _ i)
  have HOF := Lib.hid (fun i => show i ≤ l.length → offs (envOf l rs) i ≤ 12 * i from by
    induction i with
    | zero => intro _; exact Nat.le_refl _
    | succ i ih =>
      intro hi
      have h1 := ih (by omega)
      have h2 := h12 _ (rwAt_mem (rs := rs) (i := i) (by omega))
      rw [offs]
      show offs (envOf l rs) i + (rwAt rs i).length ≤ _
      omega)
  have H12 := Lib.hid h12
  have HRR := Lib.hid hrr
  have HN := Lib.hid hn
  have HV := Lib.hid hv
  have HPOST : RSimPost l rs un w = RSimPost l rs un w := rfl
  clear HPOST hrw h12 hrr hv
  have hrI : (rs.length : Int) ≤ 6 := by omega
  clear hn
  have HPS := Lib.hid (show ∀ (e : Ending) (w' : World), (∃ oa oc rv, e = .returned (.tuple #[.slice oa (run (envOf l rs) un).en.length oc, rv]) ∧ (run (envOf l rs) un).en.length ≤ oc ∧ oc ≤ 9223372036854775807 ∧ JobsAt w' w'.heap.size oa (run (envOf l rs) un).en ∧ Below w.heap.size w w') → RSimPost l rs un w e w' from fun _ _ h => h)
  generalize envOf l rs = E at HE HWK HRUN HEr HEc HEb HEN HL HOF HPS
  go_enter Try.func33, Try.ntmps33
  go_wp2_with fail
  go_loopw [9, 8] (fun u v wr => ∃ (i : Nat) (tg : Nat → Nat), u = .int .i64 i ∧ i ≤ l.length ∧ Hid (RS w.heap.size tg wr v (rel0 E i) (.slice none 0 0) [] (.slice none 0 0) []) ∧ Below w.heap.size w wr) (fun u _ _ => l.length - (intOf u).toNat)
  case atStart => exact ⟨0, _, rfl, by omega, RS.nil _ _, Below.refl _ _⟩
  case round =>
    obtain ⟨i, tg, rfl, hi, hrs, hbl⟩ := hrel
    have hbs := hbl.size
    by_cases hlt : i < l.length
    · have i0 : (0 : Int) ≤ (i : Int) := by omega
      have i1 : (i : Int) < (l.length : Int) := by omega
      have i3 : i < rs.length := by rw [HN.out]; exact hlt
      have i2 : (i : Int) < (rs.length : Int) := by omega
      obtain ⟨b, off, rfl, hbN, hcell⟩ := hr (by intro e; rw [e] at i3; simp at i3)
      obtain ⟨xa, xc, c0, c1, c2, c3⟩ := hcell i _ (rwAt_get i3)
      have HC0 := Lib.hid c0
      have HC3 := Lib.hid c3
      have h12i := H12.out _ (rwAt_mem i3)
      have HFI := Lib.hid (HRR.out _ (rwAt_mem i3))
      have HP := Lib.hid (fun k (hk : k < (rwAt rs i).length) => show relP E i (k + 1) = relP E i k ++ [⟨i, (rwAt rs i).getD k 0, -1, 0, 0, 0⟩] from by
        have h := relP_step (E := E) (i := i) (k := k) (by rw [HEr.out]; exact hk)
        rw [HEr.out] at h; exact h)
      have HP0 := Lib.hid (relP_zero E i)
      have HPE := Lib.hid (show relP E i (rwAt rs i).length = rel0 E (i + 1) from by have h := relP_end E i; rw [HEr.out] at h; exact h)
      have HPL := Lib.hid (fun k => show (relP E i k).length ≤ 1000 from by
        unfold relP
        rw [List.length_append, HL.out, List.length_map, List.length_take, HEr.out]
        have := HOF.out i hi
        omega)
      clear hcell c0 c3
      generalize rwAt rs i = r at *
      go_wp2_with fail
      go_loopw [10, 8] (fun u v wr => ∃ (k : Nat) (tg : Nat → Nat), u = .int .i64 k ∧ k ≤ r.length ∧ Hid (RS w.heap.size tg wr v (relP E i k) (.slice none 0 0) [] (.slice none 0 0) []) ∧ Below w.heap.size w wr) (fun u _ _ => r.length - (intOf u).toNat)
      case atStart => exact ⟨0, tg, rfl, by omega, by rw [HP0.out]; exact hrs.out, hbl⟩
      case round =>
        obtain ⟨k, tg, rfl, hk, hrs, hbl⟩ := hrel
        have hbs := hbl.size
        have c0 := keep_cellN hbl hbN HC0.out
        have hbw : b < wr.heap.size := by omega
        by_cases hkl : k < r.length
        · have k0 : (0 : Int) ≤ (k : Int) := by omega
          have k1 : (k : Int) < (r.length : Int) := by omega
          obtain ⟨xb, xo, rfl, hxN, hxc⟩ := HC3.out (by intro e; rw [e] at hkl; simp at hkl)
          have x0 := keep_cellN hbl hxN (hxc k _ (getD_get hkl))
          have hxw : xb < wr.heap.size := by omega
          have HS := Lib.hid (HP.out k hkl)
          have hlen := HPL.out k
          clear hxc
          generalize r.getD k 0 = x at *
          obtain ⟨v', w', hrun, ⟨tg', hrs'⟩, hb'⟩ := hrs.out.pushW hbs i x (by omega)
          have HRS := Lib.hid hrs'
          have b' := hbl.trans hb'
          clear hrs hrs' hb' hbl
          go_wp2_with (at_builtin; refine wpList_append_by rfl (.tmp 33) (.tmp 44) 89 rfl u8 (.slice (some ⟨wr.heap.size, 0, none⟩) 1 1) _ w' rfl rfl hrun ?_)
          go_roundw
          case rel => exact ⟨k + 1, tg', by go_num, by omega, by rw [HS.out]; exact HRS.out, b'⟩
          case measure => simp [intOf]; omega
        · obtain rfl : k = r.length := by omega
          go_wp2_with fail
          go_roundw
          case rel => exact ⟨i + 1, tg, by go_num, by omega, by rw [← HPE.out]; exact hrs.out, hbl⟩
          case measure => simp [intOf]; omega
    · obtain rfl : i = l.length := by omega
      obtain ⟨wa, wk, rfl, hw1, hw2⟩ := hrs.out.ww.form0
      have HLn := HL.out l.length
      have HOl := HOF.out l.length (Nat.le_refl _)
      have hM : (rel0 E l.length).length ≤ 72 := by omega
      have HRS0 := hrs
      have hbl0 := hbl
      obtain ⟨W0, hW0⟩ : ∃ W0, rel0 E l.length = W0 := ⟨_, rfl⟩
      rw [hW0] at hM hw1 HWK HRUN HRS0
      rw [hW0]
      clear hrs hbl hbs HLn HOl HL HOF HEr H12 HRR hr hW0
      obtain ⟨M, hMM⟩ : ∃ M, W0.length = M := ⟨_, rfl⟩
      rw [hMM] at hM hw1 HWK HRS0
      rw [hMM]
      have HMM := Lib.hid hMM
      clear hMM
      have hMI : (M : Int) ≤ 72 := by omega
      have hMc : (M : Int) ≤ (wk : Int) := by omega
      have HRB := Lib.hid (fun p q W hp hq h => rbefore_any l a cap p q W HV.out hp hq h)
      go_wp2_with fail
      go_loopw [13, 11, 12] (fun u ov rv wr => ∃ (t : Nat) (tg : Nat → Nat) (xs : List Value), u = .int .i64 t ∧ t ≤ un ∧ xs.length ≤ t ∧ Hid (RS w.heap.size tg wr (.slice wa M wk) (rrun E W0 t).1 ov (rrun E W0 t).2 rv xs) ∧ Below w.heap.size w wr) (fun u _ _ _ => un - (intOf u).toNat)
      case atStart => exact ⟨0, _, [], rfl, by omega, by simp, HRS0.out, hbl0⟩
      case round =>
        obtain ⟨t, tg, xs, rfl, ht, hxs, hrs, hbl⟩ := hrel
        clear HRS0 hbl0
        by_cases hlt : t < un
        · have t0 : (0 : Int) ≤ (t : Int) := by omega
          have t1 : (t : Int) < (un : Int) := by omega
          have HW := Lib.hid (HWK.out t)
          have HSTEP := Lib.hid (show rrun E W0 (t + 1) = rstep E t ((rrun E W0 t).1, (rrun E W0 t).2) from rfl)
          have hJ : (rrun E W0 t).2.length ≤ 300 := by rw [HRUN.out]; have := HEN.out t; omega
          generalize (rrun E W0 t).1 = W at *
          generalize (rrun E W0 t).2 = J at *
          have HWl := Lib.hid HW.out.len
          go_wp2_with fail
          go_loopw [15, 14] (fun u v wr => ∃ i : Nat, u = .int .i64 i ∧ v = .int .i64 (oI (rbestK E t W i)) ∧ i ≤ M ∧ Hid (RS w.heap.size tg wr (.slice wa M wk) W u11 J u12 xs) ∧ Below w.heap.size w wr) (fun u _ _ => M - (intOf u).toNat)
          case atStart => exact ⟨0, rfl, rfl, by omega, hrs.out, hbl⟩
          case round =>
            obtain ⟨i, rfl, rfl, hi, hrs, hbl⟩ := hrel
            have hbs := hbl.size
            by_cases hil : i < M
            · have i0 : (0 : Int) ≤ (i : Int) := by omega
              have i1 : (i : Int) < (M : Int) := by omega
              have hiW : i < W.length := by rw [HWl.out]; exact hil
              obtain ⟨g, o, wk', e, _, _⟩ := hrs.out.form (by omega)
              rw [HWl.out] at e
              simp only [Value.slice.injEq] at e
              obtain ⟨rfl, _, rfl⟩ := e
              obtain ⟨c0, c1, c2, c3, c4, c5, _, hgl⟩ := hrs.out.cells hiW
              have htki := HW.out.tk i hil
              have HN0 := Lib.hid (fun h => rb_no (E := E) (now := (t : Int)) (W := W) (k := i) h)
              have HN1 := Lib.hid (fun h h' => rb_first (E := E) (now := (t : Int)) (W := W) (k := i) h h')
              have HN2 := Lib.hid (fun b h h' => rb_cmp (E := E) (now := (t : Int)) (W := W) (k := i) (b := b) h h')
              have HLT := Lib.hid (fun b h => rbestK_lt (E := E) (now := (t : Int)) (W := W) (k := i) (b := b) h)
              have HRD := Lib.hid (rdy_of (now := (t : Int)) (a := rat W i))
              by_cases h1 : (rat W i).rel ≤ t
              · have d1 : decide ((rat W i).rel ≤ (t : Int)) = true := decide_eq_true h1
                by_cases h2 : (rat W i).en = 0
                · have d2 : ((rat W i).en == 0) = true := beq_iff_eq.2 h2
                  have HR1 := Lib.hid (show rdy t (rat W i) = true by rw [HRD.out, d1, decide_eq_true h2]; rfl)
                  cases hb : rbestK E (t : Int) W i with
                  | none =>
                    have HB := Lib.hid (HN1.out HR1.out hb)
                    rw [show oI none = -1 from rfl]
                    clear HN0 HN1 HN2 HLT HRD hb h1 h2
                    go_wp2_with fail
                    go_quiet (fail)
                    have HRS9 := Lib.hid (hrs.out.below (below_drewN (Below.refl _ wr) nq))
                    have b9 := below_drewN hbl nq
                    generalize wr.drewN nq = w9 at *
                    clear c0 c1 c2 c3 c4 c5 hrs hbl d1 d2
                    go_wp2_with fail
                    go_roundw
                    case rel => exact ⟨i + 1, by go_num, by rw [HB.out]; rfl, by omega, HRS9.out, b9⟩
                    case measure => simp [intOf]; omega
                  | some b =>
                    obtain ⟨hbi, _⟩ := HLT.out b hb
                    have HB := Lib.hid (HN2.out b HR1.out hb)
                    rw [HEb.out] at HB
                    have hbM : b < M := by omega
                    obtain ⟨e0, e1, e2, e3, e4, e5, _, _⟩ := hrs.out.cells (i := b) (by rw [HWl.out]; exact hbM)
                    have htkb := HW.out.tk b hbM
                    have hb0 : (0 : Int) ≤ (b : Int) := by omega
                    have hb1 : (b : Int) < (M : Int) := by omega
                    have d3 : decide ((b : Int) < (0 : Int)) = false := by simp
                    have RB := Lib.hid (fun W' (h : TasksAt W' W'.heap.size a l) => HRB.out (rat W i) (rat W b) W' htki htkb h)
                    have HCT := Lib.hid (hc.on hbl hbs)
                    rw [show oI (some b) = (b : Int) from rfl]
                    clear HN0 HN1 HN2 HLT HRD hb h1 h2
                    generalize rat W i = p at *
                    generalize rat W b = q at *
                    go_wp2_with fail
                    refine wp_region_quiet (C := fun W' => Below wr.heap.size wr W') (by kernel_rfl) (by kernel_rfl) (Below.refl _ _).drew ?_
                    repeat (
                      refine wpQuiet_step (fun K hK => ?_)
                      go_simp
                      first
                        | (refine hK _ ?_; clear hK K)
                        | (apply Exists.intro
                           refine ⟨fun W' q0 => ?_, hK _ ?_⟩
                           (first
                             | rfl
                             | (have qc := (bcell q0).1; go_simp; rfl)
                             | (go_at_call 51; ((with_reducible refine (RB.out _ (HCT.out.on q0 q0.size)).mono ?_)); rintro e w5 ⟨rfl, hb5⟩; exact ⟨rfl, q0.trans (hb5.mono q0.size)⟩))
                           clear hK K))
                    refine wpQuiet_nil ?_
                    intro w9 hb9
                    have HRS9 := Lib.hid (hrs.out.below hb9)
                    have b9 := hbl.trans (hb9.mono hbs)
                    clear c0 c1 c2 c3 c4 c5 e0 e1 e2 e3 e4 e5 hrs hbl d1 d2 d3 RB HCT hb9
                    cases hq : befL l p q
                    · rw [hq] at HB
                      have HB2 := Lib.hid HB.out
                      simp only [Bool.false_eq_true, if_false] at HB2
                      clear hq HB
                      go_wp2_with fail
                      go_roundw
                      case rel => exact ⟨i + 1, by go_num, by rw [HB2.out]; rfl, by omega, HRS9.out, b9⟩
                      case measure => simp [intOf]; omega
                    · rw [hq] at HB
                      have HB2 := Lib.hid HB.out
                      simp only [if_true] at HB2
                      clear hq HB
                      go_wp2_with fail
                      go_roundw
                      case rel => exact ⟨i + 1, by go_num, by rw [HB2.out]; rfl, by omega, HRS9.out, b9⟩
                      case measure => simp [intOf]; omega
                · have d2 : ((rat W i).en == 0) = false := beq_eq_false_iff_ne.2 h2
                  have HB := Lib.hid (HN0.out (show rdy t (rat W i) = false by rw [HRD.out, d1, decide_eq_false h2]; rfl))
                  clear HN0 HN1 HN2 HLT HRD h1 h2
                  go_wp2_with fail
                  go_quiet (fail)
                  have HRS9 := Lib.hid (hrs.out.below (below_drewN (Below.refl _ wr) nq))
                  have b9 := below_drewN hbl nq
                  generalize wr.drewN nq = w9 at *
                  clear c0 c1 c2 c3 c4 c5 hrs hbl d1 d2
                  go_wp2_with fail
                  go_roundw
                  case rel => exact ⟨i + 1, by go_num, by rw [HB.out], by omega, HRS9.out, b9⟩
                  case measure => simp [intOf]; omega
              · have d1 : decide ((rat W i).rel ≤ (t : Int)) = false := decide_eq_false h1
                have HB := Lib.hid (HN0.out (show rdy t (rat W i) = false by rw [HRD.out, d1]; rfl))
                clear HN0 HN1 HN2 HLT HRD h1
                go_wp2_with fail
                go_quiet (fail)
                have HRS9 := Lib.hid (hrs.out.below (below_drewN (Below.refl _ wr) nq))
                have b9 := below_drewN hbl nq
                generalize wr.drewN nq = w9 at *
                clear c0 c1 c2 c3 c4 c5 hrs hbl d1
                go_wp2_with fail
                go_roundw
                case rel => exact ⟨i + 1, by go_num, by rw [HB.out], by omega, HRS9.out, b9⟩
                case measure => simp [intOf]; omega
            · obtain rfl : i = M := by omega
              have hbs := hbl.size
              cases hb : rbestK E (t : Int) W i with
              | none =>
                have HS := Lib.hid (HSTEP.out.trans (rstep_none (by rw [HWl.out]; exact hb)))
                obtain ⟨v', w', hrun, ⟨tg', hrs'⟩, hb'⟩ := hrs.out.pushR hbs (-1) (by omega)
                have HRS := Lib.hid hrs'
                have b' := hbl.trans hb'
                rw [show oI none = -1 from rfl]
                clear hrs hrs' hb' hbl hb HSTEP HW
                go_wp2_with (at_builtin; refine wpList_append_by rfl (.tmp 93) (.tmp 94) 35 rfl u12 (.slice (some ⟨wr.heap.size, 0, none⟩) 1 1) _ w' rfl rfl hrun ?_)
                go_roundw
                case rel => exact ⟨t + 1, tg', xs ++ [.int .i64 (-1)], by go_num, by omega, by rw [List.length_append, List.length_singleton]; omega, by rw [HS.out]; exact HRS.out, b'⟩
                case measure => simp [intOf]; omega
              | some b =>
                obtain ⟨hbM, _⟩ := rbestK_lt hb
                have hbW : b < W.length := by rw [HWl.out]; exact hbM
                have HS := Lib.hid (HSTEP.out.trans (rstep_some (by rw [HWl.out]; exact hb) rfl))
                have htk := HW.out.tk b hbM
                have hbd := HW.out.bd b hbM
                have HBDS := Lib.hid HW.out.bd
                obtain ⟨g, o, wk', e, _, _⟩ := hrs.out.form (by omega)
                rw [HWl.out] at e
                simp only [Value.slice.injEq] at e
                obtain ⟨rfl, _, rfl⟩ := e
                obtain ⟨c0, _, _, _, _, _, _, hgl⟩ := hrs.out.cells hbW
                have hNg := (hrs.out.tw g rfl).2
                have hb0 : (0 : Int) ≤ (b : Int) := by omega
                have hb1 : (b : Int) < (i : Int) := by omega
                have hb2 : ¬ (b : Int) < 0 := by omega
                have htkI : ((rat W b).tk : Int) < (l.length : Int) := by omega
                have htk0 : (0 : Int) ≤ ((rat W b).tk : Int) := by omega
                have HB := Lib.hid hb
                rw [show oI (some b) = (b : Int) from rfl]
                obtain ⟨v', w', hrun, ⟨tg', hrs'⟩, hb'⟩ := hrs.out.pushR hbs (((rat W b).tk : Nat) : Int) (by omega)
                have HRS := Lib.hid hrs'
                have b' := hbl.trans hb'
                clear hrs hrs' hb' hbl hb HSTEP
                go_wp2_with (at_builtin; refine wpList_append_by rfl (.tmp 102) (.tmp 104) 35 rfl u12 (.slice (some ⟨wr.heap.size, 0, none⟩) 1 1) _ w' rfl rfl hrun ?_)
                clear c0 hrun
                have hxs' : (xs ++ [Value.int .i64 (((rat W b).tk : Nat) : Int)]).length ≤ t + 1 := by rw [List.length_append]; simp; omega
                generalize xs ++ [Value.int .i64 (((rat W b).tk : Nat) : Int)] = ys at *
                obtain ⟨task, htask⟩ : ∃ task, (rat W b).tk = task := ⟨_, rfl⟩
                have HTASK := Lib.hid htask
                rw [htask] at htk htkI htk0 HS
                rw [htask]
                clear htask
                go_loopw [17] (fun u wr => ∃ j : Nat, u = .int .i64 j ∧ j ≤ i ∧ Hid (RS w.heap.size tg' wr (.slice (some ⟨g, o, none⟩) i wk) (blkPart t task W j) u11 J v' ys) ∧ Below w.heap.size w wr) (fun u _ => i - (intOf u).toNat)
                case atStart => exact ⟨0, rfl, by omega, by rw [blkPart_zero]; exact HRS.out, b'⟩
                case round =>
                  obtain ⟨j, rfl, hj, hrs, hbl⟩ := hrel
                  clear HRS b'
                  by_cases hjl : j < i
                  · have j0 : (0 : Int) ≤ (j : Int) := by omega
                    have j1 : (j : Int) < (i : Int) := by omega
                    have hjW : j < W.length := by rw [HWl.out]; exact hjl
                    have hjP : j < (blkPart t task W j).length := by rw [blkPart_len]; exact hjW
                    obtain ⟨c0, c1, c2, c3, c4, c5, cf, hgl⟩ := hrs.out.cells hjP
                    have HAT := Lib.hid (blkPart_at (now := (t : Int)) (t := task) hjW)
                    rw [HAT.out] at c0 c1 c2 c3 c4 c5
                    have HSK := Lib.hid (fun h => blkPart_skip (now := (t : Int)) (t := task) hjW h)
                    obtain ⟨_, _, q3, q4⟩ := HBDS.out j hjl
                    have HRD := Lib.hid (rdy_of (now := (t : Int)) (a := rat W j))
                    by_cases h1 : (rat W j).rel ≤ t
                    · have d1 : decide ((rat W j).rel ≤ (t : Int)) = true := decide_eq_true h1
                      by_cases h2 : (rat W j).en = 0
                      · have d2 : ((rat W j).en == 0) = true := beq_iff_eq.2 h2
                        by_cases h3 : (rat W j).tk < task
                        · have h3' : ((rat W j).tk : Int) < (task : Int) := by omega
                          have HRS2 := Lib.hid (hrs.out.setW hjP (show 4 < 6 by decide) (a := blkUp t task (rat W j)) (u := .int .i64 ((rat W j).bl + 1)) (by
                            rw [HAT.out]
                            unfold blkUp
                            rw [if_pos ⟨by rw [HRD.out, d1, decide_eq_true h2]; rfl, h3⟩]; rfl))
                          rw [blkPart_step hjW] at HRS2
                          have cf4 := cf (o + j * 6 + 4)
                          clear hrs HSK HRD HAT cf h1 h2 h3
                          go_wp2_with fail
                          go_roundw
                          case rel => exact ⟨j + 1, by go_num, by omega, HRS2.out, hbl.setCell (p := ⟨g, o + j * 6 + 4, none⟩) hNg _⟩
                          case measure => simp [intOf]; omega
                        · have h3' : ¬ ((rat W j).tk : Int) < (task : Int) := by omega
                          have HS2 := Lib.hid (HSK.out (fun h => h3 h.2))
                          clear HSK HRD HAT cf h1 h2 h3
                          go_wp2_with fail
                          go_roundw
                          case rel => exact ⟨j + 1, by go_num, by omega, by rw [← HS2.out]; exact hrs.out, hbl⟩
                          case measure => simp [intOf]; omega
                      · have d2 : ((rat W j).en == 0) = false := beq_eq_false_iff_ne.2 h2
                        have HS2 := Lib.hid (HSK.out (fun h => by rw [HRD.out, d1, decide_eq_false h2] at h; exact absurd h.1 (by decide)))
                        clear HSK HRD HAT cf h1 h2
                        go_wp2_with fail
                        go_roundw
                        case rel => exact ⟨j + 1, by go_num, by omega, by rw [← HS2.out]; exact hrs.out, hbl⟩
                        case measure => simp [intOf]; omega
                    · have d1 : decide ((rat W j).rel ≤ (t : Int)) = false := decide_eq_false h1
                      have HS2 := Lib.hid (HSK.out (fun h => by rw [HRD.out, d1] at h; exact absurd h.1 (by simp)))
                      clear HSK HRD HAT cf h1
                      go_wp2_with fail
                      go_roundw
                      case rel => exact ⟨j + 1, by go_num, by omega, by rw [← HS2.out]; exact hrs.out, hbl⟩
                      case measure => simp [intOf]; omega
                  · obtain rfl : j = i := by omega
                    have HW1 := hrs.out
                    have hall := blkPart_all (t : Int) task W
                    rw [HWl.out] at hall
                    rw [hall] at HW1
                    have HRS1 := Lib.hid HW1
                    obtain ⟨W1, hW1⟩ : ∃ W1, W.map (blkUp t task) = W1 := ⟨_, rfl⟩
                    have hb1W : rat W1 b = rat W b := by
                      rw [← hW1, rat_map' _ hbW]
                      exact blkUp_same (fun h => by rw [HTASK.out] at h; omega)
                    have hW1l : b < W1.length := by rw [← hW1, List.length_map]; exact hbW
                    rw [hW1] at HS HRS1
                    clear hall HW1 hrs hW1 HBDS HB hbs
                    obtain ⟨q1, q2, _, _⟩ := hbd
                    have HBW := Lib.hid hb1W
                    have HS9 := Lib.hid HS.out
                    clear hb1W HS HW
                    obtain ⟨p, hp⟩ : ∃ p, rat W b = p := ⟨_, rfl⟩
                    rw [hp] at HBW HS9 q1 q2 HTASK
                    have HPT := HTASK
                    clear hp HTASK
                    obtain ⟨ptk, prel, pst, pen, pbl, pdn⟩ := p
                    simp only at q1 q2 HPT
                    obtain ⟨_, _, _, _, _, z5, _, zgl⟩ := HRS1.out.cells hW1l
                    rw [HBW.out] at z5
                    simp only at z5
                    go_upto_if 156 with fail
                    go_cut [] (fun wx => Hid (RS w.heap.size tg' wx (.slice (some ⟨g, o, none⟩) j wk) (W1.set b ⟨ptk, prel, if pdn = 0 then (t : Int) else pst, pen, pbl, pdn⟩) u11 J v' ys) ∧ Below w.heap.size w wx)
                    case first =>
                      obtain ⟨c0, c1, c2, c3, c4, c5, cf, hgl⟩ := HRS1.out.cells hW1l
                      rw [HBW.out] at c0 c1 c2 c3 c4 c5
                      simp only at c0 c1 c2 c3 c4 c5
                      have cf2 := cf (o + b * 6 + 2)
                      by_cases hd0 : pdn = 0
                      · have HRS2 := Lib.hid (HRS1.out.setW hW1l (show 2 < 6 by decide) (a := ⟨ptk, prel, t, pen, pbl, pdn⟩) (u := .int .i64 (t : Int)) (by rw [HBW.out]; rfl))
                        have hq : (pdn == 0) = true := beq_iff_eq.2 hd0
                        have HD := Lib.hid hd0
                        clear hd0 HRS1
                        go_wp2_with fail
                        go_meet
                        case rel => rw [if_pos HD.out]; exact ⟨HRS2.out, hbl.setCell (p := ⟨g, o + b * 6 + 2, none⟩) hNg _⟩
                      · have HRS2 := Lib.hid (set_rat hW1l HBW.out)
                        have hq : (pdn == 0) = false := beq_eq_false_iff_ne.2 hd0
                        have HD := Lib.hid hd0
                        clear hd0
                        go_wp2_with fail
                        go_meet
                        case rel => rw [if_neg HD.out, HRS2.out]; exact ⟨HRS1.out, hbl⟩
                    case rest =>
                      obtain ⟨hcr, hcb⟩ := hcut
                      obtain ⟨w5, rfl⟩ : ∃ w5 : World, w5 = wc := ⟨_, rfl⟩
                      obtain ⟨ps, hps⟩ : ∃ ps, (if pdn = 0 then (t : Int) else pst) = ps := ⟨_, rfl⟩
                      have HR1 := Lib.hid (show runUp (t : Int) (⟨ptk, prel, pst, pen, pbl, pdn⟩ : RJ) = ⟨ptk, prel, ps, pen, pbl, pdn + 1⟩ by rw [← hps]; rfl)
                      rw [hps] at hcr
                      rw [HR1.out] at HS9
                      clear hps HRS1 hbl
                      have hW2l : b < (W1.set b ⟨ptk, prel, ps, pen, pbl, pdn⟩).length := by rw [List.length_set]; exact hW1l
                      obtain ⟨c0, c1, c2, c3, c4, c5, cf, hgl⟩ := hcr.out.cells hW2l
                      have HX := Lib.hid (show rat (W1.set b ⟨ptk, prel, ps, pen, pbl, pdn⟩) b = ⟨ptk, prel, ps, pen, pbl, pdn⟩ by rw [rat_set hW1l, if_pos rfl])
                      rw [HX.out] at c0 c1 c2 c3 c4 c5
                      simp only at c0 c1 c2 c3 c4 c5
                      have HRS3 := hcr.out.setW hW2l (show 5 < 6 by decide) (a := ⟨ptk, prel, ps, pen, pbl, pdn + 1⟩) (u := .int .i64 (pdn + 1)) (by rw [HX.out]; rfl)
                      rw [List.set_set] at HRS3
                      have HRS3 := Lib.hid HRS3
                      have cf5 := cf (o + b * 6 + 5)
                      have b7 := hcb.setCell (p := ⟨g, o + b * 6 + 5, none⟩) hNg (.int .i64 (pdn + 1))
                      clear hcr hcb cf HX hW2l
                      go_upto_region 32 with fail
                      clear c0 c1 c2 c3 c4 c5 cf5 hgl
                      generalize w5.setCell ⟨g, o + b * 6 + 5, none⟩ (.int .i64 (pdn + 1)) = w7 at *
                      have hW3l : b < (W1.set b ⟨ptk, prel, ps, pen, pbl, pdn + 1⟩).length := by rw [List.length_set]; exact hW1l
                      obtain ⟨c0, c1, c2, c3, c4, c5, cf, hgl⟩ := HRS3.out.cells hW3l
                      have HX := Lib.hid (show rat (W1.set b ⟨ptk, prel, ps, pen, pbl, pdn + 1⟩) b = ⟨ptk, prel, ps, pen, pbl, pdn + 1⟩ by rw [rat_set hW1l, if_pos rfl])
                      rw [HX.out] at c0 c1 c2 c3 c4 c5
                      simp only at c0 c1 c2 c3 c4 c5
                      obtain ⟨tb, toff, rfl, htN, htcell⟩ := hc (by intro e; rw [e] at htk; simp at htk)
                      obtain ⟨e0, _, _, _, _, _, _, _⟩ := htcell task _ (ctAt_get htk)
                      have e0 := keep_cellN b7 htN e0
                      have htw : tb < w7.heap.size := by have := b7.size; omega
                      have hcost := HEc.out task
                      rw [hcost] at HS9
                      clear htcell hcost
                      generalize (ctAt l task).c = cst at *
                      by_cases hcc : pdn + 1 = cst
                      · subst hcc
                        have HS8 := HS9.out
                        simp only [if_true] at HS8
                        have HS8 := Lib.hid HS8
                        clear HS9
                        have hq : (pdn + 1 == pdn + 1) = true := by simp
                        go_wp2_with fail
                        go_quiet (fail)
                        have HRS8 := HRS3.out.below (below_drewN (Below.refl _ w7) nq)
                        have b8 := below_drewN b7 nq
                        have cf3 : (w7.drewN nq).frozen? ⟨g, o + b * 6 + 3, none⟩ = false := cf (o + b * 6 + 3)
                        have k3 : (w7.drewN nq).cell? ⟨g, o + b * 6 + 3, none⟩ = some (.int .i64 pen) := c3
                        have HRS9 := HRS8.setW hW3l (show 3 < 6 by decide) (a := ⟨ptk, prel, ps, (t : Int) + 1, pbl, pdn + 1⟩) (u := .int .i64 ((t : Int) + 1)) (by rw [HX.out]; rfl)
                        rw [List.set_set] at HRS9
                        have HRS9 := Lib.hid HRS9
                        have b9 := b8.setCell (p := ⟨g, o + b * 6 + 3, none⟩) hNg (.int .i64 ((t : Int) + 1))
                        have hgl8 : g < (w7.drewN nq).heap.size := hgl
                        clear HRS8 HRS3 b7 b8 c0 c1 c2 c3 c4 c5 e0 cf hgl htw HX hW3l
                        generalize w7.drewN nq = w8 at *
                        go_upto_region 34 with fail
                        clear cf3 k3 hgl8
                        generalize w8.setCell ⟨g, o + b * 6 + 3, none⟩ (.int .i64 ((t : Int) + 1)) = w9 at *
                        have hW4l : b < (W1.set b ⟨ptk, prel, ps, (t : Int) + 1, pbl, pdn + 1⟩).length := by rw [List.length_set]; exact hW1l
                        obtain ⟨c0, c1, c2, c3, c4, c5, cf, hgl⟩ := HRS9.out.cells hW4l
                        rw [rat_set hW1l, if_pos rfl] at c0 c1 c2 c3 c4 c5
                        simp only at c0 c1 c2 c3 c4 c5
                        obtain ⟨v2, w10, hrun, ⟨tg2, hrs2⟩, hb2⟩ := HRS9.out.pushO b9.size (rjob ⟨ptk, prel, ps, (t : Int) + 1, pbl, pdn + 1⟩) (by omega)
                        simp only [rjob] at hrun
                        have HR2 := Lib.hid hrs2
                        have b10 := b9.trans hb2
                        clear hrs2 hb2 HRS9 b9
                        go_wp2_with (at_builtin; refine wpList_append_by rfl (.tmp 191) (.tmp 197) 54 rfl u11 (.slice (some ⟨w9.heap.size, 0, none⟩) 1 1) _ w10 rfl rfl hrun ?_)
                        go_roundw
                        case rel => exact ⟨t + 1, tg2, ys, by go_num, by omega, hxs', by rw [HS8.out]; exact HR2.out, b10⟩
                        case measure => simp [intOf]; omega
                      · have hq : (pdn + 1 == cst) = false := beq_eq_false_iff_ne.2 hcc
                        have HS8 := Lib.hid (HS9.out.trans (if_neg hcc))
                        clear HS9 hcc
                        go_wp2_with fail
                        go_quiet (fail)
                        have HRS8 := Lib.hid (HRS3.out.below (below_drewN (Below.refl _ w7) nq))
                        have b8 := below_drewN b7 nq
                        clear HRS3 b7 c0 c1 c2 c3 c4 c5 e0 cf hgl htw HX hW3l
                        generalize w7.drewN nq = w8 at *
                        go_wp2_with fail
                        go_roundw
                        case rel => exact ⟨t + 1, tg', ys, by go_num, by omega, hxs', by rw [HS8.out]; exact HRS8.out, b8⟩
                        case measure => simp [intOf]; omega
        · obtain rfl : t = un := by omega
          have HJ := hrs.out.wo
          rw [HRUN.out] at HJ
          obtain ⟨oa, oc, rfl, z1, z2, z3⟩ := rjobs_of_win HJ
          have HZ := Lib.hid z3
          clear HJ hrs z3
          go_wp2_with fail
          go_ret2
          exact HPS.out _ _ ⟨oa, oc, _, rfl, z1, z2, HZ.out, hbl⟩
end Go.Proofs.Ytkedcnemldjbeaa
