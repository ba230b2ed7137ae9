/- The walk over the closure 'push' of augment. Conditions: the variables that it reaches lie in memory. -/
import Derived.Test.YtfoadipocpopiaaGreatFlowM
import Derived.Outline
import Derived.StillTailTactics
import Derived.Deep.DeepCutAuto
import Derived.Deep.RegionLaw
import Derived.Deep.LoopGhost
namespace Go.Proofs.YtfoadipocpopiaaGreat
open Go.RowKit Go.Deep

def PushPost (b : FB) (tg : Nat → Nat) (c : Nat → Nat → Int) (u : Nat) (lim : Int) (w : World) (s : St) (e : Ending) (w' : World) : Prop :=
  ∃ x s', e = .returned (.int .i64 x) ∧ x ≤ lim ∧ PR b.n c b.lv b.t u x s s' ∧ AW b tg w' s' ∧ Kept tg w w' ∧ (x < lim → u ≠ b.t ∧ b.n ≤ s'.nx u)

theorem res_bd {n : Nat} {c r : Nat → Nat → Int} {ex : Nat → Int} (h : Res n c r ex) (hc : ∀ p q, p < n → q < n → 0 ≤ c p q ∧ c p q ≤ 1073741824) {p q : Nat} (hp : p < n) (hq : q < n) : 0 ≤ r p q ∧ r p q ≤ 2147483648 := by
  have := h.nonneg p q hp hq
  have := h.nonneg q p hq hp
  have := h.pair p q hp hq
  have := hc p q hp hq
  have := hc q p hq hp
  omega

theorem AW.next {b : FB} {tg : Nat → Nat} {w : World} {s : St} (h : AW b tg w s) (u v : Nat) : AW b tg (w.setCell ⟨b.NB, u, none⟩ (.int .i64 ((v : Int) + 1))) ⟨s.r, updN s.nx u (v + 1)⟩ := by
  have := h.setN (u := u) (v + 1)
  rwa [Int.natCast_add] at this

/-- What v took. -/
def Got (b : FB) (tg : Nat → Nat) (c : Nat → Nat → Int) (v : Nat) (room cap : Int) (w0 : World) (s1 : St) (xv : Value) (w : World) : Prop :=
  ∃ x s2, xv = .int .i64 x ∧ x ≤ room ∧ x ≤ cap ∧ PR b.n c b.lv b.t v x s1 s2 ∧ AW b tg w s2 ∧ Kept tg w0 w ∧ (x = room ∨ x = cap ∨ (v ≠ b.t ∧ b.n ≤ s2.nx v))

set_option maxRecDepth 100000 in
set_option maxHeartbeats 6400000 in
theorem push_any (b : FB) (tg : Nat → Nat) (c : Nat → Nat → Int) (hn : b.n ≤ 402) (ht : b.t < b.n) (hlc : b.n ≤ b.lc) (hcb : ∀ p q, p < b.n → q < b.n → 0 ≤ c p q ∧ c p q ≤ 1073741824) (hlv : ∀ v, v < b.n → -1 ≤ b.lv v ∧ b.lv v < b.n) :
    ∀ (k : Nat) (u : Nat) (lim : Int) (s : St) (ex : Nat → Int) (w : World), u < b.n → 0 ≤ b.lv u → (b.n - b.lv u).toNat ≤ k → 0 ≤ lim → lim ≤ 429496729600 → Res b.n c s.r ex → Blk b.n b.lv b.t s → AW b tg w s →
      Calls Tryz.prog 84 #[.int .i64 u, .int .i64 lim, .pointer (some ⟨b.bs, 0, none⟩), .pointer (some ⟨b.bn, 0, none⟩), .pointer (some ⟨b.br, 0, none⟩), .pointer (some ⟨b.bl, 0, none⟩), .pointer (some ⟨b.bp, 0, none⟩)] w (PushPost b tg c u lim w s) := by
  intro k
  induction k with
  | zero => intro u lim s ex w hu hl0 hk; have := hlv u hu; omega
  | succ k ih =>
    intro u lim s ex w hu hl0 hk lim0 lim1 hres hblk hw
    have IH := Lib.hid ih
    have HLV := Lib.hid hlv
    have HCB := Lib.hid hcb
    have HRES := Lib.hid hres
    have HBLK := Lib.hid hblk
    have HW := Lib.hid hw
    have hnI : (b.n : Int) ≤ 402 := by omega
    have huI : (u : Int) < (b.n : Int) := by omega
    have hu0 : (0 : Int) ≤ (u : Int) := by omega
    have cs := hw.cs
    have bsl := World.block_lt_of_cell? w _ cs
    clear ih hlv hcb hres hblk hw
    by_cases hut : u = b.t
    · have hq : ((u : Int) == (b.t : Int)) = true := by simp [hut]
      have HUT := Lib.hid hut
      clear hut
      go_enter Tryz.func84, Tryz.ntmps84
      go_wp2_with fail
      go_ret
      exact ⟨lim, s, rfl, Int.le_refl _, by rw [HUT.out]; exact PR.sink _ _ _ _ lim0 s, HW.out, Kept.refl _ _, fun h => absurd h (Int.lt_irrefl _)⟩
    · have hq : ((u : Int) == (b.t : Int)) = false := beq_eq_false_iff_ne.2 (by omega)
      have HUT := Lib.hid hut
      clear hut
      go_enter Tryz.func84, Tryz.ntmps84
      go_upto_region 3 with fail
      go_wp2_with fail
      go_loopg [10] (b.n + 1) (fun g sent wr => ∃ (a : Int) (s1 : St), sent = .int .i64 a ∧ a ≤ lim ∧ b.n + 1 ≤ s1.nx u + g ∧ Hid (PR b.n c b.lv b.t u a s s1) ∧ Hid (AW b tg wr s1) ∧ Kept tg w wr)
      case atStart => exact ⟨0, s, rfl, lim0, by omega, PR.refl _ _ _ _ _ _, HW.out, Kept.refl _ _⟩
      case round =>
        obtain ⟨a, s1, rfl, ha, hg, hpr, haw, hkp⟩ := hrel
        have hbk := hpr.out.blk HBLK.out
        have hnu := hbk.le u hu
        have hrs := hpr.out.res _ HRES.out
        have cn := haw.out.cn
        have cr := haw.out.cr
        have cx := haw.out.nxt.cell hu
        have cf := haw.out.nxt.frozen u
        have HBK := Lib.hid hbk
        have HRS := Lib.hid hrs
        have a0 := hpr.out.pos
        clear hbk hrs
        obtain ⟨v, hv⟩ : ∃ v, s1.nx u = v := ⟨_, rfl⟩
        rw [hv] at cx hnu hg
        have HV := Lib.hid hv
        clear hv
        by_cases hvn : v < b.n
        · have d1 : decide (v < b.n) = true := decide_eq_true hvn
          have v1 : (v : Int) < (b.n : Int) := by omega
          have v0 : (0 : Int) ≤ (v : Int) := by omega
          by_cases hal : a < lim
          · have d2 : decide (a < lim) = true := decide_eq_true hal
            go_wp2_with fail
            go_quiet (fail)
            go_wp2_with fail
            have HW7 := Lib.hid (haw.out.drewN nq)
            have hk7 := hkp.drewN nq
            clear cn cr cx cf haw hkp d1 d2
            generalize wr.drewN nq = w7 at *
            have cr := HW7.out.cr
            have cl := HW7.out.cl
            have co := HW7.out.out u hu
            have c1 := (HW7.out.row u hu).cell hvn
            have c2 := HW7.out.lev u hu
            have c3 := HW7.out.lev v hvn
            have crl := World.block_lt_of_cell? w7 _ cr
            have cll := World.block_lt_of_cell? w7 _ cl
            have col := World.block_lt_of_cell? w7 _ co
            have c1l := World.block_lt_of_cell? w7 _ c1
            have c2l := World.block_lt_of_cell? w7 _ c2
            obtain ⟨l1, l2⟩ := HLV.out u hu
            obtain ⟨l3, l4⟩ := HLV.out v hvn
            obtain ⟨r1, r2⟩ := res_bd HRS.out HCB.out hu hvn
            have wl : IntKind.i64.wrap (b.lv u + 1) = b.lv u + 1 := IntWalk.i64_in _ (by omega)
            obtain ⟨ru, hru⟩ : ∃ ru, s1.r u v = ru := ⟨_, rfl⟩
            have HRU := Lib.hid hru
            rw [hru] at c1 r1 r2
            clear hru
            by_cases hr0 : ru = 0
            · have hd := HV.out
              have HSK := Lib.hid (hpr.out.skip (by rw [HV.out]; exact hvn) (.inl (by rw [HV.out, HRU.out]; exact hr0)))
              subst hr0
              clear hd wl
              go_wp2_with fail
              go_quiet (fail)
              have HW8 := Lib.hid (HW7.out.drewN nq)
              have hk8 := hk7.drewN nq
              clear cr cl co c1 c2 c3 HW7 hk7
              generalize w7.drewN nq = w8 at *
              have cn := HW8.out.cn
              have cx := HW8.out.nxt.cell hu
              rw [HV.out] at cx
              have cf := HW8.out.nxt.frozen u
              have HW9 := Lib.hid (HW8.out.next u v)
              have tn := HW8.out.tN
              go_wp2_with fail
              go_roundg (gk - 1)
              case measure => omega
              case rel => exact ⟨a, ⟨s1.r, updN s1.nx u (v + 1)⟩, rfl, ha, by show b.n + 1 ≤ updN s1.nx u (v + 1) u + (gk - 1); simp only [updN, if_true]; omega, by have h := HSK.out; rw [HV.out] at h; exact h, HW9.out, hk8.setCell (a := ⟨b.NB, u, none⟩) (by show tg b.NB ≠ 0; rw [tn]; decide) _⟩
            · have hq0 : (ru == 0) = false := beq_eq_false_iff_ne.2 hr0
              by_cases hlvl : b.lv v = b.lv u + 1
              · have q1 : (b.lv v == b.lv u + 1) = true := beq_iff_eq.2 hlvl
                have q2 : (b.lv v != b.lv u + 1) = false := by simp [hlvl]
                have HL := Lib.hid hlvl
                clear hlvl
                go_wp2_with fail
                go_quiet (fail)
                have HW8 := Lib.hid (HW7.out.drewN nq)
                have hk8 := hk7.drewN nq
                clear cr cl co c1 c2 c3 HW7 hk7 q1 q2 wl
                generalize w7.drewN nq = w8 at *
                have cp := HW8.out.cp
                have cr := HW8.out.cr
                have co := HW8.out.out u hu
                have c1 := (HW8.out.row u hu).cell hvn
                rw [HRU.out] at c1
                have hlv0 : 0 ≤ b.lv v := by have := HL.out; omega
                have hmes : (b.n - b.lv v).toNat ≤ k := by have := HL.out; omega
                have CALL : ∀ (ask : Int), 0 ≤ ask → ask ≤ lim - a → ask ≤ ru → (ask = lim - a ∨ ask = ru) → ∀ W, AW b tg W s1 → Kept tg w W → Calls Tryz.prog 84 #[.int .i64 v, .int .i64 ask, .pointer (some ⟨b.bs, 0, none⟩), .pointer (some ⟨b.bn, 0, none⟩), .pointer (some ⟨b.br, 0, none⟩), .pointer (some ⟨b.bl, 0, none⟩), .pointer (some ⟨b.bp, 0, none⟩)] W fun e W' => ∃ x, e = .returned (.int .i64 x) ∧ Got b tg c v (lim - a) ru w s1 (.int .i64 x) W' := fun ask z1 z2 z3 z4 W hW hK => by
                  refine (IH.out v ask s1 _ W hvn hlv0 hmes z1 (by omega) HRS.out HBK.out hW).mono ?_
                  rintro e W' ⟨x, s2, rfl, y1, y2, y3, y4, y5⟩
                  refine ⟨x, rfl, x, s2, rfl, by omega, by omega, y2, y3, hK.trans y4, ?_⟩
                  by_cases hx : x = ask
                  · rcases z4 with h | h
                    · exact .inl (by omega)
                    · exact .inr (.inl (by omega))
                  · exact .inr (.inr (y5 (by omega)))
                have CALL := Lib.hid CALL
                clear hlv0 hmes
                go_upto_region 8 with fail
                go_cut [12] (fun xv wx => Got b tg c v (lim - a) ru w s1 xv wx)
                case first =>
                  have wl : IntKind.i64.wrap (lim - a) = lim - a := IntWalk.i64_in _ (by omega)
                  by_cases hle : lim - a ≤ ru
                  · go_still_tail 13, (by kernel_rfl)
                    change wpList _ _ _ _ _ w8.drew
                    have HW9 := Lib.hid HW8.out.drew
                    have hk9 := hk8.drew
                    clear cp cr co c1 wl HW8 hk8
                    generalize w8.drew = w9 at *
                    go_wp2_with fail
                    refine (CALL.out _ (by omega) (by omega) (by omega) (by omega) _ HW9.out hk9).mono ?_
                    rintro e w10 ⟨x, rfl, hgot⟩
                    have HG := Lib.hid hgot
                    clear hgot
                    go_wp2_with fail
                    go_meet
                    case rel => exact HG.out
                  · go_still_tail 13, (by kernel_rfl)
                    change wpList _ _ _ _ _ w8.drew
                    have HW9 := Lib.hid HW8.out.drew
                    have hk9 := hk8.drew
                    clear cp cr co c1 wl HW8 hk8
                    generalize w8.drew = w9 at *
                    go_wp2_with fail
                    refine (CALL.out _ (by omega) (by omega) (by omega) (by omega) _ HW9.out hk9).mono ?_
                    rintro e w10 ⟨x, rfl, hgot⟩
                    have HG := Lib.hid hgot
                    clear hgot
                    go_wp2_with fail
                    go_meet
                    case rel => exact HG.out
                case rest =>
                  obtain ⟨x, s2, rfl, hx1, hx2, hpr2, haw2, hk2, hful⟩ := hcut
                  obtain ⟨w10, rfl⟩ : ∃ w10 : World, w10 = wc := ⟨_, rfl⟩
                  have x0 := hpr2.pos
                  have hne : u ≠ v := by intro e; have := HL.out; rw [e] at this; omega
                  have e1 : s2.r u v = ru := (hpr2.fr u v hu hvn (.inl (by have := HL.out; omega))).trans HRU.out
                  have e2 : s2.nx u = v := (hpr2.fn u hu (by have := HL.out; omega)).trans HV.out
                  obtain ⟨t1, t2⟩ := res_bd (hpr2.res _ HRS.out) HCB.out hvn hu
                  have HPR := Lib.hid (hpr.out.edge hu hvn HL.out hpr2 (by rw [HRU.out]; exact hx2))
                  have HW11 := Lib.hid (haw2.setR hu hvn (ru - x))
                  have HW12 := Lib.hid ((haw2.setR hu hvn (s2.r u v - x)).setR hvn hu (s2.r v u + x))
                  rw [push1_upd2 hne, e1] at HW12
                  have hru1 : upd2 s2.r u v (ru - x) v u = s2.r v u := by simp [upd2, Ne.symm hne]
                  have HR1 := Lib.hid hru1
                  have E1 := Lib.hid e1
                  have E2 := Lib.hid e2
                  have HFUL := Lib.hid hful
                  have cr := haw2.cr
                  have co := haw2.out u hu
                  have c1 := (haw2.row u hu).cell hvn
                  rw [e1] at c1
                  have cf := (haw2.row u hu).frozen (b.F u + v)
                  have tu := haw2.tB u hu
                  have tv := haw2.tB v hvn
                  have hk12 := (hk2.setCell (a := ⟨b.B u, b.F u + v, none⟩) (by show tg (b.B u) ≠ 0; rw [tu]; omega) (.int .i64 (ru - x))).setCell (a := ⟨b.B v, b.F v + u, none⟩) (by show tg (b.B v) ≠ 0; rw [tv]; omega) (.int .i64 (s2.r v u + x))
                  clear hru1 e1 e2 haw2 hful hpr2 HW8 hk8
                  go_upto_region 10 with fail
                  clear cr co c1 cf
                  generalize w10.setCell ⟨b.B u, b.F u + v, none⟩ (.int .i64 (ru - x)) = w11 at *
                  have cr := HW11.out.cr
                  have co := HW11.out.out v hvn
                  have c1 := (HW11.out.row v hvn).cell hu
                  rw [show (St.mk (upd2 s2.r u v (ru - x)) s2.nx).r v u = s2.r v u from HR1.out] at c1
                  have cf := (HW11.out.row v hvn).frozen (b.F v + u)
                  have crl := World.block_lt_of_cell? w11 _ cr
                  have col := World.block_lt_of_cell? w11 _ co
                  have c1l := World.block_lt_of_cell? w11 _ c1
                  clear hk2 HW11 HR1
                  generalize hyy : s2.r v u = yy at *
                  have HYY := Lib.hid hyy
                  clear hyy
                  by_cases hal : a + x = lim
                  · have d1 : (a + x == lim) = true := beq_iff_eq.2 hal
                    have HAL := Lib.hid hal
                    clear hal
                    go_wp2_with fail
                    go_ret
                    exact ⟨a + x, ⟨push1 s2.r u v x, s2.nx⟩, rfl, by have := HAL.out; omega, HPR.out, HW12.out, hk12, fun h => absurd h (by have := HAL.out; omega)⟩
                  · have d1 : (a + x == lim) = false := beq_eq_false_iff_ne.2 hal
                    have HSK := Lib.hid (HPR.out.skip (by show s2.nx u < b.n; rw [E2.out]; exact hvn) (by
                      show push1 s2.r u v x u (s2.nx u) = 0 ∨ b.lv (s2.nx u) ≠ b.lv u + 1 ∨ (s2.nx u ≠ b.t ∧ b.n ≤ s2.nx (s2.nx u))
                      rw [E2.out]
                      rcases HFUL.out with h | h | h
                      · exact absurd h (by omega)
                      · left
                        simp only [push1, and_self, if_true, E1.out, if_neg (show ¬ (u = v ∧ v = u) from fun e => hne e.1)]
                        omega
                      · exact .inr (.inr h)))
                    go_upto_region 5 with fail
                    clear cr co c1 cf hal d1
                    generalize w11.setCell ⟨b.B v, b.F v + u, none⟩ (.int .i64 (yy + x)) = w12 at *
                    have cn := HW12.out.cn
                    have cx := HW12.out.nxt.cell hu
                    rw [show (St.mk (push1 s2.r u v x) s2.nx).nx u = v from E2.out] at cx
                    have cf := HW12.out.nxt.frozen u
                    have HW13 := Lib.hid (HW12.out.next u v)
                    have tn := HW12.out.tN
                    go_wp2_with fail
                    go_roundg (gk - 1)
                    case measure => omega
                    case rel => exact ⟨a + x, ⟨push1 s2.r u v x, updN s2.nx u (v + 1)⟩, rfl, by omega, by show b.n + 1 ≤ updN s2.nx u (v + 1) u + (gk - 1); simp only [updN, if_true]; omega, by have h := HSK.out; rw [show (St.mk (push1 s2.r u v x) s2.nx).nx u = v from E2.out] at h; exact h, HW13.out, hk12.setCell (a := ⟨b.NB, u, none⟩) (by show tg b.NB ≠ 0; rw [tn]; decide) _⟩
              · have q1 : (b.lv v == b.lv u + 1) = false := beq_eq_false_iff_ne.2 hlvl
                have q2 : (b.lv v != b.lv u + 1) = true := by simp [hlvl]
                have HSK := Lib.hid (hpr.out.skip (by rw [HV.out]; exact hvn) (.inr (.inl (by rw [HV.out]; exact hlvl))))
                clear hlvl
                go_wp2_with fail
                go_quiet (fail)
                have HW8 := Lib.hid (HW7.out.drewN nq)
                have hk8 := hk7.drewN nq
                clear cr cl co c1 c2 c3 HW7 hk7 q1 q2 wl
                generalize w7.drewN nq = w8 at *
                have cn := HW8.out.cn
                have cx := HW8.out.nxt.cell hu
                rw [HV.out] at cx
                have cf := HW8.out.nxt.frozen u
                have HW9 := Lib.hid (HW8.out.next u v)
                have tn := HW8.out.tN
                go_wp2_with fail
                go_roundg (gk - 1)
                case measure => omega
                case rel => exact ⟨a, ⟨s1.r, updN s1.nx u (v + 1)⟩, rfl, ha, by show b.n + 1 ≤ updN s1.nx u (v + 1) u + (gk - 1); simp only [updN, if_true]; omega, by have h := HSK.out; rw [HV.out] at h; exact h, HW9.out, hk8.setCell (a := ⟨b.NB, u, none⟩) (by show tg b.NB ≠ 0; rw [tn]; decide) _⟩
          · have d2 : decide (a < lim) = false := decide_eq_false hal
            go_wp2_with fail
            go_quiet (fail)
            go_wp2_with fail
            go_ret
            exact ⟨a, s1, rfl, ha, hpr.out, haw.out.drewN _, hkp.drewN _, fun h => absurd h (by omega)⟩
        · have d1 : decide (v < b.n) = false := decide_eq_false hvn
          go_wp2_with fail
          go_quiet (fail)
          go_wp2_with fail
          go_ret
          exact ⟨a, s1, rfl, ha, hpr.out, haw.out.drewN _, hkp.drewN _, fun _ => ⟨HUT.out, by rw [HV.out]; omega⟩⟩
end Go.Proofs.YtfoadipocpopiaaGreat
