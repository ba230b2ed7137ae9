/- The walks over response.interference and response.Interference. Conditions: the tasks lie in memory; a valid list for the inner function. -/
import Derived.Test.YtkedcnemldjbeaaBlock
namespace Go.Proofs.Ytkedcnemldjbeaa
open Go.RowKit

def intS (w : Int) (n : Int) (t : CT) : Int := n + t.c * ((w + t.p - 1) / t.p)
def intL (w : Int) (n : Int) (l : List CT) : Int := l.foldl (intS w) n
theorem intL_step {w n : Int} {l : List CT} {k : Nat} (h : k < l.length) : intL w n (l.drop k) = intL w (intS w n l[k]) (l.drop (k + 1)) := by
  rw [List.drop_eq_getElem_cons h, intL, List.foldl_cons]; rfl
theorem term_bd {c p w : Int} (c1 : 1 ≤ c) (c2 : c ≤ 1000) (p1 : 1 ≤ p) (p2 : p ≤ 1000) (w0 : 0 ≤ w) (w1 : w ≤ 100000) :
    (0 ≤ (w + p - 1) / p ∧ (w + p - 1) / p ≤ 101000) ∧ 0 ≤ c * ((w + p - 1) / p) ∧ c * ((w + p - 1) / p) ≤ 101000000 := by
  have q0 : 0 ≤ (w + p - 1) / p := Int.ediv_nonneg (by omega) (by omega)
  have q1 : (w + p - 1) / p ≤ w + p - 1 := Int.ediv_le_self _ (by omega)
  refine ⟨⟨q0, by omega⟩, Int.mul_nonneg (by omega) q0, ?_⟩
  calc c * ((w + p - 1) / p) ≤ 1000 * 101000 := Int.mul_le_mul c2 (by omega) q0 (by decide)
    _ = 101000000 := by decide
theorem wrap_div {a b : Int} (h0 : 0 ≤ a) (h1 : a ≤ 1000000000000) (hb : 1 ≤ b) : IntKind.i64.wrap (a.tdiv b) = a / b := by
  rw [Int.tdiv_eq_ediv_of_nonneg h0]
  have q0 : 0 ≤ a / b := Int.ediv_nonneg h0 (by omega)
  have q1 : a / b ≤ a := Int.ediv_le_self _ h0
  exact IntWalk.i64_in _ (by omega)

theorem TasksAt.take {w : World} {N : Nat} {a : Option Addr} {l : List CT} (h : TasksAt w N a l) (k : Nat) : TasksAt w N a (l.take k) := fun hne => by
  have hl : l ≠ [] := by intro e; subst e; simp at hne
  obtain ⟨b, off, e, hlt, hc⟩ := h hl
  refine ⟨b, off, e, hlt, fun i t hi => hc i t ?_⟩
  rw [List.getElem?_take] at hi
  split at hi
  · exact hi
  · cases hi

set_option maxRecDepth 100000 in
set_option maxHeartbeats 6400000 in
theorem interference_any (l : List CT) (b off : Nat) (cap : Nat) (i : Nat) (v : Int) (w : World) (hl : l.length ≤ cap) (_ : cap ≤ 9223372036854775807) (hc : TasksAt w w.heap.size (some ⟨b, off, none⟩) l) (hv : validL l = true) (hi : i ≤ l.length) (v0 : 0 ≤ v) (v1 : v ≤ 100000) :
    Calls Try.prog 47 #[.slice (some ⟨b, off, none⟩) l.length cap, .int .i64 i, .int .i64 v] w fun e w' => e = .returned (.int .i64 (intL v 0 (l.take i))) ∧ Below w.heap.size w w' := by
  obtain ⟨h20, hok⟩ := validL_bd hv
  have htl := Lib.hid (show (l.take i).length = i by rw [List.length_take]; omega)
  have hct := Lib.hid (hc.take i)
  have HOK := Lib.hid (fun t (ht : t ∈ l.take i) => hok t (List.mem_of_mem_take ht))
  have hi20 : i ≤ 20 := by omega
  generalize hL : l.take i = L at *
  clear hL hok hv
  go_enter Try.func47, Try.ntmps47
  go_wp2_with fail
  go_loopw [14, 7] (fun u x wr => ∃ (k : Nat) (n : Int), u = .int .i64 k ∧ x = .int .i64 n ∧ k ≤ i ∧ 0 ≤ n ∧ n ≤ 101000000 * k ∧ Hid (intL v 0 L = intL v n (L.drop k)) ∧ Below w.heap.size w wr) (fun u _ _ => i - (intOf u).toNat)
  case atStart => exact ⟨0, 0, rfl, rfl, by omega, by omega, by omega, rfl, Below.refl _ _⟩
  case round =>
    obtain ⟨k, n, rfl, rfl, hk, n0, n1, hst, hbl⟩ := hrel
    have hbs := hbl.size
    by_cases hlt : k < i
    · have hlt' : k < L.length := by have := htl.out; omega
      obtain ⟨b', off', e, hbN, hcell⟩ := hct.out (by intro e; simp [e] at hlt')
      simp only [Option.some.injEq, Addr.mk.injEq] at e
      obtain ⟨rfl, rfl, _⟩ := e
      obtain ⟨c0, c1, c2, sa, sc, c3, hsl, hss⟩ := hcell k L[k] (List.getElem?_eq_getElem hlt')
      have c0 := keep_cellN hbl (by omega) c0
      have c1 := keep_cellN hbl (by omega) c1
      have c2 := keep_cellN hbl (by omega) c2
      have c3 := keep_cellN hbl (by omega) c3
      clear hcell hss
      have HS := Lib.hid (hst.out.trans (intL_step hlt'))
      have htb := (okT_bd (HOK.out L[k] (List.getElem_mem hlt'))).1
      clear hst
      generalize L[k] = t at *
      obtain ⟨tc, tp, td, ss⟩ := t
      simp only at c0 c1 c2 c3 hsl htb
      obtain ⟨t1, t2, t3, t4, _⟩ := htb
      obtain ⟨⟨q0, q1⟩, q2, q3⟩ := term_bd t1 t2 t3 t4 v0 v1
      go_wp2_with fail
      have hbb : Below w.heap.size w (wr.alloc (.cells #[.int .i64 tc, .int .i64 tp, .int .i64 td, .slice sa ss.length sc] 30)) := hbl.alloc (by omega) _
      have e0 := World.cell?_alloc_40 wr (.int .i64 tc) (.int .i64 tp) (.int .i64 td) (.slice sa ss.length sc) 30
      have e1 := World.cell?_alloc_41 wr (.int .i64 tc) (.int .i64 tp) (.int .i64 td) (.slice sa ss.length sc) 30
      have hy : wr.heap.size < (wr.alloc (.cells #[.int .i64 tc, .int .i64 tp, .int .i64 td, .slice sa ss.length sc] 30)).heap.size := by simp
      clear c0 c1 c2 c3 hbl
      generalize wr.alloc (.cells #[.int .i64 tc, .int .i64 tp, .int .i64 td, .slice sa ss.length sc] 30) = wb at *
      have p0 : ¬ tp = 0 := by omega
      have wa : IntKind.i64.wrap (v + tp) = v + tp := IntWalk.i64_in _ (by omega)
      have wb1 : IntKind.i64.wrap (v + tp - 1) = v + tp - 1 := IntWalk.i64_in _ (by omega)
      have wd : IntKind.i64.wrap ((v + tp - 1).tdiv tp) = (v + tp - 1) / tp := wrap_div (by omega) (by omega) t3
      have wm : IntKind.i64.wrap (tc * ((v + tp - 1) / tp)) = tc * ((v + tp - 1) / tp) := IntWalk.i64_in _ (by omega)
      have ws : IntKind.i64.wrap (n + tc * ((v + tp - 1) / tp)) = n + tc * ((v + tp - 1) / tp) := IntWalk.i64_in _ (by omega)
      refine wp_region_quiet (C := fun W => Below wb.heap.size wb W) (by kernel_rfl) (by kernel_rfl) (Below.refl _ _).drew ?_
      repeat (
        refine wpQuiet_step (fun K hK => ?_)
        go_simp
        first
          | (refine hK _ ?_; clear hK K)
          | (apply Exists.intro
             refine ⟨fun W q0 => ?_, hK _ ?_⟩
             (first
               | rfl
               | (have qc := (bcell q0).1; go_simp; rfl))
             clear hK K))
      refine wpQuiet_nil ?_
      intro W hW
      have hWw : Below w.heap.size w W := hbb.trans (hW.mono (by omega))
      clear wa wb1 wd wm ws e0 e1 hbb hW
      generalize hT : tc * ((v + tp - 1) / tp) = T at *
      have HS2 := Lib.hid (show intL v 0 L = intL v (n + T) (L.drop (k + 1)) by rw [HS.out]; simp only [intS, hT])
      clear hT HS
      go_wp2_with fail
      go_roundw
      case rel => exact ⟨k + 1, n + T, by go_num, rfl, by omega, by omega, by omega, HS2.out, hWw⟩
      case measure => simp [intOf]; omega
    · have HT := Lib.hid (show intL v 0 L = n by rw [hst.out, List.drop_of_length_le (by have := htl.out; omega)]; rfl)
      clear hst
      go_wp2_with fail
      go_ret
      exact ⟨ret_int HT.out.symm, hbl⟩

def intV (l : List CT) (i v : Int) : Int := if exB l i = true ∧ 0 ≤ v ∧ v ≤ 100000 then intL v 0 (l.take i.toNat) else -1

set_option maxRecDepth 100000 in
set_option maxHeartbeats 3200000 in
theorem interfere_any (l : List CT) (a : Option Addr) (cap : Nat) (i v : Int) (w : World) (hl : l.length ≤ cap) (hcap : cap ≤ 9223372036854775807) (hc : TasksAt w w.heap.size a l) :
    Calls Try.prog 27 #[.slice a l.length cap, .int .i64 i, .int .i64 v] w fun e w' => e = .returned (.int .i64 (intV l i v)) ∧ Below w.heap.size w w' := by
  cases hx : exB l i
  · have HF := Lib.hid (show intV l i v = -1 by simp [intV, hx])
    have HX := Lib.hid hx
    clear hx
    go_enter Try.func27, Try.ntmps27
    go_wp2_with fail
    refine (exists_any l a cap i _ (by omega) hc).mono ?_
    rintro e w1 ⟨rfl, hb1⟩
    rw [HX.out]
    go_wp2_with fail
    go_ret
    exact ⟨ret_int HF.out.symm, hb1⟩
  · by_cases h0 : v < 0
    · have HF := Lib.hid (show intV l i v = -1 by rw [intV, if_neg (by omega)])
      have HX := Lib.hid hx
      clear hx
      go_enter Try.func27, Try.ntmps27
      go_wp2_with fail
      refine (exists_any l a cap i _ (by omega) hc).mono ?_
      rintro e w1 ⟨rfl, hb1⟩
      rw [HX.out]
      go_wp2_with fail
      go_ret
      exact ⟨ret_int HF.out.symm, hb1⟩
    · by_cases h1 : 100000 < v
      · have HF := Lib.hid (show intV l i v = -1 by rw [intV, if_neg (by omega)])
        have HX := Lib.hid hx
        clear hx
        go_enter Try.func27, Try.ntmps27
        go_wp2_with fail
        refine (exists_any l a cap i _ (by omega) hc).mono ?_
        rintro e w1 ⟨rfl, hb1⟩
        rw [HX.out]
        go_wp2_with fail
        go_ret
        exact ⟨ret_int HF.out.symm, hb1⟩
      · obtain ⟨hv, i0, i1⟩ := exB_true hx
        obtain ⟨n, rfl⟩ := Int.eq_ofNat_of_zero_le i0
        have HF := Lib.hid (show intV l n v = intL v 0 (l.take n) by rw [intV, if_pos ⟨hx, by omega, by omega⟩]; rfl)
        have HX := Lib.hid hx
        have HV := Lib.hid hv
        obtain ⟨b, off, rfl, hbN, -⟩ := hc (by intro e; subst e; simp at i1; omega)
        clear hx hv
        go_enter Try.func27, Try.ntmps27
        go_wp2_with fail
        refine (exists_any l _ cap n _ (by omega) hc).mono ?_
        rintro e w1 ⟨rfl, hb1⟩
        rw [HX.out]
        go_wp2_with fail
        refine (interference_any l b off cap n v _ hl hcap (hc.on hb1 hb1.size) HV.out (by omega) (by omega) (by omega)).mono ?_
        rintro e w2 ⟨rfl, hb2⟩
        go_wp2_with fail
        go_ret
        exact ⟨ret_int HF.out.symm, hb1.trans (hb2.mono hb1.size)⟩
end Go.Proofs.Ytkedcnemldjbeaa
