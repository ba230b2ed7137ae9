/- The walks over response.Response and its closure. Conditions: the tasks lie in memory. -/
import Derived.Test.YtkedcnemldjbeaaRespPlain
namespace Go.Proofs.Ytkedcnemldjbeaa
open Go.RowKit

theorem ctAt_get {l : List CT} {i : Nat} (h : i < l.length) : l[i]? = some (ctAt l i) := by
  rw [ctAt, List.getD_eq_getElem?_getD, List.getElem?_eq_getElem h]; rfl
theorem ctAt_mem {l : List CT} {i : Nat} (h : i < l.length) : ctAt l i ∈ l := List.mem_of_getElem? (ctAt_get h)

set_option maxRecDepth 100000 in
set_option maxHeartbeats 3200000 in
theorem right_any (l : List CT) (b off cap i : Nat) (B v : Int) (lb ib bb : Nat) (w : World) (hl : l.length ≤ cap) (hcap : cap ≤ 9223372036854775807) (hc : TasksAt w w.heap.size (some ⟨b, off, none⟩) l) (hv : validL l = true) (hi : i < l.length)
    (v0 : 0 ≤ v) (v1 : v ≤ 100000) (B0 : 0 ≤ B) (B1 : B ≤ 1000) (hlb : w.cell? ⟨lb, 0, none⟩ = some (.slice (some ⟨b, off, none⟩) l.length cap)) (hib : w.cell? ⟨ib, 0, none⟩ = some (.int .i64 i)) (hbb : w.cell? ⟨bb, 0, none⟩ = some (.int .i64 B)) :
    Calls Try.prog 46 #[.int .i64 v, .pointer (some ⟨lb, 0, none⟩), .pointer (some ⟨ib, 0, none⟩), .pointer (some ⟨bb, 0, none⟩)] w
      fun e w' => e = .returned (.int .i64 (rhs l i ((ctAt l i).c + B) v)) ∧ Below w.heap.size w w' := by
  obtain ⟨h20, hok⟩ := validL_bd hv
  obtain ⟨b', off', e, hbN, hcell⟩ := hc (by intro e; subst e; simp at hi)
  simp only [Option.some.injEq, Addr.mk.injEq] at e
  obtain ⟨rfl, rfl, _⟩ := e
  obtain ⟨c0, _, _, _, _, _, _, _⟩ := hcell i _ (ctAt_get hi)
  obtain ⟨⟨t1, t2, _⟩, _⟩ := okT_bd (hok _ (ctAt_mem hi))
  obtain ⟨n0, n1⟩ := intL_bd v0 v1 (l := l.take i) (fun t ht => hok t (List.mem_of_mem_take ht))
  have n2 : ((l.take i).length : Int) ≤ 20 := by rw [List.length_take]; omega
  have l1 := World.block_lt_of_cell? w _ hlb
  have l2 := World.block_lt_of_cell? w _ hib
  have l3 := World.block_lt_of_cell? w _ hbb
  have hi0 : (0 : Int) ≤ (i : Int) := by omega
  have hi1 : (i : Int) < (l.length : Int) := by omega
  have HF := Lib.hid (show rhs l i ((ctAt l i).c + B) v = (ctAt l i).c + B + intL v 0 (l.take i) from rfl)
  have HV := Lib.hid hv
  have HC := Lib.hid hc
  have wa : IntKind.i64.wrap ((ctAt l i).c + B) = (ctAt l i).c + B := IntWalk.i64_in _ (by omega)
  have wb : IntKind.i64.wrap ((ctAt l i).c + B + intL v 0 (l.take i)) = (ctAt l i).c + B + intL v 0 (l.take i) := IntWalk.i64_in _ (by omega)
  clear hcell hok hv hc
  generalize (ctAt l i).c = c at *
  go_enter Try.func46, Try.ntmps46
  go_wp2_with fail
  refine wp_region_quiet (C := fun W => Below w.heap.size w W) (by kernel_rfl) (by kernel_rfl) (Below.refl _ _).drew ?_
  repeat (
    refine wpQuiet_step (fun K hK => ?_)
    go_simp
    first
      | (refine hK _ ?_; clear hK K)
      | (apply Exists.intro
         refine ⟨fun W q0 => ?_, hK _ ?_⟩
         (first
           | rfl
           | (have qc := (bcell q0).1; go_simp; rfl)
           | (go_at_call 47; ((with_reducible refine (interference_any l b off cap i v _ hl hcap (HC.out.on q0 q0.size) HV.out (by omega) v0 v1).mono ?_)); rintro e w5 ⟨rfl, hb5⟩; exact ⟨rfl, q0.trans (hb5.mono q0.size)⟩))
         clear hK K))
  refine wpQuiet_nil ?_
  intro W hW
  go_wp2_with fail
  go_ret
  exact ⟨ret_int HF.out.symm, hW⟩
end Go.Proofs.Ytkedcnemldjbeaa
