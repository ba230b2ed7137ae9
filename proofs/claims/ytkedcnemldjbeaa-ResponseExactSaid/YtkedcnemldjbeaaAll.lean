/- The walks over response.All and response.Schedulable. Conditions: the tasks lie in memory. -/
import Derived.Test.YtkedcnemldjbeaaResp2
import Derived.Test.YtkedcnemldjbeaaOwn
namespace Go.Proofs.Ytkedcnemldjbeaa
open Go.RowKit

def lateB (l : List CT) : Bool := (List.range l.length).any fun i : Nat => respE l (i : Int) != 0
def respL (l : List CT) (k : Nat) : List Int := (List.range k).map fun i : Nat => respR l (i : Int)
theorem respL_succ (l : List CT) (k : Nat) : respL l (k + 1) = respL l k ++ [respR l k] := by simp [respL, List.range_succ]
theorem respL_len (l : List CT) (k : Nat) : (respL l k).length = k := by simp [respL]
theorem respE_21 {l : List CT} {k : Nat} (hv : validL l = true) (hk : k < l.length) : respE l k = 0 ∨ respE l k = 21 := by
  have hx : exB l k = true := by simp [exB, hv]; omega
  simp only [respE, hv, hx, if_true]
  split <;> simp
theorem late_yes {l : List CT} {k : Nat} (hk : k < l.length) (h : respE l k ≠ 0) : lateB l = true := by
  rw [lateB, List.any_eq_true]; exact ⟨k, List.mem_range.2 hk, by simp [h]⟩
theorem late_no {l : List CT} (h : ∀ j, j < l.length → respE l (j : Int) = 0) : lateB l = false := by
  rw [lateB, List.any_eq_false]; intro k hk; simp [h k (List.mem_range.1 hk)]

def AllPost (l : List CT) (w : World) (e : Ending) (w' : World) : Prop :=
  Below w.heap.size w w' ∧ ((validL l = false ∧ e = .returned (.tuple #[.slice none 0 0, .int .i64 1])) ∨ (validL l = true ∧ lateB l = true ∧ e = .returned (.tuple #[.slice none 0 0, .int .i64 21])) ∨
    (validL l = true ∧ lateB l = false ∧ ∃ a cap, e = .returned (.tuple #[.slice a l.length cap, .int .i64 0]) ∧ IntsAt w' w'.heap.size a (respL l l.length) ∧ l.length ≤ cap ∧ cap ≤ 9223372036854775807))

set_option maxRecDepth 100000 in
set_option maxHeartbeats 6400000 in
theorem all_any (l : List CT) (a : Option Addr) (cap : Nat) (w : World) (hl : l.length ≤ cap) (hcap : cap ≤ 9223372036854775807) (hc : TasksAt w w.heap.size a l) :
    Calls Try.prog 23 #[.slice a l.length cap] w (AllPost l w) := by
  have hlen : (l.length : Int) ≤ 9223372036854775807 := by omega
  cases hv : validL l
  · have HV := Lib.hid hv
    clear hv
    go_enter Try.func23, Try.ntmps23
    go_wp2_with fail
    refine (valid_any l a cap _ (by omega) hc).mono ?_
    rintro e w1 ⟨rfl, hb1⟩
    rw [HV.out]
    go_wp2_with fail
    go_ret2
    exact ⟨hb1, .inl ⟨HV.out, rfl⟩⟩
  · have HV := Lib.hid hv
    obtain ⟨h20, -⟩ := validL_bd hv
    have H21 := Lib.hid (fun k hk => respE_21 (k := k) hv hk)
    clear hv
    go_enter Try.func23, Try.ntmps23
    go_wp2_with fail
    refine (valid_any l a cap _ (by omega) hc).mono ?_
    rintro e w1 ⟨rfl, hb1⟩
    rw [HV.out]
    obtain ⟨i0, hi0, hz0, hz1, hz2⟩ := info_parts info_int
    obtain ⟨w2, hmk, hown, hg⟩ := run_make_own (P := Try.prog) w1 w1.heap.size 35 3 i0 (.int .i64 0) 1 Try.underlying35 hi0 hz0 hz1 .i64 .i64 l.length (by rw [hz2]; omega) (by unfold maxLen; omega) (Nat.le_refl _)
    have hs1 := hb1.size
    have b2 : Below w.heap.size w w2 := hb1.grown hg (by omega) (fun x hx => by cases hx)
    have hs2 := hg.size
    have hown := Lib.hid (show w2.ownsRow w.heap.size 3 1 (.slice (some ⟨w1.heap.size, 0, none⟩) 0 l.length) 0 ((respL l 0).map (Value.int .i64)) from by
      obtain ⟨q1, q2⟩ := hown
      refine ⟨q1, ?_⟩
      rcases q2 with q2 | ⟨g, cp, cur, e1, e2, e3⟩
      · exact .inl q2
      · exact .inr ⟨g, cp, cur, e1, by omega, e3⟩)
    clear hi0 hz0 hz1 hz2 hb1 hg
    go_wp2_with fail
    clear hmk
    go_loopw [16, 4] (fun u v wr => ∃ k : Nat, u = .int .i64 k ∧ k ≤ l.length ∧ Hid (∀ j, j < k → respE l (j : Int) = 0) ∧ Hid (wr.ownsRow w.heap.size 3 1 v k ((respL l k).map (Value.int .i64))) ∧ Below w.heap.size w wr) (fun u _ _ => l.length - (intOf u).toNat)
    case atStart => exact ⟨0, rfl, by omega, fun j hj => by omega, hown.out, b2⟩
    case round =>
      obtain ⟨k, rfl, hk, hno, hown, hbl⟩ := hrel
      have hbs := hbl.size
      by_cases hlt : k < l.length
      · have h21 := H21.out k hlt
        go_wp2_with fail
        refine (response_any l a cap k _ hl hcap (hc.on hbl hbs)).mono ?_
        rintro e w3 ⟨rfl, hb3⟩
        have hs3 := hb3.size
        have b3 := hbl.trans (hb3.mono hbs)
        by_cases he : respE l k = 0
        · have hq : (respE l k != 0) = false := by simp [he]
          have HE := Lib.hid he
          have hown3 := own_below hown.out hb3 (Nat.le_refl _)
          obtain ⟨v', w4, hrun, hown4, hb4⟩ := app_int hown3 (respR l k) (by omega) (by omega)
          have HOWN := Lib.hid (by rw [← respL_succ] at hown4; exact hown4)
          clear h21 he hown3 hown4 hown
          go_wp2_with (at_builtin; refine wpList_append_by rfl (.tmp 28) (.tmp 30) 35 rfl u4 (.slice (some ⟨w3.heap.size, 0, none⟩) 1 1) v' w4 rfl rfl hrun ?_)
          go_roundw
          case rel =>
            refine ⟨k + 1, by go_num, by omega, fun j hj => ?_, HOWN.out, b3.trans hb4⟩
            by_cases e : j = k
            · rw [e]; exact HE.out
            · exact hno.out j (by omega)
          case measure => simp [intOf]; omega
        · have hq : (respE l k != 0) = true := by simp [he]
          have HL := Lib.hid (late_yes hlt he)
          have HE := Lib.hid (show respE l k = 21 by omega)
          clear h21 he
          go_wp2_with fail
          go_ret2
          exact ⟨b3, .inr (.inl ⟨HV.out, HL.out, by rw [← HE.out]; rfl⟩)⟩
      · have HN := Lib.hid (late_no (l := l) (fun j hj => hno.out j (by omega)))
        have HOWN := Lib.hid (show ∃ a cap, u4 = .slice a (respL l l.length).length cap ∧ IntsAt wr wr.heap.size a (respL l l.length) ∧ (respL l l.length).length ≤ cap ∧ cap ≤ 9223372036854775807 from own_ints (by rw [show l.length = k by omega]; exact hown.out))
        go_wp2_with fail
        go_ret2
        obtain ⟨a', cap', hv4, hI, hc1, hc2⟩ := HOWN.out
        rw [respL_len] at hv4 hc1
        exact ⟨hbl, .inr (.inr ⟨HV.out, HN.out, a', cap', by rw [← hv4]; rfl, hI, hc1, hc2⟩)⟩

theorem sched_any (l : List CT) (a : Option Addr) (cap : Nat) (w : World) (hl : l.length ≤ cap) (hcap : cap ≤ 9223372036854775807) (hc : TasksAt w w.heap.size a l) :
    Calls Try.prog 24 #[.slice a l.length cap] w fun e w' => e = .returned (.bool (validL l && !lateB l)) ∧ Below w.heap.size w w' := by
  go_enter Try.func24, Try.ntmps24
  go_wp2_with fail
  refine (all_any l a cap _ hl hcap hc).mono ?_
  rintro e w1 ⟨hb1, ⟨h1, rfl⟩ | ⟨h1, h2, rfl⟩ | ⟨h1, h2, a', cap', rfl, h3, h4, h5⟩⟩
  · have H1 := Lib.hid h1
    clear h1
    go_wp2_with fail
    go_ret
    exact ⟨ret_bool (by rw [H1.out]; rfl), hb1⟩
  · have H1 := Lib.hid h1
    have H2 := Lib.hid h2
    clear h1 h2
    go_wp2_with fail
    go_ret
    exact ⟨ret_bool (by rw [H1.out, H2.out]; rfl), hb1⟩
  · have H1 := Lib.hid h1
    have H2 := Lib.hid h2
    clear h1 h2
    go_wp2_with fail
    go_ret
    exact ⟨ret_bool (by rw [H1.out, H2.out]; rfl), hb1⟩
end Go.Proofs.Ytkedcnemldjbeaa
