/- The walk over TasksetMonotone: it answers true. Conditions: the tasks lie in memory. -/
import Derived.Test.YtdjpkebajcpfbaaAwake41
import Derived.Test.YtdjpkebajcpfbaaMonoP
import Derived.Test.YtdjpkebajcpfbaaMonoA
import Derived.Deep.DeepCutAuto
namespace Go.Proofs.Ytdjpkebajcpfbaa
open Go.RowKit Go.Deep

theorem eq_modN (a b : Nat) (h : a % b = 0) : ((a : Int) % (b : Int) == 0) = true := by
  rw [← Int.natCast_emod, h]; rfl
theorem blkT' {w : World} {g : Nat} {x y z : Value} {t : TypeId} (h : w.heap[g]? = some (.cells #[x, y, z] t (0, 0))) : (w.cell? ⟨g, 0, none⟩ = some x ∧ w.cell? ⟨g, 1, none⟩ = some y ∧ w.cell? ⟨g, 2, none⟩ = some z) ∧ g < w.heap.size :=
  ⟨blkT h, (Array.getElem?_eq_some_iff.1 h).1⟩

set_option maxRecDepth 100000 in
set_option maxHeartbeats 6400000 in
theorem law_mono41 (l : List TT) (a : Option Addr) (cap : Nat) (nm : ByteArray) (c p : Int) (x : Int) (w : World) (hl : l.length ≤ cap) (hcap : cap ≤ 9223372036854775807) (hc : TSAt w w.heap.size a l) (hx : -9223372036854775808 ≤ x ∧ x ≤ 9223372036854775807) :
    Calls Try.prog 9 #[.slice a l.length cap, .agg #[.string nm, .int .i64 c, .int .i64 p], .int .i64 x] w fun e w' => e = .returned (.bool true) ∧ Below w.heap.size w w' := by
  have hll : l.length ≤ 9223372036854775807 := by omega
  have hlI : (l.length : Int) ≤ 9223372036854775807 := by omega
  have b0 := (Below.refl w.heap.size w).alloc (Nat.le_refl _) (.cells #[.string nm, .int .i64 c, .int .i64 p] 37)
  have J0 := Go.Deep.blk_alloc_new w (.cells #[.string nm, .int .i64 c, .int .i64 p] 37)
  have s0 : w.heap.size < (w.alloc (.cells #[.string nm, .int .i64 c, .int .i64 p] 37)).heap.size := by simp
  have HA := fun W => awake_any W
  by_cases h39 : l.length ≤ 39
  · have h39I : ¬ (39 : Int) < (l.length : Int) := by omega
    have HH := Lib.hid (fun W (hb : Below w.heap.size w W) => hyper_any l a cap W hll (hc.on hb hb.size))
    have HD := Lib.hid (fun W (hb : Below w.heap.size w W) => demand_any l x a cap W hll hx (hc.on hb hb.size))
    have HHM := Lib.hid (fun a' c' W (h : TSAt W W.heap.size a' (⟨nm, c, p⟩ :: l)) => hyper_any (⟨nm, c, p⟩ :: l) a' c' W (by simp; omega) h)
    have HDM := Lib.hid (fun a' c' W (h : TSAt W W.heap.size a' (⟨nm, c, p⟩ :: l)) => demand_any (⟨nm, c, p⟩ :: l) x a' c' W (by simp; omega) hx h)
    have HLM := Lib.hid (fun a' c' W (h : TSAt W W.heap.size a' (⟨nm, c, p⟩ :: l)) => load_any (⟨nm, c, p⟩ :: l) a' c' W (by simp; omega) h)
    have HHB := Lib.hid (fun a' c' W (h : TSAt W W.heap.size a' (l ++ [⟨nm, c, p⟩])) => hyper_any (l ++ [⟨nm, c, p⟩]) a' c' W (by simp; omega) h)
    have HDB := Lib.hid (fun a' c' W (h : TSAt W W.heap.size a' (l ++ [⟨nm, c, p⟩])) => demand_any (l ++ [⟨nm, c, p⟩]) x a' c' W (by simp; omega) hx h)
    have HLB := Lib.hid (fun a' c' W (h : TSAt W W.heap.size a' (l ++ [⟨nm, c, p⟩])) => load_any (l ++ [⟨nm, c, p⟩]) a' c' W (by simp; omega) h)
    have HFR := Lib.hid (fun W (hb : Below w.heap.size w W) => front_appT (nm := nm) (c := c) (p := p) (cap := cap) hc (by omega) hb)
    have HFA := Lib.hid (fun (w7 W : World) g0 (h7 : Below w.heap.size w w7) hb hg hW => first_appT (w := w7) (W := W) (a := a) (cap := cap) (g0 := g0) (l := l) (hc.on h7 h7.size) (by omega) hb hg hW)
    have HSA := Lib.hid (fun (w7 W w9 : World) v1 h40 ha hblk => second_appT (w := w7) (W := W) (w1 := w9) (v1 := v1) (h40 := h40) (nm := nm) (c := c) (p := p) (l := l) (n := 0) (by omega) ha hblk)
    have HMO := Lib.hid (fun h1 h2 => mono_all (l := l) (t := ⟨nm, c, p⟩) h1 h2)
    clear hc
    generalize (⟨nm, c, p⟩ :: l : List TT) = M at *
    generalize l ++ [(⟨nm, c, p⟩ : TT)] = B at *
    go_enter Try.func9, Try.ntmps9
    go_upto_region 1 with fail
    generalize w.alloc _ = w1 at *
    go_upto_region 3 with (go_at_call 12; refine (HA _).mono ?_; rintro e w2 ⟨rfl, hb2⟩)
    have b2 := b0.trans (hb2.mono b0.size)
    have J2 := (hb2.block _ s0).trans J0
    clear hb2 J0 b0 s0
    obtain ⟨⟨j0, j1, j2⟩, jl⟩ := blkT' J2
    obtain ⟨v1, w3, hrun, hb3, a3, c3, rfl, p1, p2, ht3⟩ := HFR.out _ b2
    have J3 := Lib.hid ((hb3.block _ jl).trans J2)
    clear J2
    go_upto_region 6 with (at_builtin; refine wpList_append_by rfl (.tmp 27) (.tmp 28) 22 rfl (.slice (some ⟨w2.heap.size, 0, none⟩) 1 1) (.slice a l.length cap) _ w3 rfl rfl hrun ?_)
    have b3 := b2.trans (hb3.mono b2.size)
    have jl3 : w.heap.size < w3.heap.size := by have := hb3.size; omega
    clear hrun hb3 b2 j0 j1 j2 jl HFR
    go_wp2_with fail
    refine (HH.out _ b3).mono ?_
    rintro e w4 ⟨rfl, hb4⟩
    have b4 := b3.trans (hb4.mono b3.size)
    have J4 := Lib.hid ((hb4.block _ jl3).trans J3.out)
    have ht4 := ht3.on hb4 hb4.size
    have jl4 : w.heap.size < w4.heap.size := by have := hb4.size; omega
    clear hb4 b3 J3 ht3 jl3
    simp only []
    go_wp2_with fail
    refine (HHM.out _ _ _ ht4).mono ?_
    rintro e w5 ⟨rfl, hb5⟩
    have b5 := b4.trans (hb5.mono b4.size)
    have J5 := Lib.hid ((hb5.block _ jl4).trans J4.out)
    have ht5 := ht4.on hb5 hb5.size
    have jl5 : w.heap.size < w5.heap.size := by have := hb5.size; omega
    clear hb5 b4 J4 ht4 jl4
    simp only []
    by_cases h1 : (hypR l).2 = 0
    · by_cases h2 : (hypR M).2 = 0
      · obtain ⟨_, _, e1⟩ := hypR_ok h1
        obtain ⟨_, _, e2⟩ := hypR_ok h2
        obtain ⟨m1, m2, m3, m4⟩ := HMO.out h1 h2
        rw [m2, e2] at HHB
        rw [m3] at HLB
        obtain ⟨x1, x2⟩ := m4 x
        rw [x2] at HDB
        rw [e1, e2]
        have hp1 := Lib.hid (eq_modN _ _ m1)
        have hpos : ¬ ((hyp l l.length : Nat) : Int) = 0 := by
          have := hyp_pos (hypR_ok h1).1 l.length (Nat.le_refl _)
          omega
        clear HH HHM HMO h1 h2 e1 e2 m1 m2 m3 m4 x2
        generalize hyp M M.length = HM at *
        generalize hyp l l.length = HL at *
        generalize demR l x = DL at *
        generalize demR M x = DM at *
        generalize (loadR M).1 = l1 at *
        generalize (loadR M).2.1 = l2 at *
        generalize (loadR M).2.2 = l3 at *
        obtain ⟨⟨j0, j1, j2⟩, jl⟩ := blkT' J5.out
        go_upto_region 10 with fail
        go_cut [12] (fun u wx => AppT2 w5 B u wx)
        case first =>
          have HFA := fun W g0 hb hg hW => HFA.out w5 W g0 b5 hb hg hW
          have HSA := fun W w9 v1 h40 ha hblk => HSA.out w5 W w9 v1 h40 ha hblk
          clear HD HDM HLM HHB HDB HLB hp1
          go_region_law (first
            | (refine step_app_ex rfl (.tmp 46) (.tmp 47) 22 (by rfl) (by rfl) (by rfl) (HFA _ _ (by first | exact ((Below.refl _ _).drew.alloc (by simp) _) | exact (((Below.refl _ _).drew.alloc (by simp) _).alloc (by simp) _)) (by simp) (by first | exact (litT (by simp)) | exact (litT (by simp)).alloc _)) ?_
               rintro v1 w1 ⟨ha, hbk⟩
               have y0 := keep_cellN ha.2.1 jl j0
               have y1 := keep_cellN ha.2.1 jl j1
               have y2 := keep_cellN ha.2.1 jl j2
               have HA1 := Lib.hid ha
               have HBK := Lib.hid hbk
               clear ha hbk)
            | (refine step_app_ex rfl (.tmp 48) (.tmp 50) 22 (by rfl) (by rfl) (by rfl) (HSA _ _ _ _ (by first | exact HA1.out | exact HA1.out.alloc _) (by first | exact blk_lies rfl | (rw [HBK.out _ (by simp) (by simp)]; exact blk_lies (by simp)) | (rw [HBK.out _ (by simp; omega) (by simp)]; show (World.alloc (World.alloc _ _) _).heap[_]? = _; rw [Below.heap_alloc _ _ _ (by simp)]; exact blk_lies (by simp)))) ?_
               rintro v2 w2 ha2
               have HA2 := Lib.hid ha2
               clear ha2))
          all_goals
            go_wp2_with fail
            go_meet
            case rel => exact HA2.out
        case rest =>
          obtain ⟨hb8, ab, cb, rfl, p3, p4, hm8⟩ := hcut
          generalize wc = w8 at *
          have b8 := b5.trans (hb8.mono b5.size)
          have ht8 := ht5.on hb8 hb8.size
          clear hb8 b5 ht5 j0 j1 j2 jl J5 jl5 HFA HSA
          go_wp2_with fail
          refine (HHB.out _ _ _ hm8).mono ?_
          rintro e w9 ⟨rfl, hb9⟩
          have b9 := b8.trans (hb9.mono b8.size)
          have ht9 := ht8.on hb9 hb9.size
          have hm9 := hm8.on hb9 hb9.size
          simp only []
          go_wp2_with fail
          refine (HLM.out _ _ _ ht9).mono ?_
          rintro e w10 ⟨rfl, hb10⟩
          have b10 := b9.trans (hb10.mono b9.size)
          have ht10 := ht9.on hb10 hb10.size
          have hm10 := hm9.on hb10 hb10.size
          simp only []
          go_wp2_with fail
          refine (HLB.out _ _ _ hm10).mono ?_
          rintro e w11 ⟨rfl, hb11⟩
          have b11 := b10.trans (hb11.mono b10.size)
          have ht11 := ht10.on hb11 hb11.size
          have hm11 := hm10.on hb11 hb11.size
          clear hb9 hb10 hb11 b8 b9 b10 ht8 ht9 ht10 hm8 hm9 hm10 HHB HLM HLB
          simp only []
          have hp1 := hp1.out
          go_wp2_with fail
          refine (HDM.out _ _ _ ht11).mono ?_
          rintro e w12 ⟨rfl, hb12⟩
          have b12 := b11.trans (hb12.mono b11.size)
          have ht12 := ht11.on hb12 hb12.size
          have hm12 := hm11.on hb12 hb12.size
          simp only []
          go_wp2_with fail
          refine (HD.out _ b12).mono ?_
          rintro e w13 ⟨rfl, hb13⟩
          have b13 := b12.trans (hb13.mono b12.size)
          have ht13 := ht12.on hb13 hb13.size
          have hm13 := hm12.on hb13 hb13.size
          simp only []
          go_wp2_with fail
          refine (HDM.out _ _ _ ht13).mono ?_
          rintro e w14 ⟨rfl, hb14⟩
          have b14 := b13.trans (hb14.mono b13.size)
          have hm14 := hm13.on hb14 hb14.size
          simp only []
          go_wp2_with fail
          refine (HDB.out _ _ _ hm14).mono ?_
          rintro e w15 ⟨rfl, hb15⟩
          have b15 := b14.trans (hb15.mono b14.size)
          clear hb12 hb13 hb14 hb15 b11 b12 b13 b14 ht11 ht12 ht13 hm11 hm12 hm13 hm14 HD HDM HDB
          simp only []
          go_wp2_with fail
          go_ret
          exact ⟨ret_bool (by simp), b15⟩
      · have h2b : ((hypR M).2 != 0) = true := by simp [h2]
        rw [h1]
        clear HMO HH HHM HD HDM HLM HHB HDB HLB HFA HSA J5 h1 h2
        generalize (hypR M).2 = e2 at *
        generalize (hypR M).1 = e3 at *
        generalize (hypR l).1 = e4 at *
        go_wp2_with fail
        go_ret
        exact ⟨rfl, b5⟩
    · have h1b : ((hypR l).2 != 0) = true := by simp [h1]
      clear HMO HH HHM HD HDM HLM HHB HDB HLB HFA HSA J5 h1
      generalize (hypR l).2 = e1 at *
      generalize (hypR M).2 = e2 at *
      generalize (hypR M).1 = e3 at *
      generalize (hypR l).1 = e4 at *
      go_wp2_with fail
      go_ret
      exact ⟨rfl, b5⟩
  · have h39I : (39 : Int) < (l.length : Int) := by omega
    clear hc
    go_enter Try.func9, Try.ntmps9
    go_upto_region 1 with fail
    generalize w.alloc _ = w1 at *
    go_wp2_with (go_at_call 12; refine (HA _).mono ?_; rintro e w2 ⟨rfl, hb2⟩)
    go_ret
    exact ⟨rfl, b0.trans (hb2.mono b0.size)⟩
end Go.Proofs.Ytdjpkebajcpfbaa
