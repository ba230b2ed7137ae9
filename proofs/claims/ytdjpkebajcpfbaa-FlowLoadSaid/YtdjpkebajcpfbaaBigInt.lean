/- Integers of any size in memory; the walks over bigint.signed, Of, Sign, Neg. Conditions: the digits lie in memory. -/
import Derived.Test.YtdjpkebajcpfbaaBigDivS
import Derived.Test.YtdjpkebajcpfbaaBigMul
namespace Go.Proofs.Ytdjpkebajcpfbaa
open Go.RowKit Go.Deep

def sgn (ng : Bool) (v : Nat) : Int := if ng then -(v : Int) else v
/-- v is the integer z, of at most K digits, in blocks below N. -/
def IntV (w : World) (N : Nat) (v : Value) (z : Int) (K : Nat) : Prop :=
  ∃ (ng : Bool) (a : Option Addr) (n cap : Nat) (f : Nat → Nat), v = .agg #[.bool ng, .slice a n cap] ∧ n ≤ K ∧ Nrm f n ∧ n ≤ cap ∧ cap ≤ 9223372036854775807 ∧ DAt w N a n f ∧ z = sgn ng (vl f n) ∧ (ng = true → 0 < n)
section
variable {w w' : World} {N N' K K' : Nat} {v : Value} {z : Int}
theorem IntV.keep (h : IntV w N v z K) (hb : Below N w w') : IntV w' N v z K := by
  obtain ⟨ng, a, n, cap, f, e, h1, h2, h3, h4, h5, h6⟩ := h
  exact ⟨ng, a, n, cap, f, e, h1, h2, h3, h4, h5.keep hb, h6⟩
theorem IntV.more (h : IntV w N v z K) (hN : N ≤ N') : IntV w N' v z K := by
  obtain ⟨ng, a, n, cap, f, e, h1, h2, h3, h4, h5, h6⟩ := h
  exact ⟨ng, a, n, cap, f, e, h1, h2, h3, h4, h5.more hN, h6⟩
theorem IntV.on (h : IntV w N v z K) (hb : Below N w w') (hN : N ≤ w'.heap.size) : IntV w' w'.heap.size v z K := (h.keep hb).more hN
theorem IntV.wide (h : IntV w N v z K) (hK : K ≤ K') : IntV w N v z K' := by
  obtain ⟨ng, a, n, cap, f, e, h1, h6⟩ := h
  exact ⟨ng, a, n, cap, f, e, by omega, h6⟩
theorem sgn_abs (ng : Bool) (x : Nat) : (sgn ng x).natAbs = x := by unfold sgn; split <;> omega
theorem IntV.tight (h : IntV w N v z K) (hz : z.natAbs < BB ^ K') : IntV w N v z K' := by
  obtain ⟨ng, a, n, cap, f, e, h1, h2, h3, h4, h5, h6, h7⟩ := h
  refine ⟨ng, a, n, cap, f, e, ?_, h2, h3, h4, h5, h6, h7⟩
  rw [h6, sgn_abs] at hz
  rcases Nat.lt_or_ge K' n with hl | hl
  · have h8 := vl_ge h2 (by omega)
    have h9 : BB ^ K' ≤ BB ^ (n - 1) := Nat.pow_le_pow_right BB_pos (by omega)
    omega
  · exact hl
end

/-- Digits lie in no block of other cells. -/
theorem DAt.other {w w' : World} {N n g : Nat} {a : Option Addr} {f : Nat → Nat} (h : DAt w N a n f) (hg : ∀ o i, w.cell? ⟨g, o, none⟩ ≠ some (.int .u32 i)) (he : ∀ b o, b ≠ g → w'.cell? ⟨b, o, none⟩ = w.cell? ⟨b, o, none⟩) : DAt w' N a n f := fun hn => by
  obtain ⟨b, off, e, hlt, hc⟩ := h hn
  refine ⟨b, off, e, hlt, fun i hi => ?_⟩
  rw [he b (off + i) (fun e => hg (off + i) _ (e ▸ hc i hi))]
  exact hc i hi
theorem IntV.other {w w' : World} {N K g : Nat} {v : Value} {z : Int} (h : IntV w N v z K) (hg : ∀ o i, w.cell? ⟨g, o, none⟩ ≠ some (.int .u32 i)) (he : ∀ b o, b ≠ g → w'.cell? ⟨b, o, none⟩ = w.cell? ⟨b, o, none⟩) : IntV w' N v z K := by
  obtain ⟨ng, a, n, cap, f, e, h1, h2, h3, h4, h5, h6⟩ := h
  exact ⟨ng, a, n, cap, f, e, h1, h2, h3, h4, h5.other hg he, h6⟩
theorem no_u32 {w : World} {g : Nat} {u : Bool} {a : Option Addr} {n c : Nat} {t : TypeId} (h : w.heap[g]? = some (.cells #[.bool u, .slice a n c] t (0, 0))) (o : Nat) (i : Int) : w.cell? ⟨g, o, none⟩ ≠ some (.int .u32 i) := by
  simp only [World.cell?, h]
  match o with
  | 0 => simp
  | 1 => simp
  | k + 2 => simp
theorem set_other (w : World) (g i j : Nat) (x y : Value) (b o : Nat) (hb : b ≠ g) : ((w.setCell ⟨g, i, none⟩ x).setCell ⟨g, j, none⟩ y).cell? ⟨b, o, none⟩ = w.cell? ⟨b, o, none⟩ := by
  have h1 := Below.heap_setCell (w.setCell ⟨g, i, none⟩ x) ⟨g, j, none⟩ y b hb
  have h2 := Below.heap_setCell w ⟨g, i, none⟩ x b hb
  exact World.cell?_of_block (h1.trans h2)

set_option maxRecDepth 100000 in
set_option maxHeartbeats 6400000 in
theorem signed_any (ng : Bool) (n : Nat) (f : Nat → Nat) (a : Option Addr) (cap : Nat) (w : World) (hn : n ≤ 100000) (hcap : n ≤ cap) (hcm : cap ≤ 9223372036854775807) (hd : Dg f n) (hc : DAt w w.heap.size a n f) :
    Calls Try.prog 55 #[.bool ng, .slice a n cap] w fun e w' => ∃ v, e = .returned v ∧ IntV w' w'.heap.size v (sgn ng (vl f n)) n ∧ Below w.heap.size w w' := by
  have b1 := (Below.refl w.heap.size w).alloc (Nat.le_refl _) (.cells #[.bool false, .slice none 0 0] 54)
  have HT := Lib.hid (fun W (hb : Below w.heap.size w W) (hs : w.heap.size ≤ W.heap.size) => trim_any n f a cap W (by omega) hcap hcm hd (hc.on hb hs))
  go_enter Try.func55, Try.ntmps55
  have jcl := Go.Deep.blk_alloc_new w (.cells #[.bool false, .slice none 0 0] 54)
  have hs1 : w.heap.size < (w.alloc (.cells #[.bool false, .slice none 0 0] 54)).heap.size := by simp
  go_upto_region 1 with fail
  generalize w.alloc _ = w1 at *
  go_upto_region 2 with (go_at_call 64; refine (HT.out _ b1 (by omega)).mono ?_; rintro e w3 ⟨a', m, c', rfl, h1, h2, h3, _, h4, h5⟩)
  have jc3 := (h5.block w.heap.size hs1).trans jcl
  have b3 := b1.trans (h5.mono b1.size)
  have s3 := h5.size
  have h4 := hc.trim h1.1 h4
  have c0 : w3.cell? ⟨w.heap.size, 0, none⟩ = some (.bool false) := by simp [World.cell?, jc3]
  have c1 : w3.cell? ⟨w.heap.size, 1, none⟩ = some (.slice none 0 0) := by simp [World.cell?, jc3]
  have cf : ∀ j, w3.frozen? ⟨w.heap.size, j, none⟩ = false := by intro j; simp [World.frozen?, jc3]
  clear jc3 jcl h5 b1 HT
  have HV := Lib.hid h1.val
  have HN := Lib.hid (h1.nrm hd)
  have hmn := h1.1
  clear h1
  have HF := Lib.hid (fun (x : Bool) (hx : x = true ↔ (ng = true ∧ 0 < m)) => show IntV ((w3.setCell ⟨w.heap.size, 0, none⟩ (.bool x)).setCell ⟨w.heap.size, 1, none⟩ (.slice a' m c')) ((w3.setCell ⟨w.heap.size, 0, none⟩ (.bool x)).setCell ⟨w.heap.size, 1, none⟩ (.slice a' m c')).heap.size (.agg #[.bool x, .slice a' m c']) (sgn ng (vl f n)) n ∧ Below w.heap.size w ((w3.setCell ⟨w.heap.size, 0, none⟩ (.bool x)).setCell ⟨w.heap.size, 1, none⟩ (.slice a' m c')) from by
    have b4 := (b3.setCell (p := (⟨w.heap.size, 0, none⟩ : Addr)) (Nat.le_refl _) (.bool x)).setCell (p := (⟨w.heap.size, 1, none⟩ : Addr)) (Nat.le_refl _) (.slice a' m c')
    refine ⟨⟨x, a', m, c', f, rfl, hmn, HN.out, h2, h3, h4.on b4 b4.size, ?_, fun h => (hx.1 h).2⟩, b4⟩
    rw [HV.out]
    cases ng with
    | false => cases x with
      | false => rfl
      | true => simp at hx
    | true => cases x with
      | false =>
        have h0 : m = 0 := by simp at hx; exact hx
        have : vl f n = 0 := by rw [← HV.out, h0]; rfl
        rw [this]; rfl
      | true => rfl)
  have hcapI : (m : Int) ≤ 100000 := by omega
  cases ng with
  | false =>
    have HG := Lib.hid (HF.out false (by simp))
    clear HV HN HF
    go_wp2_with fail
    refine bodyPost_ret (v := .agg #[.bool false, .slice a' m c']) (by simp [results, Try.results55, go_sem, c0, c1]) rfl ⟨_, rfl, HG.out⟩
  | true =>
    by_cases hm : 0 < m
    · have hmI : (0 : Int) < (m : Int) := by omega
      have HG := Lib.hid (HF.out true (by simp [hm]))
      clear HV HN HF
      go_wp2_with fail
      refine bodyPost_ret (v := .agg #[.bool true, .slice a' m c']) (by simp [results, Try.results55, go_sem, c0, c1]) rfl ⟨_, rfl, HG.out⟩
    · have hmI : ¬ (0 : Int) < (m : Int) := by omega
      have HG := Lib.hid (HF.out false (by simp; omega))
      clear HV HN HF
      go_wp2_with fail
      refine bodyPost_ret (v := .agg #[.bool false, .slice a' m c']) (by simp [results, Try.results55, go_sem, c0, c1]) rfl ⟨_, rfl, HG.out⟩
end Go.Proofs.Ytdjpkebajcpfbaa
