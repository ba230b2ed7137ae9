/- Lists of tasks put together in memory. Conditions: each theorem's own. -/
import Derived.Test.YtdjpkebajcpfbaaCopyT
import Derived.Deep.RegionLaw
import Derived.OwnWalk
namespace Go.Proofs.Ytdjpkebajcpfbaa
open Go.RowKit

theorem step_app_by {P : Program} {ops : Array Oper} {o : Oper} {a : Act} {w : World} {K : Act → World → Prop} {Q : Exit → Act → World → Prop} {E : Prop} (hgd : o.guard = none) (s x : Operand) (t : TypeId)
    (ho : o.op = .call { callee := .builtin .append, args := #[s, x], argTypes := #[t, t] }) (v sl v' : Value) (w' : World) (hs : a.eval s = v) (hx : a.eval x = sl)
    (hrun : (Builtin.append_ #[t, t] o.type #[v, sl]).run P w = .ok v' w') (h : K (a.put o.dst v') w') : if Region.wanted o (yielded ops a.tmps) = true then Oper.wp P o a w K Q else E := by
  have hw : Region.wanted o (yielded ops a.tmps) = true := by simp [Region.wanted, hgd]
  rw [if_pos hw]
  unfold Oper.wp execOp
  simp only [ho, resolve, invoke, builtin, Sem.run_bind, Sem.run_pure, Result.andThen_ok, List.map_toArray, List.map_cons, List.map_nil, hs, hx, hrun]
  exact h
/-- A built-in append of a region that draws its order: what is known of its outcome. -/
theorem step_app_ex {P : Program} {ops : Array Oper} {o : Oper} {a : Act} {w : World} {K : Act → World → Prop} {Q : Exit → Act → World → Prop} {E : Prop} (hgd : o.guard = none) (s x : Operand) (t : TypeId)
    (ho : o.op = .call { callee := .builtin .append, args := #[s, x], argTypes := #[t, t] }) {v sl : Value} {F : Value → World → Prop} (hs : a.eval s = v) (hx : a.eval x = sl)
    (hrun : ∃ v' w', (Builtin.append_ #[t, t] o.type #[v, sl]).run P w = .ok v' w' ∧ F v' w') (h : ∀ v' w', F v' w' → K (a.put o.dst v') w') : if Region.wanted o (yielded ops a.tmps) = true then Oper.wp P o a w K Q else E := by
  obtain ⟨v', w', h1, h2⟩ := hrun
  exact step_app_by hgd s x t ho v sl v' w' hs hx h1 (h v' w' h2)
theorem litT {w : World} {H : Nat} (h : w.heap.size = H) : Win (w.alloc (.cells #[] 37)) 37 3 (.slice (some ⟨H, 0, none⟩) 0 0) 0 (([] : List TT).flatMap encT) := by
  subst h; exact Win.lit w _ _
def AppT1 (w W : World) (l : List TT) (v' : Value) (w' : World) : Prop :=
  Win w' 37 3 v' l.length (l.flatMap encT) ∧ Below w.heap.size w w' ∧ (∀ k, v'.ownBlock = some k → w.heap.size ≤ k) ∧ W.heap.size ≤ w'.heap.size
theorem AppT1.alloc {w W w1 : World} {l : List TT} {v : Value} (h : AppT1 w W l v w1) (o : Obj) : AppT1 w W l v (w1.alloc o) :=
  ⟨h.1.alloc o, h.2.1.alloc h.2.1.size o, h.2.2.1, by have := h.2.2.2; simp; omega⟩
def AppT2 (w : World) (l : List TT) (v' : Value) (w' : World) : Prop :=
  Below w.heap.size w w' ∧ ∃ a2 c2, v' = .slice a2 l.length c2 ∧ l.length ≤ c2 ∧ c2 ≤ 9223372036854775807 ∧ TSAt w' w'.heap.size a2 l
theorem first_appT {w W : World} {a : Option Addr} {cap g0 : Nat} {l : List TT} (hc : TSAt w w.heap.size a l) (h8 : l.length ≤ 1000) (hb : Below w.heap.size w W) (hg0 : w.heap.size ≤ g0)
    (hW : Win W 37 3 (.slice (some ⟨g0, 0, none⟩) 0 0) 0 (([] : List TT).flatMap encT)) :
    ∃ v1 w1, (Builtin.append_ #[22, 22] 22 #[.slice (some ⟨g0, 0, none⟩) 0 0, .slice a l.length cap]).run Try.prog W = .ok v1 w1 ∧ (AppT1 w W l v1 w1 ∧ ∀ k, k < W.heap.size → k ≠ g0 → w1.heap[k]? = W.heap[k]?) := by
  obtain ⟨v1, w1, r1, k1, g1, o1⟩ := hW.cat (P := Try.prog) (t := 22) (ty := 22) Try.underlying22 info_tt (by simp [Value.cells]) (by decide) a l.length cap (l.flatMap encT) (flat_len encT_len l)
    (fun h0 => by
      obtain ⟨ad, e, hlt, hr⟩ := ts_read hc h0
      refine ⟨ad, e, fun j u hj => ?_⟩
      have := hb.cell (p := ad.add j) (by unfold Addr.add; split <;> exact hlt)
      rw [this]; exact hr j u hj) (fun u hu => by
        simp only [List.mem_flatMap, encT, List.mem_cons, List.not_mem_nil, or_false] at hu
        obtain ⟨_, _, rfl | rfl | rfl⟩ := hu <;> rfl) (by omega) (by omega)
  have sb := hb.size
  refine ⟨v1, w1, r1, ⟨by simpa using k1, hb.grown g1 sb (fun k hk => by simp [Value.ownBlock] at hk; omega), fun k hk => ?_, g1.size⟩, fun k hk hne => g1.block k hk (fun e => hne (by simp [Value.ownBlock] at e; omega))⟩
  rcases o1 k hk with e | e
  · simp [Value.ownBlock] at e; omega
  · omega
theorem second_appT {w w1 : World} {h40 n : Nat} {l : List TT} {v1 : Value} {nm : ByteArray} {c p : Int} {W : World} (h8 : l.length ≤ 1000) (ha : AppT1 w W l v1 w1)
    (hblk : w1.heap[h40]? = some (.cells #[.string nm, .int .i64 c, .int .i64 p] 37)) :
    ∃ v2 w2, (Builtin.append_ #[22, 22] 22 #[v1, .slice (some ⟨h40, 0, none⟩) 1 1]).run Try.prog w1 = .ok v2 w2 ∧ AppT2 w (l ++ [⟨nm, c, p⟩]) v2 w2 := by
  obtain ⟨k1, b1, hown, _⟩ := ha
  obtain ⟨v2, w2, r2, k2, g2, o2⟩ := k1.cat (P := Try.prog) (t := 22) (ty := 22) Try.underlying22 info_tt (by simp [Value.cells]) (by decide) (some ⟨h40, 0, none⟩) 1 1 (encT ⟨nm, c, p⟩) rfl
    (fun _ => ⟨_, rfl, fun j u hj => World.news_of_block hblk j u hj⟩) (fun u hu => by
      simp only [encT, List.mem_cons, List.not_mem_nil, or_false] at hu
      rcases hu with rfl | rfl | rfl <;> rfl) (by omega) (by omega)
  have b2 : Below w.heap.size w w2 := b1.grown g2 b1.size hown
  have k3 : Win w2 37 3 v2 (l.length + 1) ((l ++ [(⟨nm, c, p⟩ : TT)]).flatMap encT) := by simpa [List.flatMap_append] using k2
  exact ⟨v2, w2, r2, b2, k3.ts (by simp)⟩
/-- 'append([]Task{t}, l...)'. -/
theorem front_appT {w W : World} {a : Option Addr} {cap : Nat} {l : List TT} {nm : ByteArray} {c p : Int} (hc : TSAt w w.heap.size a l) (h8 : l.length ≤ 1000) (hb : Below w.heap.size w W) :
    ∃ v1 w1, (Builtin.append_ #[22, 22] 22 #[.slice (some ⟨W.heap.size, 0, none⟩) 1 1, .slice a l.length cap]).run Try.prog (W.alloc (.cells #[.string nm, .int .i64 c, .int .i64 p] 37)) = .ok v1 w1 ∧ AppT2 W (⟨nm, c, p⟩ :: l) v1 w1 := by
  have ba := (Below.refl W.heap.size W).alloc (Nat.le_refl _) (.cells #[.string nm, .int .i64 c, .int .i64 p] 37)
  obtain ⟨v1, w1, r1, k1, b1, o1⟩ := cat_ts (w := W) (l0 := [⟨nm, c, p⟩]) (cap := cap) (hc.on hb hb.size) h8 (by omega) ba (Win.oneT W ⟨nm, c, p⟩) (fun k hk => by simp [Value.ownBlock] at hk; omega)
  exact ⟨v1, w1, r1, b1, k1.ts (by simp; omega)⟩
end Go.Proofs.Ytdjpkebajcpfbaa
