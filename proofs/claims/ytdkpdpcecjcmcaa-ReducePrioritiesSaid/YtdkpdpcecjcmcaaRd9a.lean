/- While a move is appended to one of several rows, in a region that draws its order. -/
import Derived.Test.YtdkpdpcecjcmcaaRd9
namespace Go.Proofs.Ytdkpdpcecjcmcaa
open Go.RowKit

/-- 'append' of one move, wherever it lies, in a region that draws its order. -/
theorem wp_app_mvs {o : Oper} {a : Act} {K : Act → World → Prop} {Q : Exit → Act → World → Prop} (w : World) (s x : Operand) (y : Mv)
    (ho : o.op = .call { callee := .builtin .append, args := #[s, x], argTypes := #[61, 61] })
    (base : Nat) (v : Value) (l : List Mv) (hs : a.eval s = v) (hown : OM w base v l) (u : Nat) (hx : a.eval x = .slice (some ⟨u, 0, none⟩) 1 1)
    (hnew : w.heap[u]? = some (.cells (mvC y) 49 (0, 0))) (hn : l.length < 8796093022207) (hbase : base ≤ w.heap.size)
    (h : ∀ v' w', OM w' base v' (l ++ [y]) → w.grownBy w' v.ownBlock → Moved w v v' → K (a.put o.dst v') w') : Oper.wp Try.prog o a w K Q := by
  obtain ⟨i0, hi0, hz0, hz1, hz2⟩ := info_parts info_mv
  have hnews : ∀ j u', (mvC y).toList[j]? = some u' → w.cell? ((⟨u, 0, none⟩ : Addr).add j) = some u' := fun j u' hu => by
    rw [show (⟨u, 0, none⟩ : Addr).add j = ⟨u, j, none⟩ by simp [Addr.add]; omega, cell_of_row w _ j _ _ _ hnew]
    simpa using hu
  have h1 : ∀ u ∈ (mvC y).toList, u.oneCell' = true := by intro u hu; simp [mvC] at hu; rcases hu with rfl | rfl <;> rfl
  obtain ⟨v', w', hr, h2, h3, h4⟩ := run_append_own (P := Try.prog) w base 61 o.type 49 i0 _ 2 16 Try.underlying61 hi0 hz0 hz1 hz2 rfl (by decide) v l.length (mvsC l) hown ⟨u, 0, none⟩ 1 1 (mvC y).toList rfl hnews h1 (by simp only [maxLen]; omega) (by omega) hbase
  have h5 := run_append_fresh (P := Try.prog) w base 61 o.type 49 i0 _ 2 16 Try.underlying61 hi0 hz0 hz1 hz2 v l.length (mvsC l) hown ⟨u, 0, none⟩ 1 1 (mvC y).toList rfl hnews h1 (by simp only [maxLen]; omega) (by omega) v' w' hr
  unfold Oper.wp execOp
  simp only [ho, resolve, invoke, builtin, Sem.run_bind, Sem.run_pure, Result.andThen_ok, List.map_toArray, List.map_cons, List.map_nil, hs, hx, hr]
  refine h v' w' ?_ h3 (fun g hg => (h5 g hg).imp id (fun e => by omega))
  unfold OM
  rw [mvsC_app, mvsC_one, List.length_append, List.length_singleton]
  exact h2

/-- A move is being appended to the row v, which lies in cell j of block gC (the operations 7: the new element, 8: the append, 10: the store). -/
structure JA (wc : World) (B gC j : Nat) (v : Value) (lj : List Mv) (y : Mv) (S : Nat → Bool) (vs : Nat → Value) (W : World) : Prop where
  p0 : S 8 = false → Below wc.heap.size wc W
  p1 : S 7 = true → S 8 = false → ∃ u, vs 7 = .slice (some ⟨u, 0, none⟩) 1 1 ∧ W.heap[u]? = some (.cells (mvC y) 49 (0, 0))
  p2 : S 8 = true → S 10 = false → OM W B (vs 8) (lj ++ [y]) ∧ wc.grownBy W v.ownBlock ∧ Moved wc v (vs 8)
  p3 : S 10 = true → ∃ w9, W = w9.setCell ⟨gC, j, none⟩ (vs 8) ∧ OM w9 B (vs 8) (lj ++ [y]) ∧ wc.grownBy w9 v.ownBlock ∧ Moved wc v (vs 8)
section
variable {wc W W' : World} {B gC j : Nat} {v : Value} {lj : List Mv} {y : Mv} {S : Nat → Bool} {vs : Nat → Value}
theorem JA.keep (h : JA wc B gC j v lj y S vs W) {i : Nat} {u : Value} (h7 : i ≠ 7) (h8 : i ≠ 8) (h10 : i ≠ 10) : JA wc B gC j v lj y (upS S i) (upd vs i u) W := by
  have e7 : upd vs i u 7 = vs 7 := if_neg (fun e => h7 e.symm)
  have e8 : upd vs i u 8 = vs 8 := if_neg (fun e => h8 e.symm)
  have s7 : upS S i 7 = S 7 := if_neg (fun e => h7 e.symm)
  have s8 : upS S i 8 = S 8 := if_neg (fun e => h8 e.symm)
  have s10 : upS S i 10 = S 10 := if_neg (fun e => h10 e.symm)
  exact ⟨by rw [s8]; exact h.p0, by rw [s7, s8, e7]; exact h.p1, by rw [s8, s10, e8]; exact h.p2, by rw [s10, e8]; exact h.p3⟩
theorem JA.elem (h : JA wc B gC j v lj y S vs W) (h8 : S 8 = false) (h10 : S 10 = false) : JA wc B gC j v lj y (upS S 7) (upd vs 7 (.slice (some ⟨W.heap.size, 0, none⟩) 1 1)) (W.alloc (.cells (mvC y) 49)) := by
  have s8 : upS S 7 8 = false := h8
  have s10 : upS S 7 10 = false := h10
  refine ⟨fun _ => (h.p0 h8).trans ((bel_box _).mono (h.p0 h8).size), fun _ _ => ⟨W.heap.size, rfl, heap_alloc_new _ _⟩, fun e => ?_, fun e => ?_⟩
  · rw [s8] at e; cases e
  · rw [s10] at e; cases e
theorem JA.app (h : JA wc B gC j v lj y S vs W) {v' : Value} (h8 : S 8 = false) (h10 : S 10 = false) (ho : OM W' B v' (lj ++ [y])) (hg : W.grownBy W' v.ownBlock) (hm : Moved W v v') : JA wc B gC j v lj y (upS S 8) (upd vs 8 v') W' := by
  have hb := h.p0 h8
  refine ⟨(fun e => by cases e), (fun _ e => by cases e), fun _ _ => ⟨ho, ⟨hg.os.trans hb.os, hg.tape.trans hb.tape, hg.output.trans hb.output, Nat.le_trans hb.size hg.size, fun k hk hr => ?_⟩, fun g e => (hm g e).imp id fun e => Nat.le_trans hb.size e⟩, fun e => ?_⟩
  · rw [hg.block k (Nat.lt_of_lt_of_le hk hb.size) hr]
    exact hb.block k hk
  · have s10 : upS S 8 10 = false := h10
    rw [s10] at e; cases e
theorem JA.store (h : JA wc B gC j v lj y S vs W) (h8 : S 8 = true) (h10 : S 10 = false) : JA wc B gC j v lj y (upS S 10) (upd vs 10 undef) (W.setCell ⟨gC, j, none⟩ (vs 8)) := by
  obtain ⟨a, b, c⟩ := h.p2 h8 h10
  have s8 : upS S 10 8 = true := h8
  refine ⟨fun e => ?_, fun _ e => ?_, (fun _ e => by cases e), fun _ => ⟨W, rfl, a, b, c⟩⟩
  · rw [s8] at e; cases e
  · rw [s8] at e; cases e
end

end Go.Proofs.Ytdkpdpcecjcmcaa
