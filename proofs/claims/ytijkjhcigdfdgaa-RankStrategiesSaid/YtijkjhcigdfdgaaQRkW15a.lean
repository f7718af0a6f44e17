/- A number is appended to one of several rows, in a region that draws its order. -/
import Derived.BigRegion
import Derived.Test.YtijkjhcigdfdgaaQRkW14
namespace Go.Proofs.Ytijkjhcigdfdgaa
open Go.RowKit

theorem wp_app_intW {o : Oper} {a : Act} {K : Act → World → Prop} {Q : Exit → Act → World → Prop} (w : World) (s x : Operand) (y : Int)
    (ho : o.op = .call { callee := .builtin .append, args := #[s, x], argTypes := #[22, 22] })
    (base : Nat) (v : Value) (l : List Int) (hs : a.eval s = v) (hown : OI w base v l) (u : Nat) (hx : a.eval x = .slice (some ⟨u, 0, none⟩) 1 1)
    (hnew : w.heap[u]? = some (.cells #[.int .i64 y] 3 (0, 0))) (hn : l.length < 17592186043904) (hbase : base ≤ w.heap.size)
    (h : ∀ v' w', OI w' base v' (l ++ [y]) → w.grownBy w' v.ownBlock → Moved w v v' → K (a.put o.dst v') w') : Oper.wp Try.prog o a w K Q := by
  obtain ⟨i0, hi0, hz0, hz1, hz2⟩ := info_parts info_int
  have hnews : ∀ j u', [Value.int .i64 y][j]? = some u' → w.cell? ((⟨u, 0, none⟩ : Addr).add j) = some u' := fun j u' hu => by
    rw [show (⟨u, 0, none⟩ : Addr).add j = ⟨u, j, none⟩ by simp [Addr.add]; omega, cell_of_row w _ j _ _ _ hnew]
    simpa using hu
  have h1 : ∀ u ∈ [Value.int .i64 y], u.oneCell' = true := by intro u hu; simp at hu; rw [hu]; rfl
  obtain ⟨v', w', hr, h2, h3, h4⟩ := run_append_own (P := Try.prog) w base 22 o.type 3 i0 _ 1 8 Try.underlying22 hi0 hz0 hz1 hz2 rfl (by decide) v l.length (l.map (Value.int .i64)) hown ⟨u, 0, none⟩ 1 1 [Value.int .i64 y] rfl hnews h1 (by simp only [maxLen]; omega) (by omega) hbase
  have h5 := run_append_fresh (P := Try.prog) w base 22 o.type 3 i0 _ 1 8 Try.underlying22 hi0 hz0 hz1 hz2 v l.length (l.map (Value.int .i64)) hown ⟨u, 0, none⟩ 1 1 [Value.int .i64 y] rfl hnews h1 (by simp only [maxLen]; omega) (by omega) v' w' hr
  unfold Oper.wp execOp
  simp only [ho, resolve, invoke, builtin, Sem.run_bind, Sem.run_pure, Result.andThen_ok, List.map_toArray, List.map_cons, List.map_nil, hs, hx, hr]
  refine h v' w' ?_ h3 (fun g hg => (h5 g hg).imp id (fun e => by omega))
  unfold OI
  simpa using h2

def PV (z ob n m k : Nat) (v : Value) (i : Nat) (u : Value) : Prop :=
  match i with
  | 0 => u = .pointer (some ⟨z, 0, none⟩)
  | 1 => u = .pointer (some ⟨z, 0, none⟩)
  | 2 => u = .pointer (some ⟨z, 6, none⟩)
  | 3 => u = .slice (some ⟨ob, 0, none⟩) n n
  | 4 => u = .int .i64 (m : Int)
  | 5 => u = .pointer (some ⟨z, 0, none⟩)
  | 6 => u = .pointer (some ⟨z, 0, none⟩)
  | 7 => u = .pointer (some ⟨z, 6, none⟩)
  | 8 => u = .slice (some ⟨ob, 0, none⟩) n n
  | 9 => u = .int .i64 (m : Int)
  | 10 => u = .pointer (some ⟨ob, m, none⟩)
  | 11 => u = v
  | 12 => u = .int .i64 (k : Int)
  | 15 => u = .pointer (some ⟨ob, m, none⟩)
  | _ => True
/-- A number is being appended to the row v, which lies in cell m of block ob (13: the new element, 14: the append, 16: the store). -/
structure JC (wc : World) (B z ob n m k : Nat) (v : Value) (row : List Int) (S : Nat → Bool) (vs : Nat → Value) (W : World) : Prop where
  p0 : S 14 = false → Below wc.heap.size wc W
  p1 : S 13 = true → S 14 = false → ∃ u, vs 13 = .slice (some ⟨u, 0, none⟩) 1 1 ∧ W.heap[u]? = some (.cells #[.int .i64 (k : Int)] 3 (0, 0))
  p2 : S 14 = true → S 16 = false → OI W B (vs 14) (row ++ [(k : Int)]) ∧ wc.grownBy W v.ownBlock ∧ Moved wc v (vs 14)
  p3 : S 16 = true → ∃ w9, W = w9.setCell ⟨ob, m, none⟩ (vs 14) ∧ OI w9 B (vs 14) (row ++ [(k : Int)]) ∧ wc.grownBy w9 v.ownBlock ∧ Moved wc v (vs 14)
  pv : ∀ i, S i = true → PV z ob n m k v i (vs i)
section
variable {wc W W' : World} {B z ob n m k : Nat} {v : Value} {row : List Int} {S : Nat → Bool} {vs : Nat → Value}
theorem JC.pvs (h : JC wc B z ob n m k v row S vs W) {i : Nat} {u : Value} (hp : PV z ob n m k v i u) : ∀ j, upS S i j = true → PV z ob n m k v j (upd vs i u j) := fun j hj => by
  by_cases e : j = i
  · subst e; rw [upd_at]; exact hp
  · rw [upd_no e]; rw [upS_no e] at hj; exact h.pv j hj
theorem JC.keep (h : JC wc B z ob n m k v row S vs W) {i : Nat} {u : Value} (h7 : i ≠ 13) (h8 : i ≠ 14) (h10 : i ≠ 16) (hp : PV z ob n m k v i u) : JC wc B z ob n m k v row (upS S i) (upd vs i u) W := by
  have e7 : upd vs i u 13 = vs 13 := if_neg (fun e => h7 e.symm)
  have e8 : upd vs i u 14 = vs 14 := if_neg (fun e => h8 e.symm)
  have s7 : upS S i 13 = S 13 := if_neg (fun e => h7 e.symm)
  have s8 : upS S i 14 = S 14 := if_neg (fun e => h8 e.symm)
  have s10 : upS S i 16 = S 16 := if_neg (fun e => h10 e.symm)
  exact ⟨by rw [s8]; exact h.p0, by rw [s7, s8, e7]; exact h.p1, by rw [s8, s10, e8]; exact h.p2, by rw [s10, e8]; exact h.p3, h.pvs hp⟩
theorem JC.elem (h : JC wc B z ob n m k v row S vs W) (h8 : S 14 = false) (h10 : S 16 = false) : JC wc B z ob n m k v row (upS S 13) (upd vs 13 (.slice (some ⟨W.heap.size, 0, none⟩) 1 1)) (W.alloc (.cells #[.int .i64 (k : Int)] 3)) := by
  have s8 : upS S 13 14 = false := h8
  have s10 : upS S 13 16 = false := h10
  refine ⟨fun _ => (h.p0 h8).trans ((bel_box _).mono (h.p0 h8).size), fun _ _ => ⟨W.heap.size, rfl, heap_alloc_new _ _⟩, fun e => ?_, fun e => ?_, h.pvs trivial⟩
  · rw [s8] at e; cases e
  · rw [s10] at e; cases e
theorem JC.app (h : JC wc B z ob n m k v row S vs W) {v' : Value} (h8 : S 14 = false) (h10 : S 16 = false) (ho : OI W' B v' (row ++ [(k : Int)])) (hg : W.grownBy W' v.ownBlock) (hm : Moved W v v') : JC wc B z ob n m k v row (upS S 14) (upd vs 14 v') W' := by
  have hb := h.p0 h8
  refine ⟨(fun e => by cases e), (fun _ e => by cases e), fun _ _ => ⟨ho, ⟨hg.os.trans hb.os, hg.tape.trans hb.tape, hg.output.trans hb.output, Nat.le_trans hb.size hg.size, fun k hk hr => ?_⟩, fun g e => (hm g e).imp id fun e => Nat.le_trans hb.size e⟩, fun e => ?_, h.pvs trivial⟩
  · rw [hg.block k (Nat.lt_of_lt_of_le hk hb.size) hr]
    exact hb.block k hk
  · have s10 : upS S 14 16 = false := h10
    rw [s10] at e; cases e
theorem JC.store (h : JC wc B z ob n m k v row S vs W) (h8 : S 14 = true) (h10 : S 16 = false) : JC wc B z ob n m k v row (upS S 16) (upd vs 16 undef) (W.setCell ⟨ob, m, none⟩ (vs 14)) := by
  obtain ⟨a, b, c⟩ := h.p2 h8 h10
  have s8 : upS S 16 14 = true := h8
  refine ⟨fun e => ?_, fun _ e => ?_, (fun _ e => by cases e), fun _ => ⟨W, rfl, a, b, c⟩, h.pvs trivial⟩
  · rw [s8] at e; cases e
  · rw [s8] at e; cases e
end

end Go.Proofs.Ytijkjhcigdfdgaa
