/- 'append' of a number in a region that draws its order, wherever the number lies; numbers by firsts (plain). -/
import Derived.Test.YtdkpdpcecjcmcaaQRdX
import Derived.Test.YtdkpdpcecjcmcaaQRd23
namespace Go.Proofs.Ytdkpdpcecjcmcaa
open Go.RowKit

/-- The element that 'append' of a number is handed. -/
def ElI (b : Int) (v : Value) (W : World) : Prop := ∃ u, v = .slice (some ⟨u, 0, none⟩) 1 1 ∧ W.heap[u]? = some (.cells #[.int .i64 b] 3 (0, 0))
theorem ElI.below {b : Int} {v : Value} {W W' : World} (h : ElI b v W) (hb : Below W.heap.size W W') : ElI b v W' := by
  obtain ⟨u, h1, h2⟩ := h
  exact ⟨u, h1, (hb.block u (Array.getElem?_eq_some_iff.1 h2).1).trans h2⟩
theorem ElI.made (b : Int) (W : World) : ElI b (.slice (some ⟨W.heap.size, 0, none⟩) 1 1) (W.alloc (.cells #[.int .i64 b] 3)) := ⟨_, rfl, heap_alloc_new _ _⟩
def AppI (B : Nat) (b : Int) (v : Value) (l : List Int) (v' : Value) (W9 W : World) : Prop := OI W B v' (l ++ [b]) ∧ W9.grownBy W v.ownBlock ∧ Moved W9 v v'
theorem wp_app_intU {b : Int} {o : Oper} {a : Act} {K : Act → World → Prop} {Q : Exit → Act → World → Prop} (w : World) (s x : Operand)
    (ho : o.op = .call { callee := .builtin .append, args := #[s, x], argTypes := #[29, 29] })
    (base : Nat) (v : Value) (l : List Int) (hs : a.eval s = v) (hown : OI w base v l) (u : Value) (hx : a.eval x = u)
    (hnew : ElI b u w) (hn : l.length < 17592186044415) (hbase : base ≤ w.heap.size)
    (h : ∀ v' w', AppI base b v l v' w w' → K (a.put o.dst v') w') : Oper.wp Try.prog o a w K Q := by
  obtain ⟨g, rfl, hb⟩ := hnew
  obtain ⟨i0, hi0, hz0, hz1, hz2⟩ := info_parts info_int
  have hnews : ∀ j u', ([.int .i64 b] : List Value)[j]? = some u' → w.cell? ((⟨g, 0, none⟩ : Addr).add j) = some u' := fun j u' hu => by
    rw [show (⟨g, 0, none⟩ : Addr).add j = ⟨g, j, none⟩ by simp [Addr.add]; omega, cell_of_row w _ j _ _ _ hb]
    simpa using hu
  have h1 : ∀ u ∈ ([.int .i64 b] : List Value), u.oneCell' = true := by intro u hu; rw [List.mem_singleton.1 hu]; rfl
  obtain ⟨v', w', hr, h2, h3, h4⟩ := run_append_own (P := Try.prog) w base 29 o.type 3 i0 _ 1 8 Try.underlying29 hi0 hz0 hz1 hz2 rfl (by decide) v l.length _ hown ⟨g, 0, none⟩ 1 1 [.int .i64 b] rfl hnews h1 (by simp only [maxLen]; omega) (by omega) hbase
  have h5 := run_append_fresh (P := Try.prog) w base 29 o.type 3 i0 _ 1 8 Try.underlying29 hi0 hz0 hz1 hz2 v l.length _ hown ⟨g, 0, none⟩ 1 1 [.int .i64 b] rfl hnews h1 (by simp only [maxLen]; omega) (by omega) v' w' hr
  unfold Oper.wp execOp
  simp only [ho, resolve, invoke, builtin, Sem.run_bind, Sem.run_pure, Result.andThen_ok, List.map_toArray, List.map_cons, List.map_nil, hs, hx, hr]
  refine h v' w' ⟨?_, h3, fun g hg => (h5 g hg).imp id (fun e => by omega)⟩
  unfold OI
  rw [List.map_append, List.length_append]
  exact h2

theorem cls_le {R : Nat → List Int} {n s : Nat} (hs : s < n) : (classL R n).getD s 0 ≤ ((firstsC (classL R n) s).length : Int) := by
  rw [firsts_len (by omega), classL_at hs, cls_stay (Nat.lt_succ_self s) hs]
  by_cases hr : R s ∈ keysG R s
  · rw [keysG_succ, if_pos hr]
    have := List.idxOf_lt_length_iff.2 hr
    omega
  · rw [keysG_succ, if_neg hr, idxL_new hr]; omega
section
variable {a : Au} {k i j : Nat}
theorem clsA_le (a : Au) (hi : i < a.next.length) : 0 ≤ (clsA a).getD i 0 ∧ (clsA a).getD i 0 ≤ ((firstsC (clsA a) i).length : Int) := by
  refine ⟨(clsA_lt a hi).1, ?_⟩
  rw [clsA_row]; exact cls_le hi
/-- The first ones: their classes are 0, 1, .. -/
theorem clsA_first (a : Au) (hi : i ≤ a.next.length) (hj : j < (firstsC (clsA a) i).length) : (firstsC (clsA a) i).getD j 0 < a.next.length ∧ (clsA a).getD ((firstsC (clsA a) i).getD j 0) 0 = (j : Int) := by
  rw [getD_lt _ _ _ hj]
  refine ⟨Nat.lt_of_lt_of_le (firsts_in _ (List.getElem_mem hj)) hi, ?_⟩
  have h := firsts_cls (R := rowI a a.next.length) (n := a.next.length) hi j (by rw [← clsA_row]; exact hj)
  simp only [← clsA_row] at h
  exact h
theorem same_first {M : Nat → Nat → Bool} (hA : AuV a k) (hM : ∀ i j, i < a.next.length → j < a.next.length → (M i j = true ↔ ∀ d, eqN a k d i j)) (hi : i < a.next.length) (hj : j < (firstsC (clsA a) i).length) : M i ((firstsC (clsA a) i).getD j 0) = decide ((clsA a).getD i 0 = (j : Int)) := by
  obtain ⟨h1, h2⟩ := clsA_first a (Nat.le_of_lt hi) hj
  have h3 := hM i _ hi h1
  rw [← clsA_eq hA hi h1, h2] at h3
  cases e : M i ((firstsC (clsA a) i).getD j 0)
  · rw [e] at h3
    symm
    exact decide_eq_false fun k => by have := h3.2 k; cases this
  · rw [e] at h3
    symm
    exact decide_eq_true (h3.1 rfl)
end
theorem castL_getD {l : List Nat} {j : Nat} (h : j < l.length) : (castL l).getD j 0 = ((l.getD j 0 : Nat) : Int) := by
  rw [getD_lt _ _ _ (by unfold castL; rw [List.length_map]; exact h), getD_lt _ _ _ h]; simp [castL]
theorem castL_ln (l : List Nat) : (castL l).length = l.length := by simp [castL]

end Go.Proofs.Ytdkpdpcecjcmcaa
