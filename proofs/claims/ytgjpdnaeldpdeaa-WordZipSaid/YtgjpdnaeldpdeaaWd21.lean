/- What Shortest computes. -/
import Derived.Test.YtgjpdnaeldpdeaaWd14
import Derived.Test.YtgjpdnaeldpdeaaWd16
import Derived.Test.YtgjpdnaeldpdeaaWd11
import Derived.Deep.AppendLies
import Derived.Deep.RegionLaw
namespace Go.Proofs.Ytgjpdnaeldpdeaa
open Go.RowKit

theorem wp_app_ints {o : Oper} {a : Act} {K : Act → World → Prop} {Q : Exit → Act → World → Prop} (w : World) (s x : Operand)
    (ho : o.op = .call { callee := .builtin .append, args := #[s, x], argTypes := #[22, 22] })
    (base : Nat) (v v2 : Value) (l l2 : List Int) (hs : a.eval s = v) (hown : OI w base v l) (hx : a.eval x = v2) (hsrc : IsInts w v2 l2)
    (hn : l.length + l2.length ≤ 17592186043904) (hbase : base ≤ w.heap.size)
    (h : ∀ v' w', OI w' base v' (l ++ l2) → w.grownBy w' v.ownBlock → K (a.put o.dst v') w') : Oper.wp Try.prog o a w K Q := by
  obtain ⟨i, hi, hz0, hz1, hz2⟩ := info_parts info_int
  obtain ⟨⟨ao, cap, b, off, rfl, g⟩, -⟩ := hsrc
  have e : (List.range l2.length).map (ivF l2) = l2.map (Value.int .i64) := by
    apply List.ext_getElem (by simp)
    intro j h1 h2
    have : j < l2.length := by simpa using h1
    simp [ivF, this]
  cases ao with
  | none =>
    have hm0 : l2.length = 0 := by rcases Nat.eq_zero_or_pos l2.length with h0 | h0; exact h0; have := g.ad h0; cases this
    have hl2 := List.eq_nil_of_length_eq_zero hm0
    subst hl2
    obtain rfl := g.nc rfl
    have hrun := run_append_owned_none (P := Try.prog) (w := w) base 22 o.type 3 i 1 Try.underlying22 hi v l.length _ hown
    unfold Oper.wp execOp
    simp only [ho, resolve, invoke, builtin, Sem.run_bind, Sem.run_pure, Result.andThen_ok, List.map_toArray, List.map_cons, List.map_nil, hs, hx]
    simp only [List.length_nil, hrun]
    exact h _ _ (by simpa using hown) (grown_refl _ _)
  | some ad =>
    obtain ⟨v', w', hr, h2, h3, h4⟩ := run_append_own (P := Try.prog) w base 22 o.type 3 i _ 1 8 Try.underlying22 hi hz0 hz1 hz2 rfl (by decide) v l.length _ hown ad l2.length cap ((List.range l2.length).map (ivF l2)) (by simp) (by
      intro j u hj
      have hjm : j < l2.length := by
        rcases Nat.lt_or_ge j l2.length with h | h
        · exact h
        · simp [Nat.not_lt.2 h] at hj
      have hadd := g.ad (by omega)
      simp only [Option.some.injEq] at hadd
      subst hadd
      have : ivF l2 j = u := by simpa [hjm] using hj
      subst this
      have h2 := g.el j hjm
      unfold Addr.add
      split
      · subst j; exact h2
      · exact h2) (by
      intro u hu
      obtain ⟨j, _, rfl⟩ := List.mem_map.1 hu
      rfl) (by simp only [maxLen]; omega) (by omega) hbase
    unfold Oper.wp execOp
    simp only [ho, resolve, invoke, builtin, Sem.run_bind, Sem.run_pure, Result.andThen_ok, List.map_toArray, List.map_cons, List.map_nil, hs, hx, hr]
    refine h _ _ ?_ h3
    unfold OI
    rw [e] at h2
    simpa using h2

theorem OI_one (W : World) (x : Int) : OI (W.alloc (.cells #[.int .i64 x] 3)).drew W.heap.size (.slice (some ⟨W.heap.size, 0, none⟩) 1 1) [x] :=
  (show (W.alloc (.cells #[.int .i64 x] 3)).ownsRow W.heap.size 3 1 (.slice (some ⟨W.heap.size, 0, none⟩) 1 1) 1 [.int .i64 x] from ⟨by simp, .inr ⟨W.heap.size, 1, _, rfl, Nat.le_refl _, heap_alloc_new W _, Nat.le_refl _, by simp [maxLen], by simp, by simp⟩⟩)

theorem NormAt.turn' {w : Ls} {s l : List Int} (h : NormAt w s l) (h0 : 0 < s.length) (he : s.getD (s.length - 1) 0 = l.getD (l.length - 1) 0) :
    NormAt w (s.take (s.length - 1)) (l.getD (l.length - 1) 0 :: l.take (l.length - 1)) := by
  have e : s = s.take (s.length - 1) ++ [l.getD (l.length - 1) 0] := by
    conv => lhs; rw [← List.take_append_drop (s.length - 1) s]
    congr 1
    rw [List.drop_eq_getElem_cons (by omega), ← he, show s.length - 1 + 1 = s.length by omega, List.drop_length]
    simp [List.getD, show s.length - 1 < s.length by omega]
  rw [e] at h
  have := h.turn rfl
  rwa [List.dropLast_eq_take] at this

theorem NormAt.done' {w : Ls} {s l : List Int} (hw : 0 < w.loop.length) (h : NormAt w s l) (he : s.length = 0 ∨ s.getD (s.length - 1) 0 ≠ l.getD (l.length - 1) 0) : (⟨s, l⟩ : Ls) = normL w := by
  refine normL_eq hw (h.done ?_) h.word
  rcases he with he | he
  · exact .inl (List.eq_nil_of_length_eq_zero he)
  · by_cases h0 : s = []
    · exact .inl h0
    · refine .inr fun e => he ?_
      have hl : l ≠ [] := by intro hl; have := h.pos; rw [hl] at this; simp at this
      rw [getLast_getD _ h0, getLast_getD _ hl] at e
      exact Option.some.inj e

end Go.Proofs.Ytgjpdnaeldpdeaa
