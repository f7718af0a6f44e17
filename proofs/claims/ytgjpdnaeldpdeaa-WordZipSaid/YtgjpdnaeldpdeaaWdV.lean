/- Lists and lassos in view. -/
import Derived.Test.YtgjpdnaeldpdeaaRegSt
import Derived.Test.YtgjpdnaeldpdeaaWd13
import Derived.Test.YtgjpdnaeldpdeaaWd14
namespace Go.Proofs.Ytgjpdnaeldpdeaa
open Go.RowKit

/-- A slice in view. -/
def SL (l : List Int) (v : Value) (W : World) : Prop := ∃ ao cap, v = .slice ao l.length cap ∧ IsInts W (.slice ao l.length cap) l
/-- A lasso in view. -/
def LV (l : Ls) (v : Value) (W : World) : Prop := ∃ a b c d, v = .agg #[.slice a l.stem.length b, .slice c l.loop.length d] ∧ IsLs W (.agg #[.slice a l.stem.length b, .slice c l.loop.length d]) l
theorem SL.below {l : List Int} {v : Value} {W W' : World} (h : SL l v W) (hb : Below W.heap.size W W') : SL l v W' := by
  obtain ⟨ao, cap, rfl, h⟩ := h
  exact ⟨ao, cap, rfl, h.below hb⟩
theorem LV.below {l : Ls} {v : Value} {W W' : World} (h : LV l v W) (hb : Below W.heap.size W W') : LV l v W' := by
  obtain ⟨a, b, c, d, rfl, h⟩ := h
  exact ⟨a, b, c, d, rfl, h.below hb⟩

theorem SL.new (W : World) (l : List Int) (hl : l.length ≤ 1000) (hi : ∀ x ∈ l, I64 x) : SL l (.slice (some ⟨W.heap.size, 0, none⟩) l.length l.length) (W.alloc (.cells (l.map (Value.int .i64)).toArray 3)) := by
  have hc := fun k => cell_of_row _ _ k _ _ (0, 0) (heap_alloc_new W (.cells (l.map (Value.int .i64)).toArray 3))
  refine ⟨_, _, rfl, ⟨⟨some ⟨W.heap.size, 0, none⟩, l.length, W.heap.size, 0, rfl, ⟨Nat.le_refl _, by simp only [maxLen]; omega, by simp only [maxN]; omega, (fun e => by cases e), fun _ => rfl, fun j hj => ?_⟩⟩, hi⟩⟩
  rw [Nat.zero_add, hc j]
  simp [ivF, hj]

/-- A lasso in view is given back. -/
def GiveL (l : Ls) (w : World) (e : Ending) (w' : World) : Prop := ∃ v, e = .returned v ∧ LV l v w' ∧ Below w.heap.size w w'
/-- A list in view is given back. -/
def GiveN (l : List Int) (w : World) (e : Ending) (w' : World) : Prop := ∃ v, e = .returned v ∧ SL l v w' ∧ Below w.heap.size w w'
theorem LV.of {l : Ls} {v : Value} {W : World} (h : IsLs W v l) : LV l v W := by
  obtain ⟨v0, v1, rfl, h0, h1⟩ := h
  have k0 := h0
  have k1 := h1
  obtain ⟨⟨a0, c0, b0, o0, rfl, -⟩, -⟩ := h0
  obtain ⟨⟨a1, c1, b1, o1, rfl, -⟩, -⟩ := h1
  exact ⟨_, _, _, _, rfl, IsLs.mk k0 k1⟩
theorem LV.is {l : Ls} {v : Value} {W : World} (h : LV l v W) : IsLs W v l := by
  obtain ⟨a, b, c, d, rfl, h⟩ := h; exact h
theorem SL.of {l : List Int} {v : Value} {W : World} (h : IsInts W v l) : SL l v W := by
  have k := h
  obtain ⟨⟨a0, c0, b0, o0, rfl, -⟩, -⟩ := h
  exact ⟨_, _, rfl, k⟩
theorem SL.is {l : List Int} {v : Value} {W : World} (h : SL l v W) : IsInts W v l := by
  obtain ⟨a, b, rfl, h⟩ := h; exact h
theorem SL.nil (W : World) : SL [] (.slice none 0 0) W := SL.of (ints_nil W)
theorem NewL.give {l l' : Ls} {w w' : World} {e : Ending} (h : NewL l w e w') (hl : l = l') : GiveL l' w e w' := by
  subst hl
  obtain ⟨v, rfl, h, hb⟩ := h
  exact ⟨v, rfl, LV.of h, hb⟩
theorem NewN.give {l l' : List Int} {w w' : World} {e : Ending} (h : NewN l w e w') (hl : l = l') : GiveN l' w e w' := by
  subst hl
  obtain ⟨v, rfl, h, hb⟩ := h
  exact ⟨v, rfl, SL.of h, hb⟩


end Go.Proofs.Ytgjpdnaeldpdeaa
