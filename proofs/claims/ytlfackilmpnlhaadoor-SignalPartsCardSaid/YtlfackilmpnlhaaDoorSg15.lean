/- What the program's Value computes. -/
import Derived.Test.YtlfackilmpnlhaaDoorSg8
import Derived.Test.YtlfackilmpnlhaaDoorSg9
import Derived.Deep.RegionWith
namespace Go.Proofs.YtlfackilmpnlhaaDoor
open Go.RowKit Go.Shelf
attribute [local go_sem] Oper.semAt_some

def valueI (l : List Sig) (a i : Int) : Int :=
  if 0 ≤ a ∧ a < lettersI l ∧ 0 ≤ i ∧ i < l.length then a / prodL (l.take i.toNat) % (l.getD i.toNat sig0).size else 0

theorem box_bel {W W' : World} {B : Nat} {t : TypeId} {v : Value} (hb : Below W.heap.size W W') (h : Boxed W B t v) : Boxed W' B t v := (hb.block _ h.lt).trans h

theorem box_cell {W : World} {B : Nat} {t : TypeId} {v : Value} (h : Boxed W B t v) : W.cell? ⟨B, 0, none⟩ = some v := h.cell

/-- The boxes of Value: the slice, the letter, the index, the result. -/
structure ValX (w : World) (vs : Value) (a i r : Int) (W : World) : Prop where
  b0 : Boxed W w.heap.size 22 vs
  b1 : Boxed W (w.heap.size + 1) 3 (.int .i64 a)
  b2 : Boxed W (w.heap.size + 1 + 1) 3 (.int .i64 i)
  b3 : Boxed W (w.heap.size + 1 + 1 + 1) 3 (.int .i64 r)

theorem ValX.below {w W W3 : World} {vs : Value} {a i r : Int} (h : ValX w vs a i r W) (hb : Below W.heap.size W W3) : ValX w vs a i r W3 :=
  ⟨box_bel hb h.b0, box_bel hb h.b1, box_bel hb h.b2, box_bel hb h.b3⟩

theorem ValX.mk' (w : World) (vs : Value) (a i : Int) :
    ValX w vs a i 0 ((((w.alloc (.cells #[vs] 22)).alloc (.cells #[.int .i64 a] 3)).alloc (.cells #[.int .i64 i] 3)).alloc (.cells #[.int .i64 0] 3)) := by
  have e3 := Boxed.new (((w.alloc (.cells #[vs] 22)).alloc (.cells #[.int .i64 a] 3)).alloc (.cells #[.int .i64 i] 3)) 3 (.int .i64 0)
  have e2 := (Boxed.new ((w.alloc (.cells #[vs] 22)).alloc (.cells #[.int .i64 a] 3)) 3 (.int .i64 i)).alloc (.cells #[.int .i64 0] 3)
  have e1 := ((Boxed.new (w.alloc (.cells #[vs] 22)) 3 (.int .i64 a)).alloc (.cells #[.int .i64 i] 3)).alloc (.cells #[.int .i64 0] 3)
  have e0 := (((Boxed.new w 22 vs).alloc (.cells #[.int .i64 a] 3)).alloc (.cells #[.int .i64 i] 3)).alloc (.cells #[.int .i64 0] 3)
  simp only [World.size_alloc] at e3 e2 e1
  exact ⟨e0, e1, e2, e3⟩

set_option maxRecDepth 100000 in
set_option maxHeartbeats 4000000 in
theorem Value_no (w : World) (vl : Value) (l : List Sig) (a i : Int) (ha : I64 a) (hi : I64 i) (hK : Keys w) (hl : IsSigs w vl l)
    (hno : ¬ (0 ≤ a ∧ a < lettersI l ∧ 0 ≤ i ∧ i < l.length)) :
    Calls Tryd.prog 25 #[vl, .int .i64 a, .int .i64 i] w (Calm (.int .i64 0) w) := by
  have hL : Hid (∀ W, Below w.heap.size w W → Calls Tryd.prog 19 #[vl] W (Calm (.int .i64 (lettersI l)) W)) := fun W hW => Letters_c W vl l (hK.below hW) (hl.below hW)
  obtain ⟨ao, cap, b, off, rfl, hl⟩ := hl
  have hn := hl.nb
  unfold I64 at ha hi
  clear hl hK
  generalize lettersI l = x at *
  rcases (by omega : a < 0 ∨ (0 ≤ a ∧ x ≤ a) ∨ (0 ≤ a ∧ a < x ∧ i < 0) ∨ (0 ≤ a ∧ a < x ∧ 0 ≤ i ∧ (l.length : Int) ≤ i)) with h0 | ⟨h0, h1⟩ | ⟨h0, h1, h2⟩ | ⟨h0, h1, h2, h3⟩
  all_goals
    first
    | have d0 : decide (a < 0) = false := decide_eq_false (by omega)
    | have d0 : decide (a < 0) = true := decide_eq_true (by omega)
    | skip
    first
    | have d1 : decide (x ≤ a) = false := decide_eq_false (by omega)
    | have d1 : decide (x ≤ a) = true := decide_eq_true (by omega)
    | skip
    first
    | have d2 : decide (i < 0) = false := decide_eq_false (by omega)
    | have d2 : decide (i < 0) = true := decide_eq_true (by omega)
    | skip
    go_enter Tryd.func25, Tryd.ntmps25
    go_upto_region 1 with (fail)
    have hV := ValX.mk' w (.slice ao l.length cap) a i
    have hB0 : Below w.heap.size w ((((w.alloc (.cells #[.slice ao l.length cap] 22)).alloc (.cells #[.int .i64 a] 3)).alloc (.cells #[.int .i64 i] 3)).alloc (.cells #[.int .i64 0] 3)) := (by repeat (first | exact Below.refl _ _ | assumption | (refine belA ?_ _) | (refine belD ?_ _)))
    generalize ((((w.alloc (.cells #[.slice ao l.length cap] 22)).alloc (.cells #[.int .i64 a] 3)).alloc (.cells #[.int .i64 i] 3)).alloc (.cells #[.int .i64 0] 3)) = w4 at *
    go_cut [26] (fun v wx => v = .bool true ∧ Below w4.heap.size w4 wx)
    case first =>
      have q0 := hV.b0.cell
      have q1 := hV.b1.cell
      have q2 := hV.b2.cell
      first
      | (have _t : 0 ≤ a := h0
         go_region_with (go_at_call 19; refine (hL.out _ (by repeat (first | exact Below.refl _ _ | assumption | (refine belA ?_ _) | (refine belD ?_ _) | (refine Below.drew ?_)))).mono ?_; rintro e W3 ⟨rfl, hb3⟩; have hb4 : Below w4.heap.size w4 W3 := (by first | exact hb3 | exact (Below.drew (Below.refl _ _)).trans hb3 | exact (Below.drew (Below.drew (Below.refl _ _))).trans hb3); have p0 := (box_bel hb4 hV.b0).cell; have p1 := (box_bel hb4 hV.b1).cell; have p2 := (box_bel hb4 hV.b2).cell)
         all_goals go_wp2_with fail
         all_goals
           go_meet
           case rel => exact ⟨rfl, by first | assumption | exact (by assumption : Below _ _ _).trans (Below.drew (Below.refl _ _))⟩)
      | (go_quiet (fail)
         go_wp2_with fail
         go_meet
         case rel => exact ⟨rfl, below_draws _ _ _⟩)
    case rest =>
      obtain ⟨rfl, hb4⟩ := hcut
      have hW := hV.below hb4
      have q3 := hW.b3.cell
      have f3 := hW.b3.frozen
      have hB := hB0.trans (hb4.mono hB0.size)
      clear hV hB0 hb4
      go_wp2
      have r0 := (hW.b3.set (.int .i64 0)).cell
      refine bodyPost_ret (v := .int .i64 0) (by simp [results, Tryd.results25, go_sem, r0]) rfl ?_
      exact ⟨rfl, hB.setCell (p := ⟨w.heap.size + 1 + 1 + 1, 0, none⟩) (by simp; omega) _⟩

theorem valid_of_letters {l : List Sig} {a : Int} (h0 : 0 ≤ a) (h1 : a < lettersI l) : validS l = true := by
  unfold lettersI at h1
  cases hv : validS l
  · rw [hv] at h1; simp at h1; omega
  · rfl

theorem valX_own (w : World) (vs : Value) (a i : Int) {α : Type} (f : α → Int) : Own (fun (s : α) W => ValX w vs a i (f s) W) := fun s X Y row h hg hr =>
  ⟨boxed_own _ _ (fun (_ : Unit) => vs) () X Y row h.b0 hg hr, boxed_own _ _ (fun (_ : Unit) => Value.int .i64 a) () X Y row h.b1 hg hr, boxed_own _ _ (fun (_ : Unit) => Value.int .i64 i) () X Y row h.b2 hg hr, boxed_own _ _ (fun s => Value.int .i64 (f s)) s X Y row h.b3 hg hr⟩


end Go.Proofs.YtlfackilmpnlhaaDoor
