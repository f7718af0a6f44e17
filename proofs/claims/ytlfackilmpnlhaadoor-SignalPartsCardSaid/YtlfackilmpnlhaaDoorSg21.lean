/- What the program's Join computes: where there is no such letter. -/
import Derived.Test.YtlfackilmpnlhaaDoorSg20
namespace Go.Proofs.YtlfackilmpnlhaaDoor
open Go.RowKit Go.Shelf

/-- The boxes of Join: the signals, the input, the output. -/
structure JoY (w : World) (vs : Value) (i o : Int) (W : World) : Prop where
  b0 : Boxed W w.heap.size 22 vs
  b1 : Boxed W (w.heap.size + 1) 3 (.int .i64 i)
  b2 : Boxed W (w.heap.size + 1 + 1) 3 (.int .i64 o)
theorem JoY.below {w W W3 : World} {vs : Value} {i o : Int} (h : JoY w vs i o W) (hb : Below W.heap.size W W3) : JoY w vs i o W3 := ⟨box_bel hb h.b0, box_bel hb h.b1, box_bel hb h.b2⟩
theorem JoY.mk' (w : World) (vs : Value) (i o : Int) : JoY w vs i o (((w.alloc (.cells #[vs] 22)).alloc (.cells #[.int .i64 i] 3)).alloc (.cells #[.int .i64 o] 3)) := by
  have e2 := Boxed.new ((w.alloc (.cells #[vs] 22)).alloc (.cells #[.int .i64 i] 3)) 3 (.int .i64 o)
  have e1 := (Boxed.new (w.alloc (.cells #[vs] 22)) 3 (.int .i64 i)).alloc (.cells #[.int .i64 o] 3)
  have e0 := ((Boxed.new w 22 vs).alloc (.cells #[.int .i64 i] 3)).alloc (.cells #[.int .i64 o] 3)
  simp only [World.size_alloc] at e1 e2
  exact ⟨e0, e1, e2⟩

theorem bel_step {w4 W W3 : World} (h : Below w4.heap.size w4 W) (hb : Below W.heap.size W W3) : Below w4.heap.size w4 W3 := h.trans (hb.mono h.size)
theorem bel_step1 {w4 W W3 : World} (h : Below w4.heap.size w4 W) (hb : Below W.drew.heap.size W.drew W3) : Below w4.heap.size w4 W3 := (h.trans (Below.drew (Below.refl _ _))).trans (hb.mono h.size)

set_option maxRecDepth 100000 in
set_option maxHeartbeats 4000000 in
theorem Join_no (w : World) (vl : Value) (l : List Sig) (i o : Int) (hi : I64 i) (ho : I64 o) (hK : Keys w) (hl : IsSigs w vl l)
    (hno : ¬ (0 ≤ i ∧ i < inputsI l ∧ 0 ≤ o ∧ o < outputsI l)) :
    Calls Tryd.prog 31 #[vl, .int .i64 i, .int .i64 o] w (Calm (.int .i64 0) w) := by
  have hI : Hid (∀ W, Below w.heap.size w W → Calls Tryd.prog 21 #[vl] W (Calm (.int .i64 (inputsI l)) W)) := fun W hW => Inputs_c W vl l (hK.below hW) (hl.below hW)
  have hO : Hid (∀ W, Below w.heap.size w W → Calls Tryd.prog 23 #[vl] W (Calm (.int .i64 (outputsI l)) W)) := fun W hW => Outputs_c W vl l (hK.below hW) (hl.below hW)
  obtain ⟨ao, cap, b, off, rfl, hl⟩ := hl
  have hn := hl.nb
  unfold I64 at hi ho
  clear hl hK
  generalize inputsI l = x at *
  generalize outputsI l = y at *
  rcases (by omega : i < 0 ∨ (0 ≤ i ∧ x ≤ i) ∨ (0 ≤ i ∧ i < x ∧ o < 0) ∨ (0 ≤ i ∧ i < x ∧ 0 ≤ o ∧ y ≤ o)) with h0 | ⟨h0, h1⟩ | ⟨h0, h1, h2⟩ | ⟨h0, h1, h2, h3⟩
  all_goals
    first
    | have d0 : decide (i < 0) = false := decide_eq_false (by omega)
    | have d0 : decide (i < 0) = true := decide_eq_true (by omega)
    first
    | have d1 : decide (x ≤ i) = false := decide_eq_false (by omega)
    | have d1 : decide (x ≤ i) = true := decide_eq_true (by omega)
    | skip
    first
    | have d2 : decide (o < 0) = false := decide_eq_false (by omega)
    | have d2 : decide (o < 0) = true := decide_eq_true (by omega)
    | skip
    first
    | have d3 : decide (y ≤ o) = true := decide_eq_true (by omega)
    | skip
    go_enter Tryd.func31, Tryd.ntmps31
    go_upto_region 1 with (fail)
    have hV := JoY.mk' w (.slice ao l.length cap) i o
    have hB0 : Below w.heap.size w (((w.alloc (.cells #[.slice ao l.length cap] 22)).alloc (.cells #[.int .i64 i] 3)).alloc (.cells #[.int .i64 o] 3)) := (by repeat (first | exact Below.refl _ _ | assumption | (refine belA ?_ _) | (refine belD ?_ _)))
    generalize (((w.alloc (.cells #[.slice ao l.length cap] 22)).alloc (.cells #[.int .i64 i] 3)).alloc (.cells #[.int .i64 o] 3)) = w4 at *
    go_cut [28] (fun v wx => v = .bool true ∧ Below w4.heap.size w4 wx)
    case first =>
      have q0 := hV.b0.cell
      have q1 := hV.b1.cell
      have q2 := hV.b2.cell
      have hb9 : Below w4.heap.size w4 w4 := Below.refl _ _
      first
      | (have _t : 0 ≤ i := h0
         go_region_with (((first | (go_at_call 21; refine (hI.out _ (by repeat (first | exact Below.refl _ _ | assumption | (refine belA ?_ _) | (refine belD ?_ _) | (refine Below.drew ?_)))).mono ?_) | (go_at_call 23; refine (hO.out _ (by repeat (first | exact Below.refl _ _ | assumption | (refine belA ?_ _) | (refine belD ?_ _) | (refine Below.drew ?_)))).mono ?_)); rintro e W3 ⟨rfl, hb3⟩; have hb4 : Below w4.heap.size w4 W3 := (by first | exact bel_step (by assumption) hb3 | exact bel_step1 (by assumption) hb3); have hbw : Below w.heap.size w W3 := hB0.trans (hb4.mono hB0.size); have p0 := (box_bel hb4 hV.b0).cell; have p1 := (box_bel hb4 hV.b1).cell; have p2 := (box_bel hb4 hV.b2).cell))
         all_goals go_wp2_with fail
         all_goals
           go_meet
           case rel => exact ⟨rfl, by first | assumption | exact (by assumption : Below _ _ _).trans (Below.drew (Below.refl _ _))⟩)
      | (go_quiet (fail)
         go_wp2_with fail
         go_meet
         case rel => exact ⟨rfl, below_draws _ _ _⟩)
    case rest =>
      obtain ⟨rfl, hb4⟩ := hcut
      have hB := hB0.trans (hb4.mono hB0.size)
      clear hV hB0 hb4
      go_wp2
      go_ret
      exact ⟨rfl, hB⟩

end Go.Proofs.YtlfackilmpnlhaaDoor
