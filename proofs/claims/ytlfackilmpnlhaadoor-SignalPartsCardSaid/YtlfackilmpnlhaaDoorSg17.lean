/- What the program's Make computes. -/
import Derived.Test.YtlfackilmpnlhaaDoorSg16
import Derived.Test.YtlfackilmpnlhaaDoorSgP1
namespace Go.Proofs.YtlfackilmpnlhaaDoor
open Go.RowKit Go.Shelf
attribute [local go_sem] Oper.semAt_some

theorem Value_c (w : World) (vl : Value) (l : List Sig) (a i : Int) (ha : I64 a) (hi : I64 i) (hK : Keys w) (hl : IsSigs w vl l) :
    Calls Tryd.prog 25 #[vl, .int .i64 a, .int .i64 i] w (Calm (.int .i64 (valueI l a i)) w) := by
  by_cases h : 0 ≤ a ∧ a < lettersI l ∧ 0 ≤ i ∧ i < l.length
  · obtain ⟨h0, h1, h2, h3⟩ := h
    obtain ⟨j, rfl⟩ : ∃ j : Nat, i = j := ⟨i.toNat, by omega⟩
    have h4 := Value_yes w vl l a j ha hK hl h0 h1 (by omega)
    unfold valueI
    rw [if_pos ⟨h0, h1, h2, h3⟩, Int.toNat_natCast, getD_lt _ _ _ (show j < l.length by omega)]
    exact h4
  · have h4 := Value_no w vl l a i ha hi hK hl h
    unfold valueI
    rw [if_neg h]
    exact h4

/-- The boxes of Make: the signals, the values, the results, the letter. -/
structure MkX (w : World) (vs vv : Value) (B n r : Int) (b4 : Nat) (q : Bool) (W : World) : Prop where
  b0 : Boxed W w.heap.size 22 vs
  b1 : Boxed W (w.heap.size + 1) 23 vv
  b2 : Boxed W (w.heap.size + 1 + 1) 3 (.int .i64 r)
  b3 : Boxed W (w.heap.size + 1 + 1 + 1) 4 (.bool q)
  b5 : Boxed W b4 3 (.int .i64 n)

theorem MkX.below {w W W3 : World} {vs vv : Value} {B n r : Int} {b4 : Nat} {q : Bool} (h : MkX w vs vv B n r b4 q W) (hb : Below W.heap.size W W3) : MkX w vs vv B n r b4 q W3 :=
  ⟨box_bel hb h.b0, box_bel hb h.b1, box_bel hb h.b2, box_bel hb h.b3, box_bel hb h.b5⟩
theorem MkX.drew {w W : World} {vs vv : Value} {B n r : Int} {b4 : Nat} {q : Bool} (h : MkX w vs vv B n r b4 q W) : MkX w vs vv B n r b4 q W.drew := ⟨h.b0, h.b1, h.b2, h.b3, h.b5⟩
theorem MkX.letter {w W : World} {vs vv : Value} {B n r : Int} {b4 : Nat} {q : Bool} (h : MkX w vs vv B n r b4 q W) (hb : w.heap.size + 4 ≤ b4) (m : Int) : MkX w vs vv B m r b4 q (W.setCell ⟨b4, 0, none⟩ (.int .i64 m)) :=
  ⟨h.b0.other (by omega) _, h.b1.other (by omega) _, h.b2.other (by omega) _, h.b3.other (by omega) _, h.b5.set _⟩
theorem MkX.res {w W : World} {vs vv : Value} {B n r : Int} {b4 : Nat} {q : Bool} (h : MkX w vs vv B n r b4 q W) (hb : w.heap.size + 4 ≤ b4) (m : Int) : MkX w vs vv B n m b4 q (W.setCell ⟨w.heap.size + 1 + 1, 0, none⟩ (.int .i64 m)) :=
  ⟨h.b0.other (by omega) _, h.b1.other (by omega) _, h.b2.set _, h.b3.other (by omega) _, h.b5.other (by omega) _⟩
theorem MkX.ok {w W : World} {vs vv : Value} {B n r : Int} {b4 : Nat} {q : Bool} (h : MkX w vs vv B n r b4 q W) (hb : w.heap.size + 4 ≤ b4) (m : Bool) : MkX w vs vv B n r b4 m (W.setCell ⟨w.heap.size + 1 + 1 + 1, 0, none⟩ (.bool m)) :=
  ⟨h.b0.other (by omega) _, h.b1.other (by omega) _, h.b2.other (by omega) _, h.b3.set _, h.b5.other (by omega) _⟩
theorem mkX_own (w : World) (vs vv : Value) (B : Int) {α : Type} (f : α → Int) (r : Int) (b4 : Nat) (q : Bool) : Own (fun (s : α) W => MkX w vs vv B (f s) r b4 q W) := fun s X Y row h hg hr =>
  ⟨boxed_own _ _ (fun (_ : Unit) => vs) () X Y row h.b0 hg hr, boxed_own _ _ (fun (_ : Unit) => vv) () X Y row h.b1 hg hr, boxed_own _ _ (fun (_ : Unit) => Value.int .i64 r) () X Y row h.b2 hg hr, boxed_own _ _ (fun (_ : Unit) => Value.bool q) () X Y row h.b3 hg hr, boxed_own _ _ (fun s => Value.int .i64 (f s)) s X Y row h.b5 hg hr⟩

/-- The first four boxes. -/
structure MkY (w : World) (vs vv : Value) (r : Int) (q : Bool) (W : World) : Prop where
  b0 : Boxed W w.heap.size 22 vs
  b1 : Boxed W (w.heap.size + 1) 23 vv
  b2 : Boxed W (w.heap.size + 1 + 1) 3 (.int .i64 r)
  b3 : Boxed W (w.heap.size + 1 + 1 + 1) 4 (.bool q)
theorem MkY.below {w W W3 : World} {vs vv : Value} {r : Int} {q : Bool} (h : MkY w vs vv r q W) (hb : Below W.heap.size W W3) : MkY w vs vv r q W3 :=
  ⟨box_bel hb h.b0, box_bel hb h.b1, box_bel hb h.b2, box_bel hb h.b3⟩
theorem MkY.mk' (w : World) (vs vv : Value) :
    MkY w vs vv 0 false ((((w.alloc (.cells #[vs] 22)).alloc (.cells #[vv] 23)).alloc (.cells #[.int .i64 0] 3)).alloc (.cells #[.bool false] 4)) := by
  have e3 := Boxed.new (((w.alloc (.cells #[vs] 22)).alloc (.cells #[vv] 23)).alloc (.cells #[.int .i64 0] 3)) 4 (.bool false)
  have e2 := (Boxed.new ((w.alloc (.cells #[vs] 22)).alloc (.cells #[vv] 23)) 3 (.int .i64 0)).alloc (.cells #[.bool false] 4)
  have e1 := ((Boxed.new (w.alloc (.cells #[vs] 22)) 23 vv).alloc (.cells #[.int .i64 0] 3)).alloc (.cells #[.bool false] 4)
  have e0 := (((Boxed.new w 22 vs).alloc (.cells #[vv] 23)).alloc (.cells #[.int .i64 0] 3)).alloc (.cells #[.bool false] 4)
  simp only [World.size_alloc] at e3 e2 e1
  exact ⟨e0, e1, e2, e3⟩
theorem MkY.res {w W : World} {vs vv : Value} {r : Int} {q : Bool} (h : MkY w vs vv r q W) (m : Int) (p : Bool) :
    MkY w vs vv m p ((W.setCell ⟨w.heap.size + 1 + 1, 0, none⟩ (.int .i64 m)).setCell ⟨w.heap.size + 1 + 1 + 1, 0, none⟩ (.bool p)) :=
  ⟨(h.b0.other (by omega) _).other (by omega) _, (h.b1.other (by omega) _).other (by omega) _, (h.b2.set _).other (by omega) _, (h.b3.other (by omega) _).set _⟩

set_option maxRecDepth 100000 in
set_option maxHeartbeats 4000000 in
theorem Make_no (w : World) (vl vv : Value) (l : List Sig) (vals : List Int) (hK : Keys w) (hl : IsSigs w vl l) (hvv : IsInts w vv vals)
    (hno : ¬ (validS l = true ∧ vals.length = l.length)) :
    Calls Tryd.prog 11 #[vl, vv] w (MkPost (0, false) w) := by
  have hV : Hid (∀ W, Below w.heap.size w W → Calls Tryd.prog 13 #[vl] W (Quiet (.bool (validS l)) W)) := fun W hW => SValid_c W _ l (hK.below hW) (hl.below hW)
  obtain ⟨ao, cap, b, off, rfl, hl⟩ := hl
  obtain ⟨⟨av, cv, bv, ov, rfl, hvv⟩, hvr⟩ := hvv
  have hn := hl.nb
  have hnv := hvv.nb
  clear hl hvv hvr hK
  cases hv : validS l
  all_goals
    first
    | (have hne : ((vals.length : Int) != l.length) = true := by (simp; intro e; exact hno ⟨hv, by omega⟩))
    | skip
    have HV := Lib.hid hv
    clear hv hno
    go_enter Tryd.func11, Tryd.ntmps11
    go_wp2_with fail
    refine (hV.out _ (by repeat (first | exact Below.refl _ _ | assumption | (refine belA ?_ _) | (refine belD ?_ _)))).mono ?_
    rintro e w1 ⟨rfl, n1, hw1⟩
    have hY := MkY.mk' w (.slice ao l.length cap) (.slice av vals.length cv)
    have hB0 : Below w.heap.size w ((((w.alloc (.cells #[.slice ao l.length cap] 22)).alloc (.cells #[.slice av vals.length cv] 23)).alloc (.cells #[.int .i64 0] 3)).alloc (.cells #[.bool false] 4)) := (by repeat (first | exact Below.refl _ _ | assumption | (refine belA ?_ _) | (refine belD ?_ _)))
    generalize ((((w.alloc (.cells #[.slice ao l.length cap] 22)).alloc (.cells #[.slice av vals.length cv] 23)).alloc (.cells #[.int .i64 0] 3)).alloc (.cells #[.bool false] 4)) = w4 at *
    have hY1 : MkY w (.slice ao l.length cap) (.slice av vals.length cv) 0 false w1 := by rw [hw1]; exact hY.below (below_draws _ _ _)
    have hB1 : Below w.heap.size w w1 := by rw [hw1]; exact belD hB0 _
    clear hw1 hY hB0
    rw [HV.out]
    have q0 := hY1.b0.cell
    have q1 := hY1.b1.cell
    have q2 := hY1.b2.cell
    have f2 := hY1.b2.frozen
    have q3 := hY1.b3.cell
    have f3 := hY1.b3.frozen
    go_wp2
    have hR := hY1.res 0 false
    have r2 := hR.b2.cell
    have r3 := hR.b3.cell
    refine bodyPost_ret (v := .tuple #[.int .i64 0, .bool false]) (by simp [results, Tryd.results11, go_sem, r2, r3]) rfl ?_
    exact ⟨rfl, (hB1.setCell (p := ⟨w.heap.size + 1 + 1, 0, none⟩) (by simp; omega) _).setCell (p := ⟨w.heap.size + 1 + 1 + 1, 0, none⟩) (by simp; omega) _⟩

end Go.Proofs.YtlfackilmpnlhaaDoor
