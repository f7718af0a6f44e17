/- What the program's halves, In, Out compute. -/
import Derived.Test.YtlfackilmpnlhaaDoorSg19
namespace Go.Proofs.YtlfackilmpnlhaaDoor
open Go.RowKit Go.Shelf

def HvPost (l : List Sig) (a : Int) (w : World) (e : Ending) (w' : World) : Prop := e = .returned (.tuple #[.int .i64 (halfI l true a), .int .i64 (halfI l false a)]) ∧ Below w.heap.size w w'

structure HaX (w : World) (vs : Value) (a : Int) (W : World) : Prop where
  b0 : Boxed W w.heap.size 22 vs
  b1 : Boxed W (w.heap.size + 1) 3 (.int .i64 a)
theorem HaX.below {w W W3 : World} {vs : Value} {a : Int} (h : HaX w vs a W) (hb : Below W.heap.size W W3) : HaX w vs a W3 := ⟨box_bel hb h.b0, box_bel hb h.b1⟩
theorem HaX.mk' (w : World) (vs : Value) (a : Int) : HaX w vs a ((w.alloc (.cells #[vs] 22)).alloc (.cells #[.int .i64 a] 3)) := by
  have e1 := Boxed.new (w.alloc (.cells #[vs] 22)) 3 (.int .i64 a)
  have e0 := (Boxed.new w 22 vs).alloc (.cells #[.int .i64 a] 3)
  simp only [World.size_alloc] at e1
  exact ⟨e0, e1⟩

set_option maxRecDepth 100000 in
set_option maxHeartbeats 4000000 in
theorem halves_c (w : World) (vl : Value) (l : List Sig) (a : Int) (ha : I64 a) (hK : Keys w) (hl : IsSigs w vl l) :
    Calls Tryd.prog 45 #[vl, .int .i64 a] w (HvPost l a w) := by
  have hL : Hid (∀ W, Below w.heap.size w W → Calls Tryd.prog 19 #[vl] W (Calm (.int .i64 (lettersI l)) W)) := fun W hW => Letters_c W vl l (hK.below hW) (hl.below hW)
  obtain ⟨ao, cap, b, off, rfl, hl⟩ := hl
  have hn := hl.nb
  have HI := Lib.hid ha
  have HH : Hid (∀ (q : Bool) (W : World), 0 ≤ a → a < lettersI l → Below w.heap.size w W → HaX w (.slice ao l.length cap) a W → Calls Tryd.prog 48 #[.bool q, .pointer (some ⟨w.heap.size, 0, none⟩), .pointer (some ⟨w.heap.size + 1, 0, none⟩)] W (Calm (.int .i64 (halfI l q a)) W)) := fun q W h0 h1 hW hX => by
    have := half1_c W ao cap b off w.heap.size (w.heap.size + 1) l a q (hl.below hW) (valid_of_letters h0 h1) h0 HI.out hX.b0.cell hX.b1.cell
    rwa [halfI, if_pos ⟨h0, h1⟩]
  have HNO : Hid (¬ (0 ≤ a ∧ a < lettersI l) → ∀ q, halfI l q a = 0) := fun h q => if_neg h
  unfold I64 at ha
  clear hl hK
  obtain ⟨x, HX⟩ : ∃ x, Hid (lettersI l = x) := ⟨_, rfl⟩
  rw [HX.out] at hL HH HNO
  rcases (by omega : a < 0 ∨ (0 ≤ a ∧ x ≤ a) ∨ (0 ≤ a ∧ a < x)) with h0 | ⟨h0, h1⟩ | ⟨h0, h1⟩
  all_goals
    first
    | have d0 : decide (a < 0) = false := decide_eq_false (by omega)
    | have d0 : decide (a < 0) = true := decide_eq_true (by omega)
    first
    | have d1 : decide (x ≤ a) = false := decide_eq_false (by omega)
    | have d1 : decide (x ≤ a) = true := decide_eq_true (by omega)
    | skip
    go_enter Tryd.func45, Tryd.ntmps45
    go_upto_region 1 with (fail)
    have hV := HaX.mk' w (.slice ao l.length cap) a
    have hB0 : Below w.heap.size w ((w.alloc (.cells #[.slice ao l.length cap] 22)).alloc (.cells #[.int .i64 a] 3)) := (by repeat (first | exact Below.refl _ _ | assumption | (refine belA ?_ _) | (refine belD ?_ _)))
    generalize ((w.alloc (.cells #[.slice ao l.length cap] 22)).alloc (.cells #[.int .i64 a] 3)) = w4 at *
    first
    | (have _t : x ≤ a ∨ a < 0 := by omega
       go_cut [14] (fun v wx => v = .bool true ∧ Below w4.heap.size w4 wx))
    | (have _t : a < x := by omega
       go_cut [14] (fun v wx => v = .bool false ∧ Below w4.heap.size w4 wx))
    case first =>
      have q0 := hV.b0.cell
      have q1 := hV.b1.cell
      first
      | (have _t : 0 ≤ a := h0
         go_region_with (go_at_call 19; refine (hL.out _ (by repeat (first | exact Below.refl _ _ | assumption | (refine belA ?_ _) | (refine belD ?_ _) | (refine Below.drew ?_)))).mono ?_; rintro e W3 ⟨rfl, hb3⟩; have hb4 : Below w4.heap.size w4 W3 := (by first | exact hb3 | exact (Below.drew (Below.refl _ _)).trans hb3 | exact (Below.drew (Below.drew (Below.refl _ _))).trans hb3); have p0 := (box_bel hb4 hV.b0).cell; have p1 := (box_bel hb4 hV.b1).cell)
         all_goals go_wp2_with fail
         all_goals
           go_meet
           case rel => exact ⟨rfl, by first | assumption | exact (by assumption : Below _ _ _).trans (Below.drew (Below.refl _ _))⟩)
      | (go_quiet (fail)
         go_wp2_with fail
         go_meet
         case rel => exact ⟨rfl, below_draws _ _ _⟩)
    case rest =>
      obtain ⟨rfl, hb4⟩ := hcut
      have hW := hV.below hb4
      have hB := hB0.trans (hb4.mono hB0.size)
      clear hV hB0 hb4 hL
      first
      | (have _t : 0 ≤ a ∧ a < x := by omega
         go_wp2_with fail
         refine (HH.out true _ h0 h1 hB hW).mono ?_
         rintro e w5 ⟨rfl, hb5⟩
         go_wp2_with fail
         refine (HH.out false _ h0 h1 (hB.trans (hb5.mono hB.size)) (hW.below hb5)).mono ?_
         rintro e w6 ⟨rfl, hb6⟩
         go_wp2
         go_ret2
         exact ⟨rfl, (hB.trans (hb5.mono hB.size)).trans (hb6.mono (hB.trans (hb5.mono hB.size)).size)⟩)
      | (have hr := Lib.hid (HNO.out (by omega))
         go_wp2
         go_ret2
         exact ⟨by rw [hr.out, hr.out]; rfl, hB⟩)

theorem SIn_c (w : World) (vl : Value) (l : List Sig) (a : Int) (ha : I64 a) (hK : Keys w) (hl : IsSigs w vl l) :
    Calls Tryd.prog 27 #[vl, .int .i64 a] w (Calm (.int .i64 (halfI l true a)) w) := by
  have H := Lib.hid (halves_c w vl l a ha hK hl)
  obtain ⟨ao, cap, b, off, rfl, hl⟩ := hl
  clear hl hK ha
  go_enter Tryd.func27, Tryd.ntmps27
  go_wp2_with fail
  refine H.out.mono ?_
  rintro e w1 ⟨rfl, hb⟩
  go_wp2
  go_ret
  exact ⟨rfl, hb⟩
theorem SOut_c (w : World) (vl : Value) (l : List Sig) (a : Int) (ha : I64 a) (hK : Keys w) (hl : IsSigs w vl l) :
    Calls Tryd.prog 29 #[vl, .int .i64 a] w (Calm (.int .i64 (halfI l false a)) w) := by
  have H := Lib.hid (halves_c w vl l a ha hK hl)
  obtain ⟨ao, cap, b, off, rfl, hl⟩ := hl
  clear hl hK ha
  go_enter Tryd.func29, Tryd.ntmps29
  go_wp2_with fail
  refine H.out.mono ?_
  rintro e w1 ⟨rfl, hb⟩
  go_wp2
  go_ret
  exact ⟨rfl, hb⟩

end Go.Proofs.YtlfackilmpnlhaaDoor
