/- What head computes: true. -/
import Derived.Test.YtjppebbeobgmoaaP20
import Derived.Test.YtjppebbeobgmoaaC1
namespace Go.Proofs.Ytjppebbeobgmoaa
open Go.RowKit

theorem exS : ∀ i, (exG.succ.getD i []).length ≤ 1000 := by
  intro i
  match i with
  | 0 => decide
  | 1 => decide
  | 2 => decide
  | 3 => decide
  | n + 4 => simp [exG, List.getD]

theorem ex_a : fitsB exG 0 4 = true ∧ fitsB exG 1 4 = true ∧ fitsB exG 2 4 = false := by decide +kernel
theorem ex_1 : (attQ exG 0 [false, false, true, false]).inn = [true, false, true, false] ∧ (attQ exG 0 [false, false, true, false]).mv = [1, -1, 0, -1] := by decide +kernel
theorem ex_2 : (attQ exG 1 [true, false, false, false]).inn = [true, true, false, false] ∧ (attQ exG 1 [true, false, false, false]).mv = [0, 1, -1, -1] := by decide +kernel
theorem ex_3 : closedQ exG 1 [false, true, false, true] = [false, true, false, true] ∧ closedQ exG 0 [true, true, false, false] = [false, false, false, false] := by decide +kernel
theorem ex_4 : trapB exG 0 [false, false, true, false] = true ∧ trapB exG 0 [true, false, false, false] = false := by decide +kernel

theorem new_bools (w : World) (l : List Bool) (hl : l.length ≤ 1000) {m : Nat} (hm : m = w.heap.size) : IsBools (w.alloc (.cells (l.map Value.bool).toArray 4)) (.slice (some ⟨m, 0, none⟩) l.length l.length) l := by
  subst hm; exact bools_block l (heap_alloc_new _ _) hl
theorem new_ints (w : World) (l : List Int) (hl : l.length ≤ 1000) (hr : ∀ x ∈ l, I64 x) {m : Nat} (hm : m = w.heap.size) : IsInts (w.alloc (.cells (l.map (Value.int .i64)).toArray 3)) (.slice (some ⟨m, 0, none⟩) l.length l.length) l := by
  subst hm; exact ints_block l (heap_alloc_new _ _) hl hr

set_option maxHeartbeats 4000000 in
theorem head_c (w : World) : Calls Try.prog 9 #[] w (Calm (.bool true) w) := by
  go_enter Try.func9, Try.ntmps9
  go_wp2_with fail
  refine (Example_c _).mono ?_
  rintro e w1 ⟨v, rfl, hg, hb1⟩
  have hgx := hg
  obtain ⟨v0, v1, v2, rfl, ⟨⟨ao0, cap0, b0, off0, rfl, g0⟩, _⟩, ⟨⟨ao1, cap1, b1, off1, rfl, g1⟩, _⟩, ⟨V, ⟨ao2, cap2, b2, off2, rfl, g2⟩, hr⟩⟩ := hg
  clear g0 g1 g2 hr
  have hA : Hid (∀ (W : World) (p : Int) (vs : Value) (s : List Bool), Below w1.heap.size w1 W → IsBools W vs s → Calls Try.prog 11 #[.agg #[Value.slice ao0 exG.owner.length cap0, Value.slice ao1 exG.prio.length cap1, Value.slice ao2 exG.succ.length cap2], .int .i64 p, vs] W (TwoOr (fitsB exG p s.length) (attQ exG p s).inn (attQ exG p s).mv W)) :=
    fun W p vs s hW hs => Attract_c W _ vs exG p s (hgx.below hW) hs exS
  have hC : Hid (∀ (W : World) (p : Int) (vs : Value) (s : List Bool), Below w1.heap.size w1 W → IsBools W vs s → Calls Try.prog 17 #[.agg #[Value.slice ao0 exG.owner.length cap0, Value.slice ao1 exG.prio.length cap1, Value.slice ao2 exG.succ.length cap2], .int .i64 p, vs] W (SetOr (fitsB exG p s.length) (closedQ exG p s) W)) :=
    fun W p vs s hW hs => Closed_c W _ vs exG p s (hgx.below hW) hs exS
  have hT : Hid (∀ (W : World) (p : Int) (vs : Value) (s : List Bool), Below w1.heap.size w1 W → IsBools W vs s → Calls Try.prog 15 #[.agg #[Value.slice ao0 exG.owner.length cap0, Value.slice ao1 exG.prio.length cap1, Value.slice ao2 exG.succ.length cap2], .int .i64 p, vs] W (Calm (.bool (fitsB exG p s.length && trapB exG p s)) W)) :=
    fun W p vs s hW hs => Trap_c W _ vs exG p s (hgx.below hW) hs
  -- WALK
  have hB0 : Boxed w1 (w1.alloc (.cells #[Value.slice ao0 exG.owner.length cap0, Value.slice ao1 exG.prio.length cap1, Value.slice ao2 exG.succ.length cap2] 25)) #[Value.slice ao0 exG.owner.length cap0, Value.slice ao1 exG.prio.length cap1, Value.slice ao2 exG.succ.length cap2] := Boxed.start (Below.refl _ _)
  have hw : Below w.heap.size w w1 := hb1
  clear hb1
  go_wp2_with fail
  refine (hA.out _ _ _ [false, false, true, false] (hB0.bl.trans ((bel_box _).mono hB0.bl.size)) (new_bools (w1.alloc (.cells #[Value.slice ao0 exG.owner.length cap0, Value.slice ao1 exG.prio.length cap1, Value.slice ao2 exG.succ.length cap2] 25)) [false, false, true, false] (by decide) (by simp))).mono ?_
  rintro e x1 ⟨uha, uhm, rfl, ha, hm, hbl⟩
  have hst := (bel_box (w := (w1.alloc (.cells #[Value.slice ao0 exG.owner.length cap0, Value.slice ao1 exG.prio.length cap1, Value.slice ao2 exG.succ.length cap2] 25))) (.cells (([false, false, true, false] : List Bool).map Value.bool).toArray 4)).trans (hbl.mono (by simp))
  have hB1 := hB0.step hst
  clear hst hbl
  have d0 : x1.cell? ⟨w1.heap.size, 0, none⟩ = some (Value.slice ao0 exG.owner.length cap0) := hB1.cell 0 rfl
  have d1 : x1.cell? ⟨w1.heap.size, 1, none⟩ = some (Value.slice ao1 exG.prio.length cap1) := hB1.cell 1 rfl
  have d2 : x1.cell? ⟨w1.heap.size, 2, none⟩ = some (Value.slice ao2 exG.succ.length cap2) := hB1.cell 2 rfl
  go_wp2_with fail
  refine (hA.out _ _ _ [true, false, false, false] (hB1.bl.trans ((bel_box _).mono hB1.bl.size)) (new_bools x1 [true, false, false, false] (by decide) (by simp))).mono ?_
  rintro e x2 ⟨uhb, uhn, rfl, hb, hn, hbl⟩
  clear d0 d1 d2
  have hst := (bel_box (w := x1) (.cells (([true, false, false, false] : List Bool).map Value.bool).toArray 4)).trans (hbl.mono (by simp))
  have hB2 := hB1.step hst
  have ha := ha.below hst
  have hm := hm.below hst
  clear hst hbl
  clear hB1
  have d0 : x2.cell? ⟨w1.heap.size, 0, none⟩ = some (Value.slice ao0 exG.owner.length cap0) := hB2.cell 0 rfl
  have d1 : x2.cell? ⟨w1.heap.size, 1, none⟩ = some (Value.slice ao1 exG.prio.length cap1) := hB2.cell 1 rfl
  have d2 : x2.cell? ⟨w1.heap.size, 2, none⟩ = some (Value.slice ao2 exG.succ.length cap2) := hB2.cell 2 rfl
  go_wp2_with fail
  refine (hC.out _ _ _ [false, true, false, true] (hB2.bl.trans ((bel_box _).mono hB2.bl.size)) (new_bools x2 [false, true, false, true] (by decide) (by simp))).mono ?_
  rintro e x3 ⟨uhc, rfl, hc, hbl, -⟩
  clear d0 d1 d2
  have hst := (bel_box (w := x2) (.cells (([false, true, false, true] : List Bool).map Value.bool).toArray 4)).trans (hbl.mono (by simp))
  have hB3 := hB2.step hst
  have ha := ha.below hst
  have hm := hm.below hst
  have hb := hb.below hst
  have hn := hn.below hst
  clear hst hbl
  clear hB2
  have d0 : x3.cell? ⟨w1.heap.size, 0, none⟩ = some (Value.slice ao0 exG.owner.length cap0) := hB3.cell 0 rfl
  have d1 : x3.cell? ⟨w1.heap.size, 1, none⟩ = some (Value.slice ao1 exG.prio.length cap1) := hB3.cell 1 rfl
  have d2 : x3.cell? ⟨w1.heap.size, 2, none⟩ = some (Value.slice ao2 exG.succ.length cap2) := hB3.cell 2 rfl
  go_wp2_with fail
  refine (hC.out _ _ _ [true, true, false, false] (hB3.bl.trans ((bel_box _).mono hB3.bl.size)) (new_bools x3 [true, true, false, false] (by decide) (by simp))).mono ?_
  rintro e x4 ⟨uhd, rfl, hd, hbl, -⟩
  clear d0 d1 d2
  have hst := (bel_box (w := x3) (.cells (([true, true, false, false] : List Bool).map Value.bool).toArray 4)).trans (hbl.mono (by simp))
  have hB4 := hB3.step hst
  have ha := ha.below hst
  have hm := hm.below hst
  have hb := hb.below hst
  have hn := hn.below hst
  have hc := hc.below hst
  clear hst hbl
  clear hB3
  have d0 : x4.cell? ⟨w1.heap.size, 0, none⟩ = some (Value.slice ao0 exG.owner.length cap0) := hB4.cell 0 rfl
  have d1 : x4.cell? ⟨w1.heap.size, 1, none⟩ = some (Value.slice ao1 exG.prio.length cap1) := hB4.cell 1 rfl
  have d2 : x4.cell? ⟨w1.heap.size, 2, none⟩ = some (Value.slice ao2 exG.succ.length cap2) := hB4.cell 2 rfl
  go_wp2_with fail
  refine (hA.out _ _ _ [false, false, true, false] (hB4.bl.trans ((bel_box _).mono hB4.bl.size)) (new_bools x4 [false, false, true, false] (by decide) (by simp))).mono ?_
  rintro e x5 ⟨uhz, uhzz, rfl, hz, hzz, hbl⟩
  clear d0 d1 d2
  have hst := (bel_box (w := x4) (.cells (([false, false, true, false] : List Bool).map Value.bool).toArray 4)).trans (hbl.mono (by simp))
  have hB5 := hB4.step hst
  have ha := ha.below hst
  have hm := hm.below hst
  have hb := hb.below hst
  have hn := hn.below hst
  have hc := hc.below hst
  have hd := hd.below hst
  clear hst hbl
  clear hB4
  rw [ex_1.1] at ha; rw [ex_1.2] at hm; rw [ex_2.1] at hb; rw [ex_2.2] at hn; rw [ex_3.1] at hc; rw [ex_3.2] at hd
  have fa0 : fitsB exG 0 (List.length [false, false, true, false]) = true := ex_a.1
  have fa1 : fitsB exG 1 (List.length [true, false, false, false]) = true := ex_a.2.1
  have fc1 : fitsB exG 1 (List.length [false, true, false, true]) = true := ex_a.2.1
  have fc0 : fitsB exG 0 (List.length [true, true, false, false]) = true := ex_a.1
  have fz : fitsB exG 2 (List.length [false, false, true, false]) = false := ex_a.2.2
  simp only [fa0, fa1, fc1, fc0, fz, if_true, Bool.false_eq_true, if_false] at ha hm hb hn hc hd hz
  clear fa0 fa1 fc1 fc0 fz hzz
  obtain ⟨aoz, capz, hvz⟩ := hz.slice
  subst hvz
  clear hz
  have mk4 : ∀ wx : World, (Instr.makeSlice 26 (.int .i64 4) (.int .i64 4)).run Try.prog wx = .ok (.slice (some ⟨wx.heap.size, 0, none⟩) 4 4) (wx.alloc (.cells #[.bool false, .bool false, .bool false, .bool false] 4)) := fun _ => by kernel_rfl
  go_wp2_with fail
  refine (Bools_c _ _ _ [true, false, true, false] [true, false, true, false] ((ha.below (bel_box _)).is (by decide)) (new_bools x5 [true, false, true, false] (by decide) (by simp))).mono ?_
  rintro e x6 ⟨rfl, nn, hx⟩
  rw [show decide (([true, false, true, false] : List Bool) = [true, false, true, false]) = true from by decide]
  have hst : Below x5.heap.size x5 x6 := by rw [hx]; exact belD (bel_box _) _
  have hB6 := hB5.step hst
  have hm := hm.below hst
  have hb := hb.below hst
  have hn := hn.below hst
  have hc := hc.below hst
  have hd := hd.below hst
  clear hst hx hB5 ha
  go_wp2_with fail
  refine (Ints_c _ _ _ [1, -1, 0, -1] [1, -1, 0, -1] ((hm.below (bel_box _)).is (by decide) (by simp [I64])) (new_ints x6 [1, -1, 0, -1] (by decide) (by simp [I64]) (by simp))).mono ?_
  rintro e x7 ⟨rfl, nn, hx⟩
  rw [show decide (([1, -1, 0, -1] : List Int) = [1, -1, 0, -1]) = true from by decide]
  have hst : Below x6.heap.size x6 x7 := by rw [hx]; exact belD (bel_box _) _
  have hB7 := hB6.step hst
  have hb := hb.below hst
  have hn := hn.below hst
  have hc := hc.below hst
  have hd := hd.below hst
  clear hst hx hB6 hm
  go_wp2_with fail
  refine (Bools_c _ _ _ [true, true, false, false] [true, true, false, false] ((hb.below (bel_box _)).is (by decide)) (new_bools x7 [true, true, false, false] (by decide) (by simp))).mono ?_
  rintro e x8 ⟨rfl, nn, hx⟩
  rw [show decide (([true, true, false, false] : List Bool) = [true, true, false, false]) = true from by decide]
  have hst : Below x7.heap.size x7 x8 := by rw [hx]; exact belD (bel_box _) _
  have hB8 := hB7.step hst
  have hn := hn.below hst
  have hc := hc.below hst
  have hd := hd.below hst
  clear hst hx hB7 hb
  go_wp2_with fail
  refine (Ints_c _ _ _ [0, 1, -1, -1] [0, 1, -1, -1] ((hn.below (bel_box _)).is (by decide) (by simp [I64])) (new_ints x8 [0, 1, -1, -1] (by decide) (by simp [I64]) (by simp))).mono ?_
  rintro e x9 ⟨rfl, nn, hx⟩
  rw [show decide (([0, 1, -1, -1] : List Int) = [0, 1, -1, -1]) = true from by decide]
  have hst : Below x8.heap.size x8 x9 := by rw [hx]; exact belD (bel_box _) _
  have hB9 := hB8.step hst
  have hc := hc.below hst
  have hd := hd.below hst
  clear hst hx hB8 hn
  go_wp2_with fail
  refine (Bools_c _ _ _ [false, true, false, true] [false, true, false, true] ((hc.below (bel_box _)).is (by decide)) (new_bools x9 [false, true, false, true] (by decide) (by simp))).mono ?_
  rintro e x10 ⟨rfl, nn, hx⟩
  rw [show decide (([false, true, false, true] : List Bool) = [false, true, false, true]) = true from by decide]
  have hst : Below x9.heap.size x9 x10 := by rw [hx]; exact belD (bel_box _) _
  have hB10 := hB9.step hst
  have hd := hd.below hst
  clear hst hx hB9 hc
  go_wp2_with fail
  refine (Bools_c _ _ _ [false, false, false, false] [false, false, false, false] ((hd.below (bel_box _)).is (by decide)) (new_bools x10 [false, false, false, false] (by decide) (by simp))).mono ?_
  rintro e x11 ⟨rfl, nn, hx⟩
  rw [show decide (([false, false, false, false] : List Bool) = [false, false, false, false]) = true from by decide]
  have hst : Below x10.heap.size x10 x11 := by rw [hx]; exact belD (bel_box _) _
  have hB11 := hB10.step hst
  clear hst hx hB10 hd
  have d0 : x11.cell? ⟨w1.heap.size, 0, none⟩ = some (Value.slice ao0 exG.owner.length cap0) := hB11.cell 0 rfl
  have d1 : x11.cell? ⟨w1.heap.size, 1, none⟩ = some (Value.slice ao1 exG.prio.length cap1) := hB11.cell 1 rfl
  have d2 : x11.cell? ⟨w1.heap.size, 2, none⟩ = some (Value.slice ao2 exG.succ.length cap2) := hB11.cell 2 rfl
  go_wp2_with fail
  refine (hT.out _ 0 _ [false, false, true, false] (hB11.bl.trans ((bel_box _).mono hB11.bl.size)) (new_bools x11 [false, false, true, false] (by decide) (by simp))).mono ?_
  rintro e x12 ⟨rfl, hbl⟩
  rw [show fitsB exG 0 (List.length [false, false, true, false]) = true from ex_a.1, ex_4.1]
  clear d0 d1 d2
  have hst := (bel_box (w := x11) (.cells (([false, false, true, false] : List Bool).map Value.bool).toArray 4)).trans (hbl.mono (by simp))
  have hB12 := hB11.step hst
  clear hst hbl hB11
  have d0 : x12.cell? ⟨w1.heap.size, 0, none⟩ = some (Value.slice ao0 exG.owner.length cap0) := hB12.cell 0 rfl
  have d1 : x12.cell? ⟨w1.heap.size, 1, none⟩ = some (Value.slice ao1 exG.prio.length cap1) := hB12.cell 1 rfl
  have d2 : x12.cell? ⟨w1.heap.size, 2, none⟩ = some (Value.slice ao2 exG.succ.length cap2) := hB12.cell 2 rfl
  go_wp2_with fail
  refine (hT.out _ 0 _ [true, false, false, false] (hB12.bl.trans ((bel_box _).mono hB12.bl.size)) (new_bools x12 [true, false, false, false] (by decide) (by simp))).mono ?_
  rintro e x13 ⟨rfl, hbl⟩
  rw [show fitsB exG 0 (List.length [true, false, false, false]) = true from ex_a.1, ex_4.2]
  clear d0 d1 d2
  have hst := (bel_box (w := x12) (.cells (([true, false, false, false] : List Bool).map Value.bool).toArray 4)).trans (hbl.mono (by simp))
  have hB13 := hB12.step hst
  clear hst hbl hB12
  have d0 : x13.cell? ⟨w1.heap.size, 0, none⟩ = some (Value.slice ao0 exG.owner.length cap0) := hB13.cell 0 rfl
  have d1 : x13.cell? ⟨w1.heap.size, 1, none⟩ = some (Value.slice ao1 exG.prio.length cap1) := hB13.cell 1 rfl
  have d2 : x13.cell? ⟨w1.heap.size, 2, none⟩ = some (Value.slice ao2 exG.succ.length cap2) := hB13.cell 2 rfl
  go_wp2
  go_ret
  exact ⟨rfl, hw.trans (hB13.bl.mono hw.size)⟩

end Go.Proofs.Ytjppebbeobgmoaa
