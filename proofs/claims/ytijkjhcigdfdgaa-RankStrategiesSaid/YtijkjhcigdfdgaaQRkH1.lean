/- What head computes: true. -/
import Derived.Test.YtijkjhcigdfdgaaQRkL0
import Derived.Test.YtijkjhcigdfdgaaQRkW18
import Derived.Test.YtijkjhcigdfdgaaQRkW14
namespace Go.Proofs.Ytijkjhcigdfdgaa
open Go.RowKit

theorem MeasOut.ex {g : Gm} {p : Int} {w w' : World} {e : Ending} {ll : List (List Int)} {x : Int} (h : MeasOut g p w e w') (hm : measG g p = (ll, x)) :
    ∃ a c, e = .returned (.tuple #[.slice a ll.length c, .int .i64 x]) ∧ IsRows w' (.slice a ll.length c) ll ∧ Below w.heap.size w w' := by
  obtain ⟨v, rfl, hr, hb⟩ := h
  rw [hm] at hr ⊢
  obtain ⟨a, c, b, o, V, rfl, d⟩ := hr.data
  exact ⟨a, c, rfl, hr, hb⟩

theorem NewSet.ex {w w' : World} {e : Ending} {l0 l : List Int} (h : NewSet l0 w e w') (hl : l0 = l) (hn : l.length ≤ 3000) (hI : ∀ x ∈ l, I64 x) :
    ∃ a c, e = .returned (.slice a l.length c) ∧ IsInts w' (.slice a l.length c) l ∧ Below w.heap.size w w' := by
  obtain ⟨v, rfl, hr, hb⟩ := h
  rw [hl] at hr
  obtain ⟨a, c, rfl⟩ := hr.slice
  exact ⟨a, c, rfl, hr.is (by simp only [maxN]; omega) hI, hb⟩

theorem OI_one {w : World} {B g : Nat} {x : Int} (h : w.heap[g]? = some (.cells #[.int .i64 x] 3 (0, 0))) (hb : B ≤ g) : OI w B (.slice (some ⟨g, 0, none⟩) 1 1) [x] := by
  refine ⟨by simp, .inr ⟨g, 1, _, ?_, hb, h, ?_, by simp only [maxLen]; omega, by simp, ?_⟩⟩ <;> simp
theorem many_is {w : World} {B z : Nat} {v0 v1 v2 : Value} {vals : List Value} (h : GB w B z v0 v1 v2 vals (manyK 300) []) : IsGame w (.agg #[v0, v1, v2]) manyG := by
  refine h.is ⟨by simp [manyK, maxN], fun x hx => ?_⟩ ⟨by simp [manyK, maxN], fun x hx => ?_⟩ (by simp [manyK, maxN]) fun j hj => ?_
  · simp [manyK] at hx
    rw [← hx.2]
    simp [I64]
  · simp [manyK] at hx
    obtain ⟨a, ha, rfl⟩ := hx
    simp only [I64]
    omega
  · have hj' : j < 300 := by simpa [manyK] using hj
    have : (manyK 300).succ.getD j [] = [(j : Int)] := by simp [manyK, List.getD, hj']
    rw [this]
    exact ⟨by simp [maxN], fun x hx => by
      obtain rfl : x = (j : Int) := by simpa using hx
      simp only [I64]; omega⟩

set_option maxRecDepth 100000 in
set_option maxHeartbeats 8000000 in
theorem head_c (w : World) : Calls Try.prog 9 #[] w (Calm (.bool true) w) := by
  go_enter Try.func9, Try.ntmps9
  have hB : Below w.heap.size w w := Below.refl _ _
  go_upto_region 2 with (fail)
  have hb : Below w.heap.size w ((((((w.alloc (.cells #[.int .i64 0, .int .i64 1] 3)).alloc (.cells #[.int .i64 1, .int .i64 2] 3)).alloc (.cells #[.int .i64 0, .int .i64 1] 3)).alloc (.cells #[.int .i64 1] 3)).alloc (.cells #[.slice (some ⟨w.heap.size + 1 + 1, 0, none⟩) 2 2, .slice (some ⟨w.heap.size + 1 + 1 + 1, 0, none⟩) 1 1] 22)).alloc (.cells #[.slice (some ⟨w.heap.size, 0, none⟩) 2 2, .slice (some ⟨w.heap.size + 1, 0, none⟩) 2 2, .slice (some ⟨w.heap.size + 1 + 1 + 1 + 1, 0, none⟩) 2 2] 25)) := (by repeat (first | exact Below.refl _ _ | assumption | (refine belA ?_ _) | (refine belD ?_ _)))
  have x0 : ((((((w.alloc (.cells #[.int .i64 0, .int .i64 1] 3)).alloc (.cells #[.int .i64 1, .int .i64 2] 3)).alloc (.cells #[.int .i64 0, .int .i64 1] 3)).alloc (.cells #[.int .i64 1] 3)).alloc (.cells #[.slice (some ⟨w.heap.size + 1 + 1, 0, none⟩) 2 2, .slice (some ⟨w.heap.size + 1 + 1 + 1, 0, none⟩) 1 1] 22)).alloc (.cells #[.slice (some ⟨w.heap.size, 0, none⟩) 2 2, .slice (some ⟨w.heap.size + 1, 0, none⟩) 2 2, .slice (some ⟨w.heap.size + 1 + 1 + 1 + 1, 0, none⟩) 2 2] 25)).heap[w.heap.size]? = some (.cells #[.int .i64 0, .int .i64 1] 3 (0, 0)) := (by (repeat (rw [alloc_get]; first | rw [if_pos (by first | (simp; done) | (simp; omega))] | rw [if_neg (by first | (simp; done) | (simp; omega))])); (try rfl))
  have x1 : ((((((w.alloc (.cells #[.int .i64 0, .int .i64 1] 3)).alloc (.cells #[.int .i64 1, .int .i64 2] 3)).alloc (.cells #[.int .i64 0, .int .i64 1] 3)).alloc (.cells #[.int .i64 1] 3)).alloc (.cells #[.slice (some ⟨w.heap.size + 1 + 1, 0, none⟩) 2 2, .slice (some ⟨w.heap.size + 1 + 1 + 1, 0, none⟩) 1 1] 22)).alloc (.cells #[.slice (some ⟨w.heap.size, 0, none⟩) 2 2, .slice (some ⟨w.heap.size + 1, 0, none⟩) 2 2, .slice (some ⟨w.heap.size + 1 + 1 + 1 + 1, 0, none⟩) 2 2] 25)).heap[w.heap.size + 1]? = some (.cells #[.int .i64 1, .int .i64 2] 3 (0, 0)) := (by (repeat (rw [alloc_get]; first | rw [if_pos (by first | (simp; done) | (simp; omega))] | rw [if_neg (by first | (simp; done) | (simp; omega))])); (try rfl))
  have x2 : ((((((w.alloc (.cells #[.int .i64 0, .int .i64 1] 3)).alloc (.cells #[.int .i64 1, .int .i64 2] 3)).alloc (.cells #[.int .i64 0, .int .i64 1] 3)).alloc (.cells #[.int .i64 1] 3)).alloc (.cells #[.slice (some ⟨w.heap.size + 1 + 1, 0, none⟩) 2 2, .slice (some ⟨w.heap.size + 1 + 1 + 1, 0, none⟩) 1 1] 22)).alloc (.cells #[.slice (some ⟨w.heap.size, 0, none⟩) 2 2, .slice (some ⟨w.heap.size + 1, 0, none⟩) 2 2, .slice (some ⟨w.heap.size + 1 + 1 + 1 + 1, 0, none⟩) 2 2] 25)).heap[w.heap.size + 1 + 1]? = some (.cells #[.int .i64 0, .int .i64 1] 3 (0, 0)) := (by (repeat (rw [alloc_get]; first | rw [if_pos (by first | (simp; done) | (simp; omega))] | rw [if_neg (by first | (simp; done) | (simp; omega))])); (try rfl))
  have x3 : ((((((w.alloc (.cells #[.int .i64 0, .int .i64 1] 3)).alloc (.cells #[.int .i64 1, .int .i64 2] 3)).alloc (.cells #[.int .i64 0, .int .i64 1] 3)).alloc (.cells #[.int .i64 1] 3)).alloc (.cells #[.slice (some ⟨w.heap.size + 1 + 1, 0, none⟩) 2 2, .slice (some ⟨w.heap.size + 1 + 1 + 1, 0, none⟩) 1 1] 22)).alloc (.cells #[.slice (some ⟨w.heap.size, 0, none⟩) 2 2, .slice (some ⟨w.heap.size + 1, 0, none⟩) 2 2, .slice (some ⟨w.heap.size + 1 + 1 + 1 + 1, 0, none⟩) 2 2] 25)).heap[w.heap.size + 1 + 1 + 1]? = some (.cells #[.int .i64 1] 3 (0, 0)) := (by (repeat (rw [alloc_get]; first | rw [if_pos (by first | (simp; done) | (simp; omega))] | rw [if_neg (by first | (simp; done) | (simp; omega))])); (try rfl))
  have x4 : ((((((w.alloc (.cells #[.int .i64 0, .int .i64 1] 3)).alloc (.cells #[.int .i64 1, .int .i64 2] 3)).alloc (.cells #[.int .i64 0, .int .i64 1] 3)).alloc (.cells #[.int .i64 1] 3)).alloc (.cells #[.slice (some ⟨w.heap.size + 1 + 1, 0, none⟩) 2 2, .slice (some ⟨w.heap.size + 1 + 1 + 1, 0, none⟩) 1 1] 22)).alloc (.cells #[.slice (some ⟨w.heap.size, 0, none⟩) 2 2, .slice (some ⟨w.heap.size + 1, 0, none⟩) 2 2, .slice (some ⟨w.heap.size + 1 + 1 + 1 + 1, 0, none⟩) 2 2] 25)).heap[w.heap.size + 1 + 1 + 1 + 1]? = some (.cells #[.slice (some ⟨w.heap.size + 1 + 1, 0, none⟩) 2 2, .slice (some ⟨w.heap.size + 1 + 1 + 1, 0, none⟩) 1 1] 22 (0, 0)) := (by (repeat (rw [alloc_get]; first | rw [if_pos (by first | (simp; done) | (simp; omega))] | rw [if_neg (by first | (simp; done) | (simp; omega))])); (try rfl))
  have x5 : ((((((w.alloc (.cells #[.int .i64 0, .int .i64 1] 3)).alloc (.cells #[.int .i64 1, .int .i64 2] 3)).alloc (.cells #[.int .i64 0, .int .i64 1] 3)).alloc (.cells #[.int .i64 1] 3)).alloc (.cells #[.slice (some ⟨w.heap.size + 1 + 1, 0, none⟩) 2 2, .slice (some ⟨w.heap.size + 1 + 1 + 1, 0, none⟩) 1 1] 22)).alloc (.cells #[.slice (some ⟨w.heap.size, 0, none⟩) 2 2, .slice (some ⟨w.heap.size + 1, 0, none⟩) 2 2, .slice (some ⟨w.heap.size + 1 + 1 + 1 + 1, 0, none⟩) 2 2] 25)).heap[w.heap.size + 1 + 1 + 1 + 1 + 1]? = some (.cells #[.slice (some ⟨w.heap.size, 0, none⟩) 2 2, .slice (some ⟨w.heap.size + 1, 0, none⟩) 2 2, .slice (some ⟨w.heap.size + 1 + 1 + 1 + 1, 0, none⟩) 2 2] 25 (0, 0)) := (by (repeat (rw [alloc_get]; first | rw [if_pos (by first | (simp; done) | (simp; omega))] | rw [if_neg (by first | (simp; done) | (simp; omega))])); (try rfl))
  generalize ((((((w.alloc (.cells #[.int .i64 0, .int .i64 1] 3)).alloc (.cells #[.int .i64 1, .int .i64 2] 3)).alloc (.cells #[.int .i64 0, .int .i64 1] 3)).alloc (.cells #[.int .i64 1] 3)).alloc (.cells #[.slice (some ⟨w.heap.size + 1 + 1, 0, none⟩) 2 2, .slice (some ⟨w.heap.size + 1 + 1 + 1, 0, none⟩) 1 1] 22)).alloc (.cells #[.slice (some ⟨w.heap.size, 0, none⟩) 2 2, .slice (some ⟨w.heap.size + 1, 0, none⟩) 2 2, .slice (some ⟨w.heap.size + 1 + 1 + 1 + 1, 0, none⟩) 2 2] 25)) = w1 at *
  replace hB := hB.trans (hb.mono hB.size)
  have r2 := ints_lit [0, 1] x2 (by decide) (by simp [I64])
  have r3 := ints_lit [1] x3 (by decide) (by simp [I64])
  have hg : IsGame w1 (.agg #[.slice (some ⟨w.heap.size, 0, none⟩) 2 2, .slice (some ⟨w.heap.size + 1, 0, none⟩) 2 2, .slice (some ⟨w.heap.size + 1 + 1 + 1 + 1, 0, none⟩) 2 2]) exG := ⟨_, _, _, rfl, ints_lit [0, 1] x0 (by decide) (by simp [I64]), ints_lit [1, 2] x1 (by decide) (by simp [I64]), rows_lit [[0, 1], [1]] [.slice (some ⟨w.heap.size + 1 + 1, 0, none⟩) 2 2, .slice (some ⟨w.heap.size + 1 + 1 + 1, 0, none⟩) 1 1] x4 rfl (by decide) (fun j hj => by
    match j, hj with
    | 0, _ => exact r2
    | 1, _ => exact r3
    | q + 2, h => exact absurd h (by simp))⟩
  clear x0 x1 x2 x3 x4 r2 r3
  have HLx : Hid (LookH exG) := Lib.hid ex_look
  have k0 := cell_of_row _ _ 0 _ _ _ x5
  have k1 := cell_of_row _ _ 1 _ _ _ x5
  have k2 := cell_of_row _ _ 2 _ _ _ x5
  go_wp2_with fail
  refine ((Measure_c _ _ exG 0 hg ex_look fun h e hw => top_work e hw)).mono ?_
  intro e w2 h
  obtain ⟨a0, c0, rfl, hm0, hb⟩ : ∃ a c, e = .returned (.tuple #[.slice a 2 c, .int .i64 0]) ∧ IsRows w2 (.slice a 2 c) [[1], [0]] ∧ Below w1.heap.size w1 w2 := h.ex ex_meas0
  clear h
  replace x5 := (hb.block _ (Array.getElem?_eq_some_iff.1 x5).1).trans x5
  replace hg := hg.below hb
  replace hB := hB.trans (hb.mono hB.size)
  clear hb
  clear k0 k1 k2
  go_upto_region 3 with (fail)
  have k0 := cell_of_row _ _ 0 _ _ _ x5
  have k1 := cell_of_row _ _ 1 _ _ _ x5
  have k2 := cell_of_row _ _ 2 _ _ _ x5
  go_wp2_with fail
  refine ((Measure_c _ _ exG 1 hg ex_look fun h e hw => top_work e hw)).mono ?_
  intro e w3 h
  obtain ⟨a1, c1, rfl, hm1, hb⟩ : ∃ a c, e = .returned (.tuple #[.slice a 2 c, .int .i64 0]) ∧ IsRows w3 (.slice a 2 c) [[], []] ∧ Below w2.heap.size w2 w3 := h.ex ex_meas1
  clear h
  replace x5 := (hb.block _ (Array.getElem?_eq_some_iff.1 x5).1).trans x5
  replace hg := hg.below hb
  replace hm0 := hm0.below hb
  replace hB := hB.trans (hb.mono hB.size)
  clear hb
  clear k0 k1 k2
  go_upto_region 4 with (fail)
  have k0 := cell_of_row _ _ 0 _ _ _ x5
  have k1 := cell_of_row _ _ 1 _ _ _ x5
  have k2 := cell_of_row _ _ 2 _ _ _ x5
  go_wp2_with fail
  refine ((Measure_c _ _ exG 2 hg ex_look fun h e hw => top_work e hw)).mono ?_
  intro e w4 h
  obtain ⟨a2, c2, rfl, hm2, hb⟩ : ∃ a c, e = .returned (.tuple #[.slice a 0 c, .int .i64 1]) ∧ IsRows w4 (.slice a 0 c) [] ∧ Below w3.heap.size w3 w4 := h.ex ex_meas2
  clear h
  replace x5 := (hb.block _ (Array.getElem?_eq_some_iff.1 x5).1).trans x5
  replace hg := hg.below hb
  replace hm0 := hm0.below hb
  replace hm1 := hm1.below hb
  replace hB := hB.trans (hb.mono hB.size)
  clear hb
  clear k0 k1 k2
  clear hm2
  go_wp2_with fail
  have hb : Below w4.heap.size w4 (((w4.alloc (.cells #[.int .i64 1] 3)).alloc (.cells #[.int .i64 0] 3)).alloc (.cells #[.slice (some ⟨w4.heap.size, 0, none⟩) 1 1, .slice (some ⟨w4.heap.size + 1, 0, none⟩) 1 1] 22)) := (by repeat (first | exact Below.refl _ _ | assumption | (refine belA ?_ _) | (refine belD ?_ _)))
  have y0 : (((w4.alloc (.cells #[.int .i64 1] 3)).alloc (.cells #[.int .i64 0] 3)).alloc (.cells #[.slice (some ⟨w4.heap.size, 0, none⟩) 1 1, .slice (some ⟨w4.heap.size + 1, 0, none⟩) 1 1] 22)).heap[w4.heap.size]? = some (.cells #[.int .i64 1] 3 (0, 0)) := (by (repeat (rw [alloc_get]; first | rw [if_pos (by first | (simp; done) | (simp; omega))] | rw [if_neg (by first | (simp; done) | (simp; omega))])); (try rfl))
  have y1 : (((w4.alloc (.cells #[.int .i64 1] 3)).alloc (.cells #[.int .i64 0] 3)).alloc (.cells #[.slice (some ⟨w4.heap.size, 0, none⟩) 1 1, .slice (some ⟨w4.heap.size + 1, 0, none⟩) 1 1] 22)).heap[w4.heap.size + 1]? = some (.cells #[.int .i64 0] 3 (0, 0)) := (by (repeat (rw [alloc_get]; first | rw [if_pos (by first | (simp; done) | (simp; omega))] | rw [if_neg (by first | (simp; done) | (simp; omega))])); (try rfl))
  have y2 : (((w4.alloc (.cells #[.int .i64 1] 3)).alloc (.cells #[.int .i64 0] 3)).alloc (.cells #[.slice (some ⟨w4.heap.size, 0, none⟩) 1 1, .slice (some ⟨w4.heap.size + 1, 0, none⟩) 1 1] 22)).heap[w4.heap.size + 1 + 1]? = some (.cells #[.slice (some ⟨w4.heap.size, 0, none⟩) 1 1, .slice (some ⟨w4.heap.size + 1, 0, none⟩) 1 1] 22 (0, 0)) := (by (repeat (rw [alloc_get]; first | rw [if_pos (by first | (simp; done) | (simp; omega))] | rw [if_neg (by first | (simp; done) | (simp; omega))])); (try rfl))
  generalize (((w4.alloc (.cells #[.int .i64 1] 3)).alloc (.cells #[.int .i64 0] 3)).alloc (.cells #[.slice (some ⟨w4.heap.size, 0, none⟩) 1 1, .slice (some ⟨w4.heap.size + 1, 0, none⟩) 1 1] 22)) = w5 at *
  replace x5 := (hb.block _ (Array.getElem?_eq_some_iff.1 x5).1).trans x5
  replace hg := hg.below hb
  replace hm0 := hm0.below hb
  replace hm1 := hm1.below hb
  replace hB := hB.trans (hb.mono hB.size)
  have ym : IsRows w5 (.slice (some ⟨w4.heap.size + 1 + 1, 0, none⟩) 2 2) [[1], [0]] := rows_lit [[1], [0]] [.slice (some ⟨w4.heap.size, 0, none⟩) 1 1, .slice (some ⟨w4.heap.size + 1, 0, none⟩) 1 1] y2 rfl (by decide) (fun j hj => by
    match j, hj with
    | 0, _ => exact ints_lit [1] y0 (by decide) (by simp [I64])
    | 1, _ => exact ints_lit [0] y1 (by decide) (by simp [I64])
    | q + 2, h => exact absurd h (by simp))
  clear y0 y1 y2 hb
  generalize w4.heap.size + 1 + 1 = pw52 at *
  generalize w4.heap.size + 1 = pw51 at *
  generalize w4.heap.size = pw50 at *
  refine ((Same_c _ _ _ _ _ hm0 ym).mono fun e w' h => h.calm).mono ?_
  rw [decide_eq_true (rfl : ([[1], [0]] : List (List Int)) = [[1], [0]])]
  rintro e w6 ⟨rfl, hb⟩
  replace x5 := (hb.block _ (Array.getElem?_eq_some_iff.1 x5).1).trans x5
  replace hg := hg.below hb
  replace hm0 := hm0.below hb
  replace hm1 := hm1.below hb
  replace hB := hB.trans (hb.mono hB.size)
  clear hb
  clear ym
  go_wp2_with fail
  have hb : Below w6.heap.size w6 (((w6.alloc (.cells #[] 3)).alloc (.cells #[] 3)).alloc (.cells #[.slice (some ⟨w6.heap.size, 0, none⟩) 0 0, .slice (some ⟨w6.heap.size + 1, 0, none⟩) 0 0] 22)) := (by repeat (first | exact Below.refl _ _ | assumption | (refine belA ?_ _) | (refine belD ?_ _)))
  have y0 : (((w6.alloc (.cells #[] 3)).alloc (.cells #[] 3)).alloc (.cells #[.slice (some ⟨w6.heap.size, 0, none⟩) 0 0, .slice (some ⟨w6.heap.size + 1, 0, none⟩) 0 0] 22)).heap[w6.heap.size]? = some (.cells #[] 3 (0, 0)) := (by (repeat (rw [alloc_get]; first | rw [if_pos (by first | (simp; done) | (simp; omega))] | rw [if_neg (by first | (simp; done) | (simp; omega))])); (try rfl))
  have y1 : (((w6.alloc (.cells #[] 3)).alloc (.cells #[] 3)).alloc (.cells #[.slice (some ⟨w6.heap.size, 0, none⟩) 0 0, .slice (some ⟨w6.heap.size + 1, 0, none⟩) 0 0] 22)).heap[w6.heap.size + 1]? = some (.cells #[] 3 (0, 0)) := (by (repeat (rw [alloc_get]; first | rw [if_pos (by first | (simp; done) | (simp; omega))] | rw [if_neg (by first | (simp; done) | (simp; omega))])); (try rfl))
  have y2 : (((w6.alloc (.cells #[] 3)).alloc (.cells #[] 3)).alloc (.cells #[.slice (some ⟨w6.heap.size, 0, none⟩) 0 0, .slice (some ⟨w6.heap.size + 1, 0, none⟩) 0 0] 22)).heap[w6.heap.size + 1 + 1]? = some (.cells #[.slice (some ⟨w6.heap.size, 0, none⟩) 0 0, .slice (some ⟨w6.heap.size + 1, 0, none⟩) 0 0] 22 (0, 0)) := (by (repeat (rw [alloc_get]; first | rw [if_pos (by first | (simp; done) | (simp; omega))] | rw [if_neg (by first | (simp; done) | (simp; omega))])); (try rfl))
  generalize (((w6.alloc (.cells #[] 3)).alloc (.cells #[] 3)).alloc (.cells #[.slice (some ⟨w6.heap.size, 0, none⟩) 0 0, .slice (some ⟨w6.heap.size + 1, 0, none⟩) 0 0] 22)) = w7 at *
  replace x5 := (hb.block _ (Array.getElem?_eq_some_iff.1 x5).1).trans x5
  replace hg := hg.below hb
  replace hm0 := hm0.below hb
  replace hm1 := hm1.below hb
  replace hB := hB.trans (hb.mono hB.size)
  have ym : IsRows w7 (.slice (some ⟨w6.heap.size + 1 + 1, 0, none⟩) 2 2) [[], []] := rows_lit [[], []] [.slice (some ⟨w6.heap.size, 0, none⟩) 0 0, .slice (some ⟨w6.heap.size + 1, 0, none⟩) 0 0] y2 rfl (by decide) (fun j hj => by
    match j, hj with
    | 0, _ => exact ints_lit [] y0 (by decide) (by simp [I64])
    | 1, _ => exact ints_lit [] y1 (by decide) (by simp [I64])
    | q + 2, h => exact absurd h (by simp))
  clear y0 y1 y2 hb
  generalize w6.heap.size + 1 + 1 = pw72 at *
  generalize w6.heap.size + 1 = pw71 at *
  generalize w6.heap.size = pw70 at *
  refine ((Same_c _ _ _ _ _ hm1 ym).mono fun e w' h => h.calm).mono ?_
  rw [decide_eq_true (rfl : ([[], []] : List (List Int)) = [[], []])]
  rintro e w8 ⟨rfl, hb⟩
  replace x5 := (hb.block _ (Array.getElem?_eq_some_iff.1 x5).1).trans x5
  replace hg := hg.below hb
  replace hm0 := hm0.below hb
  replace hm1 := hm1.below hb
  replace hB := hB.trans (hb.mono hB.size)
  clear hb
  clear ym
  go_upto_region 6 with (fail)
  have k0 := cell_of_row _ _ 0 _ _ _ x5
  have k1 := cell_of_row _ _ 1 _ _ _ x5
  have k2 := cell_of_row _ _ 2 _ _ _ x5
  go_wp2_with fail
  refine (Choose_c _ _ _ exG 0 [[1], [0]] hg hm0 ex_look).mono ?_
  intro e w9 h
  obtain ⟨ahc0, chc0, rfl, hc0, hb⟩ : ∃ a c, e = .returned (.slice a 2 c) ∧ IsInts w9 (.slice a 2 c) [1, -1] ∧ Below w8.heap.size w8 w9 := h.ex ex_cho0 (by decide) (by simp [I64])
  clear h
  replace x5 := (hb.block _ (Array.getElem?_eq_some_iff.1 x5).1).trans x5
  replace hg := hg.below hb
  replace hm0 := hm0.below hb
  replace hm1 := hm1.below hb
  replace hB := hB.trans (hb.mono hB.size)
  clear hb k0 k1 k2
  go_wp2_with fail
  have hb : Below w9.heap.size w9 (w9.alloc (.cells #[.int .i64 1, .int .i64 (-1)] 3)) := (by repeat (first | exact Below.refl _ _ | assumption | (refine belA ?_ _) | (refine belD ?_ _)))
  have z0 : (w9.alloc (.cells #[.int .i64 1, .int .i64 (-1)] 3)).heap[w9.heap.size]? = some (.cells #[.int .i64 1, .int .i64 (-1)] 3 (0, 0)) := (by (repeat (rw [alloc_get]; first | rw [if_pos (by first | (simp; done) | (simp; omega))] | rw [if_neg (by first | (simp; done) | (simp; omega))])); (try rfl))
  generalize (w9.alloc (.cells #[.int .i64 1, .int .i64 (-1)] 3)) = w10 at *
  replace x5 := (hb.block _ (Array.getElem?_eq_some_iff.1 x5).1).trans x5
  replace hg := hg.below hb
  replace hm0 := hm0.below hb
  replace hm1 := hm1.below hb
  replace hc0 := hc0.below hb
  replace hB := hB.trans (hb.mono hB.size)
  replace z0 : IsInts w10 (.slice (some ⟨w9.heap.size, 0, none⟩) 2 2) [1, -1] := ints_lit [1, -1] z0 (by decide) (by simp [I64])
  clear hb
  generalize w9.heap.size = pw100 at *
  refine ((Ints_c _ _ _ [1, -1] [1, -1] hc0 z0).mono fun e w' h => h.calm).mono ?_
  rw [decide_eq_true (rfl : ([1, -1] : List Int) = [1, -1])]
  rintro e w11 ⟨rfl, hb⟩
  replace x5 := (hb.block _ (Array.getElem?_eq_some_iff.1 x5).1).trans x5
  replace hg := hg.below hb
  replace hm0 := hm0.below hb
  replace hm1 := hm1.below hb
  replace hc0 := hc0.below hb
  replace hB := hB.trans (hb.mono hB.size)
  clear hb
  clear z0 hc0
  have k0 := cell_of_row _ _ 0 _ _ _ x5
  have k1 := cell_of_row _ _ 1 _ _ _ x5
  have k2 := cell_of_row _ _ 2 _ _ _ x5
  go_wp2_with fail
  refine (Choose_c _ _ _ exG 1 [[], []] hg hm1 ex_look).mono ?_
  intro e w12 h
  obtain ⟨ahc1, chc1, rfl, hc1, hb⟩ : ∃ a c, e = .returned (.slice a 2 c) ∧ IsInts w12 (.slice a 2 c) [-1, -1] ∧ Below w11.heap.size w11 w12 := h.ex ex_cho1 (by decide) (by simp [I64])
  clear h
  replace x5 := (hb.block _ (Array.getElem?_eq_some_iff.1 x5).1).trans x5
  replace hg := hg.below hb
  replace hm0 := hm0.below hb
  replace hm1 := hm1.below hb
  replace hB := hB.trans (hb.mono hB.size)
  clear hb k0 k1 k2
  go_wp2_with fail
  have hb : Below w12.heap.size w12 (w12.alloc (.cells #[.int .i64 (-1), .int .i64 (-1)] 3)) := (by repeat (first | exact Below.refl _ _ | assumption | (refine belA ?_ _) | (refine belD ?_ _)))
  have z0 : (w12.alloc (.cells #[.int .i64 (-1), .int .i64 (-1)] 3)).heap[w12.heap.size]? = some (.cells #[.int .i64 (-1), .int .i64 (-1)] 3 (0, 0)) := (by (repeat (rw [alloc_get]; first | rw [if_pos (by first | (simp; done) | (simp; omega))] | rw [if_neg (by first | (simp; done) | (simp; omega))])); (try rfl))
  generalize (w12.alloc (.cells #[.int .i64 (-1), .int .i64 (-1)] 3)) = w13 at *
  replace x5 := (hb.block _ (Array.getElem?_eq_some_iff.1 x5).1).trans x5
  replace hg := hg.below hb
  replace hm0 := hm0.below hb
  replace hm1 := hm1.below hb
  replace hc1 := hc1.below hb
  replace hB := hB.trans (hb.mono hB.size)
  replace z0 : IsInts w13 (.slice (some ⟨w12.heap.size, 0, none⟩) 2 2) [-1, -1] := ints_lit [-1, -1] z0 (by decide) (by simp [I64])
  clear hb
  generalize w12.heap.size = pw130 at *
  refine ((Ints_c _ _ _ [-1, -1] [-1, -1] hc1 z0).mono fun e w' h => h.calm).mono ?_
  rw [decide_eq_true (rfl : ([-1, -1] : List Int) = [-1, -1])]
  rintro e w14 ⟨rfl, hb⟩
  replace x5 := (hb.block _ (Array.getElem?_eq_some_iff.1 x5).1).trans x5
  replace hg := hg.below hb
  replace hm0 := hm0.below hb
  replace hm1 := hm1.below hb
  replace hc1 := hc1.below hb
  replace hB := hB.trans (hb.mono hB.size)
  clear hb
  clear z0 hc1
  have k0 := cell_of_row _ _ 0 _ _ _ x5
  have k1 := cell_of_row _ _ 1 _ _ _ x5
  have k2 := cell_of_row _ _ 2 _ _ _ x5
  go_wp2_with fail
  refine (Valid_c _ _ _ exG 0 [[1], [0]] hg hm0 ex_look).mono ?_
  rw [ex_val0]
  rintro e w15 ⟨rfl, hb⟩
  replace x5 := (hb.block _ (Array.getElem?_eq_some_iff.1 x5).1).trans x5
  replace hg := hg.below hb
  replace hm0 := hm0.below hb
  replace hm1 := hm1.below hb
  replace hB := hB.trans (hb.mono hB.size)
  clear hb
  clear k0 k1 k2
  clear hm0 hm1
  have k0 := cell_of_row _ _ 0 _ _ _ x5
  have k1 := cell_of_row _ _ 1 _ _ _ x5
  have k2 := cell_of_row _ _ 2 _ _ _ x5
  go_wp2_with fail
  have hb : Below w15.heap.size w15 (((w15.alloc (.cells #[.int .i64 0] 3)).alloc (.cells #[.int .i64 0] 3)).alloc (.cells #[.slice (some ⟨w15.heap.size, 0, none⟩) 1 1, .slice (some ⟨w15.heap.size + 1, 0, none⟩) 1 1] 22)) := (by repeat (first | exact Below.refl _ _ | assumption | (refine belA ?_ _) | (refine belD ?_ _)))
  have y0 : (((w15.alloc (.cells #[.int .i64 0] 3)).alloc (.cells #[.int .i64 0] 3)).alloc (.cells #[.slice (some ⟨w15.heap.size, 0, none⟩) 1 1, .slice (some ⟨w15.heap.size + 1, 0, none⟩) 1 1] 22)).heap[w15.heap.size]? = some (.cells #[.int .i64 0] 3 (0, 0)) := (by (repeat (rw [alloc_get]; first | rw [if_pos (by first | (simp; done) | (simp; omega))] | rw [if_neg (by first | (simp; done) | (simp; omega))])); (try rfl))
  have y1 : (((w15.alloc (.cells #[.int .i64 0] 3)).alloc (.cells #[.int .i64 0] 3)).alloc (.cells #[.slice (some ⟨w15.heap.size, 0, none⟩) 1 1, .slice (some ⟨w15.heap.size + 1, 0, none⟩) 1 1] 22)).heap[w15.heap.size + 1]? = some (.cells #[.int .i64 0] 3 (0, 0)) := (by (repeat (rw [alloc_get]; first | rw [if_pos (by first | (simp; done) | (simp; omega))] | rw [if_neg (by first | (simp; done) | (simp; omega))])); (try rfl))
  have y2 : (((w15.alloc (.cells #[.int .i64 0] 3)).alloc (.cells #[.int .i64 0] 3)).alloc (.cells #[.slice (some ⟨w15.heap.size, 0, none⟩) 1 1, .slice (some ⟨w15.heap.size + 1, 0, none⟩) 1 1] 22)).heap[w15.heap.size + 1 + 1]? = some (.cells #[.slice (some ⟨w15.heap.size, 0, none⟩) 1 1, .slice (some ⟨w15.heap.size + 1, 0, none⟩) 1 1] 22 (0, 0)) := (by (repeat (rw [alloc_get]; first | rw [if_pos (by first | (simp; done) | (simp; omega))] | rw [if_neg (by first | (simp; done) | (simp; omega))])); (try rfl))
  generalize (((w15.alloc (.cells #[.int .i64 0] 3)).alloc (.cells #[.int .i64 0] 3)).alloc (.cells #[.slice (some ⟨w15.heap.size, 0, none⟩) 1 1, .slice (some ⟨w15.heap.size + 1, 0, none⟩) 1 1] 22)) = w16 at *
  replace x5 := (hb.block _ (Array.getElem?_eq_some_iff.1 x5).1).trans x5
  replace hg := hg.below hb
  replace hB := hB.trans (hb.mono hB.size)
  have ym : IsRows w16 (.slice (some ⟨w15.heap.size + 1 + 1, 0, none⟩) 2 2) [[0], [0]] := rows_lit [[0], [0]] [.slice (some ⟨w15.heap.size, 0, none⟩) 1 1, .slice (some ⟨w15.heap.size + 1, 0, none⟩) 1 1] y2 rfl (by decide) (fun j hj => by
    match j, hj with
    | 0, _ => exact ints_lit [0] y0 (by decide) (by simp [I64])
    | 1, _ => exact ints_lit [0] y1 (by decide) (by simp [I64])
    | q + 2, h => exact absurd h (by simp))
  clear y0 y1 y2 hb
  generalize w15.heap.size + 1 + 1 = pw162 at *
  generalize w15.heap.size + 1 = pw161 at *
  generalize w15.heap.size = pw160 at *
  refine (Valid_c _ _ _ exG 0 [[0], [0]] hg ym ex_look).mono ?_
  rw [ex_val1]
  rintro e w17 ⟨rfl, hb⟩
  replace x5 := (hb.block _ (Array.getElem?_eq_some_iff.1 x5).1).trans x5
  replace hg := hg.below hb
  replace hB := hB.trans (hb.mono hB.size)
  clear hb
  clear k0 k1 k2
  clear ym
  have k0 := cell_of_row _ _ 0 _ _ _ x5
  have k1 := cell_of_row _ _ 1 _ _ _ x5
  have k2 := cell_of_row _ _ 2 _ _ _ x5
  go_wp2_with fail
  have hb : Below w17.heap.size w17 (((w17.alloc (.cells #[] 3)).alloc (.cells #[.int .i64 0] 3)).alloc (.cells #[.slice (some ⟨w17.heap.size, 0, none⟩) 0 0, .slice (some ⟨w17.heap.size + 1, 0, none⟩) 1 1] 22)) := (by repeat (first | exact Below.refl _ _ | assumption | (refine belA ?_ _) | (refine belD ?_ _)))
  have y0 : (((w17.alloc (.cells #[] 3)).alloc (.cells #[.int .i64 0] 3)).alloc (.cells #[.slice (some ⟨w17.heap.size, 0, none⟩) 0 0, .slice (some ⟨w17.heap.size + 1, 0, none⟩) 1 1] 22)).heap[w17.heap.size]? = some (.cells #[] 3 (0, 0)) := (by (repeat (rw [alloc_get]; first | rw [if_pos (by first | (simp; done) | (simp; omega))] | rw [if_neg (by first | (simp; done) | (simp; omega))])); (try rfl))
  have y1 : (((w17.alloc (.cells #[] 3)).alloc (.cells #[.int .i64 0] 3)).alloc (.cells #[.slice (some ⟨w17.heap.size, 0, none⟩) 0 0, .slice (some ⟨w17.heap.size + 1, 0, none⟩) 1 1] 22)).heap[w17.heap.size + 1]? = some (.cells #[.int .i64 0] 3 (0, 0)) := (by (repeat (rw [alloc_get]; first | rw [if_pos (by first | (simp; done) | (simp; omega))] | rw [if_neg (by first | (simp; done) | (simp; omega))])); (try rfl))
  have y2 : (((w17.alloc (.cells #[] 3)).alloc (.cells #[.int .i64 0] 3)).alloc (.cells #[.slice (some ⟨w17.heap.size, 0, none⟩) 0 0, .slice (some ⟨w17.heap.size + 1, 0, none⟩) 1 1] 22)).heap[w17.heap.size + 1 + 1]? = some (.cells #[.slice (some ⟨w17.heap.size, 0, none⟩) 0 0, .slice (some ⟨w17.heap.size + 1, 0, none⟩) 1 1] 22 (0, 0)) := (by (repeat (rw [alloc_get]; first | rw [if_pos (by first | (simp; done) | (simp; omega))] | rw [if_neg (by first | (simp; done) | (simp; omega))])); (try rfl))
  generalize (((w17.alloc (.cells #[] 3)).alloc (.cells #[.int .i64 0] 3)).alloc (.cells #[.slice (some ⟨w17.heap.size, 0, none⟩) 0 0, .slice (some ⟨w17.heap.size + 1, 0, none⟩) 1 1] 22)) = w18 at *
  replace x5 := (hb.block _ (Array.getElem?_eq_some_iff.1 x5).1).trans x5
  replace hg := hg.below hb
  replace hB := hB.trans (hb.mono hB.size)
  have ym : IsRows w18 (.slice (some ⟨w17.heap.size + 1 + 1, 0, none⟩) 2 2) [[], [0]] := rows_lit [[], [0]] [.slice (some ⟨w17.heap.size, 0, none⟩) 0 0, .slice (some ⟨w17.heap.size + 1, 0, none⟩) 1 1] y2 rfl (by decide) (fun j hj => by
    match j, hj with
    | 0, _ => exact ints_lit [] y0 (by decide) (by simp [I64])
    | 1, _ => exact ints_lit [0] y1 (by decide) (by simp [I64])
    | q + 2, h => exact absurd h (by simp))
  clear y0 y1 y2 hb
  generalize w17.heap.size + 1 + 1 = pw182 at *
  generalize w17.heap.size + 1 = pw181 at *
  generalize w17.heap.size = pw180 at *
  refine (Valid_c _ _ _ exG 0 [[], [0]] hg ym ex_look).mono ?_
  rw [ex_val2]
  rintro e w19 ⟨rfl, hb⟩
  replace x5 := (hb.block _ (Array.getElem?_eq_some_iff.1 x5).1).trans x5
  replace hg := hg.below hb
  replace hB := hB.trans (hb.mono hB.size)
  clear hb
  clear k0 k1 k2
  clear ym
  have k0 := cell_of_row _ _ 0 _ _ _ x5
  have k1 := cell_of_row _ _ 1 _ _ _ x5
  have k2 := cell_of_row _ _ 2 _ _ _ x5
  go_wp2_with fail
  have hb : Below w19.heap.size w19 (((w19.alloc (.cells #[.int .i64 0] 3)).alloc (.cells #[.int .i64 0] 3)).alloc (.cells #[.slice (some ⟨w19.heap.size, 0, none⟩) 1 1, .slice (some ⟨w19.heap.size + 1, 0, none⟩) 1 1] 22)) := (by repeat (first | exact Below.refl _ _ | assumption | (refine belA ?_ _) | (refine belD ?_ _)))
  have y0 : (((w19.alloc (.cells #[.int .i64 0] 3)).alloc (.cells #[.int .i64 0] 3)).alloc (.cells #[.slice (some ⟨w19.heap.size, 0, none⟩) 1 1, .slice (some ⟨w19.heap.size + 1, 0, none⟩) 1 1] 22)).heap[w19.heap.size]? = some (.cells #[.int .i64 0] 3 (0, 0)) := (by (repeat (rw [alloc_get]; first | rw [if_pos (by first | (simp; done) | (simp; omega))] | rw [if_neg (by first | (simp; done) | (simp; omega))])); (try rfl))
  have y1 : (((w19.alloc (.cells #[.int .i64 0] 3)).alloc (.cells #[.int .i64 0] 3)).alloc (.cells #[.slice (some ⟨w19.heap.size, 0, none⟩) 1 1, .slice (some ⟨w19.heap.size + 1, 0, none⟩) 1 1] 22)).heap[w19.heap.size + 1]? = some (.cells #[.int .i64 0] 3 (0, 0)) := (by (repeat (rw [alloc_get]; first | rw [if_pos (by first | (simp; done) | (simp; omega))] | rw [if_neg (by first | (simp; done) | (simp; omega))])); (try rfl))
  have y2 : (((w19.alloc (.cells #[.int .i64 0] 3)).alloc (.cells #[.int .i64 0] 3)).alloc (.cells #[.slice (some ⟨w19.heap.size, 0, none⟩) 1 1, .slice (some ⟨w19.heap.size + 1, 0, none⟩) 1 1] 22)).heap[w19.heap.size + 1 + 1]? = some (.cells #[.slice (some ⟨w19.heap.size, 0, none⟩) 1 1, .slice (some ⟨w19.heap.size + 1, 0, none⟩) 1 1] 22 (0, 0)) := (by (repeat (rw [alloc_get]; first | rw [if_pos (by first | (simp; done) | (simp; omega))] | rw [if_neg (by first | (simp; done) | (simp; omega))])); (try rfl))
  generalize (((w19.alloc (.cells #[.int .i64 0] 3)).alloc (.cells #[.int .i64 0] 3)).alloc (.cells #[.slice (some ⟨w19.heap.size, 0, none⟩) 1 1, .slice (some ⟨w19.heap.size + 1, 0, none⟩) 1 1] 22)) = w20 at *
  replace x5 := (hb.block _ (Array.getElem?_eq_some_iff.1 x5).1).trans x5
  replace hg := hg.below hb
  replace hB := hB.trans (hb.mono hB.size)
  have ym : IsRows w20 (.slice (some ⟨w19.heap.size + 1 + 1, 0, none⟩) 2 2) [[0], [0]] := rows_lit [[0], [0]] [.slice (some ⟨w19.heap.size, 0, none⟩) 1 1, .slice (some ⟨w19.heap.size + 1, 0, none⟩) 1 1] y2 rfl (by decide) (fun j hj => by
    match j, hj with
    | 0, _ => exact ints_lit [0] y0 (by decide) (by simp [I64])
    | 1, _ => exact ints_lit [0] y1 (by decide) (by simp [I64])
    | q + 2, h => exact absurd h (by simp))
  clear y0 y1 y2 hb
  generalize w19.heap.size + 1 + 1 = pw202 at *
  generalize w19.heap.size + 1 = pw201 at *
  generalize w19.heap.size = pw200 at *
  refine (Choose_c _ _ _ exG 0 [[0], [0]] hg ym ex_look).mono ?_
  intro e w21 h
  obtain ⟨ahc2, chc2, rfl, hc2, hb⟩ : ∃ a c, e = .returned (.slice a 0 c) ∧ IsInts w21 (.slice a 0 c) [] ∧ Below w20.heap.size w20 w21 := h.ex ex_cho2 (by decide) (by simp [I64])
  clear h
  replace x5 := (hb.block _ (Array.getElem?_eq_some_iff.1 x5).1).trans x5
  replace hg := hg.below hb
  replace ym := ym.below hb
  replace hB := hB.trans (hb.mono hB.size)
  clear hb k0 k1 k2
  clear ym hc2
  go_upto_region 7 with (fail)
  go_upto_region 8 with (fail)
  obtain ⟨B, hBe⟩ : ∃ B, B = w21.heap.size := ⟨_, rfl⟩
  have hB3 : B ≤ w21.heap.size := by omega
  have hGB := GB.start (B := B) (others := []) (w := w21) hB3 List.Pairwise.nil (fun u hu => absurd hu (by simp))
  have hb : Below w21.heap.size w21 (w21.alloc (.cells #[.slice none 0 0, .slice none 0 0, .slice none 0 0] 25)) := bel_box _
  have hWB : w.heap.size ≤ B := by have := hB.size; omega
  rw [← hBe] at hb
  rw [← hBe] at hGB ⊢
  generalize w21.alloc (.cells #[.slice none 0 0, .slice none 0 0, .slice none 0 0] 25) = w22 at *
  have HBe := Lib.hid hBe
  clear hBe
  go_wp2_with fail
  go_loopg [11] 300 (fun gh i wr => ∃ (k : Nat) (y0 y1 y2 : Value) (vals : List Value), gh = 300 - k ∧ i = .int .i64 k ∧ k ≤ 300 ∧ Below B w22 wr ∧ GB wr B B y0 y1 y2 vals (manyK k) [])
  case atStart => exact ⟨0, _, _, _, _, by omega, rfl, by omega, Below.refl _ _, hGB⟩
  case round =>
    obtain ⟨k, y0, y1, y2, vals, rfl, rfl, hk, hbl, hG⟩ := hrel
    clear hGB
    by_cases hlt : k < 300
    · have hkI : (k : Int) < 300 := by omega
      obtain ⟨a0, s0, rfl⟩ := hG.o.slice
      obtain ⟨a1, s1, rfl⟩ := hG.p.slice
      obtain ⟨a2, s2, rfl⟩ := ownsRow_slice hG.r
      have hn0 : (manyK k).owner.length ≤ 3000 := by simp [manyK]; omega
      have hn1 : (manyK k).prio.length ≤ 3000 := by simp [manyK]; omega
      have hn2 : (manyK k).succ.length ≤ 3000 := by simp [manyK]; omega
      have HMK : Hid (manyK (k + 1) = ⟨(manyK k).owner ++ [0], (manyK k).prio ++ [1 + 2 * ((k : Int) % 3)], (manyK k).succ ++ [[(k : Int)]]⟩) := by
        show _ = _
        simp [manyK, List.range_succ]
      generalize manyK k = gm at *
      have hBr : B ≤ wr.heap.size := Nat.le_of_lt hG.zlt
      have g0 := cell_of_row _ _ 0 _ _ _ hG.box
      have hoO := hG.o
      go_upto_region 12 with (at_builtin; refine app_int rfl _ _ (0) rfl B _ _ hoO rfl _ (by simp) rfl (by omega) hBr ?_; intro v' w' hown' hg hmv; obtain ⟨ao', cap', hv'⟩ := hown'.slice; rw [List.length_append, List.length_singleton] at hv'; subst hv'; have HST := Lib.hid (hG.stepO hown' hg hmv hBr); have k2 := cell_of_row _ _ 0 _ _ _ HST.out.1; have f2 := frozen_of_row _ _ 0 _ _ HST.out.1; clear hown' hg hmv)
      obtain ⟨-, hG2, hK2⟩ := HST.out
      clear HST k2 f2 g0 hoO hG
      generalize w'.setCell ⟨B, 0, none⟩ (.slice ao' (gm.owner.length + 1) cap') = w2 at *
      have hbl2 := hbl.trans hK2.bl
      have hB2 : B ≤ w2.heap.size := Nat.le_of_lt hG2.zlt
      have g0 := cell_of_row _ _ 1 _ _ _ hG2.box
      have hoO : OI w2 B (.slice a1 gm.prio.length s1) gm.prio := hG2.p
      clear hbl hBr
      go_upto_region 13 with (at_builtin; refine app_int rfl _ _ _ rfl B _ _ hoO rfl _ (by simp) rfl (by omega) hB2 ?_; intro v' w' hown' hg hmv; obtain ⟨ao', cap', hv'⟩ := hown'.slice; rw [List.length_append, List.length_singleton] at hv'; subst hv'; have HST := Lib.hid (hG2.stepP hown' hg hmv hB2); have k2 := cell_of_row _ _ 1 _ _ _ HST.out.1; have f2 := frozen_of_row _ _ 1 _ _ HST.out.1; clear hown' hg hmv)
      obtain ⟨-, hG3, hK3⟩ := HST.out
      have hbl3 := hbl2.trans hK3.bl
      clear HST k2 f2 g0 hoO hG2
      generalize w'.setCell ⟨B, 1, none⟩ (.slice ao' (gm.prio.length + 1) cap') = w3 at *
      have hB4 : B ≤ w3.heap.size := Nat.le_of_lt hG3.zlt
      have hb4 : Below w3.heap.size w3 (w3.alloc (.cells #[.int .i64 (k : Int)] 3)) := bel_box _
      have hrow : OI (w3.alloc (.cells #[.int .i64 (k : Int)] 3)) B (.slice (some ⟨w3.heap.size, 0, none⟩) 1 1) [(k : Int)] := OI_one (heap_alloc_new _ _) hB4
      have hG4 := hG3.addNew (u := .slice (some ⟨w3.heap.size, 0, none⟩) 1 1) hb4 (fun g hg => by
        obtain rfl : w3.heap.size = g := by simpa [Value.ownBlock] using hg
        omega) (fun g hg => by
        obtain rfl : w3.heap.size = g := by simpa [Value.ownBlock] using hg
        simp)
      have hbl4 := hbl3.trans (hb4.mono hB4)
      have hB5 : B ≤ (w3.alloc (.cells #[.int .i64 (k : Int)] 3)).heap.size := by simp; omega
      have g0 := cell_of_row _ _ 2 _ _ _ hG3.box
      have hoR : (w3.alloc (.cells #[.int .i64 (k : Int)] 3)).ownsRow B 22 1 (.slice a2 gm.succ.length s2) gm.succ.length vals := hG4.r
      clear hbl3 hbl2 hK3 hB2 hb4
      go_wp2_with (at_builtin; refine app_row rfl _ _ (.slice (some ⟨w3.heap.size, 0, none⟩) 1 1) rfl B _ _ _ hoR rfl _ (by simp) rfl rfl (by omega) hB5 ?_; intro v' w' hown' hg hmv; obtain ⟨ao'', cap'', hv'⟩ := ownsRow_slice hown'; subst hv'; have HST := Lib.hid (hG4.stepR hrow hown' hg hmv hB5); have k2 := cell_of_row _ _ 2 _ _ _ HST.out.1; have f2 := frozen_of_row _ _ 2 _ _ HST.out.1; clear hown' hg hmv)
      obtain ⟨-, hG5, hK5⟩ := HST.out
      go_roundg (300 - (k + 1))
      case rel => exact ⟨k + 1, _, _, _, _, rfl, by go_num, by omega, hbl4.trans hK5.bl, by rw [HMK.out]; exact hG5⟩
      case measure => omega
    · obtain rfl : k = 300 := by omega
      have hgm := many_is hG
      obtain ⟨b0, e0, rfl⟩ : ∃ a c, y0 = .slice a 300 c := by have := hG.o.slice; simpa [manyK] using this
      obtain ⟨b1, e1, rfl⟩ : ∃ a c, y1 = .slice a 300 c := by have := hG.p.slice; simpa [manyK] using this
      obtain ⟨b2, e2, rfl⟩ : ∃ a c, y2 = .slice a 300 c := by have := ownsRow_slice hG.r; simpa [manyK] using this
      have xm := hG.box
      replace hb := hb.trans hbl
      rw [HBe.out] at hb
      clear hG hbl HBe
      replace x5 := (hb.block _ (Array.getElem?_eq_some_iff.1 x5).1).trans x5
      replace hg := hg.below hb
      replace hB := hB.trans (hb.mono hB.size)
      clear hb
      have k0 := cell_of_row _ _ 0 _ _ _ xm
      have k1 := cell_of_row _ _ 1 _ _ _ xm
      have k2 := cell_of_row _ _ 2 _ _ _ xm
      go_wp2_with fail
      refine ((Measure_c _ _ manyG 0 hgm many_look fun h e hw => top_work e hw)).mono ?_
      intro e w23 h
      obtain ⟨a3, c3, rfl, hm3, hb⟩ : ∃ a c, e = .returned (.tuple #[.slice a 0 c, .int .i64 2]) ∧ IsRows w23 (.slice a 0 c) [] ∧ Below wr.heap.size wr w23 := h.ex many_meas0
      clear h
      replace x5 := (hb.block _ (Array.getElem?_eq_some_iff.1 x5).1).trans x5
      replace xm := (hb.block _ (Array.getElem?_eq_some_iff.1 xm).1).trans xm
      replace hg := hg.below hb
      replace hgm := hgm.below hb
      replace hB := hB.trans (hb.mono hB.size)
      clear hb
      clear k0 k1 k2
      clear hm3
      go_upto_region 15 with (fail)
      obtain ⟨ll, hll, hln⟩ : ∃ ll, measG manyG 1 = (ll, 0) ∧ ll.length = 300 := ⟨_, Prod.ext rfl many_meas1.1, many_meas1.2⟩
      have k0 := cell_of_row _ _ 0 _ _ _ xm
      have k1 := cell_of_row _ _ 1 _ _ _ xm
      have k2 := cell_of_row _ _ 2 _ _ _ xm
      go_wp2_with fail
      refine ((Measure_c _ _ manyG 1 hgm many_look fun h e hw => top_work e hw)).mono ?_
      intro e w24 h
      obtain ⟨a4, c4, rfl, hm4, hb⟩ : ∃ a c, e = .returned (.tuple #[.slice a 300 c, .int .i64 0]) ∧ IsRows w24 (.slice a 300 c) ll ∧ Below w23.heap.size w23 w24 := by have := h.ex hll; rw [hln] at this; exact this
      clear h
      replace x5 := (hb.block _ (Array.getElem?_eq_some_iff.1 x5).1).trans x5
      replace xm := (hb.block _ (Array.getElem?_eq_some_iff.1 xm).1).trans xm
      replace hg := hg.below hb
      replace hgm := hgm.below hb
      replace hB := hB.trans (hb.mono hB.size)
      clear hb
      clear k0 k1 k2
      clear hm4 hll hln
      go_upto_region 16 with (fail)
      have k0 := cell_of_row _ _ 0 _ _ _ x5
      have k1 := cell_of_row _ _ 1 _ _ _ x5
      have k2 := cell_of_row _ _ 2 _ _ _ x5
      go_wp2_with fail
      refine (Work_c _ _ exG 0 hg ex_look).mono ?_
      rw [ex_work0]
      rw [show ((4 : Nat) : Int) = 4 from rfl]
      rintro e w25 ⟨rfl, hb⟩
      replace x5 := (hb.block _ (Array.getElem?_eq_some_iff.1 x5).1).trans x5
      replace xm := (hb.block _ (Array.getElem?_eq_some_iff.1 xm).1).trans xm
      replace hg := hg.below hb
      replace hgm := hgm.below hb
      replace hB := hB.trans (hb.mono hB.size)
      clear hb
      clear k0 k1 k2
      have k0 := cell_of_row _ _ 0 _ _ _ x5
      have k1 := cell_of_row _ _ 1 _ _ _ x5
      have k2 := cell_of_row _ _ 2 _ _ _ x5
      go_wp2_with fail
      refine (Work_c _ _ exG 1 hg ex_look).mono ?_
      rw [ex_work1]
      rw [show ((4 : Nat) : Int) = 4 from rfl]
      rintro e w26 ⟨rfl, hb⟩
      replace x5 := (hb.block _ (Array.getElem?_eq_some_iff.1 x5).1).trans x5
      replace xm := (hb.block _ (Array.getElem?_eq_some_iff.1 xm).1).trans xm
      replace hg := hg.below hb
      replace hgm := hgm.below hb
      replace hB := hB.trans (hb.mono hB.size)
      clear hb
      clear k0 k1 k2
      have k0 := cell_of_row _ _ 0 _ _ _ xm
      have k1 := cell_of_row _ _ 1 _ _ _ xm
      have k2 := cell_of_row _ _ 2 _ _ _ xm
      go_wp2_with fail
      refine (Work_c _ _ manyG 0 hgm many_look).mono ?_
      rw [many_work0]
      rw [show ((2000001 : Nat) : Int) = 2000001 from rfl]
      rintro e w27 ⟨rfl, hb⟩
      replace x5 := (hb.block _ (Array.getElem?_eq_some_iff.1 x5).1).trans x5
      replace xm := (hb.block _ (Array.getElem?_eq_some_iff.1 xm).1).trans xm
      replace hg := hg.below hb
      replace hgm := hgm.below hb
      replace hB := hB.trans (hb.mono hB.size)
      clear hb
      clear k0 k1 k2
      clear xm hgm
      have k0 := cell_of_row _ _ 0 _ _ _ x5
      have k1 := cell_of_row _ _ 1 _ _ _ x5
      have k2 := cell_of_row _ _ 2 _ _ _ x5
      go_wp2_with fail
      refine (Solve_c _ _ exG hg ex_look.s).mono ?_
      rintro e w28 ⟨v, l, rfl, hs, hS, hb⟩
      obtain rfl := ex_sol hS
      obtain ⟨aS, cS, rfl⟩ : ∃ a c, v = .slice a 2 c := hs.shape
      clear hS
      replace x5 := (hb.block _ (Array.getElem?_eq_some_iff.1 x5).1).trans x5
      replace hg := hg.below hb
      replace hB := hB.trans (hb.mono hB.size)
      clear hb k0 k1 k2
      go_wp2_with fail
      have hb : Below w28.heap.size w28 (w28.alloc (.cells #[.int .i64 0, .int .i64 0] 3)) := (by repeat (first | exact Below.refl _ _ | assumption | (refine belA ?_ _) | (refine belD ?_ _)))
      have z0 : (w28.alloc (.cells #[.int .i64 0, .int .i64 0] 3)).heap[w28.heap.size]? = some (.cells #[.int .i64 0, .int .i64 0] 3 (0, 0)) := (by (repeat (rw [alloc_get]; first | rw [if_pos (by first | (simp; done) | (simp; omega))] | rw [if_neg (by first | (simp; done) | (simp; omega))])); (try rfl))
      generalize (w28.alloc (.cells #[.int .i64 0, .int .i64 0] 3)) = w29 at *
      replace x5 := (hb.block _ (Array.getElem?_eq_some_iff.1 x5).1).trans x5
      replace hg := hg.below hb
      replace hs := hs.below hb
      replace hB := hB.trans (hb.mono hB.size)
      replace z0 : IsInts w29 (.slice (some ⟨w28.heap.size, 0, none⟩) 2 2) [0, 0] := ints_lit [0, 0] z0 (by decide) (by simp [I64])
      clear hb
      generalize w28.heap.size = pw290 at *
      refine ((Ints_c _ _ _ [0, 0] [0, 0] hs z0).mono fun e w' h => h.calm).mono ?_
      rw [decide_eq_true (rfl : ([0, 0] : List Int) = [0, 0])]
      rintro e w30 ⟨rfl, hb⟩
      replace x5 := (hb.block _ (Array.getElem?_eq_some_iff.1 x5).1).trans x5
      replace hg := hg.below hb
      replace hs := hs.below hb
      replace hB := hB.trans (hb.mono hB.size)
      clear hb
      clear z0 hs
      have k0 := cell_of_row _ _ 0 _ _ _ x5
      have k1 := cell_of_row _ _ 1 _ _ _ x5
      have k2 := cell_of_row _ _ 2 _ _ _ x5
      go_wp2_with fail
      refine (AValid_c _ _ exG hg).mono ?_
      rw [ex_valid]
      rintro e w31 ⟨rfl, hb⟩
      replace x5 := (hb.block _ (Array.getElem?_eq_some_iff.1 x5).1).trans x5
      replace hg := hg.below hb
      replace hB := hB.trans (hb.mono hB.size)
      clear hb
      go_wp2_with fail
      go_ret
      exact ⟨rfl, hB⟩

end Go.Proofs.Ytijkjhcigdfdgaa
