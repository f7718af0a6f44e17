/- What head computes: true. -/
import Derived.Test.YtkbiopjinegckaaSt23
import Derived.Test.YtkbiopjinegckaaSt14
import Derived.Test.YtkbiopjinegckaaSt17
namespace Go.Proofs.Ytkbiopjinegckaa
open Go.RowKit

theorem IsGame.shape {w : World} {v : Value} {g : Gm} (h : IsGame w v g) : ∃ a0 c0 a1 c1 a2 c2, v = .agg #[.slice a0 g.owner.length c0, .slice a1 g.prio.length c1, .slice a2 g.succ.length c2] := by
  obtain ⟨v0, v1, v2, rfl, ⟨⟨a0, c0, -, -, rfl, -⟩, -⟩, ⟨⟨a1, c1, -, -, rfl, -⟩, -⟩, ⟨V, ⟨a2, c2, -, -, rfl, -⟩, -⟩⟩ := h
  exact ⟨_, _, _, _, _, _, rfl⟩
theorem IsPath.shape {w : World} {v : Value} {P : Ph} (h : IsPath w v P) : ∃ a0 c0 a1 c1, v = .agg #[.slice a0 P.stem.length c0, .slice a1 P.loop.length c1] ∧ IsInts w (.slice a0 P.stem.length c0) P.stem ∧ IsInts w (.slice a1 P.loop.length c1) P.loop := by
  obtain ⟨v0, v1, rfl, h0, h1⟩ := h
  obtain ⟨a0, c0, rfl⟩ := h0.shape
  obtain ⟨a1, c1, rfl⟩ := h1.shape
  exact ⟨_, _, _, _, rfl, h0, h1⟩

set_option maxRecDepth 100000 in
set_option maxHeartbeats 8000000 in
theorem head_c (w : World) : Calls Try.prog 9 #[] w (Calm (.bool true) w) := by
  go_enter Try.func9, Try.ntmps9
  go_wp2_with fail
  refine (Example_c _).mono ?_
  rintro e w1 ⟨vg, rfl, hg, hB⟩
  obtain ⟨a0, c0, a1, c1, a2, c2, rfl⟩ : ∃ a0 c0 a1 c1 a2 c2, vg = .agg #[.slice a0 3 c0, .slice a1 3 c1, .slice a2 3 c2] := hg.shape
  go_upto_region 2 with (fail)
  obtain ⟨hx, hb, hB⟩ := box_new hB hB.size #[.slice a0 3 c0, .slice a1 3 c1, .slice a2 3 c2] 25
  replace hg := hg.below hb
  generalize w1.alloc (.cells #[.slice a0 3 c0, .slice a1 3 c1, .slice a2 3 c2] 25) = w2 at *
  generalize w1.heap.size = zg at *
  clear hb
  go_upto_region 3 with (fail)
  have hb : Below w2.heap.size w2 (w2.alloc (.cells #[.bool true, .bool true, .bool true] 4)) := (by repeat (first | exact Below.refl _ _ | assumption | (refine belA ?_ _) | (refine belD ?_ _)))
  have y0 : (w2.alloc (.cells #[.bool true, .bool true, .bool true] 4)).heap[w2.heap.size]? = some (.cells #[.bool true, .bool true, .bool true] 4 (0, 0)) := (by (repeat (rw [alloc_get]; first | rw [if_pos (by first | (simp; done) | (simp; omega))] | rw [if_neg (by first | (simp; done) | (simp; omega))])); (try rfl))
  generalize (w2.alloc (.cells #[.bool true, .bool true, .bool true] 4)) = w3 at *
  replace hx := (hb.block _ (Array.getElem?_eq_some_iff.1 hx).1).trans hx
  replace hg := hg.below hb
  replace hB := hB.trans (hb.mono hB.size)
  replace y0 : IsBools w3 (.slice (some ⟨w2.heap.size, 0, none⟩) 3 3) [true, true, true] := bools_lit [true, true, true] y0 (by decide)
  generalize w2.heap.size = pw30 at *
  clear hb
  have hall := y0
  clear y0
  have k0 := cell_of_row _ _ 0 _ _ _ hx
  have k1 := cell_of_row _ _ 1 _ _ _ hx
  have k2 := cell_of_row _ _ 2 _ _ _ hx
  go_wp2_with fail
  have hb : Below w3.heap.size w3 ((w3.alloc (.cells #[.int .i64 2, .int .i64 (-1), .int .i64 0] 3)).alloc (.cells #[.int .i64 (-1), .int .i64 1, .int .i64 (-1)] 3)) := (by repeat (first | exact Below.refl _ _ | assumption | (refine belA ?_ _) | (refine belD ?_ _)))
  have y0 : ((w3.alloc (.cells #[.int .i64 2, .int .i64 (-1), .int .i64 0] 3)).alloc (.cells #[.int .i64 (-1), .int .i64 1, .int .i64 (-1)] 3)).heap[w3.heap.size]? = some (.cells #[.int .i64 2, .int .i64 (-1), .int .i64 0] 3 (0, 0)) := (by (repeat (rw [alloc_get]; first | rw [if_pos (by first | (simp; done) | (simp; omega))] | rw [if_neg (by first | (simp; done) | (simp; omega))])); (try rfl))
  have y1 : ((w3.alloc (.cells #[.int .i64 2, .int .i64 (-1), .int .i64 0] 3)).alloc (.cells #[.int .i64 (-1), .int .i64 1, .int .i64 (-1)] 3)).heap[w3.heap.size + 1]? = some (.cells #[.int .i64 (-1), .int .i64 1, .int .i64 (-1)] 3 (0, 0)) := (by (repeat (rw [alloc_get]; first | rw [if_pos (by first | (simp; done) | (simp; omega))] | rw [if_neg (by first | (simp; done) | (simp; omega))])); (try rfl))
  generalize ((w3.alloc (.cells #[.int .i64 2, .int .i64 (-1), .int .i64 0] 3)).alloc (.cells #[.int .i64 (-1), .int .i64 1, .int .i64 (-1)] 3)) = w4 at *
  replace hx := (hb.block _ (Array.getElem?_eq_some_iff.1 hx).1).trans hx
  replace hg := hg.below hb
  replace hall := hall.below hb
  replace hB := hB.trans (hb.mono hB.size)
  replace y0 : IsInts w4 (.slice (some ⟨w3.heap.size, 0, none⟩) 3 3) [2, -1, 0] := ints_lit [2, -1, 0] y0 (by decide) (by simp [I64])
  replace y1 : IsInts w4 (.slice (some ⟨w3.heap.size + 1, 0, none⟩) 3 3) [-1, 1, -1] := ints_lit [-1, 1, -1] y1 (by decide) (by simp [I64])
  generalize w3.heap.size + 1 = pw41 at *
  generalize w3.heap.size = pw40 at *
  clear hb
  refine (Play_c _ _ _ _ exG [2, -1, 0] [-1, 1, -1] 1 hg y0 y1).mono ?_
  rw [ex_p]
  rintro e w5 ⟨vp, rfl, hp, hb⟩
  obtain ⟨d0, e0, d1, e1, rfl, hp0, hp1⟩ : ∃ a0 c0 a1 c1, vp = .agg #[.slice a0 0 c0, .slice a1 1 c1] ∧ IsInts _ (.slice a0 0 c0) [] ∧ IsInts _ (.slice a1 1 c1) [1] := hp.shape
  replace hx := (hb.block _ (Array.getElem?_eq_some_iff.1 hx).1).trans hx
  replace hg := hg.below hb
  replace hall := hall.below hb
  replace hB := hB.trans (hb.mono hB.size)
  clear hb y1 y0 k0 k1 k2
  go_upto_region 4 with (fail)
  obtain ⟨xp, hb, hB⟩ := box_new hB hB.size #[.slice d0 0 e0, .slice d1 1 e1] 28
  replace hx := (hb.block _ (Array.getElem?_eq_some_iff.1 hx).1).trans hx
  replace hg := hg.below hb
  replace hall := hall.below hb
  replace hp0 := hp0.below hb
  replace hp1 := hp1.below hb
  generalize w5.alloc (.cells #[.slice d0 0 e0, .slice d1 1 e1] 28) = w6 at *
  generalize w5.heap.size = zp at *
  clear hb hp
  have k0 := cell_of_row _ _ 0 _ _ _ hx
  have k1 := cell_of_row _ _ 1 _ _ _ hx
  have k2 := cell_of_row _ _ 2 _ _ _ hx
  go_wp2_with fail
  have hb : Below w6.heap.size w6 ((w6.alloc (.cells #[.int .i64 2, .int .i64 (-1), .int .i64 0] 3)).alloc (.cells #[.int .i64 (-1), .int .i64 0, .int .i64 (-1)] 3)) := (by repeat (first | exact Below.refl _ _ | assumption | (refine belA ?_ _) | (refine belD ?_ _)))
  have y0 : ((w6.alloc (.cells #[.int .i64 2, .int .i64 (-1), .int .i64 0] 3)).alloc (.cells #[.int .i64 (-1), .int .i64 0, .int .i64 (-1)] 3)).heap[w6.heap.size]? = some (.cells #[.int .i64 2, .int .i64 (-1), .int .i64 0] 3 (0, 0)) := (by (repeat (rw [alloc_get]; first | rw [if_pos (by first | (simp; done) | (simp; omega))] | rw [if_neg (by first | (simp; done) | (simp; omega))])); (try rfl))
  have y1 : ((w6.alloc (.cells #[.int .i64 2, .int .i64 (-1), .int .i64 0] 3)).alloc (.cells #[.int .i64 (-1), .int .i64 0, .int .i64 (-1)] 3)).heap[w6.heap.size + 1]? = some (.cells #[.int .i64 (-1), .int .i64 0, .int .i64 (-1)] 3 (0, 0)) := (by (repeat (rw [alloc_get]; first | rw [if_pos (by first | (simp; done) | (simp; omega))] | rw [if_neg (by first | (simp; done) | (simp; omega))])); (try rfl))
  generalize ((w6.alloc (.cells #[.int .i64 2, .int .i64 (-1), .int .i64 0] 3)).alloc (.cells #[.int .i64 (-1), .int .i64 0, .int .i64 (-1)] 3)) = w7 at *
  replace hx := (hb.block _ (Array.getElem?_eq_some_iff.1 hx).1).trans hx
  replace xp := (hb.block _ (Array.getElem?_eq_some_iff.1 xp).1).trans xp
  replace hg := hg.below hb
  replace hall := hall.below hb
  replace hp0 := hp0.below hb
  replace hp1 := hp1.below hb
  replace hB := hB.trans (hb.mono hB.size)
  replace y0 : IsInts w7 (.slice (some ⟨w6.heap.size, 0, none⟩) 3 3) [2, -1, 0] := ints_lit [2, -1, 0] y0 (by decide) (by simp [I64])
  replace y1 : IsInts w7 (.slice (some ⟨w6.heap.size + 1, 0, none⟩) 3 3) [-1, 0, -1] := ints_lit [-1, 0, -1] y1 (by decide) (by simp [I64])
  generalize w6.heap.size + 1 = pw71 at *
  generalize w6.heap.size = pw70 at *
  clear hb
  refine (Play_c _ _ _ _ exG [2, -1, 0] [-1, 0, -1] 1 hg y0 y1).mono ?_
  rw [ex_q]
  rintro e w8 ⟨vp, rfl, hp, hb⟩
  obtain ⟨d2, e2, d3, e3, rfl, hq0, hq1⟩ : ∃ a0 c0 a1 c1, vp = .agg #[.slice a0 1 c0, .slice a1 2 c1] ∧ IsInts _ (.slice a0 1 c0) [1] ∧ IsInts _ (.slice a1 2 c1) [0, 2] := hp.shape
  replace hx := (hb.block _ (Array.getElem?_eq_some_iff.1 hx).1).trans hx
  replace xp := (hb.block _ (Array.getElem?_eq_some_iff.1 xp).1).trans xp
  replace hg := hg.below hb
  replace hall := hall.below hb
  replace hp0 := hp0.below hb
  replace hp1 := hp1.below hb
  replace hB := hB.trans (hb.mono hB.size)
  clear hb y1 y0 k0 k1 k2
  go_upto_region 5 with (fail)
  obtain ⟨xq, hb, hB⟩ := box_new hB hB.size #[.slice d2 1 e2, .slice d3 2 e3] 28
  replace hx := (hb.block _ (Array.getElem?_eq_some_iff.1 hx).1).trans hx
  replace xp := (hb.block _ (Array.getElem?_eq_some_iff.1 xp).1).trans xp
  replace hg := hg.below hb
  replace hall := hall.below hb
  replace hp0 := hp0.below hb
  replace hp1 := hp1.below hb
  replace hq0 := hq0.below hb
  replace hq1 := hq1.below hb
  generalize w8.alloc (.cells #[.slice d2 1 e2, .slice d3 2 e3] 28) = w9 at *
  generalize w8.heap.size = zq at *
  clear hb hp
  have k0 := cell_of_row _ _ 0 _ _ _ hx
  have k1 := cell_of_row _ _ 1 _ _ _ hx
  have k2 := cell_of_row _ _ 2 _ _ _ hx
  go_wp2_with fail
  have hb : Below w9.heap.size w9 (w9.alloc (.cells #[.int .i64 1, .int .i64 (-1), .int .i64 0] 3)) := (by repeat (first | exact Below.refl _ _ | assumption | (refine belA ?_ _) | (refine belD ?_ _)))
  have y0 : (w9.alloc (.cells #[.int .i64 1, .int .i64 (-1), .int .i64 0] 3)).heap[w9.heap.size]? = some (.cells #[.int .i64 1, .int .i64 (-1), .int .i64 0] 3 (0, 0)) := (by (repeat (rw [alloc_get]; first | rw [if_pos (by first | (simp; done) | (simp; omega))] | rw [if_neg (by first | (simp; done) | (simp; omega))])); (try rfl))
  generalize (w9.alloc (.cells #[.int .i64 1, .int .i64 (-1), .int .i64 0] 3)) = w10 at *
  replace hx := (hb.block _ (Array.getElem?_eq_some_iff.1 hx).1).trans hx
  replace xp := (hb.block _ (Array.getElem?_eq_some_iff.1 xp).1).trans xp
  replace xq := (hb.block _ (Array.getElem?_eq_some_iff.1 xq).1).trans xq
  replace hg := hg.below hb
  replace hall := hall.below hb
  replace hp0 := hp0.below hb
  replace hp1 := hp1.below hb
  replace hq0 := hq0.below hb
  replace hq1 := hq1.below hb
  replace hB := hB.trans (hb.mono hB.size)
  replace y0 : IsInts w10 (.slice (some ⟨w9.heap.size, 0, none⟩) 3 3) [1, -1, 0] := ints_lit [1, -1, 0] y0 (by decide) (by simp [I64])
  generalize w9.heap.size = pw100 at *
  clear hb
  refine (StValid_c _ _ _ _ exG 0 [true, true, true] [1, -1, 0] hg hall y0).mono ?_
  rw [ex_v1]
  rintro e w11 ⟨rfl, hb⟩
  replace hx := (hb.block _ (Array.getElem?_eq_some_iff.1 hx).1).trans hx
  replace xp := (hb.block _ (Array.getElem?_eq_some_iff.1 xp).1).trans xp
  replace xq := (hb.block _ (Array.getElem?_eq_some_iff.1 xq).1).trans xq
  replace hg := hg.below hb
  replace hall := hall.below hb
  replace hp0 := hp0.below hb
  replace hp1 := hp1.below hb
  replace hq0 := hq0.below hb
  replace hq1 := hq1.below hb
  replace hB := hB.trans (hb.mono hB.size)
  clear hb
  clear y0 k0 k1 k2
  have k0 := cell_of_row _ _ 0 _ _ _ hx
  have k1 := cell_of_row _ _ 1 _ _ _ hx
  have k2 := cell_of_row _ _ 2 _ _ _ hx
  go_wp2_with fail
  have hb : Below w11.heap.size w11 (w11.alloc (.cells #[.int .i64 1, .int .i64 (-1), .int .i64 0] 3)) := (by repeat (first | exact Below.refl _ _ | assumption | (refine belA ?_ _) | (refine belD ?_ _)))
  have y0 : (w11.alloc (.cells #[.int .i64 1, .int .i64 (-1), .int .i64 0] 3)).heap[w11.heap.size]? = some (.cells #[.int .i64 1, .int .i64 (-1), .int .i64 0] 3 (0, 0)) := (by (repeat (rw [alloc_get]; first | rw [if_pos (by first | (simp; done) | (simp; omega))] | rw [if_neg (by first | (simp; done) | (simp; omega))])); (try rfl))
  generalize (w11.alloc (.cells #[.int .i64 1, .int .i64 (-1), .int .i64 0] 3)) = w12 at *
  replace hx := (hb.block _ (Array.getElem?_eq_some_iff.1 hx).1).trans hx
  replace xp := (hb.block _ (Array.getElem?_eq_some_iff.1 xp).1).trans xp
  replace xq := (hb.block _ (Array.getElem?_eq_some_iff.1 xq).1).trans xq
  replace hg := hg.below hb
  replace hall := hall.below hb
  replace hp0 := hp0.below hb
  replace hp1 := hp1.below hb
  replace hq0 := hq0.below hb
  replace hq1 := hq1.below hb
  replace hB := hB.trans (hb.mono hB.size)
  replace y0 : IsInts w12 (.slice (some ⟨w11.heap.size, 0, none⟩) 3 3) [1, -1, 0] := ints_lit [1, -1, 0] y0 (by decide) (by simp [I64])
  generalize w11.heap.size = pw120 at *
  clear hb
  refine (Wins_c _ _ _ _ exG 0 [true, true, true] [1, -1, 0] hg hall y0).mono ?_
  rw [ex_w1]
  rintro e w13 ⟨rfl, hb⟩
  replace hx := (hb.block _ (Array.getElem?_eq_some_iff.1 hx).1).trans hx
  replace xp := (hb.block _ (Array.getElem?_eq_some_iff.1 xp).1).trans xp
  replace xq := (hb.block _ (Array.getElem?_eq_some_iff.1 xq).1).trans xq
  replace hg := hg.below hb
  replace hall := hall.below hb
  replace hp0 := hp0.below hb
  replace hp1 := hp1.below hb
  replace hq0 := hq0.below hb
  replace hq1 := hq1.below hb
  replace hB := hB.trans (hb.mono hB.size)
  clear hb
  clear y0 k0 k1 k2
  have k0 := cell_of_row _ _ 0 _ _ _ hx
  have k1 := cell_of_row _ _ 1 _ _ _ hx
  have k2 := cell_of_row _ _ 2 _ _ _ hx
  go_wp2_with fail
  have hb : Below w13.heap.size w13 ((w13.alloc (.cells #[.bool false, .bool true, .bool false] 4)).alloc (.cells #[.int .i64 (-1), .int .i64 (-1), .int .i64 (-1)] 3)) := (by repeat (first | exact Below.refl _ _ | assumption | (refine belA ?_ _) | (refine belD ?_ _)))
  have y0 : ((w13.alloc (.cells #[.bool false, .bool true, .bool false] 4)).alloc (.cells #[.int .i64 (-1), .int .i64 (-1), .int .i64 (-1)] 3)).heap[w13.heap.size]? = some (.cells #[.bool false, .bool true, .bool false] 4 (0, 0)) := (by (repeat (rw [alloc_get]; first | rw [if_pos (by first | (simp; done) | (simp; omega))] | rw [if_neg (by first | (simp; done) | (simp; omega))])); (try rfl))
  have y1 : ((w13.alloc (.cells #[.bool false, .bool true, .bool false] 4)).alloc (.cells #[.int .i64 (-1), .int .i64 (-1), .int .i64 (-1)] 3)).heap[w13.heap.size + 1]? = some (.cells #[.int .i64 (-1), .int .i64 (-1), .int .i64 (-1)] 3 (0, 0)) := (by (repeat (rw [alloc_get]; first | rw [if_pos (by first | (simp; done) | (simp; omega))] | rw [if_neg (by first | (simp; done) | (simp; omega))])); (try rfl))
  generalize ((w13.alloc (.cells #[.bool false, .bool true, .bool false] 4)).alloc (.cells #[.int .i64 (-1), .int .i64 (-1), .int .i64 (-1)] 3)) = w14 at *
  replace hx := (hb.block _ (Array.getElem?_eq_some_iff.1 hx).1).trans hx
  replace xp := (hb.block _ (Array.getElem?_eq_some_iff.1 xp).1).trans xp
  replace xq := (hb.block _ (Array.getElem?_eq_some_iff.1 xq).1).trans xq
  replace hg := hg.below hb
  replace hall := hall.below hb
  replace hp0 := hp0.below hb
  replace hp1 := hp1.below hb
  replace hq0 := hq0.below hb
  replace hq1 := hq1.below hb
  replace hB := hB.trans (hb.mono hB.size)
  replace y0 : IsBools w14 (.slice (some ⟨w13.heap.size, 0, none⟩) 3 3) [false, true, false] := bools_lit [false, true, false] y0 (by decide)
  replace y1 : IsInts w14 (.slice (some ⟨w13.heap.size + 1, 0, none⟩) 3 3) [-1, -1, -1] := ints_lit [-1, -1, -1] y1 (by decide) (by simp [I64])
  generalize w13.heap.size + 1 = pw141 at *
  generalize w13.heap.size = pw140 at *
  clear hb
  refine (StValid_c _ _ _ _ exG 0 [false, true, false] [-1, -1, -1] hg y0 y1).mono ?_
  rw [ex_v2]
  rintro e w15 ⟨rfl, hb⟩
  replace hx := (hb.block _ (Array.getElem?_eq_some_iff.1 hx).1).trans hx
  replace xp := (hb.block _ (Array.getElem?_eq_some_iff.1 xp).1).trans xp
  replace xq := (hb.block _ (Array.getElem?_eq_some_iff.1 xq).1).trans xq
  replace hg := hg.below hb
  replace hall := hall.below hb
  replace hp0 := hp0.below hb
  replace hp1 := hp1.below hb
  replace hq0 := hq0.below hb
  replace hq1 := hq1.below hb
  replace hB := hB.trans (hb.mono hB.size)
  clear hb
  clear y0 y1 k0 k1 k2
  have k0 := cell_of_row _ _ 0 _ _ _ hx
  have k1 := cell_of_row _ _ 1 _ _ _ hx
  have k2 := cell_of_row _ _ 2 _ _ _ hx
  go_wp2_with fail
  have hb : Below w15.heap.size w15 ((w15.alloc (.cells #[.bool true, .bool true, .bool true] 4)).alloc (.cells #[.int .i64 (-1), .int .i64 0, .int .i64 (-1)] 3)) := (by repeat (first | exact Below.refl _ _ | assumption | (refine belA ?_ _) | (refine belD ?_ _)))
  have y0 : ((w15.alloc (.cells #[.bool true, .bool true, .bool true] 4)).alloc (.cells #[.int .i64 (-1), .int .i64 0, .int .i64 (-1)] 3)).heap[w15.heap.size]? = some (.cells #[.bool true, .bool true, .bool true] 4 (0, 0)) := (by (repeat (rw [alloc_get]; first | rw [if_pos (by first | (simp; done) | (simp; omega))] | rw [if_neg (by first | (simp; done) | (simp; omega))])); (try rfl))
  have y1 : ((w15.alloc (.cells #[.bool true, .bool true, .bool true] 4)).alloc (.cells #[.int .i64 (-1), .int .i64 0, .int .i64 (-1)] 3)).heap[w15.heap.size + 1]? = some (.cells #[.int .i64 (-1), .int .i64 0, .int .i64 (-1)] 3 (0, 0)) := (by (repeat (rw [alloc_get]; first | rw [if_pos (by first | (simp; done) | (simp; omega))] | rw [if_neg (by first | (simp; done) | (simp; omega))])); (try rfl))
  generalize ((w15.alloc (.cells #[.bool true, .bool true, .bool true] 4)).alloc (.cells #[.int .i64 (-1), .int .i64 0, .int .i64 (-1)] 3)) = w16 at *
  replace hx := (hb.block _ (Array.getElem?_eq_some_iff.1 hx).1).trans hx
  replace xp := (hb.block _ (Array.getElem?_eq_some_iff.1 xp).1).trans xp
  replace xq := (hb.block _ (Array.getElem?_eq_some_iff.1 xq).1).trans xq
  replace hg := hg.below hb
  replace hall := hall.below hb
  replace hp0 := hp0.below hb
  replace hp1 := hp1.below hb
  replace hq0 := hq0.below hb
  replace hq1 := hq1.below hb
  replace hB := hB.trans (hb.mono hB.size)
  replace y0 : IsBools w16 (.slice (some ⟨w15.heap.size, 0, none⟩) 3 3) [true, true, true] := bools_lit [true, true, true] y0 (by decide)
  replace y1 : IsInts w16 (.slice (some ⟨w15.heap.size + 1, 0, none⟩) 3 3) [-1, 0, -1] := ints_lit [-1, 0, -1] y1 (by decide) (by simp [I64])
  generalize w15.heap.size + 1 = pw161 at *
  generalize w15.heap.size = pw160 at *
  clear hb
  refine (Wins_c _ _ _ _ exG 1 [true, true, true] [-1, 0, -1] hg y0 y1).mono ?_
  rw [ex_w2]
  rintro e w17 ⟨rfl, hb⟩
  replace hx := (hb.block _ (Array.getElem?_eq_some_iff.1 hx).1).trans hx
  replace xp := (hb.block _ (Array.getElem?_eq_some_iff.1 xp).1).trans xp
  replace xq := (hb.block _ (Array.getElem?_eq_some_iff.1 xq).1).trans xq
  replace hg := hg.below hb
  replace hall := hall.below hb
  replace hp0 := hp0.below hb
  replace hp1 := hp1.below hb
  replace hq0 := hq0.below hb
  replace hq1 := hq1.below hb
  replace hB := hB.trans (hb.mono hB.size)
  clear hb
  clear y0 y1 k0 k1 k2
  clear hall
  go_upto_region 6 with (fail)
  have q0 := cell_of_row _ _ 0 _ _ _ xp
  have q1 := cell_of_row _ _ 1 _ _ _ xp
  go_wp2_with fail
  have hb : Below w17.heap.size w17 (w17.alloc (.cells #[.int .i64 1] 3)) := (by repeat (first | exact Below.refl _ _ | assumption | (refine belA ?_ _) | (refine belD ?_ _)))
  have y0 : (w17.alloc (.cells #[.int .i64 1] 3)).heap[w17.heap.size]? = some (.cells #[.int .i64 1] 3 (0, 0)) := (by (repeat (rw [alloc_get]; first | rw [if_pos (by first | (simp; done) | (simp; omega))] | rw [if_neg (by first | (simp; done) | (simp; omega))])); (try rfl))
  generalize (w17.alloc (.cells #[.int .i64 1] 3)) = w18 at *
  replace hx := (hb.block _ (Array.getElem?_eq_some_iff.1 hx).1).trans hx
  replace xp := (hb.block _ (Array.getElem?_eq_some_iff.1 xp).1).trans xp
  replace xq := (hb.block _ (Array.getElem?_eq_some_iff.1 xq).1).trans xq
  replace hg := hg.below hb
  replace hp0 := hp0.below hb
  replace hp1 := hp1.below hb
  replace hq0 := hq0.below hb
  replace hq1 := hq1.below hb
  replace hB := hB.trans (hb.mono hB.size)
  replace y0 : IsInts w18 (.slice (some ⟨w17.heap.size, 0, none⟩) 1 1) [1] := ints_lit [1] y0 (by decide) (by simp [I64])
  generalize w17.heap.size = pw180 at *
  clear hb
  refine ((Ints_c _ _ _ [1] [1] hp1 y0).mono fun e w' h => h.calm).mono ?_
  rw [decide_eq_true (rfl : ([1] : List Int) = [1])]
  rintro e w19 ⟨rfl, hb⟩
  replace hx := (hb.block _ (Array.getElem?_eq_some_iff.1 hx).1).trans hx
  replace xp := (hb.block _ (Array.getElem?_eq_some_iff.1 xp).1).trans xp
  replace xq := (hb.block _ (Array.getElem?_eq_some_iff.1 xq).1).trans xq
  replace hg := hg.below hb
  replace hp0 := hp0.below hb
  replace hp1 := hp1.below hb
  replace hq0 := hq0.below hb
  replace hq1 := hq1.below hb
  replace hB := hB.trans (hb.mono hB.size)
  clear hb
  clear y0 q0 q1
  have k0 := cell_of_row _ _ 0 _ _ _ hx
  have k1 := cell_of_row _ _ 1 _ _ _ hx
  have k2 := cell_of_row _ _ 2 _ _ _ hx
  have q0 := cell_of_row _ _ 0 _ _ _ xp
  have q1 := cell_of_row _ _ 1 _ _ _ xp
  go_wp2_with fail
  refine (Winner_c _ _ _ exG ⟨[], [1]⟩ hg ⟨_, _, rfl, hp0, hp1⟩ (by decide)).mono ?_
  rw [ex_r1]
  rintro e w20 ⟨rfl, hb⟩
  replace hx := (hb.block _ (Array.getElem?_eq_some_iff.1 hx).1).trans hx
  replace xp := (hb.block _ (Array.getElem?_eq_some_iff.1 xp).1).trans xp
  replace xq := (hb.block _ (Array.getElem?_eq_some_iff.1 xq).1).trans xq
  replace hg := hg.below hb
  replace hp0 := hp0.below hb
  replace hp1 := hp1.below hb
  replace hq0 := hq0.below hb
  replace hq1 := hq1.below hb
  replace hB := hB.trans (hb.mono hB.size)
  clear hb
  clear k0 k1 k2 q0 q1
  clear hp0 hp1 xp
  have q0 := cell_of_row _ _ 0 _ _ _ xq
  have q1 := cell_of_row _ _ 1 _ _ _ xq
  go_wp2_with fail
  have hb : Below w20.heap.size w20 (w20.alloc (.cells #[.int .i64 1] 3)) := (by repeat (first | exact Below.refl _ _ | assumption | (refine belA ?_ _) | (refine belD ?_ _)))
  have y0 : (w20.alloc (.cells #[.int .i64 1] 3)).heap[w20.heap.size]? = some (.cells #[.int .i64 1] 3 (0, 0)) := (by (repeat (rw [alloc_get]; first | rw [if_pos (by first | (simp; done) | (simp; omega))] | rw [if_neg (by first | (simp; done) | (simp; omega))])); (try rfl))
  generalize (w20.alloc (.cells #[.int .i64 1] 3)) = w21 at *
  replace hx := (hb.block _ (Array.getElem?_eq_some_iff.1 hx).1).trans hx
  replace xq := (hb.block _ (Array.getElem?_eq_some_iff.1 xq).1).trans xq
  replace hg := hg.below hb
  replace hq0 := hq0.below hb
  replace hq1 := hq1.below hb
  replace hB := hB.trans (hb.mono hB.size)
  replace y0 : IsInts w21 (.slice (some ⟨w20.heap.size, 0, none⟩) 1 1) [1] := ints_lit [1] y0 (by decide) (by simp [I64])
  generalize w20.heap.size = pw210 at *
  clear hb
  refine ((Ints_c _ _ _ [1] [1] hq0 y0).mono fun e w' h => h.calm).mono ?_
  rw [decide_eq_true (rfl : ([1] : List Int) = [1])]
  rintro e w22 ⟨rfl, hb⟩
  replace hx := (hb.block _ (Array.getElem?_eq_some_iff.1 hx).1).trans hx
  replace xq := (hb.block _ (Array.getElem?_eq_some_iff.1 xq).1).trans xq
  replace hg := hg.below hb
  replace hq0 := hq0.below hb
  replace hq1 := hq1.below hb
  replace hB := hB.trans (hb.mono hB.size)
  clear hb
  clear y0 q0 q1
  have q0 := cell_of_row _ _ 0 _ _ _ xq
  have q1 := cell_of_row _ _ 1 _ _ _ xq
  go_wp2_with fail
  have hb : Below w22.heap.size w22 (w22.alloc (.cells #[.int .i64 0, .int .i64 2] 3)) := (by repeat (first | exact Below.refl _ _ | assumption | (refine belA ?_ _) | (refine belD ?_ _)))
  have y0 : (w22.alloc (.cells #[.int .i64 0, .int .i64 2] 3)).heap[w22.heap.size]? = some (.cells #[.int .i64 0, .int .i64 2] 3 (0, 0)) := (by (repeat (rw [alloc_get]; first | rw [if_pos (by first | (simp; done) | (simp; omega))] | rw [if_neg (by first | (simp; done) | (simp; omega))])); (try rfl))
  generalize (w22.alloc (.cells #[.int .i64 0, .int .i64 2] 3)) = w23 at *
  replace hx := (hb.block _ (Array.getElem?_eq_some_iff.1 hx).1).trans hx
  replace xq := (hb.block _ (Array.getElem?_eq_some_iff.1 xq).1).trans xq
  replace hg := hg.below hb
  replace hq0 := hq0.below hb
  replace hq1 := hq1.below hb
  replace hB := hB.trans (hb.mono hB.size)
  replace y0 : IsInts w23 (.slice (some ⟨w22.heap.size, 0, none⟩) 2 2) [0, 2] := ints_lit [0, 2] y0 (by decide) (by simp [I64])
  generalize w22.heap.size = pw230 at *
  clear hb
  refine ((Ints_c _ _ _ [0, 2] [0, 2] hq1 y0).mono fun e w' h => h.calm).mono ?_
  rw [decide_eq_true (rfl : ([0, 2] : List Int) = [0, 2])]
  rintro e w24 ⟨rfl, hb⟩
  replace hx := (hb.block _ (Array.getElem?_eq_some_iff.1 hx).1).trans hx
  replace xq := (hb.block _ (Array.getElem?_eq_some_iff.1 xq).1).trans xq
  replace hg := hg.below hb
  replace hq0 := hq0.below hb
  replace hq1 := hq1.below hb
  replace hB := hB.trans (hb.mono hB.size)
  clear hb
  clear y0 q0 q1
  have k0 := cell_of_row _ _ 0 _ _ _ hx
  have k1 := cell_of_row _ _ 1 _ _ _ hx
  have k2 := cell_of_row _ _ 2 _ _ _ hx
  have q0 := cell_of_row _ _ 0 _ _ _ xq
  have q1 := cell_of_row _ _ 1 _ _ _ xq
  go_wp2_with fail
  refine (Winner_c _ _ _ exG ⟨[1], [0, 2]⟩ hg ⟨_, _, rfl, hq0, hq1⟩ (by decide)).mono ?_
  rw [ex_r2]
  rintro e w25 ⟨rfl, hb⟩
  replace hx := (hb.block _ (Array.getElem?_eq_some_iff.1 hx).1).trans hx
  replace xq := (hb.block _ (Array.getElem?_eq_some_iff.1 xq).1).trans xq
  replace hg := hg.below hb
  replace hq0 := hq0.below hb
  replace hq1 := hq1.below hb
  replace hB := hB.trans (hb.mono hB.size)
  clear hb
  clear k0 k1 k2 q0 q1
  clear hq0 hq1 xq
  go_upto_region 7 with (fail)
  have k0 := cell_of_row _ _ 0 _ _ _ hx
  have k1 := cell_of_row _ _ 1 _ _ _ hx
  have k2 := cell_of_row _ _ 2 _ _ _ hx
  go_wp2_with fail
  have hb : Below w25.heap.size w25 (w25.alloc (.cells #[.int .i64 0] 3)) := (by repeat (first | exact Below.refl _ _ | assumption | (refine belA ?_ _) | (refine belD ?_ _)))
  have y0 : (w25.alloc (.cells #[.int .i64 0] 3)).heap[w25.heap.size]? = some (.cells #[.int .i64 0] 3 (0, 0)) := (by (repeat (rw [alloc_get]; first | rw [if_pos (by first | (simp; done) | (simp; omega))] | rw [if_neg (by first | (simp; done) | (simp; omega))])); (try rfl))
  generalize (w25.alloc (.cells #[.int .i64 0] 3)) = w26 at *
  replace hx := (hb.block _ (Array.getElem?_eq_some_iff.1 hx).1).trans hx
  replace hg := hg.below hb
  replace hB := hB.trans (hb.mono hB.size)
  replace y0 : IsInts w26 (.slice (some ⟨w25.heap.size, 0, none⟩) 1 1) [0] := ints_lit [0] y0 (by decide) (by simp [I64])
  generalize w25.heap.size = pw260 at *
  clear hb
  refine (Winner_c _ _ _ exG ⟨[], [0]⟩ hg ⟨_, _, rfl, ints_nil _, y0⟩ (by decide)).mono ?_
  rw [ex_r3]
  rintro e w27 ⟨rfl, hb⟩
  replace hx := (hb.block _ (Array.getElem?_eq_some_iff.1 hx).1).trans hx
  replace hg := hg.below hb
  replace hB := hB.trans (hb.mono hB.size)
  clear hb
  clear y0 k0 k1 k2
  have k0 := cell_of_row _ _ 0 _ _ _ hx
  have k1 := cell_of_row _ _ 1 _ _ _ hx
  have k2 := cell_of_row _ _ 2 _ _ _ hx
  go_wp2_with fail
  refine (Play_c _ _ _ _ exG [] [] 0 hg (ints_nil _) (ints_nil _)).mono ?_
  rw [ex_n]
  rintro e w28 ⟨vp, rfl, hp, hb⟩
  obtain ⟨d0, e0, d1, e1, rfl, -⟩ : ∃ a0 c0 a1 c1, vp = .agg #[.slice a0 0 c0, .slice a1 0 c1] ∧ True := by
    obtain ⟨a, b, c, d, h, -, -⟩ := hp.shape
    exact ⟨a, b, c, d, h, trivial⟩
  replace hx := (hb.block _ (Array.getElem?_eq_some_iff.1 hx).1).trans hx
  replace hg := hg.below hb
  replace hB := hB.trans (hb.mono hB.size)
  clear hb
  have hfd : Sem.run Try.prog (Instr.field 28 (.agg #[.slice d0 0 e0, .slice d1 0 e1]) 1) w28 = .ok (.slice d1 0 e1) w28 := rfl
  go_wp2_with fail
  go_ret
  exact ⟨rfl, hB⟩

end Go.Proofs.Ytkbiopjinegckaa
