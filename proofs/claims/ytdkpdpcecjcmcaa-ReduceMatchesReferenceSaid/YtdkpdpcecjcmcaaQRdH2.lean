/- What head computes: true. -/
import Derived.Test.YtdkpdpcecjcmcaaQRdH1
import Derived.Test.YtdkpdpcecjcmcaaQRd19
import Derived.Test.YtdkpdpcecjcmcaaQRd22
import Derived.Test.YtdkpdpcecjcmcaaQRd27
namespace Go.Proofs.Ytdkpdpcecjcmcaa
open Go.RowKit

theorem row_one {w : World} {p : Option Addr} {n q : Nat} {l : List (List Int)} (h : IsRows w (.slice p n q) l) {x : Int} {j : Nat} (hj : j < l.length) (hl : l.getD j [] = [x]) : ∃ b o b' o' c', p = some ⟨b, o, none⟩ ∧ w.cell? ⟨b, o + j, none⟩ = some (.slice (some ⟨b', o', none⟩) 1 c') ∧ w.cell? ⟨b', o', none⟩ = some (.int .i64 x) := by
  obtain ⟨a, c, b, o, V, e, h1, h2, h3⟩ := h.data
  obtain ⟨rfl, rfl, rfl⟩ : p = a ∧ n = l.length ∧ q = c := by simpa using e
  obtain ⟨h4, h5⟩ := h3 j hj
  rw [hl] at h5
  obtain ⟨a', c', e'⟩ := h5.shp
  rw [e'] at h4 h5
  obtain ⟨b', o', h6, -, h7⟩ := h5.dat
  obtain rfl := h6 (by simp)
  exact ⟨b, o, b', o', c', h1 (by omega), h4, by have := h7 0 (by simp); simpa using this⟩

set_option maxRecDepth 100000 in
set_option maxHeartbeats 8000000 in
theorem head_c (w : World) : Calls Try.prog 10 #[] w (Calm (.bool true) w) := by
  go_enter Try.func10, Try.ntmps10
  go_wp2_with fail
  refine (Example_c _).mono ?_
  rintro e w1 ⟨vg, rfl, hg, hB⟩
  obtain ⟨p2, q2, p3, q3, rfl⟩ : ∃ p2 k2 p3 k3, _ = Value.agg #[.int .i64 2, .int .i64 0, .slice p2 4 k2, .slice p3 4 k3] := hg.shape
  go_upto_region 2 with (fail)
  obtain ⟨hx, hb, hB⟩ := box_new hB hB.size #[.int .i64 2, .int .i64 0, .slice p2 4 q2, .slice p3 4 q3] 24
  replace hg := hg.below hb
  generalize w1.alloc (.cells #[.int .i64 2, .int .i64 0, .slice p2 4 q2, .slice p3 4 q3] 24) = w2 at *
  generalize w1.heap.size = zhx at *
  clear hb
  have k0 := cell_of_row _ _ 0 _ _ _ hx
  have k1 := cell_of_row _ _ 1 _ _ _ hx
  have k2 := cell_of_row _ _ 2 _ _ _ hx
  have k3 := cell_of_row _ _ 3 _ _ _ hx
  go_wp2_with fail
  refine (Trim_c _ _ exA hg).mono ?_
  rw [ex_trim]
  rintro e w3 ⟨vht, rfl, hK, hb⟩
  have ht := hK _ (Only.refl _ _)
  replace hx := (hb.block _ (Array.getElem?_eq_some_iff.1 hx).1).trans hx
  replace hg := hg.below hb
  replace hB := hB.trans (hb.mono hB.size)
  clear hb hK
  clear k0 k1 k2 k3
  obtain ⟨a2, b2, a3, b3, rfl⟩ : ∃ p2 k2 p3 k3, _ = Value.agg #[.int .i64 2, .int .i64 0, .slice p2 3 k2, .slice p3 3 k3] := ht.shape
  go_upto_region 3 with (fail)
  obtain ⟨xt, hb, hB⟩ := box_new hB hB.size #[.int .i64 2, .int .i64 0, .slice a2 3 b2, .slice a3 3 b3] 24
  replace hx := (hb.block _ (Array.getElem?_eq_some_iff.1 hx).1).trans hx
  replace hg := hg.below hb
  replace ht := ht.below hb
  generalize w3.alloc (.cells #[.int .i64 2, .int .i64 0, .slice a2 3 b2, .slice a3 3 b3] 24) = w4 at *
  generalize w3.heap.size = zxt at *
  clear hb
  go_upto_region 4 with (fail)
  have hb : Below w4.heap.size w4 (((((((((w4.alloc (.cells #[.int .i64 1, .int .i64 2] 3)).alloc (.cells #[.int .i64 0, .int .i64 1] 3)).alloc (.cells #[.int .i64 1, .int .i64 2] 3)).alloc (.cells #[.slice (some ⟨w4.heap.size, 0, none⟩) 2 2, .slice (some ⟨w4.heap.size + 1, 0, none⟩) 2 2, .slice (some ⟨w4.heap.size + 1 + 1, 0, none⟩) 2 2] 29)).alloc (.cells #[.int .i64 4, .int .i64 7] 3)).alloc (.cells #[.int .i64 6, .int .i64 5] 3)).alloc (.cells #[.int .i64 4, .int .i64 7] 3)).alloc (.cells #[.slice (some ⟨w4.heap.size + 1 + 1 + 1 + 1, 0, none⟩) 2 2, .slice (some ⟨w4.heap.size + 1 + 1 + 1 + 1 + 1, 0, none⟩) 2 2, .slice (some ⟨w4.heap.size + 1 + 1 + 1 + 1 + 1 + 1, 0, none⟩) 2 2] 29)).alloc (.cells #[.int .i64 2, .int .i64 0, .slice (some ⟨w4.heap.size + 1 + 1 + 1, 0, none⟩) 3 3, .slice (some ⟨w4.heap.size + 1 + 1 + 1 + 1 + 1 + 1 + 1, 0, none⟩) 3 3] 24)) := (by repeat (first | exact Below.refl _ _ | assumption | (refine belA ?_ _) | (refine belD ?_ _)))
  have y0 : (((((((((w4.alloc (.cells #[.int .i64 1, .int .i64 2] 3)).alloc (.cells #[.int .i64 0, .int .i64 1] 3)).alloc (.cells #[.int .i64 1, .int .i64 2] 3)).alloc (.cells #[.slice (some ⟨w4.heap.size, 0, none⟩) 2 2, .slice (some ⟨w4.heap.size + 1, 0, none⟩) 2 2, .slice (some ⟨w4.heap.size + 1 + 1, 0, none⟩) 2 2] 29)).alloc (.cells #[.int .i64 4, .int .i64 7] 3)).alloc (.cells #[.int .i64 6, .int .i64 5] 3)).alloc (.cells #[.int .i64 4, .int .i64 7] 3)).alloc (.cells #[.slice (some ⟨w4.heap.size + 1 + 1 + 1 + 1, 0, none⟩) 2 2, .slice (some ⟨w4.heap.size + 1 + 1 + 1 + 1 + 1, 0, none⟩) 2 2, .slice (some ⟨w4.heap.size + 1 + 1 + 1 + 1 + 1 + 1, 0, none⟩) 2 2] 29)).alloc (.cells #[.int .i64 2, .int .i64 0, .slice (some ⟨w4.heap.size + 1 + 1 + 1, 0, none⟩) 3 3, .slice (some ⟨w4.heap.size + 1 + 1 + 1 + 1 + 1 + 1 + 1, 0, none⟩) 3 3] 24)).heap[w4.heap.size]? = some (.cells #[.int .i64 1, .int .i64 2] 3 (0, 0)) := (by (repeat (rw [alloc_get]; first | rw [if_pos (by first | (simp; done) | (simp; omega))] | rw [if_neg (by first | (simp; done) | (simp; omega))])); (try rfl))
  have y1 : (((((((((w4.alloc (.cells #[.int .i64 1, .int .i64 2] 3)).alloc (.cells #[.int .i64 0, .int .i64 1] 3)).alloc (.cells #[.int .i64 1, .int .i64 2] 3)).alloc (.cells #[.slice (some ⟨w4.heap.size, 0, none⟩) 2 2, .slice (some ⟨w4.heap.size + 1, 0, none⟩) 2 2, .slice (some ⟨w4.heap.size + 1 + 1, 0, none⟩) 2 2] 29)).alloc (.cells #[.int .i64 4, .int .i64 7] 3)).alloc (.cells #[.int .i64 6, .int .i64 5] 3)).alloc (.cells #[.int .i64 4, .int .i64 7] 3)).alloc (.cells #[.slice (some ⟨w4.heap.size + 1 + 1 + 1 + 1, 0, none⟩) 2 2, .slice (some ⟨w4.heap.size + 1 + 1 + 1 + 1 + 1, 0, none⟩) 2 2, .slice (some ⟨w4.heap.size + 1 + 1 + 1 + 1 + 1 + 1, 0, none⟩) 2 2] 29)).alloc (.cells #[.int .i64 2, .int .i64 0, .slice (some ⟨w4.heap.size + 1 + 1 + 1, 0, none⟩) 3 3, .slice (some ⟨w4.heap.size + 1 + 1 + 1 + 1 + 1 + 1 + 1, 0, none⟩) 3 3] 24)).heap[w4.heap.size + 1]? = some (.cells #[.int .i64 0, .int .i64 1] 3 (0, 0)) := (by (repeat (rw [alloc_get]; first | rw [if_pos (by first | (simp; done) | (simp; omega))] | rw [if_neg (by first | (simp; done) | (simp; omega))])); (try rfl))
  have y2 : (((((((((w4.alloc (.cells #[.int .i64 1, .int .i64 2] 3)).alloc (.cells #[.int .i64 0, .int .i64 1] 3)).alloc (.cells #[.int .i64 1, .int .i64 2] 3)).alloc (.cells #[.slice (some ⟨w4.heap.size, 0, none⟩) 2 2, .slice (some ⟨w4.heap.size + 1, 0, none⟩) 2 2, .slice (some ⟨w4.heap.size + 1 + 1, 0, none⟩) 2 2] 29)).alloc (.cells #[.int .i64 4, .int .i64 7] 3)).alloc (.cells #[.int .i64 6, .int .i64 5] 3)).alloc (.cells #[.int .i64 4, .int .i64 7] 3)).alloc (.cells #[.slice (some ⟨w4.heap.size + 1 + 1 + 1 + 1, 0, none⟩) 2 2, .slice (some ⟨w4.heap.size + 1 + 1 + 1 + 1 + 1, 0, none⟩) 2 2, .slice (some ⟨w4.heap.size + 1 + 1 + 1 + 1 + 1 + 1, 0, none⟩) 2 2] 29)).alloc (.cells #[.int .i64 2, .int .i64 0, .slice (some ⟨w4.heap.size + 1 + 1 + 1, 0, none⟩) 3 3, .slice (some ⟨w4.heap.size + 1 + 1 + 1 + 1 + 1 + 1 + 1, 0, none⟩) 3 3] 24)).heap[w4.heap.size + 1 + 1]? = some (.cells #[.int .i64 1, .int .i64 2] 3 (0, 0)) := (by (repeat (rw [alloc_get]; first | rw [if_pos (by first | (simp; done) | (simp; omega))] | rw [if_neg (by first | (simp; done) | (simp; omega))])); (try rfl))
  have y3 : (((((((((w4.alloc (.cells #[.int .i64 1, .int .i64 2] 3)).alloc (.cells #[.int .i64 0, .int .i64 1] 3)).alloc (.cells #[.int .i64 1, .int .i64 2] 3)).alloc (.cells #[.slice (some ⟨w4.heap.size, 0, none⟩) 2 2, .slice (some ⟨w4.heap.size + 1, 0, none⟩) 2 2, .slice (some ⟨w4.heap.size + 1 + 1, 0, none⟩) 2 2] 29)).alloc (.cells #[.int .i64 4, .int .i64 7] 3)).alloc (.cells #[.int .i64 6, .int .i64 5] 3)).alloc (.cells #[.int .i64 4, .int .i64 7] 3)).alloc (.cells #[.slice (some ⟨w4.heap.size + 1 + 1 + 1 + 1, 0, none⟩) 2 2, .slice (some ⟨w4.heap.size + 1 + 1 + 1 + 1 + 1, 0, none⟩) 2 2, .slice (some ⟨w4.heap.size + 1 + 1 + 1 + 1 + 1 + 1, 0, none⟩) 2 2] 29)).alloc (.cells #[.int .i64 2, .int .i64 0, .slice (some ⟨w4.heap.size + 1 + 1 + 1, 0, none⟩) 3 3, .slice (some ⟨w4.heap.size + 1 + 1 + 1 + 1 + 1 + 1 + 1, 0, none⟩) 3 3] 24)).heap[w4.heap.size + 1 + 1 + 1]? = some (.cells #[.slice (some ⟨w4.heap.size, 0, none⟩) 2 2, .slice (some ⟨w4.heap.size + 1, 0, none⟩) 2 2, .slice (some ⟨w4.heap.size + 1 + 1, 0, none⟩) 2 2] 29 (0, 0)) := (by (repeat (rw [alloc_get]; first | rw [if_pos (by first | (simp; done) | (simp; omega))] | rw [if_neg (by first | (simp; done) | (simp; omega))])); (try rfl))
  have y4 : (((((((((w4.alloc (.cells #[.int .i64 1, .int .i64 2] 3)).alloc (.cells #[.int .i64 0, .int .i64 1] 3)).alloc (.cells #[.int .i64 1, .int .i64 2] 3)).alloc (.cells #[.slice (some ⟨w4.heap.size, 0, none⟩) 2 2, .slice (some ⟨w4.heap.size + 1, 0, none⟩) 2 2, .slice (some ⟨w4.heap.size + 1 + 1, 0, none⟩) 2 2] 29)).alloc (.cells #[.int .i64 4, .int .i64 7] 3)).alloc (.cells #[.int .i64 6, .int .i64 5] 3)).alloc (.cells #[.int .i64 4, .int .i64 7] 3)).alloc (.cells #[.slice (some ⟨w4.heap.size + 1 + 1 + 1 + 1, 0, none⟩) 2 2, .slice (some ⟨w4.heap.size + 1 + 1 + 1 + 1 + 1, 0, none⟩) 2 2, .slice (some ⟨w4.heap.size + 1 + 1 + 1 + 1 + 1 + 1, 0, none⟩) 2 2] 29)).alloc (.cells #[.int .i64 2, .int .i64 0, .slice (some ⟨w4.heap.size + 1 + 1 + 1, 0, none⟩) 3 3, .slice (some ⟨w4.heap.size + 1 + 1 + 1 + 1 + 1 + 1 + 1, 0, none⟩) 3 3] 24)).heap[w4.heap.size + 1 + 1 + 1 + 1]? = some (.cells #[.int .i64 4, .int .i64 7] 3 (0, 0)) := (by (repeat (rw [alloc_get]; first | rw [if_pos (by first | (simp; done) | (simp; omega))] | rw [if_neg (by first | (simp; done) | (simp; omega))])); (try rfl))
  have y5 : (((((((((w4.alloc (.cells #[.int .i64 1, .int .i64 2] 3)).alloc (.cells #[.int .i64 0, .int .i64 1] 3)).alloc (.cells #[.int .i64 1, .int .i64 2] 3)).alloc (.cells #[.slice (some ⟨w4.heap.size, 0, none⟩) 2 2, .slice (some ⟨w4.heap.size + 1, 0, none⟩) 2 2, .slice (some ⟨w4.heap.size + 1 + 1, 0, none⟩) 2 2] 29)).alloc (.cells #[.int .i64 4, .int .i64 7] 3)).alloc (.cells #[.int .i64 6, .int .i64 5] 3)).alloc (.cells #[.int .i64 4, .int .i64 7] 3)).alloc (.cells #[.slice (some ⟨w4.heap.size + 1 + 1 + 1 + 1, 0, none⟩) 2 2, .slice (some ⟨w4.heap.size + 1 + 1 + 1 + 1 + 1, 0, none⟩) 2 2, .slice (some ⟨w4.heap.size + 1 + 1 + 1 + 1 + 1 + 1, 0, none⟩) 2 2] 29)).alloc (.cells #[.int .i64 2, .int .i64 0, .slice (some ⟨w4.heap.size + 1 + 1 + 1, 0, none⟩) 3 3, .slice (some ⟨w4.heap.size + 1 + 1 + 1 + 1 + 1 + 1 + 1, 0, none⟩) 3 3] 24)).heap[w4.heap.size + 1 + 1 + 1 + 1 + 1]? = some (.cells #[.int .i64 6, .int .i64 5] 3 (0, 0)) := (by (repeat (rw [alloc_get]; first | rw [if_pos (by first | (simp; done) | (simp; omega))] | rw [if_neg (by first | (simp; done) | (simp; omega))])); (try rfl))
  have y6 : (((((((((w4.alloc (.cells #[.int .i64 1, .int .i64 2] 3)).alloc (.cells #[.int .i64 0, .int .i64 1] 3)).alloc (.cells #[.int .i64 1, .int .i64 2] 3)).alloc (.cells #[.slice (some ⟨w4.heap.size, 0, none⟩) 2 2, .slice (some ⟨w4.heap.size + 1, 0, none⟩) 2 2, .slice (some ⟨w4.heap.size + 1 + 1, 0, none⟩) 2 2] 29)).alloc (.cells #[.int .i64 4, .int .i64 7] 3)).alloc (.cells #[.int .i64 6, .int .i64 5] 3)).alloc (.cells #[.int .i64 4, .int .i64 7] 3)).alloc (.cells #[.slice (some ⟨w4.heap.size + 1 + 1 + 1 + 1, 0, none⟩) 2 2, .slice (some ⟨w4.heap.size + 1 + 1 + 1 + 1 + 1, 0, none⟩) 2 2, .slice (some ⟨w4.heap.size + 1 + 1 + 1 + 1 + 1 + 1, 0, none⟩) 2 2] 29)).alloc (.cells #[.int .i64 2, .int .i64 0, .slice (some ⟨w4.heap.size + 1 + 1 + 1, 0, none⟩) 3 3, .slice (some ⟨w4.heap.size + 1 + 1 + 1 + 1 + 1 + 1 + 1, 0, none⟩) 3 3] 24)).heap[w4.heap.size + 1 + 1 + 1 + 1 + 1 + 1]? = some (.cells #[.int .i64 4, .int .i64 7] 3 (0, 0)) := (by (repeat (rw [alloc_get]; first | rw [if_pos (by first | (simp; done) | (simp; omega))] | rw [if_neg (by first | (simp; done) | (simp; omega))])); (try rfl))
  have y7 : (((((((((w4.alloc (.cells #[.int .i64 1, .int .i64 2] 3)).alloc (.cells #[.int .i64 0, .int .i64 1] 3)).alloc (.cells #[.int .i64 1, .int .i64 2] 3)).alloc (.cells #[.slice (some ⟨w4.heap.size, 0, none⟩) 2 2, .slice (some ⟨w4.heap.size + 1, 0, none⟩) 2 2, .slice (some ⟨w4.heap.size + 1 + 1, 0, none⟩) 2 2] 29)).alloc (.cells #[.int .i64 4, .int .i64 7] 3)).alloc (.cells #[.int .i64 6, .int .i64 5] 3)).alloc (.cells #[.int .i64 4, .int .i64 7] 3)).alloc (.cells #[.slice (some ⟨w4.heap.size + 1 + 1 + 1 + 1, 0, none⟩) 2 2, .slice (some ⟨w4.heap.size + 1 + 1 + 1 + 1 + 1, 0, none⟩) 2 2, .slice (some ⟨w4.heap.size + 1 + 1 + 1 + 1 + 1 + 1, 0, none⟩) 2 2] 29)).alloc (.cells #[.int .i64 2, .int .i64 0, .slice (some ⟨w4.heap.size + 1 + 1 + 1, 0, none⟩) 3 3, .slice (some ⟨w4.heap.size + 1 + 1 + 1 + 1 + 1 + 1 + 1, 0, none⟩) 3 3] 24)).heap[w4.heap.size + 1 + 1 + 1 + 1 + 1 + 1 + 1]? = some (.cells #[.slice (some ⟨w4.heap.size + 1 + 1 + 1 + 1, 0, none⟩) 2 2, .slice (some ⟨w4.heap.size + 1 + 1 + 1 + 1 + 1, 0, none⟩) 2 2, .slice (some ⟨w4.heap.size + 1 + 1 + 1 + 1 + 1 + 1, 0, none⟩) 2 2] 29 (0, 0)) := (by (repeat (rw [alloc_get]; first | rw [if_pos (by first | (simp; done) | (simp; omega))] | rw [if_neg (by first | (simp; done) | (simp; omega))])); (try rfl))
  have y8 : (((((((((w4.alloc (.cells #[.int .i64 1, .int .i64 2] 3)).alloc (.cells #[.int .i64 0, .int .i64 1] 3)).alloc (.cells #[.int .i64 1, .int .i64 2] 3)).alloc (.cells #[.slice (some ⟨w4.heap.size, 0, none⟩) 2 2, .slice (some ⟨w4.heap.size + 1, 0, none⟩) 2 2, .slice (some ⟨w4.heap.size + 1 + 1, 0, none⟩) 2 2] 29)).alloc (.cells #[.int .i64 4, .int .i64 7] 3)).alloc (.cells #[.int .i64 6, .int .i64 5] 3)).alloc (.cells #[.int .i64 4, .int .i64 7] 3)).alloc (.cells #[.slice (some ⟨w4.heap.size + 1 + 1 + 1 + 1, 0, none⟩) 2 2, .slice (some ⟨w4.heap.size + 1 + 1 + 1 + 1 + 1, 0, none⟩) 2 2, .slice (some ⟨w4.heap.size + 1 + 1 + 1 + 1 + 1 + 1, 0, none⟩) 2 2] 29)).alloc (.cells #[.int .i64 2, .int .i64 0, .slice (some ⟨w4.heap.size + 1 + 1 + 1, 0, none⟩) 3 3, .slice (some ⟨w4.heap.size + 1 + 1 + 1 + 1 + 1 + 1 + 1, 0, none⟩) 3 3] 24)).heap[w4.heap.size + 1 + 1 + 1 + 1 + 1 + 1 + 1 + 1]? = some (.cells #[.int .i64 2, .int .i64 0, .slice (some ⟨w4.heap.size + 1 + 1 + 1, 0, none⟩) 3 3, .slice (some ⟨w4.heap.size + 1 + 1 + 1 + 1 + 1 + 1 + 1, 0, none⟩) 3 3] 24 (0, 0)) := (by (repeat (rw [alloc_get]; first | rw [if_pos (by first | (simp; done) | (simp; omega))] | rw [if_neg (by first | (simp; done) | (simp; omega))])); (try rfl))
  generalize (((((((((w4.alloc (.cells #[.int .i64 1, .int .i64 2] 3)).alloc (.cells #[.int .i64 0, .int .i64 1] 3)).alloc (.cells #[.int .i64 1, .int .i64 2] 3)).alloc (.cells #[.slice (some ⟨w4.heap.size, 0, none⟩) 2 2, .slice (some ⟨w4.heap.size + 1, 0, none⟩) 2 2, .slice (some ⟨w4.heap.size + 1 + 1, 0, none⟩) 2 2] 29)).alloc (.cells #[.int .i64 4, .int .i64 7] 3)).alloc (.cells #[.int .i64 6, .int .i64 5] 3)).alloc (.cells #[.int .i64 4, .int .i64 7] 3)).alloc (.cells #[.slice (some ⟨w4.heap.size + 1 + 1 + 1 + 1, 0, none⟩) 2 2, .slice (some ⟨w4.heap.size + 1 + 1 + 1 + 1 + 1, 0, none⟩) 2 2, .slice (some ⟨w4.heap.size + 1 + 1 + 1 + 1 + 1 + 1, 0, none⟩) 2 2] 29)).alloc (.cells #[.int .i64 2, .int .i64 0, .slice (some ⟨w4.heap.size + 1 + 1 + 1, 0, none⟩) 3 3, .slice (some ⟨w4.heap.size + 1 + 1 + 1 + 1 + 1 + 1 + 1, 0, none⟩) 3 3] 24)) = w5 at *
  replace hx := (hb.block _ (Array.getElem?_eq_some_iff.1 hx).1).trans hx
  replace xt := (hb.block _ (Array.getElem?_eq_some_iff.1 xt).1).trans xt
  replace hg := hg.below hb
  replace ht := ht.below hb
  replace hB := hB.trans (hb.mono hB.size)
  have rn0 := ints_lit [1, 2] y0 (by decide) (by simp [I64])
  have rp0 := ints_lit [4, 7] y4 (by decide) (by simp [I64])
  have rn1 := ints_lit [0, 1] y1 (by decide) (by simp [I64])
  have rp1 := ints_lit [6, 5] y5 (by decide) (by simp [I64])
  have rn2 := ints_lit [1, 2] y2 (by decide) (by simp [I64])
  have rp2 := ints_lit [4, 7] y6 (by decide) (by simp [I64])
  have ra : IsRows w5 (.slice (some ⟨w4.heap.size + 1 + 1 + 1, 0, none⟩) 3 3) [[1, 2], [0, 1], [1, 2]] := rows_lit [[1, 2], [0, 1], [1, 2]] [.slice (some ⟨w4.heap.size, 0, none⟩) 2 2, .slice (some ⟨w4.heap.size + 1, 0, none⟩) 2 2, .slice (some ⟨w4.heap.size + 1 + 1, 0, none⟩) 2 2] y3 rfl (by decide) fun j hj => match j, hj with
    | 0, _ => rn0
    | 1, _ => rn1
    | 2, _ => rn2
    | q + 3, h => absurd h (by simp)
  have rb : IsRows w5 (.slice (some ⟨w4.heap.size + 1 + 1 + 1 + 1 + 1 + 1 + 1, 0, none⟩) 3 3) [[4, 7], [6, 5], [4, 7]] := rows_lit [[4, 7], [6, 5], [4, 7]] [.slice (some ⟨w4.heap.size + 1 + 1 + 1 + 1, 0, none⟩) 2 2, .slice (some ⟨w4.heap.size + 1 + 1 + 1 + 1 + 1, 0, none⟩) 2 2, .slice (some ⟨w4.heap.size + 1 + 1 + 1 + 1 + 1 + 1, 0, none⟩) 2 2] y7 rfl (by decide) fun j hj => match j, hj with
    | 0, _ => rp0
    | 1, _ => rp1
    | 2, _ => rp2
    | q + 3, h => absurd h (by simp)
  have hw : IsAuto w5 (.agg #[.int .i64 2, .int .i64 0, .slice (some ⟨w4.heap.size + 1 + 1 + 1, 0, none⟩) 3 3, .slice (some ⟨w4.heap.size + 1 + 1 + 1 + 1 + 1 + 1 + 1, 0, none⟩) 3 3]) ⟨2, 0, [[1, 2], [0, 1], [1, 2]], [[4, 7], [6, 5], [4, 7]]⟩ := ⟨_, _, rfl, ⟨by simp [I64], by simp [I64]⟩, ra, rb⟩
  clear ra rb rn0 rp0 rn1 rp1 rn2 rp2
  have xw := y8
  clear y0 y1 y2 y3 y4 y5 y6 y7 y8
  generalize w4.heap.size + 1 + 1 + 1 + 1 + 1 + 1 + 1 + 1 = ghw8 at *
  generalize w4.heap.size + 1 + 1 + 1 + 1 + 1 + 1 + 1 = ghw7 at *
  generalize w4.heap.size + 1 + 1 + 1 + 1 + 1 + 1 = ghw6 at *
  generalize w4.heap.size + 1 + 1 + 1 + 1 + 1 = ghw5 at *
  generalize w4.heap.size + 1 + 1 + 1 + 1 = ghw4 at *
  generalize w4.heap.size + 1 + 1 + 1 = ghw3 at *
  generalize w4.heap.size + 1 + 1 = ghw2 at *
  generalize w4.heap.size + 1 = ghw1 at *
  generalize w4.heap.size = ghw0 at *
  clear hb
  go_upto_region 5 with (fail)
  have hb : Below w5.heap.size w5 (((((w5.alloc (.cells #[.int .i64 0] 3)).alloc (.cells #[.slice (some ⟨w5.heap.size, 0, none⟩) 1 1] 29)).alloc (.cells #[.int .i64 7] 3)).alloc (.cells #[.slice (some ⟨w5.heap.size + 1 + 1, 0, none⟩) 1 1] 29)).alloc (.cells #[.int .i64 1, .int .i64 0, .slice (some ⟨w5.heap.size + 1, 0, none⟩) 1 1, .slice (some ⟨w5.heap.size + 1 + 1 + 1, 0, none⟩) 1 1] 24)) := (by repeat (first | exact Below.refl _ _ | assumption | (refine belA ?_ _) | (refine belD ?_ _)))
  have y0 : (((((w5.alloc (.cells #[.int .i64 0] 3)).alloc (.cells #[.slice (some ⟨w5.heap.size, 0, none⟩) 1 1] 29)).alloc (.cells #[.int .i64 7] 3)).alloc (.cells #[.slice (some ⟨w5.heap.size + 1 + 1, 0, none⟩) 1 1] 29)).alloc (.cells #[.int .i64 1, .int .i64 0, .slice (some ⟨w5.heap.size + 1, 0, none⟩) 1 1, .slice (some ⟨w5.heap.size + 1 + 1 + 1, 0, none⟩) 1 1] 24)).heap[w5.heap.size]? = some (.cells #[.int .i64 0] 3 (0, 0)) := (by (repeat (rw [alloc_get]; first | rw [if_pos (by first | (simp; done) | (simp; omega))] | rw [if_neg (by first | (simp; done) | (simp; omega))])); (try rfl))
  have y1 : (((((w5.alloc (.cells #[.int .i64 0] 3)).alloc (.cells #[.slice (some ⟨w5.heap.size, 0, none⟩) 1 1] 29)).alloc (.cells #[.int .i64 7] 3)).alloc (.cells #[.slice (some ⟨w5.heap.size + 1 + 1, 0, none⟩) 1 1] 29)).alloc (.cells #[.int .i64 1, .int .i64 0, .slice (some ⟨w5.heap.size + 1, 0, none⟩) 1 1, .slice (some ⟨w5.heap.size + 1 + 1 + 1, 0, none⟩) 1 1] 24)).heap[w5.heap.size + 1]? = some (.cells #[.slice (some ⟨w5.heap.size, 0, none⟩) 1 1] 29 (0, 0)) := (by (repeat (rw [alloc_get]; first | rw [if_pos (by first | (simp; done) | (simp; omega))] | rw [if_neg (by first | (simp; done) | (simp; omega))])); (try rfl))
  have y2 : (((((w5.alloc (.cells #[.int .i64 0] 3)).alloc (.cells #[.slice (some ⟨w5.heap.size, 0, none⟩) 1 1] 29)).alloc (.cells #[.int .i64 7] 3)).alloc (.cells #[.slice (some ⟨w5.heap.size + 1 + 1, 0, none⟩) 1 1] 29)).alloc (.cells #[.int .i64 1, .int .i64 0, .slice (some ⟨w5.heap.size + 1, 0, none⟩) 1 1, .slice (some ⟨w5.heap.size + 1 + 1 + 1, 0, none⟩) 1 1] 24)).heap[w5.heap.size + 1 + 1]? = some (.cells #[.int .i64 7] 3 (0, 0)) := (by (repeat (rw [alloc_get]; first | rw [if_pos (by first | (simp; done) | (simp; omega))] | rw [if_neg (by first | (simp; done) | (simp; omega))])); (try rfl))
  have y3 : (((((w5.alloc (.cells #[.int .i64 0] 3)).alloc (.cells #[.slice (some ⟨w5.heap.size, 0, none⟩) 1 1] 29)).alloc (.cells #[.int .i64 7] 3)).alloc (.cells #[.slice (some ⟨w5.heap.size + 1 + 1, 0, none⟩) 1 1] 29)).alloc (.cells #[.int .i64 1, .int .i64 0, .slice (some ⟨w5.heap.size + 1, 0, none⟩) 1 1, .slice (some ⟨w5.heap.size + 1 + 1 + 1, 0, none⟩) 1 1] 24)).heap[w5.heap.size + 1 + 1 + 1]? = some (.cells #[.slice (some ⟨w5.heap.size + 1 + 1, 0, none⟩) 1 1] 29 (0, 0)) := (by (repeat (rw [alloc_get]; first | rw [if_pos (by first | (simp; done) | (simp; omega))] | rw [if_neg (by first | (simp; done) | (simp; omega))])); (try rfl))
  have y4 : (((((w5.alloc (.cells #[.int .i64 0] 3)).alloc (.cells #[.slice (some ⟨w5.heap.size, 0, none⟩) 1 1] 29)).alloc (.cells #[.int .i64 7] 3)).alloc (.cells #[.slice (some ⟨w5.heap.size + 1 + 1, 0, none⟩) 1 1] 29)).alloc (.cells #[.int .i64 1, .int .i64 0, .slice (some ⟨w5.heap.size + 1, 0, none⟩) 1 1, .slice (some ⟨w5.heap.size + 1 + 1 + 1, 0, none⟩) 1 1] 24)).heap[w5.heap.size + 1 + 1 + 1 + 1]? = some (.cells #[.int .i64 1, .int .i64 0, .slice (some ⟨w5.heap.size + 1, 0, none⟩) 1 1, .slice (some ⟨w5.heap.size + 1 + 1 + 1, 0, none⟩) 1 1] 24 (0, 0)) := (by (repeat (rw [alloc_get]; first | rw [if_pos (by first | (simp; done) | (simp; omega))] | rw [if_neg (by first | (simp; done) | (simp; omega))])); (try rfl))
  generalize (((((w5.alloc (.cells #[.int .i64 0] 3)).alloc (.cells #[.slice (some ⟨w5.heap.size, 0, none⟩) 1 1] 29)).alloc (.cells #[.int .i64 7] 3)).alloc (.cells #[.slice (some ⟨w5.heap.size + 1 + 1, 0, none⟩) 1 1] 29)).alloc (.cells #[.int .i64 1, .int .i64 0, .slice (some ⟨w5.heap.size + 1, 0, none⟩) 1 1, .slice (some ⟨w5.heap.size + 1 + 1 + 1, 0, none⟩) 1 1] 24)) = w6 at *
  replace hx := (hb.block _ (Array.getElem?_eq_some_iff.1 hx).1).trans hx
  replace xt := (hb.block _ (Array.getElem?_eq_some_iff.1 xt).1).trans xt
  replace xw := (hb.block _ (Array.getElem?_eq_some_iff.1 xw).1).trans xw
  replace hg := hg.below hb
  replace ht := ht.below hb
  replace hw := hw.below hb
  replace hB := hB.trans (hb.mono hB.size)
  have rn0 := ints_lit [0] y0 (by decide) (by simp [I64])
  have rp0 := ints_lit [7] y2 (by decide) (by simp [I64])
  have ra : IsRows w6 (.slice (some ⟨w5.heap.size + 1, 0, none⟩) 1 1) [[0]] := rows_lit [[0]] [.slice (some ⟨w5.heap.size, 0, none⟩) 1 1] y1 rfl (by decide) fun j hj => match j, hj with
    | 0, _ => rn0
    | q + 1, h => absurd h (by simp)
  have rb : IsRows w6 (.slice (some ⟨w5.heap.size + 1 + 1 + 1, 0, none⟩) 1 1) [[7]] := rows_lit [[7]] [.slice (some ⟨w5.heap.size + 1 + 1, 0, none⟩) 1 1] y3 rfl (by decide) fun j hj => match j, hj with
    | 0, _ => rp0
    | q + 1, h => absurd h (by simp)
  have ho : IsAuto w6 (.agg #[.int .i64 1, .int .i64 0, .slice (some ⟨w5.heap.size + 1, 0, none⟩) 1 1, .slice (some ⟨w5.heap.size + 1 + 1 + 1, 0, none⟩) 1 1]) ⟨1, 0, [[0]], [[7]]⟩ := ⟨_, _, rfl, ⟨by simp [I64], by simp [I64]⟩, ra, rb⟩
  clear ra rb rn0 rp0
  have xo := y4
  clear y0 y1 y2 y3 y4
  generalize w5.heap.size + 1 + 1 + 1 + 1 = gho4 at *
  generalize w5.heap.size + 1 + 1 + 1 = gho3 at *
  generalize w5.heap.size + 1 + 1 = gho2 at *
  generalize w5.heap.size + 1 = gho1 at *
  generalize w5.heap.size = gho0 at *
  clear hb
  go_upto_region 6 with (fail)
  have hb : Below w6.heap.size w6 (((((((w6.alloc (.cells #[.int .i64 1] 3)).alloc (.cells #[.int .i64 0] 3)).alloc (.cells #[.slice (some ⟨w6.heap.size, 0, none⟩) 1 1, .slice (some ⟨w6.heap.size + 1, 0, none⟩) 1 1] 29)).alloc (.cells #[.int .i64 4] 3)).alloc (.cells #[.int .i64 6] 3)).alloc (.cells #[.slice (some ⟨w6.heap.size + 1 + 1 + 1, 0, none⟩) 1 1, .slice (some ⟨w6.heap.size + 1 + 1 + 1 + 1, 0, none⟩) 1 1] 29)).alloc (.cells #[.int .i64 1, .int .i64 0, .slice (some ⟨w6.heap.size + 1 + 1, 0, none⟩) 2 2, .slice (some ⟨w6.heap.size + 1 + 1 + 1 + 1 + 1, 0, none⟩) 2 2] 24)) := (by repeat (first | exact Below.refl _ _ | assumption | (refine belA ?_ _) | (refine belD ?_ _)))
  have y0 : (((((((w6.alloc (.cells #[.int .i64 1] 3)).alloc (.cells #[.int .i64 0] 3)).alloc (.cells #[.slice (some ⟨w6.heap.size, 0, none⟩) 1 1, .slice (some ⟨w6.heap.size + 1, 0, none⟩) 1 1] 29)).alloc (.cells #[.int .i64 4] 3)).alloc (.cells #[.int .i64 6] 3)).alloc (.cells #[.slice (some ⟨w6.heap.size + 1 + 1 + 1, 0, none⟩) 1 1, .slice (some ⟨w6.heap.size + 1 + 1 + 1 + 1, 0, none⟩) 1 1] 29)).alloc (.cells #[.int .i64 1, .int .i64 0, .slice (some ⟨w6.heap.size + 1 + 1, 0, none⟩) 2 2, .slice (some ⟨w6.heap.size + 1 + 1 + 1 + 1 + 1, 0, none⟩) 2 2] 24)).heap[w6.heap.size]? = some (.cells #[.int .i64 1] 3 (0, 0)) := (by (repeat (rw [alloc_get]; first | rw [if_pos (by first | (simp; done) | (simp; omega))] | rw [if_neg (by first | (simp; done) | (simp; omega))])); (try rfl))
  have y1 : (((((((w6.alloc (.cells #[.int .i64 1] 3)).alloc (.cells #[.int .i64 0] 3)).alloc (.cells #[.slice (some ⟨w6.heap.size, 0, none⟩) 1 1, .slice (some ⟨w6.heap.size + 1, 0, none⟩) 1 1] 29)).alloc (.cells #[.int .i64 4] 3)).alloc (.cells #[.int .i64 6] 3)).alloc (.cells #[.slice (some ⟨w6.heap.size + 1 + 1 + 1, 0, none⟩) 1 1, .slice (some ⟨w6.heap.size + 1 + 1 + 1 + 1, 0, none⟩) 1 1] 29)).alloc (.cells #[.int .i64 1, .int .i64 0, .slice (some ⟨w6.heap.size + 1 + 1, 0, none⟩) 2 2, .slice (some ⟨w6.heap.size + 1 + 1 + 1 + 1 + 1, 0, none⟩) 2 2] 24)).heap[w6.heap.size + 1]? = some (.cells #[.int .i64 0] 3 (0, 0)) := (by (repeat (rw [alloc_get]; first | rw [if_pos (by first | (simp; done) | (simp; omega))] | rw [if_neg (by first | (simp; done) | (simp; omega))])); (try rfl))
  have y2 : (((((((w6.alloc (.cells #[.int .i64 1] 3)).alloc (.cells #[.int .i64 0] 3)).alloc (.cells #[.slice (some ⟨w6.heap.size, 0, none⟩) 1 1, .slice (some ⟨w6.heap.size + 1, 0, none⟩) 1 1] 29)).alloc (.cells #[.int .i64 4] 3)).alloc (.cells #[.int .i64 6] 3)).alloc (.cells #[.slice (some ⟨w6.heap.size + 1 + 1 + 1, 0, none⟩) 1 1, .slice (some ⟨w6.heap.size + 1 + 1 + 1 + 1, 0, none⟩) 1 1] 29)).alloc (.cells #[.int .i64 1, .int .i64 0, .slice (some ⟨w6.heap.size + 1 + 1, 0, none⟩) 2 2, .slice (some ⟨w6.heap.size + 1 + 1 + 1 + 1 + 1, 0, none⟩) 2 2] 24)).heap[w6.heap.size + 1 + 1]? = some (.cells #[.slice (some ⟨w6.heap.size, 0, none⟩) 1 1, .slice (some ⟨w6.heap.size + 1, 0, none⟩) 1 1] 29 (0, 0)) := (by (repeat (rw [alloc_get]; first | rw [if_pos (by first | (simp; done) | (simp; omega))] | rw [if_neg (by first | (simp; done) | (simp; omega))])); (try rfl))
  have y3 : (((((((w6.alloc (.cells #[.int .i64 1] 3)).alloc (.cells #[.int .i64 0] 3)).alloc (.cells #[.slice (some ⟨w6.heap.size, 0, none⟩) 1 1, .slice (some ⟨w6.heap.size + 1, 0, none⟩) 1 1] 29)).alloc (.cells #[.int .i64 4] 3)).alloc (.cells #[.int .i64 6] 3)).alloc (.cells #[.slice (some ⟨w6.heap.size + 1 + 1 + 1, 0, none⟩) 1 1, .slice (some ⟨w6.heap.size + 1 + 1 + 1 + 1, 0, none⟩) 1 1] 29)).alloc (.cells #[.int .i64 1, .int .i64 0, .slice (some ⟨w6.heap.size + 1 + 1, 0, none⟩) 2 2, .slice (some ⟨w6.heap.size + 1 + 1 + 1 + 1 + 1, 0, none⟩) 2 2] 24)).heap[w6.heap.size + 1 + 1 + 1]? = some (.cells #[.int .i64 4] 3 (0, 0)) := (by (repeat (rw [alloc_get]; first | rw [if_pos (by first | (simp; done) | (simp; omega))] | rw [if_neg (by first | (simp; done) | (simp; omega))])); (try rfl))
  have y4 : (((((((w6.alloc (.cells #[.int .i64 1] 3)).alloc (.cells #[.int .i64 0] 3)).alloc (.cells #[.slice (some ⟨w6.heap.size, 0, none⟩) 1 1, .slice (some ⟨w6.heap.size + 1, 0, none⟩) 1 1] 29)).alloc (.cells #[.int .i64 4] 3)).alloc (.cells #[.int .i64 6] 3)).alloc (.cells #[.slice (some ⟨w6.heap.size + 1 + 1 + 1, 0, none⟩) 1 1, .slice (some ⟨w6.heap.size + 1 + 1 + 1 + 1, 0, none⟩) 1 1] 29)).alloc (.cells #[.int .i64 1, .int .i64 0, .slice (some ⟨w6.heap.size + 1 + 1, 0, none⟩) 2 2, .slice (some ⟨w6.heap.size + 1 + 1 + 1 + 1 + 1, 0, none⟩) 2 2] 24)).heap[w6.heap.size + 1 + 1 + 1 + 1]? = some (.cells #[.int .i64 6] 3 (0, 0)) := (by (repeat (rw [alloc_get]; first | rw [if_pos (by first | (simp; done) | (simp; omega))] | rw [if_neg (by first | (simp; done) | (simp; omega))])); (try rfl))
  have y5 : (((((((w6.alloc (.cells #[.int .i64 1] 3)).alloc (.cells #[.int .i64 0] 3)).alloc (.cells #[.slice (some ⟨w6.heap.size, 0, none⟩) 1 1, .slice (some ⟨w6.heap.size + 1, 0, none⟩) 1 1] 29)).alloc (.cells #[.int .i64 4] 3)).alloc (.cells #[.int .i64 6] 3)).alloc (.cells #[.slice (some ⟨w6.heap.size + 1 + 1 + 1, 0, none⟩) 1 1, .slice (some ⟨w6.heap.size + 1 + 1 + 1 + 1, 0, none⟩) 1 1] 29)).alloc (.cells #[.int .i64 1, .int .i64 0, .slice (some ⟨w6.heap.size + 1 + 1, 0, none⟩) 2 2, .slice (some ⟨w6.heap.size + 1 + 1 + 1 + 1 + 1, 0, none⟩) 2 2] 24)).heap[w6.heap.size + 1 + 1 + 1 + 1 + 1]? = some (.cells #[.slice (some ⟨w6.heap.size + 1 + 1 + 1, 0, none⟩) 1 1, .slice (some ⟨w6.heap.size + 1 + 1 + 1 + 1, 0, none⟩) 1 1] 29 (0, 0)) := (by (repeat (rw [alloc_get]; first | rw [if_pos (by first | (simp; done) | (simp; omega))] | rw [if_neg (by first | (simp; done) | (simp; omega))])); (try rfl))
  have y6 : (((((((w6.alloc (.cells #[.int .i64 1] 3)).alloc (.cells #[.int .i64 0] 3)).alloc (.cells #[.slice (some ⟨w6.heap.size, 0, none⟩) 1 1, .slice (some ⟨w6.heap.size + 1, 0, none⟩) 1 1] 29)).alloc (.cells #[.int .i64 4] 3)).alloc (.cells #[.int .i64 6] 3)).alloc (.cells #[.slice (some ⟨w6.heap.size + 1 + 1 + 1, 0, none⟩) 1 1, .slice (some ⟨w6.heap.size + 1 + 1 + 1 + 1, 0, none⟩) 1 1] 29)).alloc (.cells #[.int .i64 1, .int .i64 0, .slice (some ⟨w6.heap.size + 1 + 1, 0, none⟩) 2 2, .slice (some ⟨w6.heap.size + 1 + 1 + 1 + 1 + 1, 0, none⟩) 2 2] 24)).heap[w6.heap.size + 1 + 1 + 1 + 1 + 1 + 1]? = some (.cells #[.int .i64 1, .int .i64 0, .slice (some ⟨w6.heap.size + 1 + 1, 0, none⟩) 2 2, .slice (some ⟨w6.heap.size + 1 + 1 + 1 + 1 + 1, 0, none⟩) 2 2] 24 (0, 0)) := (by (repeat (rw [alloc_get]; first | rw [if_pos (by first | (simp; done) | (simp; omega))] | rw [if_neg (by first | (simp; done) | (simp; omega))])); (try rfl))
  generalize (((((((w6.alloc (.cells #[.int .i64 1] 3)).alloc (.cells #[.int .i64 0] 3)).alloc (.cells #[.slice (some ⟨w6.heap.size, 0, none⟩) 1 1, .slice (some ⟨w6.heap.size + 1, 0, none⟩) 1 1] 29)).alloc (.cells #[.int .i64 4] 3)).alloc (.cells #[.int .i64 6] 3)).alloc (.cells #[.slice (some ⟨w6.heap.size + 1 + 1 + 1, 0, none⟩) 1 1, .slice (some ⟨w6.heap.size + 1 + 1 + 1 + 1, 0, none⟩) 1 1] 29)).alloc (.cells #[.int .i64 1, .int .i64 0, .slice (some ⟨w6.heap.size + 1 + 1, 0, none⟩) 2 2, .slice (some ⟨w6.heap.size + 1 + 1 + 1 + 1 + 1, 0, none⟩) 2 2] 24)) = w7 at *
  replace hx := (hb.block _ (Array.getElem?_eq_some_iff.1 hx).1).trans hx
  replace xt := (hb.block _ (Array.getElem?_eq_some_iff.1 xt).1).trans xt
  replace xw := (hb.block _ (Array.getElem?_eq_some_iff.1 xw).1).trans xw
  replace xo := (hb.block _ (Array.getElem?_eq_some_iff.1 xo).1).trans xo
  replace hg := hg.below hb
  replace ht := ht.below hb
  replace hw := hw.below hb
  replace ho := ho.below hb
  replace hB := hB.trans (hb.mono hB.size)
  have rn0 := ints_lit [1] y0 (by decide) (by simp [I64])
  have rp0 := ints_lit [4] y3 (by decide) (by simp [I64])
  have rn1 := ints_lit [0] y1 (by decide) (by simp [I64])
  have rp1 := ints_lit [6] y4 (by decide) (by simp [I64])
  have ra : IsRows w7 (.slice (some ⟨w6.heap.size + 1 + 1, 0, none⟩) 2 2) [[1], [0]] := rows_lit [[1], [0]] [.slice (some ⟨w6.heap.size, 0, none⟩) 1 1, .slice (some ⟨w6.heap.size + 1, 0, none⟩) 1 1] y2 rfl (by decide) fun j hj => match j, hj with
    | 0, _ => rn0
    | 1, _ => rn1
    | q + 2, h => absurd h (by simp)
  have rb : IsRows w7 (.slice (some ⟨w6.heap.size + 1 + 1 + 1 + 1 + 1, 0, none⟩) 2 2) [[4], [6]] := rows_lit [[4], [6]] [.slice (some ⟨w6.heap.size + 1 + 1 + 1, 0, none⟩) 1 1, .slice (some ⟨w6.heap.size + 1 + 1 + 1 + 1, 0, none⟩) 1 1] y5 rfl (by decide) fun j hj => match j, hj with
    | 0, _ => rp0
    | 1, _ => rp1
    | q + 2, h => absurd h (by simp)
  have hd : IsAuto w7 (.agg #[.int .i64 1, .int .i64 0, .slice (some ⟨w6.heap.size + 1 + 1, 0, none⟩) 2 2, .slice (some ⟨w6.heap.size + 1 + 1 + 1 + 1 + 1, 0, none⟩) 2 2]) ⟨1, 0, [[1], [0]], [[4], [6]]⟩ := ⟨_, _, rfl, ⟨by simp [I64], by simp [I64]⟩, ra, rb⟩
  clear ra rb rn0 rp0 rn1 rp1
  have xd := y6
  clear y0 y1 y2 y3 y4 y5 y6
  generalize w6.heap.size + 1 + 1 + 1 + 1 + 1 + 1 = ghd6 at *
  generalize w6.heap.size + 1 + 1 + 1 + 1 + 1 = ghd5 at *
  generalize w6.heap.size + 1 + 1 + 1 + 1 = ghd4 at *
  generalize w6.heap.size + 1 + 1 + 1 = ghd3 at *
  generalize w6.heap.size + 1 + 1 = ghd2 at *
  generalize w6.heap.size + 1 = ghd1 at *
  generalize w6.heap.size = ghd0 at *
  clear hb
  have k0 := cell_of_row _ _ 0 _ _ _ xo
  have k1 := cell_of_row _ _ 1 _ _ _ xo
  have k2 := cell_of_row _ _ 2 _ _ _ xo
  have k3 := cell_of_row _ _ 3 _ _ _ xo
  go_wp2_with fail
  refine (Prios_c _ _ ex1 ho (by decide)).mono ?_
  rw [ex_one]
  rintro e w8 ⟨vha, rfl, hK, hb⟩
  have ha := hK _ (Only.refl _ _)
  replace hx := (hb.block _ (Array.getElem?_eq_some_iff.1 hx).1).trans hx
  replace xt := (hb.block _ (Array.getElem?_eq_some_iff.1 xt).1).trans xt
  replace xw := (hb.block _ (Array.getElem?_eq_some_iff.1 xw).1).trans xw
  replace xo := (hb.block _ (Array.getElem?_eq_some_iff.1 xo).1).trans xo
  replace xd := (hb.block _ (Array.getElem?_eq_some_iff.1 xd).1).trans xd
  replace hg := hg.below hb
  replace ht := ht.below hb
  replace hw := hw.below hb
  replace ho := ho.below hb
  replace hd := hd.below hb
  replace hB := hB.trans (hb.mono hB.size)
  clear hb hK
  clear k0 k1 k2 k3
  clear ho xo
  obtain ⟨c2, d2, c3, d3, rfl⟩ : ∃ p2 k2 p3 k3, _ = Value.agg #[.int .i64 1, .int .i64 0, .slice p2 1 k2, .slice p3 1 k3] := ha.shape
  go_upto_region 7 with (fail)
  obtain ⟨xa, hb, hB⟩ := box_new hB hB.size #[.int .i64 1, .int .i64 0, .slice c2 1 d2, .slice c3 1 d3] 24
  replace hx := (hb.block _ (Array.getElem?_eq_some_iff.1 hx).1).trans hx
  replace xt := (hb.block _ (Array.getElem?_eq_some_iff.1 xt).1).trans xt
  replace xw := (hb.block _ (Array.getElem?_eq_some_iff.1 xw).1).trans xw
  replace xd := (hb.block _ (Array.getElem?_eq_some_iff.1 xd).1).trans xd
  replace hg := hg.below hb
  replace ht := ht.below hb
  replace hw := hw.below hb
  replace hd := hd.below hb
  replace ha := ha.below hb
  generalize w8.alloc (.cells #[.int .i64 1, .int .i64 0, .slice c2 1 d2, .slice c3 1 d3] 24) = w9 at *
  generalize w8.heap.size = zxa at *
  clear hb
  have k0 := cell_of_row _ _ 0 _ _ _ xd
  have k1 := cell_of_row _ _ 1 _ _ _ xd
  have k2 := cell_of_row _ _ 2 _ _ _ xd
  have k3 := cell_of_row _ _ 3 _ _ _ xd
  go_wp2_with fail
  refine (Prios_c _ _ ex2 hd (by decide)).mono ?_
  rw [ex_two]
  rintro e w10 ⟨vhq, rfl, hK, hb⟩
  have hq := hK _ (Only.refl _ _)
  replace hx := (hb.block _ (Array.getElem?_eq_some_iff.1 hx).1).trans hx
  replace xt := (hb.block _ (Array.getElem?_eq_some_iff.1 xt).1).trans xt
  replace xw := (hb.block _ (Array.getElem?_eq_some_iff.1 xw).1).trans xw
  replace xd := (hb.block _ (Array.getElem?_eq_some_iff.1 xd).1).trans xd
  replace xa := (hb.block _ (Array.getElem?_eq_some_iff.1 xa).1).trans xa
  replace hg := hg.below hb
  replace ht := ht.below hb
  replace hw := hw.below hb
  replace hd := hd.below hb
  replace ha := ha.below hb
  replace hB := hB.trans (hb.mono hB.size)
  clear hb hK
  clear k0 k1 k2 k3
  clear hd xd
  obtain ⟨e2, f2, e3, f3, rfl⟩ : ∃ p2 k2 p3 k3, _ = Value.agg #[.int .i64 1, .int .i64 0, .slice p2 2 k2, .slice p3 2 k3] := hq.shape
  go_upto_region 8 with (fail)
  obtain ⟨xq, hb, hB⟩ := box_new hB hB.size #[.int .i64 1, .int .i64 0, .slice e2 2 f2, .slice e3 2 f3] 24
  replace hx := (hb.block _ (Array.getElem?_eq_some_iff.1 hx).1).trans hx
  replace xt := (hb.block _ (Array.getElem?_eq_some_iff.1 xt).1).trans xt
  replace xw := (hb.block _ (Array.getElem?_eq_some_iff.1 xw).1).trans xw
  replace xa := (hb.block _ (Array.getElem?_eq_some_iff.1 xa).1).trans xa
  replace hg := hg.below hb
  replace ht := ht.below hb
  replace hw := hw.below hb
  replace ha := ha.below hb
  replace hq := hq.below hb
  generalize w10.alloc (.cells #[.int .i64 1, .int .i64 0, .slice e2 2 f2, .slice e3 2 f3] 24) = w11 at *
  generalize w10.heap.size = zxq at *
  clear hb
  have k0 := cell_of_row _ _ 0 _ _ _ xt
  have k1 := cell_of_row _ _ 1 _ _ _ xt
  have k2 := cell_of_row _ _ 2 _ _ _ xt
  have k3 := cell_of_row _ _ 3 _ _ _ xt
  go_wp2_with fail
  refine (Merge_c _ _ exT ht).mono ?_
  rw [ex_merge]
  rintro e w12 ⟨vhm, rfl, hK, hb⟩
  have hm := hK _ (Only.refl _ _)
  replace hx := (hb.block _ (Array.getElem?_eq_some_iff.1 hx).1).trans hx
  replace xt := (hb.block _ (Array.getElem?_eq_some_iff.1 xt).1).trans xt
  replace xw := (hb.block _ (Array.getElem?_eq_some_iff.1 xw).1).trans xw
  replace xa := (hb.block _ (Array.getElem?_eq_some_iff.1 xa).1).trans xa
  replace xq := (hb.block _ (Array.getElem?_eq_some_iff.1 xq).1).trans xq
  replace hg := hg.below hb
  replace ht := ht.below hb
  replace hw := hw.below hb
  replace ha := ha.below hb
  replace hq := hq.below hb
  replace hB := hB.trans (hb.mono hB.size)
  clear hb hK
  clear k0 k1 k2 k3
  obtain ⟨m2, n2, m3, n3, rfl⟩ : ∃ p2 k2 p3 k3, _ = Value.agg #[.int .i64 2, .int .i64 0, .slice p2 2 k2, .slice p3 2 k3] := hm.shape
  go_upto_region 9 with (fail)
  obtain ⟨xm, hb, hB⟩ := box_new hB hB.size #[.int .i64 2, .int .i64 0, .slice m2 2 n2, .slice m3 2 n3] 24
  replace hx := (hb.block _ (Array.getElem?_eq_some_iff.1 hx).1).trans hx
  replace xt := (hb.block _ (Array.getElem?_eq_some_iff.1 xt).1).trans xt
  replace xw := (hb.block _ (Array.getElem?_eq_some_iff.1 xw).1).trans xw
  replace xa := (hb.block _ (Array.getElem?_eq_some_iff.1 xa).1).trans xa
  replace xq := (hb.block _ (Array.getElem?_eq_some_iff.1 xq).1).trans xq
  replace hg := hg.below hb
  replace ht := ht.below hb
  replace hw := hw.below hb
  replace ha := ha.below hb
  replace hq := hq.below hb
  replace hm := hm.below hb
  generalize w12.alloc (.cells #[.int .i64 2, .int .i64 0, .slice m2 2 n2, .slice m3 2 n3] 24) = w13 at *
  generalize w12.heap.size = zxm at *
  clear hb
  have k0 := cell_of_row _ _ 0 _ _ _ hx
  have k1 := cell_of_row _ _ 1 _ _ _ hx
  have k2 := cell_of_row _ _ 2 _ _ _ hx
  have k3 := cell_of_row _ _ 3 _ _ _ hx
  go_wp2_with fail
  refine (Reduce_c _ _ exA hg (by decide)).mono ?_
  rw [ex_reduce]
  rintro e w14 ⟨vhr, rfl, hK, hb⟩
  have hr := hK _ (Only.refl _ _)
  replace hx := (hb.block _ (Array.getElem?_eq_some_iff.1 hx).1).trans hx
  replace xt := (hb.block _ (Array.getElem?_eq_some_iff.1 xt).1).trans xt
  replace xw := (hb.block _ (Array.getElem?_eq_some_iff.1 xw).1).trans xw
  replace xa := (hb.block _ (Array.getElem?_eq_some_iff.1 xa).1).trans xa
  replace xq := (hb.block _ (Array.getElem?_eq_some_iff.1 xq).1).trans xq
  replace xm := (hb.block _ (Array.getElem?_eq_some_iff.1 xm).1).trans xm
  replace hg := hg.below hb
  replace ht := ht.below hb
  replace hw := hw.below hb
  replace ha := ha.below hb
  replace hq := hq.below hb
  replace hm := hm.below hb
  replace hB := hB.trans (hb.mono hB.size)
  clear hb hK
  clear k0 k1 k2 k3
  obtain ⟨r2, s2, r3, s3, rfl⟩ : ∃ p2 k2 p3 k3, _ = Value.agg #[.int .i64 2, .int .i64 0, .slice p2 1 k2, .slice p3 1 k3] := hr.shape
  go_upto_region 10 with (fail)
  obtain ⟨xr, hb, hB⟩ := box_new hB hB.size #[.int .i64 2, .int .i64 0, .slice r2 1 s2, .slice r3 1 s3] 24
  replace hx := (hb.block _ (Array.getElem?_eq_some_iff.1 hx).1).trans hx
  replace xt := (hb.block _ (Array.getElem?_eq_some_iff.1 xt).1).trans xt
  replace xw := (hb.block _ (Array.getElem?_eq_some_iff.1 xw).1).trans xw
  replace xa := (hb.block _ (Array.getElem?_eq_some_iff.1 xa).1).trans xa
  replace xq := (hb.block _ (Array.getElem?_eq_some_iff.1 xq).1).trans xq
  replace xm := (hb.block _ (Array.getElem?_eq_some_iff.1 xm).1).trans xm
  replace hg := hg.below hb
  replace ht := ht.below hb
  replace hw := hw.below hb
  replace ha := ha.below hb
  replace hq := hq.below hb
  replace hm := hm.below hb
  replace hr := hr.below hb
  generalize w14.alloc (.cells #[.int .i64 2, .int .i64 0, .slice r2 1 s2, .slice r3 1 s3] 24) = w15 at *
  generalize w14.heap.size = zxr at *
  clear hb
  have ja := cell_of_row _ _ 3 _ _ _ xa
  have jb := cell_of_row _ _ 3 _ _ _ xq
  have la : IsRows w15 (.slice c3 1 d3) [[1]] := by
    obtain ⟨u2, u3, eu, -, -, hu⟩ := id ha
    obtain ⟨-, rfl⟩ : Value.slice c2 1 d2 = u2 ∧ Value.slice c3 1 d3 = u3 := by simpa using eu
    exact hu
  have lb : IsRows w15 (.slice e3 2 f3) [[0], [0]] := by
    obtain ⟨u2, u3, eu, -, -, hu⟩ := id hq
    obtain ⟨-, rfl⟩ : Value.slice e2 2 f2 = u2 ∧ Value.slice e3 2 f3 = u3 := by simpa using eu
    exact hu
  obtain ⟨i0, i1, i2, i3, i4, rfl, c00, c01⟩ := row_one la (x := 1) (j := 0) (by decide) rfl
  obtain ⟨l0, l1, l2, l3, l4, rfl, d00, d01⟩ := row_one lb (x := 0) (j := 0) (by decide) rfl
  obtain ⟨l5, l6, t2, t3, t4, et, d10, d11⟩ := row_one lb (x := 0) (j := 1) (by decide) rfl
  obtain ⟨rfl, rfl⟩ : l0 = l5 ∧ l1 = l6 := by simpa using et
  clear et
  rw [Nat.add_zero] at c00 d00
  have HLA := Lib.hid la
  have HLB := Lib.hid lb
  go_upto_region 12 with (fail)
  clear c00 c01 d00 d01 d10 d11
  have k0 := cell_of_row _ _ 0 _ _ _ xt
  have k1 := cell_of_row _ _ 1 _ _ _ xt
  have k2 := cell_of_row _ _ 2 _ _ _ xt
  have k3 := cell_of_row _ _ 3 _ _ _ xt
  have o0 := cell_of_row _ _ 0 _ _ _ xw
  have o1 := cell_of_row _ _ 1 _ _ _ xw
  have o2 := cell_of_row _ _ 2 _ _ _ xw
  have o3 := cell_of_row _ _ 3 _ _ _ xw
  go_wp2_with fail
  refine (Same_c _ _ _ exT exT ht hw).mono ?_
  rw [show decide (exT = exT) = true from decide_eq_true rfl]
  rintro e w16 ⟨rfl, hb⟩
  replace hx := (hb.block _ (Array.getElem?_eq_some_iff.1 hx).1).trans hx
  replace xt := (hb.block _ (Array.getElem?_eq_some_iff.1 xt).1).trans xt
  replace xw := (hb.block _ (Array.getElem?_eq_some_iff.1 xw).1).trans xw
  replace xa := (hb.block _ (Array.getElem?_eq_some_iff.1 xa).1).trans xa
  replace xq := (hb.block _ (Array.getElem?_eq_some_iff.1 xq).1).trans xq
  replace xm := (hb.block _ (Array.getElem?_eq_some_iff.1 xm).1).trans xm
  replace xr := (hb.block _ (Array.getElem?_eq_some_iff.1 xr).1).trans xr
  replace hg := hg.below hb
  replace ht := ht.below hb
  replace hw := hw.below hb
  replace ha := ha.below hb
  replace hq := hq.below hb
  replace hm := hm.below hb
  replace hr := hr.below hb
  replace la := la.below hb
  replace lb := lb.below hb
  replace hB := hB.trans (hb.mono hB.size)
  clear hb
  clear k0 k1 k2 k3 o0 o1 o2 o3 xw hw xt ht
  have ja := cell_of_row _ _ 3 _ _ _ xa
  have jb := cell_of_row _ _ 3 _ _ _ xq
  obtain ⟨j0, j1, i2, i3, i4, ej, c00, c01⟩ := row_one la (x := 1) (j := 0) (by decide) rfl
  obtain ⟨rfl, rfl⟩ : i0 = j0 ∧ i1 = j1 := by simpa using ej
  obtain ⟨j0, j1, l2, l3, l4, ek, d00, d01⟩ := row_one lb (x := 0) (j := 0) (by decide) rfl
  obtain ⟨rfl, rfl⟩ : l0 = j0 ∧ l1 = j1 := by simpa using ek
  obtain ⟨l5, l6, t2, t3, t4, et, d10, d11⟩ := row_one lb (x := 0) (j := 1) (by decide) rfl
  obtain ⟨rfl, rfl⟩ : l0 = l5 ∧ l1 = l6 := by simpa using et
  clear et ej ek
  rw [Nat.add_zero] at c00 d00
  have k0 := cell_of_row _ _ 0 _ _ _ xm
  have k1 := cell_of_row _ _ 1 _ _ _ xm
  have k2 := cell_of_row _ _ 2 _ _ _ xm
  have k3 := cell_of_row _ _ 3 _ _ _ xm
  go_wp2_with fail
  have hb : Below w16.heap.size w16 ((((((w16.alloc (.cells #[.int .i64 1, .int .i64 0] 3)).alloc (.cells #[.int .i64 0, .int .i64 1] 3)).alloc (.cells #[.slice (some ⟨w16.heap.size, 0, none⟩) 2 2, .slice (some ⟨w16.heap.size + 1, 0, none⟩) 2 2] 29)).alloc (.cells #[.int .i64 4, .int .i64 7] 3)).alloc (.cells #[.int .i64 6, .int .i64 5] 3)).alloc (.cells #[.slice (some ⟨w16.heap.size + 1 + 1 + 1, 0, none⟩) 2 2, .slice (some ⟨w16.heap.size + 1 + 1 + 1 + 1, 0, none⟩) 2 2] 29)) := (by repeat (first | exact Below.refl _ _ | assumption | (refine belA ?_ _) | (refine belD ?_ _)))
  have y0 : ((((((w16.alloc (.cells #[.int .i64 1, .int .i64 0] 3)).alloc (.cells #[.int .i64 0, .int .i64 1] 3)).alloc (.cells #[.slice (some ⟨w16.heap.size, 0, none⟩) 2 2, .slice (some ⟨w16.heap.size + 1, 0, none⟩) 2 2] 29)).alloc (.cells #[.int .i64 4, .int .i64 7] 3)).alloc (.cells #[.int .i64 6, .int .i64 5] 3)).alloc (.cells #[.slice (some ⟨w16.heap.size + 1 + 1 + 1, 0, none⟩) 2 2, .slice (some ⟨w16.heap.size + 1 + 1 + 1 + 1, 0, none⟩) 2 2] 29)).heap[w16.heap.size]? = some (.cells #[.int .i64 1, .int .i64 0] 3 (0, 0)) := (by (repeat (rw [alloc_get]; first | rw [if_pos (by first | (simp; done) | (simp; omega))] | rw [if_neg (by first | (simp; done) | (simp; omega))])); (try rfl))
  have y1 : ((((((w16.alloc (.cells #[.int .i64 1, .int .i64 0] 3)).alloc (.cells #[.int .i64 0, .int .i64 1] 3)).alloc (.cells #[.slice (some ⟨w16.heap.size, 0, none⟩) 2 2, .slice (some ⟨w16.heap.size + 1, 0, none⟩) 2 2] 29)).alloc (.cells #[.int .i64 4, .int .i64 7] 3)).alloc (.cells #[.int .i64 6, .int .i64 5] 3)).alloc (.cells #[.slice (some ⟨w16.heap.size + 1 + 1 + 1, 0, none⟩) 2 2, .slice (some ⟨w16.heap.size + 1 + 1 + 1 + 1, 0, none⟩) 2 2] 29)).heap[w16.heap.size + 1]? = some (.cells #[.int .i64 0, .int .i64 1] 3 (0, 0)) := (by (repeat (rw [alloc_get]; first | rw [if_pos (by first | (simp; done) | (simp; omega))] | rw [if_neg (by first | (simp; done) | (simp; omega))])); (try rfl))
  have y2 : ((((((w16.alloc (.cells #[.int .i64 1, .int .i64 0] 3)).alloc (.cells #[.int .i64 0, .int .i64 1] 3)).alloc (.cells #[.slice (some ⟨w16.heap.size, 0, none⟩) 2 2, .slice (some ⟨w16.heap.size + 1, 0, none⟩) 2 2] 29)).alloc (.cells #[.int .i64 4, .int .i64 7] 3)).alloc (.cells #[.int .i64 6, .int .i64 5] 3)).alloc (.cells #[.slice (some ⟨w16.heap.size + 1 + 1 + 1, 0, none⟩) 2 2, .slice (some ⟨w16.heap.size + 1 + 1 + 1 + 1, 0, none⟩) 2 2] 29)).heap[w16.heap.size + 1 + 1]? = some (.cells #[.slice (some ⟨w16.heap.size, 0, none⟩) 2 2, .slice (some ⟨w16.heap.size + 1, 0, none⟩) 2 2] 29 (0, 0)) := (by (repeat (rw [alloc_get]; first | rw [if_pos (by first | (simp; done) | (simp; omega))] | rw [if_neg (by first | (simp; done) | (simp; omega))])); (try rfl))
  have y3 : ((((((w16.alloc (.cells #[.int .i64 1, .int .i64 0] 3)).alloc (.cells #[.int .i64 0, .int .i64 1] 3)).alloc (.cells #[.slice (some ⟨w16.heap.size, 0, none⟩) 2 2, .slice (some ⟨w16.heap.size + 1, 0, none⟩) 2 2] 29)).alloc (.cells #[.int .i64 4, .int .i64 7] 3)).alloc (.cells #[.int .i64 6, .int .i64 5] 3)).alloc (.cells #[.slice (some ⟨w16.heap.size + 1 + 1 + 1, 0, none⟩) 2 2, .slice (some ⟨w16.heap.size + 1 + 1 + 1 + 1, 0, none⟩) 2 2] 29)).heap[w16.heap.size + 1 + 1 + 1]? = some (.cells #[.int .i64 4, .int .i64 7] 3 (0, 0)) := (by (repeat (rw [alloc_get]; first | rw [if_pos (by first | (simp; done) | (simp; omega))] | rw [if_neg (by first | (simp; done) | (simp; omega))])); (try rfl))
  have y4 : ((((((w16.alloc (.cells #[.int .i64 1, .int .i64 0] 3)).alloc (.cells #[.int .i64 0, .int .i64 1] 3)).alloc (.cells #[.slice (some ⟨w16.heap.size, 0, none⟩) 2 2, .slice (some ⟨w16.heap.size + 1, 0, none⟩) 2 2] 29)).alloc (.cells #[.int .i64 4, .int .i64 7] 3)).alloc (.cells #[.int .i64 6, .int .i64 5] 3)).alloc (.cells #[.slice (some ⟨w16.heap.size + 1 + 1 + 1, 0, none⟩) 2 2, .slice (some ⟨w16.heap.size + 1 + 1 + 1 + 1, 0, none⟩) 2 2] 29)).heap[w16.heap.size + 1 + 1 + 1 + 1]? = some (.cells #[.int .i64 6, .int .i64 5] 3 (0, 0)) := (by (repeat (rw [alloc_get]; first | rw [if_pos (by first | (simp; done) | (simp; omega))] | rw [if_neg (by first | (simp; done) | (simp; omega))])); (try rfl))
  have y5 : ((((((w16.alloc (.cells #[.int .i64 1, .int .i64 0] 3)).alloc (.cells #[.int .i64 0, .int .i64 1] 3)).alloc (.cells #[.slice (some ⟨w16.heap.size, 0, none⟩) 2 2, .slice (some ⟨w16.heap.size + 1, 0, none⟩) 2 2] 29)).alloc (.cells #[.int .i64 4, .int .i64 7] 3)).alloc (.cells #[.int .i64 6, .int .i64 5] 3)).alloc (.cells #[.slice (some ⟨w16.heap.size + 1 + 1 + 1, 0, none⟩) 2 2, .slice (some ⟨w16.heap.size + 1 + 1 + 1 + 1, 0, none⟩) 2 2] 29)).heap[w16.heap.size + 1 + 1 + 1 + 1 + 1]? = some (.cells #[.slice (some ⟨w16.heap.size + 1 + 1 + 1, 0, none⟩) 2 2, .slice (some ⟨w16.heap.size + 1 + 1 + 1 + 1, 0, none⟩) 2 2] 29 (0, 0)) := (by (repeat (rw [alloc_get]; first | rw [if_pos (by first | (simp; done) | (simp; omega))] | rw [if_neg (by first | (simp; done) | (simp; omega))])); (try rfl))
  generalize ((((((w16.alloc (.cells #[.int .i64 1, .int .i64 0] 3)).alloc (.cells #[.int .i64 0, .int .i64 1] 3)).alloc (.cells #[.slice (some ⟨w16.heap.size, 0, none⟩) 2 2, .slice (some ⟨w16.heap.size + 1, 0, none⟩) 2 2] 29)).alloc (.cells #[.int .i64 4, .int .i64 7] 3)).alloc (.cells #[.int .i64 6, .int .i64 5] 3)).alloc (.cells #[.slice (some ⟨w16.heap.size + 1 + 1 + 1, 0, none⟩) 2 2, .slice (some ⟨w16.heap.size + 1 + 1 + 1 + 1, 0, none⟩) 2 2] 29)) = w17 at *
  replace hx := (hb.block _ (Array.getElem?_eq_some_iff.1 hx).1).trans hx
  replace xa := (hb.block _ (Array.getElem?_eq_some_iff.1 xa).1).trans xa
  replace xq := (hb.block _ (Array.getElem?_eq_some_iff.1 xq).1).trans xq
  replace xm := (hb.block _ (Array.getElem?_eq_some_iff.1 xm).1).trans xm
  replace xr := (hb.block _ (Array.getElem?_eq_some_iff.1 xr).1).trans xr
  replace hg := hg.below hb
  replace ha := ha.below hb
  replace hq := hq.below hb
  replace hm := hm.below hb
  replace hr := hr.below hb
  replace la := la.below hb
  replace lb := lb.below hb
  replace hB := hB.trans (hb.mono hB.size)
  have rn0 := ints_lit [1, 0] y0 (by decide) (by simp [I64])
  have rp0 := ints_lit [4, 7] y3 (by decide) (by simp [I64])
  have rn1 := ints_lit [0, 1] y1 (by decide) (by simp [I64])
  have rp1 := ints_lit [6, 5] y4 (by decide) (by simp [I64])
  have ra : IsRows w17 (.slice (some ⟨w16.heap.size + 1 + 1, 0, none⟩) 2 2) [[1, 0], [0, 1]] := rows_lit [[1, 0], [0, 1]] [.slice (some ⟨w16.heap.size, 0, none⟩) 2 2, .slice (some ⟨w16.heap.size + 1, 0, none⟩) 2 2] y2 rfl (by decide) fun j hj => match j, hj with
    | 0, _ => rn0
    | 1, _ => rn1
    | q + 2, h => absurd h (by simp)
  have rb : IsRows w17 (.slice (some ⟨w16.heap.size + 1 + 1 + 1 + 1 + 1, 0, none⟩) 2 2) [[4, 7], [6, 5]] := rows_lit [[4, 7], [6, 5]] [.slice (some ⟨w16.heap.size + 1 + 1 + 1, 0, none⟩) 2 2, .slice (some ⟨w16.heap.size + 1 + 1 + 1 + 1, 0, none⟩) 2 2] y5 rfl (by decide) fun j hj => match j, hj with
    | 0, _ => rp0
    | 1, _ => rp1
    | q + 2, h => absurd h (by simp)
  have hl : IsAuto w17 (.agg #[.int .i64 2, .int .i64 0, .slice (some ⟨w16.heap.size + 1 + 1, 0, none⟩) 2 2, .slice (some ⟨w16.heap.size + 1 + 1 + 1 + 1 + 1, 0, none⟩) 2 2]) ⟨2, 0, [[1, 0], [0, 1]], [[4, 7], [6, 5]]⟩ := ⟨_, _, rfl, ⟨by simp [I64], by simp [I64]⟩, ra, rb⟩
  clear ra rb rn0 rp0 rn1 rp1
  clear y0 y1 y2 y3 y4 y5
  generalize w16.heap.size + 1 + 1 + 1 + 1 + 1 = gl5 at *
  generalize w16.heap.size + 1 + 1 + 1 + 1 = gl4 at *
  generalize w16.heap.size + 1 + 1 + 1 = gl3 at *
  generalize w16.heap.size + 1 + 1 = gl2 at *
  generalize w16.heap.size + 1 = gl1 at *
  generalize w16.heap.size = gl0 at *
  clear hb c00 c01 d00 d01 d10 d11 ja jb la lb
  refine (Same_c _ _ _ exM exM hm hl).mono ?_
  rw [show decide (exM = exM) = true from decide_eq_true rfl]
  rintro e w18 ⟨rfl, hb⟩
  replace hx := (hb.block _ (Array.getElem?_eq_some_iff.1 hx).1).trans hx
  replace xa := (hb.block _ (Array.getElem?_eq_some_iff.1 xa).1).trans xa
  replace xq := (hb.block _ (Array.getElem?_eq_some_iff.1 xq).1).trans xq
  replace xm := (hb.block _ (Array.getElem?_eq_some_iff.1 xm).1).trans xm
  replace xr := (hb.block _ (Array.getElem?_eq_some_iff.1 xr).1).trans xr
  replace hg := hg.below hb
  replace ha := ha.below hb
  replace hq := hq.below hb
  replace hm := hm.below hb
  replace hr := hr.below hb
  replace hB := hB.trans (hb.mono hB.size)
  clear hb
  clear k0 k1 k2 k3
  clear hl hm xm
  have k0 := cell_of_row _ _ 0 _ _ _ xr
  have k1 := cell_of_row _ _ 1 _ _ _ xr
  have k2 := cell_of_row _ _ 2 _ _ _ xr
  have k3 := cell_of_row _ _ 3 _ _ _ xr
  go_wp2_with fail
  have hb : Below w18.heap.size w18 ((((w18.alloc (.cells #[.int .i64 0, .int .i64 0] 3)).alloc (.cells #[.slice (some ⟨w18.heap.size, 0, none⟩) 2 2] 29)).alloc (.cells #[.int .i64 0, .int .i64 1] 3)).alloc (.cells #[.slice (some ⟨w18.heap.size + 1 + 1, 0, none⟩) 2 2] 29)) := (by repeat (first | exact Below.refl _ _ | assumption | (refine belA ?_ _) | (refine belD ?_ _)))
  have y0 : ((((w18.alloc (.cells #[.int .i64 0, .int .i64 0] 3)).alloc (.cells #[.slice (some ⟨w18.heap.size, 0, none⟩) 2 2] 29)).alloc (.cells #[.int .i64 0, .int .i64 1] 3)).alloc (.cells #[.slice (some ⟨w18.heap.size + 1 + 1, 0, none⟩) 2 2] 29)).heap[w18.heap.size]? = some (.cells #[.int .i64 0, .int .i64 0] 3 (0, 0)) := (by (repeat (rw [alloc_get]; first | rw [if_pos (by first | (simp; done) | (simp; omega))] | rw [if_neg (by first | (simp; done) | (simp; omega))])); (try rfl))
  have y1 : ((((w18.alloc (.cells #[.int .i64 0, .int .i64 0] 3)).alloc (.cells #[.slice (some ⟨w18.heap.size, 0, none⟩) 2 2] 29)).alloc (.cells #[.int .i64 0, .int .i64 1] 3)).alloc (.cells #[.slice (some ⟨w18.heap.size + 1 + 1, 0, none⟩) 2 2] 29)).heap[w18.heap.size + 1]? = some (.cells #[.slice (some ⟨w18.heap.size, 0, none⟩) 2 2] 29 (0, 0)) := (by (repeat (rw [alloc_get]; first | rw [if_pos (by first | (simp; done) | (simp; omega))] | rw [if_neg (by first | (simp; done) | (simp; omega))])); (try rfl))
  have y2 : ((((w18.alloc (.cells #[.int .i64 0, .int .i64 0] 3)).alloc (.cells #[.slice (some ⟨w18.heap.size, 0, none⟩) 2 2] 29)).alloc (.cells #[.int .i64 0, .int .i64 1] 3)).alloc (.cells #[.slice (some ⟨w18.heap.size + 1 + 1, 0, none⟩) 2 2] 29)).heap[w18.heap.size + 1 + 1]? = some (.cells #[.int .i64 0, .int .i64 1] 3 (0, 0)) := (by (repeat (rw [alloc_get]; first | rw [if_pos (by first | (simp; done) | (simp; omega))] | rw [if_neg (by first | (simp; done) | (simp; omega))])); (try rfl))
  have y3 : ((((w18.alloc (.cells #[.int .i64 0, .int .i64 0] 3)).alloc (.cells #[.slice (some ⟨w18.heap.size, 0, none⟩) 2 2] 29)).alloc (.cells #[.int .i64 0, .int .i64 1] 3)).alloc (.cells #[.slice (some ⟨w18.heap.size + 1 + 1, 0, none⟩) 2 2] 29)).heap[w18.heap.size + 1 + 1 + 1]? = some (.cells #[.slice (some ⟨w18.heap.size + 1 + 1, 0, none⟩) 2 2] 29 (0, 0)) := (by (repeat (rw [alloc_get]; first | rw [if_pos (by first | (simp; done) | (simp; omega))] | rw [if_neg (by first | (simp; done) | (simp; omega))])); (try rfl))
  generalize ((((w18.alloc (.cells #[.int .i64 0, .int .i64 0] 3)).alloc (.cells #[.slice (some ⟨w18.heap.size, 0, none⟩) 2 2] 29)).alloc (.cells #[.int .i64 0, .int .i64 1] 3)).alloc (.cells #[.slice (some ⟨w18.heap.size + 1 + 1, 0, none⟩) 2 2] 29)) = w19 at *
  replace hx := (hb.block _ (Array.getElem?_eq_some_iff.1 hx).1).trans hx
  replace xa := (hb.block _ (Array.getElem?_eq_some_iff.1 xa).1).trans xa
  replace xq := (hb.block _ (Array.getElem?_eq_some_iff.1 xq).1).trans xq
  replace xr := (hb.block _ (Array.getElem?_eq_some_iff.1 xr).1).trans xr
  replace hg := hg.below hb
  replace ha := ha.below hb
  replace hq := hq.below hb
  replace hr := hr.below hb
  replace hB := hB.trans (hb.mono hB.size)
  have rn0 := ints_lit [0, 0] y0 (by decide) (by simp [I64])
  have rp0 := ints_lit [0, 1] y2 (by decide) (by simp [I64])
  have ra : IsRows w19 (.slice (some ⟨w18.heap.size + 1, 0, none⟩) 1 1) [[0, 0]] := rows_lit [[0, 0]] [.slice (some ⟨w18.heap.size, 0, none⟩) 2 2] y1 rfl (by decide) fun j hj => match j, hj with
    | 0, _ => rn0
    | q + 1, h => absurd h (by simp)
  have rb : IsRows w19 (.slice (some ⟨w18.heap.size + 1 + 1 + 1, 0, none⟩) 1 1) [[0, 1]] := rows_lit [[0, 1]] [.slice (some ⟨w18.heap.size + 1 + 1, 0, none⟩) 2 2] y3 rfl (by decide) fun j hj => match j, hj with
    | 0, _ => rp0
    | q + 1, h => absurd h (by simp)
  have hl : IsAuto w19 (.agg #[.int .i64 2, .int .i64 0, .slice (some ⟨w18.heap.size + 1, 0, none⟩) 1 1, .slice (some ⟨w18.heap.size + 1 + 1 + 1, 0, none⟩) 1 1]) ⟨2, 0, [[0, 0]], [[0, 1]]⟩ := ⟨_, _, rfl, ⟨by simp [I64], by simp [I64]⟩, ra, rb⟩
  clear ra rb rn0 rp0
  clear y0 y1 y2 y3
  generalize w18.heap.size + 1 + 1 + 1 = gn3 at *
  generalize w18.heap.size + 1 + 1 = gn2 at *
  generalize w18.heap.size + 1 = gn1 at *
  generalize w18.heap.size = gn0 at *
  clear hb
  refine (Same_c _ _ _ exR exR hr hl).mono ?_
  rw [show decide (exR = exR) = true from decide_eq_true rfl]
  rintro e w20 ⟨rfl, hb⟩
  replace hx := (hb.block _ (Array.getElem?_eq_some_iff.1 hx).1).trans hx
  replace xa := (hb.block _ (Array.getElem?_eq_some_iff.1 xa).1).trans xa
  replace xq := (hb.block _ (Array.getElem?_eq_some_iff.1 xq).1).trans xq
  replace xr := (hb.block _ (Array.getElem?_eq_some_iff.1 xr).1).trans xr
  replace hg := hg.below hb
  replace ha := ha.below hb
  replace hq := hq.below hb
  replace hr := hr.below hb
  replace hB := hB.trans (hb.mono hB.size)
  clear hb
  clear k0 k1 k2 k3
  clear hl hr xr
  have hz : IsAuto w20 (.agg #[.int .i64 0, .int .i64 0, .slice none 0 0, .slice none 0 0]) noAu := noAu_is _
  go_wp2_with fail
  refine (Trim_c _ _ noAu hz).mono ?_
  rw [ex_none]
  rintro e w' ⟨vn, rfl, hK, hb⟩
  obtain ⟨n2, o2, n3, o3, rfl⟩ : ∃ p2 k2 p3 k3, vn = Value.agg #[.int .i64 0, .int .i64 0, .slice p2 0 k2, .slice p3 0 k3] := (hK _ (Only.refl _ _)).shape
  replace hB := hB.trans (hb.mono hB.size)
  have hfd : Sem.run Try.prog (Instr.field 24 (.agg #[.int .i64 0, .int .i64 0, .slice n2 0 o2, .slice n3 0 o3]) 2) w' = .ok (.slice n2 0 o2) w' := rfl
  go_wp2_with fail
  go_ret
  exact ⟨rfl, hB⟩

end Go.Proofs.Ytdkpdpcecjcmcaa
