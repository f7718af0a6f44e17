/- The example of the chapter. -/
import Derived.Test.YtkbiopjinegckaaSt22
import Derived.Test.YtkbiopjinegckaaSt19
namespace Go.Proofs.Ytkbiopjinegckaa
open Go.RowKit

theorem ints_lit {w : World} {g : Nat} (l : List Int) (h : w.heap[g]? = some (.cells (l.map (Value.int .i64)).toArray 3 (0, 0))) (hn : l.length ≤ 3000) (hI : ∀ x ∈ l, I64 x) : IsInts w (.slice (some ⟨g, 0, none⟩) l.length l.length) l := by
  refine ⟨⟨_, _, g, 0, rfl, Nat.le_refl _, by simp only [maxLen]; omega, by simp only [maxN]; omega, (fun h => by cases h), fun _ => rfl, fun j hj => ?_⟩, hI⟩
  rw [Nat.zero_add, cell_of_row w g j _ _ _ h]
  simp [ivF, List.getD, hj]
theorem bools_lit {w : World} {g : Nat} (l : List Bool) (h : w.heap[g]? = some (.cells (l.map Value.bool).toArray 4 (0, 0))) (hn : l.length ≤ 3000) : IsBools w (.slice (some ⟨g, 0, none⟩) l.length l.length) l := by
  refine ⟨_, _, g, 0, rfl, Nat.le_refl _, by simp only [maxLen]; omega, by simp only [maxN]; omega, (fun h => by cases h), fun _ => rfl, fun j hj => ?_⟩
  rw [Nat.zero_add, cell_of_row w g j _ _ _ h]
  simp [bvF, List.getD, hj]
theorem rows_lit {w : World} {g : Nat} (ll : List (List Int)) (vals : List Value) (h : w.heap[g]? = some (.cells vals.toArray 22 (0, 0))) (hl : vals.length = ll.length) (hn : ll.length ≤ 3000) (hr : ∀ j, j < ll.length → IsInts w (vals.getD j undef) (ll.getD j [])) : IsRows w (.slice (some ⟨g, 0, none⟩) ll.length ll.length) ll := by
  refine ⟨fun j => vals.getD j undef, ⟨_, _, g, 0, rfl, Nat.le_refl _, by simp only [maxLen]; omega, by simp only [maxN]; omega, (fun h => by cases h), fun _ => rfl, fun j hj => ?_⟩, hr⟩
  rw [Nat.zero_add, cell_of_row w g j _ _ _ h]
  simp [List.getD, show j < vals.length by omega]
/-- A box in new memory. -/
theorem box_new {w0 w : World} {B : Nat} (hb : Below B w0 w) (hB : B ≤ w.heap.size) (cs : Array Value) (t : TypeId) : (w.alloc (.cells cs t)).heap[w.heap.size]? = some (.cells cs t (0, 0)) ∧ Below w.heap.size w (w.alloc (.cells cs t)) ∧ Below B w0 (w.alloc (.cells cs t)) :=
  ⟨heap_alloc_new _ _, bel_box _, hb.trans ((bel_box _).mono hB)⟩

deriving instance DecidableEq for Ph
/-- The example of the chapter. -/
def exG : Gm := ⟨[0, 1, 0], [1, 2, 3], [[1, 2], [0, 1], [0]]⟩
theorem ex_p : playR exG [2, -1, 0] [-1, 1, -1] 1 = ⟨[], [1]⟩ := by decide +kernel
theorem ex_q : playR exG [2, -1, 0] [-1, 0, -1] 1 = ⟨[1], [0, 2]⟩ := by decide +kernel
theorem ex_v1 : stB exG 0 [true, true, true] [1, -1, 0] = true := by decide +kernel
theorem ex_w1 : winB exG 0 [true, true, true] [1, -1, 0] = false := by decide +kernel
theorem ex_v2 : stB exG 0 [false, true, false] [-1, -1, -1] = false := by decide +kernel
theorem ex_w2 : winB exG 1 [true, true, true] [-1, 0, -1] = true := by decide +kernel
theorem ex_r1 : winrB exG ⟨[], [1]⟩ = 0 := by decide +kernel
theorem ex_r2 : winrB exG ⟨[1], [0, 2]⟩ = 1 := by decide +kernel
theorem ex_r3 : winrB exG ⟨[], [0]⟩ = -1 := by decide +kernel
theorem ex_n : playR exG [] [] 0 = ⟨[], []⟩ := by decide +kernel

set_option maxRecDepth 100000 in
set_option maxHeartbeats 4000000 in
theorem Example_c (w : World) : Calls Try.prog 28 #[] w (NewGame exG w) := by
  go_enter Try.func28, Try.ntmps28
  go_wp2_with fail
  have hb : Below w.heap.size w (((((((w.alloc (.cells #[.slice (some ⟨w.heap.size + 1, 0, none⟩) 3 3, .slice (some ⟨w.heap.size + 1 + 1, 0, none⟩) 3 3, .slice (some ⟨w.heap.size + 1 + 1 + 1 + 1 + 1 + 1, 0, none⟩) 3 3] 25)).alloc (.cells #[.int .i64 0, .int .i64 1, .int .i64 0] 3)).alloc (.cells #[.int .i64 1, .int .i64 2, .int .i64 3] 3)).alloc (.cells #[.int .i64 1, .int .i64 2] 3)).alloc (.cells #[.int .i64 0, .int .i64 1] 3)).alloc (.cells #[.int .i64 0] 3)).alloc (.cells #[.slice (some ⟨w.heap.size + 1 + 1 + 1, 0, none⟩) 2 2, .slice (some ⟨w.heap.size + 1 + 1 + 1 + 1, 0, none⟩) 2 2, .slice (some ⟨w.heap.size + 1 + 1 + 1 + 1 + 1, 0, none⟩) 1 1] 22)) := (by repeat (first | exact Below.refl _ _ | assumption | (refine belA ?_ _) | (refine belD ?_ _)))
  have x0 : (((((((w.alloc (.cells #[.slice (some ⟨w.heap.size + 1, 0, none⟩) 3 3, .slice (some ⟨w.heap.size + 1 + 1, 0, none⟩) 3 3, .slice (some ⟨w.heap.size + 1 + 1 + 1 + 1 + 1 + 1, 0, none⟩) 3 3] 25)).alloc (.cells #[.int .i64 0, .int .i64 1, .int .i64 0] 3)).alloc (.cells #[.int .i64 1, .int .i64 2, .int .i64 3] 3)).alloc (.cells #[.int .i64 1, .int .i64 2] 3)).alloc (.cells #[.int .i64 0, .int .i64 1] 3)).alloc (.cells #[.int .i64 0] 3)).alloc (.cells #[.slice (some ⟨w.heap.size + 1 + 1 + 1, 0, none⟩) 2 2, .slice (some ⟨w.heap.size + 1 + 1 + 1 + 1, 0, none⟩) 2 2, .slice (some ⟨w.heap.size + 1 + 1 + 1 + 1 + 1, 0, none⟩) 1 1] 22)).heap[w.heap.size]? = some (.cells #[.slice (some ⟨w.heap.size + 1, 0, none⟩) 3 3, .slice (some ⟨w.heap.size + 1 + 1, 0, none⟩) 3 3, .slice (some ⟨w.heap.size + 1 + 1 + 1 + 1 + 1 + 1, 0, none⟩) 3 3] 25 (0, 0)) := (by (repeat (rw [alloc_get]; first | rw [if_pos (by first | (simp; done) | (simp; omega))] | rw [if_neg (by first | (simp; done) | (simp; omega))])); (try rfl))
  have x1 : (((((((w.alloc (.cells #[.slice (some ⟨w.heap.size + 1, 0, none⟩) 3 3, .slice (some ⟨w.heap.size + 1 + 1, 0, none⟩) 3 3, .slice (some ⟨w.heap.size + 1 + 1 + 1 + 1 + 1 + 1, 0, none⟩) 3 3] 25)).alloc (.cells #[.int .i64 0, .int .i64 1, .int .i64 0] 3)).alloc (.cells #[.int .i64 1, .int .i64 2, .int .i64 3] 3)).alloc (.cells #[.int .i64 1, .int .i64 2] 3)).alloc (.cells #[.int .i64 0, .int .i64 1] 3)).alloc (.cells #[.int .i64 0] 3)).alloc (.cells #[.slice (some ⟨w.heap.size + 1 + 1 + 1, 0, none⟩) 2 2, .slice (some ⟨w.heap.size + 1 + 1 + 1 + 1, 0, none⟩) 2 2, .slice (some ⟨w.heap.size + 1 + 1 + 1 + 1 + 1, 0, none⟩) 1 1] 22)).heap[w.heap.size + 1]? = some (.cells #[.int .i64 0, .int .i64 1, .int .i64 0] 3 (0, 0)) := (by (repeat (rw [alloc_get]; first | rw [if_pos (by first | (simp; done) | (simp; omega))] | rw [if_neg (by first | (simp; done) | (simp; omega))])); (try rfl))
  have x2 : (((((((w.alloc (.cells #[.slice (some ⟨w.heap.size + 1, 0, none⟩) 3 3, .slice (some ⟨w.heap.size + 1 + 1, 0, none⟩) 3 3, .slice (some ⟨w.heap.size + 1 + 1 + 1 + 1 + 1 + 1, 0, none⟩) 3 3] 25)).alloc (.cells #[.int .i64 0, .int .i64 1, .int .i64 0] 3)).alloc (.cells #[.int .i64 1, .int .i64 2, .int .i64 3] 3)).alloc (.cells #[.int .i64 1, .int .i64 2] 3)).alloc (.cells #[.int .i64 0, .int .i64 1] 3)).alloc (.cells #[.int .i64 0] 3)).alloc (.cells #[.slice (some ⟨w.heap.size + 1 + 1 + 1, 0, none⟩) 2 2, .slice (some ⟨w.heap.size + 1 + 1 + 1 + 1, 0, none⟩) 2 2, .slice (some ⟨w.heap.size + 1 + 1 + 1 + 1 + 1, 0, none⟩) 1 1] 22)).heap[w.heap.size + 1 + 1]? = some (.cells #[.int .i64 1, .int .i64 2, .int .i64 3] 3 (0, 0)) := (by (repeat (rw [alloc_get]; first | rw [if_pos (by first | (simp; done) | (simp; omega))] | rw [if_neg (by first | (simp; done) | (simp; omega))])); (try rfl))
  have x3 : (((((((w.alloc (.cells #[.slice (some ⟨w.heap.size + 1, 0, none⟩) 3 3, .slice (some ⟨w.heap.size + 1 + 1, 0, none⟩) 3 3, .slice (some ⟨w.heap.size + 1 + 1 + 1 + 1 + 1 + 1, 0, none⟩) 3 3] 25)).alloc (.cells #[.int .i64 0, .int .i64 1, .int .i64 0] 3)).alloc (.cells #[.int .i64 1, .int .i64 2, .int .i64 3] 3)).alloc (.cells #[.int .i64 1, .int .i64 2] 3)).alloc (.cells #[.int .i64 0, .int .i64 1] 3)).alloc (.cells #[.int .i64 0] 3)).alloc (.cells #[.slice (some ⟨w.heap.size + 1 + 1 + 1, 0, none⟩) 2 2, .slice (some ⟨w.heap.size + 1 + 1 + 1 + 1, 0, none⟩) 2 2, .slice (some ⟨w.heap.size + 1 + 1 + 1 + 1 + 1, 0, none⟩) 1 1] 22)).heap[w.heap.size + 1 + 1 + 1]? = some (.cells #[.int .i64 1, .int .i64 2] 3 (0, 0)) := (by (repeat (rw [alloc_get]; first | rw [if_pos (by first | (simp; done) | (simp; omega))] | rw [if_neg (by first | (simp; done) | (simp; omega))])); (try rfl))
  have x4 : (((((((w.alloc (.cells #[.slice (some ⟨w.heap.size + 1, 0, none⟩) 3 3, .slice (some ⟨w.heap.size + 1 + 1, 0, none⟩) 3 3, .slice (some ⟨w.heap.size + 1 + 1 + 1 + 1 + 1 + 1, 0, none⟩) 3 3] 25)).alloc (.cells #[.int .i64 0, .int .i64 1, .int .i64 0] 3)).alloc (.cells #[.int .i64 1, .int .i64 2, .int .i64 3] 3)).alloc (.cells #[.int .i64 1, .int .i64 2] 3)).alloc (.cells #[.int .i64 0, .int .i64 1] 3)).alloc (.cells #[.int .i64 0] 3)).alloc (.cells #[.slice (some ⟨w.heap.size + 1 + 1 + 1, 0, none⟩) 2 2, .slice (some ⟨w.heap.size + 1 + 1 + 1 + 1, 0, none⟩) 2 2, .slice (some ⟨w.heap.size + 1 + 1 + 1 + 1 + 1, 0, none⟩) 1 1] 22)).heap[w.heap.size + 1 + 1 + 1 + 1]? = some (.cells #[.int .i64 0, .int .i64 1] 3 (0, 0)) := (by (repeat (rw [alloc_get]; first | rw [if_pos (by first | (simp; done) | (simp; omega))] | rw [if_neg (by first | (simp; done) | (simp; omega))])); (try rfl))
  have x5 : (((((((w.alloc (.cells #[.slice (some ⟨w.heap.size + 1, 0, none⟩) 3 3, .slice (some ⟨w.heap.size + 1 + 1, 0, none⟩) 3 3, .slice (some ⟨w.heap.size + 1 + 1 + 1 + 1 + 1 + 1, 0, none⟩) 3 3] 25)).alloc (.cells #[.int .i64 0, .int .i64 1, .int .i64 0] 3)).alloc (.cells #[.int .i64 1, .int .i64 2, .int .i64 3] 3)).alloc (.cells #[.int .i64 1, .int .i64 2] 3)).alloc (.cells #[.int .i64 0, .int .i64 1] 3)).alloc (.cells #[.int .i64 0] 3)).alloc (.cells #[.slice (some ⟨w.heap.size + 1 + 1 + 1, 0, none⟩) 2 2, .slice (some ⟨w.heap.size + 1 + 1 + 1 + 1, 0, none⟩) 2 2, .slice (some ⟨w.heap.size + 1 + 1 + 1 + 1 + 1, 0, none⟩) 1 1] 22)).heap[w.heap.size + 1 + 1 + 1 + 1 + 1]? = some (.cells #[.int .i64 0] 3 (0, 0)) := (by (repeat (rw [alloc_get]; first | rw [if_pos (by first | (simp; done) | (simp; omega))] | rw [if_neg (by first | (simp; done) | (simp; omega))])); (try rfl))
  have x6 : (((((((w.alloc (.cells #[.slice (some ⟨w.heap.size + 1, 0, none⟩) 3 3, .slice (some ⟨w.heap.size + 1 + 1, 0, none⟩) 3 3, .slice (some ⟨w.heap.size + 1 + 1 + 1 + 1 + 1 + 1, 0, none⟩) 3 3] 25)).alloc (.cells #[.int .i64 0, .int .i64 1, .int .i64 0] 3)).alloc (.cells #[.int .i64 1, .int .i64 2, .int .i64 3] 3)).alloc (.cells #[.int .i64 1, .int .i64 2] 3)).alloc (.cells #[.int .i64 0, .int .i64 1] 3)).alloc (.cells #[.int .i64 0] 3)).alloc (.cells #[.slice (some ⟨w.heap.size + 1 + 1 + 1, 0, none⟩) 2 2, .slice (some ⟨w.heap.size + 1 + 1 + 1 + 1, 0, none⟩) 2 2, .slice (some ⟨w.heap.size + 1 + 1 + 1 + 1 + 1, 0, none⟩) 1 1] 22)).heap[w.heap.size + 1 + 1 + 1 + 1 + 1 + 1]? = some (.cells #[.slice (some ⟨w.heap.size + 1 + 1 + 1, 0, none⟩) 2 2, .slice (some ⟨w.heap.size + 1 + 1 + 1 + 1, 0, none⟩) 2 2, .slice (some ⟨w.heap.size + 1 + 1 + 1 + 1 + 1, 0, none⟩) 1 1] 22 (0, 0)) := (by (repeat (rw [alloc_get]; first | rw [if_pos (by first | (simp; done) | (simp; omega))] | rw [if_neg (by first | (simp; done) | (simp; omega))])); (try rfl))
  generalize (((((((w.alloc (.cells #[.slice (some ⟨w.heap.size + 1, 0, none⟩) 3 3, .slice (some ⟨w.heap.size + 1 + 1, 0, none⟩) 3 3, .slice (some ⟨w.heap.size + 1 + 1 + 1 + 1 + 1 + 1, 0, none⟩) 3 3] 25)).alloc (.cells #[.int .i64 0, .int .i64 1, .int .i64 0] 3)).alloc (.cells #[.int .i64 1, .int .i64 2, .int .i64 3] 3)).alloc (.cells #[.int .i64 1, .int .i64 2] 3)).alloc (.cells #[.int .i64 0, .int .i64 1] 3)).alloc (.cells #[.int .i64 0] 3)).alloc (.cells #[.slice (some ⟨w.heap.size + 1 + 1 + 1, 0, none⟩) 2 2, .slice (some ⟨w.heap.size + 1 + 1 + 1 + 1, 0, none⟩) 2 2, .slice (some ⟨w.heap.size + 1 + 1 + 1 + 1 + 1, 0, none⟩) 1 1] 22)) = w6 at *
  have k0 := cell_of_row _ _ 0 _ _ _ x0
  have k1 := cell_of_row _ _ 1 _ _ _ x0
  have k2 := cell_of_row _ _ 2 _ _ _ x0
  refine bodyPost_ret (v := .agg #[.slice (some ⟨w.heap.size + 1, 0, none⟩) 3 3, .slice (some ⟨w.heap.size + 1 + 1, 0, none⟩) 3 3, .slice (some ⟨w.heap.size + 1 + 1 + 1 + 1 + 1 + 1, 0, none⟩) 3 3]) (by simp [results, Try.results28, go_sem, k0, k1, k2]) rfl ?_
  have r3 := ints_lit [1, 2] x3 (by decide) (by simp [I64])
  have r4 := ints_lit [0, 1] x4 (by decide) (by simp [I64])
  have r5 := ints_lit [0] x5 (by decide) (by simp [I64])
  refine ⟨_, rfl, ⟨_, _, _, rfl, ints_lit [0, 1, 0] x1 (by decide) (by simp [I64]), ints_lit [1, 2, 3] x2 (by decide) (by simp [I64]), rows_lit [[1, 2], [0, 1], [0]] [.slice (some ⟨w.heap.size + 1 + 1 + 1, 0, none⟩) 2 2, .slice (some ⟨w.heap.size + 1 + 1 + 1 + 1, 0, none⟩) 2 2, .slice (some ⟨w.heap.size + 1 + 1 + 1 + 1 + 1, 0, none⟩) 1 1] x6 rfl (by decide) (fun j hj => ?_)⟩, hb⟩
  match j, hj with
  | 0, _ => exact r3
  | 1, _ => exact r4
  | 2, _ => exact r5
  | q + 3, h => exact absurd h (by simp)

end Go.Proofs.Ytkbiopjinegckaa
