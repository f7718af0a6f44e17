/- The example of the chapter. -/
import Derived.Test.YtjadeffdcbchnaaDoorAr27
namespace Go.Proofs.YtjadeffdcbchnaaDoor
open Go.RowKit

theorem ints_lit {w : World} {g : Nat} (l : List Int) (h : w.heap[g]? = some (.cells (l.map (Value.int .i64)).toArray 3 (0, 0))) (hn : l.length ≤ 3000) (hI : ∀ x ∈ l, I64 x) : IsInts w (.slice (some ⟨g, 0, none⟩) l.length l.length) l := by
  refine ⟨⟨_, _, g, 0, rfl, Nat.le_refl _, by simp only [maxLen]; omega, by simp only [maxN]; omega, (fun h => by cases h), fun _ => rfl, fun j hj => ?_⟩, hI⟩
  rw [Nat.zero_add, cell_of_row w g j _ _ _ h]
  simp [ivF, List.getD, hj]
theorem bools_lit {w : World} {g : Nat} (l : List Bool) (h : w.heap[g]? = some (.cells (l.map Value.bool).toArray 4 (0, 0))) (hn : l.length ≤ 3000) : IsBools w (.slice (some ⟨g, 0, none⟩) l.length l.length) l := by
  refine ⟨_, _, g, 0, rfl, Nat.le_refl _, by simp only [maxLen]; omega, by simp only [maxN]; omega, (fun h => by cases h), fun _ => rfl, fun j hj => ?_⟩
  rw [Nat.zero_add, cell_of_row w g j _ _ _ h]
  simp [bvF, List.getD, hj]
theorem rows_lit {w : World} {g : Nat} (ll : List (List Int)) (vals : List Value) (h : w.heap[g]? = some (.cells vals.toArray 26 (0, 0))) (hl : vals.length = ll.length) (hn : ll.length ≤ 3000) (hr : ∀ j, j < ll.length → IsInts w (vals.getD j undef) (ll.getD j [])) : IsRows w (.slice (some ⟨g, 0, none⟩) ll.length ll.length) ll := by
  refine ⟨fun j => vals.getD j undef, ⟨_, _, g, 0, rfl, Nat.le_refl _, by simp only [maxLen]; omega, by simp only [maxN]; omega, (fun h => by cases h), fun _ => rfl, fun j hj => ?_⟩, hr⟩
  rw [Nat.zero_add, cell_of_row w g j _ _ _ h]
  simp [List.getD, show j < vals.length by omega]
theorem pls_lit {w : World} {g : Nat} (l : List Pl) (h : w.heap[g]? = some (.cells (plsC l).toArray 48 (0, 0))) (hn : l.length ≤ 3000) (hI : ∀ y ∈ l, WfP y) : IsPls w (.slice (some ⟨g, 0, none⟩) l.length l.length) l := by
  have hc : ∀ j k (hj : j < l.length), k < 3 → w.cell? ⟨g, j * 3 + k, none⟩ = (plCs l[j])[k]? := fun j k hj hk => by
    rw [cell_of_row w g _ _ _ _ h, ← plsC_get l j k hj hk]; simp
  refine ⟨_, _, g, 0, rfl, ⟨Nat.le_refl _, by simp only [maxLen]; omega, by simp only [maxN]; omega, (fun h => by cases h), fun _ => rfl, fun j hj => ?_, fun j hj => ?_, fun j hj => ?_⟩, hI⟩
  · rw [Nat.zero_add]; exact hc j 0 hj (by omega)
  · rw [Nat.zero_add]; exact hc j 1 hj (by omega)
  · rw [Nat.zero_add]; exact hc j 2 hj (by omega)

/-- What Example hands back. -/
def ExOut (w : World) (e : Ending) (w' : World) : Prop := ∃ bl b2 b3 : Nat, e = .returned (.tuple #[.slice (some ⟨bl, 0, none⟩) 2 2, .agg #[.int .i64 4, .int .i64 0, .slice (some ⟨b2, 0, none⟩) 1 1, .slice (some ⟨b3, 0, none⟩) 1 1]]) ∧
  SArr w' (some ⟨bl, 0, none⟩) 2 bl 0 exL ∧ IsAuto w' (.agg #[.int .i64 4, .int .i64 0, .slice (some ⟨b2, 0, none⟩) 1 1, .slice (some ⟨b3, 0, none⟩) 1 1]) exA ∧ Below w.heap.size w w'

set_option maxRecDepth 100000 in
set_option maxHeartbeats 4000000 in
theorem Example_c (w : World) : Calls Tryd.prog 35 #[] w (ExOut w) := by
  go_enter Tryd.func35, Tryd.ntmps35
  go_wp2
  have hb : Below w.heap.size w ((((((w.alloc (.cells #[.int .i64 4, .int .i64 0, .slice (some ⟨w.heap.size + 1 + 1 + 1, 0, none⟩) 1 1, .slice (some ⟨w.heap.size + 1 + 1 + 1 + 1 + 1, 0, none⟩) 1 1] 25)).alloc (.cells #[.string ⟨#[97]⟩, .bool true, .int .i64 2, .string ⟨#[98]⟩, .bool false, .int .i64 2] 68)).alloc (.cells #[.int .i64 0, .int .i64 0, .int .i64 0, .int .i64 0] 3)).alloc (.cells #[.slice (some ⟨w.heap.size + 1 + 1, 0, none⟩) 4 4] 26)).alloc (.cells #[.int .i64 0, .int .i64 1, .int .i64 1, .int .i64 0] 3)).alloc (.cells #[.slice (some ⟨w.heap.size + 1 + 1 + 1 + 1, 0, none⟩) 4 4] 26)) := (by repeat (first | exact Below.refl _ _ | assumption | (refine belA ?_ _) | (refine belD ?_ _)))
  have x0 : ((((((w.alloc (.cells #[.int .i64 4, .int .i64 0, .slice (some ⟨w.heap.size + 1 + 1 + 1, 0, none⟩) 1 1, .slice (some ⟨w.heap.size + 1 + 1 + 1 + 1 + 1, 0, none⟩) 1 1] 25)).alloc (.cells #[.string ⟨#[97]⟩, .bool true, .int .i64 2, .string ⟨#[98]⟩, .bool false, .int .i64 2] 68)).alloc (.cells #[.int .i64 0, .int .i64 0, .int .i64 0, .int .i64 0] 3)).alloc (.cells #[.slice (some ⟨w.heap.size + 1 + 1, 0, none⟩) 4 4] 26)).alloc (.cells #[.int .i64 0, .int .i64 1, .int .i64 1, .int .i64 0] 3)).alloc (.cells #[.slice (some ⟨w.heap.size + 1 + 1 + 1 + 1, 0, none⟩) 4 4] 26)).heap[w.heap.size]? = some (.cells #[.int .i64 4, .int .i64 0, .slice (some ⟨w.heap.size + 1 + 1 + 1, 0, none⟩) 1 1, .slice (some ⟨w.heap.size + 1 + 1 + 1 + 1 + 1, 0, none⟩) 1 1] 25 (0, 0)) := (by (repeat (rw [alloc_get]; first | rw [if_pos (by first | (simp; done) | (simp; omega))] | rw [if_neg (by first | (simp; done) | (simp; omega))])); (try rfl))
  have x1 : ((((((w.alloc (.cells #[.int .i64 4, .int .i64 0, .slice (some ⟨w.heap.size + 1 + 1 + 1, 0, none⟩) 1 1, .slice (some ⟨w.heap.size + 1 + 1 + 1 + 1 + 1, 0, none⟩) 1 1] 25)).alloc (.cells #[.string ⟨#[97]⟩, .bool true, .int .i64 2, .string ⟨#[98]⟩, .bool false, .int .i64 2] 68)).alloc (.cells #[.int .i64 0, .int .i64 0, .int .i64 0, .int .i64 0] 3)).alloc (.cells #[.slice (some ⟨w.heap.size + 1 + 1, 0, none⟩) 4 4] 26)).alloc (.cells #[.int .i64 0, .int .i64 1, .int .i64 1, .int .i64 0] 3)).alloc (.cells #[.slice (some ⟨w.heap.size + 1 + 1 + 1 + 1, 0, none⟩) 4 4] 26)).heap[w.heap.size + 1]? = some (.cells #[.string ⟨#[97]⟩, .bool true, .int .i64 2, .string ⟨#[98]⟩, .bool false, .int .i64 2] 68 (0, 0)) := (by (repeat (rw [alloc_get]; first | rw [if_pos (by first | (simp; done) | (simp; omega))] | rw [if_neg (by first | (simp; done) | (simp; omega))])); (try rfl))
  have x2 : ((((((w.alloc (.cells #[.int .i64 4, .int .i64 0, .slice (some ⟨w.heap.size + 1 + 1 + 1, 0, none⟩) 1 1, .slice (some ⟨w.heap.size + 1 + 1 + 1 + 1 + 1, 0, none⟩) 1 1] 25)).alloc (.cells #[.string ⟨#[97]⟩, .bool true, .int .i64 2, .string ⟨#[98]⟩, .bool false, .int .i64 2] 68)).alloc (.cells #[.int .i64 0, .int .i64 0, .int .i64 0, .int .i64 0] 3)).alloc (.cells #[.slice (some ⟨w.heap.size + 1 + 1, 0, none⟩) 4 4] 26)).alloc (.cells #[.int .i64 0, .int .i64 1, .int .i64 1, .int .i64 0] 3)).alloc (.cells #[.slice (some ⟨w.heap.size + 1 + 1 + 1 + 1, 0, none⟩) 4 4] 26)).heap[w.heap.size + 1 + 1]? = some (.cells #[.int .i64 0, .int .i64 0, .int .i64 0, .int .i64 0] 3 (0, 0)) := (by (repeat (rw [alloc_get]; first | rw [if_pos (by first | (simp; done) | (simp; omega))] | rw [if_neg (by first | (simp; done) | (simp; omega))])); (try rfl))
  have x3 : ((((((w.alloc (.cells #[.int .i64 4, .int .i64 0, .slice (some ⟨w.heap.size + 1 + 1 + 1, 0, none⟩) 1 1, .slice (some ⟨w.heap.size + 1 + 1 + 1 + 1 + 1, 0, none⟩) 1 1] 25)).alloc (.cells #[.string ⟨#[97]⟩, .bool true, .int .i64 2, .string ⟨#[98]⟩, .bool false, .int .i64 2] 68)).alloc (.cells #[.int .i64 0, .int .i64 0, .int .i64 0, .int .i64 0] 3)).alloc (.cells #[.slice (some ⟨w.heap.size + 1 + 1, 0, none⟩) 4 4] 26)).alloc (.cells #[.int .i64 0, .int .i64 1, .int .i64 1, .int .i64 0] 3)).alloc (.cells #[.slice (some ⟨w.heap.size + 1 + 1 + 1 + 1, 0, none⟩) 4 4] 26)).heap[w.heap.size + 1 + 1 + 1]? = some (.cells #[.slice (some ⟨w.heap.size + 1 + 1, 0, none⟩) 4 4] 26 (0, 0)) := (by (repeat (rw [alloc_get]; first | rw [if_pos (by first | (simp; done) | (simp; omega))] | rw [if_neg (by first | (simp; done) | (simp; omega))])); (try rfl))
  have x4 : ((((((w.alloc (.cells #[.int .i64 4, .int .i64 0, .slice (some ⟨w.heap.size + 1 + 1 + 1, 0, none⟩) 1 1, .slice (some ⟨w.heap.size + 1 + 1 + 1 + 1 + 1, 0, none⟩) 1 1] 25)).alloc (.cells #[.string ⟨#[97]⟩, .bool true, .int .i64 2, .string ⟨#[98]⟩, .bool false, .int .i64 2] 68)).alloc (.cells #[.int .i64 0, .int .i64 0, .int .i64 0, .int .i64 0] 3)).alloc (.cells #[.slice (some ⟨w.heap.size + 1 + 1, 0, none⟩) 4 4] 26)).alloc (.cells #[.int .i64 0, .int .i64 1, .int .i64 1, .int .i64 0] 3)).alloc (.cells #[.slice (some ⟨w.heap.size + 1 + 1 + 1 + 1, 0, none⟩) 4 4] 26)).heap[w.heap.size + 1 + 1 + 1 + 1]? = some (.cells #[.int .i64 0, .int .i64 1, .int .i64 1, .int .i64 0] 3 (0, 0)) := (by (repeat (rw [alloc_get]; first | rw [if_pos (by first | (simp; done) | (simp; omega))] | rw [if_neg (by first | (simp; done) | (simp; omega))])); (try rfl))
  have x5 : ((((((w.alloc (.cells #[.int .i64 4, .int .i64 0, .slice (some ⟨w.heap.size + 1 + 1 + 1, 0, none⟩) 1 1, .slice (some ⟨w.heap.size + 1 + 1 + 1 + 1 + 1, 0, none⟩) 1 1] 25)).alloc (.cells #[.string ⟨#[97]⟩, .bool true, .int .i64 2, .string ⟨#[98]⟩, .bool false, .int .i64 2] 68)).alloc (.cells #[.int .i64 0, .int .i64 0, .int .i64 0, .int .i64 0] 3)).alloc (.cells #[.slice (some ⟨w.heap.size + 1 + 1, 0, none⟩) 4 4] 26)).alloc (.cells #[.int .i64 0, .int .i64 1, .int .i64 1, .int .i64 0] 3)).alloc (.cells #[.slice (some ⟨w.heap.size + 1 + 1 + 1 + 1, 0, none⟩) 4 4] 26)).heap[w.heap.size + 1 + 1 + 1 + 1 + 1]? = some (.cells #[.slice (some ⟨w.heap.size + 1 + 1 + 1 + 1, 0, none⟩) 4 4] 26 (0, 0)) := (by (repeat (rw [alloc_get]; first | rw [if_pos (by first | (simp; done) | (simp; omega))] | rw [if_neg (by first | (simp; done) | (simp; omega))])); (try rfl))
  generalize ((((((w.alloc (.cells #[.int .i64 4, .int .i64 0, .slice (some ⟨w.heap.size + 1 + 1 + 1, 0, none⟩) 1 1, .slice (some ⟨w.heap.size + 1 + 1 + 1 + 1 + 1, 0, none⟩) 1 1] 25)).alloc (.cells #[.string ⟨#[97]⟩, .bool true, .int .i64 2, .string ⟨#[98]⟩, .bool false, .int .i64 2] 68)).alloc (.cells #[.int .i64 0, .int .i64 0, .int .i64 0, .int .i64 0] 3)).alloc (.cells #[.slice (some ⟨w.heap.size + 1 + 1, 0, none⟩) 4 4] 26)).alloc (.cells #[.int .i64 0, .int .i64 1, .int .i64 1, .int .i64 0] 3)).alloc (.cells #[.slice (some ⟨w.heap.size + 1 + 1 + 1 + 1, 0, none⟩) 4 4] 26)) = w6 at *
  have k0 := cell_of_row _ _ 0 _ _ _ x0
  have k1 := cell_of_row _ _ 1 _ _ _ x0
  have k2 := cell_of_row _ _ 2 _ _ _ x0
  have k3 := cell_of_row _ _ 3 _ _ _ x0
  refine bodyPost_ret (v := .tuple #[.slice (some ⟨w.heap.size + 1, 0, none⟩) 2 2, .agg #[.int .i64 4, .int .i64 0, .slice (some ⟨w.heap.size + 1 + 1 + 1, 0, none⟩) 1 1, .slice (some ⟨w.heap.size + 1 + 1 + 1 + 1 + 1, 0, none⟩) 1 1]]) (by simp [results, Tryd.results35, go_sem, k0, k1, k2, k3]) rfl ?_
  have r1 := ints_lit [0, 0, 0, 0] x2 (by decide) (by simp [I64])
  have r2 := ints_lit [0, 1, 1, 0] x4 (by decide) (by simp [I64])
  have r3 := rows_lit [[0, 0, 0, 0]] [.slice (some ⟨w.heap.size + 1 + 1, 0, none⟩) 4 4] x3 rfl (by decide) (fun j hj => by
    obtain rfl : j = 0 := by simp at hj; omega
    exact r1)
  have r4 := rows_lit [[0, 1, 1, 0]] [.slice (some ⟨w.heap.size + 1 + 1 + 1 + 1, 0, none⟩) 4 4] x5 rfl (by decide) (fun j hj => by
    obtain rfl : j = 0 := by simp at hj; omega
    exact r2)
  have c : ∀ k v, #[Value.string ⟨#[97]⟩, .bool true, .int .i64 2, .string ⟨#[98]⟩, .bool false, .int .i64 2][k]? = some v → w6.cell? ⟨w.heap.size + 1, k, none⟩ = some v := fun k v hv => (cell_of_row _ _ k _ _ _ x1).trans hv
  refine ⟨_, _, _, rfl, ⟨by decide, by decide, by decide, fun _ => rfl, fun j hj => ?_, fun j hj => ?_, fun j hj => ?_, by simp [exL, I64], by decide⟩, ⟨_, _, rfl, by simp [exA, I64], r3, r4⟩, hb⟩
  all_goals
    rw [Nat.zero_add]
    match j, hj with
    | 0, _ => exact c _ _ rfl
    | 1, _ => exact c _ _ rfl
    | q + 2, h => exact absurd h (by simp [exL])

end Go.Proofs.YtjadeffdcbchnaaDoor
