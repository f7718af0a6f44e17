/- What head computes: true. -/
import Derived.Test.YtjhafakkadnfmaaSo22
namespace Go.Proofs.Ytjhafakkadnfmaa
open Go.RowKit

theorem bel3 {w a b : World} {B : Nat} {o : Obj} (h : Below B w a) (k : Below (a.alloc o).heap.size (a.alloc o) b) (hB : B ≤ a.heap.size) : Below B w b :=
  (h.trans ((bel_box o).mono hB)).trans (k.mono (Nat.le_trans hB (bel_box o).size))
theorem Same23_c (w : World) (va vb : Value) (l : List Int) (ha : IsInts w va l) (hb : IsInts w vb l) : Calls Try.prog 12 #[va, vb] w (Calm (.bool true) w) :=
  (Ints23_c w va vb l l ha hb).mono fun e w' h => by have := h.calm; simpa using this
theorem SameB_c (w : World) (va vb : Value) (l : List Bool) (ha : IsBools w va l) (hb : IsBools w vb l) : Calls Try.prog 25 #[va, vb] w (Calm (.bool true) w) :=
  (Bools_c w va vb l l ha hb).mono fun e w' h => by have := h.calm; simpa using this

set_option maxRecDepth 100000 in
set_option maxHeartbeats 8000000 in
theorem head_c (w : World) : Calls Try.prog 10 #[] w (Calm (.bool true) w) := by
  have hB := Below.refl w.heap.size w
  go_enter Try.func10, Try.ntmps10
  go_wp2_with fail
  refine (Example23_c _ _ [1, 1, 0, 1] (ints_block [1, 1, 0, 1] (heap_alloc_new _ _) (by decide) (by simp [I64]))).mono ?_
  rintro e w1 ⟨v, rfl, hg, hb⟩
  replace hB := bel3 hB hb hB.size
  clear hb
  go_wp2_with fail
  refine (SolveR_c _ v (ex23 [1, 1, 0, 1]) hg (ex_sl _)).mono ?_
  rintro e w2 ⟨v2, rfl, hi, hb⟩
  replace hB := hB.trans (hb.mono hB.size)
  rw [ex_sol1] at hi
  clear hb hg
  go_wp2_with fail
  refine (Same23_c _ _ _ [0, 1, 0, 1] (hi.below (bel_box _)) (ints_block [0, 1, 0, 1] (heap_alloc_new _ _) (by decide) (by simp [I64]))).mono ?_
  rintro e w3 ⟨rfl, hb⟩
  replace hB := bel3 hB hb hB.size
  clear hb hi
  go_wp2_with fail
  refine (Example23_c _ _ [0, 1, 1, 2] (ints_block [0, 1, 1, 2] (heap_alloc_new _ _) (by decide) (by simp [I64]))).mono ?_
  rintro e w1 ⟨v, rfl, hg, hb⟩
  replace hB := bel3 hB hb hB.size
  clear hb
  go_wp2_with fail
  refine (SolveR_c _ v (ex23 [0, 1, 1, 2]) hg (ex_sl _)).mono ?_
  rintro e w2 ⟨v2, rfl, hi, hb⟩
  replace hB := hB.trans (hb.mono hB.size)
  rw [ex_sol2] at hi
  clear hb hg
  go_wp2_with fail
  refine (Same23_c _ _ _ [1, 1, 1, 1] (hi.below (bel_box _)) (ints_block [1, 1, 1, 1] (heap_alloc_new _ _) (by decide) (by simp [I64]))).mono ?_
  rintro e w3 ⟨rfl, hb⟩
  replace hB := bel3 hB hb hB.size
  clear hb hi
  go_wp2_with fail
  refine (Example23_c _ _ [0, 1, 3, 2] (ints_block [0, 1, 3, 2] (heap_alloc_new _ _) (by decide) (by simp [I64]))).mono ?_
  rintro e w1 ⟨v, rfl, hg, hb⟩
  replace hB := bel3 hB hb hB.size
  clear hb
  go_wp2_with fail
  refine (SolveR_c _ v (ex23 [0, 1, 3, 2]) hg (ex_sl _)).mono ?_
  rintro e w2 ⟨v2, rfl, hi, hb⟩
  replace hB := hB.trans (hb.mono hB.size)
  rw [ex_sol3] at hi
  clear hb hg
  go_wp2_with fail
  refine (Same23_c _ _ _ [1, 1, 1, 1] (hi.below (bel_box _)) (ints_block [1, 1, 1, 1] (heap_alloc_new _ _) (by decide) (by simp [I64]))).mono ?_
  rintro e w3 ⟨rfl, hb⟩
  replace hB := bel3 hB hb hB.size
  clear hb hi
  go_wp2_with fail
  refine (Example23_c _ _ [0, 2, 2, 4] (ints_block [0, 2, 2, 4] (heap_alloc_new _ _) (by decide) (by simp [I64]))).mono ?_
  rintro e w1 ⟨v, rfl, hg, hb⟩
  replace hB := bel3 hB hb hB.size
  clear hb
  go_wp2_with fail
  refine (SolveR_c _ v (ex23 [0, 2, 2, 4]) hg (ex_sl _)).mono ?_
  rintro e w2 ⟨v2, rfl, hi, hb⟩
  replace hB := hB.trans (hb.mono hB.size)
  rw [ex_sol4] at hi
  clear hb hg
  go_wp2_with fail
  refine (Same23_c _ _ _ [0, 0, 0, 0] (hi.below (bel_box _)) (ints_block [0, 0, 0, 0] (heap_alloc_new _ _) (by decide) (by simp [I64]))).mono ?_
  rintro e w3 ⟨rfl, hb⟩
  replace hB := bel3 hB hb hB.size
  clear hb hi
  go_wp2_with fail
  refine (Example23_c _ _ [1, 1, 0, 1] (ints_block [1, 1, 0, 1] (heap_alloc_new _ _) (by decide) (by simp [I64]))).mono ?_
  rintro e w1 ⟨v, rfl, hg, hb⟩
  replace hB := bel3 hB hb hB.size
  clear hb
  go_wp2_with fail
  refine (Attract_c _ v _ (ex23 [1, 1, 0, 1]) 0 [false, false, true, false] (hg.below (bel_box _)) (bools_block [false, false, true, false] (heap_alloc_new _ _) (by decide)) (ex_sl _)).mono ?_
  rintro e w4 ⟨va, vm, rfl, ha, -, hb⟩
  replace hB := bel3 hB hb hB.size
  rw [show [false, false, true, false].length = 4 from rfl, ex_att.1, if_pos rfl, ex_att.2] at ha
  clear hb hg
  go_wp2_with fail
  have hg0 : IsGame (((w4.alloc (Obj.cells #[.int .i64 0] 3)).alloc (Obj.cells #[.int .i64 0] 3)).alloc (Obj.cells #[.slice none 0 0] 22)) (.agg #[.slice (some ⟨w4.heap.size, 0, none⟩) 1 1, .slice (some ⟨w4.heap.size + 1, 0, none⟩) 1 1, .slice (some ⟨w4.heap.size + 1 + 1, 0, none⟩) 1 1]) ⟨[0], [0], [[]]⟩ := ⟨_, _, _, rfl, ints_block [0] (by (repeat (rw [alloc_get]; first | rw [if_pos (by first | (simp; done) | (simp; omega))] | rw [if_neg (by first | (simp; done) | (simp; omega))])); (try rfl)) (by decide) (by simp [I64]), ints_block [0] (by (repeat (rw [alloc_get]; first | rw [if_pos (by first | (simp; done) | (simp; omega))] | rw [if_neg (by first | (simp; done) | (simp; omega))])); (try rfl)) (by decide) (by simp [I64]), fun _ => .slice none 0 0, ⟨_, _, w4.heap.size + 1 + 1, 0, rfl, Nat.le_refl _, by simp [maxLen], by simp [maxN], (fun h => by cases h), fun _ => rfl, fun j hj => by rw [Nat.zero_add, cell_of_row _ _ j _ 22 (0, 0) (by (repeat (rw [alloc_get]; first | rw [if_pos (by first | (simp; done) | (simp; omega))] | rw [if_neg (by first | (simp; done) | (simp; omega))])); (try rfl))]; (match j, hj with | 0, _ => rfl)⟩, fun j hj => by (match j, hj with | 0, _ => exact ints_nil0 _)⟩
  refine (SolveR_c _ _ ⟨[0], [0], [[]]⟩ hg0 (fun i => by (match i with | 0 => simp | n + 1 => simp))).mono ?_
  rintro e w5 ⟨v5, rfl, hi, hb⟩
  have ha5 := ha.below (Below.trans ((by repeat (first | exact Below.refl _ _ | assumption | (refine belA ?_ _) | (refine belD ?_ _))) : Below w4.heap.size w4 (((w4.alloc (Obj.cells #[.int .i64 0] 3)).alloc (Obj.cells #[.int .i64 0] 3)).alloc (Obj.cells #[.slice none 0 0] 22))) (hb.mono (by simp; omega)))
  replace hB := hB.trans ((((by repeat (first | exact Below.refl _ _ | assumption | (refine belA ?_ _) | (refine belD ?_ _))) : Below w4.heap.size w4 (((w4.alloc (Obj.cells #[.int .i64 0] 3)).alloc (Obj.cells #[.int .i64 0] 3)).alloc (Obj.cells #[.slice none 0 0] 22))).trans (hb.mono (by simp; omega))).mono hB.size)
  rw [ex_sol5] at hi
  obtain ⟨⟨a5, c5, b5, o5, rfl, -⟩, -⟩ := hi
  simp only [List.length_nil]
  clear hb hg0 ha
  go_wp2_with fail
  refine (SameB_c _ _ _ [true, false, true, false] ((ha5.is (by simp [maxN])).below (bel_box _)) (bools_block [true, false, true, false] (heap_alloc_new _ _) (by decide))).mono ?_
  rintro e w6 ⟨rfl, hb⟩
  replace hB := bel3 hB hb hB.size
  clear hb ha5
  go_wp2_with fail
  refine (Example23_c _ _ [0, 0, 0, 0] (ints_block [0, 0, 0, 0] (heap_alloc_new _ _) (by decide) (by simp [I64]))).mono ?_
  rintro e w1 ⟨v, rfl, hg, hb⟩
  replace hB := bel3 hB hb hB.size
  clear hb
  go_wp2_with fail
  refine (AValid_c _ v (ex23 [0, 0, 0, 0]) hg).mono ?_
  rintro e w7 ⟨rfl, hb⟩
  replace hB := hB.trans (hb.mono hB.size)
  rw [ex_valid]
  clear hb hg
  go_wp2
  go_ret
  exact ⟨rfl, hB⟩

end Go.Proofs.Ytjhafakkadnfmaa
