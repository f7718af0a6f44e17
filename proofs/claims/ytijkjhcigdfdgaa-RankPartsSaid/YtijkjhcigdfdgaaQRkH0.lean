/- The examples (plain). -/
import Derived.Test.YtijkjhcigdfdgaaQRkL0
namespace Go.Proofs.Ytijkjhcigdfdgaa

def exG : Gm := ⟨[0, 1], [1, 2], [[0, 1], [1]]⟩
def exS : Gm := ⟨[1, 0], [2, 3], [[0, 1], [1]]⟩
/-- The first k positions of the great example. -/
def manyK (k : Nat) : Gm := ⟨(List.range k).map fun _ => 0, (List.range k).map fun i => ((1 + 2 * (i % 3) : Nat) : Int), (List.range k).map fun (i : Nat) => [(i : Int)]⟩
def manyG : Gm := manyK 300
theorem ex_valid : validB exG = true := by decide +kernel
theorem exS_valid : validB exS = true := by decide +kernel
theorem ex_view0 : viewG exG 0 = some exG := by decide +kernel
theorem ex_view1 : viewG exG 1 = some exS := by decide +kernel
theorem ex_view2 : viewG exG 2 = none := by decide +kernel
theorem ex_mo : moG exG = [1] := by decide +kernel
theorem exS_mo : moG exS = [0, 1] := by decide +kernel
theorem ex_least : LeastP exG 2 [1] (fun v => if v = 0 then 1 else 0) := by
  have hE : RE exG 2 := re_valid ex_valid
  have h1 := (Und.zero (g := exG) (n := 2) (mo := [1])).raise hE (v := 0) (by decide)
  have e : needN exG [1] (fun _ => 0) 0 = 1 := by decide +kernel
  rw [e] at h1
  refine h1.done hE fun v hv => ?_
  match v, hv with
  | 0, _ => decide +kernel
  | 1, _ => decide +kernel
theorem exS_least : LeastP exS 2 [0, 1] (fun _ => 2) := by
  have hE : RE exS 2 := re_valid exS_valid
  have h1 := (Und.zero (g := exS) (n := 2) (mo := [0, 1])).raise hE (v := 1) (by decide)
  have e : needN exS [0, 1] (fun _ => 0) 1 = 1 := by decide +kernel
  rw [e] at h1
  have h2 := h1.raise hE (v := 1) (by decide)
  have e2 : needN exS [0, 1] (fun u => if u = 1 then 1 else 0) 1 = 2 := by decide +kernel
  rw [e2] at h2
  have h3 := h2.raise hE (v := 0) (by decide)
  have e3 : needN exS [0, 1] (fun u => if u = 1 then 2 else if u = 1 then 1 else 0) 0 = 2 := by decide +kernel
  rw [e3] at h3
  have h4 := h3.done hE fun v hv => by
    match v, hv with
    | 0, _ => decide +kernel
    | 1, _ => decide +kernel
  have hu : Und exS 2 [0, 1] (fun _ => 2) := fun f' hf v hv => by
    have := h3 f' hf v hv
    match v, hv with
    | 0, _ => exact this
    | 1, _ => exact this
  exact hu.done hE fun v hv => by
    match v, hv with
    | 0, _ => decide +kernel
    | 1, _ => decide +kernel
theorem meas_of {h : Gm} {f : Nat → Nat} (hw : ¬ 2000000 < workN h.owner.length (moG h)) (hf : LeastP h h.owner.length (moG h) f) : measV h = (rowsF (moG h) f h.owner.length, 0) := by
  rw [measV_ok hw, rowsF_congr fun v hv => lfp_eq hf hv]
theorem ex_meas0 : measG exG 0 = ([[1], [0]], 0) := by
  unfold measG
  rw [ex_view0]
  show measV exG = _
  rw [meas_of (f := fun v => if v = 0 then 1 else 0) (by decide +kernel) (by rw [ex_mo]; exact ex_least), ex_mo]
  decide +kernel
theorem ex_meas1 : measG exG 1 = ([[], []], 0) := by
  unfold measG
  rw [ex_view1]
  show measV exS = _
  rw [meas_of (f := fun _ => 2) (by decide +kernel) (by rw [exS_mo]; exact exS_least), exS_mo]
  decide +kernel
theorem ex_meas2 : measG exG 2 = ([], 1) := by
  unfold measG
  rw [ex_view2]
theorem ex_cho0 : choG exG 0 [[1], [0]] = [1, -1] := by
  unfold choG; rw [ex_view0]; decide +kernel
theorem ex_cho1 : choG exG 1 [[], []] = [-1, -1] := by
  unfold choG; rw [ex_view1]; decide +kernel
theorem ex_cho2 : choG exG 0 [[0], [0]] = [] := by
  unfold choG; rw [ex_view0]; decide +kernel
theorem ex_val0 : validV exG 0 [[1], [0]] = true := by
  unfold validV; rw [ex_view0]; decide +kernel
theorem ex_val1 : validV exG 0 [[0], [0]] = false := by
  unfold validV; rw [ex_view0]; decide +kernel
theorem ex_val2 : validV exG 0 [[], [0]] = true := by
  unfold validV; rw [ex_view0]; decide +kernel
theorem ex_work0 : workV exG 0 = 4 := by
  unfold workV; rw [ex_view0]; decide +kernel
theorem ex_work1 : workV exG 1 = 4 := by
  unfold workV; rw [ex_view1]; decide +kernel
theorem ex_sol {l : List Int} (h : IsSol exG l) : l = [0, 0] := by
  obtain ⟨h1, h2⟩ := h.2 ex_valid
  have hl : l.length = 2 := h1
  have key : ∀ v, v < 2 → l.getD v 0 = 0 := fun v hv => by
    have hG := rg_valid ex_valid
    have := (LeastP.won (mo := [1]) (by rw [← ex_mo]; exact hG) ex_least h2 hv).1 (by
      match v, hv with
      | 0, _ => decide +kernel
      | 1, _ => decide +kernel)
    exact this
  match l, hl with
  | [x, y], _ =>
    have a := key 0 (by decide)
    have b := key 1 (by decide)
    simp at a b
    rw [a, b]
def manyS : Gm := ⟨(List.range 300).map fun _ => 1, (List.range 300).map fun i => ((2 + 2 * (i % 3) : Nat) : Int), (List.range 300).map fun (i : Nat) => [(i : Int)]⟩
theorem many_view0 : viewG manyG 0 = some manyG := by decide +kernel
theorem many_view1 : viewG manyG 1 = some manyS := by decide +kernel
theorem many_work0 : workV manyG 0 = 2000001 := by
  unfold workV; rw [many_view0]; decide +kernel
theorem many_meas0 : measG manyG 0 = ([], 2) := by
  unfold measG
  rw [many_view0]
  exact measV_big (by decide +kernel)
theorem many_meas1 : (measG manyG 1).2 = 0 ∧ (measG manyG 1).1.length = 300 := by
  unfold measG
  rw [many_view1]
  show (measV manyS).2 = 0 ∧ (measV manyS).1.length = 300
  rw [measV_ok (by decide +kernel)]
  exact ⟨rfl, by rw [rowsF_len]; decide +kernel⟩
theorem ex_look : LookH exG := ⟨fun i => by
  by_cases h : i < 2
  · match i, h with
    | 0, _ => decide
    | 1, _ => decide
  · have : exG.succ.getD i [] = [] := by simp [exG, List.getD, List.getElem?_eq_none (show ([[0, 1], [1]] : List (List Int)).length ≤ i by simp; omega)]
    rw [this]; simp, by decide, fun _ => by decide +kernel⟩
theorem many_len (k i : Nat) : ((manyK k).succ.getD i []).length ≤ 1 := by
  by_cases h : i < k
  · simp [manyK, List.getD, h]
  · simp [manyK, List.getD, h]
theorem many_look : LookH manyG := ⟨fun i => by have := many_len 300 i; show ((manyK 300).succ.getD i []).length ≤ 1000; omega, by decide +kernel, fun _ => by decide +kernel⟩

end Go.Proofs.Ytijkjhcigdfdgaa
