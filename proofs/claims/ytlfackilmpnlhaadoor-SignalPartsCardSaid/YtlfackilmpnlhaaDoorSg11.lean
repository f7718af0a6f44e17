/- Letters as numbers, in plain lists: making one, its digits. -/
import Derived.Test.YtlfackilmpnlhaaDoorSg10
namespace Go.Proofs.YtlfackilmpnlhaaDoor

/-- The letter with some values. -/
def mkL : List Sig → List Int → Option Int
  | [], [] => some 0
  | s :: r, v :: vs => if 0 ≤ v ∧ v < s.size then (mkL r vs).map (fun x => v + s.size * x) else none
  | _, _ => none

def mkR (l : List Sig) (vals : List Int) : Int × Bool :=
  if validS l && decide (vals.length = l.length) then (match mkL l vals with | some x => (x, true) | none => (0, false)) else (0, false)

theorem mkL_step {l : List Sig} {vals : List Int} {k : Nat} (h : k < l.length) (hv : k < vals.length) :
    mkL (l.drop k) (vals.drop k) = if 0 ≤ vals[k] ∧ vals[k] < l[k].size then (mkL (l.drop (k + 1)) (vals.drop (k + 1))).map (fun x => vals[k] + l[k].size * x) else none := by
  rw [List.drop_eq_getElem_cons h, List.drop_eq_getElem_cons hv]; rfl

/-- What stands when k values have been taken: n so far, the weight. -/
def MkAt (l : List Sig) (vals : List Int) (k : Nat) (n : Int) : Prop :=
  mkL l vals = (mkL (l.drop k) (vals.drop k)).map (fun x => n + prodL (l.take k) * x) ∧ 0 ≤ n ∧ n < prodL (l.take k)

theorem MkAt.start (l : List Sig) (vals : List Int) : MkAt l vals 0 0 := by
  refine ⟨?_, by simp, by simp [prodL]⟩
  simp [prodL]

theorem MkAt.next {l : List Sig} {vals : List Int} {k : Nat} {n : Int} (h : MkAt l vals k n) (hk : k < l.length) (hv : k < vals.length) (h0 : 0 ≤ vals[k]) (h1 : vals[k] < l[k].size) (hp : 1 ≤ prodL (l.take k)) :
    MkAt l vals (k + 1) (n + prodL (l.take k) * vals[k]) := by
  obtain ⟨h2, h3, h4⟩ := h
  have h5 := Int.mul_nonneg (show 0 ≤ prodL (l.take k) by omega) h0
  have h6 := Int.mul_le_mul_of_nonneg_left (show vals[k] ≤ l[k].size - 1 by omega) (show 0 ≤ prodL (l.take k) by omega)
  rw [Int.mul_sub, Int.mul_one] at h6
  refine ⟨?_, by omega, by rw [prodL_take hk]; omega⟩
  rw [h2, mkL_step hk hv, if_pos ⟨h0, h1⟩, Option.map_map, prodL_take hk]
  congr 1
  funext x
  simp only [Function.comp]
  rw [Int.mul_add, Int.mul_assoc, Int.add_assoc]

theorem MkAt.fails {l : List Sig} {vals : List Int} {k : Nat} {n : Int} (h : MkAt l vals k n) (hk : k < l.length) (hv : k < vals.length) (hn : ¬ (0 ≤ vals[k] ∧ vals[k] < l[k].size)) : mkL l vals = none := by
  rw [h.1, mkL_step hk hv, if_neg hn]; rfl

theorem MkAt.done {l : List Sig} {vals : List Int} {n : Int} (h : MkAt l vals l.length n) (hv : vals.length = l.length) : mkL l vals = some n := by
  rw [h.1, List.drop_length, ← hv, List.drop_length]; simp [mkL]

end Go.Proofs.YtlfackilmpnlhaaDoor
