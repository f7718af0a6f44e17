/- What the reference's Join computes. -/
import Derived.Test.YtlfackilmpnlhaaDoorSg12
namespace Go.Proofs.YtlfackilmpnlhaaDoor
open Go.RowKit

def joinL : List Sig → Int → Int → Int
  | [], _, _ => 0
  | s :: r, i, o => if s.inp then i % s.size + s.size * joinL r (i / s.size) o else o % s.size + s.size * joinL r i (o / s.size)

def JoinAt (l : List Sig) (k : Nat) (n i o J : Int) : Prop := J = n + prodL (l.take k) * joinL (l.drop k) i o ∧ 0 ≤ n ∧ n < prodL (l.take k)

theorem JoinAt.next_in {l : List Sig} {k : Nat} {n i o J : Int} (h : JoinAt l k n i o J) (hk : k < l.length) (hi : l[k].inp = true) (hz : 2 ≤ l[k].size) (hp : 1 ≤ prodL (l.take k)) :
    JoinAt l (k + 1) (n + prodL (l.take k) * (i % l[k].size)) (i / l[k].size) o J := by
  obtain ⟨h1, h2, h3⟩ := h
  have h0 := Int.emod_nonneg i (show l[k].size ≠ 0 by omega)
  have h5 := Int.emod_lt_of_pos i (show 0 < l[k].size by omega)
  have h6 := Int.mul_nonneg (show 0 ≤ prodL (l.take k) by omega) h0
  have h7 := Int.mul_le_mul_of_nonneg_left (show i % l[k].size ≤ l[k].size - 1 by omega) (show 0 ≤ prodL (l.take k) by omega)
  rw [Int.mul_sub, Int.mul_one] at h7
  refine ⟨?_, by omega, by rw [prodL_take hk]; omega⟩
  rw [h1, drop_cons l k hk, prodL_take hk]
  simp only [joinL, hi, if_true]
  rw [Int.mul_add, Int.mul_assoc, Int.add_assoc]
theorem JoinAt.next_out {l : List Sig} {k : Nat} {n i o J : Int} (h : JoinAt l k n i o J) (hk : k < l.length) (hi : l[k].inp = false) (hz : 2 ≤ l[k].size) (hp : 1 ≤ prodL (l.take k)) :
    JoinAt l (k + 1) (n + prodL (l.take k) * (o % l[k].size)) i (o / l[k].size) J := by
  obtain ⟨h1, h2, h3⟩ := h
  have h0 := Int.emod_nonneg o (show l[k].size ≠ 0 by omega)
  have h5 := Int.emod_lt_of_pos o (show 0 < l[k].size by omega)
  have h6 := Int.mul_nonneg (show 0 ≤ prodL (l.take k) by omega) h0
  have h7 := Int.mul_le_mul_of_nonneg_left (show o % l[k].size ≤ l[k].size - 1 by omega) (show 0 ≤ prodL (l.take k) by omega)
  rw [Int.mul_sub, Int.mul_one] at h7
  refine ⟨?_, by omega, by rw [prodL_take hk]; omega⟩
  rw [h1, drop_cons l k hk, prodL_take hk]
  simp only [joinL, hi, Bool.false_eq_true, if_false]
  rw [Int.mul_add, Int.mul_assoc, Int.add_assoc]

def joinI (l : List Sig) (i o : Int) : Int := if 0 ≤ i ∧ i < inputsI l ∧ 0 ≤ o ∧ o < outputsI l then joinL l i o else 0

end Go.Proofs.YtlfackilmpnlhaaDoor
