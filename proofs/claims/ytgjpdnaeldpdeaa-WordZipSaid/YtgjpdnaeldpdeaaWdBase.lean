/- How lassos are told. -/
import Derived.Test.YtgjpdnaeldpdeaaSgOwn
import Derived.Test.YtgjpdnaeldpdeaaWd4
namespace Go.Proofs.Ytgjpdnaeldpdeaa
open Go.RowKit

def IsLs (w : World) (v : Value) (l : Ls) : Prop := ∃ v0 v1, v = .agg #[v0, v1] ∧ IsInts w v0 l.stem ∧ IsInts w v1 l.loop
theorem IsLs.below {w wr : World} {v : Value} {l : Ls} (h : IsLs w v l) (hb : Below w.heap.size w wr) : IsLs wr v l := by
  obtain ⟨v0, v1, rfl, h0, h1⟩ := h
  exact ⟨v0, v1, rfl, h0.below hb, h1.below hb⟩

/-- All numbers are from 0 to most - 1. -/
def belB (most : Int) (l : List Int) : Bool := l.all fun x => decide (0 ≤ x) && decide (x < most)
theorem belB_let (l : List Int) : belB 64 l = l.all letB := rfl

/-- A lasso of lists made for the call. -/
def NewL (l : Ls) (w : World) (e : Ending) (w' : World) : Prop := ∃ v, e = .returned v ∧ IsLs w' v l ∧ Below w.heap.size w w'
/-- A list made for the call. -/
def NewN (l : List Int) (w : World) (e : Ending) (w' : World) : Prop := ∃ v, e = .returned v ∧ IsInts w' v l ∧ Below w.heap.size w w'

theorem letB_I64 {x : Int} (h : letB x = true) : I64 x := by
  simp only [letB, Bool.and_eq_true, decide_eq_true_eq] at h
  unfold I64
  omega

theorem formB_short {w : Ls} (h : formB w = true) : w.stem.length ≤ 60 ∧ 1 ≤ w.loop.length ∧ w.loop.length ≤ 40 := by
  obtain ⟨h1, h2, h3, _⟩ := (formB_iff w).1 h
  exact ⟨h1, h2, h3⟩

/-- Part of a list, as a slice of a slice. -/
theorem ArrAt.part {w : World} {ao : Option Addr} {cap b off n : Nat} {f : Nat → Value} (h : ArrAt w ao cap b off n f) (lo hi : Nat) (h1 : lo ≤ hi) (h2 : hi ≤ n) (hlt : lo < cap) : ArrAt w (ao.map fun a => a.add lo) (cap - lo) b (off + lo) (hi - lo) (fun j => f (lo + j)) := by
  refine ⟨?_, ?_, ?_, ?_, ?_, ?_⟩
  · have := h.lc; omega
  · have := h.cm; omega
  · have := h.nm; omega
  · intro e
    cases ao with
    | none => have := h.nc rfl; omega
    | some a => simp at e
  · intro h0
    rw [h.ad (by omega)]
    simp only [Option.map_some, Addr.add]
    split
    · subst lo; rfl
    · rfl
  · intro j hj
    have := h.el (lo + j) (by omega)
    rw [show off + lo + j = off + (lo + j) by omega]
    exact this

theorem ivF_drop (l : List Int) (k j : Nat) : ivF (l.drop k) j = ivF l (k + j) := by simp [ivF, List.getD]
theorem ivF_take (l : List Int) {k j : Nat} (h : j < k) : ivF (l.take k) j = ivF l j := by simp [ivF, List.getD, h]

end Go.Proofs.Ytgjpdnaeldpdeaa
