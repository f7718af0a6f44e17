/- What the reference's Trap, Closed and Attract compute. -/
import Derived.Test.YtjhafakkadnfmaaC5
import Derived.Test.YtjhafakkadnfmaaC7
import Derived.Test.YtjhafakkadnfmaaC8
namespace Go.Proofs.Ytjhafakkadnfmaa
open Go.RowKit

structure Fits (g : Gm) (p : Int) (n : Nat) : Prop where
  pl : p = 0 ∨ p = 1
  le : n ≤ 3000
  on : g.owner.length = n
  pn : g.prio.length = n
  sn : g.succ.length = n
  ow : ∀ i, i < n → 0 ≤ g.owner.getD i 0 ∧ g.owner.getD i 0 ≤ 1
  ne : ∀ i, i < n → g.succ.getD i [] ≠ []
  rg : ∀ i, i < n → ∀ x ∈ g.succ.getD i [], 0 ≤ x ∧ x < n

theorem valid_lens {g : Gm} (h : validB g = true) : g.owner.length ≤ 3000 ∧ g.prio.length = g.owner.length ∧ g.succ.length = g.owner.length := by
  simp only [validB, Bool.and_eq_true, decide_eq_true_eq] at h
  exact ⟨h.1.1.1.1.1.1, h.1.1.1.1.1.2, h.1.1.1.1.2⟩

theorem fits_of {g : Gm} {p : Int} {n : Nat} (h : fitsB g p n = true) : Fits g p n := by
  simp only [fitsB, Bool.and_eq_true, Bool.or_eq_true, decide_eq_true_eq] at h
  obtain ⟨⟨h1, h2⟩, rfl⟩ := h
  obtain ⟨a, b, c⟩ := valid_lens h2
  have hv := (validB_iff g a b c).1 h2
  simp only [okB, Bool.and_eq_true, decide_eq_true_eq, inB, List.all_eq_true] at hv
  refine ⟨h1, a, rfl, b, c, fun i hi => (hv i hi).1.1.1, fun i hi he => ?_, fun i hi x hx => ?_⟩
  · have := (hv i hi).1.2
    rw [he] at this; simp at this
  · have := (hv i hi).2 x hx
    omega

def trapB (g : Gm) (p : Int) (s : List Bool) : Bool := (List.range s.length).all fun i => !s.getD i false || canB g (1 - p) s i

/-- Behind the box of a game: what a world holds of it. -/
structure Boxed (w wr : World) (cs : Array Value) : Prop where
  bl : Below w.heap.size w wr
  bx : wr.heap[w.heap.size]? = some (.cells cs 25 (0, 0))

theorem Boxed.start {w w1 : World} {cs : Array Value} (hb : Below (w.alloc (.cells cs 25)).heap.size (w.alloc (.cells cs 25)) w1) : Boxed w w1 cs :=
  ⟨Below.trans (bel_box _) (hb.mono (by simp)), (hb.block _ (by simp)).trans (heap_alloc_new _ _)⟩
theorem Boxed.cell {w wr : World} {cs : Array Value} (h : Boxed w wr cs) (k : Nat) {v : Value} (hv : cs[k]? = some v) : wr.cell? ⟨w.heap.size, k, none⟩ = some v :=
  (cell_of_row _ _ k _ _ _ h.bx).trans hv
theorem Boxed.lt {w wr : World} {cs : Array Value} (h : Boxed w wr cs) : w.heap.size < wr.heap.size := (Array.getElem?_eq_some_iff.1 h.bx).1
theorem Boxed.step {w wr w1 : World} {cs : Array Value} (h : Boxed w wr cs) (hb : Below wr.heap.size wr w1) : Boxed w w1 cs :=
  ⟨h.bl.trans (hb.mono h.bl.size), (hb.block _ h.lt).trans h.bx⟩
theorem Boxed.stepB {w wr w1 : World} {cs : Array Value} (h : Boxed w wr cs) (hb : Below (w.heap.size + 1) wr w1) : Boxed w w1 cs :=
  ⟨h.bl.trans (hb.mono (by omega)), (hb.block _ (by omega)).trans h.bx⟩

end Go.Proofs.Ytjhafakkadnfmaa
