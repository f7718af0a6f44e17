/- What Closed computes; the example. -/
import Derived.Test.YtjhafakkadnfmaaC15
import Derived.Deep.RegionHeld3
namespace Go.Proofs.Ytjhafakkadnfmaa
open Go.RowKit

theorem attQ_ok (g : Gm) (p : Int) (t : List Bool) (hS : ∀ i, (g.succ.getD i []).length ≤ 1000) : AttOK t.length (1000 + t.length * (1000 * t.length)) (attQ g p t) := by
  have h0 := begSt_ok g t t.length hS t.length (Nat.le_refl _)
  exact attIter_ok h0.1 (fun j => ⟨begSt_row g t t.length hS t.length j, h0.2.2 j⟩) _

/-- What Closed returns. -/
def closedQ (g : Gm) (p : Int) (s : List Bool) : List Bool := notL (attQ g (1 - p) (notL s)).inn

def exG : Gm := ⟨[0, 1, 0, 1], [0, 1, 2, 3], [[1, 2], [0, 3], [2], [2, 3]]⟩

/-- A game in new memory. -/
def NewGame (g : Gm) (w : World) (e : Ending) (w' : World) : Prop := ∃ v, e = .returned v ∧ IsGame w' v g ∧ Below w.heap.size w w'

theorem ints_block {w : World} {b : Nat} {t : TypeId} (l : List Int) (h : w.heap[b]? = some (.cells (l.map (Value.int .i64)).toArray t (0, 0))) (hl : l.length ≤ 1000) (hr : ∀ x ∈ l, I64 x) : IsInts w (.slice (some ⟨b, 0, none⟩) l.length l.length) l := by
  refine ⟨⟨_, _, b, 0, rfl, Nat.le_refl _, by simp only [maxLen]; omega, by simp only [maxN]; omega, (fun h => by cases h), fun _ => rfl, fun j hj => ?_⟩, hr⟩
  rw [Nat.zero_add, cell_of_row _ _ j _ _ _ h]
  simp [ivF, hj]
theorem bools_block {w : World} {b : Nat} {t : TypeId} (l : List Bool) (h : w.heap[b]? = some (.cells (l.map Value.bool).toArray t (0, 0))) (hl : l.length ≤ 1000) : IsBools w (.slice (some ⟨b, 0, none⟩) l.length l.length) l := by
  refine ⟨_, _, b, 0, rfl, Nat.le_refl _, by simp only [maxLen]; omega, by simp only [maxN]; omega, (fun h => by cases h), fun _ => rfl, fun j hj => ?_⟩
  rw [Nat.zero_add, cell_of_row _ _ j _ _ _ h]
  simp [bvF, hj]

end Go.Proofs.Ytjhafakkadnfmaa
