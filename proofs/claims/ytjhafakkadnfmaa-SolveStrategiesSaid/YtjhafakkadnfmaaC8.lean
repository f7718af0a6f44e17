/- What the functions that build sets compute: Not, rest. -/
import Derived.Test.YtjhafakkadnfmaaOwn
import Derived.Test.YtjhafakkadnfmaaC6
namespace Go.Proofs.Ytjhafakkadnfmaa
open Go.RowKit

def notL (l : List Bool) : List Bool := l.map fun b => !b

theorem notL_take (l : List Bool) (k : Nat) (h : k < l.length) : notL (l.take (k + 1)) = notL (l.take k) ++ [!l[k]] := by
  unfold notL; rw [List.take_succ_eq_append_getElem h, List.map_append]; rfl

/-- A result that is a set in new memory. -/
def NewBools (l : List Bool) (w : World) (e : Ending) (w' : World) : Prop := ∃ v, e = .returned v ∧ OB w' w.heap.size v l ∧ Below w.heap.size w w'

end Go.Proofs.Ytjhafakkadnfmaa
