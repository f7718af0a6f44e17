/- What the reference's can computes. -/
import Derived.Test.YtjhafakkadnfmaaC6
namespace Go.Proofs.Ytjhafakkadnfmaa
open Go.RowKit

def canB (g : Gm) (p : Int) (s : List Bool) (i : Nat) : Bool :=
  if g.owner.getD i 0 = p then (g.succ.getD i []).any (atB s) else (g.succ.getD i []).all (atB s)

end Go.Proofs.Ytjhafakkadnfmaa
