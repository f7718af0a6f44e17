/- The law ArenaParts: its walk. -/
import Derived.Test.YtjadeffdcbchnaaDoorAr34
namespace Go.Proofs.YtjadeffdcbchnaaDoor
open Go.RowKit

theorem Parts_walk (w : World) (vg vs vi : Value) (g : Gm) (s inn : List Bool) (hK : Keys w) (hg : IsGame w vg g) (hs : IsBools w vs s) (hi : IsBools w vi inn) :
    Calls Tryd.prog 6 #[vg, vs, vi] w (Calm (.bool true) w) := by
  by_cases hq : smallB g 100 = true ∧ validB g = true ∧ s.length = g.owner.length ∧ inn.length ≤ 120
  · exact Parts_walk1 w vg vs vi g s inn hK hg hs hi hq.1 hq.2.1 hq.2.2.1 hq.2.2.2
  · exact Parts_walk0 w vg vs vi g s inn hK hg hs hi hq

end Go.Proofs.YtjadeffdcbchnaaDoor
