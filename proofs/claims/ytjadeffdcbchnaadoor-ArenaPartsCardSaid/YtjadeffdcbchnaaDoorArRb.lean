/- What an argument reads as: a slice of truth values. -/
import Derived.Test.YtjadeffdcbchnaaDoorArR
import Derived.ProofKit
import Derived.Lib.SmallJoins
import Derived.Deep.Matrix
import Derived.Deep.Grids
import Derived.SizedLaws
import Derived.OpenShut
namespace Go.Proofs.YtjadeffdcbchnaaDoor
open Go.ChangeShapes Go.WideShapes Go.ChangeAt Go.RowKit Go.Joins Go.Deep

variable {H : Type} {enc : TypeId × Value → H} {W : World}
theorem read_bools {t : TypeId} {fuel : Nat} {v : Value} {x : DataW H × List MemPlace} (ht : Tryd.prog.underlying t = some (.slice 4)) (h : DataW.trod enc Tryd.prog W 0 (fun _ => true) true fuel t [v] = some x)
    (hr : ∀ n ∈ x.1.weights Tryd.prog t, n ≤ reachBytes) : ∃ l, IsBools W v l := by
  rcases open_bools ht Tryd.underlying4 cells_bool h with ⟨hcs, _⟩ | ⟨a, len, cap, B, hcs, _, hl, hm, hx, hcell⟩
  · simp at hcs
    subst hcs
    exact ⟨[], ⟨none, 0, 0, 0, rfl, Nat.le_refl _, Nat.zero_le _, Nat.zero_le _, fun _ => rfl, (fun h => absurd h (by simp)), fun j hj => absurd hj (by simp)⟩⟩
  · simp at hcs
    subst hcs
    have hw := hr cap (by rw [hx]; simp [DataW.weights, boolRow, ht, bytes_bool]; omega)
    have hreach : reachBytes = 140737488351232 := rfl
    obtain ⟨h1, h2⟩ := addr_cells (f := fun i => .bool (B i)) hcell
    refine ⟨(List.range len).map B, ⟨some a, cap, a.block, a.off, by simp, by simpa using hl, hm, by simp only [maxN, List.length_map, List.length_range]; omega, (fun h => by cases h), fun h0 => h1 (by simp at h0; omega), fun j hj => ?_⟩⟩
    have hj' : j < len := by simpa using hj
    rw [h2 j (by omega)]
    simp [bvF, List.getD, hj']

end Go.Proofs.YtjadeffdcbchnaaDoor
