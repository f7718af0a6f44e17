/- What a row of bytes reads as. -/
import Derived.Test.YtkbiopjinegckaaR
import Derived.Test.YtkbiopjinegckaaSt38
namespace Go.Proofs.Ytkbiopjinegckaa
open Go.ChangeShapes Go.WideShapes Go.ChangeAt Go.RowKit Go.Joins Go.Deep

theorem bytes_u8 : Try.prog.bytesOf 5 = 1 := by kernel_rfl
theorem cells_u8 : Try.prog.cellsOf 5 = 1 := by kernel_rfl
section
variable {H : Type} {enc : TypeId × Value → H} {W : World}
theorem read_u8s {t : TypeId} {fuel : Nat} {v : Value} {x : DataW H × List MemPlace} (ht : Try.prog.underlying t = some (.slice 5)) (h : DataW.trod enc Try.prog W 0 (fun _ => true) true fuel t [v] = some x)
    (hr : ∀ n ∈ x.1.weights Try.prog t, n ≤ reachBytes) : ∃ l, IsU8s W v l := by
  rcases open_ints ht Try.underlying5 cells_u8 h with ⟨hcs, _⟩ | ⟨a, len, cap, zs, hcs, _, hl, hm, hz, hx, hcell, hwz⟩
  · simp at hcs
    subst hcs
    exact ⟨[], ⟨none, 0, 0, 0, rfl, Nat.le_refl _, Nat.zero_le _, Nat.zero_le _, fun _ => rfl, (fun h => absurd h (by simp)), fun j hj => absurd hj (by simp)⟩, by simp⟩
  · simp at hcs
    subst hcs
    simp only [if_true] at hz
    have hw := hr ((zs.take len).length * 1 + (zs.drop len).length * 1) (by rw [hx]; simp [DataW.weights, ht, bytes_u8, lits])
    have hlen : (zs.take len).length = len := by simp; omega
    have hreach : reachBytes = 140737488351232 := rfl
    obtain ⟨h1, h2⟩ := addr_cells (f := fun i => .int .u8 (zs.getD i 0)) hcell
    refine ⟨zs.take len, ⟨some a, cap, a.block, a.off, by rw [hlen], by omega, hm, by simp only [maxN]; omega, (fun h => by cases h), fun h0 => h1 (by omega), fun j hj => ?_⟩, fun n hn => wf_u8 (hwz n (List.mem_of_mem_take hn))⟩
    rw [h2 j (by omega)]
    simp [u8F, List.getD, show j < len from by omega]
end
end Go.Proofs.Ytkbiopjinegckaa
