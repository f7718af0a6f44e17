/- What a path reads as. -/
import Derived.Test.YtkbiopjinegckaaR
import Derived.Test.YtkbiopjinegckaaSt15
namespace Go.Proofs.Ytkbiopjinegckaa
open Go.ChangeShapes Go.WideShapes Go.ChangeAt Go.RowKit Go.Joins Go.Deep

theorem cells_path : Try.prog.cellsOf 28 = 2 := by kernel_rfl
section
variable {H : Type} {enc : TypeId × Value → H} {W : World}
theorem read_path {base : Nat} {v : Value} {d : DataW H} {p : List MemPlace} (hv : Value.okWide Try.prog W .any base 28 v) (h : DataW.Trod enc Try.prog W 0 (fun _ => true) true 28 v d p)
    (hr : ∀ n ∈ d.weights Try.prog 28, n ≤ reachBytes) : ∃ l, IsPath W v l := by
  obtain ⟨v0, v1, y0, y1, n, rfl, rfl, rfl, h0, h1⟩ := open_agg2 Try.underlying28 (by kernel_rfl) cells_path hv h
  have hw : ∀ n ∈ DataW.weightsEach Try.prog [22, 22] [y0.1, y1.1], n ≤ reachBytes := fun n hn => hr n (by simp only [DataW.weights, Try.underlying28]; exact hn)
  obtain ⟨l0, r0⟩ := read_ints Try.underlying22 h0 (fun n hn => hw n (DataW.weights_mem_each (j := 0) rfl rfl n hn))
  obtain ⟨l1, r1⟩ := read_ints Try.underlying22 h1 (fun n hn => hw n (DataW.weights_mem_each (j := 1) rfl rfl n hn))
  exact ⟨⟨l0, l1⟩, v0, v1, rfl, r0, r1⟩
end
end Go.Proofs.Ytkbiopjinegckaa
