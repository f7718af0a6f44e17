/- The examples of head, in plain lists. -/
import Derived.Test.YtjadeffdcbchnaaDoorAr26
import Derived.Test.YtjadeffdcbchnaaDoorAr20
import Derived.Test.YtjadeffdcbchnaaDoorArW
namespace Go.Proofs.YtjadeffdcbchnaaDoor
open Go.RowKit

def exL : List Sig := [⟨⟨#[97]⟩, true, 2⟩, ⟨⟨#[98]⟩, false, 2⟩]
def exA : Au := ⟨4, 0, [[0, 0, 0, 0]], [[0, 1, 1, 0]]⟩
def exG : Gm := ⟨[1, 0, 0, 1], [1, 1, 1, 0], [[1, 2], [3, 0], [0, 3], [1, 2]]⟩
def exP : List Pl := [⟨0, -1, 1⟩, ⟨0, 0, -1⟩, ⟨0, 1, -1⟩, ⟨0, -1, 0⟩]

theorem ex_b1 : buildE exA exL 10 = (exG, exP, 0) := by decide +kernel
theorem ex_b2 : buildE exA exL 3 = (⟨[], [], []⟩, [], 2) := by decide +kernel
theorem ex_b3 : buildE exA (exL.take 1) 10 = (⟨[], [], []⟩, [], 1) := by decide +kernel
theorem ex_sw : swapR exG = ⟨[0, 1, 1, 0], [2, 2, 2, 1], [[1, 2], [3, 0], [0, 3], [1, 2]]⟩ := by decide +kernel
theorem ex_p1 : partR exG [true, true, false, false] = (⟨[1, 0], [1, 1], [[1], [0]]⟩, [0, 1]) := by decide +kernel
theorem ex_p2 : partR exG [true, false, false, true] = (⟨[], [], []⟩, []) := by decide +kernel
theorem ex_v1 : validB exG = true := by decide +kernel
theorem ex_v2 : validB ⟨[0], [0], [[]]⟩ = false := by decide +kernel
theorem ex_va : validA exA = true := by decide +kernel
theorem ex_le : lettersI exL = 4 := by decide +kernel
theorem ex_w : validI 4 ⟨[], [3]⟩ = true := by decide +kernel

end Go.Proofs.YtjadeffdcbchnaaDoor
