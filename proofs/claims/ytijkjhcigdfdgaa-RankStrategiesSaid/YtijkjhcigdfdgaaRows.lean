/-
  No cell of these rows narrows 'for every input' (looked for: loops, veiled, ifaces, maps, wideKeys, modest, calm, conditions, laid).
  DERIVED. THE GIVEN ROWS OF THIS SEAT. 6 by the template 'for every input the law returns true; each argument reads behind the call as it read before'; 0 by the template 'total and deterministic' (their statements: YtijkjhcigdfdgaaTotals.lean).
  GIVEN WITH THE SEED: the statements are not yours to turn. If you find one false, say at which input.
  Laid BY PROGRAM, IN A SANDBOX (cutbox-rows.mjs): the forced cells as the released guide's own fill.sh prints them over the translation 4639907de76b794e… (all of the seat's roots in one cut). By AI agents, Wed Nov 11 2026. No macro, syntax, notation, axiom, sorry.
-/
import Derived.Test.YtijkjhcigdfdgaaChecked
import GoSem.Claim
import GoSem.ClaimJoined
import GoSem.ClaimMapViews
import Derived.JoinedTies
import Derived.KernelRfl
namespace Go.Proofs.Ytijkjhcigdfdgaa
/- THE CELL 'sum', in the pinned program and in every row, IS THE sha256 OF THE DUMP (.gsa) THAT YtijkjhcigdfdgaaProg.lean LOADS. Nothing in Lean hashes anything: it is a label: what it is worth is what the hold of that sum in a sandbox is worth. -/
noncomputable def Try.pinned : Pinned := { name := "ytijkjhcigdfdgaa", sum := "4639907de76b794e36bba5fd7b462dc0ad7e97eaf6a9b7c78577a0ce53dd610b", checked := Try.checked }
namespace Rows
def none {H : Type} : Left H := { results := [], args := [] }

/-- 'foresightlaw24.RankMatchesReference': WHATEVER THE INPUT: true; the input reads as it did. -/
def rankMatchesReferenceSpec : ChangeSpec := { name := "rankMatchesReference", fn := fun _ => fun
  | [d1, d2, d3] => { results := [.lit (.bool true)], args := [d1, d2, d3] }
  | _ => none }
def rankMatchesReferenceRow : OpenClaim := { program := "ytijkjhcigdfdgaa", sum := "4639907de76b794e36bba5fd7b462dc0ad7e97eaf6a9b7c78577a0ce53dd610b", func := "foresight/foresightlaw24.RankMatchesReference", spec := "rankMatchesReference", unfollowed := true, recurses := true, apart := false }
def RankMatchesReferenceSaid : Prop := rankMatchesReferenceRow.holds Try.pinned (OpenSpec.ofChange rankMatchesReferenceSpec)

/-- ITS FALSE NEIGHBOUR: 'it returns false'. Refute it at one input. -/
def rankMatchesReferenceWrong : ChangeSpec := { name := "rankMatchesReference", fn := fun _ => fun
  | [d1, d2, d3] => { results := [.lit (.bool false)], args := [d1, d2, d3] }
  | _ => none }
def RankMatchesReferenceWrongFalsely : Prop := rankMatchesReferenceRow.holds Try.pinned (OpenSpec.ofChange rankMatchesReferenceWrong)

/-- 'foresightlaw24.RankLeast': WHATEVER THE INPUT: true; the input reads as it did. -/
def rankLeastSpec : ChangeSpec := { name := "rankLeast", fn := fun _ => fun
  | [d1, d2, d3] => { results := [.lit (.bool true)], args := [d1, d2, d3] }
  | _ => none }
def rankLeastRow : OpenClaim := { program := "ytijkjhcigdfdgaa", sum := "4639907de76b794e36bba5fd7b462dc0ad7e97eaf6a9b7c78577a0ce53dd610b", func := "foresight/foresightlaw24.RankLeast", spec := "rankLeast", unfollowed := true, recurses := true, apart := false }
def RankLeastSaid : Prop := rankLeastRow.holds Try.pinned (OpenSpec.ofChange rankLeastSpec)

/-- ITS FALSE NEIGHBOUR: 'it returns false'. Refute it at one input. -/
def rankLeastWrong : ChangeSpec := { name := "rankLeast", fn := fun _ => fun
  | [d1, d2, d3] => { results := [.lit (.bool false)], args := [d1, d2, d3] }
  | _ => none }
def RankLeastWrongFalsely : Prop := rankLeastRow.holds Try.pinned (OpenSpec.ofChange rankLeastWrong)

/-- 'foresightlaw24.RankWinners': WHATEVER THE INPUT: true; the input reads as it did. -/
def rankWinnersSpec : ChangeSpec := { name := "rankWinners", fn := fun _ => fun
  | [d] => { results := [.lit (.bool true)], args := [d] }
  | _ => none }
def rankWinnersRow : OpenClaim := { program := "ytijkjhcigdfdgaa", sum := "4639907de76b794e36bba5fd7b462dc0ad7e97eaf6a9b7c78577a0ce53dd610b", func := "foresight/foresightlaw24.RankWinners", spec := "rankWinners", unfollowed := true, recurses := true, apart := false }
def RankWinnersSaid : Prop := rankWinnersRow.holds Try.pinned (OpenSpec.ofChange rankWinnersSpec)

/-- ITS FALSE NEIGHBOUR: 'it returns false'. Refute it at one input. -/
def rankWinnersWrong : ChangeSpec := { name := "rankWinners", fn := fun _ => fun
  | [d] => { results := [.lit (.bool false)], args := [d] }
  | _ => none }
def RankWinnersWrongFalsely : Prop := rankWinnersRow.holds Try.pinned (OpenSpec.ofChange rankWinnersWrong)

/-- 'foresightlaw24.RankStrategies': WHATEVER THE INPUT: true; the input reads as it did. -/
def rankStrategiesSpec : ChangeSpec := { name := "rankStrategies", fn := fun _ => fun
  | [d1, d2, d3] => { results := [.lit (.bool true)], args := [d1, d2, d3] }
  | _ => none }
def rankStrategiesRow : OpenClaim := { program := "ytijkjhcigdfdgaa", sum := "4639907de76b794e36bba5fd7b462dc0ad7e97eaf6a9b7c78577a0ce53dd610b", func := "foresight/foresightlaw24.RankStrategies", spec := "rankStrategies", unfollowed := true, recurses := true, apart := false }
def RankStrategiesSaid : Prop := rankStrategiesRow.holds Try.pinned (OpenSpec.ofChange rankStrategiesSpec)

/-- ITS FALSE NEIGHBOUR: 'it returns false'. Refute it at one input. -/
def rankStrategiesWrong : ChangeSpec := { name := "rankStrategies", fn := fun _ => fun
  | [d1, d2, d3] => { results := [.lit (.bool false)], args := [d1, d2, d3] }
  | _ => none }
def RankStrategiesWrongFalsely : Prop := rankStrategiesRow.holds Try.pinned (OpenSpec.ofChange rankStrategiesWrong)

/-- 'foresightlaw24.RankWork': WHATEVER THE INPUT: true; the input reads as it did. -/
def rankWorkSpec : ChangeSpec := { name := "rankWork", fn := fun _ => fun
  | [d1, d2] => { results := [.lit (.bool true)], args := [d1, d2] }
  | _ => none }
def rankWorkRow : OpenClaim := { program := "ytijkjhcigdfdgaa", sum := "4639907de76b794e36bba5fd7b462dc0ad7e97eaf6a9b7c78577a0ce53dd610b", func := "foresight/foresightlaw24.RankWork", spec := "rankWork", unfollowed := true, recurses := true, apart := false }
def RankWorkSaid : Prop := rankWorkRow.holds Try.pinned (OpenSpec.ofChange rankWorkSpec)

/-- ITS FALSE NEIGHBOUR: 'it returns false'. Refute it at one input. -/
def rankWorkWrong : ChangeSpec := { name := "rankWork", fn := fun _ => fun
  | [d1, d2] => { results := [.lit (.bool false)], args := [d1, d2] }
  | _ => none }
def RankWorkWrongFalsely : Prop := rankWorkRow.holds Try.pinned (OpenSpec.ofChange rankWorkWrong)

/-- 'foresightlaw24.RankParts': WHATEVER THE INPUT: true; the input reads as it did. -/
def rankPartsSpec : ChangeSpec := { name := "rankParts", fn := fun _ => fun
  | [d1, d2] => { results := [.lit (.bool true)], args := [d1, d2] }
  | _ => none }
def rankPartsRow : OpenClaim := { program := "ytijkjhcigdfdgaa", sum := "4639907de76b794e36bba5fd7b462dc0ad7e97eaf6a9b7c78577a0ce53dd610b", func := "foresight/foresightlaw24.RankParts", spec := "rankParts", unfollowed := true, recurses := true, apart := false }
def RankPartsSaid : Prop := rankPartsRow.holds Try.pinned (OpenSpec.ofChange rankPartsSpec)

/-- ITS FALSE NEIGHBOUR: 'it returns false'. Refute it at one input. -/
def rankPartsWrong : ChangeSpec := { name := "rankParts", fn := fun _ => fun
  | [d1, d2] => { results := [.lit (.bool false)], args := [d1, d2] }
  | _ => none }
def RankPartsWrongFalsely : Prop := rankPartsRow.holds Try.pinned (OpenSpec.ofChange rankPartsWrong)

/- THE SECOND FORM. 'bulk': how many values and letters a reading holds, each counted each time it is reached (what is shared counts as often as it is met; a slice's spare places count too). A statement '..UptoSaid' is the law's where the arguments, and the package variables that the reading takes, are together of bulk at most 1048576: NARROWER than '..Said'. Prove '..Said' where nothing that the law and all that it calls make is longer than what came in: it says more and counts as full. Else prove '..UptoSaid'. A law counts once. -/
mutual
def uptoBulk {H : Type} : DataW H → Nat
  | .lit (.string bytes) => bytes.length + 1
  | .lit _ => 1
  | .nil => 1
  | .ptr d => uptoBulk d + 1
  | .slice elems spare => uptoBulkAll elems + uptoBulkAll spare + 1
  | .agg parts => uptoBulkAll parts + 1
  | .iface _ d => uptoBulk d + 1
  | .map entries => uptoBulkEntries entries + 1
  | .held _ => 1
def uptoBulkAll {H : Type} : List (DataW H) → Nat
  | [] => 0
  | d :: r => uptoBulk d + uptoBulkAll r
def uptoBulkEntries {H : Type} : List (Lit × DataW H) → Nat
  | [] => 0
  | x :: r => uptoBulkEntry x + uptoBulkEntries r
def uptoBulkEntry {H : Type} : Lit × DataW H → Nat
  | (.string bytes, d) => bytes.length + uptoBulk d + 1
  | (_, d) => uptoBulk d + 1
 end
def uptoSmall : (H : Type) → List (DataW H) → Bool := fun _ ds => decide (uptoBulkAll ds ≤ 1048576)
def OpenSpec.upto (s : _root_.Go.ChangeSpec) : _root_.Go.OpenSpec := { _root_.Go.OpenSpec.ofChange s with cond := some uptoSmall }

/-- 'foresightlaw24.RankMatchesReference', WHERE WHAT IT READS IS OF BULK AT MOST 1048576: true; the input reads as it did. -/
def rankMatchesReferenceUptoRow : OpenClaim := { program := "ytijkjhcigdfdgaa", sum := "4639907de76b794e36bba5fd7b462dc0ad7e97eaf6a9b7c78577a0ce53dd610b", func := "foresight/foresightlaw24.RankMatchesReference", spec := "rankMatchesReference", unfollowed := true, recurses := true, apart := false, narrowed := true }
def RankMatchesReferenceUptoSaid : Prop := rankMatchesReferenceUptoRow.holds Try.pinned (OpenSpec.upto rankMatchesReferenceSpec)

/-- 'foresightlaw24.RankLeast', WHERE WHAT IT READS IS OF BULK AT MOST 1048576: true; the input reads as it did. -/
def rankLeastUptoRow : OpenClaim := { program := "ytijkjhcigdfdgaa", sum := "4639907de76b794e36bba5fd7b462dc0ad7e97eaf6a9b7c78577a0ce53dd610b", func := "foresight/foresightlaw24.RankLeast", spec := "rankLeast", unfollowed := true, recurses := true, apart := false, narrowed := true }
def RankLeastUptoSaid : Prop := rankLeastUptoRow.holds Try.pinned (OpenSpec.upto rankLeastSpec)

/-- 'foresightlaw24.RankWinners', WHERE WHAT IT READS IS OF BULK AT MOST 1048576: true; the input reads as it did. -/
def rankWinnersUptoRow : OpenClaim := { program := "ytijkjhcigdfdgaa", sum := "4639907de76b794e36bba5fd7b462dc0ad7e97eaf6a9b7c78577a0ce53dd610b", func := "foresight/foresightlaw24.RankWinners", spec := "rankWinners", unfollowed := true, recurses := true, apart := false, narrowed := true }
def RankWinnersUptoSaid : Prop := rankWinnersUptoRow.holds Try.pinned (OpenSpec.upto rankWinnersSpec)

/-- 'foresightlaw24.RankStrategies', WHERE WHAT IT READS IS OF BULK AT MOST 1048576: true; the input reads as it did. -/
def rankStrategiesUptoRow : OpenClaim := { program := "ytijkjhcigdfdgaa", sum := "4639907de76b794e36bba5fd7b462dc0ad7e97eaf6a9b7c78577a0ce53dd610b", func := "foresight/foresightlaw24.RankStrategies", spec := "rankStrategies", unfollowed := true, recurses := true, apart := false, narrowed := true }
def RankStrategiesUptoSaid : Prop := rankStrategiesUptoRow.holds Try.pinned (OpenSpec.upto rankStrategiesSpec)

/-- 'foresightlaw24.RankWork', WHERE WHAT IT READS IS OF BULK AT MOST 1048576: true; the input reads as it did. -/
def rankWorkUptoRow : OpenClaim := { program := "ytijkjhcigdfdgaa", sum := "4639907de76b794e36bba5fd7b462dc0ad7e97eaf6a9b7c78577a0ce53dd610b", func := "foresight/foresightlaw24.RankWork", spec := "rankWork", unfollowed := true, recurses := true, apart := false, narrowed := true }
def RankWorkUptoSaid : Prop := rankWorkUptoRow.holds Try.pinned (OpenSpec.upto rankWorkSpec)

/-- 'foresightlaw24.RankParts', WHERE WHAT IT READS IS OF BULK AT MOST 1048576: true; the input reads as it did. -/
def rankPartsUptoRow : OpenClaim := { program := "ytijkjhcigdfdgaa", sum := "4639907de76b794e36bba5fd7b462dc0ad7e97eaf6a9b7c78577a0ce53dd610b", func := "foresight/foresightlaw24.RankParts", spec := "rankParts", unfollowed := true, recurses := true, apart := false, narrowed := true }
def RankPartsUptoSaid : Prop := rankPartsUptoRow.holds Try.pinned (OpenSpec.upto rankPartsSpec)

end Rows
end Go.Proofs.Ytijkjhcigdfdgaa
