/-
  No cell of these rows narrows 'for every input' (looked for: loops, veiled, ifaces, maps, wideKeys, modest, calm, conditions, laid).
  DERIVED. THE GIVEN ROWS OF THIS SEAT. 6 by the template 'for every input the law returns true; each argument reads behind the call as it read before'; 0 by the template 'total and deterministic' (their statements: YtkbiopjinegckaaTotals.lean).
  GIVEN WITH THE SEED: the statements are not yours to turn. If you find one false, say at which input.
  Laid BY PROGRAM, IN A SANDBOX (cutbox-rows.mjs): the forced cells as the released guide's own fill.sh prints them over the translation 65615d101c68e19c… (all of the seat's roots in one cut). By AI agents, Wed Nov 11 2026. No macro, syntax, notation, axiom, sorry.
-/
import Derived.Test.YtkbiopjinegckaaChecked
import GoSem.Claim
import GoSem.ClaimJoined
import GoSem.ClaimMapViews
import Derived.JoinedTies
import Derived.KernelRfl
namespace Go.Proofs.Ytkbiopjinegckaa
/- THE CELL 'sum', in the pinned program and in every row, IS THE sha256 OF THE DUMP (.gsa) THAT YtkbiopjinegckaaProg.lean LOADS. Nothing in Lean hashes anything: it is a label: what it is worth is what the hold of that sum in a sandbox is worth. -/
noncomputable def Try.pinned : Pinned := { name := "ytkbiopjinegckaa", sum := "65615d101c68e19c1b2d2e4f68281577f35a0f3c46ae7ae8e7109640560e8762", checked := Try.checked }
namespace Rows
def none {H : Type} : Left H := { results := [], args := [] }

/-- 'foresightlaw25.StrategyMatchesReference': WHATEVER THE INPUT: true; the input reads as it did. -/
def strategyMatchesReferenceSpec : ChangeSpec := { name := "strategyMatchesReference", fn := fun _ => fun
  | [d1, d2, d3, d4, d5, d6, d7] => { results := [.lit (.bool true)], args := [d1, d2, d3, d4, d5, d6, d7] }
  | _ => none }
def strategyMatchesReferenceRow : OpenClaim := { program := "ytkbiopjinegckaa", sum := "65615d101c68e19c1b2d2e4f68281577f35a0f3c46ae7ae8e7109640560e8762", func := "foresight/foresightlaw25.StrategyMatchesReference", spec := "strategyMatchesReference", unfollowed := true, recurses := true, apart := false }
def StrategyMatchesReferenceSaid : Prop := strategyMatchesReferenceRow.holds Try.pinned (OpenSpec.ofChange strategyMatchesReferenceSpec)

/-- ITS FALSE NEIGHBOUR: 'it returns false'. Refute it at one input. -/
def strategyMatchesReferenceWrong : ChangeSpec := { name := "strategyMatchesReference", fn := fun _ => fun
  | [d1, d2, d3, d4, d5, d6, d7] => { results := [.lit (.bool false)], args := [d1, d2, d3, d4, d5, d6, d7] }
  | _ => none }
def StrategyMatchesReferenceWrongFalsely : Prop := strategyMatchesReferenceRow.holds Try.pinned (OpenSpec.ofChange strategyMatchesReferenceWrong)

/-- 'foresightlaw25.StrategyPlays': WHATEVER THE INPUT: true; the input reads as it did. -/
def strategyPlaysSpec : ChangeSpec := { name := "strategyPlays", fn := fun _ => fun
  | [d1, d2, d3, d4, d5] => { results := [.lit (.bool true)], args := [d1, d2, d3, d4, d5] }
  | _ => none }
def strategyPlaysRow : OpenClaim := { program := "ytkbiopjinegckaa", sum := "65615d101c68e19c1b2d2e4f68281577f35a0f3c46ae7ae8e7109640560e8762", func := "foresight/foresightlaw25.StrategyPlays", spec := "strategyPlays", unfollowed := true, recurses := true, apart := false }
def StrategyPlaysSaid : Prop := strategyPlaysRow.holds Try.pinned (OpenSpec.ofChange strategyPlaysSpec)

/-- ITS FALSE NEIGHBOUR: 'it returns false'. Refute it at one input. -/
def strategyPlaysWrong : ChangeSpec := { name := "strategyPlays", fn := fun _ => fun
  | [d1, d2, d3, d4, d5] => { results := [.lit (.bool false)], args := [d1, d2, d3, d4, d5] }
  | _ => none }
def StrategyPlaysWrongFalsely : Prop := strategyPlaysRow.holds Try.pinned (OpenSpec.ofChange strategyPlaysWrong)

/-- 'foresightlaw25.StrategyRefuted': WHATEVER THE INPUT: true; the input reads as it did. -/
def strategyRefutedSpec : ChangeSpec := { name := "strategyRefuted", fn := fun _ => fun
  | [d1, d2, d3, d4] => { results := [.lit (.bool true)], args := [d1, d2, d3, d4] }
  | _ => none }
def strategyRefutedRow : OpenClaim := { program := "ytkbiopjinegckaa", sum := "65615d101c68e19c1b2d2e4f68281577f35a0f3c46ae7ae8e7109640560e8762", func := "foresight/foresightlaw25.StrategyRefuted", spec := "strategyRefuted", unfollowed := true, recurses := true, apart := false }
def StrategyRefutedSaid : Prop := strategyRefutedRow.holds Try.pinned (OpenSpec.ofChange strategyRefutedSpec)

/-- ITS FALSE NEIGHBOUR: 'it returns false'. Refute it at one input. -/
def strategyRefutedWrong : ChangeSpec := { name := "strategyRefuted", fn := fun _ => fun
  | [d1, d2, d3, d4] => { results := [.lit (.bool false)], args := [d1, d2, d3, d4] }
  | _ => none }
def StrategyRefutedWrongFalsely : Prop := strategyRefutedRow.holds Try.pinned (OpenSpec.ofChange strategyRefutedWrong)

/-- 'foresightlaw25.StrategyOne': WHATEVER THE INPUT: true; the input reads as it did. -/
def strategyOneSpec : ChangeSpec := { name := "strategyOne", fn := fun _ => fun
  | [d1, d2, d3, d4, d5] => { results := [.lit (.bool true)], args := [d1, d2, d3, d4, d5] }
  | _ => none }
def strategyOneRow : OpenClaim := { program := "ytkbiopjinegckaa", sum := "65615d101c68e19c1b2d2e4f68281577f35a0f3c46ae7ae8e7109640560e8762", func := "foresight/foresightlaw25.StrategyOne", spec := "strategyOne", unfollowed := true, recurses := true, apart := false }
def StrategyOneSaid : Prop := strategyOneRow.holds Try.pinned (OpenSpec.ofChange strategyOneSpec)

/-- ITS FALSE NEIGHBOUR: 'it returns false'. Refute it at one input. -/
def strategyOneWrong : ChangeSpec := { name := "strategyOne", fn := fun _ => fun
  | [d1, d2, d3, d4, d5] => { results := [.lit (.bool false)], args := [d1, d2, d3, d4, d5] }
  | _ => none }
def StrategyOneWrongFalsely : Prop := strategyOneRow.holds Try.pinned (OpenSpec.ofChange strategyOneWrong)

/-- 'foresightlaw25.StrategyParts': WHATEVER THE INPUT: true; the input reads as it did. -/
def strategyPartsSpec : ChangeSpec := { name := "strategyParts", fn := fun _ => fun
  | [d1, d2, d3, d4, d5, d6] => { results := [.lit (.bool true)], args := [d1, d2, d3, d4, d5, d6] }
  | _ => none }
def strategyPartsRow : OpenClaim := { program := "ytkbiopjinegckaa", sum := "65615d101c68e19c1b2d2e4f68281577f35a0f3c46ae7ae8e7109640560e8762", func := "foresight/foresightlaw25.StrategyParts", spec := "strategyParts", unfollowed := true, recurses := true, apart := false }
def StrategyPartsSaid : Prop := strategyPartsRow.holds Try.pinned (OpenSpec.ofChange strategyPartsSpec)

/-- ITS FALSE NEIGHBOUR: 'it returns false'. Refute it at one input. -/
def strategyPartsWrong : ChangeSpec := { name := "strategyParts", fn := fun _ => fun
  | [d1, d2, d3, d4, d5, d6] => { results := [.lit (.bool false)], args := [d1, d2, d3, d4, d5, d6] }
  | _ => none }
def StrategyPartsWrongFalsely : Prop := strategyPartsRow.holds Try.pinned (OpenSpec.ofChange strategyPartsWrong)

/-- 'foresightlaw25.StrategyExchange': WHATEVER THE INPUT: true; the input reads as it did. -/
def strategyExchangeSpec : ChangeSpec := { name := "strategyExchange", fn := fun _ => fun
  | [d1, d2, d3, d4, d5] => { results := [.lit (.bool true)], args := [d1, d2, d3, d4, d5] }
  | _ => none }
def strategyExchangeRow : OpenClaim := { program := "ytkbiopjinegckaa", sum := "65615d101c68e19c1b2d2e4f68281577f35a0f3c46ae7ae8e7109640560e8762", func := "foresight/foresightlaw25.StrategyExchange", spec := "strategyExchange", unfollowed := true, recurses := true, apart := false }
def StrategyExchangeSaid : Prop := strategyExchangeRow.holds Try.pinned (OpenSpec.ofChange strategyExchangeSpec)

/-- ITS FALSE NEIGHBOUR: 'it returns false'. Refute it at one input. -/
def strategyExchangeWrong : ChangeSpec := { name := "strategyExchange", fn := fun _ => fun
  | [d1, d2, d3, d4, d5] => { results := [.lit (.bool false)], args := [d1, d2, d3, d4, d5] }
  | _ => none }
def StrategyExchangeWrongFalsely : Prop := strategyExchangeRow.holds Try.pinned (OpenSpec.ofChange strategyExchangeWrong)

/- THE SECOND FORM. 'bulk': how many values and letters a reading holds, each counted each time it is reached (what is shared counts as often as it is met; a slice's spare places count too). A statement '..UptoSaid' is the law's where the arguments, and the package variables that the reading takes, are together of bulk at most 1048576: NARROWER than '..Said'. Prove '..Said' where nothing that the law and all that it calls make is longer than what came in: it says more and counts as full. Else prove '..UptoSaid'. A law counts once. -/
mutual
def uptoBulk {H : Type} : DataW H → Nat
  | .lit (.string bytes) => bytes.length + 1
  | .lit _ => 1
  | .nil => 1
  | .ptr d => uptoBulk d + 1
  | .slice elems spare => uptoBulkAll elems + uptoBulkAll spare + 1
  | .agg parts => uptoBulkAll parts + 1
  | .iface _ d => uptoBulk d + 1
  | .map entries => uptoBulkEntries entries + 1
  | .held _ => 1
def uptoBulkAll {H : Type} : List (DataW H) → Nat
  | [] => 0
  | d :: r => uptoBulk d + uptoBulkAll r
def uptoBulkEntries {H : Type} : List (Lit × DataW H) → Nat
  | [] => 0
  | x :: r => uptoBulkEntry x + uptoBulkEntries r
def uptoBulkEntry {H : Type} : Lit × DataW H → Nat
  | (.string bytes, d) => bytes.length + uptoBulk d + 1
  | (_, d) => uptoBulk d + 1
 end
def uptoSmall : (H : Type) → List (DataW H) → Bool := fun _ ds => decide (uptoBulkAll ds ≤ 1048576)
def OpenSpec.upto (s : _root_.Go.ChangeSpec) : _root_.Go.OpenSpec := { _root_.Go.OpenSpec.ofChange s with cond := some uptoSmall }

/-- 'foresightlaw25.StrategyMatchesReference', WHERE WHAT IT READS IS OF BULK AT MOST 1048576: true; the input reads as it did. -/
def strategyMatchesReferenceUptoRow : OpenClaim := { program := "ytkbiopjinegckaa", sum := "65615d101c68e19c1b2d2e4f68281577f35a0f3c46ae7ae8e7109640560e8762", func := "foresight/foresightlaw25.StrategyMatchesReference", spec := "strategyMatchesReference", unfollowed := true, recurses := true, apart := false, narrowed := true }
def StrategyMatchesReferenceUptoSaid : Prop := strategyMatchesReferenceUptoRow.holds Try.pinned (OpenSpec.upto strategyMatchesReferenceSpec)

/-- 'foresightlaw25.StrategyPlays', WHERE WHAT IT READS IS OF BULK AT MOST 1048576: true; the input reads as it did. -/
def strategyPlaysUptoRow : OpenClaim := { program := "ytkbiopjinegckaa", sum := "65615d101c68e19c1b2d2e4f68281577f35a0f3c46ae7ae8e7109640560e8762", func := "foresight/foresightlaw25.StrategyPlays", spec := "strategyPlays", unfollowed := true, recurses := true, apart := false, narrowed := true }
def StrategyPlaysUptoSaid : Prop := strategyPlaysUptoRow.holds Try.pinned (OpenSpec.upto strategyPlaysSpec)

/-- 'foresightlaw25.StrategyRefuted', WHERE WHAT IT READS IS OF BULK AT MOST 1048576: true; the input reads as it did. -/
def strategyRefutedUptoRow : OpenClaim := { program := "ytkbiopjinegckaa", sum := "65615d101c68e19c1b2d2e4f68281577f35a0f3c46ae7ae8e7109640560e8762", func := "foresight/foresightlaw25.StrategyRefuted", spec := "strategyRefuted", unfollowed := true, recurses := true, apart := false, narrowed := true }
def StrategyRefutedUptoSaid : Prop := strategyRefutedUptoRow.holds Try.pinned (OpenSpec.upto strategyRefutedSpec)

/-- 'foresightlaw25.StrategyOne', WHERE WHAT IT READS IS OF BULK AT MOST 1048576: true; the input reads as it did. -/
def strategyOneUptoRow : OpenClaim := { program := "ytkbiopjinegckaa", sum := "65615d101c68e19c1b2d2e4f68281577f35a0f3c46ae7ae8e7109640560e8762", func := "foresight/foresightlaw25.StrategyOne", spec := "strategyOne", unfollowed := true, recurses := true, apart := false, narrowed := true }
def StrategyOneUptoSaid : Prop := strategyOneUptoRow.holds Try.pinned (OpenSpec.upto strategyOneSpec)

/-- 'foresightlaw25.StrategyParts', WHERE WHAT IT READS IS OF BULK AT MOST 1048576: true; the input reads as it did. -/
def strategyPartsUptoRow : OpenClaim := { program := "ytkbiopjinegckaa", sum := "65615d101c68e19c1b2d2e4f68281577f35a0f3c46ae7ae8e7109640560e8762", func := "foresight/foresightlaw25.StrategyParts", spec := "strategyParts", unfollowed := true, recurses := true, apart := false, narrowed := true }
def StrategyPartsUptoSaid : Prop := strategyPartsUptoRow.holds Try.pinned (OpenSpec.upto strategyPartsSpec)

/-- 'foresightlaw25.StrategyExchange', WHERE WHAT IT READS IS OF BULK AT MOST 1048576: true; the input reads as it did. -/
def strategyExchangeUptoRow : OpenClaim := { program := "ytkbiopjinegckaa", sum := "65615d101c68e19c1b2d2e4f68281577f35a0f3c46ae7ae8e7109640560e8762", func := "foresight/foresightlaw25.StrategyExchange", spec := "strategyExchange", unfollowed := true, recurses := true, apart := false, narrowed := true }
def StrategyExchangeUptoSaid : Prop := strategyExchangeUptoRow.holds Try.pinned (OpenSpec.upto strategyExchangeSpec)

end Rows
end Go.Proofs.Ytkbiopjinegckaa
