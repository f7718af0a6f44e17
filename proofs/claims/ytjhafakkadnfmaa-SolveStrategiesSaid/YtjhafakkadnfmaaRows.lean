/-
  No cell of these rows narrows 'for every input' (looked for: loops, veiled, ifaces, maps, wideKeys, modest, calm, conditions, laid).
  DERIVED. THE GIVEN ROWS OF THIS SEAT. 7 by the template 'for every input the law returns true; each argument reads behind the call as it read before'; 0 by the template 'total and deterministic' (their statements: YtjhafakkadnfmaaTotals.lean).
  GIVEN WITH THE SEED: the statements are not yours to turn. If you find one false, say at which input.
  Laid BY PROGRAM, IN A SANDBOX (cutbox-rows.mjs): the forced cells as the released guide's own fill.sh prints them over the translation 4859f40c741c7566… (all of the seat's roots in one cut). By AI agents, Wed Nov 11 2026. No macro, syntax, notation, axiom, sorry.
-/
import Derived.Test.YtjhafakkadnfmaaChecked
import GoSem.Claim
import GoSem.ClaimJoined
import GoSem.ClaimMapViews
import Derived.JoinedTies
import Derived.KernelRfl
namespace Go.Proofs.Ytjhafakkadnfmaa
/- THE CELL 'sum', in the pinned program and in every row, IS THE sha256 OF THE DUMP (.gsa) THAT YtjhafakkadnfmaaProg.lean LOADS. Nothing in Lean hashes anything: it is a label: what it is worth is what the hold of that sum in a sandbox is worth. -/
noncomputable def Try.pinned : Pinned := { name := "ytjhafakkadnfmaa", sum := "4859f40c741c75662272a28ff74dc43fad93184649732184b80287463f7df014", checked := Try.checked }
namespace Rows
def none {H : Type} : Left H := { results := [], args := [] }

/-- 'foresightlaw23.SolveMatchesReference': WHATEVER THE INPUT: true; the input reads as it did. -/
def solveMatchesReferenceSpec : ChangeSpec := { name := "solveMatchesReference", fn := fun _ => fun
  | [d] => { results := [.lit (.bool true)], args := [d] }
  | _ => none }
def solveMatchesReferenceRow : OpenClaim := { program := "ytjhafakkadnfmaa", sum := "4859f40c741c75662272a28ff74dc43fad93184649732184b80287463f7df014", func := "foresight/foresightlaw23.SolveMatchesReference", spec := "solveMatchesReference", unfollowed := true, recurses := true, apart := false }
def SolveMatchesReferenceSaid : Prop := solveMatchesReferenceRow.holds Try.pinned (OpenSpec.ofChange solveMatchesReferenceSpec)

/-- ITS FALSE NEIGHBOUR: 'it returns false'. Refute it at one input. -/
def solveMatchesReferenceWrong : ChangeSpec := { name := "solveMatchesReference", fn := fun _ => fun
  | [d] => { results := [.lit (.bool false)], args := [d] }
  | _ => none }
def SolveMatchesReferenceWrongFalsely : Prop := solveMatchesReferenceRow.holds Try.pinned (OpenSpec.ofChange solveMatchesReferenceWrong)

/-- 'foresightlaw23.SolveMore': WHATEVER THE INPUT: true; the input reads as it did. -/
def solveMoreSpec : ChangeSpec := { name := "solveMore", fn := fun _ => fun
  | [d1, d2, d3, d4] => { results := [.lit (.bool true)], args := [d1, d2, d3, d4] }
  | _ => none }
def solveMoreRow : OpenClaim := { program := "ytjhafakkadnfmaa", sum := "4859f40c741c75662272a28ff74dc43fad93184649732184b80287463f7df014", func := "foresight/foresightlaw23.SolveMore", spec := "solveMore", unfollowed := true, recurses := true, apart := false }
def SolveMoreSaid : Prop := solveMoreRow.holds Try.pinned (OpenSpec.ofChange solveMoreSpec)

/-- ITS FALSE NEIGHBOUR: 'it returns false'. Refute it at one input. -/
def solveMoreWrong : ChangeSpec := { name := "solveMore", fn := fun _ => fun
  | [d1, d2, d3, d4] => { results := [.lit (.bool false)], args := [d1, d2, d3, d4] }
  | _ => none }
def SolveMoreWrongFalsely : Prop := solveMoreRow.holds Try.pinned (OpenSpec.ofChange solveMoreWrong)

/-- 'foresightlaw23.SolveStrategies': WHATEVER THE INPUT: true; the input reads as it did. -/
def solveStrategiesSpec : ChangeSpec := { name := "solveStrategies", fn := fun _ => fun
  | [d1, d2] => { results := [.lit (.bool true)], args := [d1, d2] }
  | _ => none }
def solveStrategiesRow : OpenClaim := { program := "ytjhafakkadnfmaa", sum := "4859f40c741c75662272a28ff74dc43fad93184649732184b80287463f7df014", func := "foresight/foresightlaw23.SolveStrategies", spec := "solveStrategies", unfollowed := true, recurses := true, apart := false }
def SolveStrategiesSaid : Prop := solveStrategiesRow.holds Try.pinned (OpenSpec.ofChange solveStrategiesSpec)

/-- ITS FALSE NEIGHBOUR: 'it returns false'. Refute it at one input. -/
def solveStrategiesWrong : ChangeSpec := { name := "solveStrategies", fn := fun _ => fun
  | [d1, d2] => { results := [.lit (.bool false)], args := [d1, d2] }
  | _ => none }
def SolveStrategiesWrongFalsely : Prop := solveStrategiesRow.holds Try.pinned (OpenSpec.ofChange solveStrategiesWrong)

/-- 'foresightlaw23.SolveMoves': WHATEVER THE INPUT: true; the input reads as it did. -/
def solveMovesSpec : ChangeSpec := { name := "solveMoves", fn := fun _ => fun
  | [d] => { results := [.lit (.bool true)], args := [d] }
  | _ => none }
def solveMovesRow : OpenClaim := { program := "ytjhafakkadnfmaa", sum := "4859f40c741c75662272a28ff74dc43fad93184649732184b80287463f7df014", func := "foresight/foresightlaw23.SolveMoves", spec := "solveMoves", unfollowed := true, recurses := true, apart := false }
def SolveMovesSaid : Prop := solveMovesRow.holds Try.pinned (OpenSpec.ofChange solveMovesSpec)

/-- ITS FALSE NEIGHBOUR: 'it returns false'. Refute it at one input. -/
def solveMovesWrong : ChangeSpec := { name := "solveMoves", fn := fun _ => fun
  | [d] => { results := [.lit (.bool false)], args := [d] }
  | _ => none }
def SolveMovesWrongFalsely : Prop := solveMovesRow.holds Try.pinned (OpenSpec.ofChange solveMovesWrong)

/-- 'foresightlaw23.SolveExchange': WHATEVER THE INPUT: true; the input reads as it did. -/
def solveExchangeSpec : ChangeSpec := { name := "solveExchange", fn := fun _ => fun
  | [d1, d2] => { results := [.lit (.bool true)], args := [d1, d2] }
  | _ => none }
def solveExchangeRow : OpenClaim := { program := "ytjhafakkadnfmaa", sum := "4859f40c741c75662272a28ff74dc43fad93184649732184b80287463f7df014", func := "foresight/foresightlaw23.SolveExchange", spec := "solveExchange", unfollowed := true, recurses := true, apart := false }
def SolveExchangeSaid : Prop := solveExchangeRow.holds Try.pinned (OpenSpec.ofChange solveExchangeSpec)

/-- ITS FALSE NEIGHBOUR: 'it returns false'. Refute it at one input. -/
def solveExchangeWrong : ChangeSpec := { name := "solveExchange", fn := fun _ => fun
  | [d1, d2] => { results := [.lit (.bool false)], args := [d1, d2] }
  | _ => none }
def SolveExchangeWrongFalsely : Prop := solveExchangeRow.holds Try.pinned (OpenSpec.ofChange solveExchangeWrong)

/-- 'foresightlaw23.SolveRegions': WHATEVER THE INPUT: true; the input reads as it did. -/
def solveRegionsSpec : ChangeSpec := { name := "solveRegions", fn := fun _ => fun
  | [d1, d2] => { results := [.lit (.bool true)], args := [d1, d2] }
  | _ => none }
def solveRegionsRow : OpenClaim := { program := "ytjhafakkadnfmaa", sum := "4859f40c741c75662272a28ff74dc43fad93184649732184b80287463f7df014", func := "foresight/foresightlaw23.SolveRegions", spec := "solveRegions", unfollowed := true, recurses := true, apart := false }
def SolveRegionsSaid : Prop := solveRegionsRow.holds Try.pinned (OpenSpec.ofChange solveRegionsSpec)

/-- ITS FALSE NEIGHBOUR: 'it returns false'. Refute it at one input. -/
def solveRegionsWrong : ChangeSpec := { name := "solveRegions", fn := fun _ => fun
  | [d1, d2] => { results := [.lit (.bool false)], args := [d1, d2] }
  | _ => none }
def SolveRegionsWrongFalsely : Prop := solveRegionsRow.holds Try.pinned (OpenSpec.ofChange solveRegionsWrong)

/-- 'foresightlaw23.SolveParts': WHATEVER THE INPUT: true; the input reads as it did. -/
def solvePartsSpec : ChangeSpec := { name := "solveParts", fn := fun _ => fun
  | [d1, d2] => { results := [.lit (.bool true)], args := [d1, d2] }
  | _ => none }
def solvePartsRow : OpenClaim := { program := "ytjhafakkadnfmaa", sum := "4859f40c741c75662272a28ff74dc43fad93184649732184b80287463f7df014", func := "foresight/foresightlaw23.SolveParts", spec := "solveParts", unfollowed := true, recurses := true, apart := false }
def SolvePartsSaid : Prop := solvePartsRow.holds Try.pinned (OpenSpec.ofChange solvePartsSpec)

/-- ITS FALSE NEIGHBOUR: 'it returns false'. Refute it at one input. -/
def solvePartsWrong : ChangeSpec := { name := "solveParts", fn := fun _ => fun
  | [d1, d2] => { results := [.lit (.bool false)], args := [d1, d2] }
  | _ => none }
def SolvePartsWrongFalsely : Prop := solvePartsRow.holds Try.pinned (OpenSpec.ofChange solvePartsWrong)

/- THE SECOND FORM. 'bulk': how many values and letters a reading holds, each counted each time it is reached (what is shared counts as often as it is met; a slice's spare places count too). A statement '..UptoSaid' is the law's where the arguments, and the package variables that the reading takes, are together of bulk at most 1048576: NARROWER than '..Said'. Prove '..Said' where nothing that the law and all that it calls make is longer than what came in: it says more and counts as full. Else prove '..UptoSaid'. A law counts once. -/
mutual
def uptoBulk {H : Type} : DataW H → Nat
  | .lit (.string bytes) => bytes.length + 1
  | .lit _ => 1
  | .nil => 1
  | .ptr d => uptoBulk d + 1
  | .slice elems spare => uptoBulkAll elems + uptoBulkAll spare + 1
  | .agg parts => uptoBulkAll parts + 1
  | .iface _ d => uptoBulk d + 1
  | .map entries => uptoBulkEntries entries + 1
  | .held _ => 1
def uptoBulkAll {H : Type} : List (DataW H) → Nat
  | [] => 0
  | d :: r => uptoBulk d + uptoBulkAll r
def uptoBulkEntries {H : Type} : List (Lit × DataW H) → Nat
  | [] => 0
  | x :: r => uptoBulkEntry x + uptoBulkEntries r
def uptoBulkEntry {H : Type} : Lit × DataW H → Nat
  | (.string bytes, d) => bytes.length + uptoBulk d + 1
  | (_, d) => uptoBulk d + 1
 end
def uptoSmall : (H : Type) → List (DataW H) → Bool := fun _ ds => decide (uptoBulkAll ds ≤ 1048576)
def OpenSpec.upto (s : _root_.Go.ChangeSpec) : _root_.Go.OpenSpec := { _root_.Go.OpenSpec.ofChange s with cond := some uptoSmall }

/-- 'foresightlaw23.SolveMatchesReference', WHERE WHAT IT READS IS OF BULK AT MOST 1048576: true; the input reads as it did. -/
def solveMatchesReferenceUptoRow : OpenClaim := { program := "ytjhafakkadnfmaa", sum := "4859f40c741c75662272a28ff74dc43fad93184649732184b80287463f7df014", func := "foresight/foresightlaw23.SolveMatchesReference", spec := "solveMatchesReference", unfollowed := true, recurses := true, apart := false, narrowed := true }
def SolveMatchesReferenceUptoSaid : Prop := solveMatchesReferenceUptoRow.holds Try.pinned (OpenSpec.upto solveMatchesReferenceSpec)

/-- 'foresightlaw23.SolveMore', WHERE WHAT IT READS IS OF BULK AT MOST 1048576: true; the input reads as it did. -/
def solveMoreUptoRow : OpenClaim := { program := "ytjhafakkadnfmaa", sum := "4859f40c741c75662272a28ff74dc43fad93184649732184b80287463f7df014", func := "foresight/foresightlaw23.SolveMore", spec := "solveMore", unfollowed := true, recurses := true, apart := false, narrowed := true }
def SolveMoreUptoSaid : Prop := solveMoreUptoRow.holds Try.pinned (OpenSpec.upto solveMoreSpec)

/-- 'foresightlaw23.SolveStrategies', WHERE WHAT IT READS IS OF BULK AT MOST 1048576: true; the input reads as it did. -/
def solveStrategiesUptoRow : OpenClaim := { program := "ytjhafakkadnfmaa", sum := "4859f40c741c75662272a28ff74dc43fad93184649732184b80287463f7df014", func := "foresight/foresightlaw23.SolveStrategies", spec := "solveStrategies", unfollowed := true, recurses := true, apart := false, narrowed := true }
def SolveStrategiesUptoSaid : Prop := solveStrategiesUptoRow.holds Try.pinned (OpenSpec.upto solveStrategiesSpec)

/-- 'foresightlaw23.SolveMoves', WHERE WHAT IT READS IS OF BULK AT MOST 1048576: true; the input reads as it did. -/
def solveMovesUptoRow : OpenClaim := { program := "ytjhafakkadnfmaa", sum := "4859f40c741c75662272a28ff74dc43fad93184649732184b80287463f7df014", func := "foresight/foresightlaw23.SolveMoves", spec := "solveMoves", unfollowed := true, recurses := true, apart := false, narrowed := true }
def SolveMovesUptoSaid : Prop := solveMovesUptoRow.holds Try.pinned (OpenSpec.upto solveMovesSpec)

/-- 'foresightlaw23.SolveExchange', WHERE WHAT IT READS IS OF BULK AT MOST 1048576: true; the input reads as it did. -/
def solveExchangeUptoRow : OpenClaim := { program := "ytjhafakkadnfmaa", sum := "4859f40c741c75662272a28ff74dc43fad93184649732184b80287463f7df014", func := "foresight/foresightlaw23.SolveExchange", spec := "solveExchange", unfollowed := true, recurses := true, apart := false, narrowed := true }
def SolveExchangeUptoSaid : Prop := solveExchangeUptoRow.holds Try.pinned (OpenSpec.upto solveExchangeSpec)

/-- 'foresightlaw23.SolveRegions', WHERE WHAT IT READS IS OF BULK AT MOST 1048576: true; the input reads as it did. -/
def solveRegionsUptoRow : OpenClaim := { program := "ytjhafakkadnfmaa", sum := "4859f40c741c75662272a28ff74dc43fad93184649732184b80287463f7df014", func := "foresight/foresightlaw23.SolveRegions", spec := "solveRegions", unfollowed := true, recurses := true, apart := false, narrowed := true }
def SolveRegionsUptoSaid : Prop := solveRegionsUptoRow.holds Try.pinned (OpenSpec.upto solveRegionsSpec)

/-- 'foresightlaw23.SolveParts', WHERE WHAT IT READS IS OF BULK AT MOST 1048576: true; the input reads as it did. -/
def solvePartsUptoRow : OpenClaim := { program := "ytjhafakkadnfmaa", sum := "4859f40c741c75662272a28ff74dc43fad93184649732184b80287463f7df014", func := "foresight/foresightlaw23.SolveParts", spec := "solveParts", unfollowed := true, recurses := true, apart := false, narrowed := true }
def SolvePartsUptoSaid : Prop := solvePartsUptoRow.holds Try.pinned (OpenSpec.upto solvePartsSpec)

end Rows
end Go.Proofs.Ytjhafakkadnfmaa
