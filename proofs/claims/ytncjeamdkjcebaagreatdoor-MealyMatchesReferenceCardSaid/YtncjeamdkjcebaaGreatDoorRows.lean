/-
  NARROWER THAN 'FOR EVERY INPUT', by the rows' own cells (each row's printed sentence says how): MealyMatchesReference: laid · MealyBoth: laid · MealyPlays: laid · MealyWords: laid.
  DERIVED. THE GIVEN ROWS OF THIS SEAT. 4 by the template 'for every input the law returns true; each argument reads behind the call as it read before'; 0 by the template 'total and deterministic' (their statements: YtncjeamdkjcebaaGreatDoorTotals.lean).
  GIVEN WITH THE SEED: the statements are not yours to turn. If you find one false, say at which input.
  Laid BY PROGRAM, IN A SANDBOX (cutbox-rows.mjs): the forced cells as the released guide's own fill.sh prints them over the translation ae3ef9b24b681ff0… (all of the seat's roots in one cut). By AI agents, Wed Nov 11 2026. No macro, syntax, notation, axiom, sorry.
-/
import Derived.Test.YtncjeamdkjcebaaGreatDoorChecked
import GoSem.Claim
import GoSem.ClaimJoined
import GoSem.ClaimMapViews
import Derived.JoinedTies
import Derived.KernelRfl
namespace Go.Proofs.YtncjeamdkjcebaaGreatDoor
/- THE CELL 'sum', in the pinned program and in every row, IS THE sha256 OF THE DUMP (.gsa) THAT YtncjeamdkjcebaaGreatDoorProg.lean LOADS. Nothing in Lean hashes anything: it is a label: what it is worth is what the hold of that sum in a sandbox is worth. -/
noncomputable def Tryz.pinned : Pinned := { name := "ytncjeamdkjcebaagreatdoor", sum := "ae3ef9b24b681ff015a6884d7308efd37c9822c9976c7f7c169d71a45ee79e4b", checked := Tryz.checked }
namespace Rows
def none {H : Type} : Left H := { results := [], args := [] }

/- WHAT THE LISTED PACKAGE-LEVEL VARIABLES READ AS WHEN THE CALL BEGINS. Each datum BY PROGRAM (the guide's laid-datum.mjs) off the statement by which the dump's own 'gosem.cut.vars' lays the variable. In a bare row this is a premise. The card (YtncjeamdkjcebaaGreatDoorCards.lean) ties it to the program's text. -/
def laid_foresight_signal_keys {H : Type} : DataW H := .agg [.lit (.string [105, 110, 112, 117, 116]), .lit (.string [111, 117, 116, 112, 117, 116]), .lit (.string [112, 97, 114, 116]), .lit (.string [97, 115, 115, 117, 109, 101]), .lit (.string [103, 117, 97, 114, 97, 110, 116, 101, 101]), .lit (.string [116, 114, 117, 101]), .lit (.string [102, 97, 108, 115, 101]), .lit (.string [97, 100, 100]), .lit (.string [100, 114, 111, 112]), .lit (.string [114, 101, 112, 108, 97, 99, 101])]

/-- 'foresightlaw26.MealyMatchesReference': WHATEVER THE INPUT: true; the input reads as it did. -/
def mealyMatchesReferenceSpec : ChangeSpec := { name := "mealyMatchesReference", fn := fun _ => fun
  | [d1, d2, d3, d4, d5, d6, d7, d8] => { results := [.lit (.bool true)], args := [d1, d2, d3, d4, d5, d6, d7, d8] }
  | _ => none }
def mealyMatchesReferenceRow : OpenClaim := { program := "ytncjeamdkjcebaagreatdoor", sum := "ae3ef9b24b681ff015a6884d7308efd37c9822c9976c7f7c169d71a45ee79e4b", func := "foresight/foresightlaw26.MealyMatchesReference", spec := "mealyMatchesReference", unfollowed := true, recurses := true, named := ["foresight/signal.keys"], plainKeys := false, apart := false, laid := [("foresight/signal.keys", laid_foresight_signal_keys)] }
def MealyMatchesReferenceSaid : Prop := mealyMatchesReferenceRow.holds Tryz.pinned (OpenSpec.ofChange mealyMatchesReferenceSpec)

/-- ITS FALSE NEIGHBOUR: 'it returns false'. Refute it at one input. -/
def mealyMatchesReferenceWrong : ChangeSpec := { name := "mealyMatchesReference", fn := fun _ => fun
  | [d1, d2, d3, d4, d5, d6, d7, d8] => { results := [.lit (.bool false)], args := [d1, d2, d3, d4, d5, d6, d7, d8] }
  | _ => none }
def MealyMatchesReferenceWrongFalsely : Prop := mealyMatchesReferenceRow.holds Tryz.pinned (OpenSpec.ofChange mealyMatchesReferenceWrong)

/-- 'foresightlaw26.MealyBoth': WHATEVER THE INPUT: true; the input reads as it did. -/
def mealyBothSpec : ChangeSpec := { name := "mealyBoth", fn := fun _ => fun
  | [d1, d2, d3, d4, d5] => { results := [.lit (.bool true)], args := [d1, d2, d3, d4, d5] }
  | _ => none }
def mealyBothRow : OpenClaim := { program := "ytncjeamdkjcebaagreatdoor", sum := "ae3ef9b24b681ff015a6884d7308efd37c9822c9976c7f7c169d71a45ee79e4b", func := "foresight/foresightlaw26.MealyBoth", spec := "mealyBoth", unfollowed := true, recurses := true, named := ["foresight/signal.keys"], plainKeys := false, apart := false, laid := [("foresight/signal.keys", laid_foresight_signal_keys)] }
def MealyBothSaid : Prop := mealyBothRow.holds Tryz.pinned (OpenSpec.ofChange mealyBothSpec)

/-- ITS FALSE NEIGHBOUR: 'it returns false'. Refute it at one input. -/
def mealyBothWrong : ChangeSpec := { name := "mealyBoth", fn := fun _ => fun
  | [d1, d2, d3, d4, d5] => { results := [.lit (.bool false)], args := [d1, d2, d3, d4, d5] }
  | _ => none }
def MealyBothWrongFalsely : Prop := mealyBothRow.holds Tryz.pinned (OpenSpec.ofChange mealyBothWrong)

/-- 'foresightlaw26.MealyPlays': WHATEVER THE INPUT: true; the input reads as it did. -/
def mealyPlaysSpec : ChangeSpec := { name := "mealyPlays", fn := fun _ => fun
  | [d1, d2, d3] => { results := [.lit (.bool true)], args := [d1, d2, d3] }
  | _ => none }
def mealyPlaysRow : OpenClaim := { program := "ytncjeamdkjcebaagreatdoor", sum := "ae3ef9b24b681ff015a6884d7308efd37c9822c9976c7f7c169d71a45ee79e4b", func := "foresight/foresightlaw26.MealyPlays", spec := "mealyPlays", unfollowed := true, recurses := true, named := ["foresight/signal.keys"], plainKeys := false, apart := false, laid := [("foresight/signal.keys", laid_foresight_signal_keys)] }
def MealyPlaysSaid : Prop := mealyPlaysRow.holds Tryz.pinned (OpenSpec.ofChange mealyPlaysSpec)

/-- ITS FALSE NEIGHBOUR: 'it returns false'. Refute it at one input. -/
def mealyPlaysWrong : ChangeSpec := { name := "mealyPlays", fn := fun _ => fun
  | [d1, d2, d3] => { results := [.lit (.bool false)], args := [d1, d2, d3] }
  | _ => none }
def MealyPlaysWrongFalsely : Prop := mealyPlaysRow.holds Tryz.pinned (OpenSpec.ofChange mealyPlaysWrong)

/-- 'foresightlaw26.MealyWords': WHATEVER THE INPUT: true; the input reads as it did. -/
def mealyWordsSpec : ChangeSpec := { name := "mealyWords", fn := fun _ => fun
  | [d1, d2, d3, d4] => { results := [.lit (.bool true)], args := [d1, d2, d3, d4] }
  | _ => none }
def mealyWordsRow : OpenClaim := { program := "ytncjeamdkjcebaagreatdoor", sum := "ae3ef9b24b681ff015a6884d7308efd37c9822c9976c7f7c169d71a45ee79e4b", func := "foresight/foresightlaw26.MealyWords", spec := "mealyWords", unfollowed := true, recurses := true, named := ["foresight/signal.keys"], plainKeys := false, apart := false, laid := [("foresight/signal.keys", laid_foresight_signal_keys)] }
def MealyWordsSaid : Prop := mealyWordsRow.holds Tryz.pinned (OpenSpec.ofChange mealyWordsSpec)

/-- ITS FALSE NEIGHBOUR: 'it returns false'. Refute it at one input. -/
def mealyWordsWrong : ChangeSpec := { name := "mealyWords", fn := fun _ => fun
  | [d1, d2, d3, d4] => { results := [.lit (.bool false)], args := [d1, d2, d3, d4] }
  | _ => none }
def MealyWordsWrongFalsely : Prop := mealyWordsRow.holds Tryz.pinned (OpenSpec.ofChange mealyWordsWrong)

/- THE SECOND FORM. 'bulk': how many values and letters a reading holds, each counted each time it is reached (what is shared counts as often as it is met; a slice's spare places count too). A statement '..UptoSaid' is the law's where the arguments, and the package variables that the reading takes, are together of bulk at most 1048576: NARROWER than '..Said'. Prove '..Said' where nothing that the law and all that it calls make is longer than what came in: it says more and counts as full. Else prove '..UptoSaid'. A law counts once. -/
mutual
def uptoBulk {H : Type} : DataW H → Nat
  | .lit (.string bytes) => bytes.length + 1
  | .lit _ => 1
  | .nil => 1
  | .ptr d => uptoBulk d + 1
  | .slice elems spare => uptoBulkAll elems + uptoBulkAll spare + 1
  | .agg parts => uptoBulkAll parts + 1
  | .iface _ d => uptoBulk d + 1
  | .map entries => uptoBulkEntries entries + 1
  | .held _ => 1
def uptoBulkAll {H : Type} : List (DataW H) → Nat
  | [] => 0
  | d :: r => uptoBulk d + uptoBulkAll r
def uptoBulkEntries {H : Type} : List (Lit × DataW H) → Nat
  | [] => 0
  | x :: r => uptoBulkEntry x + uptoBulkEntries r
def uptoBulkEntry {H : Type} : Lit × DataW H → Nat
  | (.string bytes, d) => bytes.length + uptoBulk d + 1
  | (_, d) => uptoBulk d + 1
 end
def uptoSmall : (H : Type) → List (DataW H) → Bool := fun _ ds => decide (uptoBulkAll ds ≤ 1048576)
def OpenSpec.upto (s : _root_.Go.ChangeSpec) : _root_.Go.OpenSpec := { _root_.Go.OpenSpec.ofChange s with cond := some uptoSmall }

/-- 'foresightlaw26.MealyMatchesReference', WHERE WHAT IT READS IS OF BULK AT MOST 1048576: true; the input reads as it did. -/
def mealyMatchesReferenceUptoRow : OpenClaim := { program := "ytncjeamdkjcebaagreatdoor", sum := "ae3ef9b24b681ff015a6884d7308efd37c9822c9976c7f7c169d71a45ee79e4b", func := "foresight/foresightlaw26.MealyMatchesReference", spec := "mealyMatchesReference", unfollowed := true, recurses := true, named := ["foresight/signal.keys"], plainKeys := false, apart := false, laid := [("foresight/signal.keys", laid_foresight_signal_keys)], narrowed := true }
def MealyMatchesReferenceUptoSaid : Prop := mealyMatchesReferenceUptoRow.holds Tryz.pinned (OpenSpec.upto mealyMatchesReferenceSpec)

/-- 'foresightlaw26.MealyBoth', WHERE WHAT IT READS IS OF BULK AT MOST 1048576: true; the input reads as it did. -/
def mealyBothUptoRow : OpenClaim := { program := "ytncjeamdkjcebaagreatdoor", sum := "ae3ef9b24b681ff015a6884d7308efd37c9822c9976c7f7c169d71a45ee79e4b", func := "foresight/foresightlaw26.MealyBoth", spec := "mealyBoth", unfollowed := true, recurses := true, named := ["foresight/signal.keys"], plainKeys := false, apart := false, laid := [("foresight/signal.keys", laid_foresight_signal_keys)], narrowed := true }
def MealyBothUptoSaid : Prop := mealyBothUptoRow.holds Tryz.pinned (OpenSpec.upto mealyBothSpec)

/-- 'foresightlaw26.MealyPlays', WHERE WHAT IT READS IS OF BULK AT MOST 1048576: true; the input reads as it did. -/
def mealyPlaysUptoRow : OpenClaim := { program := "ytncjeamdkjcebaagreatdoor", sum := "ae3ef9b24b681ff015a6884d7308efd37c9822c9976c7f7c169d71a45ee79e4b", func := "foresight/foresightlaw26.MealyPlays", spec := "mealyPlays", unfollowed := true, recurses := true, named := ["foresight/signal.keys"], plainKeys := false, apart := false, laid := [("foresight/signal.keys", laid_foresight_signal_keys)], narrowed := true }
def MealyPlaysUptoSaid : Prop := mealyPlaysUptoRow.holds Tryz.pinned (OpenSpec.upto mealyPlaysSpec)

/-- 'foresightlaw26.MealyWords', WHERE WHAT IT READS IS OF BULK AT MOST 1048576: true; the input reads as it did. -/
def mealyWordsUptoRow : OpenClaim := { program := "ytncjeamdkjcebaagreatdoor", sum := "ae3ef9b24b681ff015a6884d7308efd37c9822c9976c7f7c169d71a45ee79e4b", func := "foresight/foresightlaw26.MealyWords", spec := "mealyWords", unfollowed := true, recurses := true, named := ["foresight/signal.keys"], plainKeys := false, apart := false, laid := [("foresight/signal.keys", laid_foresight_signal_keys)], narrowed := true }
def MealyWordsUptoSaid : Prop := mealyWordsUptoRow.holds Tryz.pinned (OpenSpec.upto mealyWordsSpec)

end Rows
end Go.Proofs.YtncjeamdkjcebaaGreatDoor
