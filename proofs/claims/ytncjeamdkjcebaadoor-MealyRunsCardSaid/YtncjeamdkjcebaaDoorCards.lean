/-
  DERIVED. GIVEN WITH THE SEED: THE CARDS: each row of YtncjeamdkjcebaaDoorRows.lean that lists a variable, with what it lists TIED to the program's text (the seventh form; the later family's looks); each row that meets fmt, with fmt's text TOLD by the authors' own Lean function (tested against real Go, not proved from fmt's source: count such statements apart). THE CARD IS WHAT COUNTS. Prove the row's statement (the work); the ties are given (YtncjeamdkjcebaaDoorTie.lean); close each card by the builder's one call (the guide's Derived/Test/ToyasCard.lean, 'card_holds'). Laid BY PROGRAM, IN A SANDBOX (cutbox-door.mjs). By AI agents, Wed Nov 11 2026. No macro, syntax, notation, axiom, sorry.
-/
import Derived.Test.YtncjeamdkjcebaaDoorRows
import GoSem.ClaimSeven
namespace Go.Proofs.YtncjeamdkjcebaaDoor
namespace Rows

/-- THE TIED CARD OF 'foresightlaw26.MealyRuns'. -/
def mealyRunsCard : Claim7 := { stood := { row := mealyRunsRow, standIns := [], harness := (true, "04f0e5da1ff14cc74193bc478d265562a2e84913836a8f423589cafc35356a48"), looks := false }, kinds := [], alts := [], laidByText := true, laidKinds := [.data], laidTests := true, laidLooks := .later }
def MealyRunsCardSaid : Prop := Claim7.holds Tryd.pinned (.plain (OpenSpec.ofChange mealyRunsSpec)) mealyRunsCard

/-- THE SECOND FORM's CARD OF 'foresightlaw26.MealyRuns'. -/
def mealyRunsUptoCard : Claim7 := { stood := { row := mealyRunsUptoRow, standIns := [], harness := (true, "04f0e5da1ff14cc74193bc478d265562a2e84913836a8f423589cafc35356a48"), looks := false }, kinds := [], alts := [], laidByText := true, laidKinds := [.data], laidTests := true, laidLooks := .later }
def MealyRunsUptoCardSaid : Prop := Claim7.holds Tryd.pinned (.plain (OpenSpec.upto mealyRunsSpec)) mealyRunsUptoCard
end Rows
end Go.Proofs.YtncjeamdkjcebaaDoor
