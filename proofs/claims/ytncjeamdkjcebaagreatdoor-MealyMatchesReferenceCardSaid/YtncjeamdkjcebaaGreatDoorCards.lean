/-
  DERIVED. GIVEN WITH THE SEED: THE CARDS: each row of YtncjeamdkjcebaaGreatDoorRows.lean that lists a variable, with what it lists TIED to the program's text (the seventh form; the later family's looks); each row that meets fmt, with fmt's text TOLD by the authors' own Lean function (tested against real Go, not proved from fmt's source: count such statements apart). THE CARD IS WHAT COUNTS. Prove the row's statement (the work); the ties are given (YtncjeamdkjcebaaGreatDoorTie.lean); close each card by the builder's one call (the guide's Derived/Test/ToyasCard.lean, 'card_holds'). Laid BY PROGRAM, IN A SANDBOX (cutbox-door.mjs). By AI agents, Wed Nov 11 2026. No macro, syntax, notation, axiom, sorry.
-/
import Derived.Test.YtncjeamdkjcebaaGreatDoorRows
import GoSem.ClaimSeven
namespace Go.Proofs.YtncjeamdkjcebaaGreatDoor
namespace Rows

/-- THE TIED CARD OF 'foresightlaw26.MealyMatchesReference'. -/
def mealyMatchesReferenceCard : Claim7 := { stood := { row := mealyMatchesReferenceRow, standIns := [], harness := (true, "5d0177d3a0f18bda64e92d5d828764a3daff69dfd9f2474fc4fe355fdd8e660a"), looks := false }, kinds := [], alts := [], laidByText := true, laidKinds := [.data], laidTests := true, laidLooks := .later }
def MealyMatchesReferenceCardSaid : Prop := Claim7.holds Tryz.pinned (.plain (OpenSpec.ofChange mealyMatchesReferenceSpec)) mealyMatchesReferenceCard

/-- THE TIED CARD OF 'foresightlaw26.MealyBoth'. -/
def mealyBothCard : Claim7 := { stood := { row := mealyBothRow, standIns := [], harness := (true, "5d0177d3a0f18bda64e92d5d828764a3daff69dfd9f2474fc4fe355fdd8e660a"), looks := false }, kinds := [], alts := [], laidByText := true, laidKinds := [.data], laidTests := true, laidLooks := .later }
def MealyBothCardSaid : Prop := Claim7.holds Tryz.pinned (.plain (OpenSpec.ofChange mealyBothSpec)) mealyBothCard

/-- THE TIED CARD OF 'foresightlaw26.MealyPlays'. -/
def mealyPlaysCard : Claim7 := { stood := { row := mealyPlaysRow, standIns := [], harness := (true, "5d0177d3a0f18bda64e92d5d828764a3daff69dfd9f2474fc4fe355fdd8e660a"), looks := false }, kinds := [], alts := [], laidByText := true, laidKinds := [.data], laidTests := true, laidLooks := .later }
def MealyPlaysCardSaid : Prop := Claim7.holds Tryz.pinned (.plain (OpenSpec.ofChange mealyPlaysSpec)) mealyPlaysCard

/-- THE TIED CARD OF 'foresightlaw26.MealyWords'. -/
def mealyWordsCard : Claim7 := { stood := { row := mealyWordsRow, standIns := [], harness := (true, "5d0177d3a0f18bda64e92d5d828764a3daff69dfd9f2474fc4fe355fdd8e660a"), looks := false }, kinds := [], alts := [], laidByText := true, laidKinds := [.data], laidTests := true, laidLooks := .later }
def MealyWordsCardSaid : Prop := Claim7.holds Tryz.pinned (.plain (OpenSpec.ofChange mealyWordsSpec)) mealyWordsCard

/-- THE SECOND FORM's CARD OF 'foresightlaw26.MealyMatchesReference'. -/
def mealyMatchesReferenceUptoCard : Claim7 := { stood := { row := mealyMatchesReferenceUptoRow, standIns := [], harness := (true, "5d0177d3a0f18bda64e92d5d828764a3daff69dfd9f2474fc4fe355fdd8e660a"), looks := false }, kinds := [], alts := [], laidByText := true, laidKinds := [.data], laidTests := true, laidLooks := .later }
def MealyMatchesReferenceUptoCardSaid : Prop := Claim7.holds Tryz.pinned (.plain (OpenSpec.upto mealyMatchesReferenceSpec)) mealyMatchesReferenceUptoCard

/-- THE SECOND FORM's CARD OF 'foresightlaw26.MealyBoth'. -/
def mealyBothUptoCard : Claim7 := { stood := { row := mealyBothUptoRow, standIns := [], harness := (true, "5d0177d3a0f18bda64e92d5d828764a3daff69dfd9f2474fc4fe355fdd8e660a"), looks := false }, kinds := [], alts := [], laidByText := true, laidKinds := [.data], laidTests := true, laidLooks := .later }
def MealyBothUptoCardSaid : Prop := Claim7.holds Tryz.pinned (.plain (OpenSpec.upto mealyBothSpec)) mealyBothUptoCard

/-- THE SECOND FORM's CARD OF 'foresightlaw26.MealyPlays'. -/
def mealyPlaysUptoCard : Claim7 := { stood := { row := mealyPlaysUptoRow, standIns := [], harness := (true, "5d0177d3a0f18bda64e92d5d828764a3daff69dfd9f2474fc4fe355fdd8e660a"), looks := false }, kinds := [], alts := [], laidByText := true, laidKinds := [.data], laidTests := true, laidLooks := .later }
def MealyPlaysUptoCardSaid : Prop := Claim7.holds Tryz.pinned (.plain (OpenSpec.upto mealyPlaysSpec)) mealyPlaysUptoCard

/-- THE SECOND FORM's CARD OF 'foresightlaw26.MealyWords'. -/
def mealyWordsUptoCard : Claim7 := { stood := { row := mealyWordsUptoRow, standIns := [], harness := (true, "5d0177d3a0f18bda64e92d5d828764a3daff69dfd9f2474fc4fe355fdd8e660a"), looks := false }, kinds := [], alts := [], laidByText := true, laidKinds := [.data], laidTests := true, laidLooks := .later }
def MealyWordsUptoCardSaid : Prop := Claim7.holds Tryz.pinned (.plain (OpenSpec.upto mealyWordsSpec)) mealyWordsUptoCard
end Rows
end Go.Proofs.YtncjeamdkjcebaaGreatDoor
