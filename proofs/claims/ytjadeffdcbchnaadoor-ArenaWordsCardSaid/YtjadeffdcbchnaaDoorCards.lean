/-
  DERIVED. GIVEN WITH THE SEED: THE CARDS: each row of YtjadeffdcbchnaaDoorRows.lean that lists a variable, with what it lists TIED to the program's text (the seventh form; the later family's looks); each row that meets fmt, with fmt's text TOLD by the authors' own Lean function (tested against real Go, not proved from fmt's source: count such statements apart). THE CARD IS WHAT COUNTS. Prove the row's statement (the work); the ties are given (YtjadeffdcbchnaaDoorTie.lean); close each card by the builder's one call (the guide's Derived/Test/ToyasCard.lean, 'card_holds'). Laid BY PROGRAM, IN A SANDBOX (cutbox-door.mjs). By AI agents, Wed Nov 11 2026. No macro, syntax, notation, axiom, sorry.
-/
import Derived.Test.YtjadeffdcbchnaaDoorRows
import GoSem.ClaimSeven
namespace Go.Proofs.YtjadeffdcbchnaaDoor
namespace Rows

/-- THE TIED CARD OF 'foresightlaw21.ArenaMatchesReference'. -/
def arenaMatchesReferenceCard : Claim7 := { stood := { row := arenaMatchesReferenceRow, standIns := [], harness := (true, "44d81c9ad6f1cb258c2553ac94a5c80419459d96889168c85a867c8cb0dc7c2a"), looks := false }, kinds := [], alts := [], laidByText := true, laidKinds := [.data], laidTests := true, laidLooks := .later }
def ArenaMatchesReferenceCardSaid : Prop := Claim7.holds Tryd.pinned (.plain (OpenSpec.ofChange arenaMatchesReferenceSpec)) arenaMatchesReferenceCard

/-- THE TIED CARD OF 'foresightlaw21.ArenaPlaces'. -/
def arenaPlacesCard : Claim7 := { stood := { row := arenaPlacesRow, standIns := [], harness := (true, "44d81c9ad6f1cb258c2553ac94a5c80419459d96889168c85a867c8cb0dc7c2a"), looks := false }, kinds := [], alts := [], laidByText := true, laidKinds := [.data], laidTests := true, laidLooks := .later }
def ArenaPlacesCardSaid : Prop := Claim7.holds Tryd.pinned (.plain (OpenSpec.ofChange arenaPlacesSpec)) arenaPlacesCard

/-- THE TIED CARD OF 'foresightlaw21.ArenaSwap'. -/
def arenaSwapCard : Claim7 := { stood := { row := arenaSwapRow, standIns := [], harness := (true, "44d81c9ad6f1cb258c2553ac94a5c80419459d96889168c85a867c8cb0dc7c2a"), looks := false }, kinds := [], alts := [], laidByText := true, laidKinds := [.data], laidTests := true, laidLooks := .later }
def ArenaSwapCardSaid : Prop := Claim7.holds Tryd.pinned (.plain (OpenSpec.ofChange arenaSwapSpec)) arenaSwapCard

/-- THE TIED CARD OF 'foresightlaw21.ArenaParts'. -/
def arenaPartsCard : Claim7 := { stood := { row := arenaPartsRow, standIns := [], harness := (true, "44d81c9ad6f1cb258c2553ac94a5c80419459d96889168c85a867c8cb0dc7c2a"), looks := false }, kinds := [], alts := [], laidByText := true, laidKinds := [.data], laidTests := true, laidLooks := .later }
def ArenaPartsCardSaid : Prop := Claim7.holds Tryd.pinned (.plain (OpenSpec.ofChange arenaPartsSpec)) arenaPartsCard

/-- THE TIED CARD OF 'foresightlaw21.ArenaStates'. -/
def arenaStatesCard : Claim7 := { stood := { row := arenaStatesRow, standIns := [], harness := (true, "44d81c9ad6f1cb258c2553ac94a5c80419459d96889168c85a867c8cb0dc7c2a"), looks := false }, kinds := [], alts := [], laidByText := true, laidKinds := [.data], laidTests := true, laidLooks := .later }
def ArenaStatesCardSaid : Prop := Claim7.holds Tryd.pinned (.plain (OpenSpec.ofChange arenaStatesSpec)) arenaStatesCard

/-- THE TIED CARD OF 'foresightlaw21.ArenaWords'. -/
def arenaWordsCard : Claim7 := { stood := { row := arenaWordsRow, standIns := [], harness := (true, "44d81c9ad6f1cb258c2553ac94a5c80419459d96889168c85a867c8cb0dc7c2a"), looks := false }, kinds := [], alts := [], laidByText := true, laidKinds := [.data], laidTests := true, laidLooks := .later }
def ArenaWordsCardSaid : Prop := Claim7.holds Tryd.pinned (.plain (OpenSpec.ofChange arenaWordsSpec)) arenaWordsCard

/-- THE SECOND FORM's CARD OF 'foresightlaw21.ArenaMatchesReference'. -/
def arenaMatchesReferenceUptoCard : Claim7 := { stood := { row := arenaMatchesReferenceUptoRow, standIns := [], harness := (true, "44d81c9ad6f1cb258c2553ac94a5c80419459d96889168c85a867c8cb0dc7c2a"), looks := false }, kinds := [], alts := [], laidByText := true, laidKinds := [.data], laidTests := true, laidLooks := .later }
def ArenaMatchesReferenceUptoCardSaid : Prop := Claim7.holds Tryd.pinned (.plain (OpenSpec.upto arenaMatchesReferenceSpec)) arenaMatchesReferenceUptoCard

/-- THE SECOND FORM's CARD OF 'foresightlaw21.ArenaPlaces'. -/
def arenaPlacesUptoCard : Claim7 := { stood := { row := arenaPlacesUptoRow, standIns := [], harness := (true, "44d81c9ad6f1cb258c2553ac94a5c80419459d96889168c85a867c8cb0dc7c2a"), looks := false }, kinds := [], alts := [], laidByText := true, laidKinds := [.data], laidTests := true, laidLooks := .later }
def ArenaPlacesUptoCardSaid : Prop := Claim7.holds Tryd.pinned (.plain (OpenSpec.upto arenaPlacesSpec)) arenaPlacesUptoCard

/-- THE SECOND FORM's CARD OF 'foresightlaw21.ArenaSwap'. -/
def arenaSwapUptoCard : Claim7 := { stood := { row := arenaSwapUptoRow, standIns := [], harness := (true, "44d81c9ad6f1cb258c2553ac94a5c80419459d96889168c85a867c8cb0dc7c2a"), looks := false }, kinds := [], alts := [], laidByText := true, laidKinds := [.data], laidTests := true, laidLooks := .later }
def ArenaSwapUptoCardSaid : Prop := Claim7.holds Tryd.pinned (.plain (OpenSpec.upto arenaSwapSpec)) arenaSwapUptoCard

/-- THE SECOND FORM's CARD OF 'foresightlaw21.ArenaParts'. -/
def arenaPartsUptoCard : Claim7 := { stood := { row := arenaPartsUptoRow, standIns := [], harness := (true, "44d81c9ad6f1cb258c2553ac94a5c80419459d96889168c85a867c8cb0dc7c2a"), looks := false }, kinds := [], alts := [], laidByText := true, laidKinds := [.data], laidTests := true, laidLooks := .later }
def ArenaPartsUptoCardSaid : Prop := Claim7.holds Tryd.pinned (.plain (OpenSpec.upto arenaPartsSpec)) arenaPartsUptoCard

/-- THE SECOND FORM's CARD OF 'foresightlaw21.ArenaStates'. -/
def arenaStatesUptoCard : Claim7 := { stood := { row := arenaStatesUptoRow, standIns := [], harness := (true, "44d81c9ad6f1cb258c2553ac94a5c80419459d96889168c85a867c8cb0dc7c2a"), looks := false }, kinds := [], alts := [], laidByText := true, laidKinds := [.data], laidTests := true, laidLooks := .later }
def ArenaStatesUptoCardSaid : Prop := Claim7.holds Tryd.pinned (.plain (OpenSpec.upto arenaStatesSpec)) arenaStatesUptoCard

/-- THE SECOND FORM's CARD OF 'foresightlaw21.ArenaWords'. -/
def arenaWordsUptoCard : Claim7 := { stood := { row := arenaWordsUptoRow, standIns := [], harness := (true, "44d81c9ad6f1cb258c2553ac94a5c80419459d96889168c85a867c8cb0dc7c2a"), looks := false }, kinds := [], alts := [], laidByText := true, laidKinds := [.data], laidTests := true, laidLooks := .later }
def ArenaWordsUptoCardSaid : Prop := Claim7.holds Tryd.pinned (.plain (OpenSpec.upto arenaWordsSpec)) arenaWordsUptoCard
end Rows
end Go.Proofs.YtjadeffdcbchnaaDoor
