/-
  NARROWER THAN 'FOR EVERY INPUT', by the rows' own cells (each row's printed sentence says how): ArenaMatchesReference: laid · ArenaPlaces: laid · ArenaSwap: laid · ArenaParts: laid · ArenaStates: laid · ArenaWords: laid.
  DERIVED. THE GIVEN ROWS OF THIS SEAT. 6 by the template 'for every input the law returns true; each argument reads behind the call as it read before'; 0 by the template 'total and deterministic' (their statements: YtjadeffdcbchnaaDoorTotals.lean).
  GIVEN WITH THE SEED: the statements are not yours to turn. If you find one false, say at which input.
  Laid BY PROGRAM, IN A SANDBOX (cutbox-rows.mjs): the forced cells as the released guide's own fill.sh prints them over the translation 58cbefb801ab5f36… (all of the seat's roots in one cut). By AI agents, Wed Nov 11 2026. No macro, syntax, notation, axiom, sorry.
-/
import Derived.Test.YtjadeffdcbchnaaDoorChecked
import GoSem.Claim
import GoSem.ClaimJoined
import GoSem.ClaimMapViews
import Derived.JoinedTies
import Derived.KernelRfl
namespace Go.Proofs.YtjadeffdcbchnaaDoor
/- THE CELL 'sum', in the pinned program and in every row, IS THE sha256 OF THE DUMP (.gsa) THAT YtjadeffdcbchnaaDoorProg.lean LOADS. Nothing in Lean hashes anything: it is a label: what it is worth is what the hold of that sum in a sandbox is worth. -/
noncomputable def Tryd.pinned : Pinned := { name := "ytjadeffdcbchnaadoor", sum := "58cbefb801ab5f368aa755148deaa507ad09449992126425ad144528c9e73d98", checked := Tryd.checked }
namespace Rows
def none {H : Type} : Left H := { results := [], args := [] }

/- WHAT THE LISTED PACKAGE-LEVEL VARIABLES READ AS WHEN THE CALL BEGINS. Each datum BY PROGRAM (the guide's laid-datum.mjs) off the statement by which the dump's own 'gosem.cut.vars' lays the variable. In a bare row this is a premise. The card (YtjadeffdcbchnaaDoorCards.lean) ties it to the program's text. -/
def laid_foresight_signal_keys {H : Type} : DataW H := .agg [.lit (.string [105, 110, 112, 117, 116]), .lit (.string [111, 117, 116, 112, 117, 116]), .lit (.string [112, 97, 114, 116]), .lit (.string [97, 115, 115, 117, 109, 101]), .lit (.string [103, 117, 97, 114, 97, 110, 116, 101, 101]), .lit (.string [116, 114, 117, 101]), .lit (.string [102, 97, 108, 115, 101]), .lit (.string [97, 100, 100]), .lit (.string [100, 114, 111, 112]), .lit (.string [114, 101, 112, 108, 97, 99, 101])]

/-- 'foresightlaw21.ArenaMatchesReference': WHATEVER THE INPUT: true; the input reads as it did. -/
def arenaMatchesReferenceSpec : ChangeSpec := { name := "arenaMatchesReference", fn := fun _ => fun
  | [d1, d2, d3, d4, d5] => { results := [.lit (.bool true)], args := [d1, d2, d3, d4, d5] }
  | _ => none }
def arenaMatchesReferenceRow : OpenClaim := { program := "ytjadeffdcbchnaadoor", sum := "58cbefb801ab5f368aa755148deaa507ad09449992126425ad144528c9e73d98", func := "foresight/foresightlaw21.ArenaMatchesReference", spec := "arenaMatchesReference", unfollowed := true, recurses := true, named := ["foresight/signal.keys"], plainKeys := false, apart := false, laid := [("foresight/signal.keys", laid_foresight_signal_keys)] }
def ArenaMatchesReferenceSaid : Prop := arenaMatchesReferenceRow.holds Tryd.pinned (OpenSpec.ofChange arenaMatchesReferenceSpec)

/-- ITS FALSE NEIGHBOUR: 'it returns false'. Refute it at one input. -/
def arenaMatchesReferenceWrong : ChangeSpec := { name := "arenaMatchesReference", fn := fun _ => fun
  | [d1, d2, d3, d4, d5] => { results := [.lit (.bool false)], args := [d1, d2, d3, d4, d5] }
  | _ => none }
def ArenaMatchesReferenceWrongFalsely : Prop := arenaMatchesReferenceRow.holds Tryd.pinned (OpenSpec.ofChange arenaMatchesReferenceWrong)

/-- 'foresightlaw21.ArenaPlaces': WHATEVER THE INPUT: true; the input reads as it did. -/
def arenaPlacesSpec : ChangeSpec := { name := "arenaPlaces", fn := fun _ => fun
  | [d1, d2] => { results := [.lit (.bool true)], args := [d1, d2] }
  | _ => none }
def arenaPlacesRow : OpenClaim := { program := "ytjadeffdcbchnaadoor", sum := "58cbefb801ab5f368aa755148deaa507ad09449992126425ad144528c9e73d98", func := "foresight/foresightlaw21.ArenaPlaces", spec := "arenaPlaces", unfollowed := true, recurses := true, named := ["foresight/signal.keys"], plainKeys := false, apart := false, laid := [("foresight/signal.keys", laid_foresight_signal_keys)] }
def ArenaPlacesSaid : Prop := arenaPlacesRow.holds Tryd.pinned (OpenSpec.ofChange arenaPlacesSpec)

/-- ITS FALSE NEIGHBOUR: 'it returns false'. Refute it at one input. -/
def arenaPlacesWrong : ChangeSpec := { name := "arenaPlaces", fn := fun _ => fun
  | [d1, d2] => { results := [.lit (.bool false)], args := [d1, d2] }
  | _ => none }
def ArenaPlacesWrongFalsely : Prop := arenaPlacesRow.holds Tryd.pinned (OpenSpec.ofChange arenaPlacesWrong)

/-- 'foresightlaw21.ArenaSwap': WHATEVER THE INPUT: true; the input reads as it did. -/
def arenaSwapSpec : ChangeSpec := { name := "arenaSwap", fn := fun _ => fun
  | [d] => { results := [.lit (.bool true)], args := [d] }
  | _ => none }
def arenaSwapRow : OpenClaim := { program := "ytjadeffdcbchnaadoor", sum := "58cbefb801ab5f368aa755148deaa507ad09449992126425ad144528c9e73d98", func := "foresight/foresightlaw21.ArenaSwap", spec := "arenaSwap", unfollowed := true, recurses := true, named := ["foresight/signal.keys"], plainKeys := false, apart := false, laid := [("foresight/signal.keys", laid_foresight_signal_keys)] }
def ArenaSwapSaid : Prop := arenaSwapRow.holds Tryd.pinned (OpenSpec.ofChange arenaSwapSpec)

/-- ITS FALSE NEIGHBOUR: 'it returns false'. Refute it at one input. -/
def arenaSwapWrong : ChangeSpec := { name := "arenaSwap", fn := fun _ => fun
  | [d] => { results := [.lit (.bool false)], args := [d] }
  | _ => none }
def ArenaSwapWrongFalsely : Prop := arenaSwapRow.holds Tryd.pinned (OpenSpec.ofChange arenaSwapWrong)

/-- 'foresightlaw21.ArenaParts': WHATEVER THE INPUT: true; the input reads as it did. -/
def arenaPartsSpec : ChangeSpec := { name := "arenaParts", fn := fun _ => fun
  | [d1, d2, d3] => { results := [.lit (.bool true)], args := [d1, d2, d3] }
  | _ => none }
def arenaPartsRow : OpenClaim := { program := "ytjadeffdcbchnaadoor", sum := "58cbefb801ab5f368aa755148deaa507ad09449992126425ad144528c9e73d98", func := "foresight/foresightlaw21.ArenaParts", spec := "arenaParts", unfollowed := true, recurses := true, named := ["foresight/signal.keys"], plainKeys := false, apart := false, laid := [("foresight/signal.keys", laid_foresight_signal_keys)] }
def ArenaPartsSaid : Prop := arenaPartsRow.holds Tryd.pinned (OpenSpec.ofChange arenaPartsSpec)

/-- ITS FALSE NEIGHBOUR: 'it returns false'. Refute it at one input. -/
def arenaPartsWrong : ChangeSpec := { name := "arenaParts", fn := fun _ => fun
  | [d1, d2, d3] => { results := [.lit (.bool false)], args := [d1, d2, d3] }
  | _ => none }
def ArenaPartsWrongFalsely : Prop := arenaPartsRow.holds Tryd.pinned (OpenSpec.ofChange arenaPartsWrong)

/-- 'foresightlaw21.ArenaStates': WHATEVER THE INPUT: true; the input reads as it did. -/
def arenaStatesSpec : ChangeSpec := { name := "arenaStates", fn := fun _ => fun
  | [d1, d2, d3] => { results := [.lit (.bool true)], args := [d1, d2, d3] }
  | _ => none }
def arenaStatesRow : OpenClaim := { program := "ytjadeffdcbchnaadoor", sum := "58cbefb801ab5f368aa755148deaa507ad09449992126425ad144528c9e73d98", func := "foresight/foresightlaw21.ArenaStates", spec := "arenaStates", unfollowed := true, recurses := true, named := ["foresight/signal.keys"], plainKeys := false, apart := false, laid := [("foresight/signal.keys", laid_foresight_signal_keys)] }
def ArenaStatesSaid : Prop := arenaStatesRow.holds Tryd.pinned (OpenSpec.ofChange arenaStatesSpec)

/-- ITS FALSE NEIGHBOUR: 'it returns false'. Refute it at one input. -/
def arenaStatesWrong : ChangeSpec := { name := "arenaStates", fn := fun _ => fun
  | [d1, d2, d3] => { results := [.lit (.bool false)], args := [d1, d2, d3] }
  | _ => none }
def ArenaStatesWrongFalsely : Prop := arenaStatesRow.holds Tryd.pinned (OpenSpec.ofChange arenaStatesWrong)

/-- 'foresightlaw21.ArenaWords': WHATEVER THE INPUT: true; the input reads as it did. -/
def arenaWordsSpec : ChangeSpec := { name := "arenaWords", fn := fun _ => fun
  | [d1, d2, d3] => { results := [.lit (.bool true)], args := [d1, d2, d3] }
  | _ => none }
def arenaWordsRow : OpenClaim := { program := "ytjadeffdcbchnaadoor", sum := "58cbefb801ab5f368aa755148deaa507ad09449992126425ad144528c9e73d98", func := "foresight/foresightlaw21.ArenaWords", spec := "arenaWords", unfollowed := true, recurses := true, named := ["foresight/signal.keys"], plainKeys := false, apart := false, laid := [("foresight/signal.keys", laid_foresight_signal_keys)] }
def ArenaWordsSaid : Prop := arenaWordsRow.holds Tryd.pinned (OpenSpec.ofChange arenaWordsSpec)

/-- ITS FALSE NEIGHBOUR: 'it returns false'. Refute it at one input. -/
def arenaWordsWrong : ChangeSpec := { name := "arenaWords", fn := fun _ => fun
  | [d1, d2, d3] => { results := [.lit (.bool false)], args := [d1, d2, d3] }
  | _ => none }
def ArenaWordsWrongFalsely : Prop := arenaWordsRow.holds Tryd.pinned (OpenSpec.ofChange arenaWordsWrong)

/- THE SECOND FORM. 'bulk': how many values and letters a reading holds, each counted each time it is reached (what is shared counts as often as it is met; a slice's spare places count too). A statement '..UptoSaid' is the law's where the arguments, and the package variables that the reading takes, are together of bulk at most 1048576: NARROWER than '..Said'. Prove '..Said' where nothing that the law and all that it calls make is longer than what came in: it says more and counts as full. Else prove '..UptoSaid'. A law counts once. -/
mutual
def uptoBulk {H : Type} : DataW H → Nat
  | .lit (.string bytes) => bytes.length + 1
  | .lit _ => 1
  | .nil => 1
  | .ptr d => uptoBulk d + 1
  | .slice elems spare => uptoBulkAll elems + uptoBulkAll spare + 1
  | .agg parts => uptoBulkAll parts + 1
  | .iface _ d => uptoBulk d + 1
  | .map entries => uptoBulkEntries entries + 1
  | .held _ => 1
def uptoBulkAll {H : Type} : List (DataW H) → Nat
  | [] => 0
  | d :: r => uptoBulk d + uptoBulkAll r
def uptoBulkEntries {H : Type} : List (Lit × DataW H) → Nat
  | [] => 0
  | x :: r => uptoBulkEntry x + uptoBulkEntries r
def uptoBulkEntry {H : Type} : Lit × DataW H → Nat
  | (.string bytes, d) => bytes.length + uptoBulk d + 1
  | (_, d) => uptoBulk d + 1
 end
def uptoSmall : (H : Type) → List (DataW H) → Bool := fun _ ds => decide (uptoBulkAll ds ≤ 1048576)
def OpenSpec.upto (s : _root_.Go.ChangeSpec) : _root_.Go.OpenSpec := { _root_.Go.OpenSpec.ofChange s with cond := some uptoSmall }

/-- 'foresightlaw21.ArenaMatchesReference', WHERE WHAT IT READS IS OF BULK AT MOST 1048576: true; the input reads as it did. -/
def arenaMatchesReferenceUptoRow : OpenClaim := { program := "ytjadeffdcbchnaadoor", sum := "58cbefb801ab5f368aa755148deaa507ad09449992126425ad144528c9e73d98", func := "foresight/foresightlaw21.ArenaMatchesReference", spec := "arenaMatchesReference", unfollowed := true, recurses := true, named := ["foresight/signal.keys"], plainKeys := false, apart := false, laid := [("foresight/signal.keys", laid_foresight_signal_keys)], narrowed := true }
def ArenaMatchesReferenceUptoSaid : Prop := arenaMatchesReferenceUptoRow.holds Tryd.pinned (OpenSpec.upto arenaMatchesReferenceSpec)

/-- 'foresightlaw21.ArenaPlaces', WHERE WHAT IT READS IS OF BULK AT MOST 1048576: true; the input reads as it did. -/
def arenaPlacesUptoRow : OpenClaim := { program := "ytjadeffdcbchnaadoor", sum := "58cbefb801ab5f368aa755148deaa507ad09449992126425ad144528c9e73d98", func := "foresight/foresightlaw21.ArenaPlaces", spec := "arenaPlaces", unfollowed := true, recurses := true, named := ["foresight/signal.keys"], plainKeys := false, apart := false, laid := [("foresight/signal.keys", laid_foresight_signal_keys)], narrowed := true }
def ArenaPlacesUptoSaid : Prop := arenaPlacesUptoRow.holds Tryd.pinned (OpenSpec.upto arenaPlacesSpec)

/-- 'foresightlaw21.ArenaSwap', WHERE WHAT IT READS IS OF BULK AT MOST 1048576: true; the input reads as it did. -/
def arenaSwapUptoRow : OpenClaim := { program := "ytjadeffdcbchnaadoor", sum := "58cbefb801ab5f368aa755148deaa507ad09449992126425ad144528c9e73d98", func := "foresight/foresightlaw21.ArenaSwap", spec := "arenaSwap", unfollowed := true, recurses := true, named := ["foresight/signal.keys"], plainKeys := false, apart := false, laid := [("foresight/signal.keys", laid_foresight_signal_keys)], narrowed := true }
def ArenaSwapUptoSaid : Prop := arenaSwapUptoRow.holds Tryd.pinned (OpenSpec.upto arenaSwapSpec)

/-- 'foresightlaw21.ArenaParts', WHERE WHAT IT READS IS OF BULK AT MOST 1048576: true; the input reads as it did. -/
def arenaPartsUptoRow : OpenClaim := { program := "ytjadeffdcbchnaadoor", sum := "58cbefb801ab5f368aa755148deaa507ad09449992126425ad144528c9e73d98", func := "foresight/foresightlaw21.ArenaParts", spec := "arenaParts", unfollowed := true, recurses := true, named := ["foresight/signal.keys"], plainKeys := false, apart := false, laid := [("foresight/signal.keys", laid_foresight_signal_keys)], narrowed := true }
def ArenaPartsUptoSaid : Prop := arenaPartsUptoRow.holds Tryd.pinned (OpenSpec.upto arenaPartsSpec)

/-- 'foresightlaw21.ArenaStates', WHERE WHAT IT READS IS OF BULK AT MOST 1048576: true; the input reads as it did. -/
def arenaStatesUptoRow : OpenClaim := { program := "ytjadeffdcbchnaadoor", sum := "58cbefb801ab5f368aa755148deaa507ad09449992126425ad144528c9e73d98", func := "foresight/foresightlaw21.ArenaStates", spec := "arenaStates", unfollowed := true, recurses := true, named := ["foresight/signal.keys"], plainKeys := false, apart := false, laid := [("foresight/signal.keys", laid_foresight_signal_keys)], narrowed := true }
def ArenaStatesUptoSaid : Prop := arenaStatesUptoRow.holds Tryd.pinned (OpenSpec.upto arenaStatesSpec)

/-- 'foresightlaw21.ArenaWords', WHERE WHAT IT READS IS OF BULK AT MOST 1048576: true; the input reads as it did. -/
def arenaWordsUptoRow : OpenClaim := { program := "ytjadeffdcbchnaadoor", sum := "58cbefb801ab5f368aa755148deaa507ad09449992126425ad144528c9e73d98", func := "foresight/foresightlaw21.ArenaWords", spec := "arenaWords", unfollowed := true, recurses := true, named := ["foresight/signal.keys"], plainKeys := false, apart := false, laid := [("foresight/signal.keys", laid_foresight_signal_keys)], narrowed := true }
def ArenaWordsUptoSaid : Prop := arenaWordsUptoRow.holds Tryd.pinned (OpenSpec.upto arenaWordsSpec)

end Rows
end Go.Proofs.YtjadeffdcbchnaaDoor
