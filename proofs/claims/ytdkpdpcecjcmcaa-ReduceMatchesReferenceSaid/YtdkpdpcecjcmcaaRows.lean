/-
  No cell of these rows narrows 'for every input' (looked for: loops, veiled, ifaces, maps, wideKeys, modest, calm, conditions, laid).
  DERIVED. THE GIVEN ROWS OF THIS SEAT. 7 by the template 'for every input the law returns true; each argument reads behind the call as it read before'; 0 by the template 'total and deterministic' (their statements: YtdkpdpcecjcmcaaTotals.lean).
  GIVEN WITH THE SEED: the statements are not yours to turn. If you find one false, say at which input.
  Laid BY PROGRAM, IN A SANDBOX (cutbox-rows.mjs): the forced cells as the released guide's own fill.sh prints them over the translation cb7bcc74ef44cbea… (all of the seat's roots in one cut). By AI agents, Wed Nov 11 2026. No macro, syntax, notation, axiom, sorry.
-/
import Derived.Test.YtdkpdpcecjcmcaaChecked
import GoSem.Claim
import GoSem.ClaimJoined
import GoSem.ClaimMapViews
import Derived.JoinedTies
import Derived.KernelRfl
namespace Go.Proofs.Ytdkpdpcecjcmcaa
/- THE CELL 'sum', in the pinned program and in every row, IS THE sha256 OF THE DUMP (.gsa) THAT YtdkpdpcecjcmcaaProg.lean LOADS. Nothing in Lean hashes anything: it is a label: what it is worth is what the hold of that sum in a sandbox is worth. -/
noncomputable def Try.pinned : Pinned := { name := "ytdkpdpcecjcmcaa", sum := "cb7bcc74ef44cbeac0ed70429a3272b5e25b9e3bc052cec52a6e7393fb0efb8b", checked := Try.checked }
namespace Rows
def none {H : Type} : Left H := { results := [], args := [] }

/-- 'foresightlaw19.ReduceMatchesReference': WHATEVER THE INPUT: true; the input reads as it did. -/
def reduceMatchesReferenceSpec : ChangeSpec := { name := "reduceMatchesReference", fn := fun _ => fun
  | [d] => { results := [.lit (.bool true)], args := [d] }
  | _ => none }
def reduceMatchesReferenceRow : OpenClaim := { program := "ytdkpdpcecjcmcaa", sum := "cb7bcc74ef44cbeac0ed70429a3272b5e25b9e3bc052cec52a6e7393fb0efb8b", func := "foresight/foresightlaw19.ReduceMatchesReference", spec := "reduceMatchesReference", unfollowed := true, recurses := true, plainKeys := false, apart := false }
def ReduceMatchesReferenceSaid : Prop := reduceMatchesReferenceRow.holds Try.pinned (OpenSpec.ofChange reduceMatchesReferenceSpec)

/-- ITS FALSE NEIGHBOUR: 'it returns false'. Refute it at one input. -/
def reduceMatchesReferenceWrong : ChangeSpec := { name := "reduceMatchesReference", fn := fun _ => fun
  | [d] => { results := [.lit (.bool false)], args := [d] }
  | _ => none }
def ReduceMatchesReferenceWrongFalsely : Prop := reduceMatchesReferenceRow.holds Try.pinned (OpenSpec.ofChange reduceMatchesReferenceWrong)

/-- 'foresightlaw19.ReduceRuns': WHATEVER THE INPUT: true; the input reads as it did. -/
def reduceRunsSpec : ChangeSpec := { name := "reduceRuns", fn := fun _ => fun
  | [d1, d2] => { results := [.lit (.bool true)], args := [d1, d2] }
  | _ => none }
def reduceRunsRow : OpenClaim := { program := "ytdkpdpcecjcmcaa", sum := "cb7bcc74ef44cbeac0ed70429a3272b5e25b9e3bc052cec52a6e7393fb0efb8b", func := "foresight/foresightlaw19.ReduceRuns", spec := "reduceRuns", unfollowed := true, recurses := true, plainKeys := false, apart := false }
def ReduceRunsSaid : Prop := reduceRunsRow.holds Try.pinned (OpenSpec.ofChange reduceRunsSpec)

/-- ITS FALSE NEIGHBOUR: 'it returns false'. Refute it at one input. -/
def reduceRunsWrong : ChangeSpec := { name := "reduceRuns", fn := fun _ => fun
  | [d1, d2] => { results := [.lit (.bool false)], args := [d1, d2] }
  | _ => none }
def ReduceRunsWrongFalsely : Prop := reduceRunsRow.holds Try.pinned (OpenSpec.ofChange reduceRunsWrong)

/-- 'foresightlaw19.ReduceOrder': WHATEVER THE INPUT: true; the input reads as it did. -/
def reduceOrderSpec : ChangeSpec := { name := "reduceOrder", fn := fun _ => fun
  | [d] => { results := [.lit (.bool true)], args := [d] }
  | _ => none }
def reduceOrderRow : OpenClaim := { program := "ytdkpdpcecjcmcaa", sum := "cb7bcc74ef44cbeac0ed70429a3272b5e25b9e3bc052cec52a6e7393fb0efb8b", func := "foresight/foresightlaw19.ReduceOrder", spec := "reduceOrder", unfollowed := true, recurses := true, plainKeys := false, apart := false }
def ReduceOrderSaid : Prop := reduceOrderRow.holds Try.pinned (OpenSpec.ofChange reduceOrderSpec)

/-- ITS FALSE NEIGHBOUR: 'it returns false'. Refute it at one input. -/
def reduceOrderWrong : ChangeSpec := { name := "reduceOrder", fn := fun _ => fun
  | [d] => { results := [.lit (.bool false)], args := [d] }
  | _ => none }
def ReduceOrderWrongFalsely : Prop := reduceOrderRow.holds Try.pinned (OpenSpec.ofChange reduceOrderWrong)

/-- 'foresightlaw19.ReduceLeast': WHATEVER THE INPUT: true; the input reads as it did. -/
def reduceLeastSpec : ChangeSpec := { name := "reduceLeast", fn := fun _ => fun
  | [d] => { results := [.lit (.bool true)], args := [d] }
  | _ => none }
def reduceLeastRow : OpenClaim := { program := "ytdkpdpcecjcmcaa", sum := "cb7bcc74ef44cbeac0ed70429a3272b5e25b9e3bc052cec52a6e7393fb0efb8b", func := "foresight/foresightlaw19.ReduceLeast", spec := "reduceLeast", unfollowed := true, recurses := true, plainKeys := false, apart := false }
def ReduceLeastSaid : Prop := reduceLeastRow.holds Try.pinned (OpenSpec.ofChange reduceLeastSpec)

/-- ITS FALSE NEIGHBOUR: 'it returns false'. Refute it at one input. -/
def reduceLeastWrong : ChangeSpec := { name := "reduceLeast", fn := fun _ => fun
  | [d] => { results := [.lit (.bool false)], args := [d] }
  | _ => none }
def ReduceLeastWrongFalsely : Prop := reduceLeastRow.holds Try.pinned (OpenSpec.ofChange reduceLeastWrong)

/-- 'foresightlaw19.ReduceSize': WHATEVER THE INPUT: true; the input reads as it did. -/
def reduceSizeSpec : ChangeSpec := { name := "reduceSize", fn := fun _ => fun
  | [d] => { results := [.lit (.bool true)], args := [d] }
  | _ => none }
def reduceSizeRow : OpenClaim := { program := "ytdkpdpcecjcmcaa", sum := "cb7bcc74ef44cbeac0ed70429a3272b5e25b9e3bc052cec52a6e7393fb0efb8b", func := "foresight/foresightlaw19.ReduceSize", spec := "reduceSize", unfollowed := true, recurses := true, plainKeys := false, apart := false }
def ReduceSizeSaid : Prop := reduceSizeRow.holds Try.pinned (OpenSpec.ofChange reduceSizeSpec)

/-- ITS FALSE NEIGHBOUR: 'it returns false'. Refute it at one input. -/
def reduceSizeWrong : ChangeSpec := { name := "reduceSize", fn := fun _ => fun
  | [d] => { results := [.lit (.bool false)], args := [d] }
  | _ => none }
def ReduceSizeWrongFalsely : Prop := reduceSizeRow.holds Try.pinned (OpenSpec.ofChange reduceSizeWrong)

/-- 'foresightlaw19.ReducePriorities': WHATEVER THE INPUT: true; the input reads as it did. -/
def reducePrioritiesSpec : ChangeSpec := { name := "reducePriorities", fn := fun _ => fun
  | [d1, d2] => { results := [.lit (.bool true)], args := [d1, d2] }
  | _ => none }
def reducePrioritiesRow : OpenClaim := { program := "ytdkpdpcecjcmcaa", sum := "cb7bcc74ef44cbeac0ed70429a3272b5e25b9e3bc052cec52a6e7393fb0efb8b", func := "foresight/foresightlaw19.ReducePriorities", spec := "reducePriorities", unfollowed := true, recurses := true, plainKeys := false, apart := false }
def ReducePrioritiesSaid : Prop := reducePrioritiesRow.holds Try.pinned (OpenSpec.ofChange reducePrioritiesSpec)

/-- ITS FALSE NEIGHBOUR: 'it returns false'. Refute it at one input. -/
def reducePrioritiesWrong : ChangeSpec := { name := "reducePriorities", fn := fun _ => fun
  | [d1, d2] => { results := [.lit (.bool false)], args := [d1, d2] }
  | _ => none }
def ReducePrioritiesWrongFalsely : Prop := reducePrioritiesRow.holds Try.pinned (OpenSpec.ofChange reducePrioritiesWrong)

/-- 'foresightlaw19.ReduceWords': WHATEVER THE INPUT: true; the input reads as it did. -/
def reduceWordsSpec : ChangeSpec := { name := "reduceWords", fn := fun _ => fun
  | [d1, d2] => { results := [.lit (.bool true)], args := [d1, d2] }
  | _ => none }
def reduceWordsRow : OpenClaim := { program := "ytdkpdpcecjcmcaa", sum := "cb7bcc74ef44cbeac0ed70429a3272b5e25b9e3bc052cec52a6e7393fb0efb8b", func := "foresight/foresightlaw19.ReduceWords", spec := "reduceWords", unfollowed := true, recurses := true, plainKeys := false, apart := false }
def ReduceWordsSaid : Prop := reduceWordsRow.holds Try.pinned (OpenSpec.ofChange reduceWordsSpec)

/-- ITS FALSE NEIGHBOUR: 'it returns false'. Refute it at one input. -/
def reduceWordsWrong : ChangeSpec := { name := "reduceWords", fn := fun _ => fun
  | [d1, d2] => { results := [.lit (.bool false)], args := [d1, d2] }
  | _ => none }
def ReduceWordsWrongFalsely : Prop := reduceWordsRow.holds Try.pinned (OpenSpec.ofChange reduceWordsWrong)

/- THE SECOND FORM. 'bulk': how many values and letters a reading holds, each counted each time it is reached (what is shared counts as often as it is met; a slice's spare places count too). A statement '..UptoSaid' is the law's where the arguments, and the package variables that the reading takes, are together of bulk at most 1048576: NARROWER than '..Said'. Prove '..Said' where nothing that the law and all that it calls make is longer than what came in: it says more and counts as full. Else prove '..UptoSaid'. A law counts once. -/
mutual
def uptoBulk {H : Type} : DataW H → Nat
  | .lit (.string bytes) => bytes.length + 1
  | .lit _ => 1
  | .nil => 1
  | .ptr d => uptoBulk d + 1
  | .slice elems spare => uptoBulkAll elems + uptoBulkAll spare + 1
  | .agg parts => uptoBulkAll parts + 1
  | .iface _ d => uptoBulk d + 1
  | .map entries => uptoBulkEntries entries + 1
  | .held _ => 1
def uptoBulkAll {H : Type} : List (DataW H) → Nat
  | [] => 0
  | d :: r => uptoBulk d + uptoBulkAll r
def uptoBulkEntries {H : Type} : List (Lit × DataW H) → Nat
  | [] => 0
  | x :: r => uptoBulkEntry x + uptoBulkEntries r
def uptoBulkEntry {H : Type} : Lit × DataW H → Nat
  | (.string bytes, d) => bytes.length + uptoBulk d + 1
  | (_, d) => uptoBulk d + 1
 end
def uptoSmall : (H : Type) → List (DataW H) → Bool := fun _ ds => decide (uptoBulkAll ds ≤ 1048576)
def OpenSpec.upto (s : _root_.Go.ChangeSpec) : _root_.Go.OpenSpec := { _root_.Go.OpenSpec.ofChange s with cond := some uptoSmall }

/-- 'foresightlaw19.ReduceMatchesReference', WHERE WHAT IT READS IS OF BULK AT MOST 1048576: true; the input reads as it did. -/
def reduceMatchesReferenceUptoRow : OpenClaim := { program := "ytdkpdpcecjcmcaa", sum := "cb7bcc74ef44cbeac0ed70429a3272b5e25b9e3bc052cec52a6e7393fb0efb8b", func := "foresight/foresightlaw19.ReduceMatchesReference", spec := "reduceMatchesReference", unfollowed := true, recurses := true, plainKeys := false, apart := false, narrowed := true }
def ReduceMatchesReferenceUptoSaid : Prop := reduceMatchesReferenceUptoRow.holds Try.pinned (OpenSpec.upto reduceMatchesReferenceSpec)

/-- 'foresightlaw19.ReduceRuns', WHERE WHAT IT READS IS OF BULK AT MOST 1048576: true; the input reads as it did. -/
def reduceRunsUptoRow : OpenClaim := { program := "ytdkpdpcecjcmcaa", sum := "cb7bcc74ef44cbeac0ed70429a3272b5e25b9e3bc052cec52a6e7393fb0efb8b", func := "foresight/foresightlaw19.ReduceRuns", spec := "reduceRuns", unfollowed := true, recurses := true, plainKeys := false, apart := false, narrowed := true }
def ReduceRunsUptoSaid : Prop := reduceRunsUptoRow.holds Try.pinned (OpenSpec.upto reduceRunsSpec)

/-- 'foresightlaw19.ReduceOrder', WHERE WHAT IT READS IS OF BULK AT MOST 1048576: true; the input reads as it did. -/
def reduceOrderUptoRow : OpenClaim := { program := "ytdkpdpcecjcmcaa", sum := "cb7bcc74ef44cbeac0ed70429a3272b5e25b9e3bc052cec52a6e7393fb0efb8b", func := "foresight/foresightlaw19.ReduceOrder", spec := "reduceOrder", unfollowed := true, recurses := true, plainKeys := false, apart := false, narrowed := true }
def ReduceOrderUptoSaid : Prop := reduceOrderUptoRow.holds Try.pinned (OpenSpec.upto reduceOrderSpec)

/-- 'foresightlaw19.ReduceLeast', WHERE WHAT IT READS IS OF BULK AT MOST 1048576: true; the input reads as it did. -/
def reduceLeastUptoRow : OpenClaim := { program := "ytdkpdpcecjcmcaa", sum := "cb7bcc74ef44cbeac0ed70429a3272b5e25b9e3bc052cec52a6e7393fb0efb8b", func := "foresight/foresightlaw19.ReduceLeast", spec := "reduceLeast", unfollowed := true, recurses := true, plainKeys := false, apart := false, narrowed := true }
def ReduceLeastUptoSaid : Prop := reduceLeastUptoRow.holds Try.pinned (OpenSpec.upto reduceLeastSpec)

/-- 'foresightlaw19.ReduceSize', WHERE WHAT IT READS IS OF BULK AT MOST 1048576: true; the input reads as it did. -/
def reduceSizeUptoRow : OpenClaim := { program := "ytdkpdpcecjcmcaa", sum := "cb7bcc74ef44cbeac0ed70429a3272b5e25b9e3bc052cec52a6e7393fb0efb8b", func := "foresight/foresightlaw19.ReduceSize", spec := "reduceSize", unfollowed := true, recurses := true, plainKeys := false, apart := false, narrowed := true }
def ReduceSizeUptoSaid : Prop := reduceSizeUptoRow.holds Try.pinned (OpenSpec.upto reduceSizeSpec)

/-- 'foresightlaw19.ReducePriorities', WHERE WHAT IT READS IS OF BULK AT MOST 1048576: true; the input reads as it did. -/
def reducePrioritiesUptoRow : OpenClaim := { program := "ytdkpdpcecjcmcaa", sum := "cb7bcc74ef44cbeac0ed70429a3272b5e25b9e3bc052cec52a6e7393fb0efb8b", func := "foresight/foresightlaw19.ReducePriorities", spec := "reducePriorities", unfollowed := true, recurses := true, plainKeys := false, apart := false, narrowed := true }
def ReducePrioritiesUptoSaid : Prop := reducePrioritiesUptoRow.holds Try.pinned (OpenSpec.upto reducePrioritiesSpec)

/-- 'foresightlaw19.ReduceWords', WHERE WHAT IT READS IS OF BULK AT MOST 1048576: true; the input reads as it did. -/
def reduceWordsUptoRow : OpenClaim := { program := "ytdkpdpcecjcmcaa", sum := "cb7bcc74ef44cbeac0ed70429a3272b5e25b9e3bc052cec52a6e7393fb0efb8b", func := "foresight/foresightlaw19.ReduceWords", spec := "reduceWords", unfollowed := true, recurses := true, plainKeys := false, apart := false, narrowed := true }
def ReduceWordsUptoSaid : Prop := reduceWordsUptoRow.holds Try.pinned (OpenSpec.upto reduceWordsSpec)

end Rows
end Go.Proofs.Ytdkpdpcecjcmcaa
