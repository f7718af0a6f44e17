/-
  No cell of these rows narrows 'for every input' (looked for: loops, veiled, ifaces, maps, wideKeys, modest, calm, conditions, laid).
  DERIVED. THE GIVEN ROWS OF THIS SEAT. 7 by the template 'for every input the law returns true; each argument reads behind the call as it read before'; 0 by the template 'total and deterministic' (their statements: YtgjpdnaeldpdeaaTotals.lean).
  GIVEN WITH THE SEED: the statements are not yours to turn. If you find one false, say at which input.
  Laid BY PROGRAM, IN A SANDBOX (cutbox-rows.mjs): the forced cells as the released guide's own fill.sh prints them over the translation aaadb81341e17bbc… (all of the seat's roots in one cut). By AI agents, Wed Nov 11 2026. No macro, syntax, notation, axiom, sorry.
-/
import Derived.Test.YtgjpdnaeldpdeaaChecked
import GoSem.Claim
import GoSem.ClaimJoined
import GoSem.ClaimMapViews
import Derived.JoinedTies
import Derived.KernelRfl
namespace Go.Proofs.Ytgjpdnaeldpdeaa
/- THE CELL 'sum', in the pinned program and in every row, IS THE sha256 OF THE DUMP (.gsa) THAT YtgjpdnaeldpdeaaProg.lean LOADS. Nothing in Lean hashes anything: it is a label: what it is worth is what the hold of that sum in a sandbox is worth. -/
noncomputable def Try.pinned : Pinned := { name := "ytgjpdnaeldpdeaa", sum := "aaadb81341e17bbc4afd6b8dd243c0e46aa5062c39cae7d5bc6f30997c18009e", checked := Try.checked }
namespace Rows
def none {H : Type} : Left H := { results := [], args := [] }

/-- 'foresightlaw02.WordMatchesReference': WHATEVER THE INPUT: true; the input reads as it did. -/
def wordMatchesReferenceSpec : ChangeSpec := { name := "wordMatchesReference", fn := fun _ => fun
  | [d1, d2, d3, d4, d5, d6] => { results := [.lit (.bool true)], args := [d1, d2, d3, d4, d5, d6] }
  | _ => none }
def wordMatchesReferenceRow : OpenClaim := { program := "ytgjpdnaeldpdeaa", sum := "aaadb81341e17bbc4afd6b8dd243c0e46aa5062c39cae7d5bc6f30997c18009e", func := "foresight/foresightlaw02.WordMatchesReference", spec := "wordMatchesReference", unfollowed := true, recurses := true, apart := false }
def WordMatchesReferenceSaid : Prop := wordMatchesReferenceRow.holds Try.pinned (OpenSpec.ofChange wordMatchesReferenceSpec)

/-- ITS FALSE NEIGHBOUR: 'it returns false'. Refute it at one input. -/
def wordMatchesReferenceWrong : ChangeSpec := { name := "wordMatchesReference", fn := fun _ => fun
  | [d1, d2, d3, d4, d5, d6] => { results := [.lit (.bool false)], args := [d1, d2, d3, d4, d5, d6] }
  | _ => none }
def WordMatchesReferenceWrongFalsely : Prop := wordMatchesReferenceRow.holds Try.pinned (OpenSpec.ofChange wordMatchesReferenceWrong)

/-- 'foresightlaw02.WordNormal': WHATEVER THE INPUT: true; the input reads as it did. -/
def wordNormalSpec : ChangeSpec := { name := "wordNormal", fn := fun _ => fun
  | [d] => { results := [.lit (.bool true)], args := [d] }
  | _ => none }
def wordNormalRow : OpenClaim := { program := "ytgjpdnaeldpdeaa", sum := "aaadb81341e17bbc4afd6b8dd243c0e46aa5062c39cae7d5bc6f30997c18009e", func := "foresight/foresightlaw02.WordNormal", spec := "wordNormal", unfollowed := true, recurses := true, apart := false }
def WordNormalSaid : Prop := wordNormalRow.holds Try.pinned (OpenSpec.ofChange wordNormalSpec)

/-- ITS FALSE NEIGHBOUR: 'it returns false'. Refute it at one input. -/
def wordNormalWrong : ChangeSpec := { name := "wordNormal", fn := fun _ => fun
  | [d] => { results := [.lit (.bool false)], args := [d] }
  | _ => none }
def WordNormalWrongFalsely : Prop := wordNormalRow.holds Try.pinned (OpenSpec.ofChange wordNormalWrong)

/-- 'foresightlaw02.WordSame': WHATEVER THE INPUT: true; the input reads as it did. -/
def wordSameSpec : ChangeSpec := { name := "wordSame", fn := fun _ => fun
  | [d1, d2] => { results := [.lit (.bool true)], args := [d1, d2] }
  | _ => none }
def wordSameRow : OpenClaim := { program := "ytgjpdnaeldpdeaa", sum := "aaadb81341e17bbc4afd6b8dd243c0e46aa5062c39cae7d5bc6f30997c18009e", func := "foresight/foresightlaw02.WordSame", spec := "wordSame", unfollowed := true, recurses := true, apart := false }
def WordSameSaid : Prop := wordSameRow.holds Try.pinned (OpenSpec.ofChange wordSameSpec)

/-- ITS FALSE NEIGHBOUR: 'it returns false'. Refute it at one input. -/
def wordSameWrong : ChangeSpec := { name := "wordSame", fn := fun _ => fun
  | [d1, d2] => { results := [.lit (.bool false)], args := [d1, d2] }
  | _ => none }
def WordSameWrongFalsely : Prop := wordSameRow.holds Try.pinned (OpenSpec.ofChange wordSameWrong)

/-- 'foresightlaw02.WordSuffix': WHATEVER THE INPUT: true; the input reads as it did. -/
def wordSuffixSpec : ChangeSpec := { name := "wordSuffix", fn := fun _ => fun
  | [d1, d2, d3] => { results := [.lit (.bool true)], args := [d1, d2, d3] }
  | _ => none }
def wordSuffixRow : OpenClaim := { program := "ytgjpdnaeldpdeaa", sum := "aaadb81341e17bbc4afd6b8dd243c0e46aa5062c39cae7d5bc6f30997c18009e", func := "foresight/foresightlaw02.WordSuffix", spec := "wordSuffix", unfollowed := true, recurses := true, apart := false }
def WordSuffixSaid : Prop := wordSuffixRow.holds Try.pinned (OpenSpec.ofChange wordSuffixSpec)

/-- ITS FALSE NEIGHBOUR: 'it returns false'. Refute it at one input. -/
def wordSuffixWrong : ChangeSpec := { name := "wordSuffix", fn := fun _ => fun
  | [d1, d2, d3] => { results := [.lit (.bool false)], args := [d1, d2, d3] }
  | _ => none }
def WordSuffixWrongFalsely : Prop := wordSuffixRow.holds Try.pinned (OpenSpec.ofChange wordSuffixWrong)

/-- 'foresightlaw02.WordPrefix': WHATEVER THE INPUT: true; the input reads as it did. -/
def wordPrefixSpec : ChangeSpec := { name := "wordPrefix", fn := fun _ => fun
  | [d1, d2] => { results := [.lit (.bool true)], args := [d1, d2] }
  | _ => none }
def wordPrefixRow : OpenClaim := { program := "ytgjpdnaeldpdeaa", sum := "aaadb81341e17bbc4afd6b8dd243c0e46aa5062c39cae7d5bc6f30997c18009e", func := "foresight/foresightlaw02.WordPrefix", spec := "wordPrefix", unfollowed := true, recurses := true, apart := false }
def WordPrefixSaid : Prop := wordPrefixRow.holds Try.pinned (OpenSpec.ofChange wordPrefixSpec)

/-- ITS FALSE NEIGHBOUR: 'it returns false'. Refute it at one input. -/
def wordPrefixWrong : ChangeSpec := { name := "wordPrefix", fn := fun _ => fun
  | [d1, d2] => { results := [.lit (.bool false)], args := [d1, d2] }
  | _ => none }
def WordPrefixWrongFalsely : Prop := wordPrefixRow.holds Try.pinned (OpenSpec.ofChange wordPrefixWrong)

/-- 'foresightlaw02.WordPush': WHATEVER THE INPUT: true; the input reads as it did. -/
def wordPushSpec : ChangeSpec := { name := "wordPush", fn := fun _ => fun
  | [d1, d2, d3] => { results := [.lit (.bool true)], args := [d1, d2, d3] }
  | _ => none }
def wordPushRow : OpenClaim := { program := "ytgjpdnaeldpdeaa", sum := "aaadb81341e17bbc4afd6b8dd243c0e46aa5062c39cae7d5bc6f30997c18009e", func := "foresight/foresightlaw02.WordPush", spec := "wordPush", unfollowed := true, recurses := true, apart := false }
def WordPushSaid : Prop := wordPushRow.holds Try.pinned (OpenSpec.ofChange wordPushSpec)

/-- ITS FALSE NEIGHBOUR: 'it returns false'. Refute it at one input. -/
def wordPushWrong : ChangeSpec := { name := "wordPush", fn := fun _ => fun
  | [d1, d2, d3] => { results := [.lit (.bool false)], args := [d1, d2, d3] }
  | _ => none }
def WordPushWrongFalsely : Prop := wordPushRow.holds Try.pinned (OpenSpec.ofChange wordPushWrong)

/-- 'foresightlaw02.WordZip': WHATEVER THE INPUT: true; the input reads as it did. -/
def wordZipSpec : ChangeSpec := { name := "wordZip", fn := fun _ => fun
  | [d1, d2, d3, d4] => { results := [.lit (.bool true)], args := [d1, d2, d3, d4] }
  | _ => none }
def wordZipRow : OpenClaim := { program := "ytgjpdnaeldpdeaa", sum := "aaadb81341e17bbc4afd6b8dd243c0e46aa5062c39cae7d5bc6f30997c18009e", func := "foresight/foresightlaw02.WordZip", spec := "wordZip", unfollowed := true, recurses := true, apart := false }
def WordZipSaid : Prop := wordZipRow.holds Try.pinned (OpenSpec.ofChange wordZipSpec)

/-- ITS FALSE NEIGHBOUR: 'it returns false'. Refute it at one input. -/
def wordZipWrong : ChangeSpec := { name := "wordZip", fn := fun _ => fun
  | [d1, d2, d3, d4] => { results := [.lit (.bool false)], args := [d1, d2, d3, d4] }
  | _ => none }
def WordZipWrongFalsely : Prop := wordZipRow.holds Try.pinned (OpenSpec.ofChange wordZipWrong)

/- THE SECOND FORM. 'bulk': how many values and letters a reading holds, each counted each time it is reached (what is shared counts as often as it is met; a slice's spare places count too). A statement '..UptoSaid' is the law's where the arguments, and the package variables that the reading takes, are together of bulk at most 1048576: NARROWER than '..Said'. Prove '..Said' where nothing that the law and all that it calls make is longer than what came in: it says more and counts as full. Else prove '..UptoSaid'. A law counts once. -/
mutual
def uptoBulk {H : Type} : DataW H → Nat
  | .lit (.string bytes) => bytes.length + 1
  | .lit _ => 1
  | .nil => 1
  | .ptr d => uptoBulk d + 1
  | .slice elems spare => uptoBulkAll elems + uptoBulkAll spare + 1
  | .agg parts => uptoBulkAll parts + 1
  | .iface _ d => uptoBulk d + 1
  | .map entries => uptoBulkEntries entries + 1
  | .held _ => 1
def uptoBulkAll {H : Type} : List (DataW H) → Nat
  | [] => 0
  | d :: r => uptoBulk d + uptoBulkAll r
def uptoBulkEntries {H : Type} : List (Lit × DataW H) → Nat
  | [] => 0
  | x :: r => uptoBulkEntry x + uptoBulkEntries r
def uptoBulkEntry {H : Type} : Lit × DataW H → Nat
  | (.string bytes, d) => bytes.length + uptoBulk d + 1
  | (_, d) => uptoBulk d + 1
 end
def uptoSmall : (H : Type) → List (DataW H) → Bool := fun _ ds => decide (uptoBulkAll ds ≤ 1048576)
def OpenSpec.upto (s : _root_.Go.ChangeSpec) : _root_.Go.OpenSpec := { _root_.Go.OpenSpec.ofChange s with cond := some uptoSmall }

/-- 'foresightlaw02.WordMatchesReference', WHERE WHAT IT READS IS OF BULK AT MOST 1048576: true; the input reads as it did. -/
def wordMatchesReferenceUptoRow : OpenClaim := { program := "ytgjpdnaeldpdeaa", sum := "aaadb81341e17bbc4afd6b8dd243c0e46aa5062c39cae7d5bc6f30997c18009e", func := "foresight/foresightlaw02.WordMatchesReference", spec := "wordMatchesReference", unfollowed := true, recurses := true, apart := false, narrowed := true }
def WordMatchesReferenceUptoSaid : Prop := wordMatchesReferenceUptoRow.holds Try.pinned (OpenSpec.upto wordMatchesReferenceSpec)

/-- 'foresightlaw02.WordNormal', WHERE WHAT IT READS IS OF BULK AT MOST 1048576: true; the input reads as it did. -/
def wordNormalUptoRow : OpenClaim := { program := "ytgjpdnaeldpdeaa", sum := "aaadb81341e17bbc4afd6b8dd243c0e46aa5062c39cae7d5bc6f30997c18009e", func := "foresight/foresightlaw02.WordNormal", spec := "wordNormal", unfollowed := true, recurses := true, apart := false, narrowed := true }
def WordNormalUptoSaid : Prop := wordNormalUptoRow.holds Try.pinned (OpenSpec.upto wordNormalSpec)

/-- 'foresightlaw02.WordSame', WHERE WHAT IT READS IS OF BULK AT MOST 1048576: true; the input reads as it did. -/
def wordSameUptoRow : OpenClaim := { program := "ytgjpdnaeldpdeaa", sum := "aaadb81341e17bbc4afd6b8dd243c0e46aa5062c39cae7d5bc6f30997c18009e", func := "foresight/foresightlaw02.WordSame", spec := "wordSame", unfollowed := true, recurses := true, apart := false, narrowed := true }
def WordSameUptoSaid : Prop := wordSameUptoRow.holds Try.pinned (OpenSpec.upto wordSameSpec)

/-- 'foresightlaw02.WordSuffix', WHERE WHAT IT READS IS OF BULK AT MOST 1048576: true; the input reads as it did. -/
def wordSuffixUptoRow : OpenClaim := { program := "ytgjpdnaeldpdeaa", sum := "aaadb81341e17bbc4afd6b8dd243c0e46aa5062c39cae7d5bc6f30997c18009e", func := "foresight/foresightlaw02.WordSuffix", spec := "wordSuffix", unfollowed := true, recurses := true, apart := false, narrowed := true }
def WordSuffixUptoSaid : Prop := wordSuffixUptoRow.holds Try.pinned (OpenSpec.upto wordSuffixSpec)

/-- 'foresightlaw02.WordPrefix', WHERE WHAT IT READS IS OF BULK AT MOST 1048576: true; the input reads as it did. -/
def wordPrefixUptoRow : OpenClaim := { program := "ytgjpdnaeldpdeaa", sum := "aaadb81341e17bbc4afd6b8dd243c0e46aa5062c39cae7d5bc6f30997c18009e", func := "foresight/foresightlaw02.WordPrefix", spec := "wordPrefix", unfollowed := true, recurses := true, apart := false, narrowed := true }
def WordPrefixUptoSaid : Prop := wordPrefixUptoRow.holds Try.pinned (OpenSpec.upto wordPrefixSpec)

/-- 'foresightlaw02.WordPush', WHERE WHAT IT READS IS OF BULK AT MOST 1048576: true; the input reads as it did. -/
def wordPushUptoRow : OpenClaim := { program := "ytgjpdnaeldpdeaa", sum := "aaadb81341e17bbc4afd6b8dd243c0e46aa5062c39cae7d5bc6f30997c18009e", func := "foresight/foresightlaw02.WordPush", spec := "wordPush", unfollowed := true, recurses := true, apart := false, narrowed := true }
def WordPushUptoSaid : Prop := wordPushUptoRow.holds Try.pinned (OpenSpec.upto wordPushSpec)

/-- 'foresightlaw02.WordZip', WHERE WHAT IT READS IS OF BULK AT MOST 1048576: true; the input reads as it did. -/
def wordZipUptoRow : OpenClaim := { program := "ytgjpdnaeldpdeaa", sum := "aaadb81341e17bbc4afd6b8dd243c0e46aa5062c39cae7d5bc6f30997c18009e", func := "foresight/foresightlaw02.WordZip", spec := "wordZip", unfollowed := true, recurses := true, apart := false, narrowed := true }
def WordZipUptoSaid : Prop := wordZipUptoRow.holds Try.pinned (OpenSpec.upto wordZipSpec)

end Rows
end Go.Proofs.Ytgjpdnaeldpdeaa
