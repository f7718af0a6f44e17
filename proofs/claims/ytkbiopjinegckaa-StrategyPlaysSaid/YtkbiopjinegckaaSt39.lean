/- What the law StrategyPlays says of a play, in plain terms. -/
import Derived.Test.YtkbiopjinegckaaSt36
namespace Go.Proofs.Ytkbiopjinegckaa
open Go.RowKit

theorem plays_plain {g : Gm} {p : Int} {set : List Bool} {s t : List Int} (hst : stB g p set s = true) (lt : t.length = g.owner.length) (ht : ∀ v, v < g.owner.length → g.owner.getD v 0 = 1 - p → t.getD v 0 ∈ g.succ.getD v []) {x : Nat} (hx : x < g.owner.length) (hin : set.getD x false = true) {R : Ph} (hR : plyR g p s t x = R) :
    R.loop.length ≠ 0 ∧ (R.stem ++ R.loop).length ≤ g.owner.length ∧ (R.stem ++ R.loop).getD 0 0 = (x : Int) ∧
    (∀ k, k < (R.stem ++ R.loop).length → 0 ≤ (R.stem ++ R.loop).getD k 0 ∧ (R.stem ++ R.loop).getD k 0 < g.owner.length ∧ set.getD ((R.stem ++ R.loop).getD k 0).toNat false = true) ∧
    0 ≤ winrB g R ∧ (winB g p set s = true → winrB g R = p) := by
  obtain ⟨hp, hv, -, -, -⟩ := keeps_at hst
  have ht' : ∀ v, v < g.owner.length → g.owner.getD v 0 ≠ p → t.getD v 0 ∈ g.succ.getD v [] := fun v h1 h2 => ht v h1 (by have := (valid_at hv v h1).1; omega)
  obtain ⟨a, b, way, i, h1, H, h3⟩ := ply_stays hst lt ht' hx hin
  rw [hR] at h1
  subst h1
  have hl : castL (way.take i) ++ castL (way.drop i) = castL way := by
    unfold castL
    rw [← List.map_append, List.take_append_drop]
  have hn := nd_len H.nd (fun v hv => (H.mem v hv).1)
  have hi := H.hi
  refine ⟨?_, ?_, ?_, ?_, ?_, fun hw => H.wins hw h3⟩
  · rw [castL_length, List.length_drop]; omega
  · show (castL (way.take i) ++ castL (way.drop i)).length ≤ _
    rw [hl, castL_length]; exact hn
  · show (castL (way.take i) ++ castL (way.drop i)).getD 0 0 = _
    rw [hl, castL_at, H.st]
  · show ∀ k, k < (castL (way.take i) ++ castL (way.drop i)).length → 0 ≤ (castL (way.take i) ++ castL (way.drop i)).getD k 0 ∧ _
    rw [hl]
    intro k hk
    rw [castL_length] at hk
    obtain ⟨q1, q2⟩ := H.at hk
    rw [castL_at, Int.toNat_natCast]
    exact ⟨by omega, by omega, q2⟩
  · obtain ⟨m, -, -, h4, -⟩ := H.winner hv (fun v hv => ⟨(h3 v hv).1, (h3 v hv).2.2.1⟩)
    rw [h4]; omega
end Go.Proofs.Ytkbiopjinegckaa
