/- Data that lay below stay readable behind a call that writes new memory alone. -/
import Derived.Test.YtijkjhcigdfdgaaQR
namespace Go.Proofs.Ytijkjhcigdfdgaa
open Go.ChangeShapes Go.WideShapes Go.ChangeAt Go.RowKit Go.Joins Go.Deep

theorem stays_all {H : Type} {enc : TypeId × Value → H} {W W' : World} (hl : laidOutB Try.prog = true) {ts : List TypeId} (hts : (ts.all fun t => Try.prog.readableRec t && decide (t < Try.prog.types.size)) = true) :
    ∀ {vs : List Value} {ds : List (DataW H)} {ps : List MemPlace}, DataW.TrodAll enc Try.prog W 0 (fun _ => true) true ts vs ds ps → Below W.heap.size W W' → (∀ x ∈ ps, x.block < W.heap.size) →
      DataW.TrodAll enc Try.prog W' 0 (fun b => decide (b < W.heap.size)) true ts vs ds ps := by
  induction ts with
  | nil =>
    intro vs ds ps h hb hlt
    obtain ⟨rfl, rfl, rfl⟩ := trodAll_nil h
    simp [DataW.TrodAll]
  | cons t ts ih =>
    intro vs ds ps h hb hlt
    simp only [List.all_cons, Bool.and_eq_true, decide_eq_true_eq] at hts
    obtain ⟨v, vs', d, ds', p, q, rfl, rfl, rfl, h0, hR⟩ := trodAll_cons h
    exact trodAll_cons_mk (Below.trod hl hts.1.1 hts.1.2 h0 hb (fun x hx => hlt x (by simp [hx]))) (ih hts.2 hR hb (fun x hx => hlt x (by simp [hx])))

end Go.Proofs.Ytijkjhcigdfdgaa
