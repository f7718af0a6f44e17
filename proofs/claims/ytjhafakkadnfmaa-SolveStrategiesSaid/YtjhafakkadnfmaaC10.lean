/- What the reference's Closed computes. -/
import Derived.Test.YtjhafakkadnfmaaC9
namespace Go.Proofs.Ytjhafakkadnfmaa
open Go.RowKit

def clStep (g : Gm) (p : Int) (s : List Bool) (i : Nat) : List Bool := if s.getD i false && !canB g p s i then s.set i false else s
def clUpto (g : Gm) (p : Int) (s : List Bool) : Nat → List Bool
  | 0 => s
  | k + 1 => clStep g p (clUpto g p s k) k
def clRounds (g : Gm) (p : Int) (s : List Bool) : Nat → List Bool
  | 0 => s
  | n + 1 => clUpto g p (clRounds g p s n) s.length
def closedL (g : Gm) (p : Int) (s : List Bool) : List Bool := clRounds g p s (s.length + 1)

theorem clStep_len (g : Gm) (p : Int) (s : List Bool) (i : Nat) : (clStep g p s i).length = s.length := by unfold clStep; split <;> simp
theorem clUpto_len (g : Gm) (p : Int) (s : List Bool) (k : Nat) : (clUpto g p s k).length = s.length := by
  induction k with
  | zero => rfl
  | succ k ih => rw [clUpto, clStep_len, ih]
theorem clRounds_len (g : Gm) (p : Int) (s : List Bool) (n : Nat) : (clRounds g p s n).length = s.length := by
  induction n with
  | zero => rfl
  | succ n ih => rw [clRounds, clUpto_len, ih]

/-- A result that is nil, or a set in new memory. -/
def SetOr (ok : Bool) (l : List Bool) (w : World) (e : Ending) (w' : World) : Prop := ∃ v, e = .returned v ∧ OB w' w.heap.size v (if ok then l else []) ∧ Below w.heap.size w w' ∧ (ok = false → v = .slice none 0 0)

theorem OB_nil (w : World) (base : Nat) : OB w base (.slice none 0 0) [] := World.ownsRow_nil _ _ _ _

/-- A row with elements lies in a block. -/
theorem OB.row {w : World} {base : Nat} {v : Value} {l : List Bool} (h : OB w base v l) (hl : 0 < l.length) : ∃ g cap, v = .slice (some ⟨g, 0, none⟩) l.length cap ∧ base ≤ g ∧ g < w.heap.size := by
  rcases h.2 with ⟨_, h0⟩ | ⟨g, cap, cur, hv, hb, hg, _⟩
  · omega
  · exact ⟨g, cap, hv, hb, (Array.getElem?_eq_some_iff.1 hg).1⟩

theorem OB.slice {w : World} {base : Nat} {v : Value} {l : List Bool} (h : OB w base v l) : ∃ ao cap, v = .slice ao l.length cap := by
  rcases h.2 with ⟨hv, h0⟩ | ⟨g, cap, cur, hv, hb, hg, _⟩
  · exact ⟨none, 0, by rw [hv, h0]⟩
  · exact ⟨_, cap, hv⟩

theorem OB.base {w : World} {base base' : Nat} {v : Value} {l : List Bool} (h : OB w base v l) (hb : base' ≤ base) : OB w base' v l := by
  refine ⟨h.1, ?_⟩
  rcases h.2 with h0 | ⟨g, cap, cur, hv, hg, r⟩
  · exact .inl h0
  · exact .inr ⟨g, cap, cur, hv, Nat.le_trans hb hg, r⟩
theorem OI.base {w : World} {base base' : Nat} {v : Value} {l : List Int} (h : OI w base v l) (hb : base' ≤ base) : OI w base' v l := by
  refine ⟨h.1, ?_⟩
  rcases h.2 with h0 | ⟨g, cap, cur, hv, hg, r⟩
  · exact .inl h0
  · exact .inr ⟨g, cap, cur, hv, Nat.le_trans hb hg, r⟩

/-- A row of the call's own stays where new memory is made, or other rows are written. -/
theorem OB.grown {w w' : World} {base : Nat} {v : Value} {l : List Bool} {row : Option Nat} (h : OB w base v l) (hg : w.grownBy w' row) (hne : v.ownBlock = none ∨ v.ownBlock ≠ row) : OB w' base v l := World.ownsRow.kept h hg hne
theorem OI.grown {w w' : World} {base : Nat} {v : Value} {l : List Int} {row : Option Nat} (h : OI w base v l) (hg : w.grownBy w' row) (hne : v.ownBlock = none ∨ v.ownBlock ≠ row) : OI w' base v l := World.ownsRow.kept h hg hne
theorem below_grown {w w' : World} (h : Below w.heap.size w w') : w.grownBy w' none := ⟨h.os, h.tape, h.output, h.size, fun k hk _ => h.block k hk⟩
theorem OB.below {w w' : World} {base : Nat} {v : Value} {l : List Bool} (h : OB w base v l) (hb : Below w.heap.size w w') : OB w' base v l := h.grown (below_grown hb) (by cases v.ownBlock <;> simp)
theorem OI.below {w w' : World} {base : Nat} {v : Value} {l : List Int} (h : OI w base v l) (hb : Below w.heap.size w w') : OI w' base v l := h.grown (below_grown hb) (by cases v.ownBlock <;> simp)

end Go.Proofs.Ytjhafakkadnfmaa
