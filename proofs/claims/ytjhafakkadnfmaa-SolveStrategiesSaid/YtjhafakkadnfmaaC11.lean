/- What the reference's Attract computes. -/
import Derived.Test.YtjhafakkadnfmaaC10
namespace Go.Proofs.Ytjhafakkadnfmaa
open Go.RowKit

def newB (g : Gm) (p : Int) (s : List Bool) (i : Nat) : Bool := !s.getD i false && canB g p s i
/-- The first i positions of a round. -/
def rnIn (g : Gm) (p : Int) (s : List Bool) : Nat → List Bool
  | 0 => s
  | i + 1 => if newB g p s i then (rnIn g p s i).set i true else rnIn g p s i
def rnMv (g : Gm) (p : Int) (s : List Bool) (n : Int) (m : List Int) : Nat → List Int
  | 0 => m
  | i + 1 => if newB g p s i then (rnMv g p s n m i).set i n else rnMv g p s n m i
def mv0 (t : List Bool) : List Int := t.map fun b => if b then 0 else -1
/-- The state behind k rounds. -/
def rnd (g : Gm) (p : Int) (t : List Bool) : Nat → List Bool × List Int
  | 0 => (t, mv0 t)
  | k + 1 => (rnIn g p (rnd g p t k).1 t.length, rnMv g p (rnd g p t k).1 ((k : Int) + 1) (rnd g p t k).2 t.length)
def attrL (g : Gm) (p : Int) (t : List Bool) : List Bool × List Int := rnd g p t t.length

theorem rnIn_len (g : Gm) (p : Int) (s : List Bool) (i : Nat) : (rnIn g p s i).length = s.length := by
  induction i with
  | zero => rfl
  | succ i ih => rw [rnIn]; split <;> simp [ih]
theorem rnMv_len (g : Gm) (p : Int) (s : List Bool) (n : Int) (m : List Int) (i : Nat) : (rnMv g p s n m i).length = m.length := by
  induction i with
  | zero => rfl
  | succ i ih => rw [rnMv]; split <;> simp [ih]
theorem rnd_len (g : Gm) (p : Int) (t : List Bool) (k : Nat) : (rnd g p t k).1.length = t.length ∧ (rnd g p t k).2.length = t.length := by
  induction k with
  | zero => exact ⟨rfl, by simp [rnd, mv0]⟩
  | succ k ih => exact ⟨by rw [rnd, rnIn_len, ih.1], by rw [rnd]; simp only; rw [rnMv_len, ih.2]⟩

theorem mv0_take (l : List Bool) (k : Nat) (h : k < l.length) : mv0 (l.take (k + 1)) = mv0 (l.take k) ++ [if l[k] then 0 else -1] := by
  unfold mv0; rw [List.take_succ_eq_append_getElem h, List.map_append]; rfl

/-- Two results in new memory, or nothing. -/
def TwoOr (ok : Bool) (l : List Bool) (m : List Int) (w : World) (e : Ending) (w' : World) : Prop :=
  ∃ v1 v2, e = .returned (.tuple #[v1, v2]) ∧ OB w' w.heap.size v1 (if ok then l else []) ∧ OI w' w.heap.size v2 (if ok then m else []) ∧ Below w.heap.size w w'

theorem OI_nil (w : World) (base : Nat) : OI w base (.slice none 0 0) [] := World.ownsRow_nil _ _ _ _

theorem OI.row {w : World} {base : Nat} {v : Value} {l : List Int} (h : OI w base v l) (hl : 0 < l.length) : ∃ g cap, v = .slice (some ⟨g, 0, none⟩) l.length cap ∧ base ≤ g ∧ g < w.heap.size := by
  rcases h.2 with ⟨_, h0⟩ | ⟨g, cap, cur, hv, hb, hg, _⟩
  · omega
  · exact ⟨g, cap, hv, hb, (Array.getElem?_eq_some_iff.1 hg).1⟩
theorem OI.slice {w : World} {base : Nat} {v : Value} {l : List Int} (h : OI w base v l) : ∃ ao cap, v = .slice ao l.length cap := by
  rcases h.2 with ⟨hv, h0⟩ | ⟨g, cap, cur, hv, hb, hg, _⟩
  · exact ⟨none, 0, by rw [hv, h0]⟩
  · exact ⟨_, cap, hv⟩

/-- Two rows lie in different blocks. -/
def Apart (v v' : Value) : Prop := ∀ g, v.ownBlock = some g → v'.ownBlock = some g → False
theorem Apart.symm {v v' : Value} (h : Apart v v') : Apart v' v := fun g h1 h2 => h g h2 h1
theorem Apart.ne {v v' : Value} (h : Apart v v') : v.ownBlock = none ∨ v.ownBlock ≠ v'.ownBlock := by
  cases hv : v.ownBlock with
  | none => exact .inl rfl
  | some g => exact .inr fun e => h g hv e.symm
theorem Apart.moved {w : World} {v u u' : Value} (h : Apart v u) (hm : Moved w u u') (hl : ∀ g, v.ownBlock = some g → g < w.heap.size) : Apart v u' := fun g h1 h2 => by
  rcases hm g h2 with e | e
  · exact h g h1 e
  · have := hl g h1; omega
theorem Apart.of_lt {w : World} {v v' : Value} (hl : ∀ g, v.ownBlock = some g → g < w.heap.size) (hg : ∀ g, v'.ownBlock = some g → w.heap.size ≤ g) : Apart v v' := fun g h1 h2 => by
  have := hl g h1; have := hg g h2; omega
theorem OB.lt' {w : World} {base : Nat} {v : Value} {l : List Bool} (h : OB w base v l) : ∀ g, v.ownBlock = some g → g < w.heap.size := fun g hg => (World.ownsRow.lt h g hg).2
theorem OI.lt' {w : World} {base : Nat} {v : Value} {l : List Int} (h : OI w base v l) : ∀ g, v.ownBlock = some g → g < w.heap.size := fun g hg => (World.ownsRow.lt h g hg).2
theorem OB.ge {w : World} {base : Nat} {v : Value} {l : List Bool} (h : OB w base v l) : ∀ g, v.ownBlock = some g → base ≤ g := fun g hg => (World.ownsRow.lt h g hg).1
theorem OI.ge {w : World} {base : Nat} {v : Value} {l : List Int} (h : OI w base v l) : ∀ g, v.ownBlock = some g → base ≤ g := fun g hg => (World.ownsRow.lt h g hg).1
theorem Boxed.grown {w wr w1 : World} {cs : Array Value} {v : Value} (h : Boxed w wr cs) (hg : wr.grownBy w1 v.ownBlock) (hv : ∀ g, v.ownBlock = some g → w.heap.size + 1 ≤ g) : Boxed w w1 cs :=
  h.stepB ((Below.refl _ _).grown hg h.lt hv)

end Go.Proofs.Ytjhafakkadnfmaa
