/- A matrix of truth values of a call's own. -/
import Derived.Test.YtjhafakkadnfmaaSo40
namespace Go.Proofs.Ytjhafakkadnfmaa
open Go.RowKit

theorem info_bools : (Try.prog.info? 33).map (fun i => (i.zero, i.size, i.bytes)) = some (some (.slice none 0 0), 1, 24) := by kernel_rfl
theorem mk_rowsB {ops : Array Oper} {rest : List Oper} {o : Oper} {a : Act} {Q : Exit → Act → World → Prop} {w : World} (hgd : o.guard = none) (l c : Operand) (t : TypeId) (ht : Try.prog.underlying t = some (.slice 33))
    (ho : o.op = Op.makeSlice t l c) (base : Nat) (L : Int) (n : Nat) (hl : a.eval l = .int .i64 L) (hc : a.eval c = .int .i64 L) (hL : L = (n : Int)) (hn : n ≤ 11728124028000) (hbase : base ≤ w.heap.size)
    (h : ∀ w', w'.ownsRow base 33 1 (.slice (some ⟨w.heap.size, 0, none⟩) n n) n (List.replicate n (.slice none 0 0)) → w.grownBy w' none → wpList Try.prog ops Q rest (a.put o.dst (.slice (some ⟨w.heap.size, 0, none⟩) n n)) w') :
    wpList Try.prog ops Q (o :: rest) a w :=
  wpList_mk1 hgd l c t _ 24 _ ho ht info_bools rfl base L n hl hc hL (by omega) (by omega) hbase h

/-- The values of the first i rows, which lie in the blocks G. -/
def rowV (G : Nat → Nat) (n i : Nat) : List Value := (List.range n).map fun j => if j < i then .slice (some ⟨G j, 0, none⟩) n n else .slice none 0 0
theorem rowV_len (G : Nat → Nat) (n i : Nat) : (rowV G n i).length = n := by simp [rowV]
theorem rowV_zero (G : Nat → Nat) (n : Nat) : rowV G n 0 = List.replicate n (.slice none 0 0) := by
  apply List.ext_getElem (by simp [rowV])
  intro j h1 h2
  simp [rowV]
def upG (G : Nat → Nat) (i q : Nat) : Nat → Nat := fun j => if j = i then q else G j
theorem rowV_set (G : Nat → Nat) (n i q : Nat) : (rowV G n i).set i (.slice (some ⟨q, 0, none⟩) n n) = rowV (upG G i q) n (i + 1) := by
  apply List.ext_getElem (by simp [rowV])
  intro j h1 h2
  rw [List.getElem_set]
  simp only [rowV, List.getElem_map, List.getElem_range, upG]
  by_cases e : i = j
  · subst e; simp
  · rw [if_neg e]
    by_cases h3 : j < i
    · rw [if_pos h3, if_pos (by omega), if_neg (by omega)]
    · rw [if_neg h3, if_neg (by omega)]

def mrow (n : Nat) (f : Nat → Bool) : List Bool := (List.range n).map f
theorem mrow_len (n : Nat) (f : Nat → Bool) : (mrow n f).length = n := by simp [mrow]
theorem mrow_at (n : Nat) (f : Nat → Bool) (k : Nat) (h : k < n) : (mrow n f).getD k false = f k := by simp [mrow, List.getD, h]
def upM (M : Nat → Nat → Bool) (i j : Nat) (b : Bool) : Nat → Nat → Bool := fun a c => if a = i ∧ c = j then b else M a c
theorem mrow_set (n : Nat) (M : Nat → Nat → Bool) (i j : Nat) (b : Bool) : (mrow n (M i)).set j b = mrow n (upM M i j b i) := by
  apply List.ext_getElem (by simp [mrow])
  intro c h1 h2
  rw [List.getElem_set]
  simp only [mrow, List.getElem_map, List.getElem_range, upM]
  by_cases e : j = c
  · subst e; simp
  · rw [if_neg e, if_neg (fun h => e h.2.symm)]
theorem mrow_other (n : Nat) (M : Nat → Nat → Bool) (i j a : Nat) (b : Bool) (h : a ≠ i) : mrow n (upM M i j b a) = mrow n (M a) := by
  unfold mrow upM
  congr 1
  funext c
  rw [if_neg (fun e => h e.1)]

/-- The first i rows of the matrix M, in the blocks G, and the row of the rows in block gb. -/
structure Mx (w : World) (B gb n i : Nat) (G : Nat → Nat) (M : Nat → Nat → Bool) : Prop where
  o : w.ownsRow B 33 1 (.slice (some ⟨gb, 0, none⟩) n n) n (rowV G n i)
  e : ∀ j, j < i → OB w B (.slice (some ⟨G j, 0, none⟩) n n) (mrow n (M j))
  ne : ∀ j, j < i → G j ≠ gb
  inj : ∀ j k, j < i → k < i → G j = G k → j = k
section
variable {w w' : World} {B gb n i : Nat} {G : Nat → Nat} {M : Nat → Nat → Bool}
theorem OB_set_ne {w : World} {base g j : Nat} {v u : Value} {l : List Bool} (h : OB w base v l) (hne : v.ownBlock ≠ some g) : OB (w.setCell ⟨g, j, none⟩ u) base v l :=
  OB.grown h (grown_set w g j u) (.inr hne)
theorem Mx.cell (h : Mx w B gb n i G M) {j : Nat} (hj : j < i) (hn : j < n) : w.cell? ⟨gb, j, none⟩ = some (.slice (some ⟨G j, 0, none⟩) n n) := by
  have := World.ownsRow.cellAt h.o j (by omega)
  rw [this]
  simp [rowV, hn, hj]
theorem Mx.cell0 (h : Mx w B gb n i G M) {j : Nat} (hj : i ≤ j) (hn : j < n) : w.cell? ⟨gb, j, none⟩ = some (.slice none 0 0) := by
  have := World.ownsRow.cellAt h.o j (by omega)
  rw [this]
  simp [rowV, hn, Nat.not_lt.2 hj]
theorem Mx.fz0 (h : Mx w B gb n i G M) (j : Nat) : w.frozen? ⟨gb, j, none⟩ = false := World.ownsRow.frozenAt h.o j
theorem Mx.at (h : Mx w B gb n i G M) {j k : Nat} (hj : j < i) (hk : k < n) : w.cell? ⟨G j, k, none⟩ = some (.bool (M j k)) := by
  have hl : k < (mrow n (M j)).length := by rw [mrow_len]; exact hk
  have h1 := (h.e j hj).at' (mrow_len _ _).symm k hl
  rw [h1, ← getD_lt _ false _ hl, mrow_at _ _ _ hk]
theorem Mx.fz (h : Mx w B gb n i G M) {j : Nat} (hj : j < i) (k : Nat) : w.frozen? ⟨G j, k, none⟩ = false := (h.e j hj).fz (mrow_len _ _).symm k
theorem Mx.ge (h : Mx w B gb n i G M) {j : Nat} (hj : j < i) : B ≤ G j := (h.e j hj).ge _ rfl
theorem Mx.below (h : Mx w B gb n i G M) (hb : Below w.heap.size w w') : Mx w' B gb n i G M :=
  { h with o := World.ownsRow.kept h.o (below_grown hb) (.inr (by simp [Value.ownBlock])), e := fun j hj => (h.e j hj).below hb }
theorem Mx.set (h : Mx w B gb n i G M) {j k : Nat} (hj : j < i) (b : Bool) : Mx (w.setCell ⟨G j, k, none⟩ (.bool b)) B gb n i G (upM M j k b) where
  o := ownsRow_set_ne h.o (fun e => h.ne j hj (by simpa [Value.ownBlock] using e.symm))
  e := fun a ha => by
    by_cases e : a = j
    · subst e
      rw [← mrow_set]
      exact (h.e a ha).set (mrow_len _ _).symm k b
    · rw [mrow_other _ _ _ _ _ _ e]
      exact OB_set_ne (h.e a ha) (fun x => e (h.inj a j ha hj (by simpa [Value.ownBlock] using x)))
  ne := h.ne
  inj := h.inj
theorem Mx.push (h : Mx w B gb n i G M) (hg : w.grownBy w' none) (hv : OB w' B (.slice (some ⟨w.heap.size, 0, none⟩) n n) (mrow n (M i))) :
    Mx (w'.setCell ⟨gb, i, none⟩ (.slice (some ⟨w.heap.size, 0, none⟩) n n)) B gb n (i + 1) (upG G i w.heap.size) M := by
  have hb : Below w.heap.size w w' := (Below.refl _ _).grown hg (Nat.le_refl _) (fun k hk => by cases hk)
  have h1 := h.below hb
  have hgb : gb < w.heap.size := (World.ownsRow.lt h.o gb rfl).2
  have hlt : ∀ j, j < i → G j < w.heap.size := fun j hj => (h.e j hj).lt' _ rfl
  have heq : ∀ j, j < i → upG G i w.heap.size j = G j := fun j hj => if_neg (by omega)
  have hi : upG G i w.heap.size i = w.heap.size := if_pos rfl
  refine ⟨?_, fun j hj => ?_, fun j hj => ?_, fun j k hj hk he => ?_⟩
  · have := (World.ownsRow.stored h1.o i (.slice (some ⟨w.heap.size, 0, none⟩) n n)).1
    rwa [rowV_set] at this
  · rcases (by omega : j < i ∨ i = j) with hlt' | rfl
    · rw [heq j hlt']
      exact OB_set_ne (h1.e j hlt') (fun x => h.ne j hlt' (by simpa [Value.ownBlock] using x))
    · rw [hi]
      exact OB_set_ne hv (fun x => by simp [Value.ownBlock] at x; omega)
  · rcases (by omega : j < i ∨ i = j) with hlt' | rfl
    · rw [heq j hlt']; exact h.ne j hlt'
    · rw [hi]; omega
  · rcases (by omega : j < i ∨ i = j) with hj' | rfl <;> rcases (by omega : k < i ∨ i = k) with hk' | rfl
    · rw [heq j hj', heq k hk'] at he; exact h.inj j k hj' hk' he
    · rw [heq j hj', hi] at he; have := hlt j hj'; omega
    · rw [heq k hk', hi] at he; have := hlt k hk'; omega
    · rfl
end
theorem Mx.start {w : World} {B gb n : Nat} {G : Nat → Nat} {M : Nat → Nat → Bool} (h : w.ownsRow B 33 1 (.slice (some ⟨gb, 0, none⟩) n n) n (List.replicate n (.slice none 0 0))) : Mx w B gb n 0 G M :=
  ⟨by rw [rowV_zero]; exact h, fun j hj => absurd hj (by omega), fun j hj => absurd hj (by omega), fun j k hj => absurd hj (by omega)⟩
theorem mrow_false (n : Nat) : mrow n (fun _ => false) = List.replicate n false := by
  apply List.ext_getElem (by simp [mrow])
  intro j h1 h2
  simp [mrow]

end Go.Proofs.Ytjhafakkadnfmaa
