/- Whether a strategy wins, told by closed paths: the table of paths, in plain terms. -/
import Derived.Test.YtkbiopjinegckaaSt11
namespace Go.Proofs.Ytkbiopjinegckaa

/-- Paths of one move or more whose inner places are less than k. -/
inductive PK (e : Nat → Nat → Prop) (k : Nat) (i : Nat) : Nat → Prop
  | one {j : Nat} : e i j → PK e k i j
  | step {m j : Nat} : PK e k i m → m < k → e m j → PK e k i j
theorem PK.up {e : Nat → Nat → Prop} {k l i j : Nat} (h : PK e k i j) (hl : k ≤ l) : PK e l i j := by
  induction h with
  | one h => exact .one h
  | step _ hm he ih => exact ih.step (by omega) he
theorem PK.trans {e : Nat → Nat → Prop} {k i m j : Nat} (h : PK e k i m) (hm : m < k) (h2 : PK e k m j) : PK e k i j := by
  induction h2 with
  | one h3 => exact h.step hm h3
  | step _ hm' he ih => exact ih.step hm' he
theorem PK.split {e : Nat → Nat → Prop} {k i j : Nat} (h : PK e (k + 1) i j) : PK e k i j ∨ (PK e k i k ∧ PK e k k j) := by
  induction h with
  | one h => exact .inl (.one h)
  | step _ hm he ih =>
    rename_i m j _
    by_cases hk : m = k
    · subst hk
      rcases ih with h | ⟨h, -⟩
      · exact .inr ⟨h, .one he⟩
      · exact .inr ⟨h, .one he⟩
    · rcases ih with h | ⟨h1, h2⟩
      · exact .inl (h.step (by omega) he)
      · exact .inr ⟨h1, h2.step (by omega) he⟩
/-- The table of paths, place by place. -/
def WK (e : Nat → Nat → Bool) : Nat → Nat → Nat → Bool
  | 0, i, j => e i j
  | k + 1, i, j => WK e k i j || (WK e k i k && WK e k k j)
theorem WK_iff (e : Nat → Nat → Bool) (k i j : Nat) : WK e k i j = true ↔ PK (fun a b => e a b = true) k i j := by
  induction k generalizing i j with
  | zero =>
    refine ⟨fun h => .one h, fun h => ?_⟩
    cases h with
    | one h => exact h
    | step _ h _ => exact absurd h (by omega)
  | succ k ih =>
    show (WK e k i j || (WK e k i k && WK e k k j)) = true ↔ _
    rw [Bool.or_eq_true, Bool.and_eq_true, ih, ih, ih]
    refine ⟨fun h => ?_, PK.split⟩
    rcases h with h | ⟨h1, h2⟩
    · exact h.up (by omega)
    · exact (h1.up (by omega)).trans (by omega) (h2.up (by omega))

/-- A move of the plays through priorities of at least q. -/
def movB (g : Gm) (p : Int) (set : List Bool) (s : List Int) (q : Int) (i j : Nat) : Bool :=
  set.getD i false && decide (q ≤ g.prio.getD i 0) && decide (q ≤ g.prio.getD j 0) && (g.owner.getD i 0 != p || s.getD i 0 == (j : Int)) && decide ((j : Int) ∈ g.succ.getD i [])
/-- Whether a strategy wins. -/
def winB (g : Gm) (p : Int) (set : List Bool) (s : List Int) : Bool :=
  stB g p set s && (List.range g.owner.length).all fun i => !(set.getD i false && (g.prio.getD i 0 % 2 != p) && WK (movB g p set s (g.prio.getD i 0)) g.owner.length i i)

theorem keeps_at {g : Gm} {p : Int} {set : List Bool} {s : List Int} (h : stB g p set s = true) : (p = 0 ∨ p = 1) ∧ validB g = true ∧ set.length = g.owner.length ∧ s.length = g.owner.length ∧ ∀ v, v < g.owner.length → keepsB g p set s v = true := by
  simp only [stB, Bool.and_eq_true, Bool.or_eq_true, decide_eq_true_eq, List.all_eq_true, List.mem_range] at h
  obtain ⟨⟨⟨⟨h1, h2⟩, h3⟩, h4⟩, h5⟩ := h
  exact ⟨h1, h2, h3, h4, fun v hv => h5 v (by rw [h3]; exact hv)⟩
/-- The rows of a strategy's graph. -/
def nxS (g : Gm) (p : Int) (set : List Bool) (s : List Int) : List (List Int) := rowsK (rowS g p set s) set.length set.length
theorem nxS_get {g : Gm} {p : Int} {set : List Bool} {s : List Int} {v : Nat} (hv : v < set.length) : (nxS g p set s).getD v [] = rowS g p set s v := by
  unfold nxS; rw [rowsK_get _ hv, if_pos hv]
theorem nxS_out {g : Gm} {p : Int} {set : List Bool} {s : List Int} {v : Nat} (hv : ¬ v < set.length) : (nxS g p set s).getD v [] = [] := by
  unfold nxS
  rw [List.getD_eq_getElem?_getD, List.getElem?_eq_none (by rw [rowsK_len]; omega)]; rfl
section
variable {g : Gm} {p : Int} {set : List Bool} {s : List Int}
/-- The moves of the graph. -/
theorem EG_iff (h : stB g p set s = true) (i j : Nat) : EG (nxS g p set s) i j ↔ set.getD i false = true ∧ (g.owner.getD i 0 ≠ p ∨ s.getD i 0 = (j : Int)) ∧ (j : Int) ∈ g.succ.getD i [] := by
  obtain ⟨h1, h2, h3, h4, h5⟩ := keeps_at h
  unfold EG
  by_cases hi : i < set.length
  · rw [nxS_get hi]
    unfold rowS
    cases hs : set.getD i false
    · simp
    · have hk := h5 i (by omega)
      unfold keepsB at hk
      rw [hs, if_pos rfl] at hk
      rw [if_pos rfl]
      by_cases ho : g.owner.getD i 0 = p
      · rw [if_pos ho] at hk ⊢
        simp only [Bool.and_eq_true, decide_eq_true_eq] at hk
        rw [List.mem_singleton]
        refine ⟨fun e => ⟨rfl, .inr e.symm, e ▸ hk.1⟩, fun ⟨_, e, _⟩ => ?_⟩
        rcases e with e | e
        · exact absurd ho e
        · exact e.symm
      · rw [if_neg ho]
        exact ⟨fun e => ⟨rfl, .inl ho, e⟩, fun ⟨_, _, e⟩ => e⟩
  · rw [nxS_out hi]
    have : set.getD i false = false := by rw [List.getD_eq_getElem?_getD, List.getElem?_eq_none (by omega)]; rfl
    rw [this]
    simp
/-- The graph stays in the set. -/
theorem EG_set (h : stB g p set s = true) {i j : Nat} (e : EG (nxS g p set s) i j) : set.getD i false = true ∧ set.getD j false = true ∧ i < g.owner.length ∧ j < g.owner.length := by
  obtain ⟨h1, h2, h3, h4, h5⟩ := keeps_at h
  obtain ⟨k1, k2, k3⟩ := (EG_iff h i j).1 e
  have hi : i < g.owner.length := by
    refine Nat.lt_of_not_le fun hle => ?_
    have : set.getD i false = false := by rw [List.getD_eq_getElem?_getD, List.getElem?_eq_none (by omega)]; rfl
    rw [this] at k1; cases k1
  have hk := h5 i hi
  have hval := (valid_at h2 i hi).2.2.2 _ k3
  unfold keepsB at hk
  rw [k1, if_pos rfl] at hk
  refine ⟨k1, ?_, hi, by omega⟩
  by_cases ho : g.owner.getD i 0 = p
  · rw [if_pos ho] at hk
    simp only [Bool.and_eq_true, decide_eq_true_eq] at hk
    have := k2.resolve_left (fun k => k ho)
    rw [this] at hk
    simpa using hk.2
  · rw [if_neg ho] at hk
    simp only [Bool.and_eq_true, List.all_eq_true] at hk
    have := hk.2 _ k3
    simpa using this
/-- Closed paths and the table. -/
theorem cyc_WK (h : stB g p set s = true) (q : Int) (i j : Nat) : Cyc (EG (nxS g p set s)) (fun x => x ∈ (List.range g.owner.length).filter (fun v => set.getD v false) ∧ q ≤ prF g.prio x) i j ↔ WK (movB g p set s q) g.owner.length i j = true := by
  rw [WK_iff]
  have hm : ∀ a b, movB g p set s q a b = true ↔ EG (nxS g p set s) a b ∧ q ≤ prF g.prio a ∧ q ≤ prF g.prio b := fun a b => by
    rw [EG_iff h]
    simp only [movB, Bool.and_eq_true, Bool.or_eq_true, decide_eq_true_eq, bne_iff_ne, beq_iff_eq, prF]
    constructor
    · rintro ⟨⟨⟨⟨a1, a2⟩, a3⟩, a4⟩, a5⟩; exact ⟨⟨a1, a4, a5⟩, a2, a3⟩
    · rintro ⟨⟨a1, a4, a5⟩, a2, a3⟩; exact ⟨⟨⟨⟨a1, a2⟩, a3⟩, a4⟩, a5⟩
  have hA : ∀ a b, EG (nxS g p set s) a b → a ∈ (List.range g.owner.length).filter (fun v => set.getD v false) ∧ b ∈ (List.range g.owner.length).filter (fun v => set.getD v false) := fun a b e => by
    obtain ⟨k1, k2, k3, k4⟩ := EG_set h e
    simp only [List.mem_filter, List.mem_range]
    exact ⟨⟨k3, k1⟩, k4, k2⟩
  constructor
  · intro k
    induction k with
    | one h1 h2 e => exact .one ((hm _ _).2 ⟨e, h1.2, h2.2⟩)
    | step k2 h2 e ih =>
      have := k2.right
      have hlt := this.1
      simp only [List.mem_filter, List.mem_range] at hlt
      exact ih.step hlt.1 ((hm _ _).2 ⟨e, this.2, h2.2⟩)
  · intro k
    induction k with
    | one e =>
      obtain ⟨a1, a2, a3⟩ := (hm _ _).1 e
      obtain ⟨b1, b2⟩ := hA _ _ a1
      exact .one ⟨b1, a2⟩ ⟨b2, a3⟩ a1
    | step k2 _ e ih =>
      obtain ⟨a1, a2, a3⟩ := (hm _ _).1 e
      obtain ⟨b1, b2⟩ := hA _ _ a1
      exact ih.step ⟨b2, a3⟩ a1
/-- The positions of the set. -/
def posL (set : List Bool) (n : Nat) : List Nat := (List.range n).filter fun v => set.getD v false
theorem posL_cast (set : List Bool) (n : Nat) : castL (posL set n) = allK set n := rfl
theorem winB_iff (g : Gm) (p : Int) (set : List Bool) (s : List Int) : winB g p set s = true ↔ stB g p set s = true ∧ GoodL (nxS g p set s) g.prio p (posL set g.owner.length) := by
  unfold winB
  rw [Bool.and_eq_true]
  constructor
  · rintro ⟨h, h2⟩
    refine ⟨h, fun i hi hb k => ?_⟩
    have hi' := hi
    simp only [posL, List.mem_filter, List.mem_range] at hi'
    have h3 := List.all_eq_true.1 h2 i (List.mem_range.2 hi'.1)
    have h4 := (cyc_WK h (prF g.prio i) i i).1 k
    have h5 : (g.prio.getD i 0 % 2 != p) = true := by rw [bne_iff_ne]; exact hb
    rw [hi'.2, h5, show g.prio.getD i 0 = prF g.prio i from rfl, h4] at h3
    cases h3
  · rintro ⟨h, h2⟩
    refine ⟨h, List.all_eq_true.2 fun i hi => ?_⟩
    cases hs : set.getD i false
    · rfl
    cases hb : (g.prio.getD i 0 % 2 != p)
    · rfl
    cases hw : WK (movB g p set s (g.prio.getD i 0)) g.owner.length i i
    · rfl
    · exfalso
      refine h2 i ?_ (by rw [bne_iff_ne] at hb; exact hb) ((cyc_WK h (prF g.prio i) i i).2 hw)
      simp only [posL, List.mem_filter]
      exact ⟨hi, hs⟩
end

end Go.Proofs.Ytkbiopjinegckaa
