/- What solves a part of a game, and the steps of the recursive algorithm. -/
import Derived.Test.YtjhafakkadnfmaaSo1
namespace Go.Proofs.Ytjhafakkadnfmaa

section
variable {g : Gm} {p q : Int} {S R I D F T A W L : Nat → Prop} {σ τ : Nat → Nat} {won won' : Nat → Int}

/-- Each position of S has a successor in S. -/
def Total (g : Gm) (S : Nat → Prop) : Prop := ∀ i, S i → ∃ j, Edge g i j ∧ S j

/-- A is what p attracts to T within S. -/
structure AttIn (g : Gm) (p : Int) (S T A : Nat → Prop) : Prop where
  sub : ∀ i, A i → S i
  mem : ∀ i, T i → A i
  rank : ∃ ρ : Nat → Nat, ∀ i, A i → ¬ T i → (own g i = p → ∃ j, Edge g i j ∧ A j ∧ (T j ∨ ρ j < ρ i)) ∧ (own g i ≠ p → ∀ j, Edge g i j → S j → A j ∧ (T j ∨ ρ j < ρ i))
  mine : ∀ i, S i → ¬ A i → own g i = p → ∀ j, Edge g i j → ¬ A j
  other : ∀ i, S i → ¬ A i → own g i ≠ p → ∃ j, Edge g i j ∧ S j ∧ ¬ A j

theorem AttIn.total (h : AttIn g p S T A) (hS : Total g S) : Total g (fun i => S i ∧ ¬ A i) := fun i ⟨hi, ha⟩ => by
  by_cases ho : own g i = p
  · obtain ⟨j, h1, h2⟩ := hS i hi
    exact ⟨j, h1, h2, h.mine i hi ha ho j h1⟩
  · obtain ⟨j, h1, h2, h3⟩ := h.other i hi ha ho
    exact ⟨j, h1, h2, h3⟩

/-- Where no position is left out, the two closures tell the set. -/
theorem AttIn.dom (h : AttIn g p S T A) (hD : Dom g p S T) : Dom g p S A := by
  obtain ⟨σ, hD⟩ := hD
  obtain ⟨ρ, hρ⟩ := h.rank
  exact hD.attract ρ h.mem h.sub (fun i hi ht ho => (hρ i hi ht).1 ho) (fun i hi ht ho j he hj => (hρ i hi ht).2 ho j he hj)

/-- The winners of the positions of S. -/
structure Sol (g : Gm) (S : Nat → Prop) (won : Nat → Int) : Prop where
  two : ∀ i, S i → won i = 0 ∨ won i = 1
  d0 : Dom g 0 S (fun i => S i ∧ won i = 0)
  d1 : Dom g 1 S (fun i => S i ∧ won i = 1)

theorem Sol.dom (h : Sol g S won) (hp : p = 0 ∨ p = 1) : Dom g p S (fun i => S i ∧ won i = p) := by
  rcases hp with rfl | rfl
  · exact h.d0
  · exact h.d1
theorem Sol.of (h2 : ∀ i, S i → won i = 0 ∨ won i = 1) (h : ∀ p, p = 0 ∨ p = 1 → Dom g p S (fun i => S i ∧ won i = p)) : Sol g S won := ⟨h2, h 0 (.inl rfl), h 1 (.inr rfl)⟩
theorem Sol.congr (h : Sol g S won) (e : ∀ i, S i → won i = won' i) : Sol g S won' :=
  ⟨fun i hi => e i hi ▸ h.two i hi, h.d0.congr fun i => ⟨fun ⟨a, b⟩ => ⟨a, by rw [← e i a]; exact b⟩, fun ⟨a, b⟩ => ⟨a, by rw [e i a]; exact b⟩⟩,
    h.d1.congr fun i => ⟨fun ⟨a, b⟩ => ⟨a, by rw [← e i a]; exact b⟩, fun ⟨a, b⟩ => ⟨a, by rw [e i a]; exact b⟩⟩⟩
theorem Sol.congrS (h : Sol g S won) (e : ∀ i, S i ↔ R i) : Sol g R won := by
  have : S = R := funext fun i => propext (e i)
  rw [← this]; exact h
theorem Sol.empty (h : ∀ i, ¬ S i) : Sol g S won :=
  Sol.of (fun i hi => absurd hi (h i)) fun p _ => ((Dom.none g p S).congr fun i => ⟨fun x => x.elim, fun x => h i x.1⟩)

/-- The winners are determined. -/
theorem Sol.unique {n : Nat} (h : Sol g S won) (h' : Sol g S won') (hn : ∀ i, S i → i < n) (ho : ∀ i, S i → own g i = 0 ∨ own g i = 1) (i : Nat) (hi : S i) : won i = won' i := by
  obtain ⟨σ, a0⟩ := h.d0
  obtain ⟨τ, a1⟩ := h.d1
  obtain ⟨σ', b0⟩ := h'.d0
  obtain ⟨τ', b1⟩ := h'.d1
  rcases h.two i hi with e | e <;> rcases h'.two i hi with e' | e'
  · rw [e, e']
  · exact (a0.disjoint b1 hn ho i ⟨hi, e⟩ ⟨hi, e'⟩).elim
  · exact (b0.disjoint a1 hn ho i ⟨hi, e'⟩ ⟨hi, e⟩).elim
  · rw [e, e']
/-- A dominion is part of what its player wins. -/
theorem Sol.has {n : Nat} (h : Sol g S won) (hD : Dom g p S D) (hp : p = 0 ∨ p = 1) (hn : ∀ i, S i → i < n) (ho : ∀ i, S i → own g i = 0 ∨ own g i = 1) (i : Nat) (hi : D i) : won i = p := by
  obtain ⟨σ, a0⟩ := h.d0
  obtain ⟨τ, a1⟩ := h.d1
  obtain ⟨ρ, hD⟩ := hD
  have hs := hD.sub i hi
  rcases hp with rfl | rfl <;> rcases h.two i hs with e | e
  · exact e
  · exact (hD.disjoint a1 hn ho i hi ⟨hs, e⟩).elim
  · exact (a0.disjoint hD hn ho i ⟨hs, e⟩ hi).elim
  · exact e

/-- One player wins everywhere. -/
theorem Sol.all (hD : Dom g p S S) (hp : p = 0 ∨ p = 1) (hw : ∀ i, S i → won i = p) : Sol g S won := by
  refine Sol.of (fun i hi => by rw [hw i hi]; exact hp) fun q _ => ?_
  by_cases e : q = p
  · subst e
    exact hD.congr fun i => ⟨fun h => ⟨h, hw i h⟩, fun h => h.1⟩
  · exact (Dom.none g q S).congr fun i => ⟨fun x => x.elim, fun x => e (by rw [← x.2, hw i x.1])⟩

/-- A dominion that is all that its player attracts to it, and the winners of the game without it. -/
theorem Sol.step (hF : Dom g q S F) (hq : q = 0 ∨ q = 1) (out : ∀ i, S i → ¬ F i → own g i = q → ∀ j, Edge g i j → ¬ F j) (hR : Sol g (fun i => S i ∧ ¬ F i) won) (hw : ∀ i, F i → won i = q) (ho : ∀ i, S i → own g i = 0 ∨ own g i = 1) : Sol g S won := by
  have hFS : ∀ i, F i → S i := fun i hi => by obtain ⟨σ, h⟩ := hF; exact h.sub i hi
  refine Sol.of (fun i hi => ?_) fun p hp => ?_
  · by_cases h : F i
    · rw [hw i h]; exact hq
    · exact hR.two i ⟨hi, h⟩
  · obtain ⟨τ, hW⟩ := hR.dom hp
    by_cases e : p = q
    · subst e
      obtain ⟨σ, hF⟩ := hF
      refine (hF.union hW fun i => Iff.rfl).congr fun i => ⟨fun h => h.elim (fun h => ⟨hFS i h, hw i h⟩) fun h => ⟨h.1.1, h.2⟩, fun h => ?_⟩
      by_cases hf : F i
      · exact .inl hf
      · exact .inr ⟨⟨h.1, hf⟩, h.2⟩
    · refine Dom.congr ⟨τ, hW.lift (fun i hi => hi.1) fun i hi hne j he hj => ⟨hj, ?_⟩⟩ fun i => ⟨fun h => ⟨h.1.1, h.2⟩, fun h => ⟨⟨h.1, fun hf => e (by rw [← h.2, hw i hf])⟩, h.2⟩⟩
      have hoi := ho i hi.1
      exact out i hi.1 hi.2 (by omega) j he

/-- What T is attracted to is taken out; p wins all the rest, so it wins everywhere. -/
theorem dom_all (hA : AttIn g p S T A) (hp : p = 0 ∨ p = 1) (low : ∀ t, T t → ∀ v, S v → Lost p (pri g v) → pri g t < pri g v) (hS : Total g S) (hI : Sol g (fun i => S i ∧ ¬ A i) won) (hw : ∀ i, S i → ¬ A i → won i = p) : Dom g p S S := by
  obtain ⟨σ, hD⟩ := (hI.dom hp).congr (D' := fun i => S i ∧ ¬ A i) fun i => ⟨fun h => h.1, fun h => ⟨h, hw i h.1 h.2⟩⟩
  obtain ⟨ρ, hρ⟩ := hA.rank
  refine hD.all (T := T) ρ (fun i h => h.1) low hS (fun i hi hn ht ho => ?_) fun i hi hn ht ho j he hj => ?_
  · have ha : A i := Classical.not_not.1 fun h => hn ⟨hi, h⟩
    obtain ⟨j, h1, h2, h3⟩ := (hρ i ha ht).1 ho
    exact ⟨j, h1, hA.sub j h2, fun h => h.2 h2, h3⟩
  · have ha : A i := Classical.not_not.1 fun h => hn ⟨hi, h⟩
    obtain ⟨h1, h2⟩ := (hρ i ha ht).2 ho j he hj
    exact ⟨fun h => h.2 h1, h2⟩

/-- What T is attracted to is taken out; what the other player q wins of the rest, and attracts to it, it wins. -/
theorem dom_lost (hA : AttIn g p S T A) (hq : q = 0 ∨ q = 1) (hpq : p ≠ q) (hp : p = 0 ∨ p = 1) (hI : Sol g (fun i => S i ∧ ¬ A i) won) (hL : ∀ i, L i ↔ (S i ∧ ¬ A i) ∧ won i = q) (hF : AttIn g q S L F) (ho : ∀ i, S i → own g i = 0 ∨ own g i = 1) : Dom g q S F := by
  obtain ⟨σ, hD⟩ := hI.dom hq
  refine hF.dom (Dom.congr ⟨σ, hD.lift (fun i h => h.1) fun i hi hne j he hj => ⟨hj, ?_⟩⟩ fun i => (hL i).symm)
  have hoi := ho i hi.1
  exact hA.mine i hi.1 hi.2 (by omega) j he

end
end Go.Proofs.Ytjhafakkadnfmaa
