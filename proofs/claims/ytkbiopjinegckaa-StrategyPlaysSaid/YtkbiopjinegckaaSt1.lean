/- Which plays of a strategy are lost: cycles through priorities at least that of a bad position, and the components that hold them, in plain terms. -/
import Derived.Test.YtkbiopjinegckaaTj2
namespace Go.Proofs.Ytkbiopjinegckaa

/-- Reached by one move or more, within a set. -/
inductive Cyc (E : Nat → Nat → Prop) (A : Nat → Prop) : Nat → Nat → Prop
  | one {a b : Nat} : A a → A b → E a b → Cyc E A a b
  | step {a b c : Nat} : Cyc E A a b → A c → E b c → Cyc E A a c
theorem Cyc.left {E : Nat → Nat → Prop} {A : Nat → Prop} {a b : Nat} (h : Cyc E A a b) : A a := by
  induction h with
  | one h _ _ => exact h
  | step _ _ _ ih => exact ih
theorem Cyc.right {E : Nat → Nat → Prop} {A : Nat → Prop} {a b : Nat} (h : Cyc E A a b) : A b := by
  cases h with
  | one _ h _ => exact h
  | step _ h _ => exact h
theorem Cyc.trans {E : Nat → Nat → Prop} {A : Nat → Prop} {a b c : Nat} (h1 : Cyc E A a b) (h2 : Cyc E A b c) : Cyc E A a c := by
  induction h2 with
  | one _ hc e => exact h1.step hc e
  | step _ hc e ih => exact ih.step hc e
theorem Cyc.mono {E : Nat → Nat → Prop} {A B : Nat → Prop} (hAB : ∀ x, A x → B x) {a b : Nat} (h : Cyc E A a b) : Cyc E B a b := by
  induction h with
  | one ha hb e => exact .one (hAB _ ha) (hAB _ hb) e
  | step _ hc e ih => exact ih.step (hAB _ hc) e
/-- The moves within a set. -/
def In (E : Nat → Nat → Prop) (A : Nat → Prop) (x y : Nat) : Prop := A x ∧ A y ∧ E x y
theorem Cyc.rch {E : Nat → Nat → Prop} {A : Nat → Prop} {a b : Nat} (h : Cyc E A a b) : Rch (In E A) a b := by
  induction h with
  | one ha hb e => exact Rch.one ⟨ha, hb, e⟩
  | step h hc e ih => exact ih.step ⟨h.right, hc, e⟩
theorem rch_cyc {E : Nat → Nat → Prop} {A : Nat → Prop} {a b : Nat} (h : Rch (In E A) a b) (hne : a ≠ b) : Cyc E A a b := by
  induction h with
  | refl => exact absurd rfl hne
  | step h e ih =>
    rename_i x y
    by_cases hx : a = x
    · subst hx; exact .one e.1 e.2.1 e.2.2
    · exact (ih hx).step e.2.1 e.2.2
/-- On a cycle, all lie in one component. -/
theorem Cyc.comp {E : Nat → Nat → Prop} {A C : Nat → Prop} {a b : Nat} (h : Cyc E A a b) (hba : b = a ∨ Cyc E A b a) (hC : ∀ x, Rch (In E A) a x → Rch (In E A) x a → C x) : Cyc E C a b := by
  induction h with
  | one ha hb e =>
    refine .one (hC _ (Rch.refl _) (Rch.refl _)) (hC _ (Rch.one ⟨ha, hb, e⟩) ?_) e
    rcases hba with rfl | h
    · exact Rch.refl _
    · exact h.rch
  | step h hc e ih =>
    rename_i x y
    have hca : Rch (In E A) y a := by
      rcases hba with rfl | k
      · exact Rch.refl _
      · exact k.rch
    have hxa : Cyc E A x a := by
      rcases hba with rfl | k
      · exact .one h.right hc e
      · exact (Cyc.one h.right hc e).trans k
    exact (ih (.inr hxa)).step (hC _ (h.rch.step ⟨h.right, hc, e⟩) hca) e

section
variable (E : Nat → Nat → Prop) (pr : Nat → Int) (bad : Nat → Prop)
/-- No bad position lies on a cycle through priorities at least its own. -/
def Good (A : Nat → Prop) : Prop := ∀ i, A i → bad i → ¬ Cyc E (fun x => A x ∧ pr i ≤ pr x) i i
variable {E pr bad}
theorem Good.sub {A B : Nat → Prop} (h : Good E pr bad A) (hBA : ∀ x, B x → A x) : Good E pr bad B := fun i hi hb k => h i (hBA i hi) hb (k.mono fun x hx => ⟨hBA x hx.1, hx.2⟩)
/-- A part is good if all its components are. -/
theorem Good.comps {A : Nat → Prop} (h : ∀ C : Nat → Prop, (∀ x, C x → A x) → (∀ x y, C x → A y → (C y ↔ Rch (In E A) x y ∧ Rch (In E A) y x)) → (∃ x, C x) → Good E pr bad C) : Good E pr bad A := fun i hi hb k => by
  have hC := h (fun x => A x ∧ Rch (In E A) i x ∧ Rch (In E A) x i) (fun x hx => hx.1) (fun x y hx hy => ⟨fun h => ⟨hx.2.2.trans h.2.1, h.2.2.trans hx.2.1⟩, fun h => ⟨hy, hx.2.1.trans h.1, h.2.trans hx.2.2⟩⟩) ⟨i, hi, Rch.refl _, Rch.refl _⟩
  refine hC i ⟨hi, Rch.refl _, Rch.refl _⟩ hb ?_
  have k2 : Cyc E (fun x => (A x ∧ Rch (In E A) i x ∧ Rch (In E A) x i) ∧ pr i ≤ pr x) i i := by
    refine k.comp (.inl rfl) fun x h1 h2 => ?_
    have hm : ∀ a b, Rch (In E fun x => A x ∧ pr i ≤ pr x) a b → Rch (In E A) a b := fun a b hab => by
      induction hab with
      | refl => exact Rch.refl _
      | step _ e ih => exact ih.step ⟨e.1.1, e.2.1.1, e.2.2⟩
    have hx : A x ∧ pr i ≤ pr x := Rch.closed (A := fun x => A x ∧ pr i ≤ pr x) (fun _ _ _ e => e.2.1) h1 ⟨hi, Int.le_refl _⟩
    exact ⟨⟨hx.1, hm _ _ h1, hm _ _ h2⟩, hx.2⟩
  exact k2
/-- Below the least bad priority nothing matters. -/
theorem Good.rest {C : Nat → Prop} {m : Int} (hm : ∀ i, C i → bad i → m ≤ pr i) : Good E pr bad C ↔ Good E pr bad (fun x => C x ∧ m ≤ pr x) := by
  refine ⟨fun h => h.sub fun x hx => hx.1, fun h i hi hb k => h i ⟨hi, hm i hi hb⟩ hb (k.mono fun x hx => ?_)⟩
  have := hm i hi hb
  exact ⟨⟨hx.1, by omega⟩, hx.2⟩
/-- A component whose least priority is bad must have no cycle. -/
theorem Good.none {C : Nat → Prop} {i : Nat} (hi : C i) (hb : bad i) (hm : ∀ x, C x → pr i ≤ pr x) (hc : ∀ x y, C x → C y → Rch (In E C) x y) : Good E pr bad C ↔ ¬ ∃ x y, C x ∧ C y ∧ E x y := by
  refine ⟨fun h => ?_, fun h j hj hbj k => ?_⟩
  · rintro ⟨x, y, hx, hy, e⟩
    refine h i hi hb ?_
    have e1 : Cyc E C i i := by
      have c1 : Cyc E C x y := .one hx hy e
      have c2 : Cyc E C x i := by
        by_cases hyi : y = i
        · subst hyi; exact c1
        · exact c1.trans (rch_cyc (hc y i hy hi) hyi)
      by_cases hix : i = x
      · subst hix; exact c2
      · exact (rch_cyc (hc i x hi hx) hix).trans c2
    exact e1.mono fun x hx => ⟨hx, hm x hx⟩
  · apply h
    cases k with
    | one h1 h2 e => exact ⟨_, _, h1.1, h2.1, e⟩
    | step k h2 e => exact ⟨_, _, k.right.1, h2.1, e⟩
end

end Go.Proofs.Ytkbiopjinegckaa
