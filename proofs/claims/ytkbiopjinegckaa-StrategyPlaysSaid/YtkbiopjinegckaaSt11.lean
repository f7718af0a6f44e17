/- Parts without lost plays: what the recursive check decides, in plain terms. -/
import Derived.Test.YtkbiopjinegckaaSt10
namespace Go.Proofs.Ytkbiopjinegckaa

def EG (nx : List (List Int)) (x y : Nat) : Prop := (y : Int) ∈ nx.getD x []
theorem ep_in (A : Nat → Prop) (nx : List (List Int)) : EP A nx = In (EG nx) A := rfl
def prF (prio : List Int) (v : Nat) : Int := prio.getD v 0
def badF (prio : List Int) (p : Int) (v : Nat) : Prop := prF prio v % 2 ≠ p
instance (prio : List Int) (p : Int) (v : Nat) : Decidable (badF prio p v) := by unfold badF; infer_instance
def maxI : Int := 9223372036854775807
/-- The least bad priority. -/
def badM (prio : List Int) (p : Int) (l : List Nat) : Int := l.foldl (fun m v => if badF prio p v then min m (prF prio v) else m) maxI
theorem badM_snoc (prio : List Int) (p : Int) (l : List Nat) (v : Nat) : badM prio p (l ++ [v]) = if badF prio p v then min (badM prio p l) (prF prio v) else badM prio p l := by
  unfold badM; rw [List.foldl_append]; rfl
theorem snoc_ind {α : Type} {P : List α → Prop} (h0 : P []) (h1 : ∀ l a, P l → P (l ++ [a])) (l : List α) : P l := by
  have : ∀ r : List α, P r.reverse := fun r => by
    induction r with
    | nil => exact h0
    | cons a r ih => rw [List.reverse_cons]; exact h1 _ _ ih
  have h := this l.reverse
  rwa [List.reverse_reverse] at h
theorem badM_spec (prio : List Int) (p : Int) (l : List Nat) : (∀ v ∈ l, badF prio p v → badM prio p l ≤ prF prio v) ∧ ((badM prio p l = maxI ∧ ∀ v ∈ l, ¬ badF prio p v) ∨ ∃ v ∈ l, badF prio p v ∧ (badM prio p l = prF prio v ∨ badM prio p l = maxI)) ∧ badM prio p l ≤ maxI := by
  refine snoc_ind (P := fun l => (∀ v ∈ l, badF prio p v → badM prio p l ≤ prF prio v) ∧ ((badM prio p l = maxI ∧ ∀ v ∈ l, ¬ badF prio p v) ∨ ∃ v ∈ l, badF prio p v ∧ (badM prio p l = prF prio v ∨ badM prio p l = maxI)) ∧ badM prio p l ≤ maxI) ?_ ?_ l
  · exact ⟨fun v hv => absurd hv (by simp), .inl ⟨rfl, fun v hv => absurd hv (by simp)⟩, Int.le_refl _⟩
  · intro l v ih
    obtain ⟨h1, h2, h3⟩ := ih
    rw [badM_snoc]
    by_cases hb : badF prio p v
    · rw [if_pos hb]
      refine ⟨fun x hx hbx => ?_, .inr ?_, by omega⟩
      · rcases List.mem_append.1 hx with h | h
        · have := h1 x h hbx; omega
        · rw [List.mem_singleton.1 h]; omega
      · by_cases hm : badM prio p l ≤ prF prio v
        · rcases h2 with ⟨h4, h5⟩ | ⟨y, hy, h4, h5⟩
          · exact ⟨v, by simp, hb, .inr (by omega)⟩
          · refine ⟨y, List.mem_append_left _ hy, h4, ?_⟩
            rcases h5 with e | e
            · left; omega
            · right; omega
        · exact ⟨v, by simp, hb, .inl (by omega)⟩
    · rw [if_neg hb]
      refine ⟨fun x hx hbx => ?_, ?_, h3⟩
      · rcases List.mem_append.1 hx with h | h
        · exact h1 x h hbx
        · rw [List.mem_singleton.1 h] at hbx; exact absurd hbx hb
      · rcases h2 with ⟨h4, h5⟩ | ⟨y, hy, h4, h5⟩
        · refine .inl ⟨h4, fun x hx => ?_⟩
          rcases List.mem_append.1 hx with h | h
          · exact h5 x h
          · rw [List.mem_singleton.1 h]; exact hb
        · exact .inr ⟨y, List.mem_append_left _ hy, h4, h5⟩
def restL (prio : List Int) (m : Int) (l : List Nat) : List Nat := l.filter fun v => decide (m ≤ prF prio v)
theorem restL_snoc (prio : List Int) (m : Int) (l : List Nat) (v : Nat) : restL prio m (l ++ [v]) = if m ≤ prF prio v then restL prio m l ++ [v] else restL prio m l := by
  unfold restL
  rw [List.filter_append]
  by_cases h : m ≤ prF prio v <;> simp [h]
theorem restL_mem {prio : List Int} {m : Int} {l : List Nat} {v : Nat} : v ∈ restL prio m l ↔ v ∈ l ∧ m ≤ prF prio v := by
  unfold restL; rw [List.mem_filter]; simp
theorem restL_len (prio : List Int) (m : Int) (l : List Nat) : (restL prio m l).length ≤ l.length := List.length_filter_le _ _
theorem restL_full {prio : List Int} {m : Int} {l : List Nat} (h : (restL prio m l).length = l.length) : ∀ v ∈ l, m ≤ prF prio v := fun v hv => by
  have := (List.length_filter_eq_length_iff.1 h) v hv
  simpa using this

/-- A part whose players' plays are all won. -/
def GoodL (nx : List (List Int)) (prio : List Int) (p : Int) (l : List Nat) : Prop := Good (EG nx) (prF prio) (badF prio p) (· ∈ l)
section
variable {nx : List (List Int)} {prio : List Int} {p : Int}
theorem good_none {c : List Nat} (h : restL prio (badM prio p c) c = []) : GoodL nx prio p c := fun i hi hb => by
  exfalso
  have h1 := (badM_spec prio p c).1 i hi hb
  have : i ∈ restL prio (badM prio p c) c := restL_mem.2 ⟨hi, h1⟩
  rw [h] at this; cases this
theorem good_rest (c : List Nat) : GoodL nx prio p c ↔ GoodL nx prio p (restL prio (badM prio p c) c) := by
  unfold GoodL
  rw [Good.rest (m := badM prio p c) (fun i hi hb => (badM_spec prio p c).1 i hi hb)]
  have e : (fun x => x ∈ c ∧ badM prio p c ≤ prF prio x) = (fun x => x ∈ restL prio (badM prio p c) c) := funext fun x => propext restL_mem.symm
  rw [e]
theorem comp_rch {E : Nat → Nat → Prop} {A C : Nat → Prop} {x z : Nat} (hC : ∀ y, A y → (C y ↔ Rch (In E A) x y ∧ Rch (In E A) y x)) (h : Rch (In E A) x z) (hz : Rch (In E A) z x) : Rch (In E C) x z := by
  induction h with
  | refl => exact Rch.refl _
  | step h e ih =>
    rename_i y z
    have hy : Rch (In E A) y x := (Rch.one e).trans hz
    refine (ih hy).step ⟨(hC y e.1).2 ⟨h, hy⟩, (hC z e.2.1).2 ⟨h.step e, hz⟩, e.2.2⟩
/-- A component whose least priority is bad. -/
theorem good_full {A : Nat → Prop} {c : List Nat} (hA : ∀ x ∈ c, A x) (hC : ∀ x ∈ c, ∀ y, A y → (y ∈ c ↔ Rch (In (EG nx) A) x y ∧ Rch (In (EG nx) A) y x)) (hne : c ≠ []) (hp : ∀ x ∈ c, prF prio x < maxI) (h : ∀ v ∈ c, badM prio p c ≤ prF prio v) :
    GoodL nx prio p c ↔ ¬ ∃ x y, x ∈ c ∧ y ∈ c ∧ EG nx x y := by
  obtain ⟨h1, h2, -⟩ := badM_spec prio p c
  obtain ⟨x0, hx0⟩ := List.exists_mem_of_ne_nil c hne
  have h3 := h x0 hx0
  have h4 := hp x0 hx0
  obtain ⟨i, hi, hb, he⟩ : ∃ i ∈ c, badF prio p i ∧ badM prio p c = prF prio i := by
    rcases h2 with ⟨h5, -⟩ | ⟨i, hi, hb, he | he⟩
    · omega
    · exact ⟨i, hi, hb, he⟩
    · omega
  refine Good.none (C := (· ∈ c)) hi hb (fun x hx => by have := h x hx; omega) fun x y hx hy => ?_
  obtain ⟨k1, k2⟩ := (hC x hx y (hA y hy)).1 hy
  exact comp_rch (C := (· ∈ c)) (hC x hx) k1 k2
theorem rch_first {E : Nat → Nat → Prop} {x y : Nat} (h : Rch E x y) (hne : x ≠ y) : ∃ z, E x z := by
  induction h with
  | refl => exact absurd rfl hne
  | step h e ih =>
    rename_i z _
    by_cases hx : x = z
    · subst hx; exact ⟨_, e⟩
    · exact ih hx
theorem good_two {A : Nat → Prop} {c : List Nat} (hA : ∀ x ∈ c, A x) (hC : ∀ x ∈ c, ∀ y, A y → (y ∈ c ↔ Rch (In (EG nx) A) x y ∧ Rch (In (EG nx) A) y x)) (hnd : c.Nodup) (hl : 1 < c.length) : ∃ x y, x ∈ c ∧ y ∈ c ∧ EG nx x y := by
  match c, hl with
  | x :: y :: r, _ =>
    have hxy : x ≠ y := fun e => by
      subst e
      simp at hnd
    have hx : x ∈ x :: y :: r := by simp
    have hy : y ∈ x :: y :: r := by simp
    obtain ⟨k1, k2⟩ := (hC x hx y (hA y hy)).1 hy
    obtain ⟨z, hz⟩ := rch_first (comp_rch (C := (· ∈ x :: y :: r)) (hC x hx) k1 k2) hxy
    exact ⟨x, z, hz.1, hz.2.1, hz.2.2⟩
/-- A part is good if all its components are. -/
theorem good_comps {part : List Nat} {cs : List (List Nat)} (h : CompsOf (EP (· ∈ part) nx) (· ∈ part) cs) : GoodL nx prio p part ↔ ∀ c ∈ cs, GoodL nx prio p c := by
  refine ⟨fun hg c hc => Good.sub hg fun x hx => (h.ne c hc).2.2 x hx, fun hg => ?_⟩
  refine Good.comps fun C hCA hCe ⟨x, hx⟩ => ?_
  obtain ⟨c, hc, hxc⟩ := h.al x (hCA x hx)
  have e : C = (· ∈ c) := funext fun y => propext ⟨fun hy => ?_, fun hy => ?_⟩
  · rw [e]; exact hg c hc
  · exact (h.eq c hc x hxc y (hCA y hy)).2 ((hCe x y hx (hCA y hy)).1 hy)
  · have hyA := (h.ne c hc).2.2 y hy
    exact (hCe x y hx hyA).2 ((h.eq c hc x hxc y hyA).1 hy)
end

end Go.Proofs.Ytkbiopjinegckaa
