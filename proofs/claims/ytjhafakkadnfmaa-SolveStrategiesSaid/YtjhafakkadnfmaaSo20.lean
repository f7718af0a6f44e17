/- What the reference attracts, in plain lists. -/
import Derived.Test.YtjhafakkadnfmaaSo3
namespace Go.Proofs.Ytjhafakkadnfmaa

section
variable (g : Gm) (p : Int) (s : List Bool)

/-- Whether a position is attracted next. -/
def raB (inn : List Bool) (i : Nat) : Bool :=
  decide (g.owner.getD i 0 = p) && ((g.succ.getD i []).any fun x => inS s x && inS inn x) || decide (g.owner.getD i 0 ≠ p) && ((g.succ.getD i []).all fun x => !inS s x || inS inn x)
def raStep (inn : List Bool) (i : Nat) : List Bool := if s.getD i false && !inn.getD i false then inn.set i (raB g p s inn i) else inn
def raUpto (inn : List Bool) : Nat → List Bool
  | 0 => inn
  | k + 1 => raStep g p s (raUpto inn k) k
def raRounds (n : Nat) (t : List Bool) : Nat → List Bool
  | 0 => t
  | k + 1 => raUpto g p s (raRounds n t k) n
end

section
variable {g : Gm} {p : Int} {s : List Bool} {n : Nat} {t inn : List Bool}

theorem getB_set (l : List Bool) (i j : Nat) (x : Bool) : (l.set i x).getD j false = if i = j ∧ i < l.length then x else l.getD j false := by
  by_cases h : i < l.length
  · rw [getD_setB _ _ _ _ h]; simp [h]
  · rw [List.set_eq_of_length_le (by omega), if_neg (fun e => h e.2)]

theorem raStep_len (inn : List Bool) (i : Nat) : (raStep g p s inn i).length = inn.length := by unfold raStep; split <;> simp
theorem raUpto_len (inn : List Bool) (k : Nat) : (raUpto g p s inn k).length = inn.length := by
  induction k with
  | zero => rfl
  | succ k ih => rw [raUpto, raStep_len, ih]
theorem raRounds_len (t : List Bool) (k : Nat) : (raRounds g p s n t k).length = t.length := by
  induction k with
  | zero => rfl
  | succ k ih => rw [raRounds, raUpto_len, ih]

/-- What is attracted so far, with numbers. -/
structure RInv (g : Gm) (p : Int) (s t inn : List Bool) : Prop where
  sub : ∀ i, inn.getD i false = true → s.getD i false = true
  mem : ∀ i, t.getD i false = true → inn.getD i false = true
  rk : ∃ (ρ : Nat → Nat) (M : Nat), (∀ i, ρ i < M ∨ inn.getD i false = false) ∧ ∀ i, inn.getD i false = true → ¬ t.getD i false = true → (g.owner.getD i 0 = p → ∃ x ∈ g.succ.getD i [], inS inn x = true ∧ ρ x.toNat < ρ i) ∧ (g.owner.getD i 0 ≠ p → ∀ x ∈ g.succ.getD i [], inS s x = true → inS inn x = true ∧ ρ x.toNat < ρ i)

theorem RInv.start (h : ∀ i, t.getD i false = true → s.getD i false = true) : RInv g p s t t :=
  ⟨h, fun _ h => h, fun _ => 0, 1, fun _ => .inl Nat.zero_lt_one, fun _ h1 h2 => absurd h1 h2⟩

theorem RInv.step (h : RInv g p s t inn) (i : Nat) (hi : i < inn.length) : RInv g p s t (raStep g p s inn i) := by
  unfold raStep
  by_cases hc : (s.getD i false && !inn.getD i false) = true
  · rw [if_pos hc]
    simp only [Bool.and_eq_true, Bool.not_eq_true'] at hc
    cases hb : raB g p s inn i with
    | false =>
      have e : inn.set i false = inn := by
        apply List.ext_getElem (by simp)
        intro j h1 h2
        rw [List.getElem_set]
        split
        · subst i; have := hc.2; rw [getD_lt _ _ _ h2] at this; exact this.symm
        · rfl
      rw [e]; exact h
    | true =>
      obtain ⟨ρ, M, hM, hr⟩ := h.rk
      have hmono : ∀ x : Int, inS inn x = true → inS (inn.set i true) x = true ∧ x.toNat ≠ i := fun x hx => by
        unfold inS at hx ⊢
        have hne : x.toNat ≠ i := fun e => by rw [e, hc.2] at hx; cases hx
        rw [getB_set, if_neg (fun e => hne e.1.symm)]
        exact ⟨hx, hne⟩
      refine ⟨fun j hj => ?_, fun j hj => ?_, fun j => if j = i then M else ρ j, M + 1, fun j => ?_, fun j hj hjt => ?_⟩
      · rw [getB_set] at hj
        split at hj
        · rename_i e; rw [← e.1]; exact hc.1
        · exact h.sub j hj
      · rw [getB_set]
        split
        · rfl
        · exact h.mem j hj
      · by_cases e : j = i
        · subst e; simp
        · simp only [if_neg e]
          rw [getB_set, if_neg (fun x => e x.1.symm)]
          rcases hM j with x | x
          · exact .inl (by omega)
          · exact .inr x
      · by_cases e : j = i
        · subst e
          unfold raB at hb
          simp only [Bool.or_eq_true, Bool.and_eq_true, decide_eq_true_eq, List.any_eq_true, List.all_eq_true, Bool.not_eq_true'] at hb
          have low : ∀ x : Int, inS inn x = true → (if x.toNat = j then M else ρ x.toNat) < if j = j then M else ρ j := fun x hx => by
            rw [if_neg (hmono x hx).2, if_pos rfl]
            rcases hM x.toNat with y | y
            · exact y
            · unfold inS at hx; rw [y] at hx; cases hx
          refine ⟨fun ho => ?_, fun ho x hx hs => ?_⟩
          · rcases hb with ⟨_, x, hx, h1, h2⟩ | ⟨hn, _⟩
            · exact ⟨x, hx, (hmono x h2).1, low x h2⟩
            · exact absurd ho hn
          · rcases hb with ⟨hy, _⟩ | ⟨_, hall⟩
            · exact absurd hy ho
            · have h2 : inS inn x = true := by
                rcases hall x hx with y | y
                · rw [hs] at y; cases y
                · exact y
              exact ⟨(hmono x h2).1, low x h2⟩
        · rw [getB_set, if_neg (fun x => e x.1.symm)] at hj
          obtain ⟨k1, k2⟩ := hr j hj hjt
          refine ⟨fun ho => ?_, fun ho x hx hs => ?_⟩
          · obtain ⟨x, hx, h1, h2⟩ := k1 ho
            exact ⟨x, hx, (hmono x h1).1, by simp only [if_neg (hmono x h1).2, if_neg e]; exact h2⟩
          · obtain ⟨h1, h2⟩ := k2 ho x hx hs
            exact ⟨(hmono x h1).1, by simp only [if_neg (hmono x h1).2, if_neg e]; exact h2⟩
  · rw [if_neg hc]; exact h

theorem RInv.upto (h : RInv g p s t inn) (k : Nat) (hk : k ≤ inn.length) : RInv g p s t (raUpto g p s inn k) := by
  induction k with
  | zero => exact h
  | succ k ih => exact (ih (by omega)).step k (by rw [raUpto_len]; omega)
theorem RInv.rounds (h : RInv g p s t t) (hn : n ≤ t.length) (k : Nat) : RInv g p s t (raRounds g p s n t k) := by
  induction k with
  | zero => exact h
  | succ k ih => exact ih.upto n (by rw [raRounds_len]; exact hn)

theorem count_setT (l : List Bool) (i : Nat) (h : i < l.length) (hf : l.getD i false = false) : (l.set i true).count true = l.count true + 1 := by
  have : l[i] = false := by rwa [getD_lt _ _ _ h] at hf
  rw [List.count_set h, this]; simp
theorem raStep_count (inn : List Bool) (i : Nat) (hi : i < inn.length) : raStep g p s inn i = inn ∨ (raStep g p s inn i).count true = inn.count true + 1 := by
  unfold raStep
  by_cases hc : (s.getD i false && !inn.getD i false) = true
  · rw [if_pos hc]
    simp only [Bool.and_eq_true, Bool.not_eq_true'] at hc
    cases hb : raB g p s inn i with
    | false =>
      refine .inl ?_
      apply List.ext_getElem (by simp)
      intro j h1 h2
      rw [List.getElem_set]
      split
      · subst i; have := hc.2; rw [getD_lt _ _ _ h2] at this; exact this.symm
      · rfl
    | true => exact .inr (count_setT inn i hi hc.2)
  · rw [if_neg hc]; exact .inl rfl
theorem raUpto_count (inn : List Bool) (k : Nat) (hk : k ≤ inn.length) : inn.count true ≤ (raUpto g p s inn k).count true ∧ ((raUpto g p s inn k).count true = inn.count true → ∀ j, j ≤ k → raUpto g p s inn j = inn) := by
  induction k with
  | zero => exact ⟨Nat.le_refl _, fun _ j hj => by rw [show j = 0 by omega]; rfl⟩
  | succ k ih =>
    obtain ⟨i1, i2⟩ := ih (by omega)
    have hs := raStep_count (g := g) (p := p) (s := s) (raUpto g p s inn k) k (by rw [raUpto_len]; omega)
    rw [raUpto]
    rcases hs with e | e
    · rw [e]
      refine ⟨i1, fun hc j hj => ?_⟩
      by_cases hjk : j = k + 1
      · subst hjk; rw [raUpto, e]; exact i2 hc k (Nat.le_refl _)
      · exact i2 hc j (by omega)
    · rw [e]; exact ⟨by omega, fun hc => by omega⟩
/-- Either nothing changes any more, or at least as many as there were rounds are in. -/
theorem raRounds_count (hn : n = t.length) (k : Nat) : (∀ j, j ≤ n → raUpto g p s (raRounds g p s n t k) j = raRounds g p s n t k) ∨ k ≤ (raRounds g p s n t k).count true := by
  induction k with
  | zero => exact .inr (Nat.zero_le _)
  | succ k ih =>
    rcases ih with h | h
    · have e : raRounds g p s n t (k + 1) = raRounds g p s n t k := h n (Nat.le_refl _)
      rw [e]; exact .inl h
    · obtain ⟨c1, c2⟩ := raUpto_count (g := g) (p := p) (s := s) (raRounds g p s n t k) n (by rw [raRounds_len]; omega)
      by_cases hc : (raUpto g p s (raRounds g p s n t k) n).count true = (raRounds g p s n t k).count true
      · have hj := c2 hc
        have e : raRounds g p s n t (k + 1) = raRounds g p s n t k := hj n (Nat.le_refl _)
        rw [e]; exact .inl hj
      · exact .inr (by rw [raRounds]; omega)

/-- The set of the reference is what is attracted. -/
theorem raRounds_att (hn : n = t.length) (hs : s.length = n) (hsub : ∀ i, t.getD i false = true → s.getD i false = true) (hg : ∀ i, i < n → ∀ x ∈ g.succ.getD i [], ∃ v : Nat, x = v ∧ v < n) :
    AttIn g p (fun i => s.getD i false = true) (fun i => t.getD i false = true) (fun i => (raRounds g p s n t n).getD i false = true) := by
  have hI := (RInv.start (g := g) (p := p) hsub).rounds (n := n) (by omega) n
  have hlt : ∀ i, s.getD i false = true → i < n := fun i hi => by
    rcases Nat.lt_or_ge i n with h | h
    · exact h
    · simp [List.getD, List.getElem?_eq_none (by omega : s.length ≤ i)] at hi
  have hlen := raRounds_len (g := g) (p := p) (s := s) (n := n) t n
  have hfix : ∀ i, s.getD i false = true → ¬ (raRounds g p s n t n).getD i false = true → raB g p s (raRounds g p s n t n) i = false := fun i hi hni => by
    have hin := hlt i hi
    rcases raRounds_count (g := g) (p := p) (s := s) hn n with h | h
    · have h1 := h i (by omega)
      have h2 := h (i + 1) (by omega)
      rw [raUpto, h1] at h2
      unfold raStep at h2
      rw [Bool.not_eq_true] at hni
      rw [if_pos (by rw [hi, hni]; rfl)] at h2
      have h3 : ((raRounds g p s n t n).set i (raB g p s (raRounds g p s n t n) i)).getD i false = (raRounds g p s n t n).getD i false := by rw [h2]
      rw [getB_set, if_pos ⟨rfl, by omega⟩, hni] at h3
      exact h3
    · exfalso
      refine hni ?_
      have hall : (raRounds g p s n t n).count true = (raRounds g p s n t n).length := by
        have := List.count_le_length (l := raRounds g p s n t n) (a := true)
        omega
      rw [List.count_eq_length] at hall
      rw [getD_lt _ _ _ (by omega)]
      exact (hall _ (List.getElem_mem (by omega))).symm
  obtain ⟨ρ, M, hM, hr⟩ := hI.rk
  refine ⟨hI.sub, hI.mem, ⟨ρ, fun i hi hit => ?_⟩, fun i hi hn2 ho j he hj => ?_, fun i hi hn2 ho => ?_⟩
  · obtain ⟨k1, k2⟩ := hr i hi hit
    refine ⟨fun ho => ?_, fun ho j he hj => ?_⟩
    · obtain ⟨x, hx, h1, h2⟩ := k1 ho
      obtain ⟨v, rfl, hv⟩ := hg i (hlt i (hI.sub i hi)) x hx
      exact ⟨v, hx, h1, .inr h2⟩
    · obtain ⟨h1, h2⟩ := k2 ho j he hj
      exact ⟨h1, .inr h2⟩
  · have := hfix i hi hn2
    unfold raB at this
    rw [Bool.or_eq_false_iff] at this
    have h1 := this.1
    unfold own at ho
    rw [ho] at h1
    simp only [decide_true, Bool.true_and, List.any_eq_false, Bool.and_eq_true, not_and, Bool.not_eq_true] at h1
    have h2 := h1 j he (hI.sub j hj)
    unfold inS at h2
    rw [Int.toNat_natCast, hj] at h2; cases h2
  · have := hfix i hi hn2
    unfold raB at this
    rw [Bool.or_eq_false_iff] at this
    have h1 := this.2
    unfold own at ho
    rw [decide_eq_true ho, Bool.true_and, List.all_eq_false] at h1
    obtain ⟨x, hx, h2⟩ := h1
    obtain ⟨v, rfl, hv⟩ := hg i (hlt i hi) x hx
    simp only [Bool.or_eq_true, Bool.not_eq_true', not_or, Bool.not_eq_false, Bool.not_eq_true] at h2
    unfold inS at h2
    rw [Int.toNat_natCast] at h2
    exact ⟨v, hx, h2.1, by rw [h2.2]; simp⟩
end
end Go.Proofs.Ytjhafakkadnfmaa
