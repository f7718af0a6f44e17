/- What begin leaves, by position. -/
import Derived.Test.YtjhafakkadnfmaaP15
namespace Go.Proofs.Ytjhafakkadnfmaa

theorem pushAll_count (bf : List (List Int)) (v x : Int) (u : Nat) (hu : u < bf.length) : ∀ (l : List Int), (∀ y ∈ l, 0 ≤ y ∧ y < bf.length) →
    ((pushAll bf v l).getD u []).count x = (bf.getD u []).count x + if x = v then l.count (u : Int) else 0 := by
  intro l
  induction l generalizing bf with
  | nil => intro _; simp [pushAll]
  | cons a l ih =>
    intro hl
    have ha := hl a List.mem_cons_self
    have hal : a.toNat < bf.length := by omega
    rw [pushAll, ih _ (by simpa using hu) (fun y hy => by have := hl y (List.mem_cons_of_mem _ hy); simpa using this)]
    by_cases e : a.toNat = u
    · subst e
      rw [getD_set_eq _ _ _ _ hal, List.count_append]
      have ea : ((a.toNat : Nat) : Int) = a := by omega
      rw [ea]
      by_cases hx : x = v
      · subst hx; simp; omega
      · simp [hx, Ne.symm hx]
    · rw [getD_set_ne _ _ _ _ _ e]
      have : (a == (u : Int)) = false := by simp; omega
      simp [List.count_cons, this]

/-- What is known of begin's state behind k positions. -/
structure BegOK (g : Gm) (t : List Bool) (n k : Nat) (b : Beg) : Prop where
  inn : ∀ j, j < n → b.inn.getD j false = (decide (j < k) && t.getD j false)
  mv : ∀ j, j < k → b.mv.getD j 0 = if t.getD j false then 0 else -1
  lf : ∀ j, j < k → b.lf.getD j 0 = ((g.succ.getD j []).length : Int)
  nd : b.q.Nodup
  q : ∀ x, x ∈ b.q ↔ ∃ j : Nat, j < k ∧ x = j ∧ t.getD j false = true
  bf : ∀ u, u < n → ∀ v : Nat, (b.bf.getD u []).count (v : Int) = if v < k then (g.succ.getD v []).count (u : Int) else 0
  bm : ∀ u, u < n → ∀ x ∈ b.bf.getD u [], ∃ v : Nat, v < k ∧ x = v

theorem begSt_is (g : Gm) (t : List Bool) (n : Nat) (hg : ∀ i, i < n → ∀ x ∈ g.succ.getD i [], 0 ≤ x ∧ x < n) (hS : ∀ i, (g.succ.getD i []).length ≤ 1000) (k : Nat) (hk : k ≤ n) : BegOK g t n k (begSt g t n k) := by
  induction k with
  | zero =>
    refine ⟨fun j hj => by simp [begSt, List.getD, hj], fun j hj => by omega, fun j hj => by omega, by simp [begSt], fun x => by simp [begSt], fun u hu v => by simp [begSt, List.getD, hu], fun u hu x hx => by simp [begSt, List.getD, hu] at hx⟩
  | succ k ih =>
    have h := ih (by omega)
    have hok := (begSt_ok g t n hS k (by omega)).1
    have hl1 : (begSt g t n k).inn.length = n := hok.li
    have hl2 : (begSt g t n k).mv.length = n := hok.lm
    have hl3 : (begSt g t n k).lf.length = n := hok.ll
    have hl4 : (begSt g t n k).bf.length = n := (begSt_len g t n k).2
    have hbf : ∀ u, u < n → ∀ v : Nat, ((pushAll (begSt g t n k).bf k (g.succ.getD k [])).getD u []).count (v : Int) = if v < k + 1 then (g.succ.getD v []).count (u : Int) else 0 := fun u hu v => by
      rw [pushAll_count _ _ _ _ (by omega) _ (by rw [hl4]; exact hg k (by omega)), h.bf u hu v]
      by_cases e : v = k
      · subst e; simp
      · have : ¬ ((v : Int) = k) := by omega
        by_cases e2 : v < k
        · simp [this, e2, show v < k + 1 from by omega]
        · simp [this, e2, show ¬ v < k + 1 from by omega]
    have hbm : ∀ u, u < n → ∀ x ∈ (pushAll (begSt g t n k).bf k (g.succ.getD k [])).getD u [], ∃ v : Nat, v < k + 1 ∧ x = v := fun u hu x hx => by
      rcases pushAll_mem hx with h1 | h1
      · obtain ⟨v, hv, e⟩ := h.bm u hu x h1; exact ⟨v, by omega, e⟩
      · exact ⟨k, by omega, h1⟩
    have hlf : ∀ j, j < k + 1 → ((begSt g t n k).lf.set k ((g.succ.getD k []).length : Int)).getD j 0 = ((g.succ.getD j []).length : Int) := fun j hj => by
      by_cases e : k = j
      · subst e; rw [getD_set_eq _ _ _ _ (by omega)]
      · rw [getD_set_ne _ _ _ _ _ e]; exact h.lf j (by omega)
    simp only [begSt]
    cases ht : t.getD k false
    · simp only [Bool.false_eq_true, if_false]
      refine ⟨fun j hj => ?_, fun j hj => ?_, hlf, h.nd, fun x => ?_, hbf, hbm⟩
      · simp only [h.inn j hj]
        by_cases e : j = k
        · subst e; rw [ht]; simp
        · by_cases e2 : j < k
          · simp [e2, show j < k + 1 from by omega]
          · simp [e2, show ¬ j < k + 1 from by omega]
      · by_cases e : k = j
        · subst e; simp only; rw [getD_set_eq _ _ _ _ (by omega), ht]; rfl
        · simp only; rw [getD_set_ne _ _ _ _ _ e]; exact h.mv j (by omega)
      · simp only; rw [h.q x]
        constructor
        · rintro ⟨j, hj, e, h1⟩; exact ⟨j, by omega, e, h1⟩
        · rintro ⟨j, hj, e, h1⟩
          have : j ≠ k := by rintro rfl; rw [ht] at h1; cases h1
          exact ⟨j, by omega, e, h1⟩
    · simp only [if_true]
      refine ⟨fun j hj => ?_, fun j hj => ?_, hlf, ?_, fun x => ?_, hbf, hbm⟩
      · simp only
        by_cases e : k = j
        · subst e; rw [getD_set_eq _ _ _ _ (by omega), ht]; simp
        · rw [getD_set_ne _ _ _ _ _ e, h.inn j hj]
          by_cases e2 : j < k
          · simp [e2, show j < k + 1 from by omega]
          · simp [e2, show ¬ j < k + 1 from by omega]
      · simp only
        by_cases e : k = j
        · subst e; rw [getD_set_eq _ _ _ _ (by simp; omega), ht]; rfl
        · rw [getD_set_ne _ _ _ _ _ e, getD_set_ne _ _ _ _ _ e]; exact h.mv j (by omega)
      · simp only
        rw [List.nodup_append]
        refine ⟨h.nd, by simp, ?_⟩
        intro a ha b hb
        obtain ⟨j, hj, e, _⟩ := (h.q a).1 ha
        rw [List.mem_singleton.1 hb, e]
        omega
      · simp only
        rw [List.mem_append, h.q x, List.mem_singleton]
        constructor
        · rintro (⟨j, hj, e, h1⟩ | e)
          · exact ⟨j, by omega, e, h1⟩
          · exact ⟨k, by omega, e, ht⟩
        · rintro ⟨j, hj, e, h1⟩
          by_cases e2 : j = k
          · subst e2; exact .inr e
          · exact .inl ⟨j, by omega, e, h1⟩

end Go.Proofs.Ytjhafakkadnfmaa
