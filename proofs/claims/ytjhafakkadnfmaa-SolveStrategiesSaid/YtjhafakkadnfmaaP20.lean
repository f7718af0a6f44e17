/- What is closed: the reference's rounds and the complement of an attractor are the same set. -/
import Derived.Test.YtjhafakkadnfmaaP19
import Derived.Test.YtjhafakkadnfmaaC16
namespace Go.Proofs.Ytjhafakkadnfmaa

section
variable {g : Gm} {p : Int}

theorem atB_eq (l : List Bool) (x : Int) : atB l x = l.getD x.toNat false := rfl

/-- Who can stay in a smaller set can stay in a larger one. -/
theorem canB_mono {s s' : List Bool} {i : Nat} (h : ∀ x ∈ g.succ.getD i [], atB s x = true → atB s' x = true) (hc : canB g p s i = true) : canB g p s' i = true := by
  unfold canB at *
  by_cases ho : g.owner.getD i 0 = p
  · rw [if_pos ho] at hc ⊢
    obtain ⟨x, hx, hxa⟩ := List.any_eq_true.1 hc
    exact List.any_eq_true.2 ⟨x, hx, h x hx hxa⟩
  · rw [if_neg ho, List.all_eq_true] at hc ⊢
    exact fun x hx => h x hx (hc x hx)

theorem clStep_get (s : List Bool) (i j : Nat) : (clStep g p s i).getD j false = (s.getD j false && !(decide (i = j) && s.getD i false && !canB g p s i)) := by
  unfold clStep
  by_cases e : i = j
  · subst e
    cases hs : s.getD i false
    · simp only [Bool.false_and, Bool.false_eq_true, if_false]; exact hs
    · cases hc : canB g p s i
      · simp only [Bool.not_false, Bool.and_self, if_true, decide_true, Bool.not_true, Bool.and_false]
        have hl : i < s.length := by
          rcases Nat.lt_or_ge i s.length with h | h
          · exact h
          · simp [List.getD, Nat.not_lt.2 h] at hs
        rw [getD_set_eq _ _ _ _ hl]
      · simp only [Bool.not_true, Bool.and_false, Bool.false_eq_true, if_false, Bool.not_false, Bool.and_true]; exact hs
  · split
    · rw [getD_set_ne _ _ _ _ _ e]; simp [e]
    · simp [e]

theorem clStep_sub {s : List Bool} {i j : Nat} (h : (clStep g p s i).getD j false = true) : s.getD j false = true := by
  rw [clStep_get] at h
  exact (Bool.and_eq_true_iff.1 h).1

theorem clUpto_sub {s : List Bool} {k j : Nat} (h : (clUpto g p s k).getD j false = true) : s.getD j false = true := by
  induction k with
  | zero => exact h
  | succ k ih => exact ih (clStep_sub h)

theorem clRounds_sub {s : List Bool} {n j : Nat} (h : (clRounds g p s n).getD j false = true) : s.getD j false = true := by
  induction n with
  | zero => exact h
  | succ n ih => exact ih (clUpto_sub h)

theorem ext_getD {a b : List Bool} (hl : a.length = b.length) (h : ∀ j, j < a.length → a.getD j false = b.getD j false) : a = b := by
  apply List.ext_getElem hl
  intro i h1 h2
  have := h i h1
  rwa [getD_lt _ _ _ h1, getD_lt _ _ _ h2] at this

/-- A step that takes something away makes the set smaller. -/
theorem clStep_count (s : List Bool) (i : Nat) : clStep g p s i = s ∨ (clStep g p s i).count true + 1 = s.count true := by
  unfold clStep
  split
  · rename_i h
    right
    obtain ⟨h1, _⟩ := Bool.and_eq_true_iff.1 h
    have hl : i < s.length := by
      rcases Nat.lt_or_ge i s.length with h | h
      · exact h
      · simp [List.getD, Nat.not_lt.2 h] at h1
    rw [getD_lt _ _ _ hl] at h1
    have hpos : 0 < s.count true := List.count_pos_iff.2 (h1 ▸ List.getElem_mem hl)
    rw [List.count_set hl]
    simp [h1]; omega
  · exact .inl rfl

theorem clUpto_count (s : List Bool) (k : Nat) : (clUpto g p s k).count true ≤ s.count true ∧ ((clUpto g p s k).count true = s.count true → clUpto g p s k = s) := by
  induction k with
  | zero => exact ⟨Nat.le_refl _, fun _ => rfl⟩
  | succ k ih =>
    rw [clUpto]
    rcases clStep_count (g := g) (p := p) (clUpto g p s k) k with h | h
    · rw [h]; exact ih
    · refine ⟨by omega, fun e => ?_⟩
      have := ih.1; omega

/-- A round that changes nothing: everyone can stay. -/
theorem clUpto_stays {s : List Bool} (h : clUpto g p s s.length = s) (i : Nat) (hi : i < s.length) (hs : s.getD i false = true) : canB g p s i = true := by
  have key : ∀ k, k ≤ s.length → clUpto g p s k = s := by
    intro k hk
    have h1 : ∀ m, (clUpto g p s (k + m)).count true ≤ (clUpto g p s k).count true := by
      intro m
      induction m with
      | zero => exact Nat.le_refl _
      | succ m ih =>
        rw [← Nat.add_assoc, clUpto]
        rcases clStep_count (g := g) (p := p) (clUpto g p s (k + m)) (k + m) with e | e
        · rw [e]; exact ih
        · omega
    have h2 := h1 (s.length - k)
    rw [show k + (s.length - k) = s.length from by omega, h] at h2
    have h3 := clUpto_count (g := g) (p := p) s k
    exact h3.2 (by omega)
  have h1 := key i (by omega)
  have h2 := key (i + 1) (by omega)
  rw [clUpto, h1] at h2
  cases hc : canB g p s i
  · exfalso
    have h3 := clStep_get (g := g) (p := p) s i i
    rw [h2, hs, hc] at h3
    simp at h3
  · rfl

theorem clRounds_fix (s : List Bool) (n : Nat) (h : clUpto g p (clRounds g p s n) s.length = clRounds g p s n) (m : Nat) : clRounds g p s (n + m) = clRounds g p s n := by
  induction m with
  | zero => rfl
  | succ m ih => rw [← Nat.add_assoc, clRounds, ih, h]

theorem clRounds_count (s : List Bool) (n : Nat) : (∃ m, m ≤ n ∧ clUpto g p (clRounds g p s m) s.length = clRounds g p s m) ∨ (clRounds g p s (n + 1)).count true + (n + 1) ≤ s.count true := by
  induction n with
  | zero =>
    have h := clUpto_count (g := g) (p := p) s s.length
    by_cases e : (clUpto g p s s.length).count true = s.count true
    · exact .inl ⟨0, Nat.le_refl _, h.2 e⟩
    · right
      show (clUpto g p s s.length).count true + 1 ≤ _
      have := h.1; omega
  | succ n ih =>
    rcases ih with ⟨m, hm, h⟩ | h
    · exact .inl ⟨m, by omega, h⟩
    · have h2 := clUpto_count (g := g) (p := p) (clRounds g p s (n + 1)) s.length
      by_cases e : (clUpto g p (clRounds g p s (n + 1)) s.length).count true = (clRounds g p s (n + 1)).count true
      · exact .inl ⟨n + 1, Nat.le_refl _, h2.2 e⟩
      · right
        rw [clRounds]
        have := h2.1; omega

/-- In the end everyone can stay. -/
theorem closedL_stays (s : List Bool) (i : Nat) (hs : (closedL g p s).getD i false = true) : canB g p (closedL g p s) i = true := by
  have hl : (closedL g p s).length = s.length := clRounds_len _ _ _ _
  have hi : i < s.length := by
    rw [← hl]
    rcases Nat.lt_or_ge i (closedL g p s).length with h | h
    · exact h
    · simp [List.getD, Nat.not_lt.2 h] at hs
  have hfix : clUpto g p (closedL g p s) s.length = closedL g p s := by
    rcases clRounds_count (g := g) (p := p) s s.length with ⟨m, hm, h⟩ | h
    · have := clRounds_fix s m h (s.length + 1 - m)
      rw [show m + (s.length + 1 - m) = s.length + 1 from by omega] at this
      unfold closedL
      rw [this]; exact h
    · have : s.count true ≤ s.length := List.count_le_length
      omega
  rw [← hl] at hfix hi
  exact clUpto_stays hfix i hi hs

/-- What can stay in itself is never taken away. -/
theorem clRounds_keeps (s c : List Bool) (hsub : ∀ x : Nat, c.getD x false = true → s.getD x false = true) (hst : ∀ i, c.getD i false = true → canB g p c i = true) (n : Nat) :
    ∀ x : Nat, c.getD x false = true → (clRounds g p s n).getD x false = true := by
  have step : ∀ (s : List Bool) (i : Nat), (∀ x : Nat, c.getD x false = true → s.getD x false = true) → ∀ x : Nat, c.getD x false = true → (clStep g p s i).getD x false = true := fun s i h x hx => by
    rw [clStep_get, h x hx]
    by_cases e : i = x
    · subst e
      have := canB_mono (g := g) (p := p) (s' := s) (fun y _ hy => h _ hy) (hst i hx)
      simp [this]
    · simp [e]
  have upto : ∀ (s : List Bool) (k : Nat), (∀ x : Nat, c.getD x false = true → s.getD x false = true) → ∀ x : Nat, c.getD x false = true → (clUpto g p s k).getD x false = true := fun s k h => by
    induction k with
    | zero => exact h
    | succ k ih => exact step _ _ ih
  induction n with
  | zero => exact hsub
  | succ n ih => exact upto _ _ ih

theorem notL_get (l : List Bool) (i : Nat) (h : i < l.length) : (notL l).getD i false = !l.getD i false := by
  rw [getD_lt _ _ _ (by simpa [notL] using h), getD_lt _ _ _ h]; simp [notL]

/-- Both closed sets are the same. -/
theorem closed_eq (s : List Bool) (hp : p = 0 ∨ p = 1) (how : ∀ i, i < s.length → g.owner.getD i 0 = 0 ∨ g.owner.getD i 0 = 1) (hg : ∀ i, i < s.length → ∀ x ∈ g.succ.getD i [], 0 ≤ x ∧ x < s.length) (hne : ∀ i, i < s.length → g.succ.getD i [] ≠ [])
    (hS : ∀ i, (g.succ.getD i []).length ≤ 1000) : closedQ g p s = closedL g p s := by
  have hln : (notL s).length = s.length := by simp [notL]
  obtain ⟨h, N, hok⟩ := attQ_inv g (1 - p) (notL s) (by rw [hln]; exact hg) (by rw [hln]; exact hne) hS
  have hr := rounds_are h (by rw [hln]; exact hg)
  rw [hln] at hr
  have hli := hok.li
  have hin : ∀ i, i < s.length → ((attQ g (1 - p) (notL s)).inn.getD i false = true ↔ (i : Int) ∈ (attQ g (1 - p) (notL s)).q) := fun i hi => h.iq i (by rw [hln]; exact hi)
  have hcl : (closedQ g p s).length = s.length := by unfold closedQ; simp only [notL, List.length_map]; rw [show (attQ g (1 - p) (List.map (fun b => !b) s)).inn.length = s.length from by rw [← hln]; exact hli]
  have hll : (closedL g p s).length = s.length := clRounds_len _ _ _ _
  -- the complement
  have hC : ∀ i, i < s.length → ((closedQ g p s).getD i false = true ↔ (i : Int) ∉ (attQ g (1 - p) (notL s)).q) := fun i hi => by
    unfold closedQ
    rw [notL_get _ _ (by rw [hli, hln]; exact hi)]
    rw [Bool.not_eq_true', ← Bool.not_eq_true, hin i hi]
  have hCl : ∀ i, (closedQ g p s).getD i false = true → i < s.length := fun i hi => by
    rw [← hcl]
    rcases Nat.lt_or_ge i (closedQ g p s).length with h | h
    · exact h
    · simp [List.getD, Nat.not_lt.2 h] at hi
  have hLl : ∀ i, (closedL g p s).getD i false = true → i < s.length := fun i hi => by
    rw [← hll]
    rcases Nat.lt_or_ge i (closedL g p s).length with h | h
    · exact h
    · simp [List.getD, Nat.not_lt.2 h] at hi
  have hCx : ∀ x : Int, 0 ≤ x → x < s.length → (atB (closedQ g p s) x = true ↔ x ∉ (attQ g (1 - p) (notL s)).q) := fun x h0 h1 => by
    have := hC x.toNat (by omega)
    rw [Int.toNat_of_nonneg h0] at this
    exact this
  apply ext_getD (by rw [hcl, hll])
  intro i hi
  rw [hcl] at hi
  rw [Bool.eq_iff_iff]
  constructor
  · -- the complement stays in itself, and is part of s
    refine clRounds_keeps s (closedQ g p s) (fun x hx => ?_) (fun i hi => ?_) _ i
    · have hxl := hCl x hx
      have h1 := (hC x hxl).1 hx
      have h2 := h.tg x (by rw [hln]; exact hxl)
      rw [notL_get _ _ hxl] at h2
      cases hs : s.getD x false
      · rw [hs] at h2
        exact absurd (h2.1 rfl).1 h1
      · rfl
    · have hil := hCl i hi
      have h1 := (hC i hil).1 hi
      unfold canB
      by_cases ho : g.owner.getD i 0 = p
      · rw [if_pos ho]
        have hno : g.owner.getD i 0 ≠ 1 - p := by omega
        have h2 := h.ot i (by rw [hln]; exact hil) h1 hno
        rw [h.lf i (by rw [hln]; exact hil)] at h2
        simp only [List.count_nil, List.take_length, ne_eq] at h2
        have h3 : (g.succ.getD i []).filter (fun x => decide (x ∉ (attQ g (1 - p) (notL s)).q)) ≠ [] := fun e => h2 (by
          have : (Int.ofNat ((g.succ.getD i []).filter (fun x => decide (x ∉ (attQ g (1 - p) (notL s)).q))).length) = 0 := by rw [e]; rfl
          simpa using this)
        obtain ⟨x, hx⟩ := List.exists_mem_of_ne_nil _ h3
        obtain ⟨hx1, hx2⟩ := List.mem_filter.1 hx
        have hxr := hg i hil x hx1
        exact List.any_eq_true.2 ⟨x, hx1, (hCx x hxr.1 hxr.2).2 (by simpa using hx2)⟩
      · rw [if_neg ho]
        have hyes : g.owner.getD i 0 = 1 - p := by have := how i hil; omega
        have h2 := (h.ow i (by rw [hln]; exact hil) h1 hyes).1
        rw [List.take_length] at h2
        rw [List.all_eq_true]
        intro x hx
        have hxr := hg i hil x hx
        exact (hCx x hxr.1 hxr.2).2 (h2 x hx)
  · -- what the reference keeps is never attracted
    intro hL
    have key : ∀ K, ∀ j, j < s.length → (closedL g p s).getD j false = true → (rnd g (1 - p) (notL s) K).1.getD j false = false := by
      intro K
      induction K with
      | zero =>
        intro j hj hc
        show (notL s).getD j false = false
        rw [notL_get _ _ hj, clRounds_sub hc]; rfl
      | succ K ih =>
        intro j hj hc
        have hl1 := (rnd_len g (1 - p) (notL s) K).1
        rw [hln] at hl1
        rw [rnd]; simp only
        rw [rnIn_get _ _ _ _ _ (by omega), ih j hj hc]
        simp only [Bool.false_or, Bool.and_eq_false_iff]
        right
        unfold newB
        rw [ih j hj hc]
        simp only [Bool.not_false, Bool.true_and]
        have hst := closedL_stays s j hc
        cases hcan : canB g (1 - p) (rnd g (1 - p) (notL s) K).1 j
        · rfl
        · exfalso
          have hgj := hg j hj
          have hdis : ∀ x ∈ g.succ.getD j [], atB (closedL g p s) x = true → atB (rnd g (1 - p) (notL s) K).1 x = false := fun x hx hxa => ih x.toNat (by have := hgj x hx; omega) hxa
          unfold canB at hst hcan
          by_cases ho : g.owner.getD j 0 = p
          · rw [if_pos ho] at hst
            rw [if_neg (by omega), List.all_eq_true] at hcan
            obtain ⟨x, hx, hxa⟩ := List.any_eq_true.1 hst
            have h1 := hdis x hx hxa
            rw [hcan x hx] at h1; cases h1
          · rw [if_neg ho, List.all_eq_true] at hst
            rw [if_pos (by have := how j hj; omega)] at hcan
            obtain ⟨x, hx, hxa⟩ := List.any_eq_true.1 hcan
            have h1 := hdis x hx (hst x hx)
            rw [hxa] at h1; cases h1
    rw [hC i hi]
    intro hq
    obtain ⟨j, hj, e⟩ := mem_getD hq
    have hk := (hr ((attQ g (1 - p) (notL s)).at i).toNat i hi).1.2 ⟨hq, by
      have : 0 ≤ (attQ g (1 - p) (notL s)).at i := by rw [← e]; exact (h.mj j hj).1
      omega⟩
    rw [key _ i hi hL] at hk
    cases hk
end

end Go.Proofs.Ytjhafakkadnfmaa
