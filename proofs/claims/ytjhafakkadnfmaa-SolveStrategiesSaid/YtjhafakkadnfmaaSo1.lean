/- Parity games: dominions by strategies without memory, and what the steps of the recursive algorithm make of them. -/
import Derived.Test.YtjhafakkadnfmaaBase
namespace Go.Proofs.Ytjhafakkadnfmaa

/-- One step or more. -/
inductive Plus (r : Nat → Nat → Prop) : Nat → Nat → Prop
  | one {a b : Nat} : r a b → Plus r a b
  | more {a b c : Nat} : r a b → Plus r b c → Plus r a c

section
variable {r s : Nat → Nat → Prop}
theorem Plus.trans {a b c : Nat} (h : Plus r a b) (k : Plus r b c) : Plus r a c := by
  induction h with
  | one h => exact .more h k
  | more h _ ih => exact .more h (ih k)
theorem Plus.mono (h : ∀ a b, r a b → s a b) {a b : Nat} (k : Plus r a b) : Plus s a b := by
  induction k with
  | one k => exact .one (h _ _ k)
  | more k _ ih => exact .more (h _ _ k) ih
/-- A set that is not left. -/
theorem Plus.keep {I : Nat → Prop} (hI : ∀ a b, r a b → I a → I b) {a b : Nat} (k : Plus r a b) (ha : I a) : Plus (fun a b => r a b ∧ I a ∧ I b) a b ∧ I b := by
  induction k with
  | one k => exact ⟨.one ⟨k, ha, hI _ _ k ha⟩, hI _ _ k ha⟩
  | more k _ ih =>
    have hb := hI _ _ k ha
    exact ⟨.more ⟨k, ha, hb⟩ (ih hb).1, (ih hb).2⟩
theorem Plus.keepBack {I : Nat → Prop} (hI : ∀ a b, r a b → I a → I b) {a b : Nat} (k : Plus r a b) (hb : ¬ I b) : Plus (fun a b => r a b ∧ ¬ I a ∧ ¬ I b) a b ∧ ¬ I a := by
  induction k with
  | one k => exact ⟨.one ⟨k, fun h => hb (hI _ _ k h), hb⟩, fun h => hb (hI _ _ k h)⟩
  | more k _ ih =>
    obtain ⟨h1, h2⟩ := ih hb
    exact ⟨.more ⟨k, fun h => h2 (hI _ _ k h), h2⟩ h1, fun h => h2 (hI _ _ k h)⟩
theorem Plus.falls {J : Nat → Prop} {ρ : Nat → Nat} (h : ∀ a b, r a b → J a → J b ∧ ρ b < ρ a) {a b : Nat} (k : Plus r a b) (ha : J a) : ρ b < ρ a := by
  induction k with
  | one k => exact (h _ _ k ha).2
  | more k _ ih =>
    obtain ⟨h1, h2⟩ := h _ _ k ha
    have := ih h1
    omega
/-- A set that is not left, and that is reached unless numbers fall. -/
theorem Plus.rank {I : Nat → Prop} {ρ : Nat → Nat} (h1 : ∀ a b, r a b → I a → I b) (h2 : ∀ a b, r a b → ¬ I a → I b ∨ ρ b < ρ a) {a b : Nat} (k : Plus r a b) : I b ∨ (¬ I a ∧ ρ b < ρ a) := by
  induction k with
  | @one a b k =>
    by_cases ha : I a
    · exact .inl (h1 _ _ k ha)
    · rcases h2 _ _ k ha with h | h
      · exact .inl h
      · exact .inr ⟨ha, h⟩
  | @more a b c k _ ih =>
    rcases ih with h | ⟨hb, h⟩
    · exact .inl h
    · by_cases ha : I a
      · exact absurd (h1 _ _ k ha) hb
      · rcases h2 _ _ k ha with h' | h'
        · exact absurd h' hb
        · exact .inr ⟨ha, by omega⟩
end

def own (g : Gm) (i : Nat) : Int := g.owner.getD i 0
def pri (g : Gm) (i : Nat) : Int := g.prio.getD i 0
def Edge (g : Gm) (i j : Nat) : Prop := (j : Int) ∈ g.succ.getD i []
/-- The priority k, if it is the least one, is lost for p. -/
def Lost (p k : Int) : Prop := k % 2 ≠ p
/-- A move of a play with the strategy σ of p within D, at priorities of at least k. -/
def Step (g : Gm) (p : Int) (D : Nat → Prop) (σ : Nat → Nat) (k : Int) (u v : Nat) : Prop := D u ∧ D v ∧ Edge g u v ∧ k ≤ pri g u ∧ k ≤ pri g v ∧ (own g u = p → v = σ u)

/-- p wins everywhere in D with σ, in the game of the positions S. -/
structure WinsBy (g : Gm) (p : Int) (S D : Nat → Prop) (σ : Nat → Nat) : Prop where
  sub : ∀ i, D i → S i
  mine : ∀ i, D i → own g i = p → Edge g i (σ i) ∧ D (σ i)
  other : ∀ i, D i → own g i ≠ p → ∀ j, Edge g i j → S j → D j
  free : ∀ v, D v → Lost p (pri g v) → ¬ Plus (Step g p D σ (pri g v)) v v
/-- A dominion. -/
def Dom (g : Gm) (p : Int) (S D : Nat → Prop) : Prop := ∃ σ, WinsBy g p S D σ

section
variable {g : Gm} {p q : Int} {S R I D D' F T A W L : Nat → Prop} {σ τ : Nat → Nat}

theorem Dom.none (g : Gm) (p : Int) (S : Nat → Prop) : Dom g p S (fun _ => False) := ⟨fun i => i, fun _ h => h.elim, fun _ h => h.elim, fun _ h => h.elim, fun _ h => h.elim⟩
theorem Dom.congr (h : Dom g p S D) (e : ∀ i, D i ↔ D' i) : Dom g p S D' := by
  have : D = D' := funext fun i => propext (e i)
  rw [← this]; exact h
theorem Dom.congrS (h : Dom g p S D) (e : ∀ i, S i ↔ R i) : Dom g p R D := by
  have : S = R := funext fun i => propext (e i)
  rw [← this]; exact h

open Classical in
/-- What is attracted to a dominion is one. -/
theorem WinsBy.attract (h : WinsBy g p S D σ) (ρ : Nat → Nat) (hsub : ∀ i, D i → D' i) (hS : ∀ i, D' i → S i)
    (hm : ∀ i, D' i → ¬ D i → own g i = p → ∃ j, Edge g i j ∧ D' j ∧ (D j ∨ ρ j < ρ i)) (ho : ∀ i, D' i → ¬ D i → own g i ≠ p → ∀ j, Edge g i j → S j → D' j ∧ (D j ∨ ρ j < ρ i)) : Dom g p S D' := by
  have hc : ∀ i, ∃ j, D' i → ¬ D i → own g i = p → Edge g i j ∧ D' j ∧ (D j ∨ ρ j < ρ i) := fun i => by
    by_cases h1 : D' i ∧ ¬ D i ∧ own g i = p
    · obtain ⟨j, hj⟩ := hm i h1.1 h1.2.1 h1.2.2
      exact ⟨j, fun _ _ _ => hj⟩
    · exact ⟨0, fun a b c => absurd ⟨a, b, c⟩ h1⟩
  obtain ⟨τ, hτ⟩ := Classical.axiomOfChoice hc
  refine ⟨fun i => if D i then σ i else τ i, hS, fun i hi hp => ?_, fun i hi hp j he hj => ?_, fun v hv hl hP => ?_⟩
  · by_cases hd : D i
    · simp only [if_pos hd]
      obtain ⟨h1, h2⟩ := h.mine i hd hp
      exact ⟨h1, hsub _ h2⟩
    · simp only [if_neg hd]
      exact ⟨(hτ i hi hd hp).1, (hτ i hi hd hp).2.1⟩
  · by_cases hd : D i
    · exact hsub _ (h.other i hd hp j he hj)
    · exact (ho i hi hd hp j he hj).1
  · have h1 : ∀ a b, Step g p D' (fun i => if D i then σ i else τ i) (pri g v) a b → D a → D b := fun a b ⟨_, hb, he, _, _, hs⟩ hd => by
      by_cases hp : own g a = p
      · have := hs hp
        simp only [if_pos hd] at this
        rw [this]; exact (h.mine a hd hp).2
      · exact h.other a hd hp b he (hS b hb)
    have h2 : ∀ a b, Step g p D' (fun i => if D i then σ i else τ i) (pri g v) a b → ¬ D a → D b ∨ ρ b < ρ a := fun a b ⟨ha, hb, he, _, _, hs⟩ hd => by
      by_cases hp : own g a = p
      · have := hs hp
        simp only [if_neg hd] at this
        rw [this]; exact (hτ a ha hd hp).2.2
      · exact (ho a ha hd hp b he (hS b hb)).2
    have hdv : D v := by
      rcases hP.rank h1 h2 with h | ⟨_, h⟩
      · exact h
      · omega
    refine h.free v hdv hl ((hP.keep h1 hdv).1.mono fun a b ⟨⟨_, _, he, k1, k2, hs⟩, ha, hb⟩ => ⟨ha, hb, he, k1, k2, fun hp => ?_⟩)
    have := hs hp
    simpa only [if_pos ha] using this

open Classical in
/-- The whole game, if p wins everywhere outside of what it attracts to its best positions. -/
theorem WinsBy.all (h : WinsBy g p I I σ) (ρ : Nat → Nat) (hI : ∀ i, I i → S i) (low : ∀ t, T t → ∀ v, S v → Lost p (pri g v) → pri g t < pri g v)
    (total : ∀ i, S i → ∃ j, Edge g i j ∧ S j) (hm : ∀ i, S i → ¬ I i → ¬ T i → own g i = p → ∃ j, Edge g i j ∧ S j ∧ ¬ I j ∧ (T j ∨ ρ j < ρ i))
    (ho : ∀ i, S i → ¬ I i → ¬ T i → own g i ≠ p → ∀ j, Edge g i j → S j → ¬ I j ∧ (T j ∨ ρ j < ρ i)) : Dom g p S S := by
  have hc : ∀ i, ∃ j, (S i → ¬ I i → ¬ T i → own g i = p → Edge g i j ∧ S j ∧ ¬ I j ∧ (T j ∨ ρ j < ρ i)) ∧ (S i → T i → Edge g i j ∧ S j) := fun i => by
    by_cases h1 : S i ∧ ¬ I i ∧ ¬ T i ∧ own g i = p
    · obtain ⟨j, hj⟩ := hm i h1.1 h1.2.1 h1.2.2.1 h1.2.2.2
      exact ⟨j, fun _ _ _ _ => hj, fun _ ht => absurd ht h1.2.2.1⟩
    · by_cases h2 : S i
      · obtain ⟨j, hj⟩ := total i h2
        exact ⟨j, fun a b c d => absurd ⟨a, b, c, d⟩ h1, fun _ _ => hj⟩
      · exact ⟨0, fun a => absurd a h2, fun a => absurd a h2⟩
  obtain ⟨τ, hτ⟩ := Classical.axiomOfChoice hc
  refine ⟨fun i => if I i then σ i else τ i, fun _ h => h, fun i hi hp => ?_, fun i _ _ j _ hj => hj, fun v hv hl hP => ?_⟩
  · by_cases hd : I i
    · simp only [if_pos hd]
      obtain ⟨h1, h2⟩ := h.mine i hd hp
      exact ⟨h1, hI _ h2⟩
    · simp only [if_neg hd]
      by_cases ht : T i
      · exact (hτ i).2 hi ht
      · obtain ⟨h1, h2, -⟩ := (hτ i).1 hi hd ht hp
        exact ⟨h1, h2⟩
  · have nt : ∀ a, S a → pri g v ≤ pri g a → ¬ T a := fun a ha hk ht => by have := low a ht v hv hl; omega
    have h1 : ∀ a b, Step g p S (fun i => if I i then σ i else τ i) (pri g v) a b → ¬ I a → ¬ I b ∧ ρ b < ρ a := fun a b ⟨ha, hb, he, k1, k2, hs⟩ hd => by
      have hta := nt a ha k1
      have htb := nt b hb k2
      by_cases hp : own g a = p
      · have e := hs hp
        simp only [if_neg hd] at e
        obtain ⟨-, -, h3, h4⟩ := (hτ a).1 ha hd hta hp
        rw [← e] at h3 h4
        exact ⟨h3, h4.resolve_left htb⟩
      · obtain ⟨h3, h4⟩ := ho a ha hd hta hp b he hb
        exact ⟨h3, h4.resolve_left htb⟩
    by_cases hIv : I v
    · obtain ⟨h2, -⟩ := hP.keepBack (I := fun i => ¬ I i) (fun a b hs ha => (h1 a b hs ha).1) (fun hn => hn hIv)
      refine h.free v hIv hl (h2.mono fun a b ⟨⟨_, _, he, k1, k2, hs⟩, ha, hb⟩ => ?_)
      have ha := Classical.not_not.1 ha
      have hb := Classical.not_not.1 hb
      refine ⟨ha, hb, he, k1, k2, fun hp => ?_⟩
      have := hs hp
      simpa only [if_pos ha] using this
    · have := hP.falls (J := fun i => ¬ I i) h1 hIv
      omega

/-- A dominion of a part that the other one cannot leave is one of the game. -/
theorem WinsBy.lift (h : WinsBy g q I L σ) (hIS : ∀ i, I i → S i) (trap : ∀ i, I i → own g i ≠ q → ∀ j, Edge g i j → S j → I j) : WinsBy g q S L σ :=
  ⟨fun i hi => hIS i (h.sub i hi), h.mine, fun i hi hp j he hj => h.other i hi hp j he (trap i (h.sub i hi) hp j he hj), h.free⟩

open Classical in
/-- A dominion, and one of the game without it. -/
theorem WinsBy.union (hF : WinsBy g q S F σ) (hW : WinsBy g q R W τ) (hR : ∀ i, R i ↔ S i ∧ ¬ F i) : Dom g q S (fun i => F i ∨ W i) := by
  refine ⟨fun i => if F i then σ i else τ i, fun i hi => hi.elim (hF.sub i) fun h => ((hR i).1 (hW.sub i h)).1, fun i hi hp => ?_, fun i hi hp j he hj => ?_, fun v hv hl hP => ?_⟩
  · by_cases hd : F i
    · simp only [if_pos hd]
      exact ⟨(hF.mine i hd hp).1, .inl (hF.mine i hd hp).2⟩
    · simp only [if_neg hd]
      have hw := hi.resolve_left hd
      exact ⟨(hW.mine i hw hp).1, .inr (hW.mine i hw hp).2⟩
  · by_cases hd : F i
    · exact .inl (hF.other i hd hp j he hj)
    · by_cases hj2 : F j
      · exact .inl hj2
      · exact .inr (hW.other i (hi.resolve_left hd) hp j he ((hR j).2 ⟨hj, hj2⟩))
  · have hS : ∀ i, F i ∨ W i → S i := fun i hi => hi.elim (hF.sub i) fun h => ((hR i).1 (hW.sub i h)).1
    have h1 : ∀ a b, Step g q (fun i => F i ∨ W i) (fun i => if F i then σ i else τ i) (pri g v) a b → F a → F b := fun a b ⟨_, hb, he, _, _, hs⟩ hd => by
      by_cases hp : own g a = q
      · have := hs hp
        simp only [if_pos hd] at this
        rw [this]; exact (hF.mine a hd hp).2
      · exact hF.other a hd hp b he (hS b hb)
    by_cases hd : F v
    · refine hF.free v hd hl ((hP.keep h1 hd).1.mono fun a b ⟨⟨_, _, he, k1, k2, hs⟩, ha, hb⟩ => ⟨ha, hb, he, k1, k2, fun hp => ?_⟩)
      have := hs hp
      simpa only [if_pos ha] using this
    · refine hW.free v (hv.resolve_left hd) hl ((hP.keepBack h1 hd).1.mono fun a b ⟨⟨a1, b1, he, k1, k2, hs⟩, ha, hb⟩ => ⟨a1.resolve_left ha, b1.resolve_left hb, he, k1, k2, fun hp => ?_⟩)
      have := hs hp
      simpa only [if_neg ha] using this

end

/-- Among n + 1 values below n two are equal. -/
theorem pigeon : ∀ (n : Nat) (f : Nat → Nat), (∀ i, i ≤ n → f i < n) → ∃ i j, i < j ∧ j ≤ n ∧ f i = f j
  | 0, f, h => absurd (h 0 (Nat.le_refl _)) (by omega)
  | n + 1, f, h => by
    by_cases hr : ∃ i, i ≤ n ∧ f i = f (n + 1)
    · obtain ⟨i, hi, e⟩ := hr
      exact ⟨i, n + 1, by omega, Nat.le_refl _, e⟩
    · have hne : ∀ i, i ≤ n → f i ≠ f (n + 1) := fun i hi e => hr ⟨i, hi, e⟩
      have hl := h (n + 1) (Nat.le_refl _)
      obtain ⟨i, j, h1, h2, h3⟩ := pigeon n (fun i => if f i = n then f (n + 1) else f i) fun i hi => by
        have := h i (by omega)
        have := hne i hi
        split <;> omega
      refine ⟨i, j, h1, by omega, ?_⟩
      have ei := hne i (by omega)
      have ej := hne j h2
      split at h3 <;> split at h3 <;> omega

theorem least_of (f : Nat → Int) (a : Nat) : ∀ n, ∃ m, a ≤ m ∧ m ≤ a + n ∧ ∀ t, a ≤ t → t ≤ a + n → f m ≤ f t
  | 0 => ⟨a, Nat.le_refl _, by omega, fun t h1 h2 => by rw [show t = a by omega]; exact Int.le_refl _⟩
  | n + 1 => by
    obtain ⟨m, h1, h2, h3⟩ := least_of f a n
    by_cases h : f m ≤ f (a + n + 1)
    · refine ⟨m, h1, by omega, fun t t1 t2 => ?_⟩
      by_cases ht : t = a + n + 1
      · rw [ht]; exact h
      · exact h3 t t1 (by omega)
    · refine ⟨a + n + 1, by omega, by omega, fun t t1 t2 => ?_⟩
      by_cases ht : t = a + n + 1
      · rw [ht]; exact Int.le_refl _
      · have := h3 t t1 (by omega)
        omega

def iter (f : Nat → Nat) (v : Nat) : Nat → Nat
  | 0 => v
  | k + 1 => f (iter f v k)

section
variable {g : Gm} {S R D0 D1 F : Nat → Prop} {σ τ : Nat → Nat}

open Classical in
/-- Dominions of different players have no position in common. -/
theorem WinsBy.disjoint {n : Nat} (h0 : WinsBy g 0 S D0 σ) (h1 : WinsBy g 1 S D1 τ) (hn : ∀ i, S i → i < n) (ho : ∀ i, S i → own g i = 0 ∨ own g i = 1) (v : Nat) (hv0 : D0 v) (hv1 : D1 v) : False := by
  obtain ⟨f, hf⟩ : ∃ f : Nat → Nat, f = fun u => if own g u = 0 then σ u else τ u := ⟨_, rfl⟩
  have hB : ∀ u, D0 u → D1 u → D0 (f u) ∧ D1 (f u) ∧ Edge g u (f u) ∧ (own g u = 0 → f u = σ u) ∧ (own g u = 1 → f u = τ u) := fun u a b => by
    rcases ho u (h0.sub u a) with h | h
    · have e : f u = σ u := by rw [hf]; simp [h]
      obtain ⟨x1, x2⟩ := h0.mine u a h
      rw [e]
      exact ⟨x2, h1.other u b (by omega) _ x1 (h0.sub _ x2), x1, fun _ => rfl, fun h' => by omega⟩
    · have e : f u = τ u := by rw [hf]; simp [h]
      obtain ⟨x1, x2⟩ := h1.mine u b h
      rw [e]
      exact ⟨h0.other u a (by omega) _ x1 (h1.sub _ x2), x2, x1, fun h' => by omega, fun _ => rfl⟩
  have hall : ∀ k, D0 (iter f v k) ∧ D1 (iter f v k) := fun k => by
    induction k with
    | zero => exact ⟨hv0, hv1⟩
    | succ k ih => exact ⟨(hB _ ih.1 ih.2).1, (hB _ ih.1 ih.2).2.1⟩
  obtain ⟨i, j, hij, -, he⟩ := pigeon n (iter f v) fun k _ => hn _ (h0.sub _ (hall k).1)
  obtain ⟨m, m1, m2, hmin⟩ := least_of (fun t => pri g (iter f v t)) i (j - 1 - i)
  have hmin' : ∀ t, i ≤ t → t ≤ j → pri g (iter f v m) ≤ pri g (iter f v t) := fun t t1 t2 => by
    by_cases ht : t = j
    · rw [ht, ← he]; exact hmin i (Nat.le_refl _) (by omega)
    · exact hmin t t1 (by omega)
  have key : ∀ (r : Nat → Nat → Prop), (∀ t, i ≤ t → t < j → r (iter f v t) (iter f v (t + 1))) → Plus r (iter f v m) (iter f v m) := fun r hr => by
    have path : ∀ d a, i ≤ a → a + d + 1 ≤ j → Plus r (iter f v a) (iter f v (a + d + 1)) := fun d => by
      induction d with
      | zero => exact fun a a1 a2 => .one (hr a a1 (by omega))
      | succ d ih =>
        intro a a1 a2
        have := ih (a + 1) (by omega) (by omega)
        rw [show a + 1 + d + 1 = a + (d + 1) + 1 by omega] at this
        exact .more (hr a a1 (by omega)) this
    have p1 := path (j - m - 1) m m1 (by omega)
    rw [show m + (j - m - 1) + 1 = j by omega, ← he] at p1
    by_cases hm : m = i
    · subst hm; exact p1
    · have p2 := path (m - i - 1) i (Nat.le_refl _) (by omega)
      rw [show i + (m - i - 1) + 1 = m by omega] at p2
      exact p1.trans p2
  have hpar : pri g (iter f v m) % 2 = 0 ∨ pri g (iter f v m) % 2 = 1 := by omega
  rcases hpar with hp | hp
  · refine h1.free _ (hall m).2 (by unfold Lost; omega) (key _ fun t t1 t2 => ?_)
    obtain ⟨a, b, c, -, e⟩ := hB _ (hall t).1 (hall t).2
    exact ⟨(hall t).2, b, c, hmin' t t1 (by omega), hmin' (t + 1) (by omega) (by omega), e⟩
  · refine h0.free _ (hall m).1 (by unfold Lost; omega) (key _ fun t t1 t2 => ?_)
    obtain ⟨a, b, c, e, -⟩ := hB _ (hall t).1 (hall t).2
    exact ⟨(hall t).1, a, c, hmin' t t1 (by omega), hmin' (t + 1) (by omega) (by omega), e⟩

end
end Go.Proofs.Ytjhafakkadnfmaa
