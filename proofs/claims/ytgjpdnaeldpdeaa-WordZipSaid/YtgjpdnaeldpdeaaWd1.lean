/- Words that repeat, in plain lists: periods, normal lassos, and that they are told by the words. -/
namespace Go.Proofs.Ytgjpdnaeldpdeaa

structure Ls where
  stem : List Int
  loop : List Int
deriving DecidableEq

/-- The letter at a position. -/
def atL (w : Ls) (i : Nat) : Int := if i < w.stem.length then w.stem.getD i 0 else w.loop.getD ((i - w.stem.length) % w.loop.length) 0

/-- From m on, u has the period p. -/
def Per (u : Nat → Int) (m p : Nat) : Prop := ∀ i, m ≤ i → u (i + p) = u i

theorem Per.mul {u : Nat → Int} {m p : Nat} (h : Per u m p) (k : Nat) : Per u m (k * p) := by
  induction k with
  | zero => intro i _; simp
  | succ k ih =>
    intro i hi
    rw [Nat.succ_mul, ← Nat.add_assoc, h _ (by omega), ih i hi]
theorem Per.mono {u : Nat → Int} {m m' p : Nat} (h : Per u m p) (hm : m ≤ m') : Per u m' p := fun i hi => h i (by omega)
theorem Per.sub {u : Nat → Int} {m p q : Nat} (hp : Per u m p) (hq : Per u m q) (hle : p ≤ q) : Per u m (q - p) := by
  intro i hi
  have h1 := hp (i + (q - p)) (by omega)
  rw [show i + (q - p) + p = i + q by omega, hq i hi] at h1
  exact h1.symm
theorem Per.mod {u : Nat → Int} {m p : Nat} (hp : Per u m p) (h0 : 0 < p) : ∀ q, Per u m q → Per u m (q % p) := by
  intro q
  induction q using Nat.strongRecOn with
  | _ q ih =>
    intro hq
    rcases Nat.lt_or_ge q p with h | h
    · rwa [Nat.mod_eq_of_lt h]
    · rw [Nat.mod_eq_sub_mod h]
      exact ih (q - p) (by omega) (hp.sub hq h)
/-- A period that holds further on holds as far back as another one does. -/
theorem Per.back {u : Nat → Int} {s m n p : Nat} (hn : Per u s n) (h0 : 0 < n) (hp : Per u m p) (_hsm : s ≤ m) : Per u s p := by
  intro i hi
  have hk := hn.mul m
  have h1 := hp (i + m * n) (by have := Nat.le_mul_of_pos_right m h0; omega)
  rw [show i + m * n + p = (i + p) + m * n by omega, hk (i + p) (by omega), hk i hi] at h1
  exact h1
/-- There is a least period; it divides every other one. -/
theorem Per.least {u : Nat → Int} {m q : Nat} (hq : Per u m q) (h0 : 0 < q) : ∃ p, 0 < p ∧ p ≤ q ∧ Per u m p ∧ q % p = 0 ∧ ∀ r, 0 < r → r < p → ¬ Per u m r := by
  have key : ∀ n, (∃ p, 0 < p ∧ p ≤ n ∧ Per u m p ∧ ∀ r, 0 < r → r < p → ¬ Per u m r) ∨ ∀ r, 0 < r → r ≤ n → ¬ Per u m r := by
    intro n
    induction n with
    | zero => exact .inr fun r h1 h2 => by omega
    | succ n ih =>
      rcases ih with ⟨p, h1, h2, h3, h4⟩ | h
      · exact .inl ⟨p, h1, by omega, h3, h4⟩
      · by_cases hp : Per u m (n + 1)
        · exact .inl ⟨n + 1, by omega, by omega, hp, fun r h1 h2 => h r h1 (by omega)⟩
        · refine .inr fun r h1 h2 => ?_
          rcases Nat.lt_or_ge r (n + 1) with h3 | h3
          · exact h r h1 (by omega)
          · obtain rfl : r = n + 1 := by omega
            exact hp
  rcases key q with ⟨p, h1, h2, h3, h4⟩ | h
  · refine ⟨p, h1, h2, h3, ?_, h4⟩
    have h5 := h3.mod h1 q hq
    rcases Nat.eq_zero_or_pos (q % p) with h6 | h6
    · exact h6
    · exact absurd h5 (h4 _ h6 (Nat.mod_lt _ h1))
  · exact absurd hq (h q h0 (Nat.le_refl _))

theorem atL_per (w : Ls) : Per (atL w) w.stem.length w.loop.length := by
  intro i hi
  unfold atL
  rw [if_neg (by omega), if_neg (by omega), show i + w.loop.length - w.stem.length = (i - w.stem.length) + w.loop.length by omega, Nat.add_mod_right]

/-- The loop is as short as it can be, and the stem. -/
structure NormalL (w : Ls) : Prop where
  pos : 0 < w.loop.length
  min : ∀ p, 0 < p → p < w.loop.length → ¬ Per (atL w) w.stem.length p
  ends : w.stem = [] ∨ w.stem.getLast? ≠ w.loop.getLast?

theorem getLast_getD (l : List Int) (h : l ≠ []) : l.getLast? = some (l.getD (l.length - 1) 0) := by
  have hp : 0 < l.length := List.length_pos_iff.2 h
  rw [List.getLast?_eq_getElem?, List.getElem?_eq_getElem (by omega)]
  simp [List.getD, show l.length - 1 < l.length by omega]

theorem list_eq_getD {a b : List Int} (hl : a.length = b.length) (h : ∀ i, i < a.length → a.getD i 0 = b.getD i 0) : a = b := by
  apply List.ext_getElem hl
  intro i h1 h2
  have := h i h1
  simpa [List.getD, h1, h2] using this

theorem atL_stem {w : Ls} {i : Nat} (h : i < w.stem.length) : atL w i = w.stem.getD i 0 := if_pos h
theorem atL_loop {w : Ls} {i : Nat} (h : i < w.loop.length) : atL w (w.stem.length + i) = w.loop.getD i 0 := by
  unfold atL
  rw [if_neg (by omega), Nat.add_sub_cancel_left, Nat.mod_eq_of_lt h]

/-- Normal lassos with the same letters are the same. -/
theorem normal_unique {x y : Ls} (hx : NormalL x) (hy : NormalL y) (h : ∀ i, atL x i = atL y i) : x = y := by
  have key : ∀ {x y : Ls}, NormalL x → NormalL y → (∀ i, atL x i = atL y i) → x.stem.length ≤ y.stem.length → x = y := by
    intro x y hx hy h hle
    have hu : atL x = atL y := funext h
    have px := atL_per x
    have py := atL_per y
    have minx := hx.min
    have miny := hy.min
    rw [hu] at px minx
    have h1 : x.loop.length = y.loop.length := by
      rcases Nat.lt_trichotomy x.loop.length y.loop.length with h2 | h2 | h2
      · exact absurd (px.mono hle) (miny _ hx.pos h2)
      · exact h2
      · exact absurd (px.back hx.pos py hle) (minx _ hy.pos h2)
    have h2 : x.stem.length = y.stem.length := by
      rcases Nat.lt_or_ge x.stem.length y.stem.length with h3 | h3
      · exfalso
        have hne : y.stem ≠ [] := by intro e; rw [e] at h3; simp at h3
        rcases hy.ends with he | he
        · exact hne he
        · refine he ?_
          have hln : y.loop ≠ [] := by have := hy.pos; intro e; rw [e] at this; simp at this
          rw [getLast_getD _ hne, getLast_getD _ hln]
          congr 1
          rw [← atL_stem (w := y) (by omega), ← atL_loop (w := y) (by have := hy.pos; omega)]
          have := px (y.stem.length - 1) (by omega)
          rw [h1] at this
          rw [← this]
          congr 1
          have := hy.pos
          omega
      · omega
    have hs : x.stem = y.stem := list_eq_getD h2 fun i hi => by
      rw [← atL_stem (w := x) hi, ← atL_stem (w := y) (by omega), h]
    have hl : x.loop = y.loop := list_eq_getD h1 fun i hi => by
      rw [← atL_loop (w := x) hi, ← atL_loop (w := y) (by omega), h, h2]
    cases x; cases y
    simp only at hs hl
    rw [hs, hl]
  rcases Nat.le_total x.stem.length y.stem.length with h1 | h1
  · exact key hx hy h h1
  · exact (key hy hx (fun i => (h i).symm) h1).symm

/-- Two words that repeat, and agree far enough, are the same. -/
theorem per_agree {u v : Nat → Int} {m p q : Nat} (hu : Per u m p) (hv : Per v m q) (hp : 0 < p) (hq : 0 < q) (h : ∀ i, i < m + (p + q) → u i = v i) : ∀ i, u i = v i := by
  have h1 : Per u m q := by
    have base : ∀ i, m ≤ i → i < m + p → u (i + q) = u i := fun i h1 h2 => by
      rw [h (i + q) (by omega), hv i h1, h i (by omega)]
    intro i hi
    have hd := hu.mul ((i - m) / p)
    have e : i = m + (i - m) % p + (i - m) / p * p := by have := Nat.mod_add_div (i - m) p; rw [Nat.mul_comm] at this; omega
    have hlt := Nat.mod_lt (i - m) hp
    have h2 := base (m + (i - m) % p) (by omega) (by omega)
    rw [← hd (m + (i - m) % p + q) (by omega), ← hd (m + (i - m) % p) (by omega), show m + (i - m) % p + q + (i - m) / p * p = i + q by omega, ← e] at h2
    exact h2
  intro i
  rcases Nat.lt_or_ge i (m + q) with h2 | h2
  · exact h i (by omega)
  · have hd := h1.mul ((i - m) / q)
    have hd2 := hv.mul ((i - m) / q)
    have e : i = m + (i - m) % q + (i - m) / q * q := by have := Nat.mod_add_div (i - m) q; rw [Nat.mul_comm] at this; omega
    have hlt := Nat.mod_lt (i - m) hq
    rw [e, hd _ (by omega), hd2 _ (by omega)]
    exact h _ (by omega)

theorem lasso_agree {x y : Ls} {n : Nat} (hx : 0 < x.loop.length) (hy : 0 < y.loop.length) (hn : max x.stem.length y.stem.length + (x.loop.length + y.loop.length) ≤ n) (h : ∀ i, i < n → atL x i = atL y i) : ∀ i, atL x i = atL y i :=
  per_agree (m := max x.stem.length y.stem.length) ((atL_per x).mono (by omega)) ((atL_per y).mono (by omega)) hx hy (fun i hi => h i (by omega))

/-! Making a lasso normal. -/

/-- The list is a repetition of its first n elements. -/
def repsB (l : List Int) (n : Nat) : Bool := decide (l.length % n = 0) && (List.range (l.length - n)).all fun i => l.getD (n + i) 0 == l.getD i 0

theorem repsB_iff {l : List Int} {n : Nat} : repsB l n = true ↔ l.length % n = 0 ∧ ∀ i, n + i < l.length → l.getD (n + i) 0 = l.getD i 0 := by
  simp only [repsB, Bool.and_eq_true, decide_eq_true_eq, List.all_eq_true, List.mem_range, beq_iff_eq]
  exact ⟨fun h => ⟨h.1, fun i hi => h.2 i (by omega)⟩, fun h => ⟨h.1, fun i hi => h.2 i (by omega)⟩⟩

/-- In a repetition, a letter is that of the first piece. -/
theorem reps_get {l : List Int} {n : Nat} (h : repsB l n = true) (hn : 0 < n) : ∀ i, i < l.length → l.getD i 0 = l.getD (i % n) 0 := by
  intro i
  induction i using Nat.strongRecOn with
  | _ i ih =>
    intro hi
    rcases Nat.lt_or_ge i n with h1 | h1
    · rw [Nat.mod_eq_of_lt h1]
    · rw [Nat.mod_eq_sub_mod h1, ← ih (i - n) (by omega) (by omega), ← (repsB_iff.1 h).2 (i - n) (by omega)]
      congr 1
      omega

/-- A period of the word from its loop on makes the loop a repetition, where it divides its length. -/
theorem reps_of_per {w : Ls} {p : Nat} (h : Per (atL w) w.stem.length p) (hd : w.loop.length % p = 0) : repsB w.loop p = true := by
  refine repsB_iff.2 ⟨hd, fun i hi => ?_⟩
  rw [← atL_loop hi, ← atL_loop (w := w) (i := i) (by omega)]
  have := h (w.stem.length + i) (by omega)
  rw [← this]
  congr 1
  omega

/-- The lasso with the first piece of its loop. -/
theorem take_word {w : Ls} {n : Nat} (h : repsB w.loop n = true) (hn : 0 < n) (hl : 0 < w.loop.length) (hle : n ≤ w.loop.length) : ∀ i, atL ⟨w.stem, w.loop.take n⟩ i = atL w i := by
  intro i
  unfold atL
  simp only [List.length_take]
  rw [Nat.min_eq_left hle]
  split
  · rfl
  · have h1 := Nat.mod_lt (i - w.stem.length) hl
    have h2 := Nat.mod_lt (i - w.stem.length) hn
    have hm := (repsB_iff.1 h).1
    rw [reps_get h hn _ h1, Nat.mod_mod_of_dvd _ (Nat.dvd_of_mod_eq_zero hm)]
    simp [List.getD, h2]

/-- The last letter of the stem goes to the head of the loop. -/
theorem turn_word {s l : List Int} (hl : 0 < l.length) (x : Int) (hx : l.getD (l.length - 1) 0 = x) : ∀ i, atL ⟨s, x :: l.dropLast⟩ i = atL ⟨s ++ [x], l⟩ i := by
  intro i
  have hlen : (x :: l.dropLast).length = l.length := by simp; omega
  unfold atL
  simp only [hlen, List.length_append, List.length_singleton]
  rcases Nat.lt_trichotomy i s.length with h | h | h
  · rw [if_pos h, if_pos (by omega)]
    simp [List.getD, List.getElem?_append_left h]
  · subst h
    rw [if_neg (by omega), if_pos (by omega), Nat.sub_self, Nat.zero_mod]
    simp [List.getD]
  · rw [if_neg (by omega), if_neg (by omega)]
    obtain ⟨j, rfl⟩ : ∃ j, i = s.length + (j + 1) := ⟨i - s.length - 1, by omega⟩
    rw [show s.length + (j + 1) - s.length = j + 1 by omega, show s.length + (j + 1) - (s.length + 1) = j by omega]
    have h1 := Nat.mod_lt j hl
    by_cases h2 : j % l.length = l.length - 1
    · rw [show (j + 1) % l.length = 0 by
        rw [Nat.add_mod, h2]
        rcases Nat.lt_or_ge 1 l.length with h3 | h3
        · rw [Nat.mod_eq_of_lt h3, show l.length - 1 + 1 = l.length by omega, Nat.mod_self]
        · rw [show l.length = 1 by omega, Nat.mod_one], h2, hx]
      rfl
    · rw [show (j + 1) % l.length = j % l.length + 1 by
        rw [Nat.add_mod, Nat.mod_eq_of_lt (show 1 < l.length by omega), Nat.mod_eq_of_lt (by omega)]]
      simp only [List.getD_cons_succ]
      simp [List.getD, show j % l.length < l.length - 1 by omega, h1]

/-- What one turn keeps. -/
theorem turn_min {s l : List Int} (hl : 0 < l.length) (x : Int) (hx : l.getD (l.length - 1) 0 = x) (hmin : ∀ p, 0 < p → p < l.length → ¬ Per (atL ⟨s ++ [x], l⟩) (s ++ [x]).length p) :
    ∀ p, 0 < p → p < (x :: l.dropLast).length → ¬ Per (atL ⟨s, x :: l.dropLast⟩) s.length p := by
  intro p h0 h1 h2
  have hu : atL ⟨s, x :: l.dropLast⟩ = atL ⟨s ++ [x], l⟩ := funext (turn_word hl x hx)
  rw [hu] at h2
  refine hmin p h0 (by simp at h1; omega) (h2.mono (by simp))

end Go.Proofs.Ytgjpdnaeldpdeaa
