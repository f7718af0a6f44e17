/- The normal lasso of a lasso, in plain lists. -/
import Derived.Test.YtgjpdnaeldpdeaaWd1
namespace Go.Proofs.Ytgjpdnaeldpdeaa

def perF (l : List Int) : Nat → Nat → Nat
  | 0, n => n
  | f + 1, n => if repsB l n = true then n else perF l f (n + 1)
/-- The length of the shortest piece that a list repeats. -/
def perL (l : List Int) : Nat := perF l l.length 1

theorem reps_self {l : List Int} : repsB l l.length = true := repsB_iff.2 ⟨Nat.mod_self _, fun i hi => by omega⟩

theorem perF_spec {l : List Int} : ∀ (f n : Nat), 0 < n → n + f = l.length + 1 → (∀ r, 0 < r → r < n → repsB l r = false) → 0 < l.length →
    0 < perF l f n ∧ perF l f n ≤ max l.length n ∧ (n ≤ l.length → repsB l (perF l f n) = true ∧ perF l f n ≤ l.length) ∧ ∀ r, 0 < r → r < perF l f n → repsB l r = false := by
  intro f
  induction f with
  | zero => intro n h0 h1 h2 _; exact ⟨h0, Nat.le_max_right _ _, fun h => by omega, h2⟩
  | succ f ih =>
    intro n h0 h1 h2 hl
    unfold perF
    by_cases hr : repsB l n = true
    · rw [if_pos hr]
      exact ⟨h0, Nat.le_max_right _ _, fun h => ⟨hr, h⟩, h2⟩
    · rw [if_neg hr]
      have h3 : ∀ r, 0 < r → r < n + 1 → repsB l r = false := fun r hr0 hr1 => by
        rcases Nat.lt_or_ge r n with h | h
        · exact h2 r hr0 h
        · obtain rfl : r = n := by omega
          simpa using hr
      have hne : n ≠ l.length := fun e => hr (by rw [e]; exact reps_self)
      obtain ⟨i1, i2, i3, i4⟩ := ih (n + 1) (by omega) (by omega) h3 hl
      exact ⟨i1, by omega, fun h => i3 (by omega), i4⟩

theorem perL_spec {l : List Int} (hl : 0 < l.length) : 0 < perL l ∧ perL l ≤ l.length ∧ repsB l (perL l) = true ∧ ∀ r, 0 < r → r < perL l → repsB l r = false := by
  obtain ⟨h1, _, h3, h4⟩ := perF_spec (l := l) l.length 1 (by omega) (by omega) (fun r h0 h1 => by omega) hl
  obtain ⟨h5, h6⟩ := h3 (by omega)
  exact ⟨h1, h6, h5, h4⟩

/-- What stands on the way: a lasso with the same letters, its loop as short as it can be. -/
structure NormAt (w : Ls) (s l : List Int) : Prop where
  word : ∀ i, atL ⟨s, l⟩ i = atL w i
  pos : 0 < l.length
  min : ∀ p, 0 < p → p < l.length → ¬ Per (atL ⟨s, l⟩) s.length p

theorem per_of_reps {w : Ls} {p : Nat} (h : repsB w.loop p = true) (h0 : 0 < p) (hl : 0 < w.loop.length) : Per (atL w) w.stem.length p := by
  intro i hi
  have hm := (repsB_iff.1 h).1
  unfold atL
  rw [if_neg (by omega), if_neg (by omega), reps_get h h0 _ (Nat.mod_lt _ hl), reps_get h h0 _ (Nat.mod_lt (i - w.stem.length) hl), Nat.mod_mod_of_dvd _ (Nat.dvd_of_mod_eq_zero hm), Nat.mod_mod_of_dvd _ (Nat.dvd_of_mod_eq_zero hm),
    show i + p - w.stem.length = (i - w.stem.length) + p by omega, Nat.add_mod_right]

theorem NormAt.start {w : Ls} (hl : 0 < w.loop.length) : NormAt w w.stem (w.loop.take (perL w.loop)) := by
  obtain ⟨h1, h2, h3, h4⟩ := perL_spec hl
  have hw := take_word h3 h1 hl h2
  have hlen : (w.loop.take (perL w.loop)).length = perL w.loop := by rw [List.length_take]; omega
  refine ⟨hw, by omega, fun p h5 h6 h7 => ?_⟩
  rw [hlen] at h6
  rw [show atL ⟨w.stem, w.loop.take (perL w.loop)⟩ = atL w from funext hw] at h7
  obtain ⟨q, hq0, hq1, hq2, hq3, hq4⟩ := Per.least (atL_per w) hl
  have hqp : q ≤ p := by
    rcases Nat.lt_or_ge p q with h | h
    · exact absurd h7 (hq4 p h5 h)
    · exact h
  have := reps_of_per hq2 hq3
  rw [h4 q hq0 (by omega)] at this
  cases this

theorem NormAt.turn {w : Ls} {s l : List Int} {x : Int} (h : NormAt w (s ++ [x]) l) (hx : l.getD (l.length - 1) 0 = x) : NormAt w s (x :: l.dropLast) :=
  ⟨fun i => (turn_word h.pos x hx i).trans (h.word i), by simp, turn_min h.pos x hx h.min⟩

theorem NormAt.done {w : Ls} {s l : List Int} (h : NormAt w s l) (he : s = [] ∨ s.getLast? ≠ l.getLast?) : NormalL ⟨s, l⟩ := ⟨h.pos, h.min, he⟩

def shrinkF : Nat → List Int → List Int → Ls
  | 0, s, l => ⟨s, l⟩
  | k + 1, s, l => if s ≠ [] ∧ s.getLast? = l.getLast? then shrinkF k s.dropLast (l.getD (l.length - 1) 0 :: l.dropLast) else ⟨s, l⟩

/-- The normal lasso. -/
def normL (w : Ls) : Ls := shrinkF w.stem.length w.stem (w.loop.take (perL w.loop))

theorem shrinkF_spec {w : Ls} : ∀ (k : Nat) (s l : List Int), s.length ≤ k → NormAt w s l → NormalL (shrinkF k s l) ∧ (∀ i, atL (shrinkF k s l) i = atL w i) ∧ (shrinkF k s l).stem.length ≤ s.length ∧ (shrinkF k s l).loop.length = l.length := by
  intro k
  induction k with
  | zero =>
    intro s l hk h
    have : s = [] := List.eq_nil_of_length_eq_zero (by omega)
    subst this
    exact ⟨h.done (.inl rfl), h.word, by simp [shrinkF], rfl⟩
  | succ k ih =>
    intro s l hk h
    unfold shrinkF
    split
    · rename_i hc
      obtain ⟨hne, he⟩ := hc
      have hln : l ≠ [] := by have := h.pos; intro e; rw [e] at this; simp at this
      have hpos := List.length_pos_iff.2 hne
      have hsplit : s = s.dropLast ++ [l.getD (l.length - 1) 0] := by
        rw [getLast_getD s hne, getLast_getD l hln] at he
        have e2 : s.getLast hne = l.getD (l.length - 1) 0 := by
          have := List.getLast?_eq_some_getLast hne
          rw [getLast_getD s hne] at this
          rw [← Option.some.inj he]
          exact (Option.some.inj this).symm
        conv => lhs; rw [← List.dropLast_concat_getLast hne, e2]
      have h2 : NormAt w s.dropLast (l.getD (l.length - 1) 0 :: l.dropLast) := by
        rw [hsplit] at h
        exact h.turn rfl
      obtain ⟨i1, i2, i3, i4⟩ := ih _ _ (by rw [List.length_dropLast]; omega) h2
      refine ⟨i1, i2, by rw [List.length_dropLast] at i3; omega, ?_⟩
      rw [i4]
      have := h.pos
      simp
      omega
    · rename_i hc
      refine ⟨h.done ?_, h.word, Nat.le_refl _, rfl⟩
      by_cases hs : s = []
      · exact .inl hs
      · exact .inr fun e => hc ⟨hs, e⟩

theorem normL_spec {w : Ls} (hl : 0 < w.loop.length) : NormalL (normL w) ∧ (∀ i, atL (normL w) i = atL w i) ∧ (normL w).stem.length ≤ w.stem.length ∧ (normL w).loop.length ≤ w.loop.length := by
  obtain ⟨h1, h2, h3, h4⟩ := shrinkF_spec w.stem.length w.stem _ (Nat.le_refl _) (NormAt.start hl)
  refine ⟨h1, h2, h3, ?_⟩
  show (shrinkF _ _ _).loop.length ≤ _
  rw [h4, List.length_take]
  omega

theorem normL_eq {w x : Ls} (hl : 0 < w.loop.length) (hx : NormalL x) (h : ∀ i, atL x i = atL w i) : x = normL w :=
  normal_unique hx (normL_spec hl).1 fun i => (h i).trans ((normL_spec hl).2.1 i).symm

theorem normL_same {v w : Ls} (hv : 0 < v.loop.length) (hw : 0 < w.loop.length) (h : ∀ i, atL v i = atL w i) : normL v = normL w :=
  normL_eq hw (normL_spec hv).1 fun i => ((normL_spec hv).2.1 i).trans (h i)

theorem normL_iff {v w : Ls} (hv : 0 < v.loop.length) (hw : 0 < w.loop.length) : normL v = normL w ↔ ∀ i, atL v i = atL w i :=
  ⟨fun h i => by rw [← (normL_spec hv).2.1 i, h, (normL_spec hw).2.1 i], normL_same hv hw⟩

theorem normL_idem {w : Ls} (hl : 0 < w.loop.length) : normL (normL w) = normL w :=
  (normL_eq (normL_spec hl).1.pos (normL_spec hl).1 fun _ => rfl).symm

/-! Formed lassos. -/

def letB (x : Int) : Bool := decide (0 ≤ x) && decide (x < 64)
def formB (w : Ls) : Bool := decide (w.stem.length ≤ 60) && decide (1 ≤ w.loop.length) && decide (w.loop.length ≤ 40) && w.stem.all letB && w.loop.all letB

theorem formB_iff (w : Ls) : formB w = true ↔ w.stem.length ≤ 60 ∧ 1 ≤ w.loop.length ∧ w.loop.length ≤ 40 ∧ (∀ x ∈ w.stem, letB x = true) ∧ ∀ x ∈ w.loop, letB x = true := by
  simp only [formB, Bool.and_eq_true, decide_eq_true_eq, List.all_eq_true]
  exact ⟨fun ⟨⟨⟨⟨a, b⟩, c⟩, d⟩, e⟩ => ⟨a, b, c, d, e⟩, fun ⟨a, b, c, d, e⟩ => ⟨⟨⟨⟨a, b⟩, c⟩, d⟩, e⟩⟩

/-- All letters of the word are letters. -/
theorem letters_iff {w : Ls} (hl : 0 < w.loop.length) : ((∀ x ∈ w.stem, letB x = true) ∧ ∀ x ∈ w.loop, letB x = true) ↔ ∀ i, letB (atL w i) = true := by
  constructor
  · rintro ⟨h1, h2⟩ i
    unfold atL
    split
    · rename_i h
      refine h1 _ ?_
      simp [List.getD, h]
    · have := Nat.mod_lt (i - w.stem.length) hl
      refine h2 _ ?_
      simp [List.getD, this]
  · intro h
    refine ⟨fun x hx => ?_, fun x hx => ?_⟩
    · obtain ⟨i, hi, rfl⟩ := List.getElem_of_mem hx
      have := h i
      rw [atL_stem hi] at this
      simpa [List.getD, hi] using this
    · obtain ⟨i, hi, rfl⟩ := List.getElem_of_mem hx
      have := h (w.stem.length + i)
      rw [atL_loop hi] at this
      simpa [List.getD, hi] using this

theorem norm_formed {w : Ls} (h : formB w = true) : formB (normL w) = true := by
  obtain ⟨h1, h2, h3, h4, h5⟩ := (formB_iff w).1 h
  obtain ⟨n1, n2, n3, n4⟩ := normL_spec (w := w) (by omega)
  have h6 := (letters_iff (w := w) (by omega)).1 ⟨h4, h5⟩
  have h7 := (letters_iff n1.pos).2 (fun i => by rw [n2 i]; exact h6 i)
  have := n1.pos
  exact (formB_iff _).2 ⟨by omega, by omega, by omega, h7.1, h7.2⟩

/-- A word with a formed normal lasso has it in every lasso. -/
def zeroL : Ls := ⟨[], []⟩
def shortL (w : Ls) : Ls := if formB (normL w) = true then normL w else zeroL

/-! Suffixes, prefixes. -/

def turnL (l : List Int) (k : Nat) : List Int := l.drop k ++ l.take k

theorem turnL_len (l : List Int) (k : Nat) : (turnL l k).length = l.length := by simp [turnL]; omega

theorem turnL_get {l : List Int} {k : Nat} (hk : k ≤ l.length) (i : Nat) (hi : i < l.length) : (turnL l k).getD i 0 = l.getD ((k + i) % l.length) 0 := by
  unfold turnL
  rcases Nat.lt_or_ge i (l.length - k) with h | h
  · rw [Nat.mod_eq_of_lt (by omega)]
    simp [List.getD, List.getElem?_append_left, h, show k + i < l.length by omega]
  · rw [Nat.mod_eq_sub_mod (by omega), Nat.mod_eq_of_lt (by omega)]
    simp only [List.getD]
    rw [List.getElem?_append_right (by simp; omega), List.length_drop, List.getElem?_take, if_pos (by omega)]
    congr 2
    omega

/-- The lasso of the letters from n on. -/
def fromL (w : Ls) (n : Nat) : Ls := if n ≤ w.stem.length then ⟨w.stem.drop n, w.loop⟩ else ⟨[], turnL w.loop ((n - w.stem.length) % w.loop.length)⟩

theorem fromL_pos {w : Ls} (hl : 0 < w.loop.length) (n : Nat) : 0 < (fromL w n).loop.length := by
  unfold fromL
  split
  · exact hl
  · simp only [turnL_len]; exact hl

theorem fromL_word {w : Ls} (hl : 0 < w.loop.length) (n i : Nat) : atL (fromL w n) i = atL w (n + i) := by
  unfold fromL
  split
  · rename_i h
    unfold atL
    simp only [List.length_drop]
    by_cases hi : n + i < w.stem.length
    · rw [if_pos (by omega), if_pos hi]; simp [List.getD]
    · rw [if_neg (by omega), if_neg hi]
      congr 2
      omega
  · rename_i h
    unfold atL
    rw [if_neg (by simp), if_neg (by omega)]
    simp only [List.length_nil, Nat.sub_zero, turnL_len]
    have h1 := Nat.mod_lt (n - w.stem.length) hl
    rw [turnL_get (by omega) _ (Nat.mod_lt _ hl), ← Nat.add_mod, show n - w.stem.length + i = n + i - w.stem.length by omega]

def suffixL (w : Ls) (n : Nat) : Ls := normL (fromL w n)
def prefixL (w : Ls) (n : Nat) : List Int := (List.range n).map (atL w)

theorem suffix_word {w : Ls} (hl : 0 < w.loop.length) (n i : Nat) : atL (suffixL w n) i = atL w (n + i) := by
  rw [suffixL, (normL_spec (fromL_pos hl n)).2.1, fromL_word hl]

theorem suffix_suffix {w : Ls} (hl : 0 < w.loop.length) (n m : Nat) : suffixL (suffixL w n) m = suffixL w (n + m) := by
  have hs : 0 < (suffixL w n).loop.length := (normL_spec (fromL_pos hl n)).1.pos
  refine normL_same (fromL_pos hs m) (fromL_pos hl _) fun i => ?_
  rw [fromL_word hs, suffix_word hl, fromL_word hl, Nat.add_assoc]

/-- Letters ahead of a word. -/
def pushR (l : List Int) (w : Ls) : Ls := ⟨l ++ w.stem, w.loop⟩

theorem push_word (l : List Int) (w : Ls) (i : Nat) : atL (pushR l w) i = if i < l.length then l.getD i 0 else atL w (i - l.length) := by
  unfold pushR atL
  simp only [List.length_append]
  by_cases h1 : i < l.length
  · rw [if_pos (by omega), if_pos h1]
    simp [List.getD, List.getElem?_append_left h1]
  · rw [if_neg h1]
    by_cases h2 : i < l.length + w.stem.length
    · rw [if_pos h2, if_pos (by omega)]
      simp only [List.getD]
      rw [List.getElem?_append_right (by omega)]
    · rw [if_neg h2, if_neg (by omega)]
      congr 2
      omega

/-- A prefix pushed to the suffix yields the word. -/
theorem push_prefix {w : Ls} (hl : 0 < w.loop.length) (n : Nat) : normL (pushR (prefixL w n) (suffixL w n)) = normL w := by
  have hs : 0 < (suffixL w n).loop.length := (normL_spec (fromL_pos hl n)).1.pos
  refine normL_same hs hl fun i => ?_
  rw [push_word]
  simp only [prefixL, List.length_map, List.length_range]
  split
  · rename_i h
    simp [List.getD, h]
  · rw [suffix_word hl]
    congr 1
    omega

end Go.Proofs.Ytgjpdnaeldpdeaa
