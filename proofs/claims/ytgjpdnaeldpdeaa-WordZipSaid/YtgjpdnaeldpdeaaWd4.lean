/- Words, plain: what the loops of the functions on words keep. -/
import Derived.Test.YtgjpdnaeldpdeaaWd3
namespace Go.Proofs.Ytgjpdnaeldpdeaa

/-! A list turned back step by step. -/

theorem turn_last {l : List Int} {b : Nat} (hb : b < l.length) : (turnL l ((l.length - b) % l.length)).getD (l.length - 1) 0 = l.getD (l.length - 1 - b) 0 := by
  rw [turnL_get (Nat.le_of_lt (Nat.mod_lt _ (by omega))) _ (by omega)]
  congr 1
  rcases Nat.eq_zero_or_pos b with rfl | h
  · rw [Nat.sub_zero, Nat.mod_self, Nat.zero_add, Nat.mod_eq_of_lt (by omega)]; omega
  · rw [Nat.mod_eq_of_lt (show l.length - b < l.length by omega), Nat.mod_eq_sub_mod (by omega), Nat.mod_eq_of_lt (by omega)]
    omega

theorem turn_back {l : List Int} {b : Nat} (hb : b < l.length) : turnL l ((l.length - (b + 1) % l.length) % l.length) = l.getD (l.length - 1 - b) 0 :: (turnL l ((l.length - b) % l.length)).dropLast := by
  have hn : 0 < l.length := by omega
  have hlen : (l.getD (l.length - 1 - b) 0 :: (turnL l ((l.length - b) % l.length)).dropLast).length = l.length := by simp [turnL_len]; omega
  refine list_eq_getD (by rw [hlen, turnL_len]) fun i hi => ?_
  rw [turnL_len] at hi
  rw [turnL_get (Nat.le_of_lt (Nat.mod_lt _ hn)) _ hi]
  have e1 : ∀ c, c < l.length → (l.length - c) % l.length = if c = 0 then 0 else l.length - c := fun c hc => by
    split
    · subst c; simp
    · exact Nat.mod_eq_of_lt (by omega)
  have hb1 : (l.length - (b + 1) % l.length) % l.length = l.length - 1 - b := by
    rw [e1 _ (Nat.mod_lt _ hn)]
    by_cases h : b + 1 = l.length
    · rw [h, Nat.mod_self, if_pos rfl]; omega
    · rw [Nat.mod_eq_of_lt (show b + 1 < l.length by omega), if_neg (by omega)]; omega
  rw [hb1]
  cases i with
  | zero => rw [Nat.add_zero, Nat.mod_eq_of_lt (by omega)]; rfl
  | succ i =>
    have e2 : (l.getD (l.length - 1 - b) 0 :: (turnL l ((l.length - b) % l.length)).dropLast).getD (i + 1) 0 = (turnL l ((l.length - b) % l.length)).getD i 0 := by
      simp only [List.getD, List.getElem?_cons_succ, List.getElem?_dropLast, turnL_len]
      rw [if_pos (by omega)]
    rw [e2, turnL_get (Nat.le_of_lt (Nat.mod_lt _ hn)) _ (by omega)]
    congr 1
    rw [e1 b hb]
    split
    · subst b
      rw [Nat.zero_add, Nat.mod_eq_of_lt (show i < l.length by omega), Nat.mod_eq_sub_mod (by omega), Nat.mod_eq_of_lt (by omega)]
      omega
    · congr 1; omega

/-- What the program's loop on the stem keeps. -/
theorem NormAt.step {w : Ls} {s l : List Int} {k b : Nat} (h : NormAt w (s.take (k + 1)) (turnL l ((l.length - b) % l.length))) (hk : k < s.length) (hb : b < l.length) (he : s.getD k 0 = l.getD (l.length - 1 - b) 0) :
    NormAt w (s.take k) (turnL l ((l.length - (b + 1) % l.length) % l.length)) := by
  have e : s.take (k + 1) = s.take k ++ [s.getD k 0] := by rw [List.take_succ_eq_append_getElem hk]; simp [List.getD, hk]
  rw [e] at h
  rw [turn_back hb, ← he]
  refine h.turn ?_
  rw [turnL_len, turn_last hb, he]

theorem NormAt.stop {w : Ls} {s l : List Int} {k b : Nat} (hw : 0 < w.loop.length) (h : NormAt w (s.take k) (turnL l ((l.length - b) % l.length))) (hk : k ≤ s.length) (hb : b < l.length) (he : k = 0 ∨ s.getD (k - 1) 0 ≠ l.getD (l.length - 1 - b) 0) :
    (⟨s.take k, turnL l ((l.length - b) % l.length)⟩ : Ls) = normL w := by
  refine normL_eq hw (h.done ?_) h.word
  rcases he with rfl | he
  · exact .inl (by simp)
  · by_cases h0 : k = 0
    · subst h0; exact .inl (by simp)
    · refine .inr fun e => he ?_
      have h1 : s.take k ≠ [] := by intro e; have := congrArg List.length e; rw [List.length_take, List.length_nil] at this; omega
      have h2 : turnL l ((l.length - b) % l.length) ≠ [] := by intro e; have := congrArg List.length e; rw [turnL_len, List.length_nil] at this; omega
      rw [getLast_getD _ h1, getLast_getD _ h2, turnL_len, turn_last hb] at e
      have h3 := Option.some.inj e
      rw [← h3, List.length_take, Nat.min_eq_left hk]
      simp [List.getD, show k - 1 < k by omega]

theorem NormAt.start' {w : Ls} (hl : 0 < w.loop.length) : NormAt w (w.stem.take w.stem.length) (turnL (w.loop.take (perL w.loop)) (((w.loop.take (perL w.loop)).length - 0) % (w.loop.take (perL w.loop)).length)) := by
  rw [List.take_length, Nat.sub_zero, Nat.mod_self]
  simpa [turnL] using NormAt.start hl

/-! The length of the shortest piece. -/

theorem perL_of {l : List Int} (hl : 0 < l.length) {n : Nat} (h0 : 0 < n) (h : repsB l n = true) (hm : ∀ r, 0 < r → r < n → repsB l r = false) : perL l = n := by
  obtain ⟨h1, _, h3, h4⟩ := perL_spec hl
  rcases Nat.lt_trichotomy (perL l) n with c | c | c
  · rw [hm _ h1 c] at h3; cases h3
  · exact c
  · rw [h4 _ h0 c] at h; cases h

/-- The program's test for a repetition. -/
theorem reps_drop {l : List Int} {n : Nat} (hn : n ≤ l.length) : repsB l n = (decide (l.length % n = 0) && decide (l.drop n = l.take (l.length - n))) := by
  rw [Bool.eq_iff_iff, repsB_iff, Bool.and_eq_true, decide_eq_true_eq, decide_eq_true_eq]
  refine and_congr Iff.rfl ⟨fun h => ?_, fun h i hi => ?_⟩
  · refine list_eq_getD (by simp) fun i hi => ?_
    rw [List.length_drop] at hi
    have := h i (by omega)
    simp only [List.getD, List.getElem?_drop, List.getElem?_take, if_pos (show i < l.length - n by omega)]
    exact this
  · have h1 : (l.drop n).getD i 0 = (l.take (l.length - n)).getD i 0 := by rw [h]
    simp only [List.getD, List.getElem?_drop, List.getElem?_take, if_pos (show i < l.length - n by omega)] at h1
    exact h1

/-! Cyclic reading. -/

/-- The place in the lists behind n letters. -/
def posL (w : Ls) (i : Nat) : Nat := if i < w.stem.length then i else w.stem.length + (i - w.stem.length) % w.loop.length

theorem posL_lt {w : Ls} (hl : 0 < w.loop.length) (i : Nat) : posL w i < w.stem.length + w.loop.length := by
  unfold posL
  have := Nat.mod_lt (i - w.stem.length) hl
  split <;> omega

theorem posL_at {w : Ls} (hl : 0 < w.loop.length) (i : Nat) : atL w (posL w i) = atL w i := by
  unfold posL
  split
  · rfl
  · rename_i h
    have := Nat.mod_lt (i - w.stem.length) hl
    unfold atL
    rw [if_neg (by omega), if_neg h, Nat.add_sub_cancel_left, Nat.mod_mod]

theorem posL_next {w : Ls} (hl : 0 < w.loop.length) (i : Nat) : posL w (i + 1) = if posL w i + 1 = w.stem.length + w.loop.length then w.stem.length else posL w i + 1 := by
  unfold posL
  by_cases h1 : i + 1 < w.stem.length
  · rw [if_pos h1, if_pos (show i < w.stem.length by omega), if_neg (by omega)]
  · rw [if_neg h1]
    by_cases h2 : i < w.stem.length
    · rw [if_pos h2]
      have e : i + 1 - w.stem.length = 0 := by omega
      rw [e, Nat.zero_mod]
      split <;> omega
    · rw [if_neg h2]
      have hm := Nat.mod_lt (i - w.stem.length) hl
      have e : i + 1 - w.stem.length = (i - w.stem.length) + 1 := by omega
      rw [e, Nat.add_mod]
      by_cases h3 : (i - w.stem.length) % w.loop.length + 1 = w.loop.length
      · rw [if_pos (by omega)]
        by_cases h4 : w.loop.length = 1
        · rw [h4]; simp [Nat.mod_one]
        · rw [Nat.mod_eq_of_lt (show 1 < w.loop.length by omega), h3, Nat.mod_self]; omega
      · rw [if_neg (by omega), Nat.mod_eq_of_lt (show 1 < w.loop.length by omega), Nat.mod_eq_of_lt (by omega)]
        omega

end Go.Proofs.Ytgjpdnaeldpdeaa
