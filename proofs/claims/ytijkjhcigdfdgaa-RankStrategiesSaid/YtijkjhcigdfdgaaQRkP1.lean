/- Progress measures as numbers (plain): units, digits, the least measure along another one. -/
import Derived.Test.YtijkjhcigdfdgaaQRkCe
namespace Go.Proofs.Ytijkjhcigdfdgaa

/-- The number of measures with the same numbers ahead of a list of bounds. -/
def unitL : List Nat → Nat
  | [] => 1
  | x :: l => (x + 1) * unitL l
def unitN (mo : List Nat) (i : Nat) : Nat := unitL (mo.drop i)
def topN (mo : List Nat) : Nat := unitN mo 0
/-- The number of odd numbers up to a priority. -/
def partN (p : Nat) : Nat := (p + 1) / 2
/-- The least measure along another one. -/
def alongN (mo : List Nat) (c p : Nat) : Nat := if c = topN mo then c else (c / unitN mo (partN p) + p % 2) * unitN mo (partN p)

section
variable {mo : List Nat} {i j c c' p : Nat}
theorem unitL_pos : ∀ (l : List Nat), 0 < unitL l
  | [] => Nat.one_pos
  | x :: l => Nat.mul_pos (by omega) (unitL_pos l)
theorem unit_pos (mo : List Nat) (i : Nat) : 0 < unitN mo i := unitL_pos _
theorem unit_step (h : i < mo.length) : unitN mo i = (mo.getD i 0 + 1) * unitN mo (i + 1) := by
  unfold unitN
  rw [List.drop_eq_getElem_cons h, getD_lt _ _ _ h]; rfl
theorem unit_end (h : mo.length ≤ i) : unitN mo i = 1 := by
  unfold unitN
  rw [List.drop_eq_nil_of_le h]; rfl
theorem unit_dvd : ∀ (d : Nat), unitN mo (i + d) ∣ unitN mo i
  | 0 => Nat.dvd_refl _
  | d + 1 => by
    refine Nat.dvd_trans ?_ (unit_dvd d)
    by_cases h : i + d < mo.length
    · rw [unit_step h]; exact Nat.dvd_mul_left ..
    · rw [unit_end (show mo.length ≤ i + (d + 1) by omega)]; exact Nat.one_dvd _
theorem unit_dv (h : i ≤ j) : unitN mo j ∣ unitN mo i := by
  have := unit_dvd (mo := mo) (i := i) (j - i)
  rwa [show i + (j - i) = j by omega] at this
theorem along_top : alongN mo (topN mo) p = topN mo := by unfold alongN; rw [if_pos rfl]
theorem along_of (h : c < topN mo) : alongN mo c p = (c / unitN mo (partN p) + p % 2) * unitN mo (partN p) := by
  unfold alongN; rw [if_neg (by omega)]
theorem div_lt_top (h : c < topN mo) (i : Nat) : c / unitN mo i < topN mo / unitN mo i := by
  obtain ⟨q, hq⟩ := unit_dv (mo := mo) (Nat.zero_le i)
  have hp := unit_pos mo i
  have e : topN mo / unitN mo i = q := by unfold topN; rw [hq, Nat.mul_div_cancel_left _ hp]
  rw [e]
  rw [Nat.div_lt_iff_lt_mul hp, Nat.mul_comm]
  have : topN mo = unitN mo i * q := hq
  omega
theorem top_mul (mo : List Nat) (i : Nat) : topN mo / unitN mo i * unitN mo i = topN mo := Nat.div_mul_cancel (unit_dv (Nat.zero_le i))
theorem along_le (h : c ≤ topN mo) : alongN mo c p ≤ topN mo := by
  by_cases e : c = topN mo
  · rw [e, along_top]; exact Nat.le_refl _
  · rw [along_of (by omega)]
    have h1 := div_lt_top (show c < topN mo by omega) (partN p)
    have h2 := top_mul mo (partN p)
    rw [← h2]
    exact Nat.mul_le_mul_right _ (by omega)
theorem along_mono (h : c ≤ c') (h' : c' ≤ topN mo) : alongN mo c p ≤ alongN mo c' p := by
  by_cases e : c' = topN mo
  · rw [e, along_top]; exact along_le (by omega)
  · rw [along_of (by omega), along_of (by omega)]
    exact Nat.mul_le_mul_right _ (Nat.add_le_add_right (Nat.div_le_div_right h) _)
/-- A measure is not less than the least one along another one: in terms of the numbers ahead. -/
theorem along_iff (h : c < topN mo) : alongN mo c p ≤ c' ↔ c / unitN mo (partN p) + p % 2 ≤ c' / unitN mo (partN p) := by
  rw [along_of h]
  exact (Nat.le_div_iff_mul_le (unit_pos mo _)).symm
/-- What is seen of less numbers. -/
theorem div_coarse (h : i ≤ j) (hc : c' / unitN mo j ≤ c / unitN mo j) : c' / unitN mo i ≤ c / unitN mo i := by
  obtain ⟨q, hq⟩ := unit_dv (mo := mo) h
  rw [hq, ← Nat.div_div_eq_div_mul, ← Nat.div_div_eq_div_mul]
  exact Nat.div_le_div_right hc
end

/-! Numbers written by digits. -/
/-- The number of the first i digits. -/
def preN (mo : List Nat) (f : Nat → Nat) : Nat → Nat
  | 0 => 0
  | i + 1 => preN mo f i * (mo.getD i 0 + 1) + f i
section
variable {mo : List Nat} {f g : Nat → Nat}
theorem pre_rest (hf : ∀ i, i < mo.length → f i ≤ mo.getD i 0) : ∀ (d i : Nat), i + d = mo.length → ∃ r, preN mo f mo.length = preN mo f i * unitN mo i + r ∧ r < unitN mo i
  | 0, i, h => by
    have e : i = mo.length := h
    subst e
    refine ⟨0, ?_, unit_pos _ _⟩
    rw [unit_end (Nat.le_refl _)]; omega
  | d + 1, i, h => by
    obtain ⟨r, h1, h2⟩ := pre_rest hf d (i + 1) (by omega)
    have hi : i < mo.length := by omega
    have h3 := hf i hi
    have hs := unit_step hi
    refine ⟨f i * unitN mo (i + 1) + r, ?_, ?_⟩
    · rw [h1, hs]
      show (preN mo f i * (mo.getD i 0 + 1) + f i) * unitN mo (i + 1) + r = _
      rw [Nat.add_mul, Nat.mul_assoc]; omega
    · rw [hs, Nat.add_mul, Nat.one_mul]
      have := Nat.mul_le_mul_right (unitN mo (i + 1)) h3
      omega
theorem pre_div (hf : ∀ i, i < mo.length → f i ≤ mo.getD i 0) {i : Nat} (hi : i ≤ mo.length) : preN mo f mo.length / unitN mo i = preN mo f i := by
  obtain ⟨r, h1, h2⟩ := pre_rest hf (mo.length - i) i (by omega)
  rw [h1, Nat.mul_comm, Nat.mul_add_div (unit_pos mo i), Nat.div_eq_of_lt h2]; rfl
theorem pre_lt (hf : ∀ i, i < mo.length → f i ≤ mo.getD i 0) : preN mo f mo.length < topN mo := by
  obtain ⟨r, h1, h2⟩ := pre_rest hf mo.length 0 (by omega)
  unfold topN
  rw [h1]
  show 0 * _ + r < _
  omega
theorem pre_mono : ∀ (m : Nat), (∀ i, i < m → g i ≤ f i) → preN mo g m ≤ preN mo f m
  | 0, _ => Nat.le_refl _
  | m + 1, h => Nat.add_le_add (Nat.mul_le_mul_right _ (pre_mono m fun i hi => h i (by omega))) (h m (by omega))
theorem pre_strict {m : Nat} (h : ∀ i, i < m → g i ≤ f i) (h1 : g m + 1 ≤ f m) : preN mo g (m + 1) + 1 ≤ preN mo f (m + 1) := by
  have := Nat.mul_le_mul_right (mo.getD m 0 + 1) (pre_mono (mo := mo) m h)
  show preN mo g m * (mo.getD m 0 + 1) + g m + 1 ≤ preN mo f m * (mo.getD m 0 + 1) + f m
  omega
end

end Go.Proofs.Ytijkjhcigdfdgaa
