/- Zipping, plain: what the loops keep. -/
import Derived.Test.YtgjpdnaeldpdeaaWd3
import Derived.Test.YtgjpdnaeldpdeaaWdBase
namespace Go.Proofs.Ytgjpdnaeldpdeaa

/-- The first k letters of the zipped word. -/
def zipT (a b : Ls) (t : List (List Int)) (k : Nat) : List Int := (List.range k).map (zipW a b t)
theorem zipT_len (a b : Ls) (t : List (List Int)) (k : Nat) : (zipT a b t k).length = k := by simp [zipT]
theorem zipT_succ (a b : Ls) (t : List (List Int)) (k : Nat) : zipT a b t (k + 1) = zipT a b t k ++ [zipW a b t k] := by simp [zipT, List.range_succ]
theorem zipT_split (a b : Ls) (t : List (List Int)) (n : Nat) : (⟨(zipT a b t (zipS a b + n)).take (zipS a b), (zipT a b t (zipS a b + n)).drop (zipS a b)⟩ : Ls) = zipN a b t n := by
  unfold zipN
  congr 1
  · refine list_eq_getD (by simp [zipT]) fun i hi => ?_
    simp [zipT] at hi
    simp [zipT, List.getD, hi]
  · refine list_eq_getD (by simp [zipT]) fun i hi => ?_
    simp [zipT] at hi
    simp [zipT, List.getD, hi]

/-- There is an element of the table for the letters at i. -/
def zipIn (a b : Ls) (t : List (List Int)) (i : Nat) : Bool := decide ((atL a i).toNat < t.length) && decide ((atL b i).toNat < (t.getD (atL a i).toNat []).length)
theorem zipOk_in (a b : Ls) (t : List (List Int)) (i : Nat) : zipOk a b t i = (zipIn a b t i && letB (zipW a b t i)) := rfl

theorem zip_bad {a b : Ls} {t : List (List Int)} {n i : Nat} (hi : i < zipS a b + n) (h : zipOk a b t i = false) : zipAll a b t n = false :=
  List.all_eq_false.2 ⟨i, List.mem_range.2 hi, by rw [h]; simp⟩
theorem zip_good {a b : Ls} {t : List (List Int)} {n : Nat} (h : ∀ i, i < zipS a b + n → zipOk a b t i = true) : zipAll a b t n = true :=
  List.all_eq_true.2 fun i hi => h i (List.mem_range.1 hi)
theorem zip_letters {a b : Ls} {t : List (List Int)} {n : Nat} (h : ∀ i, i < zipS a b + n → zipIn a b t i = true) : belB 64 (zipT a b t (zipS a b + n)) = zipAll a b t n := by
  rw [belB_let]
  unfold zipT zipAll
  rw [Bool.eq_iff_iff, List.all_eq_true, List.all_eq_true]
  constructor
  · intro h2 i hi
    rw [zipOk_in, h i (List.mem_range.1 hi), Bool.true_and]
    exact h2 _ (List.mem_map_of_mem hi)
  · intro h2 x hx
    obtain ⟨i, hi, rfl⟩ := List.mem_map.1 hx
    have := h2 i hi
    rw [zipOk_in, Bool.and_eq_true] at this
    exact this.2

theorem letters_nat {a : Ls} (hf : formB a = true) (i : Nat) : ∃ n : Nat, atL a i = (n : Int) ∧ n < 64 := by
  have h := (letters_iff (form_pos hf)).1 ⟨((formB_iff a).1 hf).2.2.2.1, ((formB_iff a).1 hf).2.2.2.2⟩ i
  have := (letB_iff _).1 h
  exact ⟨(atL a i).toNat, by omega, by omega⟩

theorem zipI_l {a b : Ls} {t : List (List Int)} (h : formB a = false) : zipI a b t = zeroL := if_neg (by rw [h]; simp)
theorem zipI_r {a b : Ls} {t : List (List Int)} (h : formB b = false) : zipI a b t = zeroL := if_neg (by rw [h]; simp)
theorem zipI_yes {a b : Ls} {t : List (List Int)} {n : Nat} (hfa : formB a = true) (hfb : formB b = true) (hn : 0 < n) (ha : n % a.loop.length = 0) (hb : n % b.loop.length = 0) (h : zipAll a b t n = true) : zipI a b t = shortL (zipN a b t n) := by
  rw [zipI_eq hfa hfb hn ha hb, if_pos h]
theorem zipI_no {a b : Ls} {t : List (List Int)} {n : Nat} (hfa : formB a = true) (hfb : formB b = true) (hn : 0 < n) (ha : n % a.loop.length = 0) (hb : n % b.loop.length = 0) (h : zipAll a b t n = false) : zipI a b t = zeroL := by
  rw [zipI_eq hfa hfb hn ha hb, if_neg (by rw [h]; simp)]

theorem zipW_I64 {a b : Ls} {t : List (List Int)} (h : ∀ k, k < t.length → ∀ z ∈ t.getD k [], I64 z) (i : Nat) : I64 (zipW a b t i) := by
  unfold zipW
  rcases Nat.lt_or_ge (atL a i).toNat t.length with h1 | h1
  · rcases Nat.lt_or_ge (atL b i).toNat (t.getD (atL a i).toNat []).length with h2 | h2
    · have := h _ h1
      generalize t.getD (atL a i).toNat [] = row at *
      rw [getD_lt _ _ _ h2]
      exact this _ (List.getElem_mem h2)
    · generalize t.getD (atL a i).toNat [] = row at *
      simp [List.getD, Nat.not_lt.2 h2, I64]
  · have : t.getD (atL a i).toNat [] = [] := by simp [List.getD, Nat.not_lt.2 h1]
    rw [this]; simp [I64]

end Go.Proofs.Ytgjpdnaeldpdeaa
