/- All strategies within a set, by numbers (plain). -/
import Derived.Test.YtjhafakkadnfmaaSo25
namespace Go.Proofs.Ytjhafakkadnfmaa
open Go.RowKit

/-- The successors within a set of a position of the set that belongs to a player. -/
def chR (g : Gm) (p : Int) (s : List Bool) (i : Nat) : List Int := if s.getD i false && decide (g.owner.getD i 0 = p) then (g.succ.getD i []).filter (inS s) else []
def chL (g : Gm) (p : Int) (s : List Bool) (n : Nat) : List (List Int) := (List.range n).map (chR g p s)
theorem chL_len (g : Gm) (p : Int) (s : List Bool) (n : Nat) : (chL g p s n).length = n := by simp [chL]
theorem chL_at (g : Gm) (p : Int) (s : List Bool) (n i : Nat) (h : i < n) : (chL g p s n).getD i [] = chR g p s i := by simp [chL, List.getD, h]

/-- How many strategies there are for the first positions. -/
def totK (all : List (List Int)) : Nat → Nat
  | 0 => 1
  | k + 1 => totK all k * max (all.getD k []).length 1
/-- The strategy of a number, and what is left of the number, for the first positions. -/
def stK (all : List (List Int)) (m : Nat) : Nat → List Int × Nat
  | 0 => ([], m)
  | k + 1 => if (all.getD k []).length = 0 then ((stK all m k).1 ++ [-1], (stK all m k).2)
      else ((stK all m k).1 ++ [(all.getD k []).getD ((stK all m k).2 % (all.getD k []).length) 0], (stK all m k).2 / (all.getD k []).length)
theorem stK_len (all : List (List Int)) (m k : Nat) : (stK all m k).1.length = k := by
  induction k with
  | zero => rfl
  | succ k ih => rw [stK]; split <;> simp [ih]
theorem stK_le (all : List (List Int)) (m k : Nat) : (stK all m k).2 ≤ m := by
  induction k with
  | zero => exact Nat.le_refl _
  | succ k ih => rw [stK]; split; exact ih; exact Nat.le_trans (Nat.div_le_self _ _) ih
theorem totK_pos (all : List (List Int)) (k : Nat) : 0 < totK all k := by
  induction k with
  | zero => exact Nat.zero_lt_one
  | succ k ih => exact Nat.mul_pos ih (by omega)
theorem totK_le (all : List (List Int)) (k : Nat) (h : ∀ i, (all.getD i []).length ≤ 3) : totK all k ≤ 3 ^ k := by
  induction k with
  | zero => exact Nat.le_refl _
  | succ k ih => rw [totK, Nat.pow_succ]; exact Nat.mul_le_mul ih (by have := h k; omega)
theorem totK_le7 (all : List (List Int)) (k : Nat) (hk : k ≤ 7) (h : ∀ i, (all.getD i []).length ≤ 3) : totK all k ≤ 2187 :=
  Nat.le_trans (totK_le all k h) (Nat.le_trans (Nat.pow_le_pow_right (by omega) hk) (by decide))

theorem getD_appL (l : List Int) (x : Int) (k i : Nat) (h : l.length = k) (hi : i < k) : (l ++ [x]).getD i 0 = l.getD i 0 := by
  simp only [List.getD]; rw [List.getElem?_append_left (by omega)]
theorem getD_appR (l : List Int) (x : Int) (k : Nat) (h : l.length = k) : (l ++ [x]).getD k 0 = x := by
  simp only [List.getD]; rw [List.getElem?_append_right (by omega), h]; simp
/-- Each way to choose has a number. -/
theorem st_has (all : List (List Int)) (c : Nat → Int) (hc : ∀ i, all.getD i [] ≠ [] → c i ∈ all.getD i []) (k : Nat) :
    ∃ m, m < totK all k ∧ ∀ r, (stK all (m + totK all k * r) k).2 = r ∧ ∀ i, i < k → all.getD i [] ≠ [] → (stK all (m + totK all k * r) k).1.getD i 0 = c i := by
  induction k with
  | zero => exact ⟨0, Nat.zero_lt_one, fun r => ⟨by simp [stK, totK], fun i hi => absurd hi (by omega)⟩⟩
  | succ k ih =>
    obtain ⟨m, hm, h⟩ := ih
    by_cases he : (all.getD k []).length = 0
    · have e0 : all.getD k [] = [] := List.eq_nil_of_length_eq_zero he
      refine ⟨m, by rw [totK, he]; simpa using hm, fun r => ?_⟩
      have e1 : totK all (k + 1) = totK all k := by rw [totK, he]; simp
      rw [e1, stK, if_pos he]
      refine ⟨(h r).1, fun i hi hne => ?_⟩
      have hik : i < k := by
        rcases Nat.lt_or_ge i k with h1 | h1
        · exact h1
        · obtain rfl : i = k := by omega
          exact absurd e0 hne
      rw [getD_appL _ _ k i (stK_len _ _ _) hik]
      exact (h r).2 i hik hne
    · have hne : all.getD k [] ≠ [] := fun e => he (by rw [e]; rfl)
      obtain ⟨d, hd, hdc⟩ := List.getElem_of_mem (hc k hne)
      have hmax : max (all.getD k []).length 1 = (all.getD k []).length := by omega
      refine ⟨m + totK all k * d, ?_, fun r => ?_⟩
      · rw [totK, hmax]
        have h1 : totK all k * (d + 1) ≤ totK all k * (all.getD k []).length := Nat.mul_le_mul_left _ hd
        rw [Nat.mul_add, Nat.mul_one] at h1
        omega
      · have e1 : m + totK all k * d + totK all (k + 1) * r = m + totK all k * (d + (all.getD k []).length * r) := by
          rw [totK, hmax, Nat.mul_add, Nat.mul_assoc]; omega
        rw [e1, stK, if_neg he]
        obtain ⟨h1, h2⟩ := h (d + (all.getD k []).length * r)
        refine ⟨?_, fun i hi hni => ?_⟩
        · show _ / _ = _
          rw [h1, Nat.add_mul_div_left _ _ (by omega), Nat.div_eq_of_lt hd, Nat.zero_add]
        · rcases Nat.lt_or_ge i k with h3 | h3
          · rw [getD_appL _ _ k i (stK_len _ _ _) h3]
            exact h2 i h3 hni
          · obtain rfl : i = k := by omega
            rw [getD_appR _ _ i (stK_len _ _ _), h1, Nat.add_mul_mod_self_left, Nat.mod_eq_of_lt hd, getD_lt _ _ _ hd]
            exact hdc

/-- A bad cycle of a strategy. -/
def Bad (g : Gm) (p : Int) (s : List Bool) (st : List Int) : Prop :=
  ∃ (k : Int) (i : Nat), Lost p k ∧ setOf s i ∧ pri g i = k ∧ Plus (Step g p (setOf s) (fun i => (st.getD i 0).toNat) k) i i

/-- One of the strategies wins. -/
theorem some_st {g : Gm} (hv : validB g = true) {p : Int} (hp : p = 0 ∨ p = 1) (s : List Bool) (hs : s = setP (solR g) p) :
    ∃ m, m < totK (chL g p s g.owner.length) g.owner.length ∧ ¬ Bad g p s (stK (chL g p s g.owner.length) m g.owner.length).1 := by
  have hset : ∀ i, setOf s i ↔ i < g.owner.length ∧ (solR g).getD i 0 = p := fun i => by
    have hl : s.length = g.owner.length := by rw [hs, setP_len, solR_len hv]
    have hg : i < g.owner.length → (s.getD i false = true ↔ (solR g).getD i 0 = p) := fun hi => by rw [hs, setP_get _ _ _ (by rw [solR_len hv]; exact hi)]; simp
    constructor
    · intro h
      have hi := set_lt h
      rw [hl] at hi
      exact ⟨hi, (hg hi).1 h⟩
    · rintro ⟨hi, h⟩
      exact (hg hi).2 h
  obtain ⟨σ, hD⟩ := (((solR_is g).2 hv).2).dom hp
  have hc : ∀ i, (chL g p s g.owner.length).getD i [] ≠ [] → ((σ i : Nat) : Int) ∈ (chL g p s g.owner.length).getD i [] := fun i hne => by
    rcases Nat.lt_or_ge i g.owner.length with hi | hi
    · rw [chL_at _ _ _ _ _ hi] at hne ⊢
      unfold chR at hne ⊢
      split at hne
      · rename_i h
        rw [if_pos h]
        rw [Bool.and_eq_true, decide_eq_true_eq] at h
        obtain ⟨h1, h2⟩ := hD.mine i ((hset i).1 h.1) h.2
        refine List.mem_filter.2 ⟨h1, ?_⟩
        unfold inS
        rw [Int.toNat_natCast]
        exact (hset _).2 h2
      · exact absurd rfl hne
    · exact absurd (by simp [chL, List.getD, Nat.not_lt.2 hi]) hne
  obtain ⟨m, hm, h⟩ := st_has (chL g p s g.owner.length) (fun i => (σ i : Int)) hc g.owner.length
  refine ⟨m, hm, ?_⟩
  have h0 := (h 0).2
  rw [Nat.mul_zero, Nat.add_zero] at h0
  rintro ⟨k, i, hl, hi, hpk, hcy⟩
  subst hpk
  refine hD.free i ((hset i).1 hi) hl (Plus.mono (fun a b ⟨ha, hb, he, k1, k2, hst⟩ => ⟨(hset a).1 ha, (hset b).1 hb, he, k1, k2, fun ho => ?_⟩) hcy)
  have h1 := hst ho
  obtain ⟨ha1, -⟩ := (hset a).1 ha
  have hne : (chL g p s g.owner.length).getD a [] ≠ [] := by
    rw [chL_at _ _ _ _ _ ha1]
    obtain ⟨h2, h3⟩ := hD.mine a ((hset a).1 ha) ho
    have : ((σ a : Nat) : Int) ∈ chR g p s a := by
      unfold chR
      rw [if_pos (by rw [Bool.and_eq_true, decide_eq_true_eq]; exact ⟨ha, ho⟩)]
      refine List.mem_filter.2 ⟨h2, ?_⟩
      unfold inS
      rw [Int.toNat_natCast]
      exact (hset _).2 h3
    exact List.ne_nil_of_mem this
  dsimp only at h1
  rw [h0 a ha1 hne] at h1
  rw [h1, Int.toNat_natCast]

end Go.Proofs.Ytjhafakkadnfmaa
