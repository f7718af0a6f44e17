/- What the functions on words compute, and their laws, in plain lists. -/
import Derived.Test.YtgjpdnaeldpdeaaWd2
namespace Go.Proofs.Ytgjpdnaeldpdeaa

def atI (w : Ls) (i : Int) : Int := if 0 ≤ i ∧ formB w = true then atL w i.toNat else -1
def normalI (w : Ls) : Ls := if formB w = true then normL w else zeroL
def sameI (a b : Ls) : Bool := formB a && formB b && decide (normL a = normL b)
def suffixI (w : Ls) (n : Int) : Ls := if 0 ≤ n ∧ formB w = true then suffixL w n.toNat else zeroL
def prefixI (w : Ls) (n : Int) : List Int := if 1 ≤ n ∧ n ≤ 500 ∧ formB w = true then prefixL w n.toNat else []
def pushI (l : List Int) (w : Ls) : Ls := if formB w = true ∧ l.all letB = true then shortL (pushR l w) else zeroL
def validI (k : Int) (w : Ls) : Bool := formB w && w.stem.all (fun x => decide (x < k)) && w.loop.all (fun x => decide (x < k))

theorem form_pos {w : Ls} (h : formB w = true) : 0 < w.loop.length := ((formB_iff w).1 h).2.1

theorem pushR_pos (l : List Int) {w : Ls} (h : 0 < w.loop.length) : 0 < (pushR l w).loop.length := h

/-- A formed lasso with the letters of another one: that one's normal lasso is formed. -/
theorem short_of {w : Ls} (_hl : 0 < w.loop.length) (h : formB (normL w) = true) : shortL w = normL w := if_pos h
theorem short_pos {w : Ls} (h : 0 < (shortL w).loop.length) : formB (normL w) = true ∧ shortL w = normL w := by
  unfold shortL at *
  by_cases hc : formB (normL w) = true
  · exact ⟨hc, if_pos hc⟩
  · rw [if_neg hc] at h; simp [zeroL] at h
theorem short_same {v w : Ls} (hv : 0 < v.loop.length) (hw : 0 < w.loop.length) (h : ∀ i, atL v i = atL w i) : shortL v = shortL w := by
  unfold shortL
  rw [normL_same hv hw h]

/-- The normal lasso of a suffix of a formed one is formed. -/
theorem suffix_formed {w : Ls} (h : formB w = true) (n : Nat) : formB (suffixL w n) = true := by
  obtain ⟨h1, h2, h3, h4, h5⟩ := (formB_iff w).1 h
  have hp := fromL_pos (form_pos h) n
  obtain ⟨n1, n2, n3, n4⟩ := normL_spec hp
  have h6 := (letters_iff (form_pos h)).1 ⟨h4, h5⟩
  have h7 := (letters_iff (w := suffixL w n) n1.pos).2 (fun i => by rw [suffix_word (form_pos h)]; exact h6 _)
  have hs : (fromL w n).stem.length ≤ w.stem.length ∧ (fromL w n).loop.length = w.loop.length := by
    unfold fromL
    split
    · exact ⟨by simp, rfl⟩
    · exact ⟨by simp, turnL_len _ _⟩
  have hp2 := n1.pos
  exact (formB_iff _).2 ⟨Nat.le_trans n3 (by omega), hp2, Nat.le_trans n4 (by omega), h7.1, h7.2⟩

/-- The normal lasso of words that a formed lasso has too. -/
theorem norm_formed_of {v w : Ls} (hv : 0 < v.loop.length) (hw : formB w = true) (h : ∀ i, atL v i = atL w i) : formB (normL v) = true := by
  rw [normL_same hv (form_pos hw) h]
  exact norm_formed hw

/-! The laws. -/

theorem same_agree {a b : Ls} (ha : formB a = true) (hb : formB b = true) : sameI a b = true ↔ ∀ i, i < 140 → atL a i = atL b i := by
  obtain ⟨a1, a2, a3, _⟩ := (formB_iff a).1 ha
  obtain ⟨b1, b2, b3, _⟩ := (formB_iff b).1 hb
  simp only [sameI, ha, hb, Bool.true_and, decide_eq_true_eq, normL_iff (form_pos ha) (form_pos hb)]
  exact ⟨fun h i _ => h i, lasso_agree (by omega) (by omega) (by omega)⟩

theorem same_symm (a b : Ls) : sameI a b = sameI b a := by
  unfold sameI
  rw [Bool.and_comm (formB a)]
  congr 1
  rw [Bool.eq_iff_iff, decide_eq_true_eq, decide_eq_true_eq]
  exact ⟨Eq.symm, Eq.symm⟩

theorem same_norm {a : Ls} (ha : formB a = true) : sameI a (normL a) = true := by
  simp [sameI, ha, norm_formed ha, normL_idem (form_pos ha)]

/-- The loop of a normal lasso is no repetition. -/
theorem normal_reps {w : Ls} (h : NormalL w) {k : Nat} (h0 : 0 < k) (h1 : k < w.loop.length) : repsB w.loop k = false := by
  cases hr : repsB w.loop k with
  | false => rfl
  | true => exact absurd (per_of_reps hr h0 h.pos) (h.min k h0 h1)

theorem push_pos {l : List Int} {w : Ls} (h : 0 < (pushI l w).loop.length) : formB w = true ∧ l.all letB = true ∧ formB (normL (pushR l w)) = true ∧ pushI l w = normL (pushR l w) := by
  unfold pushI at *
  by_cases hc : formB w = true ∧ l.all letB = true
  · rw [if_pos hc] at h ⊢
    obtain ⟨h1, h2⟩ := short_pos h
    exact ⟨hc.1, hc.2, h1, h2⟩
  · rw [if_neg hc] at h; simp [zeroL] at h

theorem push_prefix_law {l : List Int} {w : Ls} (h : 0 < (pushI l w).loop.length) (hl : l.length ≤ 500) : prefixI (pushI l w) l.length = l := by
  obtain ⟨h1, h2, h3, h4⟩ := push_pos h
  rw [h4]
  unfold prefixI
  by_cases h0 : l.length = 0
  · rw [if_neg (by omega)]; exact (List.eq_nil_of_length_eq_zero h0).symm
  · rw [if_pos ⟨by omega, by omega, h3⟩, Int.toNat_natCast]
    apply List.ext_getElem (by simp [prefixL])
    intro i hi1 hi2
    simp only [prefixL, List.getElem_map, List.getElem_range]
    rw [(normL_spec (w := pushR l w) (pushR_pos _ (form_pos h1))).2.1, push_word, if_pos hi2]
    simp [List.getD, hi2]

theorem push_suffix_law {l : List Int} {w : Ls} (h : 0 < (pushI l w).loop.length) : sameI (suffixI (pushI l w) l.length) w = true := by
  obtain ⟨h1, h2, h3, h4⟩ := push_pos h
  rw [h4]
  unfold suffixI
  rw [if_pos ⟨by omega, h3⟩, Int.toNat_natCast]
  have hp := form_pos h3
  have hf := suffix_formed h3 l.length
  simp only [sameI, hf, h1, Bool.true_and, decide_eq_true_eq]
  rw [normL_iff (form_pos hf) (form_pos h1)]
  intro i
  rw [suffix_word hp, (normL_spec (w := pushR l w) (pushR_pos _ (form_pos h1))).2.1, push_word, if_neg (by omega)]
  congr 1
  omega

theorem push_push {a b : List Int} {w : Ls} (h : 0 < (pushI b w).loop.length) : pushI a (pushI b w) = pushI (a ++ b) w := by
  obtain ⟨h1, h2, h3, h4⟩ := push_pos h
  rw [h4]
  unfold pushI
  by_cases ha : a.all letB = true
  · rw [if_pos ⟨h3, ha⟩, if_pos ⟨h1, by rw [List.all_append, ha, h2]; rfl⟩]
    refine short_same (pushR_pos _ (form_pos h3)) (pushR_pos _ (form_pos h1)) fun i => ?_
    rw [push_word, push_word, List.length_append, (normL_spec (w := pushR b w) (pushR_pos _ (form_pos h1))).2.1, push_word]
    by_cases c1 : i < a.length
    · rw [if_pos c1, if_pos (by omega)]; simp [List.getD, List.getElem?_append_left c1]
    · rw [if_neg c1]
      by_cases c2 : i < a.length + b.length
      · rw [if_pos c2, if_pos (by omega)]
        simp only [List.getD]
        rw [List.getElem?_append_right (by omega)]
      · rw [if_neg c2, if_neg (by omega)]
        congr 1
        omega
  · rw [if_neg (fun c => ha c.2), if_neg (fun c => ha (by have := c.2; rw [List.all_append, Bool.and_eq_true] at this; exact this.1))]

theorem push_both {a b : List Int} {w : Ls} (h : 0 < (pushI (a ++ b) w).loop.length) : 0 < (pushI b w).loop.length := by
  obtain ⟨h1, h2, h3, h4⟩ := push_pos h
  rw [List.all_append, Bool.and_eq_true] at h2
  have hp := form_pos h3
  have hs := suffix_formed h3 a.length
  have hword : ∀ i, atL (pushR b w) i = atL (suffixL (normL (pushR (a ++ b) w)) a.length) i := fun i => by
    rw [suffix_word hp, (normL_spec (w := pushR (a ++ b) w) (pushR_pos _ (form_pos h1))).2.1, push_word, push_word, List.length_append]
    by_cases c1 : i < b.length
    · rw [if_pos c1, if_pos (by omega)]
      simp only [List.getD]
      rw [List.getElem?_append_right (by omega)]
      congr 2
      omega
    · rw [if_neg c1, if_neg (by omega)]
      congr 1
      omega
  have hf : formB (normL (pushR b w)) = true := norm_formed_of (pushR_pos _ (form_pos h1)) hs hword
  unfold pushI
  rw [if_pos ⟨h1, h2.2⟩, shortL, if_pos hf]
  exact form_pos hf

theorem push_prefix_all {w : Ls} (h : formB w = true) {n : Int} (h0 : 0 ≤ n) (h1 : n ≤ 500) : pushI (prefixI w n) (suffixI w n) = normL w := by
  obtain ⟨n, rfl⟩ : ∃ k : Nat, n = k := ⟨n.toNat, by omega⟩
  have hsx : suffixI w n = suffixL w n := by unfold suffixI; rw [if_pos ⟨h0, h⟩, Int.toNat_natCast]
  have hpx : prefixI w n = prefixL w n := by
    unfold prefixI
    by_cases hn : n = 0
    · subst hn; rw [if_neg (by omega)]; rfl
    · rw [if_pos ⟨by omega, h1, h⟩, Int.toNat_natCast]
  obtain ⟨f1, f2, f3, f4, f5⟩ := (formB_iff w).1 h
  have hlet := (letters_iff (form_pos h)).1 ⟨f4, f5⟩
  have hall : (prefixL w n).all letB = true := by
    rw [List.all_eq_true]
    intro x hx
    obtain ⟨i, _, rfl⟩ := List.mem_map.1 hx
    exact hlet i
  rw [hsx, hpx]
  unfold pushI
  rw [if_pos ⟨suffix_formed h n, hall⟩, shortL, push_prefix (form_pos h), if_pos (norm_formed h)]

/-! Zipping. -/

def zipW (a b : Ls) (t : List (List Int)) (i : Nat) : Int := (t.getD (atL a i).toNat []).getD (atL b i).toNat 0
def zipOk (a b : Ls) (t : List (List Int)) (i : Nat) : Bool := decide ((atL a i).toNat < t.length) && decide ((atL b i).toNat < (t.getD (atL a i).toNat []).length) && letB (zipW a b t i)
def zipS (a b : Ls) : Nat := max a.stem.length b.stem.length
def zipN (a b : Ls) (t : List (List Int)) (n : Nat) : Ls := ⟨(List.range (zipS a b)).map (zipW a b t), (List.range n).map fun i => zipW a b t (zipS a b + i)⟩
def zipAll (a b : Ls) (t : List (List Int)) (n : Nat) : Bool := (List.range (zipS a b + n)).all (zipOk a b t)
def zipI (a b : Ls) (t : List (List Int)) : Ls := if formB a = true ∧ formB b = true ∧ zipAll a b t (a.loop.length * b.loop.length) = true then shortL (zipN a b t (a.loop.length * b.loop.length)) else zeroL

theorem both_per {a b : Ls} {n : Nat} (ha : n % a.loop.length = 0) (hb : n % b.loop.length = 0) : Per (atL a) (zipS a b) n ∧ Per (atL b) (zipS a b) n := by
  constructor
  · obtain ⟨k, rfl⟩ := Nat.dvd_of_mod_eq_zero ha
    rw [Nat.mul_comm]
    exact ((atL_per a).mul k).mono (Nat.le_max_left _ _)
  · obtain ⟨k, rfl⟩ := Nat.dvd_of_mod_eq_zero hb
    rw [Nat.mul_comm]
    exact ((atL_per b).mul k).mono (Nat.le_max_right _ _)

theorem zip_word {a b : Ls} {t : List (List Int)} {n : Nat} (hn : 0 < n) (ha : n % a.loop.length = 0) (hb : n % b.loop.length = 0) (i : Nat) : atL (zipN a b t n) i = zipW a b t i := by
  obtain ⟨p1, p2⟩ := both_per ha hb
  unfold atL zipN
  simp only [List.length_map, List.length_range]
  split
  · rename_i h; simp [List.getD, h]
  · rename_i h
    have hm := Nat.mod_lt (i - zipS a b) hn
    simp only [List.getD, List.getElem?_map, List.getElem?_range, hm, Option.map_some, Option.getD_some]
    have e : i = zipS a b + (i - zipS a b) % n + (i - zipS a b) / n * n := by have := Nat.mod_add_div (i - zipS a b) n; rw [Nat.mul_comm] at this; omega
    have q1 := p1.mul ((i - zipS a b) / n) (zipS a b + (i - zipS a b) % n) (by omega)
    have q2 := p2.mul ((i - zipS a b) / n) (zipS a b + (i - zipS a b) % n) (by omega)
    rw [← e] at q1 q2
    unfold zipW
    rw [q1, q2]

theorem zipAll_iff {a b : Ls} {t : List (List Int)} {n : Nat} (hn : 0 < n) (ha : n % a.loop.length = 0) (hb : n % b.loop.length = 0) : zipAll a b t n = true ↔ ∀ i, zipOk a b t i = true := by
  obtain ⟨p1, p2⟩ := both_per ha hb
  unfold zipAll
  rw [List.all_eq_true]
  simp only [List.mem_range]
  constructor
  · intro h i
    rcases Nat.lt_or_ge i (zipS a b + n) with hi | hi
    · exact h i hi
    · have hm := Nat.mod_lt (i - zipS a b) hn
      have e : i = zipS a b + (i - zipS a b) % n + (i - zipS a b) / n * n := by have := Nat.mod_add_div (i - zipS a b) n; rw [Nat.mul_comm] at this; omega
      have q1 := p1.mul ((i - zipS a b) / n) (zipS a b + (i - zipS a b) % n) (by omega)
      have q2 := p2.mul ((i - zipS a b) / n) (zipS a b + (i - zipS a b) % n) (by omega)
      rw [← e] at q1 q2
      have := h (zipS a b + (i - zipS a b) % n) (by omega)
      unfold zipOk zipW at *
      rw [q1, q2]
      exact this
  · intro h i _
    exact h i

/-- Whatever common multiple is taken. -/
theorem zipI_eq {a b : Ls} {t : List (List Int)} {n : Nat} (hfa : formB a = true) (hfb : formB b = true) (hn : 0 < n) (ha : n % a.loop.length = 0) (hb : n % b.loop.length = 0) :
    zipI a b t = if zipAll a b t n = true then shortL (zipN a b t n) else zeroL := by
  have hp : 0 < a.loop.length * b.loop.length := Nat.mul_pos (form_pos hfa) (form_pos hfb)
  have h1 : a.loop.length * b.loop.length % a.loop.length = 0 := Nat.mul_mod_right _ _
  have h2 : a.loop.length * b.loop.length % b.loop.length = 0 := Nat.mul_mod_left _ _
  have hiff : zipAll a b t (a.loop.length * b.loop.length) = true ↔ zipAll a b t n = true := (zipAll_iff hp h1 h2).trans (zipAll_iff hn ha hb).symm
  have hs : shortL (zipN a b t (a.loop.length * b.loop.length)) = shortL (zipN a b t n) :=
    short_same (by simpa [zipN] using hp) (by simpa [zipN] using hn) fun i => (zip_word hp h1 h2 i).trans (zip_word hn ha hb i).symm
  unfold zipI
  by_cases h : zipAll a b t n = true
  · rw [if_pos ⟨hfa, hfb, hiff.2 h⟩, if_pos h, hs]
  · rw [if_neg (fun c => h (hiff.1 c.2.2)), if_neg h]

theorem zip_pos {a b : Ls} {t : List (List Int)} (h : 0 < (zipI a b t).loop.length) : formB a = true ∧ formB b = true ∧ (∀ i, zipOk a b t i = true) ∧ formB (zipI a b t) = true ∧ NormalL (zipI a b t) ∧ ∀ i, atL (zipI a b t) i = zipW a b t i := by
  unfold zipI at *
  by_cases hc : formB a = true ∧ formB b = true ∧ zipAll a b t (a.loop.length * b.loop.length) = true
  · rw [if_pos hc] at h ⊢
    obtain ⟨hfa, hfb, hall⟩ := hc
    have hp : 0 < a.loop.length * b.loop.length := Nat.mul_pos (form_pos hfa) (form_pos hfb)
    have h1 : a.loop.length * b.loop.length % a.loop.length = 0 := Nat.mul_mod_right _ _
    have h2 : a.loop.length * b.loop.length % b.loop.length = 0 := Nat.mul_mod_left _ _
    obtain ⟨s1, s2⟩ := short_pos h
    have hz : 0 < (zipN a b t (a.loop.length * b.loop.length)).loop.length := by simpa [zipN] using hp
    rw [s2]
    exact ⟨hfa, hfb, (zipAll_iff hp h1 h2).1 hall, s1, (normL_spec hz).1, fun i => ((normL_spec hz).2.1 i).trans (zip_word hp h1 h2 i)⟩
  · rw [if_neg hc] at h; simp [zeroL] at h

theorem zip_of_word {a b v : Ls} {t : List (List Int)} (hfa : formB a = true) (hfb : formB b = true) (hv : formB v = true) (hok : ∀ i, zipOk a b t i = true) (h : ∀ i, atL v i = zipW a b t i) : zipI a b t = normL v := by
  have hp : 0 < a.loop.length * b.loop.length := Nat.mul_pos (form_pos hfa) (form_pos hfb)
  have h1 : a.loop.length * b.loop.length % a.loop.length = 0 := Nat.mul_mod_right _ _
  have h2 : a.loop.length * b.loop.length % b.loop.length = 0 := Nat.mul_mod_left _ _
  have hz : 0 < (zipN a b t (a.loop.length * b.loop.length)).loop.length := by simpa [zipN] using hp
  have hw : ∀ i, atL (zipN a b t (a.loop.length * b.loop.length)) i = atL v i := fun i => (zip_word hp h1 h2 i).trans (h i).symm
  unfold zipI
  rw [if_pos ⟨hfa, hfb, (zipAll_iff hp h1 h2).2 hok⟩, shortL, normL_same hz (form_pos hv) hw, if_pos (norm_formed hv)]

theorem zip_suffix {a b : Ls} {t : List (List Int)} (h : 0 < (zipI a b t).loop.length) (k : Nat) : suffixL (zipI a b t) k = zipI (suffixL a k) (suffixL b k) t := by
  obtain ⟨hfa, hfb, hok, hfz, hnz, hw⟩ := zip_pos h
  have hsf := suffix_formed hfz k
  rw [zip_of_word (v := suffixL (zipI a b t) k) (suffix_formed hfa k) (suffix_formed hfb k) hsf ?_ ?_]
  · exact (normL_idem (fromL_pos (form_pos hfz) k)).symm
  · intro i
    have := hok (k + i)
    unfold zipOk zipW at *
    rwa [suffix_word (form_pos hfa), suffix_word (form_pos hfb)]
  · intro i
    rw [suffix_word (form_pos hfz), hw]
    unfold zipW
    rw [suffix_word (form_pos hfa), suffix_word (form_pos hfb)]

/-- The table whose elements are their row numbers. -/
def firstT : List (List Int) := (List.range 64).map fun (i : Nat) => List.replicate 64 (i : Int)

theorem letB_iff (x : Int) : letB x = true ↔ 0 ≤ x ∧ x < 64 := by simp [letB]

theorem first_get {x y : Int} (hx : letB x = true) (hy : letB y = true) : x.toNat < firstT.length ∧ y.toNat < (firstT.getD x.toNat []).length ∧ (firstT.getD x.toNat []).getD y.toNat 0 = x := by
  rw [letB_iff] at hx hy
  have h1 : x.toNat < 64 := by omega
  have e : firstT.getD x.toNat [] = List.replicate 64 x := by
    simp only [firstT, List.getD, List.getElem?_map, List.getElem?_range, h1, Option.map_some, Option.getD_some]
    congr 1
    omega
  refine ⟨by simpa [firstT] using h1, by rw [e]; simp; omega, ?_⟩
  rw [e]
  have h2 : y.toNat < 64 := by omega
  unfold List.getD
  rw [List.getElem?_replicate, if_pos h2]
  rfl

theorem zip_first {a b : Ls} (hfa : formB a = true) (hfb : formB b = true) : sameI (zipI a b firstT) a = true := by
  obtain ⟨_, _, _, f4, f5⟩ := (formB_iff a).1 hfa
  obtain ⟨_, _, _, g4, g5⟩ := (formB_iff b).1 hfb
  have la := (letters_iff (form_pos hfa)).1 ⟨f4, f5⟩
  have lb := (letters_iff (form_pos hfb)).1 ⟨g4, g5⟩
  have hw : ∀ i, zipW a b firstT i = atL a i := fun i => (first_get (la i) (lb i)).2.2
  rw [zip_of_word (v := a) hfa hfb hfa (fun i => by
    obtain ⟨h1, h2, h3⟩ := first_get (la i) (lb i)
    unfold zipOk
    rw [hw i, decide_eq_true h1, decide_eq_true h2, la i]
    rfl) (fun i => (hw i).symm), same_symm]
  exact same_norm hfa

end Go.Proofs.Ytgjpdnaeldpdeaa
