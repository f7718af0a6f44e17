/- Measures as lists of digits; the least measure by going up from zero (plain). -/
import Derived.Test.YtijkjhcigdfdgaaQRkP2
namespace Go.Proofs.Ytijkjhcigdfdgaa

/-- The digit i of a number. -/
def digN (mo : List Nat) (c i : Nat) : Nat := c / unitN mo (i + 1) % (mo.getD i 0 + 1)
/-- A measure as it is written: no numbers are top. -/
def digL (mo : List Nat) (c : Nat) : List Int := if c = topN mo then [] else if mo = [] then [0] else (List.range mo.length).map fun i => (digN mo c i : Int)
/-- A list is a measure. -/
def meB (mo : List Nat) (l : List Int) : Bool := decide (l = []) || (decide (mo = []) && decide (l = [0])) || (decide (mo ≠ []) && decide (l.length = mo.length) && (List.range mo.length).all fun i => decide (0 ≤ l.getD i 0) && decide (l.getD i 0 ≤ (mo.getD i 0 : Int)))
/-- The number of a measure. -/
def cdN (mo : List Nat) (l : List Int) : Nat := if l = [] then topN mo else preN mo (fun i => (l.getD i 0).toNat) mo.length
section
variable {mo : List Nat} {c : Nat} {l : List Int}
theorem top_pos (mo : List Nat) : 0 < topN mo := unit_pos mo 0
theorem digN_le (mo : List Nat) (c i : Nat) : digN mo c i ≤ mo.getD i 0 := by
  have := Nat.mod_lt (c / unitN mo (i + 1)) (show 0 < mo.getD i 0 + 1 by omega)
  unfold digN; omega
/-- The digits give the number back. -/
theorem pre_dig : ∀ (i : Nat), i ≤ mo.length → c < topN mo → preN mo (digN mo c) i = c / unitN mo i
  | 0, _, h => by
    show 0 = c / topN mo
    rw [Nat.div_eq_of_lt h]
  | i + 1, hi, h => by
    show preN mo (digN mo c) i * (mo.getD i 0 + 1) + digN mo c i = _
    rw [pre_dig i (by omega) h, unit_step (show i < mo.length by omega), Nat.mul_comm (mo.getD i 0 + 1), ← Nat.div_div_eq_div_mul]
    unfold digN
    have := Nat.mod_add_div (c / unitN mo (i + 1)) (mo.getD i 0 + 1)
    rw [Nat.mul_comm (mo.getD i 0 + 1)] at this
    omega
theorem meB_iff : meB mo l = true ↔ l = [] ∨ (mo = [] ∧ l = [0]) ∨ (mo ≠ [] ∧ l.length = mo.length ∧ ∀ i, i < mo.length → 0 ≤ l.getD i 0 ∧ l.getD i 0 ≤ (mo.getD i 0 : Int)) := by
  simp only [meB, Bool.or_eq_true, Bool.and_eq_true, decide_eq_true_eq, List.all_eq_true, List.mem_range]
  constructor
  · rintro ((h | h) | ⟨⟨h1, h2⟩, h3⟩)
    · exact .inl h
    · exact .inr (.inl h)
    · exact .inr (.inr ⟨h1, h2, h3⟩)
  · rintro (h | h | ⟨h1, h2, h3⟩)
    · exact .inl (.inl h)
    · exact .inl (.inr h)
    · exact .inr ⟨⟨h1, h2⟩, h3⟩
theorem me_dig (h : meB mo l = true) (hl : l ≠ []) : ∀ i, i < mo.length → (l.getD i 0).toNat ≤ mo.getD i 0 := fun i hi => by
  rcases meB_iff.1 h with h | ⟨h, -⟩ | ⟨-, -, h⟩
  · exact absurd h hl
  · subst h; simp at hi
  · have := h i hi; omega
theorem cd_le (h : meB mo l = true) : cdN mo l ≤ topN mo := by
  unfold cdN
  split
  · exact Nat.le_refl _
  · exact Nat.le_of_lt (pre_lt (me_dig h (by assumption)))
theorem cd_top (h : meB mo l = true) : cdN mo l = topN mo ↔ l = [] := by
  unfold cdN
  constructor
  · intro e
    split at e
    · assumption
    · have := pre_lt (me_dig h (by assumption)); omega
  · intro e; rw [if_pos e]
theorem dig_me (mo : List Nat) (c : Nat) : meB mo (digL mo c) = true := by
  rw [meB_iff]
  unfold digL
  by_cases h1 : c = topN mo
  · rw [if_pos h1]; exact .inl rfl
  · rw [if_neg h1]
    by_cases h2 : mo = []
    · rw [if_pos h2]; exact .inr (.inl ⟨h2, rfl⟩)
    · rw [if_neg h2]
      refine .inr (.inr ⟨h2, by simp, fun i hi => ?_⟩)
      have e : ((List.range mo.length).map fun i => (digN mo c i : Int)).getD i 0 = (digN mo c i : Int) := by simp [List.getD, hi]
      rw [e]
      have := digN_le mo c i
      omega
theorem pre_congr {f g : Nat → Nat} : ∀ (m : Nat), (∀ i, i < m → f i = g i) → preN mo f m = preN mo g m
  | 0, _ => rfl
  | m + 1, h => by
    show preN mo f m * _ + f m = preN mo g m * _ + g m
    rw [pre_congr m fun i hi => h i (by omega), h m (by omega)]
theorem cd_dig (h : c ≤ topN mo) : cdN mo (digL mo c) = c := by
  unfold digL
  by_cases h1 : c = topN mo
  · rw [if_pos h1]; exact h1.symm
  · rw [if_neg h1]
    have hlt : c < topN mo := by omega
    by_cases h2 : mo = []
    · subst h2
      have : c = 0 := by have : topN [] = 1 := rfl; omega
      subst this; rfl
    · rw [if_neg h2]
      have hne : ((List.range mo.length).map fun i => (digN mo c i : Int)) ≠ [] := fun e => by
        have := congrArg List.length e
        simp at this
        exact h2 this
      unfold cdN
      rw [if_neg hne, pre_congr (g := digN mo c) _ fun i hi => by simp [List.getD, hi], pre_dig _ (Nat.le_refl _) hlt, unit_end (Nat.le_refl _), Nat.div_one]
theorem pre_inj {f g : Nat → Nat} (hf : ∀ i, i < mo.length → f i ≤ mo.getD i 0) (hg : ∀ i, i < mo.length → g i ≤ mo.getD i 0) : ∀ (m : Nat), m ≤ mo.length → preN mo f m = preN mo g m → ∀ i, i < m → f i = g i
  | 0, _, _, i, hi => by omega
  | m + 1, hm, e, i, hi => by
    have e : preN mo f m * (mo.getD m 0 + 1) + f m = preN mo g m * (mo.getD m 0 + 1) + g m := e
    have h1 := hf m (by omega)
    have h2 := hg m (by omega)
    have e1 : preN mo f m = preN mo g m := by
      have h3 : (preN mo f m * (mo.getD m 0 + 1) + f m) / (mo.getD m 0 + 1) = (preN mo g m * (mo.getD m 0 + 1) + g m) / (mo.getD m 0 + 1) := by rw [e]
      rw [Nat.mul_comm, Nat.mul_add_div (by omega), Nat.div_eq_of_lt (by omega), Nat.mul_comm (preN mo g m), Nat.mul_add_div (by omega), Nat.div_eq_of_lt (by omega)] at h3
      exact h3
    by_cases hi2 : i = m
    · subst hi2; rw [e1] at e; omega
    · exact pre_inj hf hg m (by omega) e1 i (by omega)
theorem cd_inj {l' : List Int} (h : meB mo l = true) (h' : meB mo l' = true) (e : cdN mo l = cdN mo l') : l = l' := by
  by_cases h1 : l = []
  · subst h1
    have : cdN mo ([] : List Int) = topN mo := rfl
    rw [this] at e
    exact ((cd_top h').1 e.symm).symm
  · by_cases h2 : l' = []
    · subst h2
      have : cdN mo ([] : List Int) = topN mo := rfl
      rw [this] at e
      exact absurd ((cd_top h).1 e) h1
    · have d1 := me_dig h h1
      have d2 := me_dig h' h2
      unfold cdN at e
      rw [if_neg h1, if_neg h2] at e
      have e2 := pre_inj d1 d2 _ (Nat.le_refl _) e
      rcases meB_iff.1 h with k | ⟨k, k2⟩ | ⟨k, k2, k3⟩
      · exact absurd k h1
      · rcases meB_iff.1 h' with j | ⟨-, j2⟩ | ⟨j, -⟩
        · exact absurd j h2
        · rw [k2, j2]
        · exact absurd k j
      · rcases meB_iff.1 h' with j | ⟨j, -⟩ | ⟨-, j2, j3⟩
        · exact absurd j h2
        · exact absurd j k
        · apply List.ext_getElem (by omega)
          intro i hi1 hi2
          have q1 := k3 i (by omega)
          have q2 := j3 i (by omega)
          have q3 := e2 i (by omega)
          rw [getD_lt _ _ _ hi1] at q1 q3
          rw [getD_lt _ _ _ hi2] at q2 q3
          omega
theorem dig_cd (h : meB mo l = true) : digL mo (cdN mo l) = l := cd_inj (dig_me mo _) h (cd_dig (cd_le h))
/-- The numbers ahead of a measure. -/
theorem cd_div (h : meB mo l = true) (hl : l ≠ []) {i : Nat} (hi : i ≤ mo.length) : cdN mo l / unitN mo i = preN mo (fun i => (l.getD i 0).toNat) i := by
  unfold cdN
  rw [if_neg hl]
  exact pre_div (me_dig h hl) hi
end

/-! Comparing. -/
/-- What slices.Compare returns. -/
def cmpL : List Int → List Int → Int
  | [], [] => 0
  | [], _ :: _ => -1
  | _ :: _, [] => 1
  | x :: a, y :: b => if x < y then -1 else if y < x then 1 else cmpL a b
section
variable {mo : List Nat} {a b : List Int}
/-- The comparison of the first m numbers, of lists with m numbers at least. -/
theorem cmp_take (hf : ∀ i, i < mo.length → 0 ≤ a.getD i 0 ∧ (a.getD i 0).toNat ≤ mo.getD i 0) (hg : ∀ i, i < mo.length → 0 ≤ b.getD i 0 ∧ (b.getD i 0).toNat ≤ mo.getD i 0) : ∀ (m : Nat), m ≤ mo.length → m ≤ a.length → m ≤ b.length →
    cmpL (a.take m) (b.take m) = if preN mo (fun i => (a.getD i 0).toNat) m < preN mo (fun i => (b.getD i 0).toNat) m then -1 else if preN mo (fun i => (b.getD i 0).toNat) m < preN mo (fun i => (a.getD i 0).toNat) m then 1 else 0 := by
  have snoc : ∀ (u v : List Int) (x y : Int), u.length = v.length → cmpL (u ++ [x]) (v ++ [y]) = if cmpL u v = 0 then (if x < y then -1 else if y < x then 1 else 0) else cmpL u v := by
    intro u
    induction u with
    | nil =>
      intro v x y h
      cases v with
      | nil => rfl
      | cons z v => simp at h
    | cons z u ih =>
      intro v x y h
      cases v with
      | nil => simp at h
      | cons z' v =>
        have h2 : u.length = v.length := by simpa using h
        show (if z < z' then -1 else if z' < z then 1 else cmpL (u ++ [x]) (v ++ [y])) = if (if z < z' then -1 else if z' < z then 1 else cmpL u v) = 0 then _ else (if z < z' then -1 else if z' < z then 1 else cmpL u v)
        by_cases h3 : z < z'
        · simp [h3]
        · by_cases h4 : z' < z
          · simp [h3, h4]
          · simp only [if_neg h3, if_neg h4]; exact ih v x y h2
  intro m
  induction m with
  | zero => intro _ _ _; simp [cmpL, preN]
  | succ m ih =>
    intro hm ha hb
    have h1 := hf m (by omega)
    have h2 := hg m (by omega)
    rw [List.take_succ_eq_append_getElem (by omega), List.take_succ_eq_append_getElem (by omega), snoc _ _ _ _ (by rw [List.length_take, List.length_take]; omega), ih (by omega) (by omega) (by omega)]
    have ea : a[m] = a.getD m 0 := (getD_lt _ _ _ (by omega)).symm
    have eb : b[m] = b.getD m 0 := (getD_lt _ _ _ (by omega)).symm
    rw [ea, eb]
    show _ = if preN mo (fun i => (a.getD i 0).toNat) m * (mo.getD m 0 + 1) + (a.getD m 0).toNat < preN mo (fun i => (b.getD i 0).toNat) m * (mo.getD m 0 + 1) + (b.getD m 0).toNat then -1 else if preN mo (fun i => (b.getD i 0).toNat) m * (mo.getD m 0 + 1) + (b.getD m 0).toNat < preN mo (fun i => (a.getD i 0).toNat) m * (mo.getD m 0 + 1) + (a.getD m 0).toNat then 1 else 0
    generalize preN mo (fun i => (a.getD i 0).toNat) m = A at *
    generalize preN mo (fun i => (b.getD i 0).toNat) m = B at *
    generalize mo.getD m 0 = M at *
    clear ih ea eb hf hg snoc
    generalize a.getD m 0 = x at *
    generalize b.getD m 0 = y at *
    by_cases h3 : A < B
    · have h4 : (A + 1) * (M + 1) ≤ B * (M + 1) := Nat.mul_le_mul_right _ h3
      rw [Nat.add_mul, Nat.one_mul] at h4
      simp only [if_pos h3]
      rw [if_neg (show ¬ (-1 : Int) = 0 by decide), if_pos (show A * (M + 1) + x.toNat < B * (M + 1) + y.toNat by omega)]
    · by_cases h4 : B < A
      · have h5 : (B + 1) * (M + 1) ≤ A * (M + 1) := Nat.mul_le_mul_right _ h4
        rw [Nat.add_mul, Nat.one_mul] at h5
        simp only [if_neg h3, if_pos h4]
        rw [if_neg (show ¬ (1 : Int) = 0 by decide), if_neg (show ¬ A * (M + 1) + x.toNat < B * (M + 1) + y.toNat by omega), if_pos (show B * (M + 1) + y.toNat < A * (M + 1) + x.toNat by omega)]
      · have : A = B := by omega
        subst this
        simp only [if_neg h3, if_true]
        by_cases h5 : x < y
        · rw [if_pos h5, if_pos (show A * (M + 1) + x.toNat < A * (M + 1) + y.toNat by omega)]
        · by_cases h6 : y < x
          · rw [if_neg h5, if_pos h6, if_neg (show ¬ A * (M + 1) + x.toNat < A * (M + 1) + y.toNat by omega), if_pos (show A * (M + 1) + y.toNat < A * (M + 1) + x.toNat by omega)]
          · rw [if_neg h5, if_neg h6, if_neg (show ¬ A * (M + 1) + x.toNat < A * (M + 1) + y.toNat by omega), if_neg (show ¬ A * (M + 1) + y.toNat < A * (M + 1) + x.toNat by omega)]
end

/-! The need of a position; going up from zero. -/
def minF (f : Nat → Nat) (l : List Int) : Nat := l.foldl (fun m x => min m (f x.toNat)) (f (l.getD 0 0).toNat)
def maxF (f : Nat → Nat) (l : List Int) : Nat := l.foldl (fun m x => max m (f x.toNat)) (f (l.getD 0 0).toNat)
/-- What a position needs because of its successors. -/
def needN (g : Gm) (mo : List Nat) (f : Nat → Nat) (v : Nat) : Nat := alongN mo (if own g v = 1 then maxF f (g.succ.getD v []) else minF f (g.succ.getD v [])) (prN g v)
theorem minF_spec {f : Nat → Nat} {l : List Int} (h : l ≠ []) : (∃ x ∈ l, f x.toNat = minF f l) ∧ ∀ x ∈ l, minF f l ≤ f x.toNat := by
  have key : ∀ (l : List Int) (m : Nat), (l.foldl (fun m x => min m (f x.toNat)) m = m ∨ ∃ x ∈ l, f x.toNat = l.foldl (fun m x => min m (f x.toNat)) m) ∧ l.foldl (fun m x => min m (f x.toNat)) m ≤ m ∧ ∀ x ∈ l, l.foldl (fun m x => min m (f x.toNat)) m ≤ f x.toNat := by
    intro l
    induction l with
    | nil => intro m; exact ⟨.inl rfl, Nat.le_refl _, fun x hx => by cases hx⟩
    | cons y l ih =>
      intro m
      obtain ⟨h1, h2, h3⟩ := ih (min m (f y.toNat))
      rw [List.foldl_cons]
      generalize l.foldl (fun m x => min m (f x.toNat)) (min m (f y.toNat)) = M at *
      refine ⟨?_, by omega, fun x hx => ?_⟩
      · rcases h1 with h1 | ⟨x, hx, h1⟩
        · by_cases hc : m ≤ f y.toNat
          · exact .inl (by omega)
          · exact .inr ⟨y, List.mem_cons_self, by omega⟩
        · exact .inr ⟨x, List.mem_cons_of_mem _ hx, h1⟩
      · rcases List.mem_cons.1 hx with e | hx
        · subst e; omega
        · exact h3 x hx
  cases l with
  | nil => exact absurd rfl h
  | cons y l =>
    obtain ⟨h1, h2, h3⟩ := key (y :: l) (f ((y :: l).getD 0 0).toNat)
    refine ⟨?_, h3⟩
    rcases h1 with h1 | h1
    · exact ⟨y, List.mem_cons_self, h1.symm⟩
    · exact h1
theorem maxF_spec {f : Nat → Nat} {l : List Int} (h : l ≠ []) : (∃ x ∈ l, f x.toNat = maxF f l) ∧ ∀ x ∈ l, f x.toNat ≤ maxF f l := by
  have key : ∀ (l : List Int) (m : Nat), (l.foldl (fun m x => max m (f x.toNat)) m = m ∨ ∃ x ∈ l, f x.toNat = l.foldl (fun m x => max m (f x.toNat)) m) ∧ m ≤ l.foldl (fun m x => max m (f x.toNat)) m ∧ ∀ x ∈ l, f x.toNat ≤ l.foldl (fun m x => max m (f x.toNat)) m := by
    intro l
    induction l with
    | nil => intro m; exact ⟨.inl rfl, Nat.le_refl _, fun x hx => by cases hx⟩
    | cons y l ih =>
      intro m
      obtain ⟨h1, h2, h3⟩ := ih (max m (f y.toNat))
      rw [List.foldl_cons]
      generalize l.foldl (fun m x => max m (f x.toNat)) (max m (f y.toNat)) = M at *
      refine ⟨?_, by omega, fun x hx => ?_⟩
      · rcases h1 with h1 | ⟨x, hx, h1⟩
        · by_cases hc : f y.toNat ≤ m
          · exact .inl (by omega)
          · exact .inr ⟨y, List.mem_cons_self, by omega⟩
        · exact .inr ⟨x, List.mem_cons_of_mem _ hx, h1⟩
      · rcases List.mem_cons.1 hx with e | hx
        · subst e; omega
        · exact h3 x hx
  cases l with
  | nil => exact absurd rfl h
  | cons y l =>
    obtain ⟨h1, h2, h3⟩ := key (y :: l) (f ((y :: l).getD 0 0).toNat)
    refine ⟨?_, h3⟩
    rcases h1 with h1 | h1
    · exact ⟨y, List.mem_cons_self, h1.symm⟩
    · exact h1
section
variable {g : Gm} {n : Nat} {mo : List Nat} {f f' : Nat → Nat}
/-- The successors, as numbers of positions. -/
structure RE (g : Gm) (n : Nat) : Prop where
  ed : ∀ v, v < n → ∀ x ∈ g.succ.getD v [], ∃ j : Nat, x = (j : Int) ∧ j < n
  so : ∀ v, v < n → g.succ.getD v [] ≠ []
  ow : ∀ v, v < n → own g v = 0 ∨ own g v = 1
theorem need_ge_iff (hE : RE g n) (hle : ∀ v, v < n → f v ≤ topN mo) {v c : Nat} (hv : v < n) : needN g mo f v ≤ c ↔ (own g v = 0 → ∃ j, Edge g v j ∧ alongN mo (f j) (prN g v) ≤ c) ∧ (own g v ≠ 0 → ∀ j, Edge g v j → alongN mo (f j) (prN g v) ≤ c) := by
  have hs := hE.so v hv
  have hj : ∀ j, Edge g v j → j < n := fun j hj => by
    obtain ⟨i, e, hi⟩ := hE.ed v hv _ hj
    omega
  unfold needN
  rcases hE.ow v hv with ho | ho
  · rw [if_neg (by omega)]
    obtain ⟨⟨x, hx, ex⟩, h2⟩ := minF_spec (f := f) hs
    obtain ⟨j, rfl, hjn⟩ := hE.ed v hv x hx
    rw [Int.toNat_natCast] at ex
    constructor
    · intro h
      exact ⟨fun _ => ⟨j, hx, by rw [ex]; exact h⟩, fun h => absurd ho h⟩
    · rintro ⟨h, -⟩
      obtain ⟨k, hk, h3⟩ := h ho
      have h4 := h2 _ hk
      rw [Int.toNat_natCast] at h4
      exact Nat.le_trans (along_mono h4 (hle k (hj k hk))) h3
  · rw [if_pos ho]
    obtain ⟨⟨x, hx, ex⟩, h2⟩ := maxF_spec (f := f) hs
    obtain ⟨j, rfl, hjn⟩ := hE.ed v hv x hx
    rw [Int.toNat_natCast] at ex
    constructor
    · intro h
      refine ⟨fun h => by omega, fun _ k hk => ?_⟩
      have h4 := h2 _ hk
      rw [Int.toNat_natCast] at h4
      exact Nat.le_trans (along_mono h4 (by rw [← ex]; exact hle j hjn)) h
    · rintro ⟨-, h⟩
      rw [← ex]
      exact h (by omega) j hx
theorem need_le (hE : RE g n) (hle : ∀ v, v < n → f v ≤ topN mo) {v : Nat} (hv : v < n) : needN g mo f v ≤ topN mo := by
  rw [need_ge_iff hE hle hv]
  refine ⟨fun _ => ?_, fun _ j hj => ?_⟩
  · obtain ⟨x, hx⟩ := List.exists_mem_of_ne_nil _ (hE.so v hv)
    obtain ⟨j, rfl, hjn⟩ := hE.ed v hv x hx
    exact ⟨j, hx, along_le (hle j hjn)⟩
  · obtain ⟨i, e, hi⟩ := hE.ed v hv _ hj
    exact along_le (hle j (by omega))
theorem pm_iff (hE : RE g n) : PM g n mo f ↔ (∀ v, v < n → f v ≤ topN mo) ∧ ∀ v, v < n → needN g mo f v ≤ f v := by
  constructor
  · intro h
    refine ⟨h.le, fun v hv => ?_⟩
    by_cases ht : f v = topN mo
    · rw [ht]; exact need_le hE h.le hv
    · have ht : f v < topN mo := by have := h.le v hv; omega
      exact (need_ge_iff hE h.le hv).2 ⟨h.mine v hv ht, h.other v hv ht⟩
  · rintro ⟨h1, h2⟩
    exact ⟨h1, fun v hv _ => ((need_ge_iff hE h1 hv).1 (h2 v hv)).1, fun v hv _ => ((need_ge_iff hE h1 hv).1 (h2 v hv)).2⟩
theorem need_mono (hE : RE g n) (h : ∀ v, v < n → f v ≤ f' v) (hle : ∀ v, v < n → f' v ≤ topN mo) {v : Nat} (hv : v < n) : needN g mo f v ≤ needN g mo f' v := by
  have hf : ∀ v, v < n → f v ≤ topN mo := fun v hv => Nat.le_trans (h v hv) (hle v hv)
  rw [need_ge_iff hE hf hv]
  obtain ⟨h1, h2⟩ := (need_ge_iff hE hle hv).1 (Nat.le_refl (needN g mo f' v))
  refine ⟨fun ho => ?_, fun ho j hj => ?_⟩
  · obtain ⟨j, hj, h3⟩ := h1 ho
    obtain ⟨i, e, hi⟩ := hE.ed v hv _ hj
    have : j = i := by omega
    subst this
    exact ⟨j, hj, Nat.le_trans (along_mono (h j hi) (hle j hi)) h3⟩
  · obtain ⟨i, e, hi⟩ := hE.ed v hv _ hj
    have : j = i := by omega
    subst this
    exact Nat.le_trans (along_mono (h j hi) (hle j hi)) (h2 ho j hj)
/-- What stays below each progress measure. -/
def Und (g : Gm) (n : Nat) (mo : List Nat) (f : Nat → Nat) : Prop := ∀ f', PM g n mo f' → ∀ v, v < n → f v ≤ f' v
theorem pm_top (hE : RE g n) : PM g n mo fun _ => topN mo := (pm_iff hE).2 ⟨fun _ _ => Nat.le_refl _, fun _ hv => need_le hE (fun _ _ => Nat.le_refl _) hv⟩
theorem Und.le (hE : RE g n) (h : Und g n mo f) {v : Nat} (hv : v < n) : f v ≤ topN mo := h _ (pm_top hE) v hv
theorem Und.zero : Und g n mo fun _ => 0 := fun _ _ _ _ => Nat.zero_le _
theorem Und.need (hE : RE g n) (h : Und g n mo f) {v : Nat} (hv : v < n) {f' : Nat → Nat} (hf : PM g n mo f') : needN g mo f v ≤ f' v :=
  Nat.le_trans (need_mono hE (h f' hf) hf.le hv) (((pm_iff hE).1 hf).2 v hv)
/-- Raising one position to what it needs. -/
theorem Und.raise (hE : RE g n) (h : Und g n mo f) {v : Nat} (hv : v < n) : Und g n mo fun u => if u = v then needN g mo f v else f u := fun f' hf u hu => by
  dsimp only
  split
  · rename_i e; subst e; exact h.need hE hu hf
  · exact h f' hf u hu
/-- Where nothing more is needed the least measure has been found. -/
theorem Und.done (hE : RE g n) (h : Und g n mo f) (hn : ∀ v, v < n → needN g mo f v ≤ f v) : LeastP g n mo f := ⟨(pm_iff hE).2 ⟨fun _ hv => h.le hE hv, hn⟩, h⟩
end

end Go.Proofs.Ytijkjhcigdfdgaa
