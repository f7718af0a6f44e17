/- The reference's way to write the least measure along another one (plain). -/
import Derived.Test.YtijkjhcigdfdgaaQRkP4
namespace Go.Proofs.Ytijkjhcigdfdgaa

/-- The first k numbers of a measure, then zeros. -/
def cutL (mo : List Nat) (m : List Int) (k : Nat) : List Int := (List.range (max mo.length 1)).map fun i => if i < k then m.getD i 0 else 0
section
variable {mo : List Nat} {m : List Int} {k i : Nat}
theorem cut_len (mo : List Nat) (m : List Int) (k : Nat) : (cutL mo m k).length = max mo.length 1 := by simp [cutL]
theorem cut_at (h : i < max mo.length 1) : (cutL mo m k).getD i 0 = if i < k then m.getD i 0 else 0 := by simp [cutL, List.getD, h]
theorem cut_ne (mo : List Nat) (m : List Int) (k : Nat) : cutL mo m k ≠ [] := fun e => by have := congrArg List.length e; rw [cut_len] at this; simp at this
theorem cut_zero (mo : List Nat) (m : List Int) : cutL mo m 0 = List.replicate (max mo.length 1) 0 := by
  apply List.ext_getElem (by simp [cutL])
  intro i h1 h2
  simp [cutL]
theorem cut_set : (cutL mo m k).set k (m.getD k 0) = cutL mo m (k + 1) := by
  apply List.ext_getElem (by simp [cutL])
  intro i h1 h2
  rw [List.getElem_set]
  simp only [cutL, List.getElem_map, List.getElem_range]
  by_cases e : k = i
  · subst e; rw [if_pos rfl, if_pos (by omega)]
  · rw [if_neg e]
    by_cases h3 : i < k
    · rw [if_pos h3, if_pos (by omega)]
    · rw [if_neg h3, if_neg (by omega)]
theorem cut_back (mo : List Nat) (m : List Int) (k : Nat) : (cutL mo m (k + 1)).set k 0 = cutL mo m k := by
  apply List.ext_getElem (by simp [cutL])
  intro i h1 h2
  rw [List.getElem_set]
  simp only [cutL, List.getElem_map, List.getElem_range]
  by_cases e : k = i
  · subst e; rw [if_pos rfl, if_neg (by omega)]
  · rw [if_neg e]
    by_cases h3 : i < k
    · rw [if_pos h3, if_pos (by omega)]
    · rw [if_neg h3, if_neg (by omega)]
theorem pre_tail {f : Nat → Nat} : ∀ (d i : Nat), i + d = mo.length → (∀ j, i ≤ j → j < mo.length → f j = 0) → preN mo f mo.length = preN mo f i * unitN mo i
  | 0, i, h, _ => by
    have e : i = mo.length := h
    subst e
    rw [unit_end (Nat.le_refl _), Nat.mul_one]
  | d + 1, i, h, hz => by
    rw [pre_tail d (i + 1) (by omega) (fun j h1 h2 => hz j (by omega) h2), unit_step (show i < mo.length by omega)]
    show (preN mo f i * (mo.getD i 0 + 1) + f i) * _ = _
    rw [hz i (Nat.le_refl _) (by omega), Nat.add_zero, Nat.mul_assoc]
theorem me_of {l : List Int} (hl : l.length = max mo.length 1) (h : ∀ i, i < mo.length → 0 ≤ l.getD i 0 ∧ l.getD i 0 ≤ (mo.getD i 0 : Int)) (h0 : mo = [] → l.getD 0 0 = 0) : meB mo l = true := by
  rw [meB_iff]
  by_cases e : mo = []
  · refine .inr (.inl ⟨e, ?_⟩)
    have h1 : l.length = 1 := by rw [hl, e]; rfl
    have h2 := h0 e
    match l, h1, h2 with
    | [x], _, h2 => simpa using h2
  · refine .inr (.inr ⟨e, ?_, h⟩)
    have : 0 < mo.length := List.length_pos_iff.2 e
    omega
theorem me_rg (h : meB mo m = true) (hn : m ≠ []) : ∀ i, i < mo.length → 0 ≤ m.getD i 0 ∧ m.getD i 0 ≤ (mo.getD i 0 : Int) := by
  rcases meB_iff.1 h with h | ⟨h, -⟩ | ⟨-, -, h⟩
  · exact absurd h hn
  · intro i hi; rw [h] at hi; simp at hi
  · exact h
theorem cut_me (h : meB mo m = true) (hn : m ≠ []) (k : Nat) (hk : k ≤ mo.length) : meB mo (cutL mo m k) = true := by
  refine me_of (cut_len _ _ _) (fun i hi => ?_) fun e => ?_
  · rw [cut_at (by omega)]
    split
    · exact me_rg h hn i hi
    · omega
  · rw [cut_at (by omega), if_neg (by rw [e] at hk; simp at hk; omega)]
theorem cut_cd (h : meB mo m = true) (hn : m ≠ []) (hk : k ≤ mo.length) : cdN mo (cutL mo m k) = cdN mo m / unitN mo k * unitN mo k := by
  rw [cd_div h hn hk]
  unfold cdN
  rw [if_neg (cut_ne _ _ _), pre_tail (mo.length - k) k (by omega) fun j h1 h2 => by rw [cut_at (by omega), if_neg (by omega)]; rfl]
  rw [pre_congr k fun i hi => by rw [cut_at (by omega), if_pos hi]]
/-- Without a carry. -/
theorem cut_is (h : meB mo m = true) (hn : m ≠ []) (hk : k ≤ mo.length) : cutL mo m k = digL mo (cdN mo m / unitN mo k * unitN mo k) := by
  rw [← cut_cd h hn hk, dig_cd (cut_me h hn k hk)]
/-- One more at the last number. -/
theorem cut_up (h : meB mo m = true) (hn : m ≠ []) (hk : k < mo.length) (hl : m.getD k 0 < (mo.getD k 0 : Int)) : (cutL mo m (k + 1)).set k (m.getD k 0 + 1) = digL mo ((cdN mo m / unitN mo (k + 1) + 1) * unitN mo (k + 1)) := by
  have hr := me_rg h hn
  have hat : ∀ i, i < max mo.length 1 → ((cutL mo m (k + 1)).set k (m.getD k 0 + 1)).getD i 0 = if i = k then m.getD k 0 + 1 else if i < k then m.getD i 0 else 0 := fun i hi => by
    have h2 : i < ((cutL mo m (k + 1)).set k (m.getD k 0 + 1)).length := by rw [List.length_set, cut_len]; exact hi
    rw [getD_lt _ _ _ h2, List.getElem_set]
    by_cases e : k = i
    · rw [if_pos e, if_pos e.symm]
    · rw [if_neg e, if_neg (fun h => e h.symm)]
      rw [← getD_lt _ 0 _ (by rw [cut_len]; exact hi), cut_at hi]
      by_cases h3 : i < k
      · rw [if_pos h3, if_pos (by omega)]
      · rw [if_neg h3, if_neg (by omega)]
  have hme : meB mo ((cutL mo m (k + 1)).set k (m.getD k 0 + 1)) = true := by
    refine me_of (by rw [List.length_set, cut_len]) (fun i hi => ?_) fun e => ?_
    · rw [hat i (by omega)]
      by_cases e : i = k
      · rw [if_pos e, e]; have := hr k hk; omega
      · rw [if_neg e]
        split
        · exact hr i hi
        · omega
    · rw [e] at hk; simp at hk
  rw [← dig_cd hme]
  congr 1
  rw [cd_div h hn (show k + 1 ≤ mo.length by omega)]
  have hne : (cutL mo m (k + 1)).set k (m.getD k 0 + 1) ≠ [] := fun e => by have := congrArg List.length e; rw [List.length_set, cut_len] at this; simp at this
  unfold cdN
  rw [if_neg hne, pre_tail (mo.length - (k + 1)) (k + 1) (by omega) fun j h1 h2 => by rw [hat j (by omega), if_neg (by omega), if_neg (by omega)]; rfl]
  congr 1
  show preN mo _ k * _ + _ = preN mo _ k * _ + _ + 1
  rw [pre_congr k fun i hi => by rw [hat i (by omega), if_neg (by omega), if_pos hi]]
  try dsimp only
  rw [hat k (by omega), if_pos rfl]
  have := hr k hk
  omega
/-- The carry. -/
theorem cut_carry (h : meB mo m = true) (hn : m ≠ []) (hk : k < mo.length) (hl : m.getD k 0 = (mo.getD k 0 : Int)) : (cdN mo m / unitN mo (k + 1) + 1) * unitN mo (k + 1) = (cdN mo m / unitN mo k + 1) * unitN mo k := by
  rw [cd_div h hn (show k + 1 ≤ mo.length by omega), cd_div h hn (show k ≤ mo.length by omega), unit_step hk]
  show (preN mo _ k * (mo.getD k 0 + 1) + (m.getD k 0).toNat + 1) * _ = _
  rw [hl, Int.toNat_natCast, ← Nat.mul_assoc]
  congr 1
  rw [Nat.add_mul, Nat.one_mul]
  omega
theorem cut_end (h : meB mo m = true) (hn : m ≠ []) : (cdN mo m / unitN mo 0 + 1) * unitN mo 0 = topN mo := by
  rw [cd_div h hn (Nat.zero_le _)]
  show (0 + 1) * unitN mo 0 = unitN mo 0
  omega
end

/-! What is least or greatest among the least ones along successors' measures. -/
section
variable {mo : List Nat} {f : Nat → Nat} {p : Nat}
theorem min_mono {a b : Nat} (ha : a ≤ topN mo) (hb : b ≤ topN mo) : alongN mo (min a b) p = min (alongN mo a p) (alongN mo b p) := by
  by_cases h : a ≤ b
  · have := along_mono (p := p) h hb
    rw [Nat.min_eq_left h, Nat.min_eq_left this]
  · have := along_mono (p := p) (show b ≤ a by omega) ha
    rw [Nat.min_eq_right (by omega), Nat.min_eq_right this]
theorem max_mono {a b : Nat} (ha : a ≤ topN mo) (hb : b ≤ topN mo) : alongN mo (max a b) p = max (alongN mo a p) (alongN mo b p) := by
  by_cases h : a ≤ b
  · have := along_mono (p := p) h hb
    rw [Nat.max_eq_right h, Nat.max_eq_right this]
  · have := along_mono (p := p) (show b ≤ a by omega) ha
    rw [Nat.max_eq_left (by omega), Nat.max_eq_left this]
theorem fold_min {l : List Int} : ∀ {a : Nat}, a ≤ topN mo → (∀ x ∈ l, f x.toNat ≤ topN mo) → l.foldl (fun m x => min m (alongN mo (f x.toNat) p)) (alongN mo a p) = alongN mo (l.foldl (fun m x => min m (f x.toNat)) a) p := by
  induction l with
  | nil => intro a _ _; rfl
  | cons y l ih =>
    intro a ha h
    have hy := h y List.mem_cons_self
    rw [List.foldl_cons, List.foldl_cons, ← min_mono ha hy]
    exact ih (by omega) fun x hx => h x (List.mem_cons_of_mem _ hx)
theorem fold_max {l : List Int} : ∀ {a : Nat}, a ≤ topN mo → (∀ x ∈ l, f x.toNat ≤ topN mo) → l.foldl (fun m x => max m (alongN mo (f x.toNat) p)) (alongN mo a p) = alongN mo (l.foldl (fun m x => max m (f x.toNat)) a) p := by
  induction l with
  | nil => intro a _ _; rfl
  | cons y l ih =>
    intro a ha h
    have hy := h y List.mem_cons_self
    rw [List.foldl_cons, List.foldl_cons, ← max_mono ha hy]
    exact ih (by omega) fun x hx => h x (List.mem_cons_of_mem _ hx)
end
/-- The best of what the first k successors ask (k > 0). -/
def bestA (mo : List Nat) (f : Nat → Nat) (p : Nat) (o : Int) (l : List Int) (k : Nat) : Nat := if o = 1 then (l.take k).foldl (fun m x => max m (alongN mo (f x.toNat) p)) (alongN mo (f (l.getD 0 0).toNat) p) else (l.take k).foldl (fun m x => min m (alongN mo (f x.toNat) p)) (alongN mo (f (l.getD 0 0).toNat) p)
section
variable {mo : List Nat} {f : Nat → Nat} {p k : Nat} {o : Int} {l : List Int}
theorem bestA_one (h : 0 < l.length) : bestA mo f p o l 1 = alongN mo (f (l.getD 0 0).toNat) p := by
  cases l with
  | nil => simp at h
  | cons x l => simp [bestA]
theorem bestA_step (h : k < l.length) : bestA mo f p o l (k + 1) = if o = 1 then max (bestA mo f p o l k) (alongN mo (f (l.getD k 0).toNat) p) else min (bestA mo f p o l k) (alongN mo (f (l.getD k 0).toNat) p) := by
  unfold bestA
  rw [List.take_succ_eq_append_getElem h, ← getD_lt _ 0 _ h]
  split <;> rw [List.foldl_append] <;> rfl
theorem bestA_all {g : Gm} {v : Nat} (hs : g.succ.getD v [] ≠ []) (hf : ∀ x ∈ g.succ.getD v [], f x.toNat ≤ topN mo) : bestA mo f (prN g v) (own g v) (g.succ.getD v []) (g.succ.getD v []).length = needN g mo f v := by
  have h0 : f ((g.succ.getD v []).getD 0 0).toNat ≤ topN mo := by
    have hp := List.length_pos_iff.2 hs
    rw [getD_lt _ _ _ hp]
    exact hf _ (List.getElem_mem hp)
  unfold bestA needN
  rw [List.take_length]
  split
  · exact fold_max h0 hf
  · exact fold_min h0 hf
end

end Go.Proofs.Ytijkjhcigdfdgaa
