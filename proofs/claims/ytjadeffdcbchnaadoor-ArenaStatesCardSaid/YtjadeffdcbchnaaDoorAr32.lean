/- The law ArenaParts, its plain part: the part of all positions, what a part's positions are, a part of a part. -/
import Derived.Test.YtjadeffdcbchnaaDoorArCb
namespace Go.Proofs.YtjadeffdcbchnaaDoor

theorem keptI_mono' (s : List Bool) {v k : Nat} (h : v ≤ k) : (keptI s v).length ≤ (keptI s k).length := by
  induction k with
  | zero => rw [show v = 0 from by omega]; exact Nat.le_refl _
  | succ k ih =>
    rw [keptI_succ]
    rcases Nat.lt_or_ge v (k + 1) with h1 | h1
    · have := ih (by omega)
      split
      · rw [List.length_append]; omega
      · exact this
    · rw [show v = k + 1 from by omega, keptI_succ]; exact Nat.le_refl _
theorem keptI_lt' (s : List Bool) {v k : Nat} (h : v < k) (hs : s.getD v false = true) : (keptI s v).length < (keptI s k).length := by
  have h1 := keptI_mono' s (v := v + 1) (k := k) (by omega)
  rw [keptI_succ, if_pos hs, List.length_append] at h1
  simp at h1; omega
theorem getD_app_l {α : Type} (a b : List α) (d : α) (i : Nat) (h : i < a.length) : (a ++ b).getD i d = a.getD i d := by
  simp [List.getD, List.getElem?_append_left h]
theorem getD_app_at {α : Type} (a : List α) (x d : α) : (a ++ [x]).getD a.length d = x := by simp [List.getD]
theorem keptI_at (s : List Bool) (k i : Nat) (h : i < (keptI s k).length) : ∃ v : Nat, (keptI s k).getD i 0 = (v : Int) ∧ v < k ∧ s.getD v false = true ∧ (keptI s v).length = i := by
  induction k with
  | zero => simp [keptI] at h
  | succ k ih =>
    rw [keptI_succ] at h ⊢
    by_cases hs : s.getD k false = true
    · rw [if_pos hs] at h ⊢
      by_cases hi : i < (keptI s k).length
      · obtain ⟨v, h1, h2, h3, h4⟩ := ih hi
        exact ⟨v, by rw [getD_app_l _ _ _ _ hi, h1], by omega, h3, h4⟩
      · have hi2 : (keptI s k).length = i := by simp at h; omega
        exact ⟨k, by rw [← hi2, getD_app_at], by omega, hs, hi2⟩
    · rw [if_neg hs] at h ⊢
      obtain ⟨v, h1, h2, h3, h4⟩ := ih h
      exact ⟨v, h1, by omega, h3, h4⟩
theorem keptI_inj (s : List Bool) {u v : Nat} (hu : s.getD u false = true) (hv : s.getD v false = true) (h : (keptI s u).length = (keptI s v).length) : u = v := by
  rcases Nat.lt_trichotomy u v with h1 | h1 | h1
  · have := keptI_lt' s h1 hu; omega
  · exact h1
  · have := keptI_lt' s h1 hv; omega
theorem keptI_get (s : List Bool) {v k : Nat} (h : v < k) (hs : s.getD v false = true) : (keptI s k).getD (keptI s v).length 0 = (v : Int) := by
  obtain ⟨u, h1, h2, h3, h4⟩ := keptI_at s k (keptI s v).length (keptI_lt' s h hs)
  rw [h1, keptI_inj s h3 hs h4]
theorem keptI_incr (s : List Bool) {k i : Nat} (h : i < (keptI s k).length) (h0 : 0 < i) : (keptI s k).getD (i - 1) 0 < (keptI s k).getD i 0 := by
  obtain ⟨u, h1, h2, h3, h4⟩ := keptI_at s k (i - 1) (by omega)
  obtain ⟨v, g1, g2, g3, g4⟩ := keptI_at s k i h
  rw [h1, g1]
  by_cases hc : v ≤ u
  · have := keptI_mono' s hc; omega
  · omega

theorem subI_app (s : List Bool) (a b : List Int) : subI s (a ++ b) = subI s a ++ subI s b := by simp [subI]
theorem subI_cons (s : List Bool) (x : Int) (l : List Int) : subI s (x :: l) = if atB s x then ((keptI s x.toNat).length : Int) :: subI s l else subI s l := by
  unfold subI
  cases h : atB s x <;> simp [h]
theorem subI_at (s : List Bool) (l : List Int) (m : Nat) (hm : m < l.length) (ha : atB s (l.getD m 0) = true) :
    (subI s (l.take m)).length < (subI s l).length ∧ (subI s l).getD (subI s (l.take m)).length 0 = ((keptI s (l.getD m 0).toNat).length : Int) ∧ subI s (l.take (m + 1)) = subI s (l.take m) ++ [((keptI s (l.getD m 0).toNat).length : Int)] := by
  have e1 : l = l.take m ++ l.getD m 0 :: l.drop (m + 1) := by
    rw [getD_lt _ _ _ hm, List.getElem_cons_drop, List.take_append_drop]
  have e2 : subI s l = subI s (l.take m) ++ ((keptI s (l.getD m 0).toNat).length : Int) :: subI s (l.drop (m + 1)) := by
    conv => lhs; rw [e1, subI_app, subI_cons, if_pos ha]
  refine ⟨by rw [e2]; simp, by rw [e2]; simp [List.getD], ?_⟩
  rw [List.take_succ_eq_append_getElem hm, subI_app, ← getD_lt l 0 m hm, subI_cons, if_pos ha]; rfl
theorem subI_skip (s : List Bool) (l : List Int) (m : Nat) (hm : m < l.length) (ha : atB s (l.getD m 0) = false) : subI s (l.take (m + 1)) = subI s (l.take m) := by
  rw [List.take_succ_eq_append_getElem hm, subI_app, ← getD_lt l 0 m hm, subI_cons, ha]; simp [subI]

theorem rep_get (n v : Nat) (h : v < n) : (List.replicate n true).getD v false = true := by simp [List.getD, h]
theorem keptI_all (n k : Nat) (h : k ≤ n) : keptI (List.replicate n true) k = (List.range k).map fun (i : Nat) => (i : Int) := by
  unfold keptI
  rw [List.filter_eq_self.2 fun i hi => rep_get n i (by have := List.mem_range.1 hi; omega)]
theorem subI_all (n : Nat) (l : List Int) (h : ∀ x ∈ l, 0 ≤ x ∧ x < n) : subI (List.replicate n true) l = l := by
  unfold subI
  have hf : l.filter (atB (List.replicate n true)) = l := List.filter_eq_self.2 fun x hx => rep_get n x.toNat (by have := h x hx; omega)
  rw [hf]
  conv => rhs; rw [← List.map_id l]
  refine List.map_congr_left fun x hx => ?_
  have := h x hx
  rw [keptI_all n _ (by omega), List.length_map, List.length_range]
  simp; omega
theorem range_getD {α : Type} (l : List α) (d : α) : ((List.range l.length).map fun i => l.getD i d) = l := by
  refine List.ext_getElem (by simp) fun i h1 h2 => ?_
  simp [List.getD, h2]
theorem map_getD' {α β : Type} (f : α → β) (l : List α) (i : Nat) (d : α) (e : β) (h : i < l.length) : (l.map f).getD i e = f (l.getD i d) := by simp [List.getD, h]
theorem part_all {g : Gm} (hv : validB g = true) : (partR g (List.replicate g.owner.length true)).1 = g := by
  obtain ⟨a, b, c⟩ := valid_lens hv
  have hsub : ∀ i, i < g.owner.length → subI (List.replicate g.owner.length true) (g.succ.getD i []) = g.succ.getD i [] := fun i hi => subI_all _ _ fun x hx => (valid_at hv i hi).2.2.2 x hx
  unfold partR
  rw [if_pos]
  · show partG g _ _ = g
    rw [List.length_replicate, keptI_all _ _ (Nat.le_refl _)]
    unfold partG
    simp only [List.map_map]
    have e1 : (List.range g.owner.length).map ((fun v : Int => g.owner.getD v.toNat 0) ∘ fun (i : Nat) => (i : Int)) = g.owner := range_getD g.owner 0
    have e2 : (List.range g.owner.length).map ((fun v : Int => g.prio.getD v.toNat 0) ∘ fun (i : Nat) => (i : Int)) = g.prio := by rw [← b]; exact range_getD g.prio 0
    have e3 : (List.range g.owner.length).map ((fun v : Int => subI (List.replicate g.owner.length true) (g.succ.getD v.toNat [])) ∘ fun (i : Nat) => (i : Int)) = g.succ := by
      rw [← c]
      conv => rhs; rw [← range_getD g.succ []]
      refine List.map_congr_left fun i hi => ?_
      have := List.mem_range.1 hi
      rw [c]
      exact hsub i (by omega)
    rw [e1, e2, e3]
  · simp only [hv, List.length_replicate, decide_true, Bool.and_self, Bool.true_and]
    rw [partOK, List.all_eq_true]
    intro v hx
    obtain ⟨n, rfl, hn, -⟩ := keptI_mem hx
    rw [Int.toNat_natCast, hsub n hn]
    have := (valid_at hv n hn).2.2.1
    cases h : g.succ.getD n [] with
    | nil => exact absurd h this
    | cons x l => rfl

/-- What the law asks of a part: a game, its positions' numbers. -/
structure PartIs (g h : Gm) (s : List Bool) (ks : List Int) : Prop where
  lo : h.owner.length = ks.length
  lp : h.prio.length = ks.length
  ls : h.succ.length = ks.length
  val : validB h = true
  nk : ks.length ≤ s.length
  at' : ∀ i, i < ks.length → ∃ v : Nat, ks.getD i 0 = (v : Int) ∧ v < s.length ∧ s.getD v false = true ∧ (keptI s v).length = i ∧ (0 < i → ks.getD (i - 1) 0 < (v : Int)) ∧ h.owner.getD i 0 = g.owner.getD v 0 ∧ h.prio.getD i 0 = g.prio.getD v 0 ∧ h.succ.getD i [] = subI s (g.succ.getD v [])
  ren : 0 < ks.length → ∀ x : Nat, x < s.length → s.getD x false = true → (keptI s x).length < ks.length ∧ ks.getD (keptI s x).length 0 = (x : Int)

theorem partOK_eq (g : Gm) (s : List Bool) (ks : List Int) : partOK g s ks = (partG g s ks).succ.all fun r => !r.isEmpty := by
  simp [partOK, partG, List.all_map, Function.comp_def]
theorem part_valid' {g : Gm} {s : List Bool} (hv : validB g = true) (hs : s.length = g.owner.length) (ho : partOK g s (keptI s s.length) = true) : validB (partG g s (keptI s s.length)) = true := by
  obtain ⟨a, b, c⟩ := valid_lens hv
  have hk := keptI_len s s.length
  have e4 : (partG g s (keptI s s.length)).owner.length = (keptI s s.length).length := by simp [partG]
  refine (validB_iff _ (by omega) (by simp [partG]) (by simp [partG])).2 fun i hi => (okB_iff _ _).2 ?_
  rw [e4] at hi ⊢
  obtain ⟨v, h1, h2, h3, h4⟩ := keptI_at s s.length i hi
  have e1 : (partG g s (keptI s s.length)).owner.getD i 0 = g.owner.getD v 0 := by
    show (List.map _ _).getD i 0 = _
    rw [map_getD' _ _ i 0 0 hi, h1, Int.toNat_natCast]
  have e2 : (partG g s (keptI s s.length)).prio.getD i 0 = g.prio.getD v 0 := by
    show (List.map _ _).getD i 0 = _
    rw [map_getD' _ _ i 0 0 hi, h1, Int.toNat_natCast]
  have e3 : (partG g s (keptI s s.length)).succ.getD i [] = subI s (g.succ.getD v []) := by
    show (List.map _ _).getD i [] = _
    rw [map_getD' _ _ i 0 [] hi, h1, Int.toNat_natCast]
  obtain ⟨h5, h6, h7, h8⟩ := valid_at hv v (by omega)
  rw [e1, e2, e3]
  refine ⟨h5, h6, ?_, fun x hx => ?_⟩
  · rw [partOK, List.all_eq_true] at ho
    have := ho _ (List.getElem_mem hi)
    rw [← getD_lt _ 0 _ hi, h1, Int.toNat_natCast] at this
    intro h
    rw [h] at this
    cases this
  · unfold subI at hx
    obtain ⟨y, hy, rfl⟩ := List.mem_map.1 hx
    rw [List.mem_filter] at hy
    have hr := h8 y hy.1
    have := keptI_lt' s (v := y.toNat) (k := s.length) (by omega) hy.2
    omega
theorem partIs_ok {g : Gm} {s : List Bool} (hv : validB g = true) (hs : s.length = g.owner.length) (ho : partOK g s (keptI s s.length) = true) : PartIs g (partG g s (keptI s s.length)) s (keptI s s.length) where
  lo := by simp [partG]
  lp := by simp [partG]
  ls := by simp [partG]
  val := part_valid' hv hs ho
  nk := keptI_len _ _
  at' := fun i hi => by
    obtain ⟨v, h1, h2, h3, h4⟩ := keptI_at s s.length i hi
    refine ⟨v, h1, h2, h3, h4, fun h0 => by rw [← h1]; exact keptI_incr s hi h0, ?_, ?_, ?_⟩
    · show (List.map _ _).getD i 0 = _
      rw [map_getD' _ _ i 0 0 hi, h1, Int.toNat_natCast]
    · show (List.map _ _).getD i 0 = _
      rw [map_getD' _ _ i 0 0 hi, h1, Int.toNat_natCast]
    · show (List.map _ _).getD i [] = _
      rw [map_getD' _ _ i 0 [] hi, h1, Int.toNat_natCast]
  ren := fun _ x hx hsx => ⟨keptI_lt' s hx hsx, keptI_get s hx hsx⟩
theorem partR_ok {g : Gm} {s : List Bool} (hv : validB g = true) (hs : s.length = g.owner.length) (ho : partOK g s (keptI s s.length) = true) : partR g s = (partG g s (keptI s s.length), keptI s s.length) := by
  unfold partR
  rw [hv, ho, decide_eq_true hs]; rfl
theorem partR_no {g : Gm} {s : List Bool} (ho : partOK g s (keptI s s.length) = false) : partR g s = (⟨[], [], []⟩, []) := by
  unfold partR
  rw [ho, Bool.and_false]; rfl
theorem partIs {g : Gm} {s : List Bool} (hv : validB g = true) (hs : s.length = g.owner.length) : PartIs g (partR g s).1 s (partR g s).2 := by
  cases ho : partOK g s (keptI s s.length) with
  | true => rw [partR_ok hv hs ho]; exact partIs_ok hv hs ho
  | false =>
    rw [partR_no ho]
    exact ⟨rfl, rfl, rfl, by decide, Nat.zero_le _, fun i hi => absurd hi (by simp), fun h => absurd h (by simp)⟩

/-- The positions of a part of a part, by their numbers in the game, when the first j of the part have been looked at. -/
def bothK (s inner : List Bool) (j : Nat) : List Bool := (List.range s.length).map fun v => s.getD v false && decide ((keptI s v).length < j) && inner.getD (keptI s v).length false
theorem bothK_len (s inner : List Bool) (j : Nat) : (bothK s inner j).length = s.length := by simp [bothK]
theorem bothK_zero (s inner : List Bool) : bothK s inner 0 = List.replicate s.length false := by
  refine List.ext_getElem (by simp [bothK]) fun i h1 h2 => ?_
  simp [bothK]
theorem bothK_set (s inner : List Bool) (j v : Nat) (hs : s.getD v false = true) (hj : (keptI s v).length = j) : (bothK s inner j).set v (inner.getD j false) = bothK s inner (j + 1) := by
  refine List.ext_getElem (by simp [bothK]) fun u h1 h2 => ?_
  rw [List.getElem_set]
  have hu : u < s.length := by simpa [bothK] using h2
  by_cases e : v = u
  · subst e
    simp only [bothK, List.getElem_map, List.getElem_range]
    rw [if_pos trivial, hs, hj]; simp
  · rw [if_neg e]
    simp only [bothK, List.getElem_map, List.getElem_range]
    by_cases hsu : s.getD u false = true
    · have hne : (keptI s u).length ≠ j := fun h => e (keptI_inj s hs hsu (by rw [hj, h]))
      rw [decide_eq_decide.2 (show (keptI s u).length < j ↔ (keptI s u).length < j + 1 by omega)]
    · rw [Bool.not_eq_true] at hsu
      rw [hsu]; rfl

section
variable {g : Gm} {s inner : List Bool}
theorem both_get {m : Nat} (hm : (keptI s s.length).length = m) {v : Nat} (hv : v < s.length) : (bothK s inner m).getD v false = (s.getD v false && (inner.take m).getD (keptI s v).length false) := by
  have hb : (bothK s inner m).getD v false = (s.getD v false && decide ((keptI s v).length < m) && inner.getD (keptI s v).length false) := by simp [bothK, List.getD, hv]
  rw [hb]
  by_cases hs : s.getD v false = true
  · have h1 := keptI_lt' s hv hs
    rw [hs, decide_eq_true (show (keptI s v).length < m by omega)]
    have : (inner.take m).getD (keptI s v).length false = inner.getD (keptI s v).length false := by
      simp only [List.getD]
      rw [List.getElem?_take_of_lt (by omega)]
    rw [this]; rfl
  · rw [Bool.not_eq_true] at hs
    rw [hs]; rfl
theorem both_kept {m : Nat} (hm : (keptI s s.length).length = m) : ∀ k, k ≤ s.length → keptI (bothK s inner m) k = (keptI (inner.take m) (keptI s k).length).map fun i => (keptI s s.length).getD i.toNat 0 := by
  intro k
  induction k with
  | zero => intro _; simp [keptI]
  | succ k ih =>
    intro hk
    have h1 := ih (by omega)
    rw [keptI_succ, both_get hm (by omega), keptI_succ s k]
    by_cases hs : s.getD k false = true
    · rw [hs, Bool.true_and, if_pos rfl, List.length_append, List.length_singleton, keptI_succ (inner.take m)]
      by_cases ht : (inner.take m).getD (keptI s k).length false = true
      · rw [if_pos ht, if_pos ht, h1, List.map_append]
        congr 1
        simp only [List.map_cons, List.map_nil, Int.toNat_natCast]
        rw [keptI_get s (by omega) hs]
      · rw [if_neg ht, if_neg ht, h1]
    · rw [Bool.not_eq_true] at hs
      rw [hs, Bool.false_and, if_neg (by simp), if_neg (by simp), h1]
theorem both_sub {m : Nat} (hm : (keptI s s.length).length = m) (l : List Int) (hl : ∀ x ∈ l, 0 ≤ x ∧ x < s.length) : subI (bothK s inner m) l = subI (inner.take m) (subI s l) := by
  induction l with
  | nil => rfl
  | cons x l ih =>
    have h1 := ih fun y hy => hl y (List.mem_cons_of_mem _ hy)
    have hx := hl x List.mem_cons_self
    have hb : atB (bothK s inner m) x = (s.getD x.toNat false && (inner.take m).getD (keptI s x.toNat).length false) := both_get hm (by omega)
    rw [subI_cons, hb, subI_cons s]
    by_cases hs : s.getD x.toNat false = true
    · have hs' : atB s x = true := hs
      rw [hs, Bool.true_and, if_pos hs', subI_cons (inner.take m)]
      have ha : atB (inner.take m) ((keptI s x.toNat).length : Int) = (inner.take m).getD (keptI s x.toNat).length false := by
        unfold atB; rw [Int.toNat_natCast]
      rw [ha, h1, both_kept hm _ (by omega), List.length_map, Int.toNat_natCast]
    · rw [Bool.not_eq_true] at hs
      have hs' : atB s x = false := hs
      rw [hs, hs', Bool.false_and, if_neg (by simp), if_neg (by simp), h1]
theorem both_part {m : Nat} (hv : validB g = true) (hl : s.length = g.owner.length) (hm : (keptI s s.length).length = m) :
    partG (partG g s (keptI s s.length)) (inner.take m) (keptI (inner.take m) m) = partG g (bothK s inner m) (keptI (bothK s inner m) s.length) := by
  rw [both_kept hm _ (Nat.le_refl _), hm]
  have hat : ∀ i ∈ keptI (inner.take m) m, ∃ v : Nat, (keptI s s.length).getD i.toNat 0 = (v : Int) ∧ v < s.length ∧ i.toNat < (keptI s s.length).length := fun i hi => by
    obtain ⟨u, rfl, hu, -⟩ := keptI_mem hi
    obtain ⟨v, h1, h2, -⟩ := keptI_at s s.length u (by omega)
    exact ⟨v, by rw [Int.toNat_natCast, h1], h2, by rw [Int.toNat_natCast]; omega⟩
  unfold partG
  simp only [List.map_map]
  have e1 : ∀ (f : Int → Int), (keptI (inner.take m) m).map (fun v => ((keptI s s.length).map f).getD v.toNat 0) = (keptI (inner.take m) m).map (f ∘ fun i => (keptI s s.length).getD i.toNat 0) := fun f => List.map_congr_left fun i hi => by
    obtain ⟨v, h1, h2, h3⟩ := hat i hi
    rw [map_getD' _ _ _ 0 0 h3]; rfl
  have e2 : (keptI (inner.take m) m).map (fun v => subI (inner.take m) (((keptI s s.length).map fun v => subI s (g.succ.getD v.toNat [])).getD v.toNat [])) = (keptI (inner.take m) m).map ((fun v => subI (bothK s inner m) (g.succ.getD v.toNat [])) ∘ fun i => (keptI s s.length).getD i.toNat 0) := List.map_congr_left fun i hi => by
    obtain ⟨v, h1, h2, h3⟩ := hat i hi
    rw [map_getD' _ _ _ 0 [] h3]
    simp only [Function.comp_apply]
    rw [both_sub hm _ (by rw [h1, Int.toNat_natCast]; have := (valid_at hv v (by omega)).2.2.2; rw [hl]; exact this)]
  rw [e1, e1, e2]
theorem part_part (hv : validB g = true) (hl : s.length = g.owner.length) (h0 : 0 < (partR g s).2.length) (hi : (partR g s).2.length ≤ inner.length) :
    (partR (partR g s).1 (inner.take (partR g s).2.length)).1 = (partR g (bothK s inner (partR g s).2.length)).1 ∧ (partR (partR g s).1 (inner.take (partR g s).2.length)).2.length = (partR g (bothK s inner (partR g s).2.length)).2.length ∧
    ∀ i, i < (partR (partR g s).1 (inner.take (partR g s).2.length)).2.length → ∃ u : Nat, (partR (partR g s).1 (inner.take (partR g s).2.length)).2.getD i 0 = (u : Int) ∧ u < (partR g s).2.length ∧ (partR g s).2.getD u 0 = (partR g (bothK s inner (partR g s).2.length)).2.getD i 0 := by
  cases ho : partOK g s (keptI s s.length) with
  | false => rw [partR_no ho] at h0; exact absurd h0 (by simp)
  | true =>
    have hval := part_valid' hv hl ho
    rw [partR_ok hv hl ho] at h0 hi ⊢
    simp only at h0 hi ⊢
    obtain ⟨m, hm⟩ : ∃ m, (keptI s s.length).length = m := ⟨_, rfl⟩
    have hE := both_part (inner := inner) hv hl hm
    rw [hm] at h0 hi ⊢
    have ht : (inner.take m).length = m := by simp; omega
    have hb : (bothK s inner m).length = s.length := bothK_len _ _ _
    have hp : partOK (partG g s (keptI s s.length)) (inner.take m) (keptI (inner.take m) (inner.take m).length) = partOK g (bothK s inner m) (keptI (bothK s inner m) (bothK s inner m).length) := by rw [ht, hb, partOK_eq, partOK_eq, hE]
    cases hq : partOK g (bothK s inner m) (keptI (bothK s inner m) (bothK s inner m).length) with
    | false =>
      rw [hq] at hp
      rw [partR_no hq, partR_no hp]
      exact ⟨rfl, rfl, fun i hi => absurd hi (by simp)⟩
    | true =>
      rw [hq] at hp
      rw [partR_ok hval (by rw [ht]; simp [partG, hm]) hp, partR_ok hv (by rw [hb, hl]) hq, ht, hb]
      simp only
      refine ⟨hE, ?_, fun i hi => ?_⟩
      · rw [both_kept hm _ (Nat.le_refl _), List.length_map, hm]
      · obtain ⟨u, h1, h2, h3, h4⟩ := keptI_at _ _ _ hi
        refine ⟨u, h1, h2, ?_⟩
        rw [both_kept hm _ (Nat.le_refl _), hm, map_getD' _ _ i 0 0 hi, h1, Int.toNat_natCast]
end

end Go.Proofs.YtjadeffdcbchnaaDoor
