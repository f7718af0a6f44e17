/- The part of a game, in plain lists. -/
import Derived.Test.YtjhafakkadnfmaaP22
namespace Go.Proofs.Ytjhafakkadnfmaa

/-- The numbers of the first k positions that are in. -/
def keptI (s : List Bool) (k : Nat) : List Int := ((List.range k).filter (fun i => s.getD i false)).map fun (i : Nat) => (i : Int)
/-- How many are in ahead of each of the first k. -/
def numI (s : List Bool) (k : Nat) : List Int := (List.range k).map fun v => ((keptI s v).length : Int)
/-- The successors that are in, by their new numbers. -/
def subI (s : List Bool) (l : List Int) : List Int := (l.filter (atB s)).map fun x => ((keptI s x.toNat).length : Int)

theorem keptI_succ (s : List Bool) (k : Nat) : keptI s (k + 1) = if s.getD k false then keptI s k ++ [(k : Int)] else keptI s k := by
  unfold keptI
  rw [List.range_succ, List.filter_append, List.map_append]
  by_cases h : s.getD k false = true
  · rw [List.filter_cons_of_pos (by exact h), if_pos h]; rfl
  · rw [List.filter_cons_of_neg (by exact h), if_neg h]; simp

theorem numI_succ (s : List Bool) (k : Nat) : numI s (k + 1) = numI s k ++ [((keptI s k).length : Int)] := by
  unfold numI; rw [List.range_succ, List.map_append]; rfl

theorem keptI_len (s : List Bool) (k : Nat) : (keptI s k).length ≤ k := by
  unfold keptI
  rw [List.length_map]
  exact Nat.le_trans (List.length_filter_le _ _) (by simp)

theorem numI_len (s : List Bool) (k : Nat) : (numI s k).length = k := by simp [numI]
theorem numI_get (s : List Bool) (k v : Nat) (h : v < k) : (numI s k).getD v 0 = ((keptI s v).length : Int) := by simp [numI, h]

theorem keptI_mem {s : List Bool} {k : Nat} {x : Int} (h : x ∈ keptI s k) : ∃ v : Nat, x = v ∧ v < k ∧ s.getD v false = true := by
  unfold keptI at h
  obtain ⟨v, hv, rfl⟩ := List.mem_map.1 h
  rw [List.mem_filter, List.mem_range] at hv
  exact ⟨v, rfl, hv.1, hv.2⟩

theorem keptI_mono (s : List Bool) {v k : Nat} (h : v ≤ k) : (keptI s v).length ≤ (keptI s k).length := by
  induction k with
  | zero => rw [show v = 0 from by omega]; exact Nat.le_refl _
  | succ k ih =>
    rw [keptI_succ]
    rcases Nat.lt_or_ge v (k + 1) with h1 | h1
    · have := ih (by omega)
      split
      · rw [List.length_append]; omega
      · exact this
    · rw [show v = k + 1 from by omega, keptI_succ]; exact Nat.le_refl _

theorem keptI_lt (s : List Bool) {v k : Nat} (h : v < k) (hs : s.getD v false = true) : (keptI s v).length < (keptI s k).length := by
  have h1 := keptI_mono s (v := v + 1) (k := k) (by omega)
  rw [keptI_succ, if_pos hs, List.length_append] at h1
  simp at h1; omega

theorem subI_snoc (s : List Bool) (l : List Int) (x : Int) : subI s (l ++ [x]) = if atB s x then subI s l ++ [((keptI s x.toNat).length : Int)] else subI s l := by
  unfold subI
  rw [List.filter_append, List.map_append]
  cases h : atB s x <;> simp [h]

theorem subI_len (s : List Bool) (l : List Int) : (subI s l).length ≤ l.length := by
  unfold subI; rw [List.length_map]; exact List.length_filter_le _ _

/-- The part of the first positions kept. -/
def partG (g : Gm) (s : List Bool) (ks : List Int) : Gm := ⟨ks.map fun v => g.owner.getD v.toNat 0, ks.map fun v => g.prio.getD v.toNat 0, ks.map fun v => subI s (g.succ.getD v.toNat [])⟩

/-- All kept positions have a successor that is kept. -/
def partOK (g : Gm) (s : List Bool) (ks : List Int) : Bool := ks.all fun v => !(subI s (g.succ.getD v.toNat [])).isEmpty

/-- What Part returns. -/
def partR (g : Gm) (s : List Bool) : Gm × List Int :=
  if validB g && decide (s.length = g.owner.length) && partOK g s (keptI s s.length) then (partG g s (keptI s s.length), keptI s s.length) else (⟨[], [], []⟩, [])

theorem partG_snoc (g : Gm) (s : List Bool) (ks : List Int) (v : Int) : partG g s (ks ++ [v]) = ⟨(partG g s ks).owner ++ [g.owner.getD v.toNat 0], (partG g s ks).prio ++ [g.prio.getD v.toNat 0], (partG g s ks).succ ++ [subI s (g.succ.getD v.toNat [])]⟩ := by
  simp [partG]

/-- The part of a trap is a game. -/
theorem part_valid {g : Gm} {p : Int} {s : List Bool} (F : Fits g p s.length) (hT : trapB g p s = true) (h0 : 0 < (keptI s s.length).length) (hv : validB g = true) :
    partOK g s (keptI s s.length) = true ∧ validB (partG g s (keptI s s.length)) = true := by
  rw [trapB_iff F] at hT
  have hk := keptI_len s s.length
  have hle := F.le
  have hsome : ∀ v ∈ keptI s s.length, ∃ n : Nat, v = n ∧ n < s.length ∧ ∃ x ∈ g.succ.getD n [], atB s x = true := fun v hv => by
    obtain ⟨n, rfl, hn, hs⟩ := keptI_mem hv
    refine ⟨n, rfl, hn, ?_⟩
    obtain ⟨k1, k2⟩ := hT n hn hs
    by_cases e : g.owner.getD n 0 = p
    · obtain ⟨x, hx⟩ := List.exists_mem_of_ne_nil _ (F.ne n hn)
      exact ⟨x, hx, k2 e x hx⟩
    · exact k1 e
  have hne : ∀ v ∈ keptI s s.length, (subI s (g.succ.getD v.toNat [])).isEmpty = false := fun v hv => by
    obtain ⟨n, rfl, hn, x, hx, hb⟩ := hsome v hv
    rw [Int.toNat_natCast]
    cases h : subI s (g.succ.getD n []) with
    | nil =>
      have : ((keptI s x.toNat).length : Int) ∈ subI s (g.succ.getD n []) := List.mem_map.2 ⟨x, List.mem_filter.2 ⟨hx, hb⟩, rfl⟩
      rw [h] at this; cases this
    | cons a l => rfl
  refine ⟨?_, ?_⟩
  · rw [partOK, List.all_eq_true]
    intro v hv
    rw [hne v hv]; rfl
  · obtain ⟨a, b, c⟩ := valid_lens hv
    have hv2 := (validB_iff g a b c).1 hv
    simp only [okB, Bool.and_eq_true, decide_eq_true_eq] at hv2
    have hon := F.on
    rw [validB_iff _ (by simp only [partG, List.length_map]; omega) (by simp [partG]) (by simp [partG])]
    intro i hi
    simp only [partG, List.length_map] at hi
    obtain ⟨n, hn1, hn2, -⟩ := hsome _ (List.getElem_mem hi)
    have h2 := hv2 n (by omega)
    have h3 := hne _ (List.getElem_mem hi)
    have e1 : (partG g s (keptI s s.length)).owner.getD i 0 = g.owner.getD n 0 := by simp [partG, List.getD, hi, hn1]
    have e2 : (partG g s (keptI s s.length)).prio.getD i 0 = g.prio.getD n 0 := by simp [partG, List.getD, hi, hn1]
    have e3 : (partG g s (keptI s s.length)).succ.getD i [] = subI s (g.succ.getD n []) := by simp [partG, List.getD, hi, hn1]
    have e4 : (partG g s (keptI s s.length)).owner.length = (keptI s s.length).length := by simp [partG]
    rw [okB, e1, e2, e3, e4]
    simp only [Bool.and_eq_true, decide_eq_true_eq, Bool.not_eq_true']
    rw [hn1, Int.toNat_natCast] at h3
    refine ⟨⟨⟨h2.1.1.1, h2.1.1.2⟩, h3⟩, ?_⟩
    rw [inB, List.all_eq_true]
    intro x hx
    unfold subI at hx
    obtain ⟨y, hy, rfl⟩ := List.mem_map.1 hx
    rw [List.mem_filter] at hy
    have hr := F.rg n hn2 y hy.1
    have := keptI_lt s (v := y.toNat) (k := s.length) (by omega) hy.2
    simp only [Bool.and_eq_true, decide_eq_true_eq]
    omega

end Go.Proofs.Ytjhafakkadnfmaa
