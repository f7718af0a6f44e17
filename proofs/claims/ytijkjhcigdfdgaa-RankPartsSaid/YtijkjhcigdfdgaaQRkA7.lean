/- The law RankParts: its plain part. -/
import Derived.Test.YtijkjhcigdfdgaaQRkA6
namespace Go.Proofs.Ytijkjhcigdfdgaa

theorem unitL_snoc : ∀ (l : List Nat) (x : Nat), unitL (l ++ [x]) = unitL l * (x + 1)
  | [], x => by simp [unitL]
  | y :: l, x => by
    show (y + 1) * unitL (l ++ [x]) = (y + 1) * unitL l * (x + 1)
    rw [unitL_snoc l x, Nat.mul_assoc]
theorem unitL_le {f f' : Nat → Nat} (h : ∀ k, f k ≤ f' k) : ∀ K, unitL ((List.range K).map f) ≤ unitL ((List.range K).map f')
  | 0 => Nat.le_refl _
  | K + 1 => by
    rw [List.range_succ, List.map_append, List.map_append]
    show unitL (_ ++ [f K]) ≤ unitL (_ ++ [f' K])
    rw [unitL_snoc, unitL_snoc]
    exact Nat.mul_le_mul (unitL_le h K) (by have := h K; omega)
theorem unitL_more (f : Nat → Nat) (K d : Nat) : unitL ((List.range K).map f) ≤ unitL ((List.range (K + d)).map f) := by
  induction d with
  | zero => exact Nat.le_refl _
  | succ d ih =>
    rw [← Nat.add_assoc, List.range_succ, List.map_append]
    show _ ≤ unitL (_ ++ [f (K + d)])
    rw [unitL_snoc]
    exact Nat.le_trans ih (Nat.le_mul_of_pos_right _ (by omega))
section
variable {a b : Gm}
theorem high_sub (h : a.prio.Sublist b.prio) : highG a ≤ highG b := by
  rcases high_in a with e | e
  · rw [e]; exact high_nn b
  · exact high_ge (h.subset e)
theorem work_sub (hn : a.owner.length ≤ b.owner.length) (h : a.prio.Sublist b.prio) : workN a.owner.length (moG a) ≤ workN b.owner.length (moG b) := by
  have h1 : unitL (moG a) ≤ unitL (moG b) := by
    have hc : ∀ k, cntP a k ≤ cntP b k := fun k => (h.filter _).length_le
    have hh := high_sub h
    have hk : partN (highG a).toNat ≤ partN (highG b).toNat := by unfold partN; omega
    unfold moG
    refine Nat.le_trans (unitL_le hc _) ?_
    have := unitL_more (cntP b) (partN (highG a).toNat) (partN (highG b).toNat - partN (highG a).toNat)
    rwa [show partN (highG a).toNat + (partN (highG b).toNat - partN (highG a).toNat) = partN (highG b).toNat by omega] at this
  have h2 := Nat.mul_le_mul hn h1
  unfold workN
  split <;> split <;> omega
end
/-- Where the measures of a player are not top. -/
noncomputable def inL (g : Gm) (p : Int) : List Bool := (lstG g p).map fun r => !decide (r = [])
theorem inL_len (g : Gm) (p : Int) : (inL g p).length = g.owner.length := by unfold inL; rw [List.length_map, lst_len]
theorem inL_at {g : Gm} {p : Int} {i : Nat} (hi : i < g.owner.length) : (inL g p).getD i false = !decide ((lstG g p).getD i [] = []) := by
  have : i < (lstG g p).length := by rw [lst_len]; exact hi
  simp [inL, List.getD, this]
theorem part_prio {g : Gm} (hv : validB g = true) (s : List Bool) : (partG g s (keptI s g.owner.length)).prio.Sublist g.prio := by
  have hl := (valid_lens hv).2.1
  have e : g.prio = (List.range g.owner.length).map fun i => g.prio.getD i 0 := by
    apply List.ext_getElem (by simp; omega)
    intro i h1 h2
    simp [List.getD, h1]
  have e2 : (partG g s (keptI s g.owner.length)).prio = ((List.range g.owner.length).filter (fun i => s.getD i false)).map fun i => g.prio.getD i 0 := by
    simp [partG, keptI]
  rw [e2]
  have := ((List.filter_sublist (p := fun i => s.getD i false) (l := List.range g.owner.length)).map fun i => g.prio.getD i 0)
  rwa [← e] at this
theorem FineH.part {g : Gm} (h : FineH g) {p : Int} (hp : p = 0 ∨ p = 1) : partR g (inL g p) = (partG g (inL g p) (keptI (inL g p) g.owner.length), keptI (inL g p) g.owner.length) ∧
    FineH (partG g (inL g p) (keptI (inL g p) g.owner.length)) ∧ (partG g (inL g p) (keptI (inL g p) g.owner.length)).owner.length = (keptI (inL g p) g.owner.length).length ∧
    ∀ j, j < (keptI (inL g p) g.owner.length).length → (lstG (partG g (inL g p) (keptI (inL g p) g.owner.length)) p).getD j [] ≠ [] ∧ (lstG (partG g (inL g p) (keptI (inL g p) g.owner.length)) (1 - p)).getD j [] = [] := by
  have hget : ∀ i, i < g.owner.length → ((inL g p).getD i false = true ↔ (solR g).getD i 0 = p) := fun i hi => by
    have := (h.won (solR_is g) hp hi).1
    rw [inL_at hi]
    simp only [Bool.not_eq_true', decide_eq_false_iff_not]
    constructor
    · intro h1
      exact Decidable.not_not.1 fun h2 => h1 (this.2 h2)
    · intro h1 h2
      exact this.1 h2 h1
  obtain ⟨q1, q2, q3⟩ := part_won h.v hp (inL_len g p) hget
  have hpr := part_prio h.v (inL g p)
  have hkl := keptI_len (inL g p) g.owner.length
  generalize inL g p = s at *
  have hlo : (partG g s (keptI s g.owner.length)).owner.length = (keptI s g.owner.length).length := by simp [partG]
  have hlp : (partG g s (keptI s g.owner.length)).prio.length = (keptI s g.owner.length).length := by simp [partG]
  have hsu : ∀ i, ((partG g s (keptI s g.owner.length)).succ.getD i []).length ≤ 20 := fun i => by
    by_cases hi : i < (keptI s g.owner.length).length
    · have : (partG g s (keptI s g.owner.length)).succ.getD i [] = subI s (g.succ.getD ((keptI s g.owner.length)[i]).toNat []) := by simp [partG, List.getD, hi]
      rw [this]
      exact Nat.le_trans (subI_len _ _) (h.s _)
    · have : (partG g s (keptI s g.owner.length)).succ.getD i [] = [] := by simp [partG, List.getD, hi]
      rw [this]; simp
  generalize hP : partG g s (keptI s g.owner.length) = P at *
  have hh := high_sub hpr
  have hvw : ∀ q : Int, q = 0 ∨ q = 1 → workV P q ≤ workV g q := fun q hq => by
    have e1 : viewG P q = some (vwG P q) := by unfold viewG vwG; rw [if_pos ⟨hq, q2, by have := h.h; omega⟩]
    have hn := (view_valid e1).2.1
    have e2 := h.view hq
    unfold workV
    rw [e1, e2]
    refine work_sub (by rw [hn, h.vn hq]; omega) ?_
    rcases hq with rfl | rfl
    · exact hpr
    · exact hpr.map _
  have hF : FineH P := ⟨q2, by have := h.n; omega, by have := h.n; omega, hsu, by have := h.h; omega, by have := hvw 0 (.inl rfl); have := h.w0; omega, by have := hvw 1 (.inr rfl); have := h.w1; omega⟩
  refine ⟨q1, hF, hlo, fun j hj => ?_⟩
  have hj' : j < P.owner.length := by omega
  have hw := q3 j hj
  have w1 := (hF.won (solR_is P) hp hj').1
  have w2 := (hF.won (solR_is P) (p := 1 - p) (by omega) hj').1
  exact ⟨fun e => w1.1 e hw, w2.2 (by omega)⟩

end Go.Proofs.Ytijkjhcigdfdgaa
