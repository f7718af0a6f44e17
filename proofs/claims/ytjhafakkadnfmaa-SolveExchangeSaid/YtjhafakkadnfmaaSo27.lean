/- Games that are better for the controller, with exchanged players, with other priorities: who wins them (plain). -/
import Derived.Test.YtjhafakkadnfmaaSo24
namespace Go.Proofs.Ytjhafakkadnfmaa
open Go.RowKit

theorem Plus.mapTo {r s : Nat → Nat → Prop} (f : Nat → Nat) (h : ∀ a b, r a b → s (f a) (f b)) {a b : Nat} (k : Plus r a b) : Plus s (f a) (f b) := by
  induction k with
  | one k => exact .one (h _ _ k)
  | more k _ ih => exact .more (h _ _ k) ih

theorem okB_iff (g : Gm) (i : Nat) : okB g i = true ↔ (0 ≤ g.owner.getD i 0 ∧ g.owner.getD i 0 ≤ 1) ∧ (0 ≤ g.prio.getD i 0 ∧ g.prio.getD i 0 ≤ 30000) ∧ g.succ.getD i [] ≠ [] ∧ ∀ x ∈ g.succ.getD i [], 0 ≤ x ∧ x < g.owner.length := by
  unfold okB inB
  simp only [Bool.and_eq_true, decide_eq_true_eq, List.all_eq_true, Bool.not_eq_true', List.isEmpty_eq_false_iff]
  constructor
  · rintro ⟨⟨⟨a, b⟩, c⟩, d⟩
    exact ⟨a, b, c, fun x hx => ⟨(d x hx).1, by have := (d x hx).2; omega⟩⟩
  · rintro ⟨a, b, c, d⟩
    exact ⟨⟨⟨a, b⟩, c⟩, fun x hx => ⟨(d x hx).1, by have := (d x hx).2; omega⟩⟩

theorem valid_at {g : Gm} (h : validB g = true) (i : Nat) (hi : i < g.owner.length) : (0 ≤ g.owner.getD i 0 ∧ g.owner.getD i 0 ≤ 1) ∧ (0 ≤ g.prio.getD i 0 ∧ g.prio.getD i 0 ≤ 30000) ∧ g.succ.getD i [] ≠ [] ∧ ∀ x ∈ g.succ.getD i [], 0 ≤ x ∧ x < g.owner.length := by
  obtain ⟨a, b, c⟩ := valid_lens h
  exact (okB_iff g i).1 ((validB_iff g a b c).1 h i hi)

/-- What is won stays won in a game that is better for the controller. -/
theorem WinsBy.better {g g' : Gm} {S D : Nat → Prop} {σ σ' : Nat → Nat} (h : WinsBy g 0 S D σ) (hnn : ∀ i, D i → 0 ≤ pri g i)
    (hp : ∀ i, D i → pri g' i = pri g i ∨ pri g' i = 0)
    (hm : ∀ i, D i → own g' i = 0 → Edge g' i (σ' i) ∧ D (σ' i))
    (ho : ∀ i, D i → own g' i ≠ 0 → own g i ≠ 0 ∧ ∀ j, Edge g' i j → Edge g i j)
    (hs : ∀ u v, D u → D v → Edge g' u v → (own g' u = 0 → v = σ' u) → Edge g u v ∧ (own g u = 0 → v = σ u)) : WinsBy g' 0 S D σ' := by
  refine ⟨h.sub, hm, fun i hi hne j he hj => h.other i hi (ho i hi hne).1 j ((ho i hi hne).2 j he) hj, fun v hv hl hc => ?_⟩
  unfold Lost at hl
  have e : pri g' v = pri g v := by
    rcases hp v hv with e | e
    · exact e
    · rw [e] at hl; exact absurd rfl hl
  have hnv := hnn v hv
  refine h.free v hv (by unfold Lost; rw [← e]; exact hl) (hc.mapTo id fun a b ⟨ha, hb, he, k1, k2, hst⟩ => ?_)
  rw [e] at k1 k2 hl
  obtain ⟨q1, q2⟩ := hs a b ha hb he hst
  have f : ∀ u, D u → pri g v ≤ pri g' u → pri g v ≤ pri g u := fun u hu hk => by rcases hp u hu with e | e <;> omega
  exact ⟨ha, hb, q1, f a ha k1, f b hb k2, q2⟩

/-- The game that more returns. -/
def moreG (g : Gm) (kind i x : Nat) : Gm :=
  if kind = 0 then ⟨g.owner.set i 0, g.prio, g.succ⟩ else if kind = 1 then ⟨g.owner, g.prio.set i 0, g.succ⟩
  else if g.owner.getD i 0 = 0 then ⟨g.owner, g.prio, g.succ.set i (g.succ.getD i [] ++ [(x : Int)])⟩ else g

theorem getD_setL (l : List (List Int)) (i j : Nat) (x : List Int) (h : i < l.length) : (l.set i x).getD j [] = if i = j then x else l.getD j [] := by
  simp only [List.getD, List.getElem?_set]
  split
  · rename_i e; subst e; simp
  · rfl

theorem more_len (g : Gm) (kind i x : Nat) : (moreG g kind i x).owner.length = g.owner.length ∧ (moreG g kind i x).prio.length = g.prio.length ∧ (moreG g kind i x).succ.length = g.succ.length := by
  unfold moreG
  repeat' split
  all_goals simp

theorem more_valid {g : Gm} (hv : validB g = true) (kind : Nat) {i x : Nat} (hi : i < g.owner.length) (hx : x < g.owner.length) : validB (moreG g kind i x) = true := by
  obtain ⟨a, b, c⟩ := valid_lens hv
  obtain ⟨l0, l1, l2⟩ := more_len g kind i x
  refine (validB_iff _ (by omega) (by omega) (by omega)).2 fun j hj => (okB_iff _ _).2 ?_
  rw [l0] at hj ⊢
  have h := valid_at hv j hj
  unfold moreG
  split
  · simp only [getD_setI _ _ _ _ hi]
    split
    · exact ⟨⟨Int.le_refl _, by omega⟩, h.2⟩
    · exact h
  · split
    · simp only [getD_setI _ _ _ _ (show i < g.prio.length by omega)]
      split
      · exact ⟨h.1, ⟨Int.le_refl _, by omega⟩, h.2.2⟩
      · exact h
    · split
      · simp only [getD_setL _ _ _ _ (show i < g.succ.length by omega)]
        split
        · rename_i e
          subst e
          refine ⟨h.1, h.2.1, by simp, fun y hy => ?_⟩
          rcases List.mem_append.1 hy with hy | hy
          · exact h.2.2.2 y hy
          · obtain rfl := List.mem_singleton.1 hy; omega
        · exact h
      · exact h

theorem more_sl {g : Gm} (hS : ∀ i, (g.succ.getD i []).length ≤ 999) (kind i x : Nat) : ∀ j, ((moreG g kind i x).succ.getD j []).length ≤ 1000 := by
  intro j
  have h := hS j
  have h2 := hS i
  unfold moreG
  by_cases c1 : kind = 0
  · rw [if_pos c1]; exact Nat.le_succ_of_le h
  rw [if_neg c1]
  by_cases c2 : kind = 1
  · rw [if_pos c2]; exact Nat.le_succ_of_le h
  rw [if_neg c2]
  by_cases c3 : g.owner.getD i 0 = 0
  · rw [if_pos c3]
    show ((g.succ.set i (g.succ.getD i [] ++ [(x : Int)])).getD j []).length ≤ 1000
    rcases Nat.lt_or_ge i g.succ.length with hi | hi
    · rw [getD_setL _ _ _ _ hi]
      split
      · rw [List.length_append, List.length_singleton]; omega
      · omega
    · rw [List.set_eq_of_length_le hi]; omega
  · rw [if_neg c3]; exact Nat.le_succ_of_le h

theorem more_keeps {g : Gm} (hv : validB g = true) (kind : Nat) {i x : Nat} (hi : i < g.owner.length) (hx : x < g.owner.length) (v : Nat) (hvn : v < g.owner.length) (h : (solR g).getD v 0 = 0) : (solR (moreG g kind i x)).getD v 0 = 0 := by
  obtain ⟨a, b, c⟩ := valid_lens hv
  obtain ⟨σ, hD⟩ := ((solR_is g).2 hv).2.d0
  have hv' := more_valid hv kind hi hx
  have hsol := ((solR_is _).2 hv').2
  rw [(more_len g kind i x).1] at hsol
  suffices hW : ∃ σ', WinsBy (moreG g kind i x) 0 (fun i => i < g.owner.length) (fun i => i < g.owner.length ∧ (solR g).getD i 0 = 0) σ' from
    hsol.has (n := g.owner.length) hW (.inl rfl) (fun _ h => h) (fun j hj => valid_own hv' j (by rw [(more_len g kind i x).1]; exact hj)) v ⟨hvn, h⟩
  have hnn : ∀ i, i < g.owner.length ∧ (solR g).getD i 0 = 0 → 0 ≤ pri g i := fun i hi => (valid_at hv i hi.1).2.1.1
  unfold moreG
  split
  · refine ⟨fun u => if own g u = 0 then σ u else ((g.succ.getD u []).headD 0).toNat, hD.better hnn (fun _ _ => .inl rfl) (fun u hu _ => ?_) (fun u hu hne => ⟨fun e => hne ?_, fun _ h => h⟩) (fun u w _ _ he hst => ⟨he, fun e => ?_⟩)⟩
    · show Edge g u _ ∧ _
      split
      · rename_i e
        exact hD.mine u hu e
      · rename_i e
        obtain ⟨-, -, hne, -⟩ := valid_at hv u hu.1
        have hm : (g.succ.getD u []).headD 0 ∈ g.succ.getD u [] := by
          cases hl : g.succ.getD u [] with
          | nil => exact absurd hl hne
          | cons y l => simp
        obtain ⟨w, ew, hw⟩ := valid_rg hv u hu.1 _ hm
        rw [ew] at hm ⊢
        rw [Int.toNat_natCast]
        exact ⟨hm, hD.other u hu e w hm hw⟩
    · unfold own at e ⊢
      simp only [getD_setI _ _ _ _ hi]
      split
      · rfl
      · exact e
    · have := hst (by
        unfold own at e ⊢
        simp only [getD_setI _ _ _ _ hi]
        split
        · rfl
        · exact e)
      rw [if_pos e] at this
      exact this
  · split
    · refine ⟨σ, hD.better hnn (fun u _ => ?_) (fun u hu e => hD.mine u hu e) (fun u hu hne => ⟨hne, fun _ h => h⟩) (fun u w _ _ he hst => ⟨he, hst⟩)⟩
      unfold pri
      simp only [getD_setI _ _ _ _ (show i < g.prio.length by omega)]
      split
      · exact .inr rfl
      · exact .inl rfl
    · split
      · rename_i ho
        have hE : ∀ u w, u ≠ i → Edge ⟨g.owner, g.prio, g.succ.set i (g.succ.getD i [] ++ [(x : Int)])⟩ u w → Edge g u w := fun u w hu he => by
          unfold Edge at he ⊢
          simp only [getD_setL _ _ _ _ (show i < g.succ.length by omega)] at he
          rwa [if_neg (Ne.symm hu)] at he
        refine ⟨σ, hD.better hnn (fun _ _ => .inl rfl) (fun u hu e => ?_) (fun u hu hne => ⟨hne, fun w he => hE u w (fun e => hne (by rw [e]; exact ho)) he⟩) (fun u w hu _ he hst => ⟨?_, hst⟩)⟩
        · obtain ⟨h1, h2⟩ := hD.mine u hu e
          refine ⟨?_, h2⟩
          unfold Edge at h1 ⊢
          simp only [getD_setL _ _ _ _ (show i < g.succ.length by omega)]
          split
          · rename_i e; subst e; exact List.mem_append_left _ h1
          · exact h1
        · by_cases e : own g u = 0
          · rw [hst e]; exact (hD.mine u hu e).1
          · exact hE u w (fun e2 => e (by rw [e2]; exact ho)) he
      · exact ⟨σ, hD⟩

/-- The same win with other names of the players and other priorities. -/
theorem WinsBy.turn {g g' : Gm} {p q : Int} {S D : Nat → Prop} {σ : Nat → Nat} (h : WinsBy g p S D σ)
    (ho : ∀ i, D i → (own g' i = q ↔ own g i = p)) (he : ∀ u v, (Edge g' u v ↔ Edge g u v))
    (hl : ∀ v, D v → Lost q (pri g' v) → Lost p (pri g v)) (hp : ∀ u v, D u → D v → pri g' v ≤ pri g' u → pri g v ≤ pri g u) : WinsBy g' q S D σ := by
  refine ⟨h.sub, fun i hi e => ?_, fun i hi hne j hj hS => h.other i hi (fun e => hne ((ho i hi).2 e)) j ((he i j).1 hj) hS, fun v hv hlo hc => h.free v hv (hl v hv hlo) (hc.mapTo id fun a b ⟨ha, hb, h1, k1, k2, hst⟩ => ⟨ha, hb, (he a b).1 h1, hp a v ha hv k1, hp b v hb hv k2, fun e => hst ((ho a ha).2 e)⟩)⟩
  obtain ⟨h1, h2⟩ := h.mine i hi ((ho i hi).1 e)
  exact ⟨(he _ _).2 h1, h2⟩

/-- The game with exchanged players. -/
def swapG (g : Gm) : Gm := ⟨g.owner.map (1 - ·), g.prio.map (· + 1), g.succ⟩

theorem getD_map0 (l : List Int) (f : Int → Int) (i : Nat) (h : i < l.length) : (l.map f).getD i 0 = f (l.getD i 0) := by simp [List.getD, h]

theorem swap_valid {g : Gm} (hv : validB g = true) (hp : ∀ i, i < g.owner.length → g.prio.getD i 0 ≤ 29999) : validB (swapG g) = true := by
  obtain ⟨a, b, c⟩ := valid_lens hv
  refine (validB_iff _ (by simpa [swapG] using a) (by simp [swapG, b]) (by simp [swapG, c])).2 fun j hj => (okB_iff _ _).2 ?_
  have hj' : j < g.owner.length := by simpa [swapG] using hj
  have h := valid_at hv j hj'
  have h2 := hp j hj'
  unfold swapG
  simp only [List.length_map]
  rw [getD_map0 _ _ _ hj', getD_map0 _ _ _ (by omega)]
  exact ⟨by omega, by omega, h.2.2⟩

theorem swap_sol {g : Gm} (hv : validB g = true) (hp : ∀ i, i < g.owner.length → g.prio.getD i 0 ≤ 29999) : solR (swapG g) = (solR g).map (1 - ·) := by
  obtain ⟨a, b, c⟩ := valid_lens hv
  have hs := ((solR_is g).2 hv).2
  have hlen := solR_len hv
  refine (IsSol.eq (g := swapG g) ⟨fun h => ?_, fun _ => ⟨by simp [swapG, hlen], ?_⟩⟩).symm
  · rw [swap_valid hv hp] at h; cases h
  have ho : ∀ i, i < g.owner.length → own (swapG g) i = 1 - own g i := fun i hi => by unfold own swapG; rw [getD_map0 _ _ _ hi]
  have hpr : ∀ i, i < g.owner.length → pri (swapG g) i = pri g i + 1 := fun i hi => by unfold pri swapG; rw [getD_map0 _ _ _ (by omega)]
  have hw : ∀ i, i < g.owner.length → ((solR g).map (1 - ·)).getD i 0 = 1 - (solR g).getD i 0 := fun i hi => getD_map0 _ _ _ (by omega)
  have hl : (swapG g).owner.length = g.owner.length := by simp [swapG]
  rw [hl]
  have key : ∀ p : Int, p = 0 ∨ p = 1 → Dom (swapG g) p (fun i => i < g.owner.length) (fun i => i < g.owner.length ∧ ((solR g).map (1 - ·)).getD i 0 = p) := fun p hp => by
    obtain ⟨σ, hD⟩ := hs.dom (p := 1 - p) (by omega)
    have hW : Dom (swapG g) p (fun i => i < g.owner.length) (fun i => i < g.owner.length ∧ (solR g).getD i 0 = 1 - p) :=
      ⟨σ, hD.turn (fun i hi => by rw [ho i hi.1]; omega) (fun u v => Iff.rfl) (fun v hv => by rw [hpr v hv.1]; unfold Lost; omega) (fun u v hu hv => by rw [hpr u hu.1, hpr v hv.1]; omega)⟩
    exact hW.congr fun i => ⟨fun ⟨h1, h2⟩ => ⟨h1, by rw [hw i h1]; omega⟩, fun ⟨h1, h2⟩ => ⟨h1, by rw [hw i h1] at h2; omega⟩⟩
  refine ⟨fun i hi => ?_, key 0 (.inl rfl), key 1 (.inr rfl)⟩
  have := hs.two i hi
  rw [hw i hi]; omega

/-- The game with greater priorities. -/
def shiftG (g : Gm) (b : Int) : Gm := ⟨g.owner, g.prio.map fun x => x + 2 * b * (1 + x / 2), g.succ⟩

theorem shift_bd {b x : Int} (hb : 0 ≤ b ∧ b ≤ 4) (hx : 0 ≤ x ∧ x ≤ 1000) : 0 ≤ 2 * b * (1 + x / 2) ∧ 2 * b * (1 + x / 2) ≤ 8 * (1 + x / 2) := by
  obtain ⟨h1, h2⟩ := hb
  have h3 : 0 ≤ 1 + x / 2 := by omega
  exact ⟨Int.mul_nonneg (by omega) h3, Int.mul_le_mul_of_nonneg_right (by omega) h3⟩

theorem shift_valid {g : Gm} (hv : validB g = true) (hp : ∀ i, i < g.owner.length → g.prio.getD i 0 ≤ 1000) {b : Int} (hb : 0 ≤ b ∧ b ≤ 4) : validB (shiftG g b) = true := by
  obtain ⟨a, bb, c⟩ := valid_lens hv
  refine (validB_iff _ (by simpa [shiftG] using a) (by simp [shiftG, bb]) (by simp [shiftG, c])).2 fun j hj => (okB_iff _ _).2 ?_
  have hj' : j < g.owner.length := by simpa [shiftG] using hj
  have h := valid_at hv j hj'
  have h2 := hp j hj'
  unfold shiftG
  simp only
  rw [getD_map0 _ _ _ (by omega)]
  have := shift_bd hb ⟨h.2.1.1, h2⟩
  exact ⟨h.1, by omega, h.2.2⟩

theorem shift_sol {g : Gm} (hv : validB g = true) (hp : ∀ i, i < g.owner.length → g.prio.getD i 0 ≤ 1000) {b : Int} (hb : 0 ≤ b ∧ b ≤ 4) : solR (shiftG g b) = solR g := by
  obtain ⟨a, bb, c⟩ := valid_lens hv
  have hs := ((solR_is g).2 hv).2
  have hlen := solR_len hv
  refine (IsSol.eq (g := shiftG g b) ⟨fun h => ?_, fun _ => ⟨by simp [shiftG, hlen], ?_⟩⟩).symm
  · rw [shift_valid hv hp hb] at h; cases h
  have hpr : ∀ i, i < g.owner.length → pri (shiftG g b) i = pri g i + 2 * (b * (1 + pri g i / 2)) := fun i hi => by unfold pri shiftG; rw [getD_map0 _ _ _ (by omega), Int.mul_assoc]
  have key : ∀ p : Int, p = 0 ∨ p = 1 → Dom (shiftG g b) p (fun i => i < g.owner.length) (fun i => i < g.owner.length ∧ (solR g).getD i 0 = p) := fun p hp => by
    obtain ⟨σ, hD⟩ := hs.dom hp
    refine ⟨σ, hD.turn (fun i hi => Iff.rfl) (fun u v => Iff.rfl) (fun v hv => by rw [hpr v hv.1]; unfold Lost; omega) (fun u v hu hv hle => ?_)⟩
    rw [hpr u hu.1, hpr v hv.1] at hle
    rcases Int.lt_or_le (pri g u) (pri g v) with hlt | hge
    · have : b * (1 + pri g u / 2) ≤ b * (1 + pri g v / 2) := Int.mul_le_mul_of_nonneg_left (by omega) hb.1
      omega
    · exact hge
  exact ⟨hs.two, key 0 (.inl rfl), key 1 (.inr rfl)⟩

end Go.Proofs.Ytjhafakkadnfmaa
