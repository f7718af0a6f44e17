/- Progress measures of games (plain): what is not top is won, and what is won has a measure that is not top. -/
import Derived.Test.YtijkjhcigdfdgaaQRkP1
namespace Go.Proofs.Ytijkjhcigdfdgaa

/-- The priority of a position. -/
def prN (g : Gm) (v : Nat) : Nat := (pri g v).toNat
/-- What is asked of a game here: the bounds are those of its odd priorities. -/
structure RG (g : Gm) (n : Nat) (mo : List Nat) : Prop where
  pr : ∀ v, v < n → pri g v = (prN g v : Int) ∧ partN (prN g v) ≤ mo.length
  ed : ∀ v, v < n → ∀ j, Edge g v j → j < n
  so : ∀ v, v < n → ∃ j, Edge g v j
  mo : ∀ k, k < mo.length → mo.getD k 0 = ((List.range n).filter fun v => decide (prN g v = 2 * k + 1)).length
  ow : ∀ v, v < n → own g v = 0 ∨ own g v = 1
/-- A progress measure of the player 0, by numbers. -/
structure PM (g : Gm) (n : Nat) (mo : List Nat) (f : Nat → Nat) : Prop where
  le : ∀ v, v < n → f v ≤ topN mo
  mine : ∀ v, v < n → f v < topN mo → own g v = 0 → ∃ j, Edge g v j ∧ alongN mo (f j) (prN g v) ≤ f v
  other : ∀ v, v < n → f v < topN mo → own g v ≠ 0 → ∀ j, Edge g v j → alongN mo (f j) (prN g v) ≤ f v
/-- The least one. -/
structure LeastP (g : Gm) (n : Nat) (mo : List Nat) (f : Nat → Nat) : Prop where
  pm : PM g n mo f
  le : ∀ f', PM g n mo f' → ∀ v, v < n → f v ≤ f' v
section
variable {g : Gm} {n : Nat} {mo : List Nat} {f f' : Nat → Nat}
theorem LeastP.uniq (h : LeastP g n mo f) (h' : LeastP g n mo f') {v : Nat} (hv : v < n) : f v = f' v := by
  have := h.le f' h'.pm v hv
  have := h'.le f h.pm v hv
  omega
theorem along_not_top {mo : List Nat} {c c' p : Nat} (hc : c ≤ topN mo) (hc' : c' < topN mo) (h : alongN mo c p ≤ c') : c < topN mo := by
  by_cases e : c = topN mo
  · subst e; rw [along_top] at h; omega
  · omega
/-- The strategy of moves along which the measure is kept wins where it is not top. -/
theorem PM.winsBy (hG : RG g n mo) (h : PM g n mo f) (σ : Nat → Nat) (hσ : ∀ v, v < n → f v < topN mo → own g v = 0 → Edge g v (σ v) ∧ alongN mo (f (σ v)) (prN g v) ≤ f v) : WinsBy g 0 (fun i => i < n) (fun v => v < n ∧ f v < topN mo) σ := by
  have hk : ∀ v, v < n → f v < topN mo → ∀ j, Edge g v j → (own g v = 0 → j = σ v) → j < n ∧ f j < topN mo ∧ alongN mo (f j) (prN g v) ≤ f v := fun v hv ht j hj hs => by
    have hjn := hG.ed v hv j hj
    have ha : alongN mo (f j) (prN g v) ≤ f v := by
      by_cases ho : own g v = 0
      · rw [hs ho]; exact (hσ v hv ht ho).2
      · exact h.other v hv ht ho j hj
    exact ⟨hjn, along_not_top (h.le j hjn) ht ha, ha⟩
  refine ⟨fun i hi => hi.1, fun i hi ho => ?_, fun i hi ho j hj _ => ?_, fun v hv hl hp => ?_⟩
  · have h1 := hσ i hi.1 hi.2 ho
    have h2 := hk i hi.1 hi.2 (σ i) h1.1 fun _ => rfl
    exact ⟨h1.1, h2.1, h2.2.1⟩
  · have h2 := hk i hi.1 hi.2 j hj fun e => absurd e ho
    exact ⟨h2.1, h2.2.1⟩
  · have hodd : prN g v % 2 = 1 := by
      have := (hG.pr v hv.1).1
      have hl : pri g v % 2 ≠ 0 := hl
      omega
    have hu : ∀ a b, Step g 0 (fun v => v < n ∧ f v < topN mo) σ (pri g v) a b → f b / unitN mo (partN (prN g v)) ≤ f a / unitN mo (partN (prN g v)) ∧ (a = v → f b / unitN mo (partN (prN g v)) + 1 ≤ f a / unitN mo (partN (prN g v))) := fun a b hs => by
      obtain ⟨ha, hb, he, h1, h2, h3⟩ := hs
      have h4 := (hk a ha.1 ha.2 b he h3).2.2
      rw [along_iff hb.2] at h4
      have ea := (hG.pr a ha.1).1
      have ev := (hG.pr v hv.1).1
      have hpp : partN (prN g v) ≤ partN (prN g a) := by unfold partN; omega
      refine ⟨div_coarse hpp (by omega), fun e => ?_⟩
      subst e
      rw [hodd] at h4
      exact h4
    have key : ∀ a b, Plus (Step g 0 (fun v => v < n ∧ f v < topN mo) σ (pri g v)) a b → f b / unitN mo (partN (prN g v)) ≤ f a / unitN mo (partN (prN g v)) := fun a b hp => by
      induction hp with
      | one hs => exact (hu _ _ hs).1
      | more hs _ ih => exact Nat.le_trans ih (hu _ _ hs).1
    cases hp with
    | one hs => have := (hu _ _ hs).2 rfl; omega
    | more hs hr =>
      have h1 := (hu _ _ hs).2 rfl
      have h2 := key _ _ hr
      omega
theorem PM.dom (hG : RG g n mo) (h : PM g n mo f) : Dom g 0 (fun i => i < n) (fun v => v < n ∧ f v < topN mo) := by
  have hc : ∀ v, ∃ j, v < n → f v < topN mo → own g v = 0 → Edge g v j ∧ alongN mo (f j) (prN g v) ≤ f v := fun v => by
    by_cases hd : v < n ∧ f v < topN mo ∧ own g v = 0
    · obtain ⟨j, hj⟩ := h.mine v hd.1 hd.2.1 hd.2.2
      exact ⟨j, fun _ _ _ => hj⟩
    · exact ⟨0, fun a b c => absurd ⟨a, b, c⟩ hd⟩
  obtain ⟨σ, hσ⟩ := Classical.axiomOfChoice hc
  exact ⟨σ, h.winsBy hG σ hσ⟩

/-! A measure of what is won. -/
/-- A play from v along which all priorities are at least κ: the positions with the priority κ that it visits. -/
inductive Ch (g : Gm) (D : Nat → Prop) (σ : Nat → Nat) (κ : Int) : Nat → List Nat → Prop
  | at' {v : Nat} : D v → pri g v = κ → Ch g D σ κ v [v]
  | no {v : Nat} : D v → κ < pri g v → Ch g D σ κ v []
  | hit {v w : Nat} {L : List Nat} : Step g 0 D σ κ v w → pri g v = κ → Ch g D σ κ w L → Ch g D σ κ v (v :: L)
  | pass {v w : Nat} {L : List Nat} : Step g 0 D σ κ v w → κ < pri g v → Ch g D σ κ w L → Ch g D σ κ v L
variable {D : Nat → Prop} {σ : Nat → Nat} {κ : Int}
theorem Ch.head {v : Nat} {L : List Nat} (h : Ch g D σ κ v L) : D v ∧ κ ≤ pri g v := by
  cases h with
  | at' h1 h2 => exact ⟨h1, by omega⟩
  | no h1 h2 => exact ⟨h1, by omega⟩
  | hit h1 h2 => exact ⟨h1.1, by omega⟩
  | pass h1 h2 => exact ⟨h1.1, by omega⟩
theorem Ch.mem {v : Nat} {L : List Nat} (h : Ch g D σ κ v L) : ∀ u ∈ L, D u ∧ pri g u = κ ∧ (u = v ∨ Plus (Step g 0 D σ κ) v u) := by
  induction h with
  | at' h1 h2 => intro u hu; rw [List.mem_singleton.1 hu]; exact ⟨h1, h2, .inl rfl⟩
  | no h1 h2 => intro u hu; cases hu
  | hit h1 h2 _ ih =>
    intro u hu
    rcases List.mem_cons.1 hu with e | hu
    · subst e; exact ⟨h1.1, h2, .inl rfl⟩
    · obtain ⟨h3, h4, h5⟩ := ih u hu
      refine ⟨h3, h4, .inr ?_⟩
      rcases h5 with e | h5
      · subst e; exact .one h1
      · exact .more h1 h5
  | pass h1 h2 _ ih =>
    intro u hu
    obtain ⟨h3, h4, h5⟩ := ih u hu
    refine ⟨h3, h4, .inr ?_⟩
    rcases h5 with e | h5
    · subst e; exact .one h1
    · exact .more h1 h5
theorem Ch.nodup (hW : WinsBy g 0 (fun i => i < n) D σ) (hl : Lost 0 κ) {v : Nat} {L : List Nat} (h : Ch g D σ κ v L) : L.Nodup := by
  induction h with
  | at' h1 h2 => simp
  | no h1 h2 => simp
  | @hit v w L h1 h2 h3 ih =>
    rw [List.nodup_cons]
    refine ⟨fun hm => ?_, ih⟩
    obtain ⟨h4, h5, h6⟩ := h3.mem v hm
    have hp : Plus (Step g 0 D σ κ) v v := by
      rcases h6 with e | h6
      · subst e; exact .one h1
      · exact .more h1 h6
    rw [← h2] at hp hl
    exact hW.free v h1.1 hl hp
  | pass h1 h2 _ ih => exact ih
theorem nd_lenN {l l' : List Nat} (hn : l.Nodup) (h : ∀ x ∈ l, x ∈ l') : l.length ≤ l'.length := by
  induction l generalizing l' with
  | nil => exact Nat.zero_le _
  | cons x l ih =>
    rw [List.nodup_cons] at hn
    have hx := h x List.mem_cons_self
    have h1 := ih hn.2 (l' := l'.erase x) fun y hy => by
      have hne : y ≠ x := fun e => hn.1 (e ▸ hy)
      exact (List.mem_erase_of_ne hne).2 (h y (List.mem_cons_of_mem _ hy))
    have h2 := List.length_erase_of_mem hx
    have h3 := List.length_pos_of_mem hx
    rw [List.length_cons]; omega
open Classical in
/-- The greatest number up to b with a property. -/
noncomputable def grN (P : Nat → Prop) : Nat → Nat
  | 0 => 0
  | b + 1 => if P (b + 1) then b + 1 else grN P b
theorem grN_le (P : Nat → Prop) : ∀ b, grN P b ≤ b
  | 0 => Nat.le_refl _
  | b + 1 => by
    unfold grN
    split
    · exact Nat.le_refl _
    · have := grN_le P b; omega
theorem grN_ge {P : Nat → Prop} {m : Nat} (h : P m) : ∀ b, m ≤ b → m ≤ grN P b
  | 0, hb => by omega
  | b + 1, hb => by
    unfold grN
    split
    · exact hb
    · rename_i hn
      by_cases e : m = b + 1
      · subst e; exact absurd h hn
      · exact grN_ge h b (by omega)
theorem grN_is {P : Nat → Prop} : ∀ b, grN P b = 0 ∨ P (grN P b)
  | 0 => .inl rfl
  | b + 1 => by
    unfold grN
    split
    · rename_i h; exact .inr h
    · exact grN_is b
/-- The digit k of the measure of v. -/
noncomputable def digK (g : Gm) (D : Nat → Prop) (σ : Nat → Nat) (mo : List Nat) (v k : Nat) : Nat := grN (fun m => ∃ L, Ch g D σ ((2 * k + 1 : Nat) : Int) v L ∧ L.length = m) (mo.getD k 0)
theorem dig_step (hG : RG g n mo) (hW : WinsBy g 0 (fun i => i < n) D σ) {v w k : Nat} (hk : k < mo.length) (hv : D v) (hw : D w) (he : Edge g v w) (hs : own g v = 0 → w = σ v) (hp : 2 * k + 1 ≤ prN g v) :
    digK g D σ mo w k + (if prN g v = 2 * k + 1 then 1 else 0) ≤ digK g D σ mo v k := by
  have hvn := hW.sub v hv
  have ev := (hG.pr v hvn).1
  have hl : Lost 0 ((2 * k + 1 : Nat) : Int) := by show ((2 * k + 1 : Nat) : Int) % 2 ≠ 0; omega
  have hb : ∀ {u : Nat} {L : List Nat}, Ch g D σ ((2 * k + 1 : Nat) : Int) u L → L.length ≤ mo.getD k 0 := fun {u L} h => by
    rw [hG.mo k hk]
    refine nd_lenN (h.nodup hW hl) fun x hx => ?_
    obtain ⟨h1, h2, -⟩ := h.mem x hx
    have hxn := hW.sub x h1
    have := (hG.pr x hxn).1
    rw [List.mem_filter, List.mem_range, decide_eq_true_eq]
    exact ⟨hxn, by omega⟩
  have hge : ∀ {L : List Nat}, Ch g D σ ((2 * k + 1 : Nat) : Int) v L → L.length ≤ digK g D σ mo v k := fun {L} h => grN_ge ⟨L, h, rfl⟩ _ (hb h)
  rcases grN_is (P := fun m => ∃ L, Ch g D σ ((2 * k + 1 : Nat) : Int) w L ∧ L.length = m) (mo.getD k 0) with h0 | ⟨L, hL, e⟩
  · have h0 : digK g D σ mo w k = 0 := h0
    rw [h0]
    by_cases e : prN g v = 2 * k + 1
    · rw [if_pos e]
      exact hge (.at' hv (by omega))
    · rw [if_neg e]; omega
  · have e : L.length = digK g D σ mo w k := e
    have hst : Step g 0 D σ ((2 * k + 1 : Nat) : Int) v w := ⟨hv, hw, he, by omega, hL.head.2, hs⟩
    rw [← e]
    by_cases e2 : prN g v = 2 * k + 1
    · rw [if_pos e2]
      have := hge (.hit hst (by omega) hL)
      rwa [List.length_cons] at this
    · rw [if_neg e2]
      exact hge (.pass hst (by omega) hL)
open Classical in
/-- What is won by the player 0 has a progress measure that is not top there. -/
theorem won_pm (hG : RG g n mo) (hW : WinsBy g 0 (fun i => i < n) D σ) : ∃ f, PM g n mo f ∧ ∀ v, D v → f v < topN mo := by
  have hf : ∀ v, ∀ i, i < mo.length → digK g D σ mo v i ≤ mo.getD i 0 := fun v i _ => grN_le _ _
  have key : ∀ v w, D v → D w → Edge g v w → (own g v = 0 → w = σ v) → alongN mo (preN mo (digK g D σ mo w) mo.length) (prN g v) ≤ preN mo (digK g D σ mo v) mo.length := fun v w hv hw he hs => by
    have hvn := hW.sub v hv
    have hpl := (hG.pr v hvn).2
    rw [along_iff (pre_lt (hf w)), pre_div (hf w) hpl, pre_div (hf v) hpl]
    have hst : ∀ i, i < partN (prN g v) → digK g D σ mo w i + (if prN g v = 2 * i + 1 then 1 else 0) ≤ digK g D σ mo v i := fun i hi => dig_step hG hW (by omega) hv hw he hs (by unfold partN at hi; omega)
    by_cases ho : prN g v % 2 = 1
    · obtain ⟨m, hm⟩ : ∃ m, partN (prN g v) = m + 1 := ⟨partN (prN g v) - 1, by unfold partN; omega⟩
      rw [ho, hm]
      refine pre_strict (fun i hi => ?_) ?_
      · have := hst i (by omega); omega
      · have := hst m (by omega)
        rwa [if_pos (by unfold partN at hm; omega)] at this
    · rw [show prN g v % 2 = 0 by omega]
      exact pre_mono _ fun i hi => by have := hst i hi; omega
  refine ⟨fun v => if D v then preN mo (digK g D σ mo v) mo.length else topN mo, ⟨fun v _ => ?_, fun v hv ht ho => ?_, fun v hv ht ho j hj => ?_⟩, fun v hv => ?_⟩
  · try dsimp only
    split
    · exact Nat.le_of_lt (pre_lt (hf v))
    · exact Nat.le_refl _
  · try dsimp only at ht
    by_cases hd : D v
    · obtain ⟨h1, h2⟩ := hW.mine v hd ho
      refine ⟨σ v, h1, ?_⟩
      rw [if_pos hd, if_pos h2]
      exact key v (σ v) hd h2 h1 fun _ => rfl
    · rw [if_neg hd] at ht; omega
  · try dsimp only at ht
    by_cases hd : D v
    · have h2 := hW.other v hd ho j hj (hG.ed v hv j hj)
      try dsimp only
      rw [if_pos hd, if_pos h2]
      exact key v j hd h2 hj fun e => absurd e ho
    · rw [if_neg hd] at ht; omega
  · try dsimp only
    rw [if_pos hv]
    exact pre_lt (hf v)
/-- The least measure is top exactly where the player 0 loses. -/
theorem LeastP.won {won : Nat → Int} (hG : RG g n mo) (h : LeastP g n mo f) (hS : Sol g (fun i => i < n) won) {v : Nat} (hv : v < n) : f v < topN mo ↔ won v = 0 := by
  constructor
  · intro ht
    exact hS.has (h.pm.dom hG) (.inl rfl) (fun _ h => h) hG.ow v ⟨hv, ht⟩
  · intro hw
    obtain ⟨σ, hσ⟩ := hS.d0
    obtain ⟨f', h1, h2⟩ := won_pm hG hσ
    have := h.le f' h1 v hv
    have := h2 v ⟨hv, hw⟩
    omega
end

end Go.Proofs.Ytijkjhcigdfdgaa
