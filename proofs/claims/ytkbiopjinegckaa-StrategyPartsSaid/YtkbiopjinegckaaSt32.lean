/- A winning strategy on parts of its set, and on the union of two of them, in plain terms. -/
import Derived.Test.YtkbiopjinegckaaSt27
import Derived.Test.YtkbiopjinegckaaSt31
namespace Go.Proofs.Ytkbiopjinegckaa
open Go.RowKit

def mapK (f : Nat → Bool) (k : Nat) : List Bool := (List.range k).map f
theorem mapK_succ (f : Nat → Bool) (k : Nat) : mapK f (k + 1) = mapK f k ++ [f k] := by
  unfold mapK
  rw [List.range_succ, List.map_append]; rfl
theorem mapK_len (f : Nat → Bool) (k : Nat) : (mapK f k).length = k := by unfold mapK; simp
theorem mapK_get (f : Nat → Bool) (k i : Nat) (h : i < k) : (mapK f k).getD i false = f i := by unfold mapK; simp [List.getD, h]
theorem mapK_true {f : Nat → Bool} {k i : Nat} (h : (mapK f k).getD i false = true) : i < k ∧ f i = true := by
  by_cases hi : i < k
  · rw [mapK_get f k i hi] at h; exact ⟨hi, h⟩
  · rw [List.getD_eq_getElem?_getD, List.getElem?_eq_none (by rw [mapK_len]; omega)] at h; cases h
theorem Cyc.monoE {E F : Nat → Nat → Prop} {A B : Nat → Prop} (hE : ∀ x y, A x → A y → E x y → F x y) (hAB : ∀ x, A x → B x) {a b : Nat} (h : Cyc E A a b) : Cyc F B a b := by
  induction h with
  | one ha hb e => exact .one (hAB _ ha) (hAB _ hb) (hE _ _ ha hb e)
  | step h hc e ih => exact ih.step (hAB _ hc) (hE _ _ h.right hc e)
theorem withL_len (set : List Bool) (s : List Int) : (withL set s).length = s.length := withK_len set s _
section
variable {g : Gm} {p : Int} {set x y z : List Bool} {s : List Int}
theorem set_in (h : set.length = g.owner.length) {i : Nat} (hi : set.getD i false = true) : i < g.owner.length := by
  rcases Nat.lt_or_ge i set.length with k | k
  · omega
  · rw [List.getD_eq_getElem?_getD, List.getElem?_eq_none k] at hi; cases hi
theorem part_win (hw : winB g p set s = true) (hsub : ∀ v, x.getD v false = true → set.getD v false = true) (hst : stB g p x (withL x s) = true) : winB g p x (withL x s) = true := by
  obtain ⟨h1, h2⟩ := (winB_iff g p set s).1 hw
  refine (winB_iff g p x _).2 ⟨hst, fun i hi hb k => ?_⟩
  have hl := (keeps_at h1).2.2.2.1
  have hx := (keeps_at hst).2.2.1
  have hpos : ∀ v, v ∈ posL x g.owner.length → v < g.owner.length ∧ x.getD v false = true ∧ v ∈ posL set g.owner.length := fun v hv => by
    simp only [posL, List.mem_filter, List.mem_range] at hv ⊢
    exact ⟨hv.1, hv.2, hv.1, hsub v hv.2⟩
  refine h2 i (hpos i hi).2.2 hb (k.monoE (fun u v hu _ e => ?_) fun v hv => ⟨(hpos v hv.1).2.2, hv.2⟩)
  obtain ⟨e1, e2, e3⟩ := (EG_iff hst u v).1 e
  refine (EG_iff h1 u v).2 ⟨hsub u e1, ?_, e3⟩
  rw [withL_get _ _ _ (by rw [hl]; exact set_in hx e1)] at e2
  unfold withF at e2
  rw [e1, if_pos rfl] at e2
  exact e2
theorem keep_raw (hst : stB g p x (withL x s) = true) {v : Nat} (hv : x.getD v false = true) : (g.owner.getD v 0 = p → s.getD v 0 ∈ g.succ.getD v [] ∧ x.getD (s.getD v 0).toNat false = true) ∧ (g.owner.getD v 0 ≠ p → s.getD v 0 = -1 ∧ ∀ u ∈ g.succ.getD v [], x.getD u.toNat false = true) := by
  obtain ⟨-, -, hx, hl, hk⟩ := keeps_at hst
  rw [withL_len] at hl
  have hvn := set_in hx hv
  have h := hk v hvn
  unfold keepsB at h
  rw [hv, if_pos rfl, withL_get _ _ _ (by omega)] at h
  unfold withF at h
  rw [hv, if_pos rfl] at h
  refine ⟨fun e => ?_, fun e => ?_⟩
  · rw [if_pos e] at h
    simpa [Bool.and_eq_true] using h
  · rw [if_neg e, Bool.and_eq_true, List.all_eq_true] at h
    exact ⟨by simpa using h.1, h.2⟩
theorem union_st (hX : stB g p x (withL x s) = true) (hY : stB g p y (withL y s) = true) (hz : z.length = g.owner.length) (h : ∀ v, z.getD v false = true ↔ x.getD v false = true ∨ y.getD v false = true) : stB g p z (withL z s) = true := by
  obtain ⟨h1, h2, h3, h4, h5⟩ := keeps_at hX
  rw [withL_len] at h4
  simp only [stB, Bool.and_eq_true, Bool.or_eq_true, decide_eq_true_eq, List.all_eq_true, List.mem_range]
  refine ⟨⟨⟨⟨h1, h2⟩, hz⟩, by rw [withL_len]; exact h4⟩, fun v hv => ?_⟩
  unfold keepsB
  rw [withL_get _ _ _ (by omega)]
  unfold withF
  cases hzv : z.getD v false
  · simp
  · rw [if_pos rfl, if_pos rfl]
    have hk : (g.owner.getD v 0 = p → s.getD v 0 ∈ g.succ.getD v [] ∧ z.getD (s.getD v 0).toNat false = true) ∧ (g.owner.getD v 0 ≠ p → s.getD v 0 = -1 ∧ ∀ u ∈ g.succ.getD v [], z.getD u.toNat false = true) := by
      rcases (h v).1 hzv with k | k
      · obtain ⟨k1, k2⟩ := keep_raw hX k
        exact ⟨fun e => ⟨(k1 e).1, (h _).2 (.inl (k1 e).2)⟩, fun e => ⟨(k2 e).1, fun u hu => (h _).2 (.inl ((k2 e).2 u hu))⟩⟩
      · obtain ⟨k1, k2⟩ := keep_raw hY k
        exact ⟨fun e => ⟨(k1 e).1, (h _).2 (.inr (k1 e).2)⟩, fun e => ⟨(k2 e).1, fun u hu => (h _).2 (.inr ((k2 e).2 u hu))⟩⟩
    by_cases e : g.owner.getD v 0 = p
    · rw [if_pos e, Bool.and_eq_true]
      exact ⟨decide_eq_true (hk.1 e).1, (hk.1 e).2⟩
    · rw [if_neg e, Bool.and_eq_true, List.all_eq_true]
      exact ⟨by rw [(hk.2 e).1]; rfl, (hk.2 e).2⟩
end
/-- What the law says. -/
theorem parts_plain {g : Gm} {p : Int} {set a b : List Bool} {s : List Int} (hw : winB g p set s = true) {n : Nat} (hn : n = set.length) :
    (stB g p (mapK (fun i => set.getD i false && a.getD i false) n) (withL (mapK (fun i => set.getD i false && a.getD i false) n) s) = true → winB g p (mapK (fun i => set.getD i false && a.getD i false) n) (withL (mapK (fun i => set.getD i false && a.getD i false) n) s) = true) ∧
    (stB g p (mapK (fun i => set.getD i false && a.getD i false) n) (withL (mapK (fun i => set.getD i false && a.getD i false) n) s) = true → stB g p (mapK (fun i => set.getD i false && b.getD i false) n) (withL (mapK (fun i => set.getD i false && b.getD i false) n) s) = true →
      winB g p (mapK (fun i => set.getD i false && a.getD i false || set.getD i false && b.getD i false) n) (withL (mapK (fun i => set.getD i false && a.getD i false || set.getD i false && b.getD i false) n) s) = true) := by
  have hl := (keeps_at ((winB_iff g p set s).1 hw).1).2.2.1
  refine ⟨fun h => part_win hw (fun v hv => ?_) h, fun h1 h2 => part_win hw (fun v hv => ?_) (union_st h1 h2 (by rw [mapK_len]; omega) fun v => ?_)⟩
  · have := (mapK_true hv).2
    simp only [Bool.and_eq_true] at this
    exact this.1
  · have := (mapK_true hv).2
    simp only [Bool.and_eq_true, Bool.or_eq_true] at this
    rcases this with k | k <;> exact k.1
  · constructor
    · intro hv
      obtain ⟨k1, k2⟩ := mapK_true hv
      rw [mapK_get _ _ _ k1, mapK_get _ _ _ k1]
      simpa [Bool.or_eq_true] using k2
    · intro hv
      have k1 : v < n := by
        rcases hv with hv | hv <;> exact (mapK_true hv).1
      rw [mapK_get _ _ _ k1, mapK_get _ _ _ k1] at hv
      rw [mapK_get _ _ _ k1]
      simpa [Bool.or_eq_true] using hv
end Go.Proofs.Ytkbiopjinegckaa
