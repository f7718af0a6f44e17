/- A strategy that does not win is refuted by a strategy of the other player, which has a number; in plain terms. -/
import Derived.Test.YtkbiopjinegckaaSt27
import Derived.Test.YtkbiopjinegckaaSt26
import Derived.Test.YtkbiopjinegckaaSt35
namespace Go.Proofs.Ytkbiopjinegckaa
open Go.RowKit

/-- A way of k + 1 moves to c. -/
def Rt (E : Nat → Nat → Prop) (A : Nat → Prop) (c : Nat) : Nat → Nat → Prop
  | 0, v => A v ∧ E v c
  | k + 1, v => A v ∧ ∃ u, E v u ∧ Rt E A c k u
theorem Rt.left {E : Nat → Nat → Prop} {A : Nat → Prop} {c k v : Nat} (h : Rt E A c k v) : A v := by
  cases k <;> exact h.1
theorem Rt.snoc {E : Nat → Nat → Prop} {A : Nat → Prop} {b c : Nat} (hb : A b) (e : E b c) : ∀ k v, Rt E A b k v → Rt E A c (k + 1) v := by
  intro k
  induction k with
  | zero => exact fun v h => ⟨h.1, b, h.2, hb, e⟩
  | succ k ih =>
    intro v h
    obtain ⟨h1, u, h2, h3⟩ := h
    exact ⟨h1, u, h2, ih u h3⟩
theorem Cyc.rt {E : Nat → Nat → Prop} {A : Nat → Prop} {a b : Nat} (h : Cyc E A a b) : ∃ k, Rt E A b k a := by
  induction h with
  | one ha _ e => exact ⟨0, ha, e⟩
  | step h _ e ih =>
    obtain ⟨k, hk⟩ := ih
    exact ⟨k + 1, Rt.snoc h.right e k _ hk⟩
theorem least_ex {P : Nat → Prop} : ∀ k, P k → ∃ m, P m ∧ ∀ j, j < m → ¬ P j := by
  intro k
  induction k using Nat.strongRecOn with
  | _ k ih =>
    intro hk
    by_cases h : ∃ j, j < k ∧ P j
    · obtain ⟨j, hj, hp⟩ := h
      exact ih j hj hp
    · exact ⟨k, hk, fun j hj hp => h ⟨j, hj, hp⟩⟩
/-- The next place on a shortest way. -/
theorem next_ex (E : Nat → Nat → Prop) (A : Nat → Prop) (c : Nat) : ∃ (f d : Nat → Nat), ∀ v, (∃ k, Rt E A c k v) → E v (f v) ∧ A v ∧ (f v = c ∨ ((∃ k, Rt E A c k (f v)) ∧ d (f v) < d v)) := by
  have hd : ∀ v, ∃ m, (∃ k, Rt E A c k v) → Rt E A c m v ∧ ∀ j, j < m → ¬ Rt E A c j v := fun v => by
    by_cases h : ∃ k, Rt E A c k v
    · obtain ⟨k, hk⟩ := h
      obtain ⟨m, hm⟩ := least_ex (P := fun k => Rt E A c k v) k hk
      exact ⟨m, fun _ => hm⟩
    · exact ⟨0, fun k => absurd k h⟩
  obtain ⟨d, hd⟩ := Classical.axiomOfChoice hd
  have hf : ∀ v, ∃ u, (∃ k, Rt E A c k v) → E v u ∧ A v ∧ (u = c ∨ ((∃ k, Rt E A c k u) ∧ d u < d v)) := fun v => by
    by_cases h : ∃ k, Rt E A c k v
    · obtain ⟨h1, h2⟩ := hd v h
      cases hm : d v with
      | zero =>
        rw [hm] at h1
        exact ⟨c, fun _ => ⟨h1.2, h1.1, .inl rfl⟩⟩
      | succ k =>
        rw [hm] at h1
        obtain ⟨q1, u, q2, q3⟩ := h1
        refine ⟨u, fun _ => ⟨q2, q1, .inr ⟨⟨k, q3⟩, ?_⟩⟩⟩
        obtain ⟨r1, r2⟩ := hd u ⟨k, q3⟩
        rcases Nat.lt_or_ge k (d u) with h3 | h3
        · exact absurd q3 (r2 k h3)
        · omega
    · exact ⟨0, fun k => absurd k h⟩
  obtain ⟨f, hf⟩ := Classical.axiomOfChoice hf
  exact ⟨f, d, hf⟩

section
variable {g : Gm} {p : Int} {set : List Bool} {s t : List Int}
/-- The moves of a play of a player and the other one. -/
def sayQ (g : Gm) (p : Int) (s t : List Int) (v : Nat) : Int := if p = 0 then sayP g s t v else sayP g t s v
theorem sayQ_own (hv : validB g = true) (hp : p = 0 ∨ p = 1) {v : Nat} (h : v < g.owner.length) : (g.owner.getD v 0 = p → sayQ g p s t v = s.getD v 0) ∧ (g.owner.getD v 0 ≠ p → sayQ g p s t v = t.getD v 0) := by
  have := (valid_at hv v h).1
  unfold sayQ
  rcases hp with rfl | rfl
  · rw [if_pos (rfl : (0 : Int) = 0)]
    unfold sayP
    exact ⟨fun e => by rw [if_neg (by omega)], fun e => by rw [if_pos (by omega)]⟩
  · rw [if_neg (show ¬ (1 : Int) = 0 by decide)]
    unfold sayP
    exact ⟨fun e => by rw [if_pos e], fun e => by rw [if_neg e]⟩
/-- The play as a lasso, whichever player's strategy comes first. -/
theorem plyR_lasso {C : Nat → Prop} {x : Nat} (hv : validB g = true) (hp : p = 0 ∨ p = 1) (ls : s.length = g.owner.length) (lt : t.length = g.owner.length)
    (hC : ∀ v, C v → v < g.owner.length ∧ sayQ g p s t v ∈ g.succ.getD v [] ∧ 0 ≤ sayQ g p s t v ∧ C (sayQ g p s t v).toNat) (hx : C x) :
    ∃ a b way i, (∀ v, sayP g a b v = sayQ g p s t v) ∧ plyR g p s t x = ⟨castL (way.take i), castL (way.drop i)⟩ ∧ LP g a b C x way i := by
  rcases hp with rfl | rfl
  · have e : ∀ v, sayP g s t v = sayQ g 0 s t v := fun v => by unfold sayQ; rw [if_pos rfl]
    obtain ⟨way, i, h1, h2⟩ := playR_lasso (a := s) (b := t) hv ls lt (fun v h => by rw [e]; exact hC v h) hx
    exact ⟨s, t, way, i, e, by unfold plyR; rw [if_pos rfl]; exact h1, h2⟩
  · have e : ∀ v, sayP g t s v = sayQ g 1 s t v := fun v => by unfold sayQ; rw [if_neg (by decide)]
    obtain ⟨way, i, h1, h2⟩ := playR_lasso (a := t) (b := s) hv lt ls (fun v h => by rw [e]; exact hC v h) hx
    exact ⟨t, s, way, i, e, by unfold plyR; rw [if_neg (by decide)]; exact h1, h2⟩
/-- A play from a position of the set stays in it, against any answer. -/
theorem ply_stays (hst : stB g p set s = true) (lt : t.length = g.owner.length) (ht : ∀ v, v < g.owner.length → g.owner.getD v 0 ≠ p → t.getD v 0 ∈ g.succ.getD v []) {x : Nat} (hx : x < g.owner.length) (hin : set.getD x false = true) :
    ∃ a b way i, plyR g p s t x = ⟨castL (way.take i), castL (way.drop i)⟩ ∧ LP g a b (fun v => v < g.owner.length ∧ set.getD v false = true) x way i ∧
      (∀ v, v < g.owner.length ∧ set.getD v false = true → v < g.owner.length ∧ set.getD v false = true ∧ sayP g a b v ∈ g.succ.getD v [] ∧ (g.owner.getD v 0 = p → sayP g a b v = s.getD v 0)) := by
  obtain ⟨hp, hv, -, ls, -⟩ := keeps_at hst
  have hm : ∀ v, v < g.owner.length → set.getD v false = true → sayQ g p s t v ∈ g.succ.getD v [] ∧ set.getD (sayQ g p s t v).toNat false = true := fun v h1 h2 => by
    obtain ⟨k1, k2⟩ := keeps_step hst h1 h2
    obtain ⟨o1, o2⟩ := sayQ_own (s := s) (t := t) hv hp h1
    by_cases e : g.owner.getD v 0 = p
    · rw [o1 e]; exact k1 e
    · rw [o2 e]; exact ⟨ht v h1 e, k2 e _ (ht v h1 e)⟩
  obtain ⟨a, b, way, i, e, h1, h2⟩ := plyR_lasso (s := s) (t := t) (C := fun v => v < g.owner.length ∧ set.getD v false = true) hv hp ls lt (fun v ⟨q1, q2⟩ => by
    obtain ⟨m1, m2⟩ := hm v q1 q2
    have hr := (valid_at hv v q1).2.2.2 _ m1
    exact ⟨q1, m1, hr.1, by omega, m2⟩) ⟨hx, hin⟩
  refine ⟨a, b, way, i, h1, h2, fun v ⟨q1, q2⟩ => ⟨q1, q2, by rw [e]; exact (hm v q1 q2).1, fun o => by rw [e]; exact (sayQ_own hv hp q1).1 o⟩⟩
/-- A winning strategy is not refuted. -/
theorem not_refuted (hw : winB g p set s = true) (lt : t.length = g.owner.length) (ht : ∀ v, v < g.owner.length → g.owner.getD v 0 ≠ p → t.getD v 0 ∈ g.succ.getD v []) {x : Nat} (hx : x < g.owner.length) (hin : set.getD x false = true) : winrB g (plyR g p s t x) = p := by
  obtain ⟨a, b, way, i, h1, h2, h3⟩ := ply_stays ((winB_iff g p set s).1 hw).1 lt ht hx hin
  rw [h1]
  exact h2.wins hw h3
theorem strR_len (g : Gm) (q : Int) (m : Nat) : (strR g q m).length = g.owner.length := stK_len _ _ _
theorem strR_mem (hv : validB g = true) {q : Int} {m v : Nat} (h : v < g.owner.length) (ho : g.owner.getD v 0 = q) : (strR g q m).getD v 0 ∈ g.succ.getD v [] := by
  have hgen : ∀ k, v < k → k ≤ g.owner.length → (stK (chA g q) m k).1.getD v 0 ∈ g.succ.getD v [] := by
    intro k
    induction k with
    | zero => intro h; omega
    | succ k ih =>
      intro h1 h2
      rw [stK]
      by_cases e : v = k
      · subst e
        have hrow : (chA g q).getD v [] = g.succ.getD v [] := by rw [chA_at _ _ _ h]; unfold chS; rw [if_pos ho]
        have hne := (valid_at hv v h).2.2.1
        have hl : 0 < (g.succ.getD v []).length := List.length_pos_iff.2 hne
        rw [hrow, if_neg (by omega)]
        show ((stK (chA g q) m v).1 ++ [_]).getD v 0 ∈ _
        rw [getD_appR _ _ v (stK_len _ _ _)]
        have hlt := Nat.mod_lt (stK (chA g q) m v).2 hl
        rw [getD_lt _ _ _ hlt]
        exact List.getElem_mem hlt
      · split
        · show ((stK (chA g q) m k).1 ++ [_]).getD v 0 ∈ _
          rw [getD_appL _ _ k v (stK_len _ _ _) (by omega)]
          exact ih (by omega) (by omega)
        · show ((stK (chA g q) m k).1 ++ [_]).getD v 0 ∈ _
          rw [getD_appL _ _ k v (stK_len _ _ _) (by omega)]
          exact ih (by omega) (by omega)
  exact hgen _ h (Nat.le_refl _)
/-- A strategy that does not win is refuted. -/
theorem refuted_ex (hst : stB g p set s = true) (hw : winB g p set s = false) : ∃ m x, m < totK (chA g (1 - p)) g.owner.length ∧ x < g.owner.length ∧ set.getD x false = true ∧ winrB g (plyR g p s (strR g (1 - p) m) x) = 1 - p := by
  obtain ⟨hp, hv, hsl, ls, -⟩ := keeps_at hst
  have hng : ¬ GoodL (nxS g p set s) g.prio p (posL set g.owner.length) := fun h => by
    rw [(winB_iff g p set s).2 ⟨hst, h⟩] at hw; cases hw
  have hbad : ∃ i, i ∈ posL set g.owner.length ∧ badF g.prio p i ∧ Cyc (EG (nxS g p set s)) (fun x => x ∈ posL set g.owner.length ∧ prF g.prio i ≤ prF g.prio x) i i := by
    refine Classical.byContradiction fun h => hng fun i h1 h2 h3 => h ⟨i, h1, h2, h3⟩
  obtain ⟨i, hi, hb, hc⟩ := hbad
  obtain ⟨f, d, hf⟩ := next_ex (EG (nxS g p set s)) (fun x => x ∈ posL set g.owner.length ∧ prF g.prio i ≤ prF g.prio x) i
  have hiC := hc.rt
  have hpos : ∀ v, v ∈ posL set g.owner.length → v < g.owner.length ∧ set.getD v false = true := fun v hv => by
    simpa only [posL, List.mem_filter, List.mem_range] using hv
  obtain ⟨m, hm, hmr⟩ := st_has (chA g (1 - p)) (fun v => if (f v : Int) ∈ g.succ.getD v [] then (f v : Int) else (g.succ.getD v []).getD 0 0) (fun v hne => by
    by_cases hvn : v < g.owner.length
    · rw [chA_at _ _ _ hvn] at hne ⊢
      unfold chS at hne ⊢
      split at hne
      · rename_i ho
        rw [if_pos ho]
        split
        · assumption
        · have h0 : 0 < (g.succ.getD v []).length := List.length_pos_iff.2 hne
          rw [getD_lt _ _ _ h0]
          exact List.getElem_mem h0
      · exact absurd rfl hne
    · rw [List.getD_eq_getElem?_getD, List.getElem?_eq_none (by simp [chA]; omega)] at hne
      exact absurd rfl hne) g.owner.length
  have hown : ∀ v, v < g.owner.length → g.owner.getD v 0 = p ∨ g.owner.getD v 0 = 1 - p := fun v h => by have := (valid_at hv v h).1; omega
  have hst2 : ∀ v, v < g.owner.length → g.owner.getD v 0 = 1 - p → (f v : Int) ∈ g.succ.getD v [] → (strR g (1 - p) m).getD v 0 = (f v : Int) := fun v h1 h2 h3 => by
    have hrow : (chA g (1 - p)).getD v [] = g.succ.getD v [] := by rw [chA_at _ _ _ h1]; unfold chS; rw [if_pos h2]
    have := (hmr 0).2 v h1 (by rw [hrow]; exact (valid_at hv v h1).2.2.1)
    rw [Nat.mul_zero, Nat.add_zero, if_pos h3] at this
    exact this
  have hsay : ∀ v, (∃ k, Rt (EG (nxS g p set s)) (fun x => x ∈ posL set g.owner.length ∧ prF g.prio i ≤ prF g.prio x) i k v) → v < g.owner.length ∧ sayQ g p s (strR g (1 - p) m) v = (f v : Int) ∧ (f v : Int) ∈ g.succ.getD v [] := fun v hk => by
    obtain ⟨q1, q2, -⟩ := hf v hk
    have hvn := (hpos v q2.1).1
    obtain ⟨e1, e2, e3⟩ := (EG_iff hst v (f v)).1 q1
    obtain ⟨o1, o2⟩ := sayQ_own (s := s) (t := strR g (1 - p) m) hv hp hvn
    refine ⟨hvn, ?_, e3⟩
    by_cases ho : g.owner.getD v 0 = p
    · rw [o1 ho]; exact e2.resolve_left fun n => n ho
    · rw [o2 ho]; exact hst2 v hvn ((hown v hvn).resolve_left ho) e3
  have hnx : ∀ v, (∃ k, Rt (EG (nxS g p set s)) (fun x => x ∈ posL set g.owner.length ∧ prF g.prio i ≤ prF g.prio x) i k v) → ∃ k, Rt (EG (nxS g p set s)) (fun x => x ∈ posL set g.owner.length ∧ prF g.prio i ≤ prF g.prio x) i k (f v) := fun v hk => by
    rcases (hf v hk).2.2 with e | e
    · rw [e]; exact hiC
    · exact e.1
  obtain ⟨a, b, way, i0, e, h1, H⟩ := plyR_lasso (s := s) (t := strR g (1 - p) m) (x := i) (C := fun v => ∃ k, Rt (EG (nxS g p set s)) (fun x => x ∈ posL set g.owner.length ∧ prF g.prio i ≤ prF g.prio x) i k v) hv hp ls (strR_len _ _ _) (fun v hk => by
    obtain ⟨q1, q2, q3⟩ := hsay v hk
    rw [q2]
    exact ⟨q1, q3, by omega, by rw [Int.toNat_natCast]; exact hnx v hk⟩) hiC
  refine ⟨m, i, hm, (hpos i hi).1, (hpos i hi).2, ?_⟩
  rw [h1]
  obtain ⟨mm, m1, m2, m3, m4⟩ := H.winner hv (fun v hk => by
    obtain ⟨q1, q2, q3⟩ := hsay v hk
    exact ⟨q1, by rw [e, q2]; exact q3⟩)
  -- the loop goes through i
  have hloop : ∀ n k, i0 ≤ k → k < way.length → d (way.getD k 0) ≤ n → ∃ j, i0 ≤ j ∧ j < way.length ∧ way.getD j 0 = i := by
    intro n
    induction n with
    | zero =>
      intro k k1 k2 k3
      have hk := H.at k2
      obtain ⟨q1, q2, q3⟩ := hsay _ hk
      have hnext : ∃ j, i0 ≤ j ∧ j < way.length ∧ way.getD j 0 = f (way.getD k 0) := by
        by_cases hl : k + 1 < way.length
        · have := H.nx k hl
          rw [e, q2] at this
          exact ⟨k + 1, by omega, hl, by omega⟩
        · have := H.bk
          rw [show way.length - 1 = k from by omega, e, q2] at this
          exact ⟨i0, Nat.le_refl _, H.hi, by omega⟩
      obtain ⟨j, j1, j2, j3⟩ := hnext
      rcases (hf _ hk).2.2 with w | w
      · exact ⟨j, j1, j2, by rw [j3, w]⟩
      · omega
    | succ n ih =>
      intro k k1 k2 k3
      have hk := H.at k2
      obtain ⟨q1, q2, q3⟩ := hsay _ hk
      have hnext : ∃ j, i0 ≤ j ∧ j < way.length ∧ way.getD j 0 = f (way.getD k 0) := by
        by_cases hl : k + 1 < way.length
        · have := H.nx k hl
          rw [e, q2] at this
          exact ⟨k + 1, by omega, hl, by omega⟩
        · have := H.bk
          rw [show way.length - 1 = k from by omega, e, q2] at this
          exact ⟨i0, Nat.le_refl _, H.hi, by omega⟩
      obtain ⟨j, j1, j2, j3⟩ := hnext
      rcases (hf _ hk).2.2 with w | w
      · exact ⟨j, j1, j2, by rw [j3, w]⟩
      · exact ih j j1 j2 (by rw [j3]; omega)
  obtain ⟨j, j1, j2, j3⟩ := hloop _ i0 (Nat.le_refl _) H.hi (Nat.le_refl _)
  have k1 := m4 j j1 j2
  rw [j3] at k1
  obtain ⟨kk, hkk⟩ := H.at m2
  have k2 : prF g.prio i ≤ prF g.prio (way.getD mm 0) := hkk.left.2
  unfold prF at k2
  unfold badF prF at hb
  rw [m3, show g.prio.getD (way.getD mm 0) 0 = g.prio.getD i 0 from by omega]
  omega
end
end Go.Proofs.Ytkbiopjinegckaa
