/- Plays of two strategies are lassos; who wins one, in plain terms. -/
import Derived.Test.YtkbiopjinegckaaSt13
import Derived.Test.YtkbiopjinegckaaSt20
import Derived.Test.YtkbiopjinegckaaSt6
namespace Go.Proofs.Ytkbiopjinegckaa
open Go.RowKit

theorem gA {l m : List Nat} {j : Nat} (h : j < l.length) : (l ++ m).getD j 0 = l.getD j 0 := by simp [List.getD, List.getElem?_append_left h]
theorem gB {l : List Nat} {v : Nat} : (l ++ [v]).getD l.length 0 = v := by simp [List.getD]
theorem castL_at (l : List Nat) (j : Nat) : (castL l).getD j 0 = ((l.getD j 0 : Nat) : Int) := by
  unfold castL
  simp only [List.getD, List.getElem?_map]
  cases l[j]? <;> rfl
theorem castL_length (l : List Nat) : (castL l).length = l.length := by unfold castL; simp
/-- A way that turns back to its place i. -/
structure LP (g : Gm) (a b : List Int) (C : Nat → Prop) (x : Nat) (way : List Nat) (i : Nat) : Prop where
  hi : i < way.length
  nd : way.Nodup
  st : way.getD 0 0 = x
  mem : ∀ v ∈ way, C v
  nx : ∀ j, j + 1 < way.length → sayP g a b (way.getD j 0) = ((way.getD (j + 1) 0 : Nat) : Int)
  bk : sayP g a b (way.getD (way.length - 1) 0) = ((way.getD i 0 : Nat) : Int)
theorem playF_lasso {g : Gm} {a b : List Int} {C : Nat → Prop} {x : Nat} (hC : ∀ v, C v → v < g.owner.length ∧ sayP g a b v ∈ g.succ.getD v [] ∧ 0 ≤ sayP g a b v ∧ C (sayP g a b v).toNat) :
    ∀ (f : Nat) (way : List Nat) (v : Nat), f = g.owner.length + 1 - way.length → way.Nodup → (∀ u ∈ way, C u) → C v → (way ++ [v]).getD 0 0 = x →
      (∀ j, j + 1 < (way ++ [v]).length → sayP g a b ((way ++ [v]).getD j 0) = (((way ++ [v]).getD (j + 1) 0 : Nat) : Int)) →
      ∃ way' i, playF g a b f way v = ⟨castL (way'.take i), castL (way'.drop i)⟩ ∧ LP g a b C x way' i := by
  intro f
  induction f with
  | zero =>
    intro way v hf hn hm _ _ _
    have := nd_len hn (fun u hu => (hC u (hm u hu)).1)
    omega
  | succ f ih =>
    intro way v hf hn hm hv hx hj
    by_cases hin : v ∈ way
    · have hil : way.idxOf v < way.length := List.idxOf_lt_length_iff.2 hin
      have hp : 0 < way.length := by omega
      have hgi : way.getD (way.idxOf v) 0 = v := by rw [getD_lt _ _ _ hil]; exact List.getElem_idxOf hil
      refine ⟨way, way.idxOf v, playF_yes hin, hil, hn, by rw [← gA (m := [v]) hp]; exact hx, hm, fun j h => ?_, ?_⟩
      · have := hj j (by rw [List.length_append, List.length_singleton]; omega)
        rwa [gA (by omega), gA h] at this
      · have := hj (way.length - 1) (by rw [List.length_append, List.length_singleton]; omega)
        rw [gA (by omega), show way.length - 1 + 1 = way.length from by omega, gB] at this
        rw [this, hgi]
    · obtain ⟨h1, h2, h3, h4⟩ := hC v hv
      rw [playF_next hin h2]
      have hn' : (way ++ [v]).Nodup := List.nodup_append.2 ⟨hn, by simp, fun p hp q hq e => hin (by rw [List.mem_singleton] at hq; subst hq; subst e; exact hp)⟩
      have hl : (way ++ [v]).length = way.length + 1 := by simp
      refine ih (way ++ [v]) _ (by omega) hn' (fun u hu => ?_) h4 (by rw [gA (by omega)]; exact hx) (fun j h => ?_)
      · rcases List.mem_append.1 hu with k | k
        · exact hm u k
        · rw [List.mem_singleton.1 k]; exact hv
      · rw [List.length_append, List.length_singleton, hl] at h
        by_cases he : j + 1 < way.length + 1
        · rw [gA (by omega), gA (m := [(sayP g a b v).toNat]) (by omega)]
          exact hj j (by omega)
        · obtain rfl : j = way.length := by omega
          rw [gA (by omega), gB, show way.length + 1 = (way ++ [v]).length from hl.symm, gB, Int.toNat_of_nonneg h3]
theorem playR_lasso {g : Gm} {a b : List Int} {C : Nat → Prop} {x : Nat} (hv : validB g = true) (ha : a.length = g.owner.length) (hb : b.length = g.owner.length)
    (hC : ∀ v, C v → v < g.owner.length ∧ sayP g a b v ∈ g.succ.getD v [] ∧ 0 ≤ sayP g a b v ∧ C (sayP g a b v).toNat) (hx : C x) :
    ∃ way i, playR g a b x = ⟨castL (way.take i), castL (way.drop i)⟩ ∧ LP g a b C x way i := by
  rw [playR_yes hv ha hb (hC x hx).1]
  exact playF_lasso hC _ [] x rfl (by simp) (by simp) hx rfl (fun j h => by simp at h)
theorem fold_min (f : Int → Int) (l : List Int) : ∀ m0 : Int, l.foldl (fun m v => min m (f v)) m0 ≤ m0 ∧ (∀ v ∈ l, l.foldl (fun m v => min m (f v)) m0 ≤ f v) ∧ (l.foldl (fun m v => min m (f v)) m0 = m0 ∨ ∃ v ∈ l, l.foldl (fun m v => min m (f v)) m0 = f v) := by
  induction l with
  | nil => intro m0; simp
  | cons y l ih =>
    intro m0
    obtain ⟨h1, h2, h3⟩ := ih (min m0 (f y))
    simp only [List.foldl_cons]
    refine ⟨by omega, fun v hv => ?_, ?_⟩
    · rcases List.mem_cons.1 hv with rfl | hv
      · omega
      · exact h2 v hv
    · rcases h3 with h3 | ⟨v, hv, h3⟩
      · by_cases hm : m0 ≤ f y
        · left; rw [h3]; omega
        · right; exact ⟨y, List.mem_cons_self, by rw [h3]; omega⟩
      · right; exact ⟨v, List.mem_cons_of_mem _ hv, h3⟩
theorem keeps_step {g : Gm} {p : Int} {set : List Bool} {s : List Int} (h : stB g p set s = true) {v : Nat} (hv : v < g.owner.length) (hs : set.getD v false = true) :
    (g.owner.getD v 0 = p → s.getD v 0 ∈ g.succ.getD v [] ∧ set.getD (s.getD v 0).toNat false = true) ∧ (g.owner.getD v 0 ≠ p → ∀ u ∈ g.succ.getD v [], set.getD u.toNat false = true) := by
  obtain ⟨h1, h2, h3, h4, h5⟩ := keeps_at h
  have hk := h5 v hv
  unfold keepsB at hk
  rw [hs, if_pos rfl] at hk
  refine ⟨fun e => ?_, fun e => ?_⟩
  · rw [if_pos e] at hk
    simpa [Bool.and_eq_true] using hk
  · rw [if_neg e, Bool.and_eq_true, List.all_eq_true] at hk
    exact hk.2
section
variable {g : Gm} {a b : List Int} {C : Nat → Prop} {x : Nat} {way : List Nat} {i : Nat}
theorem LP.at (H : LP g a b C x way i) {j : Nat} (hj : j < way.length) : C (way.getD j 0) := H.mem _ (by rw [getD_lt _ _ _ hj]; exact List.getElem_mem hj)
theorem LP.wayL (H : LP g a b C x way i) : wayL ⟨castL (way.take i), castL (way.drop i)⟩ = castL (way ++ [way.getD i 0]) := by
  have h1 : (way.drop i).take 1 = [way.getD i 0] := by
    rw [List.drop_eq_getElem_cons H.hi, getD_lt _ _ _ H.hi]; rfl
  unfold Go.Proofs.Ytkbiopjinegckaa.wayL castL
  rw [← List.map_take, h1, ← List.map_append, List.take_append_drop, ← List.map_append]
/-- The play is one of the game. -/
theorem LP.ok (H : LP g a b C x way i) (hC : ∀ v, C v → v < g.owner.length ∧ sayP g a b v ∈ g.succ.getD v []) : okW g (Go.Proofs.Ytkbiopjinegckaa.wayL ⟨castL (way.take i), castL (way.drop i)⟩) = true := by
  rw [H.wayL]
  refine List.all_eq_true.2 fun j hj => ?_
  rw [List.mem_range, castL_length, List.length_append, List.length_singleton] at hj
  have hc : ∀ k, k ≤ way.length → C ((way ++ [way.getD i 0]).getD k 0) := fun k hk => by
    by_cases e : k < way.length
    · rw [gA e]; exact H.at e
    · obtain rfl : k = way.length := by omega
      rw [gB]; exact H.at H.hi
  have hs : ∀ k, k < way.length → sayP g a b ((way ++ [way.getD i 0]).getD k 0) = (((way ++ [way.getD i 0]).getD (k + 1) 0 : Nat) : Int) := fun k hk => by
    rw [gA hk]
    by_cases e : k + 1 < way.length
    · rw [gA e]; exact H.nx k e
    · have e2 : k + 1 = way.length := by omega
      rw [e2, gB, show k = way.length - 1 from by omega]; exact H.bk
  have h1 := (hC _ (hc j (by omega))).1
  unfold okAt
  rw [castL_at, castL_at, Int.toNat_natCast, decide_eq_true (p := (0 : Int) ≤ _) (by omega), decide_eq_true (p := _ < (g.owner.length : Int)) (by omega)]
  by_cases h0 : j = 0
  · rw [decide_eq_true h0]; rfl
  · have h2 := (hC _ (hc (j - 1) (by omega))).2
    rw [hs (j - 1) (by omega), show j - 1 + 1 = j from by omega] at h2
    rw [decide_eq_true h2]; simp
theorem LP.up (H : LP g a b C x way i) {E : Nat → Nat → Prop} {A : Nat → Prop} (hE : ∀ v (u : Nat), v ∈ way → sayP g a b v = (u : Int) → E v u) {j : Nat} (hA : ∀ k, j ≤ k → k < way.length → A (way.getD k 0)) : ∀ d, j + d + 1 < way.length → Cyc E A (way.getD j 0) (way.getD (j + d + 1) 0) := by
  have hm : ∀ k, k < way.length → way.getD k 0 ∈ way := fun k hk => by rw [getD_lt _ _ _ hk]; exact List.getElem_mem hk
  intro d
  induction d with
  | zero => exact fun h => .one (hA _ (by omega) (by omega)) (hA _ (by omega) h) (hE _ _ (hm _ (by omega)) (H.nx j h))
  | succ d ih => exact fun h => (ih (by omega)).step (hA _ (by omega) (by omega)) (hE _ _ (hm _ (by omega)) (H.nx (j + d + 1) h))
theorem LP.cyc (H : LP g a b C x way i) {E : Nat → Nat → Prop} {A : Nat → Prop} (hE : ∀ v (u : Nat), v ∈ way → sayP g a b v = (u : Int) → E v u) (hA : ∀ k, i ≤ k → k < way.length → A (way.getD k 0)) {j : Nat} (h1 : i ≤ j) (h2 : j < way.length) : Cyc E A (way.getD j 0) (way.getD j 0) := by
  have hi := H.hi
  have hl : way.getD (way.length - 1) 0 ∈ way := by rw [getD_lt _ _ _ (by omega)]; exact List.getElem_mem _
  have hb : E (way.getD (way.length - 1) 0) (way.getD i 0) := hE _ _ hl H.bk
  have k1 : Cyc E A (way.getD j 0) (way.getD i 0) := by
    by_cases e : j = way.length - 1
    · rw [e]; exact .one (hA _ (by omega) (by omega)) (hA _ (Nat.le_refl _) hi) hb
    · have h3 := H.up hE (fun k hk hk2 => hA k (by omega) hk2) (way.length - 2 - j) (j := j) (by omega)
      rw [show j + (way.length - 2 - j) + 1 = way.length - 1 from by omega] at h3
      exact h3.step (hA _ (Nat.le_refl _) hi) hb
  by_cases e : i = j
  · subst e; exact k1
  · have h3 := H.up hE hA (j - i - 1) (by omega)
    rw [show i + (j - i - 1) + 1 = j from by omega] at h3
    exact k1.trans h3
/-- Who wins it: the least priority of its loop. -/
theorem LP.winner (H : LP g a b C x way i) (hv : validB g = true) (hC : ∀ v, C v → v < g.owner.length ∧ sayP g a b v ∈ g.succ.getD v []) :
    ∃ m, i ≤ m ∧ m < way.length ∧ winrB g ⟨castL (way.take i), castL (way.drop i)⟩ = g.prio.getD (way.getD m 0) 0 % 2 ∧ ∀ k, i ≤ k → k < way.length → g.prio.getD (way.getD m 0) 0 ≤ g.prio.getD (way.getD k 0) 0 := by
  have hi := H.hi
  have hne : (castL (way.drop i)).isEmpty = false := by
    rw [← Bool.not_eq_true, List.isEmpty_iff]
    intro e
    have := congrArg List.length e
    rw [castL_length, List.length_drop, List.length_nil] at this
    omega
  have hw : winrB g ⟨castL (way.take i), castL (way.drop i)⟩ = leastW g (castL (way.drop i)) % 2 := by
    unfold winrB
    rw [hv, H.ok hC]
    simp only [hne]; rfl
  have hget : ∀ k, k < (way.drop i).length → (castL (way.drop i)).getD k 0 = ((way.getD (i + k) 0 : Nat) : Int) := fun k hk => by
    rw [castL_at]; simp only [List.getD, List.getElem?_drop]
  obtain ⟨f1, f2, f3⟩ := fold_min (fun v => g.prio.getD v.toNat 0) (castL (way.drop i)) (g.prio.getD ((castL (way.drop i)).getD 0 0).toNat 0)
  have hle : ∀ k, i ≤ k → k < way.length → leastW g (castL (way.drop i)) ≤ g.prio.getD (way.getD k 0) 0 := fun k h1 h2 => by
    have hk : k - i < (castL (way.drop i)).length := by rw [castL_length, List.length_drop]; omega
    have := f2 ((castL (way.drop i)).getD (k - i) 0) (by rw [getD_lt _ _ _ hk]; exact List.getElem_mem hk)
    simp only [hget (k - i) (by rw [List.length_drop]; omega), Int.toNat_natCast] at this
    rw [show i + (k - i) = k from by omega] at this
    exact this
  have hex : ∃ m, i ≤ m ∧ m < way.length ∧ leastW g (castL (way.drop i)) = g.prio.getD (way.getD m 0) 0 := by
    rcases f3 with f3 | ⟨v, hv, f3⟩
    · refine ⟨i, Nat.le_refl _, hi, ?_⟩
      rw [hget 0 (by rw [List.length_drop]; omega), Int.toNat_natCast, Nat.add_zero] at f3
      unfold leastW
      rw [hget 0 (by rw [List.length_drop]; omega), Int.toNat_natCast, Nat.add_zero]
      exact f3
    · obtain ⟨k, hk, e⟩ := List.getElem_of_mem hv
      rw [castL_length, List.length_drop] at hk
      refine ⟨i + k, by omega, by omega, ?_⟩
      have h4 := hget k (by rw [List.length_drop]; omega)
      rw [getD_lt _ _ _ (by rw [castL_length, List.length_drop]; omega), e] at h4
      simp only [h4, Int.toNat_natCast] at f3
      exact f3
  obtain ⟨m, h1, h2, h3⟩ := hex
  exact ⟨m, h1, h2, by rw [hw, h3], fun k k1 k2 => by rw [← h3]; exact hle k k1 k2⟩
/-- A winning strategy wins the plays in its set. -/
theorem LP.wins (H : LP g a b C x way i) {p : Int} {set : List Bool} {s : List Int} (hw : winB g p set s = true) (hC : ∀ v, C v → v < g.owner.length ∧ set.getD v false = true ∧ sayP g a b v ∈ g.succ.getD v [] ∧ (g.owner.getD v 0 = p → sayP g a b v = s.getD v 0)) :
    winrB g ⟨castL (way.take i), castL (way.drop i)⟩ = p := by
  obtain ⟨hst, hg⟩ := (winB_iff g p set s).1 hw
  obtain ⟨m, h1, h2, h3, h4⟩ := H.winner (keeps_at hst).2.1 (fun v hv => ⟨(hC v hv).1, (hC v hv).2.2.1⟩)
  rw [h3]
  have hP : ∀ k, k < way.length → way.getD k 0 ∈ posL set g.owner.length := fun k hk => by
    have := hC _ (H.at hk)
    simp only [posL, List.mem_filter, List.mem_range]
    exact ⟨this.1, this.2.1⟩
  have hc := H.cyc (E := EG (nxS g p set s)) (A := fun y => y ∈ posL set g.owner.length ∧ prF g.prio (way.getD m 0) ≤ prF g.prio y) (fun v u hv e => by
    obtain ⟨c1, c2, c3, c4⟩ := hC v (H.mem v hv)
    refine (EG_iff hst v u).2 ⟨c2, ?_, by rw [← e]; exact c3⟩
    by_cases ho : g.owner.getD v 0 = p
    · right; rw [← c4 ho]; exact e
    · left; exact ho) (fun k k1 k2 => ⟨hP k k2, h4 k k1 k2⟩) h1 h2
  by_cases hb : badF g.prio p (way.getD m 0)
  · exact absurd hc (hg _ (hP m h2) hb)
  · exact Decidable.not_not.1 hb
end

/-- A set of positions on which a strategy and any answer to it stay. -/
theorem stay_step {g : Gm} {p : Int} {set : List Bool} {s a b : List Int} (h : stB g p set s = true) {v : Nat} (hv : v < g.owner.length) (hin : set.getD v false = true) (hs : g.owner.getD v 0 = p → sayP g a b v = s.getD v 0)
    (ho : g.owner.getD v 0 ≠ p → sayP g a b v ∈ g.succ.getD v []) :
    sayP g a b v ∈ g.succ.getD v [] ∧ 0 ≤ sayP g a b v ∧ (sayP g a b v).toNat < g.owner.length ∧ set.getD (sayP g a b v).toNat false = true := by
  obtain ⟨k1, k2⟩ := keeps_step h hv hin
  have hmem : sayP g a b v ∈ g.succ.getD v [] := by
    by_cases e : g.owner.getD v 0 = p
    · rw [hs e]; exact (k1 e).1
    · exact ho e
  have hr := (valid_at (keeps_at h).2.1 v hv).2.2.2 _ hmem
  refine ⟨hmem, hr.1, by omega, ?_⟩
  by_cases e : g.owner.getD v 0 = p
  · rw [hs e]; exact (k1 e).2
  · exact k2 e _ hmem
/-- No position is in two winning sets. -/
theorem one_plain {g : Gm} {A B : List Bool} {s t : List Int} (hA : winB g 0 A s = true) (hB : winB g 1 B t = true) {x : Nat} (hx : x < g.owner.length) (h1 : A.getD x false = true) (h2 : B.getD x false = true) : False := by
  have kA := ((winB_iff g 0 A s).1 hA).1
  have kB := ((winB_iff g 1 B t).1 hB).1
  obtain ⟨-, hv, -, ls, -⟩ := keeps_at kA
  obtain ⟨-, -, -, lt, -⟩ := keeps_at kB
  have hsA : ∀ v, g.owner.getD v 0 = 0 → sayP g s t v = s.getD v 0 := fun v e => by unfold sayP; rw [if_neg (by omega)]
  have hsB : ∀ v, g.owner.getD v 0 = 1 → sayP g s t v = t.getD v 0 := fun v e => by unfold sayP; rw [if_pos e]
  have hown : ∀ v, v < g.owner.length → g.owner.getD v 0 = 0 ∨ g.owner.getD v 0 = 1 := fun v hv' => by have := (valid_at hv v hv').1; omega
  have hm : ∀ v, v < g.owner.length → A.getD v false = true → B.getD v false = true → sayP g s t v ∈ g.succ.getD v [] := fun v hv' a1 b1 => by
    rcases hown v hv' with e | e
    · rw [hsA v e]; exact ((keeps_step kA hv' a1).1 e).1
    · rw [hsB v e]; exact ((keeps_step kB hv' b1).1 e).1
  obtain ⟨way, i, hr, H⟩ := playR_lasso (C := fun v => v < g.owner.length ∧ A.getD v false = true ∧ B.getD v false = true) hv ls lt (fun v ⟨hv', a1, b1⟩ => by
    have m := hm v hv' a1 b1
    obtain ⟨q1, q2, q3, q4⟩ := stay_step (a := s) (b := t) kA hv' a1 (hsA v) (fun _ => m)
    obtain ⟨-, -, -, q5⟩ := stay_step (a := s) (b := t) kB hv' b1 (hsB v) (fun _ => m)
    exact ⟨hv', q1, q2, q3, q4, q5⟩) ⟨hx, h1, h2⟩
  have w0 := H.wins hA (fun v ⟨hv', a1, b1⟩ => ⟨hv', a1, hm v hv' a1 b1, hsA v⟩)
  have w1 := H.wins hB (fun v ⟨hv', a1, b1⟩ => ⟨hv', b1, hm v hv' a1 b1, hsB v⟩)
  rw [w0] at w1
  cases w1
end Go.Proofs.Ytkbiopjinegckaa
