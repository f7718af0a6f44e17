/- The search for places: what is known of the places it finds. -/
import Derived.Test.YtjadeffdcbchnaaDoorAr18
namespace Go.Proofs.YtjadeffdcbchnaaDoor

theorem addP_all' {P : Pl → Prop} {l : List Pl} (h : ∀ y ∈ l, P y) {x : Pl} (hx : P x) : ∀ y ∈ addP l x, P y := fun y hy => by
  unfold addP at hy
  split at hy
  · exact h y hy
  · rcases List.mem_append.1 hy with h1 | h1
    · exact h y h1
    · rw [List.mem_singleton.1 h1]; exact hx
theorem addA_all' {P : Pl → Prop} {l ys : List Pl} (h : ∀ y ∈ l, P y) (hy : ∀ y ∈ ys, P y) : ∀ y ∈ addA l ys, P y := by
  induction ys generalizing l with
  | nil => exact h
  | cons z ys ih =>
    rw [addA, List.foldl_cons, ← addA]
    exact ih (addP_all' h (hy z List.mem_cons_self)) fun y h1 => hy y (List.mem_cons_of_mem _ h1)

section
variable (S : Pl → List Pl)
/-- The list, when the places ys have been gone through. -/
def fl (l : List Pl) (ys : List Pl) : List Pl := ys.foldl (fun L y => addA L (S y)) l
theorem fl_cons (l : List Pl) (y : Pl) (ys : List Pl) : fl S l (y :: ys) = fl S (addA l (S y)) ys := rfl
theorem fl_snoc (l ys : List Pl) (y : Pl) : fl S l (ys ++ [y]) = addA (fl S l ys) (S y) := by simp [fl]
variable {S}
theorem bfs_all {P : Pl → Prop} (hP : ∀ y, P y → ∀ x ∈ S y, P x) {most : Nat} : ∀ (f k : Nat) (l r : List Pl), bfsF S most f k l = some r → (∀ y ∈ l, P y) → ∀ y ∈ r, P y := by
  intro f
  induction f with
  | zero => intro k l r h; cases h
  | succ f ih =>
    intro k l r h hl
    unfold bfsF at h
    by_cases hk : k < l.length
    · rw [dif_pos hk] at h
      split at h
      · exact ih _ _ _ h (addA_all' hl (hP _ (hl _ (List.getElem_mem hk))))
      · cases h
    · rw [dif_neg hk] at h
      cases h
      exact hl
theorem bfs_run {most : Nat} : ∀ (f k : Nat) (l r : List Pl), bfsF S most f k l = some r → k ≤ l.length →
    (∃ e, r = l ++ e) ∧ (∀ j, k ≤ j → j ≤ r.length → (∃ e, r = fl S l ((r.take j).drop k) ++ e) ∧ (j < r.length → j < (fl S l ((r.take j).drop k)).length)) ∧ fl S l (r.drop k) = r := by
  intro f
  induction f with
  | zero => intro k l r h; cases h
  | succ f ih =>
    intro k l r h hkl
    unfold bfsF at h
    by_cases hk : k < l.length
    · rw [dif_pos hk] at h
      split at h
      · obtain ⟨e0, he0⟩ := addA_pre l (S l[k])
        obtain ⟨⟨e1, he1⟩, h2, h3⟩ := ih _ _ _ h (by rw [he0]; simp; omega)
        have hr : r = l ++ (e0 ++ e1) := by rw [he1, he0, List.append_assoc]
        have hkr : k < r.length := by rw [hr]; simp; omega
        have hrk : r[k] = l[k] := by simp only [hr]; rw [List.getElem_append_left hk]
        refine ⟨⟨_, hr⟩, fun j h4 h5 => ?_, ?_⟩
        · by_cases hj : j = k
          · subst hj
            have e : (r.take j).drop j = [] := List.drop_eq_nil_of_le (by simp; omega)
            rw [e]
            exact ⟨⟨_, hr⟩, fun _ => hk⟩
          · have e : (r.take j).drop k = l[k] :: (r.take j).drop (k + 1) := by
              rw [← List.getElem_cons_drop (by simp; omega : k < (r.take j).length), List.getElem_take, hrk]
            rw [e, fl_cons]
            exact h2 j (by omega) h5
        · have e : r.drop k = l[k] :: r.drop (k + 1) := by rw [← List.getElem_cons_drop hkr, hrk]
          rw [e, fl_cons]
          exact h3
      · cases h
    · rw [dif_neg hk] at h
      cases h
      have hkl2 : k = l.length := by omega
      refine ⟨⟨[], by simp⟩, fun j h4 h5 => ?_, ?_⟩
      · obtain rfl : j = k := by omega
        have e : (l.take j).drop j = [] := List.drop_eq_nil_of_le (by simp; omega)
        rw [e]
        exact ⟨⟨[], by simp [fl]⟩, fun h => absurd h (by omega)⟩
      · rw [List.drop_eq_nil_of_le (by omega)]; rfl
theorem fl_nodup {l : List Pl} (h : l.Nodup) (ys : List Pl) : (fl S l ys).Nodup := by
  induction ys generalizing l with
  | nil => exact h
  | cons y ys ih => rw [fl_cons]; exact ih (addA_nodup h _)
end

/-- What is known of the places of a search. -/
structure Found (S : Pl → List Pl) (x0 : Pl) (r : List Pl) : Prop where
  nd : r.Nodup
  hd : r[0]? = some x0
  pre : ∀ j, j ≤ r.length → ∃ e, r = fl S [x0] (r.take j) ++ e
  lt : ∀ j, j < r.length → j < (fl S [x0] (r.take j)).length
  fin : fl S [x0] r = r
theorem found_of {S : Pl → List Pl} {x0 : Pl} {most f : Nat} {r : List Pl} (h : bfsF S most f 0 [x0] = some r) : Found S x0 r := by
  obtain ⟨⟨e, he⟩, h2, h3⟩ := bfs_run f 0 [x0] r h (by simp)
  rw [List.drop_zero] at h3
  refine ⟨by rw [← h3]; exact fl_nodup (by simp) r, by rw [he]; rfl, fun j hj => ?_, fun j hj => ?_, h3⟩
  · have := (h2 j (by omega) hj).1
    rwa [List.drop_zero] at this
  · have := (h2 j (by omega) (by omega)).2 hj
    rwa [List.drop_zero] at this
theorem Found.step {S : Pl → List Pl} {x0 : Pl} {r : List Pl} (_ : Found S x0 r) {j : Nat} (hj : j < r.length) : fl S [x0] (r.take (j + 1)) = addA (fl S [x0] (r.take j)) (S r[j]) := by
  rw [List.take_succ_eq_append_getElem hj, fl_snoc]
theorem Found.closed {S : Pl → List Pl} {x0 : Pl} {r : List Pl} (h : Found S x0 r) {j : Nat} (hj : j < r.length) : ∀ y ∈ S r[j], y ∈ r := fun y hy => by
  obtain ⟨e, he⟩ := h.pre (j + 1) (by omega)
  rw [he]
  refine List.mem_append_left _ ?_
  rw [h.step hj]
  exact addA_mem _ _ y hy
theorem Found.pos {S : Pl → List Pl} {x0 : Pl} {r : List Pl} (h : Found S x0 r) : 0 < r.length := (List.getElem?_eq_some_iff.1 h.hd).1
/-- One successor after the other: its number is that of the next new place, or less. -/
theorem addA_pre_of {l ys : List Pl} {k : Nat} : ∃ e, addA l ys = addA l (ys.take k) ++ e := by
  conv => enter [1, e, 1]; rw [← List.take_append_drop k ys]
  have : ∀ a b : List Pl, addA l (a ++ b) = addA (addA l a) b := fun a b => by simp [addA]
  rw [this]
  exact addA_pre _ _
theorem Found.number {S : Pl → List Pl} {x0 : Pl} {r : List Pl} (h : Found S x0 r) {j k : Nat} (hj : j < r.length) (hk : k < (S r[j]).length) :
    ∃ n : Nat, r.idxOf (S r[j])[k] = n ∧ n < r.length ∧ r.getD n x0 = (S r[j])[k] ∧ n ≤ (addA (fl S [x0] (r.take j)) ((S r[j]).take k)).length ∧
      (addA (fl S [x0] (r.take j)) ((S r[j]).take (k + 1))).length = if n = (addA (fl S [x0] (r.take j)) ((S r[j]).take k)).length then (addA (fl S [x0] (r.take j)) ((S r[j]).take k)).length + 1 else (addA (fl S [x0] (r.take j)) ((S r[j]).take k)).length := by
  have hin : (S r[j])[k] ∈ r := h.closed hj _ (List.getElem_mem hk)
  have hlt := idx_lt hin
  refine ⟨_, rfl, hlt, ?_, ?_⟩
  · rw [getD_lt _ _ _ hlt, List.getElem_idxOf]
  obtain ⟨e0, he0⟩ := h.pre (j + 1) (by omega)
  rw [h.step hj] at he0
  obtain ⟨e1, he1⟩ := addA_pre_of (l := fl S [x0] (r.take j)) (ys := S r[j]) (k := k)
  obtain ⟨e2, he2⟩ := addA_pre_of (l := fl S [x0] (r.take j)) (ys := S r[j]) (k := k + 1)
  rw [List.take_succ_eq_append_getElem hk, addA_snoc] at he2 ⊢
  generalize addA (fl S [x0] (r.take j)) ((S r[j]).take k) = L at *
  generalize (S r[j])[k] = y at *
  by_cases hy : y ∈ L
  · have e3 : addP L y = L := if_pos hy
    have hi : r.idxOf y = L.idxOf y := by rw [he0, he1, List.append_assoc, idx_pre hy]
    have hl := idx_lt hy
    rw [e3, hi]
    exact ⟨by omega, by rw [if_neg (by omega)]⟩
  · have e3 : addP L y = L ++ [y] := if_neg hy
    rw [e3] at he2 ⊢
    have hi : r.idxOf y = L.length := by
      rw [he0, he2, List.append_assoc, List.append_assoc, ← List.append_assoc, idx_pre (by simp), idx_new hy]
    rw [hi]
    exact ⟨Nat.le_refl _, by rw [if_pos rfl, List.length_append]; rfl⟩

/-- A place of the search: before an input with a priority, behind one without. -/
def PlC (y : Pl) : Prop := (y.inn = -1 ∧ 0 ≤ y.pr ∧ y.pr ≤ 20000) ∨ (0 ≤ y.inn ∧ y.pr = -1)
section
variable {a : Au} {l : List Sig} {most : Nat} {r : List Pl}
theorem succ_c {T : List (List Int)} {y : Pl} (hv : validA a = true) (hy : PlOK a T y) : ∀ x ∈ succPl a T y, PlC x := by
  intro x hx
  have hs : y.st.toNat < a.next.length := by have := hy.st; omega
  unfold succPl at hx
  split at hx
  · obtain ⟨i, hi, rfl⟩ := List.mem_map.1 hx
    exact .inr ⟨by show (0 : Int) ≤ (i : Int); omega, rfl⟩
  · have hin := hy.inn
    obtain ⟨v, hvx, rfl⟩ := List.mem_map.1 hx
    have hvL := hy.lets _ (by omega) v hvx
    obtain ⟨h1, h2⟩ := validA_pr hv hs v.toNat (by omega)
    exact .inl ⟨rfl, h1, h2⟩
theorem places_ok (hv : validA a = true) (hA : AuOK a (joinT l)) (h : buildP a l most = some r) : ∀ y ∈ r, PlOK a (joinT l) y ∧ PlW y ∧ PlC y := by
  obtain ⟨⟨h1, h2⟩, -⟩ := start_ok hv hA
  have ht := topA_bd hv
  refine bfs_all (P := fun y => PlOK a (joinT l) y ∧ PlW y ∧ PlC y) (fun y hy x hx => ⟨hA.succ hy.1 x hx, succ_wf hv hy.1 x hx, succ_c hv hy.1 x hx⟩) _ _ _ _ h fun y hy => ?_
  rw [List.mem_singleton.1 hy]
  exact ⟨h1, h2, .inl ⟨rfl, ht.1, ht.2⟩⟩
theorem succ_ne {y : Pl} (hs : validS l = true) (hy : PlOK a (joinT l) y) : succPl a (joinT l) y ≠ [] := by
  obtain ⟨⟨hi0, hi1⟩, ⟨ho0, ho1⟩⟩ := sides_bd hs
  have hjt := joinT_len l
  have hin := hy.inn
  intro h
  have h0 : (succPl a (joinT l) y).length = 0 := by rw [h]; rfl
  unfold succPl at h0
  split at h0
  · rw [List.length_map, List.length_range] at h0; omega
  · rw [List.length_map, joinT_row (by omega), List.length_map, List.length_range] at h0; omega
/-- The game of the places is well-formed. -/
theorem places_valid (hs : validS l = true) (hv : validA a = true) (hA : AuOK a (joinT l)) (h : buildP a l most = some r) (hm : r.length ≤ 3000) : validB (plGm (succPl a (joinT l)) (topA a) r r.length) = true := by
  have F := found_of h
  have hok := places_ok hv hA h
  have ht := topA_bd hv
  obtain ⟨e1, e2, e3⟩ := plGm_len (succPl a (joinT l)) (topA a) r
  refine (validB_iff _ (by omega) (by omega) (by omega)).2 fun i hi => (okB_iff _ _).2 ?_
  rw [e1] at hi ⊢
  obtain ⟨h1, h2, h3⟩ := hok _ (List.getElem_mem hi)
  have g1 : (plGm (succPl a (joinT l)) (topA a) r r.length).owner.getD i 0 = plOwn r[i] := by simp [plGm, List.getD, hi]
  have g2 : (plGm (succPl a (joinT l)) (topA a) r r.length).prio.getD i 0 = plPri (topA a) r[i] := by simp [plGm, List.getD, hi]
  have g3 : (plGm (succPl a (joinT l)) (topA a) r r.length).succ.getD i [] = numsP r (succPl a (joinT l) r[i]) := by simp [plGm, List.getD, hi]
  rw [g1, g2, g3]
  refine ⟨?_, ?_, ?_, fun x hx => ?_⟩
  · unfold plOwn; split <;> omega
  · unfold plPri; rcases h3 with ⟨k1, k2, k3⟩ | ⟨k1, k2⟩
    · rw [if_pos (by omega)]; omega
    · rw [if_neg (by omega)]; omega
  · intro hn
    have := succ_ne hs h1
    unfold numsP at hn
    exact this (List.map_eq_nil_iff.1 hn)
  · unfold numsP at hx
    obtain ⟨y, hy, rfl⟩ := List.mem_map.1 hx
    have := idx_lt (F.closed hi y hy)
    omega
end

end Go.Proofs.YtjadeffdcbchnaaDoor
