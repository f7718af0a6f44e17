/- Signals without one of them, in plain lists. -/
import Derived.Test.YtlfackilmpnlhaaDoorSgP3
namespace Go.Proofs.YtlfackilmpnlhaaDoor

def namesL (l : List Sig) : List (List UInt8) := l.map fun s => s.name.toList

theorem newB_iff (l : List Sig) : (∀ i, i < l.length → newB l i = true) ↔ (namesL l).Nodup := by
  unfold List.Nodup
  rw [List.pairwise_iff_getElem]
  simp only [newB, List.all_eq_true, List.mem_range, Bool.not_eq_true', beq_eq_false_iff_ne, namesL, List.length_map, List.getElem_map]
  constructor
  · intro h i j hi hj hij
    have := h j hj i hij
    rwa [getD_lt _ _ _ hi, getD_lt _ _ _ hj] at this
  · intro h i hi k hk
    rw [getD_lt _ _ _ hi, getD_lt _ _ _ (show k < l.length by omega)]
    exact h k i (by omega) hi hk

theorem valid_iff (l : List Sig) : validS l = true ↔ 1 ≤ l.length ∧ l.length ≤ 6 ∧ (∀ s ∈ l, nameB s.name = true ∧ sizeB s = true) ∧ (namesL l).Nodup ∧ prodL l ≤ 64 := by
  rw [← newB_iff]
  simp only [validS, allB, sigB, Bool.and_eq_true, decide_eq_true_eq, List.all_eq_true, List.mem_range]
  constructor
  · rintro ⟨⟨⟨h1, h2⟩, h3⟩, h4⟩
    refine ⟨h1, h2, fun s hs => ?_, fun i hi => (h3 i hi).2, h4⟩
    obtain ⟨k, hk, rfl⟩ := List.getElem_of_mem hs
    have := (h3 k hk).1
    rwa [getD_lt _ _ _ hk] at this
  · rintro ⟨h1, h2, h3, h4, h5⟩
    refine ⟨⟨⟨h1, h2⟩, fun i hi => ⟨?_, h4 i hi⟩⟩, h5⟩
    rw [getD_lt _ _ _ hi]
    exact h3 _ (List.getElem_mem hi)

theorem find_each {l : List Sig} (hv : validS l = true) {k : Nat} (hk : k < l.length) : findI l l[k].name = (k : Int) := by
  rw [find_new hk]
  exact (newB_iff l).2 ((valid_iff l).1 hv).2.2.2.1 k hk

theorem findF_none {s : ByteArray} : ∀ (l : List Sig) (k : Nat), (∀ x ∈ l, x.name.toList ≠ s.toList) → findF s l k = -1 := by
  intro l
  induction l with
  | nil => intro k _; rfl
  | cons x r ih =>
    intro k h
    rw [findF, if_neg (h x (by simp))]
    exact ih (k + 1) (fun y hy => h y (by simp [hy]))

/-- Without the signal at i. -/
def restL (l : List Sig) (i : Nat) : List Sig := l.take i ++ l.drop (i + 1)

theorem rest_len {l : List Sig} {i : Nat} (hi : i < l.length) : (restL l i).length = l.length - 1 := by
  simp [restL]; omega

theorem prodL_app (a b : List Sig) : prodL (a ++ b) = prodL a * prodL b := by
  induction a with
  | nil => simp [prodL]
  | cons s r ih => simp only [List.cons_append, prodL, ih, Int.mul_assoc]

theorem rest_prod {l : List Sig} {i : Nat} (hi : i < l.length) : prodL (restL l i) * l[i].size = prodL l := by
  conv => rhs; rw [← List.take_append_drop i l, List.drop_eq_getElem_cons hi, prodL_app]
  rw [restL, prodL_app]
  simp only [prodL]
  rw [Int.mul_assoc, Int.mul_comm (prodL (l.drop (i + 1)))]

theorem rest_sub (l : List Sig) (i : Nat) : (restL l i).Sublist l := by
  rw [restL, ← List.eraseIdx_eq_take_drop_succ]
  exact List.eraseIdx_sublist l i

theorem rest_valid {l : List Sig} (hv : validS l = true) {i : Nat} (hi : i < l.length) (h2 : 2 ≤ l.length) : validS (restL l i) = true := by
  obtain ⟨h1, h6, hs, hn, hp⟩ := (valid_iff l).1 hv
  have hz : ∀ s ∈ l, sizeB s = true := fun s h => (hs s h).2
  have hsub := rest_sub l i
  have hzr : ∀ s ∈ restL l i, sizeB s = true := fun s h => hz s (hsub.subset h)
  have hpr := rest_prod hi
  have h3 := prodL_pos hzr
  have h4 := (sizes_pos hz _ (List.getElem_mem hi)).1
  have h5 := Int.mul_le_mul (Int.le_refl (prodL (restL l i))) (show (1 : Int) ≤ l[i].size by omega) (by omega) (by omega)
  have hl := rest_len hi
  exact (valid_iff _).2 ⟨by omega, by omega, fun s h => hs s (hsub.subset h), hn.sublist (hsub.map _), by omega⟩

theorem rest_letters {l : List Sig} (hv : validS l = true) {i : Nat} (hi : i < l.length) (h2 : 2 ≤ l.length) : lettersI (restL l i) * l[i].size = lettersI l := by
  rw [letters_is hv, letters_is (rest_valid hv hi h2), rest_prod hi]

theorem rest_find {l : List Sig} (hv : validS l = true) {i : Nat} (hi : i < l.length) : findI (restL l i) l[i].name = -1 := by
  obtain ⟨h1, h6, hs, hn, hp⟩ := (valid_iff l).1 hv
  refine findF_none _ _ fun x hx => ?_
  have hn2 := hn
  unfold List.Nodup at hn2
  rw [List.pairwise_iff_getElem] at hn2
  simp only [namesL, List.length_map, List.getElem_map] at hn2
  rcases List.mem_append.1 hx with h | h
  · obtain ⟨j, hj, e⟩ := List.getElem_of_mem h
    rw [List.length_take] at hj
    rw [← e, List.getElem_take]
    exact hn2 j i (by omega) hi (by omega)
  · obtain ⟨j, hj, e⟩ := List.getElem_of_mem h
    rw [List.length_drop] at hj
    rw [← e, List.getElem_drop]
    exact fun e2 => hn2 i (i + 1 + j) hi (by omega) (by omega) e2.symm

end Go.Proofs.YtlfackilmpnlhaaDoor
