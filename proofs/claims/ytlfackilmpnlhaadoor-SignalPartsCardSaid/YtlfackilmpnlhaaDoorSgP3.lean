/- The laws of well-formed signals, in plain lists. -/
import Derived.Test.YtlfackilmpnlhaaDoorSgP2
import Derived.Test.YtlfackilmpnlhaaDoorSg25
namespace Go.Proofs.YtlfackilmpnlhaaDoor

theorem letters_is {l : List Sig} (hv : validS l = true) : lettersI l = prodL l := by rw [lettersI, hv, if_pos rfl, prodC_true]
theorem inputs_is {l : List Sig} (hv : validS l = true) : inputsI l = prodC (fun s => s.inp == true) l := by
  rw [← side_in, sideI, hv, if_pos rfl]
theorem outputs_is {l : List Sig} (hv : validS l = true) : outputsI l = prodC (fun s => s.inp == false) l := by
  rw [← side_out, sideI, hv, if_pos rfl]

theorem prodL_two {l : List Sig} (hz : ∀ s ∈ l, sizeB s = true) (h1 : 1 ≤ l.length) : 2 ≤ prodL l := by
  cases l with
  | nil => simp at h1
  | cons s r =>
    have hs := sizes_pos hz s (by simp)
    have hp := prodL_pos (l := r) (fun x hx => hz x (List.mem_cons_of_mem _ hx))
    have := Int.mul_le_mul hs.1 hp (by omega) (by omega)
    simp only [prodL]
    omega

theorem letters_bd {l : List Sig} (hv : validS l = true) : 2 ≤ lettersI l ∧ lettersI l ≤ 64 := by
  obtain ⟨hz, hl1, hl6, hp⟩ := valid_sizes hv
  rw [letters_is hv]
  exact ⟨prodL_two hz hl1, hp⟩

theorem prodC_pos (ch : Sig → Bool) {l : List Sig} (hz : ∀ s ∈ l, sizeB s = true) : 1 ≤ prodC ch l := (prodC_bd ch l hz).1

theorem sides_bd {l : List Sig} (hv : validS l = true) : (1 ≤ inputsI l ∧ inputsI l ≤ 64) ∧ 1 ≤ outputsI l ∧ outputsI l ≤ 64 := by
  obtain ⟨hz, hl1, hl6, hp⟩ := valid_sizes hv
  have h1 := prodC_pos (fun s => s.inp == true) hz
  have h2 := prodC_pos (fun s => s.inp == false) hz
  rw [← inputs_is hv] at h1
  rw [← outputs_is hv] at h2
  have h3 : inputsI l * outputsI l = prodL l := by
    rw [inputsI, outputsI, hv, if_pos rfl, if_pos rfl, prodC_both]
  have h4 := Int.mul_le_mul (Int.le_refl (inputsI l)) h2 (by omega) (by omega)
  have h5 := Int.mul_le_mul h1 (Int.le_refl (outputsI l)) (by omega) (by omega)
  omega

theorem halves_law {l : List Sig} (hv : validS l = true) {a : Int} (h0 : 0 ≤ a) (h1 : a < lettersI l) :
    (0 ≤ halfI l true a ∧ halfI l true a < inputsI l) ∧ (0 ≤ halfI l false a ∧ halfI l false a < outputsI l) ∧ joinI l (halfI l true a) (halfI l false a) = a := by
  obtain ⟨hz, hl1, hl6, hp⟩ := valid_sizes hv
  have e : ∀ q, halfI l q a = halfL q l a := fun q => if_pos ⟨h0, h1⟩
  rw [e, e, inputs_is hv, outputs_is hv]
  have b1 := half_bd true hz a
  have b2 := half_bd false hz a
  refine ⟨b1, b2, ?_⟩
  rw [joinI, if_pos ⟨b1.1, by rw [inputs_is hv]; exact b1.2, b2.1, by rw [outputs_is hv]; exact b2.2⟩]
  exact join_half hz a h0 (by rwa [letters_is hv] at h1)

theorem join_law {l : List Sig} (hv : validS l = true) {i o : Int} (h0 : 0 ≤ i) (h1 : i < inputsI l) (h2 : 0 ≤ o) (h3 : o < outputsI l) :
    (0 ≤ joinI l i o ∧ joinI l i o < lettersI l) ∧ halfI l true (joinI l i o) = i ∧ halfI l false (joinI l i o) = o := by
  obtain ⟨hz, hl1, hl6, hp⟩ := valid_sizes hv
  have e : joinI l i o = joinL l i o := if_pos ⟨h0, h1, h2, h3⟩
  have b := join_bd hz i o
  rw [← letters_is hv] at b
  have hh := half_join hz i o h0 (by rwa [inputs_is hv] at h1) h2 (by rwa [outputs_is hv] at h3)
  rw [e]
  refine ⟨b, ?_, ?_⟩
  · rw [halfI, if_pos b]; exact hh.1
  · rw [halfI, if_pos b]; exact hh.2

theorem values_dig {l : List Sig} (hv : validS l = true) {a : Int} (h0 : 0 ≤ a) (h1 : a < lettersI l) : valuesI l a = digL l a := by
  obtain ⟨hz, hl1, hl6, hp⟩ := valid_sizes hv
  apply List.ext_getElem
  · simp [valuesI, digL_len]
  · intro k hk1 hk2
    have hk : k < l.length := by rwa [digL_len] at hk2
    have h2 := digL_get hz a k hk
    rw [getD_lt _ _ _ hk2] at h2
    rw [h2]
    simp only [valuesI, List.getElem_map, List.getElem_range]
    rw [valueI, if_pos ⟨h0, h1, by omega, by omega⟩, Int.toNat_natCast, getD_lt _ _ _ hk]

theorem values_len (l : List Sig) (a : Int) : (valuesI l a).length = l.length := by simp [valuesI]
theorem values_get (l : List Sig) (a : Int) (k : Nat) (hk : k < l.length) : (valuesI l a).getD k 0 = valueI l a k := by
  rw [getD_lt _ _ _ (by rw [values_len]; exact hk)]; simp [valuesI]
theorem values_bd (l : List Sig) (a : Int) : ∀ x ∈ valuesI l a, 0 ≤ x ∧ x ≤ 3 := by
  intro x hx
  obtain ⟨k, _, rfl⟩ := List.mem_map.1 hx
  exact value_bd l a k

theorem make_values {l : List Sig} (hv : validS l = true) {a : Int} (h0 : 0 ≤ a) (h1 : a < lettersI l) : mkR l (valuesI l a) = (a, true) := by
  obtain ⟨hz, hl1, hl6, hp⟩ := valid_sizes hv
  rw [mkR, hv, values_len, decide_eq_true rfl, values_dig hv h0 h1, mk_dig hz a h0 (by rwa [letters_is hv] at h1)]
  rfl

theorem value_lt {l : List Sig} (hv : validS l = true) (a : Int) (k : Nat) (hk : k < l.length) : 0 ≤ valueI l a k ∧ valueI l a k < l[k].size := by
  obtain ⟨hz, hl1, hl6, hp⟩ := valid_sizes hv
  have hs := sizes_pos hz _ (List.getElem_mem hk)
  by_cases h : 0 ≤ a ∧ a < lettersI l
  · rw [← values_get l a k hk, values_dig hv h.1 h.2]
    exact dig_ok hz a k hk
  · rw [valueI, if_neg (fun h2 => h ⟨h2.1, h2.2.1⟩)]
    omega

/-- What Make says of values. -/
theorem make_law {l : List Sig} (hv : validS l = true) (vals : List Int) :
    ((mkR l vals).2 = false ∧ (mkR l vals).1 = 0) ∨ ((mkR l vals).2 = true ∧ 0 ≤ (mkR l vals).1 ∧ (mkR l vals).1 < lettersI l ∧ valuesI l (mkR l vals).1 = vals) := by
  unfold mkR
  by_cases hlen : vals.length = l.length
  · rw [hv, decide_eq_true hlen]
    simp only [Bool.and_self, if_true]
    cases hm : mkL l vals with
    | none => exact .inl ⟨rfl, rfl⟩
    | some x =>
      obtain ⟨h1, h2, h3⟩ := dig_mk vals x hm
      rw [← letters_is hv] at h3
      exact .inr ⟨rfl, h2, h3, by rw [values_dig hv h2 h3, h1]⟩
  · rw [decide_eq_false hlen, Bool.and_false]
    exact .inl ⟨rfl, rfl⟩

/-- The signals of one side have the same values in two letters, as far as k. -/
def sameB (l : List Sig) (q : Bool) (a b : Int) (k : Nat) : Bool := (List.range k).all fun j => !((l.getD j sig0).inp == q) || (valueI l a j == valueI l b j)

theorem sameB_succ (l : List Sig) (q : Bool) (a b : Int) (k : Nat) (hk : k < l.length) : sameB l q a b (k + 1) = (sameB l q a b k && (!(l[k].inp == q) || (valueI l a k == valueI l b k))) := by
  unfold sameB
  rw [range_all_succ, getD_lt _ _ _ hk]

theorem same_law {l : List Sig} (hv : validS l = true) (q : Bool) {a b : Int} (ha0 : 0 ≤ a) (ha1 : a < lettersI l) (hb0 : 0 ≤ b) (hb1 : b < lettersI l) :
    sameB l q a b l.length = (halfI l q a == halfI l q b) := by
  obtain ⟨hz, hl1, hl6, hp⟩ := valid_sizes hv
  rw [halfI, if_pos ⟨ha0, ha1⟩, halfI, if_pos ⟨hb0, hb1⟩, Bool.eq_iff_iff, beq_iff_eq, half_same q hz a b]
  simp only [sameB, List.all_eq_true, List.mem_range, Bool.or_eq_true, Bool.not_eq_true', beq_eq_false_iff_ne, beq_iff_eq]
  constructor
  · intro h k hk hq
    have := h k hk
    rw [← values_dig hv ha0 ha1, ← values_dig hv hb0 hb1, values_get l a k hk, values_get l b k hk]
    rcases this with h1 | h1
    · exact absurd hq h1
    · exact h1
  · intro h k hk
    by_cases hq : (l.getD k sig0).inp = q
    · refine .inr ?_
      have := h k hk hq
      rwa [← values_dig hv ha0 ha1, ← values_dig hv hb0 hb1, values_get l a k hk, values_get l b k hk] at this
    · exact .inl hq

/-- Raising one value. -/
theorem up_law {l : List Sig} (hv : validS l = true) {a : Int} (h0 : 0 ≤ a) (h1 : a < lettersI l) {i : Nat} (hi : i < l.length) :
    ((mkR l (upV (valuesI l a) i)) = (0, false) ∧ valueI l a i + 1 = l[i].size) ∨
    (∃ b, mkR l (upV (valuesI l a) i) = (b, true) ∧ a < b ∧ b < lettersI l ∧ halfI l l[i].inp a < halfI l l[i].inp b ∧ halfI l (!l[i].inp) b = halfI l (!l[i].inp) a) := by
  obtain ⟨hz, hl1, hl6, hp⟩ := valid_sizes hv
  have hup := mk_up (l := l) (valuesI l a) i a hi (by rw [values_dig hv h0 h1]; exact mk_dig hz a h0 (by rwa [letters_is hv] at h1))
  have hlu : (upV (valuesI l a) i).length = l.length := by rw [upV, List.length_set, values_len]
  have hR : mkR l (upV (valuesI l a) i) = (match mkL l (upV (valuesI l a) i) with | some x => (x, true) | none => (0, false)) := by
    rw [mkR, hv, hlu, decide_eq_true rfl]; rfl
  have hvl := value_lt hv a i hi
  rw [values_get l a i hi, getD_lt _ _ _ hi] at hup
  by_cases hc : valueI l a i + 1 < l[i].size
  · rw [if_pos hc] at hup
    refine .inr ⟨a + prodL (l.take i), by rw [hR, hup], ?_⟩
    have hpos := prodL_pos (l := l.take i) (fun s hs => hz s (List.mem_of_mem_take hs))
    obtain ⟨e1, e2, e3⟩ := dig_mk _ _ hup
    rw [← letters_is hv] at e3
    have hx : ∀ q, halfI l q (a + prodL (l.take i)) = halfI l q a + if (l[i].inp == q) = true then prodC (fun s => s.inp == q) (l.take i) else 0 := fun q => by
      rw [halfI, if_pos ⟨e2, e3⟩, halfI, if_pos ⟨h0, h1⟩, half_dig, e1, half_up q _ i hi (by rw [values_len]), half_dig q l a, values_dig hv h0 h1, getD_lt _ _ _ hi]
    have hcp := prodC_pos (fun s => s.inp == l[i].inp) (l := l.take i) (fun s hs => hz s (List.mem_of_mem_take hs))
    refine ⟨by omega, e3, ?_, ?_⟩
    · rw [hx, if_pos (by simp)]; omega
    · rw [hx, if_neg (by cases l[i].inp <;> simp)]; omega
  · rw [if_neg hc] at hup
    exact .inl ⟨by rw [hR, hup], by omega⟩

end Go.Proofs.YtlfackilmpnlhaaDoor
