/- A valid automaton over the letters of valid signals. -/
import Derived.Test.YtjadeffdcbchnaaDoorAr10
namespace Go.Proofs.YtjadeffdcbchnaaDoor
open Go.RowKit

theorem joinT_row {l : List Sig} {i : Nat} (hi : i < (inputsI l).toNat) : (joinT l).getD i [] = (List.range (outputsI l).toNat).map fun (o : Nat) => joinI l (i : Int) (o : Int) := by
  have hlen : i < (joinT l).length := by simpa [joinT] using hi
  rw [getD_lt _ _ _ hlen]; simp only [joinT, List.getElem_map, List.getElem_range]
theorem joinT_len (l : List Sig) : (joinT l).length = (inputsI l).toNat := by simp [joinT]

theorem validA_row {a : Au} (hv : validA a = true) {s : Nat} (hs : s < a.next.length) : ((a.next.getD s []).length : Int) = a.letters ∧ ((a.prio.getD s []).length : Int) = a.letters ∧
    ∀ k : Nat, k < (a.next.getD s []).length → 0 ≤ (a.next.getD s []).getD k 0 ∧ (a.next.getD s []).getD k 0 < a.next.length := by
  simp only [validA, Bool.and_eq_true, decide_eq_true_eq] at hv
  have hr := List.all_eq_true.1 hv.2 s (List.mem_range.2 hs)
  simp only [rowA, Bool.and_eq_true, decide_eq_true_eq] at hr
  refine ⟨hr.1.1, hr.1.2, fun k hk => ?_⟩
  have hm := List.all_eq_true.1 hr.2 k (List.mem_range.2 hk)
  simp only [moveA, Bool.and_eq_true, decide_eq_true_eq] at hm
  exact hm.1.1

theorem auOK {a : Au} {l : List Sig} (hs : validS l = true) (hv : validA a = true) (he : a.letters = lettersI l) : AuOK a (joinT l) := by
  obtain ⟨⟨hi0, hi1⟩, ⟨ho0, ho1⟩⟩ := sides_bd hs
  have hv' := hv
  simp only [validA, Bool.and_eq_true, decide_eq_true_eq] at hv'
  have hjt := joinT_len l
  refine ⟨by have := hv'.1; omega, fun s h => ?_, fun s h x hx => ?_, fun s h i hi v hx => ?_, fun i hi => ?_, by omega⟩
  · obtain ⟨h1, h2, -⟩ := validA_row hv h
    omega
  · obtain ⟨k, hk, rfl⟩ := List.mem_iff_getElem.1 hx
    have h3 := (validA_row hv h).2.2 k hk
    rwa [getD_lt _ _ _ hk] at h3
  · have h1 := (validA_row hv h).1
    rw [joinT_row (by omega)] at hx
    obtain ⟨o, ho, rfl⟩ := List.mem_map.1 hx
    have ho := List.mem_range.1 ho
    have h2 := (join_law hs (i := (i : Int)) (o := (o : Int)) (by omega) (by omega) (by omega) (by omega)).1
    omega
  · rw [joinT_row (by omega), List.length_map, List.length_range]
    omega

theorem validA_pr {a : Au} (hv : validA a = true) {s : Nat} (hs : s < a.next.length) (k : Nat) (hk : k < (a.next.getD s []).length) : 0 ≤ (a.prio.getD s []).getD k 0 ∧ (a.prio.getD s []).getD k 0 ≤ 20000 := by
  simp only [validA, Bool.and_eq_true, decide_eq_true_eq] at hv
  have hr := List.all_eq_true.1 hv.2 s (List.mem_range.2 hs)
  simp only [rowA, Bool.and_eq_true, decide_eq_true_eq] at hr
  have hm := List.all_eq_true.1 hr.2 k (List.mem_range.2 hk)
  simp only [moveA, Bool.and_eq_true, decide_eq_true_eq] at hm
  exact ⟨hm.1.2, hm.2⟩

/-- The numbers of a place are small. -/
def PlW (y : Pl) : Prop := -1 ≤ y.inn ∧ -1 ≤ y.pr ∧ y.pr ≤ 20000
theorem succ_wf {a : Au} {T : List (List Int)} {y : Pl} (hv : validA a = true) (hy : PlOK a T y) : ∀ x ∈ succPl a T y, PlW x := by
  intro x hx
  have hs : y.st.toNat < a.next.length := by have := hy.st; omega
  unfold succPl at hx
  split at hx
  · obtain ⟨i, hi, rfl⟩ := List.mem_map.1 hx
    refine ⟨?_, ?_, ?_⟩
    · show -1 ≤ (i : Int); omega
    · show (-1 : Int) ≤ -1; omega
    · show (-1 : Int) ≤ 20000; omega
  · rename_i hn
    have hin := hy.inn
    obtain ⟨v, hvx, rfl⟩ := List.mem_map.1 hx
    have hvL := hy.lets _ (by omega) v hvx
    obtain ⟨h1, h2⟩ := validA_pr hv hs v.toNat (by omega)
    refine ⟨?_, ?_, h2⟩
    · show (-1 : Int) ≤ -1; omega
    · show -1 ≤ (a.prio.getD y.st.toNat []).getD v.toNat 0; omega
theorem wfP {a : Au} {T : List (List Int)} {y : Pl} (hv : validA a = true) (hT : T.length ≤ 64) (hy : PlOK a T y) (hw : PlW y) : WfP y := by
  simp only [validA, Bool.and_eq_true, decide_eq_true_eq] at hv
  have h1 := hy.st
  have h2 := hy.inn
  obtain ⟨h3, h4, h5⟩ := hw
  have h6 := hv.1.1.1.2
  refine ⟨?_, ?_, ?_⟩ <;> unfold I64 <;> omega

end Go.Proofs.YtjadeffdcbchnaaDoor
