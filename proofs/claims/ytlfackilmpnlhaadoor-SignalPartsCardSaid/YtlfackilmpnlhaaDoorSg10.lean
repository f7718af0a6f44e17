/- What the reference's Inputs, Outputs and Letters compute. -/
import Derived.Test.YtlfackilmpnlhaaDoorSg8
import Derived.Test.YtlfackilmpnlhaaDoorSg9
namespace Go.Proofs.YtlfackilmpnlhaaDoor
open Go.RowKit

theorem side_in (l : List Sig) : sideI l true = inputsI l := by
  unfold sideI inputsI
  rw [show (fun s : Sig => s.inp == true) = fun s => s.inp from funext fun s => by simp]
theorem side_out (l : List Sig) : sideI l false = outputsI l := by
  unfold sideI outputsI
  rw [show (fun s : Sig => s.inp == false) = fun s => !s.inp from funext fun s => by simp]

theorem RInputs_c (w : World) (vl : Value) (l : List Sig) (hl : IsSigs w vl l) : Calls Tryd.prog 22 #[vl] w (Calm (.int .i64 (inputsI l)) w) := by
  have h := side_c w vl l true hl
  rw [side_in] at h
  obtain ⟨ao, cap, b, off, rfl, hl⟩ := hl
  have H := Lib.hid h
  clear h hl
  go_enter Tryd.func22, Tryd.ntmps22
  go_wp2_with fail
  refine H.out.mono ?_
  rintro e w1 ⟨rfl, hb⟩
  go_wp2
  go_ret
  exact ⟨rfl, hb⟩
theorem ROutputs_c (w : World) (vl : Value) (l : List Sig) (hl : IsSigs w vl l) : Calls Tryd.prog 24 #[vl] w (Calm (.int .i64 (outputsI l)) w) := by
  have h := side_c w vl l false hl
  rw [side_out] at h
  obtain ⟨ao, cap, b, off, rfl, hl⟩ := hl
  have H := Lib.hid h
  clear h hl
  go_enter Tryd.func24, Tryd.ntmps24
  go_wp2_with fail
  refine H.out.mono ?_
  rintro e w1 ⟨rfl, hb⟩
  go_wp2
  go_ret
  exact ⟨rfl, hb⟩

theorem letters_mul (l : List Sig) : IntKind.i64.wrap (inputsI l * outputsI l) = lettersI l := by
  unfold inputsI outputsI lettersI
  cases h : validS l
  · simp only [Bool.false_eq_true, if_false]; decide
  · simp only [if_true]
    rw [prodC_both, prodC_true]
    obtain ⟨hz, hl1, hl6, hp⟩ := valid_sizes h
    have := (prodL_bd l hz).1
    exact IntWalk.i64_in _ ⟨by omega, by omega⟩

theorem RLetters_c (w : World) (vl : Value) (l : List Sig) (hl : IsSigs w vl l) : Calls Tryd.prog 20 #[vl] w (Calm (.int .i64 (lettersI l)) w) := by
  have hI : Hid (∀ W, Below w.heap.size w W → Calls Tryd.prog 22 #[vl] W (Calm (.int .i64 (inputsI l)) W)) := fun W hW => RInputs_c W vl l (hl.below hW)
  have hO : Hid (∀ W, Below w.heap.size w W → Calls Tryd.prog 24 #[vl] W (Calm (.int .i64 (outputsI l)) W)) := fun W hW => ROutputs_c W vl l (hl.below hW)
  obtain ⟨ao, cap, b, off, rfl, hl⟩ := hl
  have hm := letters_mul l
  clear hl
  generalize inputsI l = x at *
  generalize outputsI l = y at *
  generalize lettersI l = z at *
  have HM := Lib.hid hm
  clear hm
  go_enter Tryd.func20, Tryd.ntmps20
  go_wp2_with fail
  refine (hI.out _ (Below.refl _ _)).mono ?_
  rintro e w1 ⟨rfl, hb⟩
  go_wp2_with fail
  refine (hO.out _ hb).mono ?_
  rintro e w2 ⟨rfl, hb2⟩
  have hm := HM.out
  go_wp2
  go_ret
  exact ⟨by first | rfl | (rw [HM.out]), hb.trans (hb2.mono hb.size)⟩

end Go.Proofs.YtlfackilmpnlhaaDoor
