/- What fits and the two functions right compute. -/
import Derived.Test.YtjhafakkadnfmaaC4
namespace Go.Proofs.Ytjhafakkadnfmaa
open Go.RowKit

def fitsB (g : Gm) (player : Int) (n : Nat) : Bool := (decide (player = 0) || decide (player = 1)) && validB g && decide (n = g.owner.length)

theorem fits_c (w : World) (vg : Value) (g : Gm) (player : Int) (ao : Option Addr) (n cap : Nat) (hg : IsGame w vg g) :
    Calls Try.prog 35 #[vg, .int .i64 player, .slice ao n cap] w (Calm (.bool (fitsB g player n)) w) := by
  have hgx := hg
  obtain ⟨v0, v1, v2, rfl, ⟨⟨ao0, cap0, b0, off0, rfl, g0⟩, _⟩, _⟩ := hg
  have hP : (player == 0) = true ∨ (player == 0) = false ∧ (player == 1) = true ∨ (player == 0) = false ∧ (player == 1) = false := by
    simp only [beq_iff_eq, beq_eq_false_iff_ne]; omega
  rcases hP with p0 | ⟨p0, p1⟩ | ⟨p0, p1⟩
  case inr.inr =>
    go_enter Try.func35, Try.ntmps35
    go_wp2
    go_ret
    refine ⟨ret_bool ?_, (by repeat (first | exact Below.refl _ _ | assumption | (refine belA ?_ _) | (refine belD ?_ _)))⟩
    simp at p0 p1
    simp [fitsB, p0, p1]
  all_goals
    have hfit : Hid (fitsB g player n = (validB g && decide (n = g.owner.length))) := by
      show _ = _
      first | (simp at p0; simp [fitsB, p0]; done) | (simp at p1; simp [fitsB, p1])
    cases hv : validB g
    · go_enter Try.func35, Try.ntmps35
      go_wp2_with fail
      refine (AValid_c _ _ g (hgx.below (by repeat (first | exact Below.refl _ _ | assumption | (refine belA ?_ _) | (refine belD ?_ _))))).mono ?_
      rintro e w1 ⟨rfl, hb1⟩
      rw [hv]
      go_wp2
      go_ret
      exact ⟨ret_bool (by rw [hfit.out, hv]; rfl), Below.trans (by repeat (first | exact Below.refl _ _ | assumption | (refine belA ?_ _) | (refine belD ?_ _))) (hb1.mono (by simp))⟩
    · go_enter Try.func35, Try.ntmps35
      go_wp2_with fail
      refine (AValid_c _ _ g (hgx.below (by repeat (first | exact Below.refl _ _ | assumption | (refine belA ?_ _) | (refine belD ?_ _))))).mono ?_
      rintro e w1 ⟨rfl, hb1⟩
      rw [hv]
      have d0 : w1.cell? ⟨w.heap.size, 0, none⟩ = some (Value.slice ao0 g.owner.length cap0) := boxCell 0 hb1 rfl
      go_wp2
      go_ret
      refine ⟨ret_bool ?_, Below.trans (by repeat (first | exact Below.refl _ _ | assumption | (refine belA ?_ _) | (refine belD ?_ _))) (hb1.mono (by simp))⟩
      rw [hfit.out, hv, natBeq]; rfl

def rightB (g : Gm) (n : Nat) : Bool := smallB g 24 && validB g && decide (n = g.owner.length)

end Go.Proofs.Ytjhafakkadnfmaa
