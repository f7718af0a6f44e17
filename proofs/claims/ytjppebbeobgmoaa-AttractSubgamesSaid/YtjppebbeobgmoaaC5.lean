/- What fits and the two functions right compute. -/
import Derived.Test.YtjppebbeobgmoaaC4
namespace Go.Proofs.Ytjppebbeobgmoaa
open Go.RowKit

def fitsB (g : Gm) (player : Int) (n : Nat) : Bool := (decide (player = 0) || decide (player = 1)) && validB g && decide (n = g.owner.length)

theorem fits_c (w : World) (vg : Value) (g : Gm) (player : Int) (ao : Option Addr) (n cap : Nat) (hg : IsGame w vg g) :
    Calls Try.prog 25 #[vg, .int .i64 player, .slice ao n cap] w (Calm (.bool (fitsB g player n)) w) := by
  have hgx := hg
  obtain ⟨v0, v1, v2, rfl, ⟨⟨ao0, cap0, b0, off0, rfl, g0⟩, _⟩, _⟩ := hg
  have hP : (player == 0) = true ∨ (player == 0) = false ∧ (player == 1) = true ∨ (player == 0) = false ∧ (player == 1) = false := by
    simp only [beq_iff_eq, beq_eq_false_iff_ne]; omega
  rcases hP with p0 | ⟨p0, p1⟩ | ⟨p0, p1⟩
  case inr.inr =>
    go_enter Try.func25, Try.ntmps25
    go_wp2
    go_ret
    refine ⟨ret_bool ?_, (by repeat (first | exact Below.refl _ _ | assumption | (refine belA ?_ _) | (refine belD ?_ _)))⟩
    simp at p0 p1
    simp [fitsB, p0, p1]
  all_goals
    have hfit : Hid (fitsB g player n = (validB g && decide (n = g.owner.length))) := by
      show _ = _
      first | (simp at p0; simp [fitsB, p0]; done) | (simp at p1; simp [fitsB, p1])
    cases hv : validB g
    · go_enter Try.func25, Try.ntmps25
      go_wp2_with fail
      refine (AValid_c _ _ g (hgx.below (by repeat (first | exact Below.refl _ _ | assumption | (refine belA ?_ _) | (refine belD ?_ _))))).mono ?_
      rintro e w1 ⟨rfl, hb1⟩
      rw [hv]
      go_wp2
      go_ret
      exact ⟨ret_bool (by rw [hfit.out, hv]; rfl), Below.trans (by repeat (first | exact Below.refl _ _ | assumption | (refine belA ?_ _) | (refine belD ?_ _))) (hb1.mono (by simp))⟩
    · go_enter Try.func25, Try.ntmps25
      go_wp2_with fail
      refine (AValid_c _ _ g (hgx.below (by repeat (first | exact Below.refl _ _ | assumption | (refine belA ?_ _) | (refine belD ?_ _))))).mono ?_
      rintro e w1 ⟨rfl, hb1⟩
      rw [hv]
      have d0 : w1.cell? ⟨w.heap.size, 0, none⟩ = some (Value.slice ao0 g.owner.length cap0) := boxCell 0 hb1 rfl
      go_wp2
      go_ret
      refine ⟨ret_bool ?_, Below.trans (by repeat (first | exact Below.refl _ _ | assumption | (refine belA ?_ _) | (refine belD ?_ _))) (hb1.mono (by simp))⟩
      rw [hfit.out, hv, natBeq]; rfl

theorem rightR_c (w : World) (vg : Value) (g : Gm) (player : Int) (ao : Option Addr) (n cap : Nat) (hg : IsGame w vg g) :
    Calls Try.prog 31 #[vg, .int .i64 player, .slice ao n cap] w (Calm (.bool (fitsB g player n)) w) := by
  have hgx := hg
  obtain ⟨v0, v1, v2, rfl, ⟨⟨ao0, cap0, b0, off0, rfl, g0⟩, _⟩, _⟩ := hg
  cases hv : validB g
  · go_enter Try.func31, Try.ntmps31
    go_wp2_with fail
    refine (RValid_c _ _ g (hgx.below (by repeat (first | exact Below.refl _ _ | assumption | (refine belA ?_ _) | (refine belD ?_ _))))).mono ?_
    rintro e w1 ⟨rfl, hb1⟩
    rw [hv]
    go_wp2
    go_ret
    exact ⟨ret_bool (by simp [fitsB, hv]), Below.trans (by repeat (first | exact Below.refl _ _ | assumption | (refine belA ?_ _) | (refine belD ?_ _))) (hb1.mono (by simp))⟩
  have hP : (player == 0) = true ∨ (player == 0) = false ∧ (player == 1) = true ∨ (player == 0) = false ∧ (player == 1) = false := by
    simp only [beq_iff_eq, beq_eq_false_iff_ne]; omega
  rcases hP with p0 | ⟨p0, p1⟩ | ⟨p0, p1⟩
  case inr.inr =>
    go_enter Try.func31, Try.ntmps31
    go_wp2_with fail
    refine (RValid_c _ _ g (hgx.below (by repeat (first | exact Below.refl _ _ | assumption | (refine belA ?_ _) | (refine belD ?_ _))))).mono ?_
    rintro e w1 ⟨rfl, hb1⟩
    rw [hv]
    go_wp2
    go_ret
    refine ⟨ret_bool ?_, Below.trans (by repeat (first | exact Below.refl _ _ | assumption | (refine belA ?_ _) | (refine belD ?_ _))) (hb1.mono (by simp))⟩
    simp at p0 p1
    simp [fitsB, p0, p1]
  all_goals
    have hfit : Hid (fitsB g player n = (validB g && decide (n = g.owner.length))) := by
      show _ = _
      first | (simp at p0; simp [fitsB, p0]; done) | (simp at p1; simp [fitsB, p1])
    go_enter Try.func31, Try.ntmps31
    go_wp2_with fail
    refine (RValid_c _ _ g (hgx.below (by repeat (first | exact Below.refl _ _ | assumption | (refine belA ?_ _) | (refine belD ?_ _))))).mono ?_
    rintro e w1 ⟨rfl, hb1⟩
    rw [hv]
    have d0 : w1.cell? ⟨w.heap.size, 0, none⟩ = some (Value.slice ao0 g.owner.length cap0) := boxCell 0 hb1 rfl
    go_wp2
    go_ret
    refine ⟨ret_bool ?_, Below.trans (by repeat (first | exact Below.refl _ _ | assumption | (refine belA ?_ _) | (refine belD ?_ _))) (hb1.mono (by simp))⟩
    rw [hfit.out, hv, natBeq]; rfl

def rightB (g : Gm) (n : Nat) : Bool := smallB g 24 && validB g && decide (n = g.owner.length)

theorem right_c (w : World) (vg : Value) (g : Gm) (ao : Option Addr) (n cap : Nat) (hg : IsGame w vg g) :
    Calls Try.prog 19 #[vg, .slice ao n cap] w (Calm (.bool (rightB g n)) w) := by
  have hgx := hg
  obtain ⟨v0, v1, v2, rfl, ⟨⟨ao0, cap0, b0, off0, rfl, g0⟩, _⟩, ⟨⟨ao1, cap1, b1, off1, rfl, g1⟩, _⟩, ⟨V, ⟨ao2, cap2, b2, off2, rfl, g2⟩, hr⟩⟩ := hg
  clear g0 g1 g2 hr
  cases hs : smallB g 24
  · go_enter Try.func19, Try.ntmps19
    go_wp2_with fail
    refine (Small_c _ _ g 24 (hgx.below (by repeat (first | exact Below.refl _ _ | assumption | (refine belA ?_ _) | (refine belD ?_ _))))).mono ?_
    rintro e w1 ⟨rfl, hb1⟩
    rw [hs]
    go_wp2
    go_ret
    exact ⟨ret_bool (by simp [rightB, hs]), Below.trans (by repeat (first | exact Below.refl _ _ | assumption | (refine belA ?_ _) | (refine belD ?_ _))) (hb1.mono (by simp))⟩
  cases hv : validB g
  all_goals
    go_enter Try.func19, Try.ntmps19
    go_wp2_with fail
    refine (Small_c _ _ g 24 (hgx.below (by repeat (first | exact Below.refl _ _ | assumption | (refine belA ?_ _) | (refine belD ?_ _))))).mono ?_
    rintro e w1 ⟨rfl, hb1⟩
    rw [hs]
    have d0 : w1.cell? ⟨w.heap.size, 0, none⟩ = some (Value.slice ao0 g.owner.length cap0) := boxCell 0 hb1 rfl
    have d1 : w1.cell? ⟨w.heap.size, 1, none⟩ = some (Value.slice ao1 g.prio.length cap1) := boxCell 1 hb1 rfl
    have d2 : w1.cell? ⟨w.heap.size, 2, none⟩ = some (Value.slice ao2 g.succ.length cap2) := boxCell 2 hb1 rfl
    have hbx : Below w.heap.size w w1 := Below.trans (by repeat (first | exact Below.refl _ _ | assumption | (refine belA ?_ _) | (refine belD ?_ _))) (hb1.mono (by simp))
    go_wp2_with fail
    refine (RValid_c _ _ g (hgx.below hbx)).mono ?_
    rintro e w2 ⟨rfl, hb2⟩
    rw [hv]
    have d3 := cellB hb2 d0
    have hby : Below w.heap.size w w2 := hbx.trans (hb2.mono hbx.size)
    clear d0 d1 d2
  · go_wp2
    go_ret
    exact ⟨ret_bool (by simp [rightB, hv]), hby⟩
  · go_wp2
    go_ret
    exact ⟨ret_bool (by rw [rightB, hs, hv, natBeq]; rfl), hby⟩

end Go.Proofs.Ytjppebbeobgmoaa
