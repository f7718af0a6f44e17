/- Which measure comes before which. -/
import Derived.Test.YtijkjhcigdfdgaaQRkP5
namespace Go.Proofs.Ytijkjhcigdfdgaa
open Go.RowKit

def befB (a b : List Int) : Bool := if a = [] ∨ b = [] then decide (a ≠ []) else decide (cmpL a b < 0)
theorem bef_iff {mo : List Nat} {a b : List Int} (ha : meB mo a = true) (hb : meB mo b = true) : befB a b = decide (cdN mo a < cdN mo b) := by
  unfold befB
  have h1 := cd_le ha
  have h2 := cd_le hb
  by_cases na : a = []
  · rw [if_pos (.inl na)]
    have := (cd_top ha).2 na
    rw [decide_eq_false (by simp [na]), decide_eq_false (by omega)]
  · have t1 : cdN mo a ≠ topN mo := fun e => na ((cd_top ha).1 e)
    by_cases nb : b = []
    · rw [if_pos (.inr nb)]
      have := (cd_top hb).2 nb
      rw [decide_eq_true na, decide_eq_true (by omega)]
    · rw [if_neg (by simp [na, nb])]
      have la : ∀ {l : List Int}, meB mo l = true → l ≠ [] → (∀ i, i < mo.length → 0 ≤ l.getD i 0 ∧ (l.getD i 0).toNat ≤ mo.getD i 0) ∧ ((mo = [] ∧ l = [0]) ∨ l.length = mo.length) := by
        intro l h hn
        rcases meB_iff.1 h with h | ⟨h, h'⟩ | ⟨-, h, h'⟩
        · exact absurd h hn
        · subst h; exact ⟨fun i hi => by simp at hi, .inl ⟨rfl, h'⟩⟩
        · exact ⟨fun i hi => by have := h' i hi; omega, .inr h⟩
      obtain ⟨a1, a2⟩ := la ha na
      obtain ⟨b1, b2⟩ := la hb nb
      unfold cdN
      rw [if_neg na, if_neg nb]
      by_cases hmo : mo = []
      · subst hmo
        have ea : a = [0] := by
          rcases a2 with h | h
          · exact h.2
          · exact absurd (List.length_eq_zero_iff.1 h) na
        have eb : b = [0] := by
          rcases b2 with h | h
          · exact h.2
          · exact absurd (List.length_eq_zero_iff.1 h) nb
        subst ea eb
        rfl
      · have ea : a.length = mo.length := a2.resolve_left fun h => hmo h.1
        have eb : b.length = mo.length := b2.resolve_left fun h => hmo h.1
        have := cmp_take a1 b1 mo.length (Nat.le_refl _) (by omega) (by omega)
        rw [List.take_of_length_le (by omega), List.take_of_length_le (by omega)] at this
        rw [this]
        by_cases h : preN mo (fun i => (a.getD i 0).toNat) mo.length < preN mo (fun i => (b.getD i 0).toNat) mo.length
        · rw [if_pos h, decide_eq_true h]; rfl
        · rw [if_neg h, decide_eq_false h]
          split <;> rfl

theorem befC_c (w : World) (x y : Int) : Calls Try.prog 52 #[.int .i64 x, .int .i64 y] w (Quiet (.bool (decide (x < y))) w) := by
  go_enter Try.func52, Try.ntmps52
  go_wp2
  go_ret
  exact ⟨rfl, 0, rfl⟩

set_option maxRecDepth 100000 in
theorem befD_c (w : World) (va vb : Value) (a b : List Int) (ha : IsInts w va a) (hb : IsInts w vb b) :
    Calls Try.prog 94 #[va, vb] w (Quiet (.bool (befB a b)) w) := by
  have HC : Hid (∀ n, Calls Try.prog 75 #[va, vb] (w.drewN n) (Quiet (.int .i64 (cmpL a b)) (w.drewN n))) := fun n => compare_c _ _ _ _ _ (ha.below (below_draws _ _ _)) (hb.below (below_draws _ _ _))
  obtain ⟨aa, ca, rfl⟩ := ha.shape
  obtain ⟨ab, cb, rfl⟩ := hb.shape
  clear ha hb
  by_cases h1 : a.length = 0
  · have t1 : ((a.length : Int) == 0) = true := by rw [beq_iff_eq]; omega
    have t2 : decide ((0 : Int) < (a.length : Int)) = false := decide_eq_false (by omega)
    have t3 : decide (0 < a.length) = false := decide_eq_false (by omega)
    have HE : Hid (befB a b = false) := by
      show _ = _
      unfold befB; rw [List.length_eq_zero_iff.1 h1, if_pos (.inl rfl)]; rfl
    clear h1
    go_enter Try.func94, Try.ntmps94
    go_wp2
    go_ret
    exact ⟨ret_bool HE.out.symm, 0, rfl⟩
  have t1 : ((a.length : Int) == 0) = false := by rw [beq_eq_false_iff_ne]; omega
  have na : a ≠ [] := fun e => h1 (by rw [e]; rfl)
  by_cases h2 : b.length = 0
  · have t4 : ((b.length : Int) == 0) = true := by rw [beq_iff_eq]; omega
    have t2 : decide ((0 : Int) < (a.length : Int)) = true := decide_eq_true (by omega)
    have t3 : decide (0 < a.length) = true := decide_eq_true (by omega)
    have HE : Hid (befB a b = true) := by
      show _ = _
      unfold befB; rw [List.length_eq_zero_iff.1 h2, if_pos (.inr rfl)]; exact decide_eq_true na
    clear h1 h2 na
    go_enter Try.func94, Try.ntmps94
    go_wp2
    go_ret
    exact ⟨ret_bool HE.out.symm, 0, rfl⟩
  have t4 : ((b.length : Int) == 0) = false := by rw [beq_eq_false_iff_ne]; omega
  have HE : Hid (befB a b = decide (cmpL a b < 0)) := by
    show _ = _
    unfold befB; rw [if_neg]
    rintro (h | h)
    · exact na h
    · rw [h] at h2; exact h2 rfl
  clear h1 h2 na
  generalize cmpL a b = c at *
  go_enter Try.func94, Try.ntmps94
  go_wp2_with fail
  refine (HC.out 0).mono ?_
  rintro e w1 ⟨rfl, n1, rfl⟩
  go_wp2
  go_ret
  exact ⟨ret_bool HE.out.symm, _, rfl⟩

end Go.Proofs.Ytijkjhcigdfdgaa
