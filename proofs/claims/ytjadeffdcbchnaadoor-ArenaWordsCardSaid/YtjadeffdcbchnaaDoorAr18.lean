/- What Build computes, for any input. -/
import Derived.Test.YtjadeffdcbchnaaDoorAr15
namespace Go.Proofs.YtjadeffdcbchnaaDoor
open Go.RowKit

/-- The input is wrong. -/
def badB (a : Au) (l : List Sig) (most : Int) : Bool := !validS l || !validA a || (a.letters != lettersI l) || decide (most < 1) || decide (3000 < most)
/-- The game, the places, the error. -/
def buildE (a : Au) (l : List Sig) (most : Int) : Gm × List Pl × Int :=
  if badB a l most then (⟨[], [], []⟩, [], 1) else match buildP a l most.toNat with | some pls => (plGm (succPl a (joinT l)) (topA a) pls pls.length, pls, 0) | none => (⟨[], [], []⟩, [], 2)
def GPE (r : Gm × List Pl × Int) (w : World) (e : Ending) (w' : World) : Prop := ∃ vg vp, e = .returned (.tuple #[vg, vp, .int .i64 r.2.2]) ∧ IsGame w' vg r.1 ∧ IsPls w' vp r.2.1 ∧ Below w.heap.size w w'
theorem game_nil (w : World) : IsGame w (.agg #[.slice none 0 0, .slice none 0 0, .slice none 0 0]) ⟨[], [], []⟩ := ⟨_, _, _, rfl, ints_nil w, ints_nil w, rows_nil w⟩

theorem Build_c (w : World) (vl va : Value) (l : List Sig) (a : Au) (most : Int) (hK : Keys w) (hl : IsSigs w vl l) (ha : IsAuto w va a) :
    Calls Tryd.prog 13 #[vl, va, .int .i64 most] w (GPE (buildE a l most) w) := by
  have bad : badB a l most = true → (Calls Tryd.prog 13 #[vl, va, .int .i64 most] w fun e w' => e = .returned (.tuple #[.agg #[.slice none 0 0, .slice none 0 0, .slice none 0 0], .slice none 0 0, .int .i64 1]) ∧ Below w.heap.size w w') →
      Calls Tryd.prog 13 #[vl, va, .int .i64 most] w (GPE (buildE a l most) w) := fun hb h => h.mono fun e w' ⟨he, hw⟩ => by
    unfold buildE
    rw [if_pos hb]
    exact ⟨_, _, he, game_nil _, IsPls_nil _, hw⟩
  cases h0 : validS l
  · exact bad (by simp [badB, h0]) (Build_bad0 w vl va l a most hK hl ha h0)
  cases h1 : validA a
  · exact bad (by simp [badB, h1]) (Build_bad1 w vl va l a most hK hl ha h0 h1)
  rcases Bool.eq_false_or_eq_true (a.letters != lettersI l) with h2 | h2
  · exact bad (by simp [badB, h2]) (Build_bad2 w vl va l a most hK hl ha h0 h1 h2)
  rcases Bool.eq_false_or_eq_true (decide (most < 1)) with h3 | h3
  · exact bad (by simp [badB, h3]) (Build_bad3 w vl va l a most hK hl ha h0 h1 h2 h3)
  rcases Bool.eq_false_or_eq_true (decide (3000 < most)) with h4 | h4
  · exact bad (by simp [badB, h4]) (Build_bad4 w vl va l a most hK hl ha h0 h1 h2 h3 h4)
  have h5 := of_decide_eq_false h3
  obtain ⟨m, rfl⟩ := Int.eq_ofNat_of_zero_le (show 0 ≤ most by omega)
  refine (Build_ok w vl va l a m hK hl ha h0 h1 h2 h3 h4).mono fun e w' h => ?_
  unfold buildE
  rw [if_neg (by simp [badB, h0, h1, h2, h3, h4]), Int.toNat_natCast]
  unfold BuildOut at h
  split at h
  · obtain ⟨vg, vp, he, hg, hp, hb⟩ := h
    rename_i pls hp'
    rw [hp']
    exact ⟨vg, vp, he, hg, hp, hb⟩
  · rename_i hp'
    rw [hp']
    exact ⟨_, _, h.1, game_nil _, IsPls_nil _, h.2⟩

end Go.Proofs.YtjadeffdcbchnaaDoor
