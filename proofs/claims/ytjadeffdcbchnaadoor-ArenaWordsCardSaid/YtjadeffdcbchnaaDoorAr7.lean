/- The board's position of a place, and its iterator of the places that follow. -/
import Derived.Test.YtjadeffdcbchnaaDoorAr2
import Derived.Test.YtjadeffdcbchnaaDoorAr5
namespace Go.Proofs.YtjadeffdcbchnaaDoor
open Go.RowKit

/-- A board's value. -/
def IsBoard (w : World) (v : Value) (a : Au) (l : List Sig) : Prop := ∃ v2 v3 vt, v = .agg #[.int .i64 a.letters, .int .i64 a.start, v2, v3, .int .i64 (topA a), vt] ∧ IsRows w v2 a.next ∧ IsRows w v3 a.prio ∧ IsRows w vt (joinT l)
theorem IsBoard.below {w wr : World} {v : Value} {a : Au} {l : List Sig} (h : IsBoard w v a l) (hb : Below w.heap.size w wr) : IsBoard wr v a l := by
  obtain ⟨v2, v3, vt, rfl, h2, h3, h4⟩ := h
  exact ⟨v2, v3, vt, rfl, h2.below hb, h3.below hb, h4.below hb⟩
theorem BoardOut.is {w w' : World} {va : Value} {a : Au} {l : List Sig} {e : Ending} (h : BoardOut va a l w e w') (ha : IsAuto w va a) : ∃ vb, e = .returned vb ∧ IsBoard w' vb a l ∧ Below w.heap.size w w' := by
  obtain ⟨v2, v3, vt, rfl, rfl, ht, hb⟩ := h
  obtain ⟨x2, x3, e, -, h2, h3⟩ := ha
  obtain ⟨rfl, rfl⟩ : v2 = x2 ∧ v3 = x3 := by simpa using e
  exact ⟨_, rfl, ⟨_, _, _, rfl, h2.below hb, h3.below hb, ht⟩, hb⟩

set_option maxHeartbeats 2000000 in
theorem position_c (w : World) (vb : Value) (a : Au) (l : List Sig) (y : Pl) (hb : IsBoard w vb a l) :
    Calls Tryd.prog 42 #[vb, plV y] w fun e w' => e = .returned (.tuple #[.int .i64 (plOwn y), .int .i64 (plPri (topA a) y)]) ∧ Below w.heap.size w w' := by
  obtain ⟨v2, v3, vt, rfl, ⟨V2, ⟨ao2, cap2, b2, off2, rfl, -⟩, -⟩, ⟨V3, ⟨ao3, cap3, b3, off3, rfl, -⟩, -⟩, ⟨VT, ⟨aot, capt, bt, offt, rfl, -⟩, -⟩⟩ := hb
  generalize topA a = tp
  generalize a.letters = L
  generalize a.start = St
  obtain ⟨st, inn, pr⟩ := y
  unfold plV
  by_cases hy : inn < 0
  · have e1 : Hid (plOwn ⟨st, inn, pr⟩ = 1) := if_pos hy
    have e2 : Hid (plPri tp ⟨st, inn, pr⟩ = pr) := if_pos hy
    have e3 : decide (inn < 0) = true := by simpa using hy
    go_enter Tryd.func42, Tryd.ntmps42
    go_wp2
    refine wp_region_quiet_lit (by kernel_rfl) (by kernel_rfl) ?_
    ((repeat (go_big_quiet_step (fail))); refine wpQuiet_nil ?_; rintro _ ⟨nq, rfl⟩)
    go_wp2_with fail
    go_ret2
    rw [e1.out, e2.out]
    exact ⟨rfl, (by repeat (first | exact Below.refl _ _ | assumption | (refine belA ?_ _) | (refine belD ?_ _)))⟩
  · have e1 : Hid (plOwn ⟨st, inn, pr⟩ = 0) := if_neg hy
    have e2 : Hid (plPri tp ⟨st, inn, pr⟩ = tp) := if_neg hy
    have e3 : decide (inn < 0) = false := by simpa using hy
    go_enter Tryd.func42, Tryd.ntmps42
    go_wp2
    refine wp_region_quiet_lit (by kernel_rfl) (by kernel_rfl) ?_
    ((repeat (go_big_quiet_step (fail))); refine wpQuiet_nil ?_; rintro _ ⟨nq, rfl⟩)
    go_wp2_with fail
    go_ret2
    rw [e1.out, e2.out]
    exact ⟨rfl, (by repeat (first | exact Below.refl _ _ | assumption | (refine belA ?_ _) | (refine belD ?_ _)))⟩

/-- The cells of a board and of a place. -/
def plC (y : Pl) : Array Value := #[.int .i64 y.st, .int .i64 y.inn, .int .i64 y.pr]

theorem next_c (w : World) (L St tp : Int) (ao2 ao3 aot : Option Addr) (n2 cap2 n3 cap3 nt capt : Nat) (y : Pl) :
    Calls Tryd.prog 41 #[.agg #[.int .i64 L, .int .i64 St, .slice ao2 n2 cap2, .slice ao3 n3 cap3, .int .i64 tp, .slice aot nt capt], plV y] w fun e w' =>
      e = .returned (.func (.func 66) #[] #[.pointer (some ⟨w.heap.size + 1, 0, none⟩), .pointer (some ⟨w.heap.size, 0, none⟩)]) ∧
      w' = (w.alloc (.cells #[.int .i64 L, .int .i64 St, .slice ao2 n2 cap2, .slice ao3 n3 cap3, .int .i64 tp, .slice aot nt capt] 70)).alloc (.cells (plC y) 48) := by
  unfold plV plC
  go_enter Tryd.func41, Tryd.ntmps41
  go_wp2
  go_ret
  exact ⟨rfl, rfl⟩

end Go.Proofs.YtjadeffdcbchnaaDoor
