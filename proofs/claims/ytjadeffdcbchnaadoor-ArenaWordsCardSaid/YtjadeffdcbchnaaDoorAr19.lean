/- Small and Greatest of automata; equality of games, of places. -/
import Derived.Test.YtjadeffdcbchnaaDoorAr18
namespace Go.Proofs.YtjadeffdcbchnaaDoor
open Go.RowKit

def smallA (a : Au) : Bool := decide (a.next.length ≤ 60) && decide (a.prio.length ≤ 60) && a.next.all (fun s => decide (s.length ≤ 16)) && a.prio.all (fun s => decide (s.length ≤ 16))

set_option maxHeartbeats 2000000 in
theorem PSmall_c (w : World) (v : Value) (a : Au) (ha : IsAuto w v a) : Calls Tryd.prog 11 #[v] w (Calm (.bool (smallA a)) w) := by
  obtain ⟨v2, v3, rfl, -, ⟨V2, ⟨ao2, cap2, b2, off2, rfl, g2⟩, r2⟩, ⟨V3, ⟨ao3, cap3, b3, off3, rfl, g3⟩, r3⟩⟩ := ha
  have hn2 := g2.nb
  have hn3 := g3.nb
  generalize a.letters = L
  generalize a.start = St
  by_cases h0 : a.next.length ≤ 60 ∧ a.prio.length ≤ 60
  case neg =>
    have HF : Hid (smallA a = false) := by
      show _ = _
      unfold smallA
      by_cases h1 : a.next.length ≤ 60
      · rw [decide_eq_false (show ¬ a.prio.length ≤ 60 by omega)]; simp
      · rw [decide_eq_false h1]; simp
    by_cases h1 : a.next.length ≤ 60
    · go_enter Tryd.func11, Tryd.ntmps11
      go_wp2
      all_goals first | omega | (go_ret; exact ⟨ret_bool (by rw [HF.out]), (by repeat (first | exact Below.refl _ _ | assumption | (refine belA ?_ _) | (refine belD ?_ _)))⟩)
    · go_enter Tryd.func11, Tryd.ntmps11
      go_wp2
      all_goals first | omega | (go_ret; exact ⟨ret_bool (by rw [HF.out]), (by repeat (first | exact Below.refl _ _ | assumption | (refine belA ?_ _) | (refine belD ?_ _)))⟩)
  obtain ⟨h0, h1⟩ := h0
  have HS : Hid (smallA a = (a.next.all (fun s => decide (s.length ≤ 16)) && a.prio.all (fun s => decide (s.length ≤ 16)))) := by
    show _ = _
    unfold smallA
    rw [decide_eq_true h0, decide_eq_true h1]; simp
  go_enter Tryd.func11, Tryd.ntmps11
  go_upto_region 1 with (fail)
  have hB1 := bel_box (w := w) (.cells #[.int .i64 L, .int .i64 St, .slice ao2 a.next.length cap2, .slice ao3 a.prio.length cap3] 25)
  have hx := heap_alloc_new w (.cells #[.int .i64 L, .int .i64 St, .slice ao2 a.next.length cap2, .slice ao3 a.prio.length cap3] 25)
  generalize w.alloc (.cells #[.int .i64 L, .int .i64 St, .slice ao2 a.next.length cap2, .slice ao3 a.prio.length cap3] 25) = w1 at *
  have d2 := cell_of_row _ _ 2 _ _ _ hx
  have d3 := cell_of_row _ _ 3 _ _ _ hx
  clear hx
  have HB1 := Lib.hid hB1
  clear hB1
  go_wp2
  go_loop [3] (fun i => ∃ k : Nat, i = .int .i64 k ∧ k ≤ a.next.length ∧ Hid ((a.next.take k).all (fun s => decide (s.length ≤ 16)) = true)) (fun i => a.next.length - (intOf i).toNat)
  case atStart => exact ⟨0, rfl, by omega, by show _ = _; simp⟩
  case round =>
    obtain ⟨k, rfl, hk, HE⟩ := hrel
    by_cases hlt : k < a.next.length
    · obtain rfl := g2.ad (by omega)
      have c2 := cellB HB1.out (g2.el k hlt)
      obtain ⟨⟨ao, cap, b, off, hv, h3⟩, -⟩ := r2 k hlt
      rw [hv] at c2
      have hn := h3.nb
      clear hv h3
      rw [getD_lt _ _ _ hlt] at c2 hn
      have HSN := Lib.hid (all_take_succ a.next (fun s => decide (s.length ≤ 16)) k hlt)
      by_cases hs : (16 : Int) < a.next[k].length
      · have HF : Hid (smallA a = false) := by
          show _ = _
          rw [HS.out, all_false_of a.next (fun s => decide (s.length ≤ 16)) k hlt (by simp; omega)]; simp
        go_wp2
        go_ret
        exact ⟨ret_bool (by rw [HF.out]), HB1.out⟩
      · go_wp2
        go_round
        case rel => exact ⟨k + 1, by go_num, by omega, by show _ = _; rw [HSN.out, HE.out]; simp; omega⟩
        case measure => simp [intOf]; omega
    · obtain rfl : k = a.next.length := by omega
      have HN : Hid (a.next.all (fun s => decide (s.length ≤ 16)) = true) := by
        have := HE.out
        rwa [List.take_length] at this
      clear HE hlt hk
      go_wp2
      go_loop [4] (fun i => ∃ k : Nat, i = .int .i64 k ∧ k ≤ a.prio.length ∧ Hid ((a.prio.take k).all (fun s => decide (s.length ≤ 16)) = true)) (fun i => a.prio.length - (intOf i).toNat)
      case atStart => exact ⟨0, rfl, by omega, by show _ = _; simp⟩
      case round =>
        obtain ⟨k, rfl, hk, HE⟩ := hrel
        by_cases hlt : k < a.prio.length
        · obtain rfl := g3.ad (by omega)
          have c2 := cellB HB1.out (g3.el k hlt)
          obtain ⟨⟨ao, cap, b, off, hv, h3⟩, -⟩ := r3 k hlt
          rw [hv] at c2
          have hn := h3.nb
          clear hv h3
          rw [getD_lt _ _ _ hlt] at c2 hn
          have HSN := Lib.hid (all_take_succ a.prio (fun s => decide (s.length ≤ 16)) k hlt)
          by_cases hs : (16 : Int) < a.prio[k].length
          · have HF : Hid (smallA a = false) := by
              show _ = _
              rw [HS.out, all_false_of a.prio (fun s => decide (s.length ≤ 16)) k hlt (by simp; omega)]; simp
            go_wp2
            go_ret
            exact ⟨ret_bool (by rw [HF.out]), HB1.out⟩
          · go_wp2
            go_round
            case rel => exact ⟨k + 1, by go_num, by omega, by show _ = _; rw [HSN.out, HE.out]; simp; omega⟩
            case measure => simp [intOf]; omega
        · obtain rfl : k = a.prio.length := by omega
          have HF : Hid (smallA a = true) := by
            have := HE.out
            rw [List.take_length] at this
            show _ = _
            rw [HS.out, HN.out, this]; rfl
          go_wp2
          go_ret
          exact ⟨ret_bool (by rw [HF.out]), HB1.out⟩

set_option maxHeartbeats 2000000 in
theorem PGreatest_c (w : World) (v : Value) (a : Au) (ha : IsAuto w v a) (hn : a.prio.length ≤ 3000) (hr : ∀ i, (a.prio.getD i []).length ≤ 3000) : Calls Tryd.prog 25 #[v] w (Calm (.int .i64 (topA a)) w) := by
  obtain ⟨v2, v3, rfl, -, ⟨V2, ⟨ao2, cap2, b2, off2, rfl, -⟩, -⟩, ⟨V3, ⟨ao3, cap3, b3, off3, rfl, g3⟩, r3⟩⟩ := ha
  generalize a.letters = L
  generalize a.start = St
  generalize a.next.length = n2
  have HRL := Lib.hid hr
  clear hr
  go_enter Tryd.func25, Tryd.ntmps25
  go_upto_region 1 with (fail)
  have hB1 := bel_box (w := w) (.cells #[.int .i64 L, .int .i64 St, .slice ao2 n2 cap2, .slice ao3 a.prio.length cap3] 25)
  have hx := heap_alloc_new w (.cells #[.int .i64 L, .int .i64 St, .slice ao2 n2 cap2, .slice ao3 a.prio.length cap3] 25)
  generalize w.alloc (.cells #[.int .i64 L, .int .i64 St, .slice ao2 n2 cap2, .slice ao3 a.prio.length cap3] 25) = w1 at *
  have d3 := cell_of_row _ _ 3 _ _ _ hx
  clear hx
  have HB1 := Lib.hid hB1
  clear hB1
  go_wp2
  go_loopg [3, 4] a.prio.length (fun gh m i wr => ∃ k : Nat, gh = a.prio.length - k ∧ i = .int .i64 k ∧ m = .int .i64 (topK a k) ∧ k ≤ a.prio.length ∧ w1 = wr)
  case atStart => exact ⟨0, by omega, rfl, by simp [topK], by omega, rfl⟩
  case round =>
    obtain ⟨k, rfl, rfl, rfl, hk, rfl⟩ := hrel
    by_cases hlt : k < a.prio.length
    · obtain rfl := g3.ad (by omega)
      have c2 := cellB HB1.out (g3.el k hlt)
      obtain ⟨⟨ao, cap, b, off, hv, h3⟩, hI⟩ := r3 k hlt
      rw [hv] at c2
      have hrl := HRL.out k
      have HTS := Lib.hid (topK_succ a k hlt)
      generalize a.prio.getD k [] = row at *
      generalize topK a k = tk at *
      clear hv hI
      go_wp2
      go_loopg [3, 5] row.length (fun gh m i wr => ∃ j : Nat, gh = row.length - j ∧ i = .int .i64 j ∧ m = .int .i64 (maxR tk (row.take j)) ∧ j ≤ row.length ∧ w1 = wr)
      case atStart => exact ⟨0, by omega, rfl, by simp [maxR], by omega, rfl⟩
      case round =>
        obtain ⟨j, rfl, rfl, rfl, hj, rfl⟩ := hrel
        by_cases hlj : j < row.length
        · obtain rfl := h3.ad (by omega)
          have e1 := cellB HB1.out (h3.el j hlj)
          unfold ivF at e1
          have HE := Lib.hid (maxR_succ tk row j hlj)
          generalize maxR tk (row.take j) = m at *
          generalize row.getD j 0 = x at *
          go_wp2
          all_goals
            go_roundg (row.length - (j + 1))
            case rel => exact ⟨j + 1, rfl, by go_num, by rw [HE.out]; congr 1; first | omega | (simp; omega), by omega, rfl⟩
            case measure => omega
        · obtain rfl : j = row.length := by omega
          rw [List.take_length]
          go_wp2
          go_roundg (a.prio.length - (k + 1))
          case rel => exact ⟨k + 1, rfl, by go_num, by rw [HTS.out], by omega, rfl⟩
          case measure => omega
    · obtain rfl : k = a.prio.length := by omega
      rw [topK_all]
      go_wp2
      go_ret
      exact ⟨rfl, HB1.out⟩

end Go.Proofs.YtjadeffdcbchnaaDoor
