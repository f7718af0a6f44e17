/- What parity.Valid and the reference's Valid of automata compute. -/
import Derived.Test.YtdkpdpcecjcmcaaQRdCb
namespace Go.Proofs.Ytdkpdpcecjcmcaa
open Go.RowKit

set_option maxRecDepth 100000 in
set_option maxHeartbeats 4000000 in
theorem PValid_c (w : World) (v : Value) (a : Au) (ha : IsAuto w v a) : Calls Try.prog 17 #[v] w (Calm (.bool (validA a)) w) := by
  obtain ⟨v2, v3, rfl, ⟨hL, hS⟩, ⟨V2, ⟨ao2, cap2, b2, off2, rfl, g2⟩, hr2⟩, ⟨V3, ⟨ao3, cap3, b3, off3, rfl, g3⟩, hr3⟩⟩ := ha
  have hn2 := g2.nb
  have hn3 := g3.nb
  by_cases c1 : 1 ≤ a.letters
  case neg =>
    have c1' : a.letters < 1 := by omega
    have HR : Hid (validA a = false) := by show _ = _; simp [validA, c1]
    clear c1
    go_enter Try.func17, Try.ntmps17
    go_wp2
    go_ret
    exact ⟨ret_false HR.out, (by repeat (first | exact Below.refl _ _ | assumption | (refine belA ?_ _) | (refine belD ?_ _)))⟩
  by_cases c2 : a.letters ≤ 64
  case neg =>
    have c2' : 64 < a.letters := by omega
    have HR : Hid (validA a = false) := by show _ = _; simp [validA, c2]
    clear c2
    go_enter Try.func17, Try.ntmps17
    go_wp2
    go_ret
    exact ⟨ret_false HR.out, (by repeat (first | exact Below.refl _ _ | assumption | (refine belA ?_ _) | (refine belD ?_ _)))⟩
  by_cases c3 : 1 ≤ a.next.length
  case neg =>
    have c3' : (a.next.length : Int) < 1 := by omega
    have HR : Hid (validA a = false) := by show _ = _; simp [validA, c3]
    clear c3
    go_enter Try.func17, Try.ntmps17
    go_wp2
    go_ret
    exact ⟨ret_false HR.out, (by repeat (first | exact Below.refl _ _ | assumption | (refine belA ?_ _) | (refine belD ?_ _)))⟩
  by_cases c4 : a.next.length ≤ 3000
  case neg =>
    have c4' : (3000 : Int) < a.next.length := by omega
    have c3' : (1 : Int) ≤ a.next.length := by omega
    have HR : Hid (validA a = false) := by show _ = _; simp [validA, c4]
    clear c4
    go_enter Try.func17, Try.ntmps17
    go_wp2
    go_ret
    exact ⟨ret_false HR.out, (by repeat (first | exact Below.refl _ _ | assumption | (refine belA ?_ _) | (refine belD ?_ _)))⟩
  have c3' : (1 : Int) ≤ a.next.length := by omega
  have c4' : (a.next.length : Int) ≤ 3000 := by omega
  by_cases c5 : a.prio.length = a.next.length
  case neg =>
    have c5' : ((a.prio.length : Int) != a.next.length) = true := by simp; omega
    have HR : Hid (validA a = false) := by show _ = _; simp [validA, c5]
    clear c5
    go_enter Try.func17, Try.ntmps17
    go_wp2
    go_ret
    exact ⟨ret_false HR.out, (by repeat (first | exact Below.refl _ _ | assumption | (refine belA ?_ _) | (refine belD ?_ _)))⟩
  have c5' : ((a.prio.length : Int) != a.next.length) = false := by simp; omega
  have HC5 := Lib.hid c5
  by_cases c6 : 0 ≤ a.start
  case neg =>
    have c6' : a.start < 0 := by omega
    have HR : Hid (validA a = false) := by show _ = _; simp [validA, c6]
    clear c6 c5
    go_enter Try.func17, Try.ntmps17
    go_wp2
    go_ret
    exact ⟨ret_false HR.out, (by repeat (first | exact Below.refl _ _ | assumption | (refine belA ?_ _) | (refine belD ?_ _)))⟩
  by_cases c7 : a.start < a.next.length
  case neg =>
    have c7' : (a.next.length : Int) ≤ a.start := by omega
    have HR : Hid (validA a = false) := by show _ = _; simp [validA, c7]
    clear c7 c5
    go_enter Try.func17, Try.ntmps17
    go_wp2
    go_ret
    exact ⟨ret_false HR.out, (by repeat (first | exact Below.refl _ _ | assumption | (refine belA ?_ _) | (refine belD ?_ _)))⟩
  have HV : Hid (validA a = (List.range a.next.length).all (rowA a)) := by
    show _ = _
    have h1 : decide (1 ≤ a.letters) = true := decide_eq_true c1
    have h2 : decide (a.letters ≤ 64) = true := decide_eq_true c2
    have h3 : decide (1 ≤ a.next.length) = true := decide_eq_true c3
    have h4 : decide (a.next.length ≤ 3000) = true := decide_eq_true c4
    have h5 : decide (a.prio.length = a.next.length) = true := decide_eq_true c5
    have h6 : decide (0 ≤ a.start) = true := decide_eq_true c6
    have h7 : decide (a.start < (a.next.length : Int)) = true := decide_eq_true c7
    unfold validA
    rw [h1, h2, h3, h4, h5, h6, h7]
    rfl
  have HG2 := Lib.hid g2
  have HG3 := Lib.hid g3
  have HR2 := Lib.hid hr2
  have HR3 := Lib.hid hr3
  clear c5 g2 g3 hr2 hr3
  go_enter Try.func17, Try.ntmps17
  go_upto_region 1 with (fail)
  have hb1 := bel_box (w := w) (Obj.cells #[Value.int .i64 a.letters, Value.int .i64 a.start, Value.slice ao2 a.next.length cap2, Value.slice ao3 a.prio.length cap3] 24)
  have k1 := heap_alloc_new w (Obj.cells #[Value.int .i64 a.letters, Value.int .i64 a.start, Value.slice ao2 a.next.length cap2, Value.slice ao3 a.prio.length cap3] 24)
  generalize (w.alloc (Obj.cells #[Value.int .i64 a.letters, Value.int .i64 a.start, Value.slice ao2 a.next.length cap2, Value.slice ao3 a.prio.length cap3] 24)) = w1 at *
  have HB1 := Lib.hid hb1
  have HD : Hid (w1.cell? ⟨w.heap.size, 0, none⟩ = some (Value.int .i64 a.letters) ∧ w1.cell? ⟨w.heap.size, 3, none⟩ = some (Value.slice ao3 a.prio.length cap3)) := ⟨cell_of_row _ _ 0 _ _ _ k1, cell_of_row _ _ 3 _ _ _ k1⟩
  have d0 : w1.cell? ⟨w.heap.size, 0, none⟩ = some (Value.int .i64 a.letters) := cell_of_row _ _ 0 _ _ _ k1
  have d1 : w1.cell? ⟨w.heap.size, 1, none⟩ = some (Value.int .i64 a.start) := cell_of_row _ _ 1 _ _ _ k1
  have d2 : w1.cell? ⟨w.heap.size, 2, none⟩ = some (Value.slice ao2 a.next.length cap2) := cell_of_row _ _ 2 _ _ _ k1
  have d3 : w1.cell? ⟨w.heap.size, 3, none⟩ = some (Value.slice ao3 a.prio.length cap3) := cell_of_row _ _ 3 _ _ _ k1
  clear hb1 k1
  go_wp2
  clear d0 d1 d2 d3
  go_loopg [48] a.next.length (fun gh i wr => ∃ k m : Nat, gh = a.next.length - k ∧ i = .int .i64 k ∧ k ≤ a.next.length ∧ wr = w1.drewN m ∧ Hid ((List.range k).all (rowA a) = true))
  case atStart => exact ⟨0, 0, by omega, rfl, by omega, rfl, by simp [Hid]⟩
  case round => as_aux_lemma =>
    obtain ⟨k, m, hgk, rfl, hk, rfl, HE⟩ := hrel
    have HGK := Lib.hid hgk
    clear hgk
    by_cases hlt : k < a.next.length
    · have g2 := HG2.out
      have g3 := HG3.out
      have hl3 : k < a.prio.length := by rw [HC5.out]; exact hlt
      obtain rfl := g2.ad (by omega)
      obtain rfl := g3.ad (by omega)
      have e2 : w1.cell? ⟨b2, off2 + k, none⟩ = some (V2 k) := cellB HB1.out (g2.el k hlt)
      have e3 : w1.cell? ⟨b3, off3 + k, none⟩ = some (V3 k) := cellB HB1.out (g3.el k hl3)
      obtain ⟨⟨ax, cx, bx, ox, hvx, gx⟩, -⟩ := HR2.out k hlt
      obtain ⟨⟨ay, cy, by', oy, hvy, gy⟩, -⟩ := HR3.out k hl3
      rw [hvx] at e2
      rw [hvy] at e3
      obtain ⟨d0, d3⟩ := HD.out
      have HN1 := Lib.hid (rg_all_succ (rowA a) k)
      have HF : Hid (rowA a k = false → validA a = false) := fun h => by rw [HV.out]; exact rg_all_false _ _ k hlt h
      have HRW : Hid (rowA a k = (decide (((a.next.getD k []).length : Int) = a.letters) && decide (((a.prio.getD k []).length : Int) = a.letters) && (List.range (a.next.getD k []).length).all (moveA a k))) := rfl
      have hnx := gx.nb
      clear hvx hvy
      by_cases hx : ((a.next.getD k []).length : Int) = a.letters
      case neg =>
        have hq : (((a.next.getD k []).length : Int) != a.letters) = true := by simpa using hx
        have HF2 : Hid (validA a = false) := HF.out (by rw [HRW.out, decide_eq_false hx]; rfl)
        clear hx HRW
        generalize a.next.getD k [] = rx at *
        go_wp2
        refine wp_region_quiet_lit (by kernel_rfl) (by kernel_rfl) ?_
        ((repeat (go_big_quiet_step (fail))); refine wpQuiet_nil ?_; rintro _ ⟨nq, rfl⟩)
        go_wp2
        go_ret
        exact ⟨ret_false HF2.out, HB1.out.trans ((below_draws w1 w.heap.size m).trans (below_draws _ _ nq))⟩
      by_cases hy : ((a.prio.getD k []).length : Int) = a.letters
      case neg =>
        have hq : (((a.next.getD k []).length : Int) != a.letters) = false := by simpa using hx
        have hq2 : (((a.prio.getD k []).length : Int) != a.letters) = true := by simpa using hy
        have HF2 : Hid (validA a = false) := HF.out (by rw [HRW.out, decide_eq_true hx, decide_eq_false hy]; rfl)
        clear hx hy HRW
        generalize a.next.getD k [] = rx at *
        generalize a.prio.getD k [] = ry at *
        go_wp2
        refine wp_region_quiet_lit (by kernel_rfl) (by kernel_rfl) ?_
        ((repeat (go_big_quiet_step (fail))); refine wpQuiet_nil ?_; rintro _ ⟨nq, rfl⟩)
        go_wp2
        go_ret
        exact ⟨ret_false HF2.out, HB1.out.trans ((below_draws w1 w.heap.size m).trans (below_draws _ _ nq))⟩
      have hq : (((a.next.getD k []).length : Int) != a.letters) = false := by simpa using hx
      have hq2 : (((a.prio.getD k []).length : Int) != a.letters) = false := by simpa using hy
      have hlxy : (a.prio.getD k []).length = (a.next.getD k []).length := by omega
      have HLXY := Lib.hid hlxy
      have HRW2 : Hid (rowA a k = (List.range (a.next.getD k []).length).all (moveA a k)) := by show _ = _; rw [HRW.out, decide_eq_true hx, decide_eq_true hy]; rfl
      have HMV : Hid (∀ j, moveA a k j = (decide (0 ≤ (a.next.getD k []).getD j 0) && decide ((a.next.getD k []).getD j 0 < a.next.length) && decide (0 ≤ (a.prio.getD k []).getD j 0) && decide ((a.prio.getD k []).getD j 0 ≤ 20000))) := fun _ => rfl
      clear hx hy hlxy HRW
      generalize a.next.getD k [] = rx at *
      generalize a.prio.getD k [] = ry at *
      go_wp2
      refine wp_region_quiet_lit (by kernel_rfl) (by kernel_rfl) ?_
      ((repeat (go_big_quiet_step (fail))); refine wpQuiet_nil ?_; rintro _ ⟨nq, rfl⟩)
      rw [World.drewN_drewN]
      generalize m + nq = m2
      go_wp2
      clear e2 d0 hq hq2
      have HCX : Hid (∀ j, j < rx.length → w1.cell? ⟨bx, ox + j, none⟩ = some (.int .i64 (rx.getD j 0))) := fun j hj => cellB HB1.out (gx.el j hj)
      have HCY : Hid (∀ j, j < rx.length → w1.cell? ⟨by', oy + j, none⟩ = some (.int .i64 (ry.getD j 0))) := fun j hj => cellB HB1.out (gy.el j (by rw [HLXY.out]; exact hj))
      go_loopg [71] rx.length (fun gh i wr => ∃ j : Nat, gh = rx.length - j ∧ i = .int .i64 j ∧ j ≤ rx.length ∧ wr = w1.drewN m2 ∧ Hid ((List.range j).all (moveA a k) = true))
      case atStart => exact ⟨0, by omega, rfl, by omega, rfl, by simp [Hid]⟩
      case round => as_aux_lemma =>
        obtain ⟨j, hgj, rfl, hj, rfl, HE2⟩ := hrel
        have HGJ := Lib.hid hgj
        clear hgj
        by_cases hltj : j < rx.length
        · obtain rfl := gx.ad (by omega)
          obtain rfl := gy.ad (by rw [HLXY.out]; omega)
          have c1 := HCX.out j hltj
          have c2 := HCY.out j hltj
          have HM := Lib.hid (HMV.out j)
          have HFF : Hid (moveA a k j = false → validA a = false) := fun h => HF.out (by rw [HRW2.out]; exact rg_all_false _ _ j hltj h)
          have HNN := Lib.hid (rg_all_succ (moveA a k) j)
          generalize rx.getD j 0 = x at *
          generalize ry.getD j 0 = y at *
          have HSZ : Hid ((j : Int) < ry.length) := by show _ < _; rw [HLXY.out]; omega
          have hsz := HSZ.out
          rw [HLXY.out] at e3
          by_cases q1 : 0 ≤ x
          case neg =>
            have q1' : x < 0 := by omega
            have HR9 : Hid (validA a = false) := HFF.out (by rw [HM.out, decide_eq_false q1]; rfl)
            clear q1
            go_wp2
            go_ret
            exact ⟨ret_false HR9.out, by exact (HB1.out.trans (below_draws w1 w.heap.size _))⟩
          by_cases q2 : x < a.next.length
          case neg =>
            have q2' : (a.next.length : Int) ≤ x := by omega
            have HR9 : Hid (validA a = false) := HFF.out (by rw [HM.out, decide_eq_false q2]; simp)
            clear q2
            go_wp2
            go_ret
            exact ⟨ret_false HR9.out, by exact (HB1.out.trans (below_draws w1 w.heap.size _))⟩
          by_cases q3 : 0 ≤ y
          case neg =>
            have q3' : y < 0 := by omega
            have HR9 : Hid (validA a = false) := HFF.out (by rw [HM.out, decide_eq_false q3]; simp)
            clear q3
            go_wp2
            go_ret
            exact ⟨ret_false HR9.out, by exact (HB1.out.trans (below_draws w1 w.heap.size _))⟩
          by_cases q4 : y ≤ 20000
          case neg =>
            have q4' : 20000 < y := by omega
            have HR9 : Hid (validA a = false) := HFF.out (by rw [HM.out, decide_eq_false q4]; simp)
            clear q4
            go_wp2
            go_ret
            exact ⟨ret_false HR9.out, by exact (HB1.out.trans (below_draws w1 w.heap.size _))⟩
          have HR9 : Hid (moveA a k j = true) := by show _ = _; rw [HM.out, decide_eq_true q1, decide_eq_true q2, decide_eq_true q3, decide_eq_true q4]; rfl
          go_wp2
          go_roundg (rx.length - (j + 1))
          case measure => have := HGJ.out; omega
          case rel => exact ⟨j + 1, rfl, by go_num, by omega, rfl, by show _ = _; rw [HNN.out, HE2.out, HR9.out]; rfl⟩
        · obtain rfl : j = rx.length := by omega
          go_wp2
          go_roundg (a.next.length - (k + 1))
          case measure => have := HGK.out; omega
          case rel => exact ⟨k + 1, m2, rfl, by go_num, by omega, rfl, by show _ = _; rw [HN1.out, HE.out, HRW2.out, HE2.out]; rfl⟩
    · obtain rfl : k = a.next.length := by omega
      go_wp2
      go_ret
      exact ⟨ret_true (by rw [HV.out]; exact HE.out), by exact (HB1.out.trans (below_draws w1 w.heap.size _))⟩

theorem greatest18_c (w : World) : Calls Try.prog 37 #[] w fun e w' => e = .returned (.int .i64 20000) ∧ w' = w := by
  go_enter Try.func37, Try.ntmps37
  go_wp2
  go_ret
  exact ⟨rfl, rfl⟩

set_option maxRecDepth 100000 in
set_option maxHeartbeats 4000000 in
theorem RPValid_c (w : World) (v : Value) (a : Au) (ha : IsAuto w v a) : Calls Try.prog 16 #[v] w (Calm (.bool (validA a)) w) := by
  obtain ⟨v2, v3, rfl, ⟨hL, hS⟩, ⟨V2, ⟨ao2, cap2, b2, off2, rfl, g2⟩, hr2⟩, ⟨V3, ⟨ao3, cap3, b3, off3, rfl, g3⟩, hr3⟩⟩ := ha
  have hn2 := g2.nb
  have hn3 := g3.nb
  by_cases c1 : 1 ≤ a.letters
  case neg =>
    have c1' : a.letters < 1 := by omega
    have HR : Hid (validA a = false) := by show _ = _; simp [validA, c1]
    clear c1
    go_enter Try.func16, Try.ntmps16
    go_wp2
    go_ret
    exact ⟨ret_false HR.out, (by repeat (first | exact Below.refl _ _ | assumption | (refine belA ?_ _) | (refine belD ?_ _)))⟩
  by_cases c2 : a.letters ≤ 64
  case neg =>
    have c2' : 64 < a.letters := by omega
    have HR : Hid (validA a = false) := by show _ = _; simp [validA, c2]
    clear c2
    go_enter Try.func16, Try.ntmps16
    go_wp2
    go_ret
    exact ⟨ret_false HR.out, (by repeat (first | exact Below.refl _ _ | assumption | (refine belA ?_ _) | (refine belD ?_ _)))⟩
  by_cases c3 : 1 ≤ a.next.length
  case neg =>
    have c3' : (a.next.length : Int) < 1 := by omega
    have HR : Hid (validA a = false) := by show _ = _; simp [validA, c3]
    clear c3
    go_enter Try.func16, Try.ntmps16
    go_wp2
    go_ret
    exact ⟨ret_false HR.out, (by repeat (first | exact Below.refl _ _ | assumption | (refine belA ?_ _) | (refine belD ?_ _)))⟩
  by_cases c4 : a.next.length ≤ 3000
  case neg =>
    have c4' : (3000 : Int) < a.next.length := by omega
    have c3' : (1 : Int) ≤ a.next.length := by omega
    have HR : Hid (validA a = false) := by show _ = _; simp [validA, c4]
    clear c4
    go_enter Try.func16, Try.ntmps16
    go_wp2
    go_ret
    exact ⟨ret_false HR.out, (by repeat (first | exact Below.refl _ _ | assumption | (refine belA ?_ _) | (refine belD ?_ _)))⟩
  have c3' : (1 : Int) ≤ a.next.length := by omega
  have c4' : (a.next.length : Int) ≤ 3000 := by omega
  by_cases c5 : a.prio.length = a.next.length
  case neg =>
    have c5' : ((a.prio.length : Int) != a.next.length) = true := by simp; omega
    have HR : Hid (validA a = false) := by show _ = _; simp [validA, c5]
    clear c5
    go_enter Try.func16, Try.ntmps16
    go_wp2
    go_ret
    exact ⟨ret_false HR.out, (by repeat (first | exact Below.refl _ _ | assumption | (refine belA ?_ _) | (refine belD ?_ _)))⟩
  have c5' : ((a.prio.length : Int) != a.next.length) = false := by simp; omega
  have HC5 := Lib.hid c5
  by_cases c6 : 0 ≤ a.start
  case neg =>
    have c6' : a.start < 0 := by omega
    have HR : Hid (validA a = false) := by show _ = _; simp [validA, c6]
    clear c6 c5
    go_enter Try.func16, Try.ntmps16
    go_wp2
    go_ret
    exact ⟨ret_false HR.out, (by repeat (first | exact Below.refl _ _ | assumption | (refine belA ?_ _) | (refine belD ?_ _)))⟩
  by_cases c7 : a.start < a.next.length
  case neg =>
    have c7' : (a.next.length : Int) ≤ a.start := by omega
    have HR : Hid (validA a = false) := by show _ = _; simp [validA, c7]
    clear c7 c5
    go_enter Try.func16, Try.ntmps16
    go_wp2
    go_ret
    exact ⟨ret_false HR.out, (by repeat (first | exact Below.refl _ _ | assumption | (refine belA ?_ _) | (refine belD ?_ _)))⟩
  have HV : Hid (validA a = (List.range a.next.length).all (rowA a)) := by
    show _ = _
    have h1 : decide (1 ≤ a.letters) = true := decide_eq_true c1
    have h2 : decide (a.letters ≤ 64) = true := decide_eq_true c2
    have h3 : decide (1 ≤ a.next.length) = true := decide_eq_true c3
    have h4 : decide (a.next.length ≤ 3000) = true := decide_eq_true c4
    have h5 : decide (a.prio.length = a.next.length) = true := decide_eq_true c5
    have h6 : decide (0 ≤ a.start) = true := decide_eq_true c6
    have h7 : decide (a.start < (a.next.length : Int)) = true := decide_eq_true c7
    unfold validA
    rw [h1, h2, h3, h4, h5, h6, h7]
    rfl
  have HG2 := Lib.hid g2
  have HG3 := Lib.hid g3
  have HR2 := Lib.hid hr2
  have HR3 := Lib.hid hr3
  clear c5 g2 g3 hr2 hr3
  go_enter Try.func16, Try.ntmps16
  go_upto_region 1 with (fail)
  have hb1 := bel_box (w := w) (Obj.cells #[Value.int .i64 a.letters, Value.int .i64 a.start, Value.slice ao2 a.next.length cap2, Value.slice ao3 a.prio.length cap3] 24)
  have k1 := heap_alloc_new w (Obj.cells #[Value.int .i64 a.letters, Value.int .i64 a.start, Value.slice ao2 a.next.length cap2, Value.slice ao3 a.prio.length cap3] 24)
  generalize (w.alloc (Obj.cells #[Value.int .i64 a.letters, Value.int .i64 a.start, Value.slice ao2 a.next.length cap2, Value.slice ao3 a.prio.length cap3] 24)) = w1 at *
  have HB1 := Lib.hid hb1
  have HD : Hid (w1.cell? ⟨w.heap.size, 0, none⟩ = some (Value.int .i64 a.letters) ∧ w1.cell? ⟨w.heap.size, 2, none⟩ = some (Value.slice ao2 a.next.length cap2) ∧ w1.cell? ⟨w.heap.size, 3, none⟩ = some (Value.slice ao3 a.prio.length cap3)) := ⟨cell_of_row _ _ 0 _ _ _ k1, cell_of_row _ _ 2 _ _ _ k1, cell_of_row _ _ 3 _ _ _ k1⟩
  have d0 : w1.cell? ⟨w.heap.size, 0, none⟩ = some (Value.int .i64 a.letters) := cell_of_row _ _ 0 _ _ _ k1
  have d1 : w1.cell? ⟨w.heap.size, 1, none⟩ = some (Value.int .i64 a.start) := cell_of_row _ _ 1 _ _ _ k1
  have d2 : w1.cell? ⟨w.heap.size, 2, none⟩ = some (Value.slice ao2 a.next.length cap2) := cell_of_row _ _ 2 _ _ _ k1
  have d3 : w1.cell? ⟨w.heap.size, 3, none⟩ = some (Value.slice ao3 a.prio.length cap3) := cell_of_row _ _ 3 _ _ _ k1
  clear hb1 k1
  go_wp2
  clear d0 d1 d2 d3
  go_loopg [4] a.next.length (fun gh i wr => ∃ k m : Nat, gh = a.next.length - k ∧ i = .int .i64 k ∧ k ≤ a.next.length ∧ wr = w1.drewN m ∧ Hid ((List.range k).all (rowA a) = true))
  case atStart => exact ⟨0, 0, by omega, rfl, by omega, rfl, by simp [Hid]⟩
  case round => as_aux_lemma =>
    obtain ⟨k, m, hgk, rfl, hk, rfl, HE⟩ := hrel
    have HGK := Lib.hid hgk
    clear hgk
    by_cases hlt : k < a.next.length
    · have g2 := HG2.out
      have g3 := HG3.out
      have hl3 : k < a.prio.length := by rw [HC5.out]; exact hlt
      obtain rfl := g2.ad (by omega)
      obtain rfl := g3.ad (by omega)
      have e2 : w1.cell? ⟨b2, off2 + k, none⟩ = some (V2 k) := cellB HB1.out (g2.el k hlt)
      have e3 : w1.cell? ⟨b3, off3 + k, none⟩ = some (V3 k) := cellB HB1.out (g3.el k hl3)
      obtain ⟨⟨ax, cx, bx, ox, hvx, gx⟩, -⟩ := HR2.out k hlt
      obtain ⟨⟨ay, cy, by', oy, hvy, gy⟩, -⟩ := HR3.out k hl3
      rw [hvx] at e2
      rw [hvy] at e3
      obtain ⟨d0, d2, d3⟩ := HD.out
      have HN1 := Lib.hid (rg_all_succ (rowA a) k)
      have HF : Hid (rowA a k = false → validA a = false) := fun h => by rw [HV.out]; exact rg_all_false _ _ k hlt h
      have HRW : Hid (rowA a k = (decide (((a.next.getD k []).length : Int) = a.letters) && decide (((a.prio.getD k []).length : Int) = a.letters) && (List.range (a.next.getD k []).length).all (moveA a k))) := rfl
      have hnx := gx.nb
      clear hvx hvy
      by_cases hx : ((a.next.getD k []).length : Int) = a.letters
      case neg =>
        have hq : (((a.next.getD k []).length : Int) != a.letters) = true := by simpa using hx
        have HF2 : Hid (validA a = false) := HF.out (by rw [HRW.out, decide_eq_false hx]; rfl)
        clear hx HRW
        generalize a.next.getD k [] = rx at *
        go_wp2
        refine wp_region_quiet_lit (by kernel_rfl) (by kernel_rfl) ?_
        ((repeat (go_big_quiet_step (fail))); refine wpQuiet_nil ?_; rintro _ ⟨nq, rfl⟩)
        go_wp2
        go_ret
        exact ⟨ret_false HF2.out, HB1.out.trans ((below_draws w1 w.heap.size m).trans (below_draws _ _ nq))⟩
      by_cases hy : ((a.prio.getD k []).length : Int) = a.letters
      case neg =>
        have hq : (((a.next.getD k []).length : Int) != a.letters) = false := by simpa using hx
        have hq2 : (((a.prio.getD k []).length : Int) != a.letters) = true := by simpa using hy
        have HF2 : Hid (validA a = false) := HF.out (by rw [HRW.out, decide_eq_true hx, decide_eq_false hy]; rfl)
        clear hx hy HRW
        generalize a.next.getD k [] = rx at *
        generalize a.prio.getD k [] = ry at *
        go_wp2
        refine wp_region_quiet_lit (by kernel_rfl) (by kernel_rfl) ?_
        ((repeat (go_big_quiet_step (fail))); refine wpQuiet_nil ?_; rintro _ ⟨nq, rfl⟩)
        go_wp2
        go_ret
        exact ⟨ret_false HF2.out, HB1.out.trans ((below_draws w1 w.heap.size m).trans (below_draws _ _ nq))⟩
      have hq : (((a.next.getD k []).length : Int) != a.letters) = false := by simpa using hx
      have hq2 : (((a.prio.getD k []).length : Int) != a.letters) = false := by simpa using hy
      have hlxy : (a.prio.getD k []).length = (a.next.getD k []).length := by omega
      have HLXY := Lib.hid hlxy
      have HLL := Lib.hid hx
      have HRW2 : Hid (rowA a k = (List.range (a.next.getD k []).length).all (moveA a k)) := by show _ = _; rw [HRW.out, decide_eq_true hx, decide_eq_true hy]; rfl
      have HMV : Hid (∀ j, moveA a k j = (decide (0 ≤ (a.next.getD k []).getD j 0) && decide ((a.next.getD k []).getD j 0 < a.next.length) && decide (0 ≤ (a.prio.getD k []).getD j 0) && decide ((a.prio.getD k []).getD j 0 ≤ 20000))) := fun _ => rfl
      clear hx hy hlxy HRW
      generalize a.next.getD k [] = rx at *
      generalize a.prio.getD k [] = ry at *
      go_wp2
      refine wp_region_quiet_lit (by kernel_rfl) (by kernel_rfl) ?_
      ((repeat (go_big_quiet_step (fail))); refine wpQuiet_nil ?_; rintro _ ⟨nq, rfl⟩)
      rw [World.drewN_drewN]
      generalize m + nq = m2
      go_wp2
      clear hq hq2
      rw [HLXY.out] at e3
      have HCX : Hid (∀ j, j < rx.length → w1.cell? ⟨bx, ox + j, none⟩ = some (.int .i64 (rx.getD j 0))) := fun j hj => cellB HB1.out (gx.el j hj)
      have HCY : Hid (∀ j, j < rx.length → w1.cell? ⟨by', oy + j, none⟩ = some (.int .i64 (ry.getD j 0))) := fun j hj => cellB HB1.out (gy.el j (by rw [HLXY.out]; exact hj))
      go_loopg [5] rx.length (fun gh i wr => ∃ j m3 : Nat, gh = rx.length - j ∧ i = .int .i64 j ∧ j ≤ rx.length ∧ wr = w1.drewN m3 ∧ Hid ((List.range j).all (moveA a k) = true))
      case atStart => exact ⟨0, m2, by omega, rfl, by omega, rfl, by simp [Hid]⟩
      case round => as_aux_lemma =>
        obtain ⟨j, m3, hgj, rfl, hj, rfl, HE2⟩ := hrel
        have HGJ := Lib.hid hgj
        clear hgj
        by_cases hltj : j < rx.length
        · obtain rfl := gx.ad (by omega)
          obtain rfl := gy.ad (by rw [HLXY.out]; omega)
          have c1 := HCX.out j hltj
          have c2 := HCY.out j hltj
          have hjl : (j : Int) < a.letters := by rw [← HLL.out]; omega
          have HM := Lib.hid (HMV.out j)
          have HFF : Hid (moveA a k j = false → validA a = false) := fun h => HF.out (by rw [HRW2.out]; exact rg_all_false _ _ j hltj h)
          have HNN := Lib.hid (rg_all_succ (moveA a k) j)
          generalize rx.getD j 0 = x at *
          generalize ry.getD j 0 = y at *
          by_cases q1 : 0 ≤ x
          case neg =>
            have q1' : x < 0 := by omega
            have HR9 : Hid (validA a = false) := HFF.out (by rw [HM.out, decide_eq_false q1]; simp)
            clear q1
            go_wp2
            refine wp_region_quiet_lit (by kernel_rfl) (by kernel_rfl) ?_
            ((repeat (go_big_quiet_step (fail))); refine wpQuiet_nil ?_; rintro _ ⟨nq, rfl⟩)
            go_wp2
            go_ret
            exact ⟨ret_false HR9.out, HB1.out.trans ((below_draws w1 w.heap.size m3).trans (below_draws _ _ nq))⟩
          have hd1 : decide (x < 0) = false := decide_eq_false (by omega)
          by_cases q2 : x < a.next.length
          case neg =>
            have q2' : (a.next.length : Int) ≤ x := by omega
            have HR9 : Hid (validA a = false) := HFF.out (by rw [HM.out, decide_eq_false q2]; simp)
            clear q2
            go_wp2
            refine wp_region_quiet_lit (by kernel_rfl) (by kernel_rfl) ?_
            ((repeat (go_big_quiet_step (fail))); refine wpQuiet_nil ?_; rintro _ ⟨nq, rfl⟩)
            go_wp2
            go_ret
            exact ⟨ret_false HR9.out, HB1.out.trans ((below_draws w1 w.heap.size m3).trans (below_draws _ _ nq))⟩
          have hd2 : decide ((a.next.length : Int) ≤ x) = false := decide_eq_false (by omega)
          by_cases q3 : 0 ≤ y
          case neg =>
            have q3' : y < 0 := by omega
            have HR9 : Hid (validA a = false) := HFF.out (by rw [HM.out, decide_eq_false q3]; simp)
            clear q3
            go_wp2
            refine wp_region_quiet_lit (by kernel_rfl) (by kernel_rfl) ?_
            ((repeat (go_big_quiet_step (fail))); refine wpQuiet_nil ?_; rintro _ ⟨nq, rfl⟩)
            go_wp2
            go_ret
            exact ⟨ret_false HR9.out, HB1.out.trans ((below_draws w1 w.heap.size m3).trans (below_draws _ _ nq))⟩
          have hd3 : decide (y < 0) = false := decide_eq_false (by omega)
          by_cases q4 : y ≤ 20000
          case neg =>
            have q4' : 20000 < y := by omega
            have HR9 : Hid (validA a = false) := HFF.out (by rw [HM.out, decide_eq_false q4]; simp)
            clear q4
            go_wp2
            refine wp_region_quiet_lit (by kernel_rfl) (by kernel_rfl) ?_
            ((repeat (go_big_quiet_step ((go_at_call 37; refine (greatest18_c _).mono ?_; rintro e w' ⟨rfl, rfl⟩; exact ⟨rfl, _, rfl⟩)))); refine wpQuiet_nil ?_; rintro _ ⟨nq, rfl⟩)
            go_wp2
            go_ret
            exact ⟨ret_false HR9.out, HB1.out.trans ((below_draws w1 w.heap.size m3).trans (below_draws _ _ nq))⟩
          have hd4 : decide (20000 < y) = false := decide_eq_false (by omega)
          have HR9 : Hid (moveA a k j = true) := by show _ = _; rw [HM.out, decide_eq_true q1, decide_eq_true q2, decide_eq_true q3, decide_eq_true q4]; rfl
          go_wp2
          refine wp_region_quiet_lit (by kernel_rfl) (by kernel_rfl) ?_
          ((repeat (go_big_quiet_step ((go_at_call 37; refine (greatest18_c _).mono ?_; rintro e w' ⟨rfl, rfl⟩; exact ⟨rfl, _, rfl⟩)))); refine wpQuiet_nil ?_; rintro _ ⟨nq, rfl⟩)
          rw [World.drewN_drewN]
          go_wp2
          go_roundg (rx.length - (j + 1))
          case measure => have := HGJ.out; omega
          case rel => exact ⟨j + 1, m3 + nq, rfl, by go_num, by omega, rfl, by show _ = _; rw [HNN.out, HE2.out, HR9.out]; rfl⟩
        · obtain rfl : j = rx.length := by omega
          have hjl : a.letters ≤ (rx.length : Int) := by rw [← HLL.out]; omega
          go_wp2
          go_roundg (a.next.length - (k + 1))
          case measure => have := HGK.out; omega
          case rel => exact ⟨k + 1, m3, rfl, by go_num, by omega, rfl, by show _ = _; rw [HN1.out, HE.out, HRW2.out, HE2.out]; rfl⟩
    · obtain rfl : k = a.next.length := by omega
      go_wp2
      go_ret
      exact ⟨ret_true (by rw [HV.out]; exact HE.out), by exact (HB1.out.trans (below_draws w1 w.heap.size _))⟩

end Go.Proofs.Ytdkpdpcecjcmcaa
