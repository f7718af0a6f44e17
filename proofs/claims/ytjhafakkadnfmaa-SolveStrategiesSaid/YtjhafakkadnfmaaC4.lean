/- What the reference's Valid computes. -/
import Derived.Test.YtjhafakkadnfmaaC3
namespace Go.Proofs.Ytjhafakkadnfmaa
open Go.RowKit

theorem greatest_c (w : World) : Calls Try.prog 51 #[] w fun e w' => e = .returned (.int .i64 30000) ∧ w' = w := by
  go_enter Try.func51, Try.ntmps51
  go_wp2
  go_ret
  exact ⟨rfl, rfl⟩

set_option maxRecDepth 100000 in
set_option maxHeartbeats 4000000 in
theorem RValid_c (w : World) (vg : Value) (g : Gm) (hg : IsGame w vg g) :
    Calls Try.prog 32 #[vg] w (Calm (.bool (validB g)) w) := by
  obtain ⟨v0, v1, v2, rfl, ⟨⟨ao0, cap0, b0, off0, rfl, g0⟩, _⟩, ⟨⟨ao1, cap1, b1, off1, rfl, g1⟩, _⟩, ⟨V, ⟨ao2, cap2, b2, off2, rfl, g2⟩, hr⟩⟩ := hg
  have hn0 := g0.nb
  have hn1 := g1.nb
  have hn2 := g2.nb
  by_cases h1 : g.owner.length ≤ 3000
  case neg =>
    go_enter Try.func32, Try.ntmps32
    go_wp2
    go_ret
    refine ⟨ret_bool ?_, (by repeat (first | exact Below.refl _ _ | assumption | (refine belA ?_ _) | (refine belD ?_ _)))⟩
    simp [validB, h1]
  by_cases h2 : g.prio.length = g.owner.length
  case neg =>
    have hne : ((g.prio.length : Int) != g.owner.length) = true := by simp; omega
    go_enter Try.func32, Try.ntmps32
    go_wp2
    go_ret
    refine ⟨ret_bool ?_, (by repeat (first | exact Below.refl _ _ | assumption | (refine belA ?_ _) | (refine belD ?_ _)))⟩
    simp [validB, h2]
  by_cases h3 : g.succ.length = g.owner.length
  case neg =>
    have hne : ((g.prio.length : Int) != g.owner.length) = false := by simp; omega
    have hne2 : ((g.succ.length : Int) != g.owner.length) = true := by simp; omega
    have H2 := Lib.hid h2
    clear h2
    go_enter Try.func32, Try.ntmps32
    go_wp2
    go_ret
    refine ⟨ret_bool ?_, (by repeat (first | exact Below.refl _ _ | assumption | (refine belA ?_ _) | (refine belD ?_ _)))⟩
    simp [validB, h3]
  have hne : ((g.prio.length : Int) != g.owner.length) = false := by simp; omega
  have hne2 : ((g.succ.length : Int) != g.owner.length) = false := by simp; omega
  have H2 := Lib.hid h2
  have H3 := Lib.hid h3
  clear h2 h3
  have hI : ((g.owner.length : Int)) ≤ 3000 := by omega
  have H1 := Lib.hid h1
  clear h1 hn0 hn1 hn2
  go_enter Try.func32, Try.ntmps32
  go_wp2
  clear hne hne2
  go_loopg [2, 4, 5] g.owner.length (fun gh r i _ wr => ∃ k : Nat, gh = g.owner.length - k ∧ i = .int .i64 k ∧ r = .bool false ∧ Below w.heap.size w wr ∧ wr.heap[w.heap.size]? = some (.cells #[Value.slice ao0 g.owner.length cap0, Value.slice ao1 g.prio.length cap1, Value.slice ao2 g.succ.length cap2] 25 (0, 0)) ∧ k ≤ g.owner.length ∧ Hid (∀ i, i < k → okB g i = true))
  case atStart => exact ⟨0, rfl, rfl, rfl, (by repeat (first | exact Below.refl _ _ | assumption | (refine belA ?_ _) | (refine belD ?_ _))), heap_alloc_new _ _, by omega, fun i hi => absurd hi (by omega)⟩
  case round =>
    obtain ⟨k, hgk, rfl, rfl, hB, hbox, hk, HE⟩ := hrel
    have HG := Lib.hid hgk
    clear hgk
    have d0 : wr.cell? ⟨w.heap.size, 0, none⟩ = some (Value.slice ao0 g.owner.length cap0) := cell_of_row _ _ 0 _ _ _ hbox
    have d1 : wr.cell? ⟨w.heap.size, 1, none⟩ = some (Value.slice ao1 g.prio.length cap1) := cell_of_row _ _ 1 _ _ _ hbox
    have d2 : wr.cell? ⟨w.heap.size, 2, none⟩ = some (Value.slice ao2 g.succ.length cap2) := cell_of_row _ _ 2 _ _ _ hbox
    have HBX := Lib.hid hbox
    clear hbox
    by_cases hlt : k < g.owner.length
    · have hlt1 : k < g.prio.length := by rw [H2.out]; exact hlt
      have hlt2 : k < g.succ.length := by rw [H3.out]; exact hlt
      obtain rfl := g0.ad (by omega)
      obtain rfl := g1.ad (by omega)
      obtain rfl := g2.ad (by omega)
      have c0 := cellB hB (g0.el k hlt)
      have c1 := cellB hB (g1.el k hlt1)
      have c2 := cellB hB (g2.el k hlt2)
      obtain ⟨⟨ao, cap, b, off, hv, g3⟩, _⟩ := hr k hlt2
      rw [hv] at c2
      unfold ivF at c0 c1
      rw [getD_lt _ _ _ hlt] at c0
      rw [getD_lt _ _ _ hlt1] at c1
      rw [getD_lt _ _ _ hlt2] at c2 g3
      have hn := g3.nb
      clear hv hr
      have hok : Hid (okB g k = ((decide (0 ≤ g.owner[k]) && decide (g.owner[k] ≤ 1)) && (decide (0 ≤ g.prio[k]) && decide (g.prio[k] ≤ 30000)) && !g.succ[k].isEmpty && inB ((g.owner.length : Int) - 1) g.succ[k])) := by
        show _ = _
        unfold okB; rw [getD_lt _ _ _ hlt, getD_lt _ _ _ hlt1, getD_lt _ _ _ hlt2]
      have hP : (g.owner[k] != 0) = true ∧ (g.owner[k] != 1) = true ∨ ((g.owner[k] != 0) = false ∨ ((g.owner[k] != 0) = true ∧ (g.owner[k] != 1) = false)) ∧ (g.prio[k] < 0 ∨ ¬ g.prio[k] < 0 ∧ 30000 < g.prio[k] ∨ (¬ g.prio[k] < 0 ∧ ¬ 30000 < g.prio[k]) ∧ ((g.succ[k].length : Int) == 0) = true ∨ (¬ g.prio[k] < 0 ∧ ¬ 30000 < g.prio[k]) ∧ ((g.succ[k].length : Int) == 0) = false) := by
        by_cases ho : (g.owner[k] != 0) = true ∧ (g.owner[k] != 1) = true
        · exact .inl ho
        refine .inr ⟨?_, ?_⟩
        · simp only [bne_iff_ne, bne_eq_false_iff_eq] at ho ⊢; omega
        by_cases a : g.prio[k] < 0
        · exact .inl a
        by_cases b : 30000 < g.prio[k]
        · exact .inr (.inl ⟨a, b⟩)
        cases hh : ((g.succ[k].length : Int) == 0)
        · exact .inr (.inr (.inr ⟨⟨a, b⟩, rfl⟩))
        · exact .inr (.inr (.inl ⟨⟨a, b⟩, rfl⟩))
      go_upto_region 7 with (fail)
      go_cut [69] (fun s wx => (∃ n, wx = wr.drewN n) ∧ ∃ z, s = .bool z ∧ (z = true → Hid (okB g k = false)) ∧ (z = false → Hid (okB g k = inB ((g.owner.length : Int) - 1) g.succ[k])))
      case first =>
        refine wp_region_quiet_lit (by kernel_rfl) (by kernel_rfl) ?_
        rcases hP with ⟨t0, t1⟩ | ⟨hO, hP⟩
        · ((repeat (go_big_quiet_step (fail))); refine wpQuiet_nil ?_; rintro _ ⟨nq, rfl⟩)
          go_wp2_with fail
          go_meet
          case rel =>
            refine ⟨⟨_, rfl⟩, true, rfl, fun _ => ?_, fun h => by cases h⟩
            show _ = _
            rw [hok.out]
            simp only [bne_iff_ne] at t0 t1
            simp; omega
        rcases hO with t0 | ⟨t0, t1⟩
        all_goals
          rcases hP with p0 | ⟨p0, p1⟩ | ⟨⟨p0, p1⟩, p2⟩ | ⟨⟨p0, p1⟩, p2⟩
          · ((repeat (go_big_quiet_step (fail))); refine wpQuiet_nil ?_; rintro _ ⟨nq, rfl⟩)
            go_wp2_with fail
            go_meet
            case rel =>
              refine ⟨⟨_, rfl⟩, true, rfl, fun _ => ?_, fun h => by cases h⟩
              show _ = _
              rw [hok.out]
              simp; omega
          · ((repeat (go_big_quiet_step ((go_at_call 51; refine (greatest_c _).mono ?_; rintro e w' ⟨rfl, rfl⟩; exact ⟨rfl, _, rfl⟩)))); refine wpQuiet_nil ?_; rintro _ ⟨nq, rfl⟩)
            go_wp2_with fail
            go_meet
            case rel =>
              refine ⟨⟨_, rfl⟩, true, rfl, fun _ => ?_, fun h => by cases h⟩
              show _ = _
              rw [hok.out]
              simp; omega
          · ((repeat (go_big_quiet_step ((go_at_call 51; refine (greatest_c _).mono ?_; rintro e w' ⟨rfl, rfl⟩; exact ⟨rfl, _, rfl⟩)))); refine wpQuiet_nil ?_; rintro _ ⟨nq, rfl⟩)
            go_wp2_with fail
            go_meet
            case rel =>
              refine ⟨⟨_, rfl⟩, true, rfl, fun _ => ?_, fun h => by cases h⟩
              show _ = _
              rw [hok.out]
              simp at p2 ⊢; simp [p2]
          · ((repeat (go_big_quiet_step ((go_at_call 51; refine (greatest_c _).mono ?_; rintro e w' ⟨rfl, rfl⟩; exact ⟨rfl, _, rfl⟩)))); refine wpQuiet_nil ?_; rintro _ ⟨nq, rfl⟩)
            go_wp2_with fail
            go_meet
            case rel =>
              refine ⟨⟨_, rfl⟩, false, rfl, (fun h => by cases h), fun _ => ?_⟩
              show _ = _
              rw [hok.out]
              have ho : 0 ≤ g.owner[k] ∧ g.owner[k] ≤ 1 := by first | (simp at t0; omega) | (simp at t1; omega)
              simp at p2
              simp [p0, p1, p2, ho]
      case rest =>
        obtain ⟨⟨n1, rfl⟩, z, rfl, hz1, hz2⟩ := hcut
        have c2x := Lib.hid c2
        clear hP hok c0 c1 c2 d0 d1 d2
        cases z
        · have HZ := hz2 rfl
          clear hz1 hz2
          go_wp2
          go_loopg [2, 5] g.succ[k].length (fun gh r i wx => ∃ j : Nat, gh = g.succ[k].length - j ∧ i = .int .i64 j ∧ r = .bool false ∧ wx = wr.drewN n1 ∧ j ≤ g.succ[k].length ∧ Hid (inB ((g.owner.length : Int) - 1) (g.succ[k].take j) = true))
          case atStart => exact ⟨0, rfl, rfl, rfl, rfl, by omega, by simp [inB, Hid]⟩
          case round =>
            obtain ⟨j, hgj, rfl, rfl, rfl, hj, HJ⟩ := hrel
            have HGJ := Lib.hid hgj
            clear hgj
            by_cases hltj : j < g.succ[k].length
            · obtain rfl := g3.ad (by omega)
              have c3 := cellB hB (g3.el j hltj)
              unfold ivF at c3
              rw [getD_lt _ _ _ hltj] at c3
              have d0 : wr.cell? ⟨w.heap.size, 0, none⟩ = some (Value.slice (some ⟨b0, off0, none⟩) g.owner.length cap0) := cell_of_row _ _ 0 _ _ _ HBX.out
              have d2 : wr.cell? ⟨w.heap.size, 2, none⟩ = some (Value.slice (some ⟨b2, off2, none⟩) g.succ.length cap2) := cell_of_row _ _ 2 _ _ _ HBX.out
              have c2 := c2x.out
              go_wp2
              · have q : g.succ[k][j] < 0 ∨ ↑g.owner.length ≤ g.succ[k][j] := by assumption
                go_ret
                refine ⟨ret_bool (validB_false H1.out H2.out H3.out hlt ?_), (by repeat (first | exact Below.refl _ _ | assumption | (refine belA ?_ _) | (refine belD ?_ _)))⟩
                rw [HZ.out]
                exact all_false_of _ _ j hltj (by simp; omega)
              · have q : 0 ≤ g.succ[k][j] ∧ g.succ[k][j] < ↑g.owner.length := by assumption
                go_roundg (g.succ[k].length - (j + 1))
                case measure => have := HGJ.out; omega
                case rel =>
                  refine ⟨j + 1, rfl, by go_num, rfl, rfl, by omega, ?_⟩
                  show _ = _
                  have h3 := HJ.out
                  unfold inB at h3 ⊢
                  rw [all_take_succ _ _ _ hltj, h3]
                  simp; omega
              · have q : g.succ[k][j] < 0 := by assumption
                go_ret
                refine ⟨ret_bool (validB_false H1.out H2.out H3.out hlt ?_), (by repeat (first | exact Below.refl _ _ | assumption | (refine belA ?_ _) | (refine belD ?_ _)))⟩
                rw [HZ.out]
                exact all_false_of _ _ j hltj (by simp; omega)
            · have d2 : wr.cell? ⟨w.heap.size, 2, none⟩ = some (Value.slice (some ⟨b2, off2, none⟩) g.succ.length cap2) := cell_of_row _ _ 2 _ _ _ HBX.out
              have c2 := c2x.out
              go_wp2
              go_roundg (g.owner.length - (k + 1))
              case measure => have := HG.out; omega
              case rel =>
                refine ⟨k + 1, rfl, by go_num, rfl, (by repeat (first | exact Below.refl _ _ | assumption | (refine belA ?_ _) | (refine belD ?_ _))), HBX.out, by omega, fun i hi => ?_⟩
                rcases Nat.lt_succ_iff_lt_or_eq.1 hi with h | rfl
                · exact HE.out i h
                · have h3 := HJ.out
                  rw [List.take_of_length_le (by omega)] at h3
                  rw [HZ.out, h3]
        · have HZ := hz1 rfl
          clear hz1 hz2
          go_wp2
          go_ret
          refine ⟨ret_bool (validB_false H1.out H2.out H3.out hlt HZ.out), (by repeat (first | exact Below.refl _ _ | assumption | (refine belA ?_ _) | (refine belD ?_ _)))⟩
    · go_wp2
      go_ret
      refine ⟨ret_bool (validB_true H1.out H2.out H3.out fun i hi => HE.out i (by omega)), hB⟩
end Go.Proofs.Ytjhafakkadnfmaa
