/- The walk of SolveMoves. -/
import Derived.Test.YtjhafakkadnfmaaSo23
namespace Go.Proofs.Ytjhafakkadnfmaa
open Go.RowKit

theorem solR_two {g : Gm} (hv : validB g = true) (i : Nat) (hi : i < g.owner.length) : (solR g).getD i 0 = 0 ∨ (solR g).getD i 0 = 1 := ((solR_is g).2 hv).2.two i hi
theorem solR_len {g : Gm} (hv : validB g = true) : (solR g).length = g.owner.length := ((solR_is g).2 hv).1
theorem moves_own {g : Gm} (hv : validB g = true) (i : Nat) (hi : i < g.owner.length) (ho : own g i = 0) : ((g.succ.getD i []).any fun x => (solR g).getD x.toNat 0 == 0) = decide ((solR g).getD i 0 = 0) := by
  have hs := ((solR_is g).2 hv).2
  rw [Bool.eq_iff_iff, decide_eq_true_eq, List.any_eq_true]
  constructor
  · rintro ⟨x, hx, h⟩
    obtain ⟨v, rfl, hvn⟩ := valid_rg hv i hi x hx
    rcases solR_two hv i hi with e | e
    · exact e
    · obtain ⟨τ, h1⟩ := hs.d1
      have := (h1.other i ⟨hi, e⟩ (by omega) v hx hvn).2
      simp only [Int.toNat_natCast, beq_iff_eq] at h
      rw [this] at h; cases h
  · intro h
    obtain ⟨σ, h0⟩ := hs.d0
    obtain ⟨h1, h2⟩ := h0.mine i ⟨hi, h⟩ ho
    exact ⟨_, h1, by simpa using h2.2⟩
theorem moves_other {g : Gm} (hv : validB g = true) (i : Nat) (hi : i < g.owner.length) (ho : own g i = 1) : ((g.succ.getD i []).all fun x => (solR g).getD x.toNat 0 == 0) = decide ((solR g).getD i 0 = 0) := by
  have hs := ((solR_is g).2 hv).2
  rw [Bool.eq_iff_iff, decide_eq_true_eq, List.all_eq_true]
  constructor
  · intro hall
    rcases solR_two hv i hi with e | e
    · exact e
    · obtain ⟨τ, h1⟩ := hs.d1
      obtain ⟨h2, h3⟩ := h1.mine i ⟨hi, e⟩ ho
      have := hall _ h2
      simp only [Int.toNat_natCast, beq_iff_eq] at this
      have h4 : (solR g).getD (τ i) 0 = 1 := h3.2
      rw [this] at h4; cases h4
  · intro h x hx
    obtain ⟨v, rfl, hvn⟩ := valid_rg hv i hi x hx
    obtain ⟨σ, h0⟩ := hs.d0
    have := (h0.other i ⟨hi, h⟩ (by omega) v hx hvn).2
    simpa using this

theorem small_sl {g : Gm} {m : Int} (h : smallB g m = true) : ∀ i, (g.succ.getD i []).length ≤ 1000 := fun i => by
  unfold smallB at h
  simp only [Bool.and_eq_true, List.all_eq_true, decide_eq_true_eq] at h
  by_cases hi : i < g.succ.length
  · have := h.2 _ (List.getElem_mem hi)
    rw [getD_lt _ _ _ hi]; omega
  · simp [List.getD, List.getElem?_eq_none (by omega : g.succ.length ≤ i)]

/-- A game given, in its box. -/
theorem boxGame {w : World} {v0 v1 v2 : Value} : (w.alloc (Obj.cells #[v0, v1, v2] 25)).heap[w.heap.size]? = some (Obj.cells #[v0, v1, v2] 25 (0, 0)) ∧ Below w.heap.size w (w.alloc (Obj.cells #[v0, v1, v2] 25)) := ⟨heap_alloc_new w _, bel_box _⟩

set_option maxRecDepth 100000 in
set_option maxHeartbeats 8000000 in
theorem Moves_w (w : World) (vg : Value) (g : Gm) (hg : IsGame w vg g) :
    Calls Try.prog 6 #[vg] w (Calm (.bool true) w) := by
  obtain ⟨v0, v1, v2, rfl, i0, i1, i2⟩ := id hg
  have HG := Lib.hid hg
  clear hg
  obtain ⟨⟨ao0, cap0, b0, off0, rfl, g0⟩, -⟩ := i0
  obtain ⟨⟨ao1, cap1, b1, off1, rfl, -⟩, -⟩ := i1
  obtain ⟨V, ⟨ao2, cap2, b2, off2, rfl, g2⟩, hr⟩ := i2
  have HR := Lib.hid hr
  have HE0 := Lib.hid g0
  have HE2 := Lib.hid g2
  clear hr g0 g2
  go_enter Try.func6, Try.ntmps6
  go_upto_region 1 with (fail)
  have hbg := boxGame (w := w) (v0 := Value.slice ao0 g.owner.length cap0) (v1 := Value.slice ao1 g.prio.length cap1) (v2 := Value.slice ao2 g.succ.length cap2)
  generalize (w.alloc (Obj.cells #[Value.slice ao0 g.owner.length cap0, Value.slice ao1 g.prio.length cap1, Value.slice ao2 g.succ.length cap2] 25)) = w1 at *
  have HBX : Hid (∀ W, Below w1.heap.size w1 W → W.heap[w.heap.size]? = some (Obj.cells #[Value.slice ao0 g.owner.length cap0, Value.slice ao1 g.prio.length cap1, Value.slice ao2 g.succ.length cap2] 25 (0, 0))) := fun W hW => (hW.block _ (Array.getElem?_eq_some_iff.1 hbg.1).1).trans hbg.1
  have HB := Lib.hid hbg.2
  clear hbg
  go_wp2_with fail
  refine (head_c w1).mono ?_
  rintro e w2 ⟨rfl, hW⟩
  have hX := HBX.out w2 hW
  have d0 := cell_of_row _ _ 0 _ _ _ hX
  have d1 := cell_of_row _ _ 1 _ _ _ hX
  have d2 := cell_of_row _ _ 2 _ _ _ hX
  go_wp2_with fail
  refine (small_c w2 _ g 30 (HG.out.below (HB.out.trans (hW.mono HB.out.size)))).mono ?_
  rintro e w3 ⟨rfl, hb⟩
  replace hW := hW.trans (hb.mono hW.size)
  clear hb hX d0 d1 d2
  cases hsm : smallV g 30 with
  | false =>
    have hF := HB.out.trans (hW.mono HB.out.size)
    go_wp2
    go_ret
    exact ⟨rfl, hF⟩
  | true =>
    have hsm2 : smallB g 30 = true ∧ validB g = true := by unfold smallV at hsm; rwa [Bool.and_eq_true] at hsm
    have HV := Lib.hid hsm2.2
    have HSl := Lib.hid (small_sl hsm2.1)
    have hnn := (valid_fits hsm2.2 0 (.inl rfl)).le
    have HSn := Lib.hid (valid_fits hsm2.2 0 (.inl rfl)).sn
    clear hsm hsm2
    have hX := HBX.out w3 hW
    have d0 := cell_of_row _ _ 0 _ _ _ hX
    have d1 := cell_of_row _ _ 1 _ _ _ hX
    have d2 := cell_of_row _ _ 2 _ _ _ hX
    go_wp2_with fail
    refine (SolveR_c w3 _ g (HG.out.below (HB.out.trans (hW.mono HB.out.size))) HSl.out).mono ?_
    rintro e w4 ⟨vs, rfl, hi, hb⟩
    replace hW := hW.trans (hb.mono hW.size)
    clear hb hX d0 d1 d2
    obtain ⟨⟨az, cz, bz, oz, rfl, gs⟩, -⟩ := hi
    have HGs := Lib.hid gs
    clear gs
    have hX := HBX.out w4 hW
    have d2 := cell_of_row _ _ 2 _ _ _ hX
    have hsl := solR_len HV.out
    have hneq : ((g.owner.length : Int) != (g.owner.length : Int)) = false := by simp
    have HF4 := Lib.hid (HB.out.trans (hW.mono HB.out.size))
    have HBX4 : Hid (∀ W, Below w4.heap.size w4 W → W.heap[w.heap.size]? = some (Obj.cells #[Value.slice ao0 g.owner.length cap0, Value.slice ao1 g.prio.length cap1, Value.slice ao2 g.succ.length cap2] 25 (0, 0))) := fun W h => HBX.out W (hW.trans (h.mono hW.size))
    rw [HSn.out] at d2 HBX4 HE2
    have HSL := Lib.hid hsl
    rw [hsl] at HGs
    clear hX hsl HBX hW
    rw [HSn.out, HSL.out]
    go_wp2
    clear d2 hneq
    go_loopg [5, 6, 7, 8] g.owner.length (fun gh i _ _ _ wr => ∃ k : Nat, gh = g.owner.length - k ∧ i = .int .i64 k ∧ k ≤ g.owner.length ∧ Below w4.heap.size w4 wr)
    case atStart => exact ⟨0, by omega, rfl, by omega, Below.refl _ _⟩
    case round =>
      obtain ⟨k, rfl, rfl, hk, hW⟩ := hrel
      have hX := HBX4.out wr hW
      have d0 := cell_of_row _ _ 0 _ _ _ hX
      have d2 := cell_of_row _ _ 2 _ _ _ hX
      by_cases hlt : k < g.owner.length
      · have hki : (k : Int) < g.owner.length := by omega
        have hg0 := HE0.out
        have hg2 := HE2.out
        have hgs := HGs.out
        obtain rfl := hg0.ad (by omega)
        obtain rfl := hg2.ad (by omega)
        obtain rfl := hgs.ad (by omega)
        have HC0 := Lib.hid (fun W (h : Below w4.heap.size w4 W) => cellB (HF4.out.trans (h.mono HF4.out.size)) (hg0.el k hlt))
        have c2 := cellB (HF4.out.trans (hW.mono HF4.out.size)) (hg2.el k hlt)
        have HCs := Lib.hid (fun W (h : Below w4.heap.size w4 W) v (hv : v < g.owner.length) => cellB h (hgs.el v hv))
        obtain ⟨⟨ar, cr, br, or_, hV, gR⟩, -⟩ := HR.out k (by rw [HSn.out]; exact hlt)
        rw [hV] at c2
        have HC2 : Hid (∀ W, Below w4.heap.size w4 W → W.cell? ⟨b2, off2 + k, none⟩ = some (.slice ar (g.succ.getD k []).length cr)) := fun W h => by rw [← hV]; exact cellB (HF4.out.trans (h.mono HF4.out.size)) (hg2.el k hlt)
        have HRw := Lib.hid (valid_rg HV.out k hlt)
        have HRe := Lib.hid gR.el
        have HRa := Lib.hid gR.ad
        have hrn := gR.nb
        have HM0 : Hid (g.owner.getD k 0 = 0 → ((g.succ.getD k []).any fun x => (solR g).getD x.toNat 0 == 0) = decide ((solR g).getD k 0 = 0)) := fun h => moves_own HV.out k hlt h
        have HM1 : Hid (g.owner.getD k 0 = 1 → ((g.succ.getD k []).all fun x => (solR g).getD x.toNat 0 == 0) = decide ((solR g).getD k 0 = 0)) := fun h => moves_other HV.out k hlt h
        have HO := Lib.hid (valid_own HV.out k hlt)
        have HT := Lib.hid (solR_two HV.out k hlt)
        clear hg0 hg2 hgs hV gR hX
        generalize g.succ.getD k [] = row at *
        go_wp2
        clear c2 d0 d2
        obtain ⟨wo, rfl⟩ : ∃ wo : World, wo = wr := ⟨_, rfl⟩
        go_loopg [6, 7, 8] row.length (fun gh one all i wx => ∃ (j : Nat) (q1 q2 : Bool), gh = row.length - j ∧ i = .int .i64 j ∧ j ≤ row.length ∧ one = .bool q1 ∧ all = .bool q2 ∧ Hid (q1 = (row.take j).any fun x => (solR g).getD x.toNat 0 == 0) ∧ Hid (q2 = (row.take j).all fun x => (solR g).getD x.toNat 0 == 0) ∧ Below w4.heap.size w4 wx)
        case atStart => exact ⟨0, _, _, by omega, rfl, by omega, rfl, rfl, by simp [Hid], by simp [Hid], hW⟩
        case round =>
          clear hW
          obtain ⟨j, q1, q2, rfl, rfl, hj, rfl, rfl, H1, H2, hW⟩ := hrel
          have hX := HBX4.out wr hW
          have d0 := cell_of_row _ _ 0 _ _ _ hX
          have d2 := cell_of_row _ _ 2 _ _ _ hX
          have c2 := HC2.out wr hW
          by_cases hlj : j < row.length
          · obtain rfl := HRa.out (by omega)
            have c3 := cellB (HF4.out.trans (hW.mono HF4.out.size)) (HRe.out j hlj)
            unfold ivF at c3
            rw [getD_lt _ _ _ hlj] at c3
            obtain ⟨v, hv, hvn⟩ := HRw.out row[j] (List.getElem_mem hlj)
            rw [hv] at c3
            have c4 := HCs.out wr hW v hvn
            unfold ivF at c4
            have N1 : Hid (((row.take (j + 1)).any fun x => (solR g).getD x.toNat 0 == 0) = (q1 || ((solR g).getD v 0 == 0))) := by
              show _ = _; rw [any_take_succ _ _ _ hlj, ← H1.out, hv, Int.toNat_natCast]
            have N2 : Hid (((row.take (j + 1)).all fun x => (solR g).getD x.toNat 0 == 0) = (q2 && ((solR g).getD v 0 == 0))) := by
              show _ = _; rw [all_take_succ _ _ _ hlj, ← H2.out, hv, Int.toNat_natCast]
            clear hX hv H1 H2
            generalize (solR g).getD v 0 = y at *
            cases q1 <;> cases q2
            all_goals
              go_wp2
              go_roundg (row.length - (j + 1))
              case rel => exact ⟨j + 1, _, _, rfl, by go_num, by omega, rfl, rfl, by show _ = _; rw [N1.out]; simp, by show _ = _; rw [N2.out]; simp, hW⟩
              case measure => omega
          · obtain rfl : j = row.length := by omega
            rw [List.take_length] at H1 H2
            have e4 := HCs.out wr hW k hlt
            have e3 := HC0.out wr hW
            unfold ivF at e3 e4
            clear hX
            rcases HO.out with ho | ho
            · unfold own at ho
              rcases HT.out with hx | hx
              · have e5 : wr.cell? ⟨bz, oz + k, none⟩ = some (.int .i64 0) := by rw [← hx]; exact e4
                have e6 : wr.cell? ⟨b0, off0 + k, none⟩ = some (.int .i64 0) := by rw [← ho]; exact e3
                have hq : q1 = true := by rw [H1.out, HM0.out ho, hx]; rfl
                subst hq
                clear hx ho e4 e3 HM0 HM1 H1
                go_upto_region 17 with (fail)
                refine wp_region_quiet_lit (by kernel_rfl) (by kernel_rfl) ?_
                ((repeat (go_big_quiet_step (fail))); refine wpQuiet_nil ?_; rintro _ ⟨nq, rfl⟩)
                go_wp2
                go_roundg (g.owner.length - (k + 1))
                case rel => exact ⟨k + 1, rfl, by go_num, by omega, belD hW nq⟩
                case measure => omega
              · have e5 : wr.cell? ⟨bz, oz + k, none⟩ = some (.int .i64 1) := by rw [← hx]; exact e4
                have e6 : wr.cell? ⟨b0, off0 + k, none⟩ = some (.int .i64 0) := by rw [← ho]; exact e3
                have hq : q1 = false := by rw [H1.out, HM0.out ho, hx]; rfl
                subst hq
                clear hx ho e4 e3 HM0 HM1 H1
                go_upto_region 17 with (fail)
                refine wp_region_quiet_lit (by kernel_rfl) (by kernel_rfl) ?_
                ((repeat (go_big_quiet_step (fail))); refine wpQuiet_nil ?_; rintro _ ⟨nq, rfl⟩)
                go_wp2
                go_roundg (g.owner.length - (k + 1))
                case rel => exact ⟨k + 1, rfl, by go_num, by omega, belD hW nq⟩
                case measure => omega
            · unfold own at ho
              rcases HT.out with hx | hx
              · have e5 : wr.cell? ⟨bz, oz + k, none⟩ = some (.int .i64 0) := by rw [← hx]; exact e4
                have e6 : wr.cell? ⟨b0, off0 + k, none⟩ = some (.int .i64 1) := by rw [← ho]; exact e3
                have hq : q2 = true := by rw [H2.out, HM1.out ho, hx]; rfl
                subst hq
                clear hx ho e4 e3 HM0 HM1 H2
                go_upto_region 17 with (fail)
                refine wp_region_quiet_lit (by kernel_rfl) (by kernel_rfl) ?_
                ((repeat (go_big_quiet_step (fail))); refine wpQuiet_nil ?_; rintro _ ⟨nq, rfl⟩)
                go_wp2
                go_roundg (g.owner.length - (k + 1))
                case rel => exact ⟨k + 1, rfl, by go_num, by omega, belD hW nq⟩
                case measure => omega
              · have e5 : wr.cell? ⟨bz, oz + k, none⟩ = some (.int .i64 1) := by rw [← hx]; exact e4
                have e6 : wr.cell? ⟨b0, off0 + k, none⟩ = some (.int .i64 1) := by rw [← ho]; exact e3
                have hq : q2 = false := by rw [H2.out, HM1.out ho, hx]; rfl
                subst hq
                clear hx ho e4 e3 HM0 HM1 H2
                go_upto_region 17 with (fail)
                refine wp_region_quiet_lit (by kernel_rfl) (by kernel_rfl) ?_
                ((repeat (go_big_quiet_step (fail))); refine wpQuiet_nil ?_; rintro _ ⟨nq, rfl⟩)
                go_wp2
                go_roundg (g.owner.length - (k + 1))
                case rel => exact ⟨k + 1, rfl, by go_num, by omega, belD hW nq⟩
                case measure => omega
      · obtain rfl : k = g.owner.length := by omega
        have hF := HF4.out.trans (hW.mono HF4.out.size)
        go_wp2
        go_ret
        exact ⟨rfl, hF⟩

end Go.Proofs.Ytjhafakkadnfmaa
