/- The walk of SolveMore. -/
import Derived.Test.YtjhafakkadnfmaaSo28
namespace Go.Proofs.Ytjhafakkadnfmaa
open Go.RowKit

theorem more_c (w : World) (vg : Value) (g : Gm) (kind at1 to1 : Nat) (hg : IsGame w vg g) (hv : validB g = true) (hS : ∀ i, (g.succ.getD i []).length ≤ 999) (h0 : 0 < g.owner.length) (ha : at1 ≤ 255) (ht : to1 ≤ 255) :
    Calls Try.prog 16 #[vg, .int .u8 kind, .int .u8 at1, .int .u8 to1] w (NewGame (moreG g (kind % 3) (at1 % g.owner.length) (to1 % g.owner.length)) w) := by
  have hm := Nat.mod_lt kind (show 0 < 3 by omega)
  rcases (by omega : kind % 3 = 0 ∨ kind % 3 = 1 ∨ kind % 3 = 2) with e | e | e
  · rw [e]; exact more0_c w vg g kind at1 to1 hg hv h0 e ha
  · rw [e]; exact more1_c w vg g kind at1 to1 hg hv h0 e ha
  · rw [e]; exact more2_c w vg g kind at1 to1 hg hv hS h0 e ha ht

theorem small_sl9 {g : Gm} {m : Int} (h : smallB g m = true) : ∀ i, (g.succ.getD i []).length ≤ 999 := fun i => by
  unfold smallB at h
  simp only [Bool.and_eq_true, List.all_eq_true, decide_eq_true_eq] at h
  by_cases hi : i < g.succ.length
  · have := h.2 _ (List.getElem_mem hi)
    rw [getD_lt _ _ _ hi]; omega
  · simp [List.getD, List.getElem?_eq_none (by omega : g.succ.length ≤ i)]

set_option maxRecDepth 100000 in
set_option maxHeartbeats 8000000 in
theorem More_w (w : World) (vg : Value) (g : Gm) (kind at1 to1 : Int) (hg : IsGame w vg g) (hk : 0 ≤ kind ∧ kind ≤ 255) (ha : 0 ≤ at1 ∧ at1 ≤ 255) (ht : 0 ≤ to1 ∧ to1 ≤ 255) :
    Calls Try.prog 4 #[vg, .int .u8 kind, .int .u8 at1, .int .u8 to1] w (Calm (.bool true) w) := by
  obtain ⟨v0, v1, v2, rfl, i0, i1, i2⟩ := id hg
  have HG := Lib.hid hg
  clear hg
  obtain ⟨⟨ao0, cap0, b0, off0, rfl, -⟩, -⟩ := i0
  obtain ⟨⟨ao1, cap1, b1, off1, rfl, -⟩, -⟩ := i1
  obtain ⟨V, ⟨ao2, cap2, b2, off2, rfl, -⟩, -⟩ := i2
  obtain ⟨kind, rfl⟩ : ∃ k : Nat, kind = k := ⟨kind.toNat, by omega⟩
  obtain ⟨at1, rfl⟩ : ∃ k : Nat, at1 = k := ⟨at1.toNat, by omega⟩
  obtain ⟨to1, rfl⟩ : ∃ k : Nat, to1 = k := ⟨to1.toNat, by omega⟩
  go_enter Try.func4, Try.ntmps4
  go_upto_region 1 with (fail)
  have hbg := boxGame (w := w) (v0 := Value.slice ao0 g.owner.length cap0) (v1 := Value.slice ao1 g.prio.length cap1) (v2 := Value.slice ao2 g.succ.length cap2)
  generalize (w.alloc (Obj.cells #[Value.slice ao0 g.owner.length cap0, Value.slice ao1 g.prio.length cap1, Value.slice ao2 g.succ.length cap2] 25)) = w1 at *
  have HBX : Hid (∀ W, Below w1.heap.size w1 W → W.heap[w.heap.size]? = some (Obj.cells #[Value.slice ao0 g.owner.length cap0, Value.slice ao1 g.prio.length cap1, Value.slice ao2 g.succ.length cap2] 25 (0, 0))) := fun W hW => (hW.block _ (Array.getElem?_eq_some_iff.1 hbg.1).1).trans hbg.1
  have HB := Lib.hid hbg.2
  clear hbg
  go_wp2_with fail
  refine (head_c w1).mono ?_
  rintro e w2 ⟨rfl, hW⟩
  have hX := HBX.out w2 hW
  have d0 := cell_of_row _ _ 0 _ _ _ hX
  have d1 := cell_of_row _ _ 1 _ _ _ hX
  have d2 := cell_of_row _ _ 2 _ _ _ hX
  go_wp2_with fail
  refine (small_c w2 _ g 30 (HG.out.below (HB.out.trans (hW.mono HB.out.size)))).mono ?_
  rintro e w3 ⟨rfl, hb⟩
  replace hW := hW.trans (hb.mono hW.size)
  clear hb hX d0 d1 d2
  cases hsm : smallV g 30 with
  | false =>
    have hF := HB.out.trans (hW.mono HB.out.size)
    go_wp2
    go_ret
    exact ⟨rfl, hF⟩
  | true =>
    have hsm2 : smallB g 30 = true ∧ validB g = true := by unfold smallV at hsm; rwa [Bool.and_eq_true] at hsm
    have HV := Lib.hid hsm2.2
    have HSl := Lib.hid (small_sl9 hsm2.1)
    have HSn := Lib.hid (valid_fits hsm2.2 0 (.inl rfl)).sn
    have hnn := (valid_fits hsm2.2 0 (.inl rfl)).le
    clear hsm hsm2
    have hX := HBX.out w3 hW
    have d0 := cell_of_row _ _ 0 _ _ _ hX
    have d1 := cell_of_row _ _ 1 _ _ _ hX
    have d2 := cell_of_row _ _ 2 _ _ _ hX
    by_cases hn0 : g.succ.length = 0
    · have hF := HB.out.trans (hW.mono HB.out.size)
      have hz : ((g.succ.length : Int) == 0) = true := by simp [hn0]
      clear hn0
      go_wp2
      go_ret
      exact ⟨rfl, hF⟩
    · have hz : ((g.succ.length : Int) == 0) = false := beq_eq_false_iff_ne.2 (by omega)
      have H0 : Hid (0 < g.owner.length) := by show _ < _; rw [← HSn.out]; omega
      clear hn0
      go_wp2_with fail
      refine (SolveR_c w3 _ g (HG.out.below (HB.out.trans (hW.mono HB.out.size))) (fun i => Nat.le_succ_of_le (HSl.out i))).mono ?_
      rintro e w4 ⟨vs, rfl, hi, hb⟩
      replace hW := hW.trans (hb.mono hW.size)
      clear hb hX d0 d1 d2 hz
      have HIs := Lib.hid hi
      clear hi
      have hX := HBX.out w4 hW
      have d0 := cell_of_row _ _ 0 _ _ _ hX
      have d1 := cell_of_row _ _ 1 _ _ _ hX
      have d2 := cell_of_row _ _ 2 _ _ _ hX
      go_wp2_with fail
      refine (more_c w4 _ g kind at1 to1 (HG.out.below (HB.out.trans (hW.mono HB.out.size))) HV.out HSl.out H0.out (by omega) (by omega)).mono ?_
      rintro e w5 ⟨vm, rfl, hm, hb⟩
      have HIs5 := Lib.hid (HIs.out.below hb)
      replace hW := hW.trans (hb.mono hW.size)
      have hi1 : at1 % g.owner.length < g.owner.length := Nat.mod_lt _ H0.out
      have hx1 : to1 % g.owner.length < g.owner.length := Nat.mod_lt _ H0.out
      have HKP : Hid (∀ v, v < g.owner.length → (solR g).getD v 0 = 0 → (solR (moreG g (kind % 3) (at1 % g.owner.length) (to1 % g.owner.length))).getD v 0 = 0) := fun v hv h => more_keeps HV.out _ hi1 hx1 v hv h
      have HML : Hid ((solR (moreG g (kind % 3) (at1 % g.owner.length) (to1 % g.owner.length))).length = g.owner.length) := by show _ = _; rw [solR_len (more_valid HV.out _ hi1 hx1), (more_len _ _ _ _).1]
      have HMS := Lib.hid (more_sl HSl.out (kind % 3) (at1 % g.owner.length) (to1 % g.owner.length))
      clear hb hX d0 d1 d2 HIs hi1 hx1
      generalize moreG g (kind % 3) (at1 % g.owner.length) (to1 % g.owner.length) = gm at *
      go_wp2_with fail
      refine (SolveR_c w5 _ gm hm HMS.out).mono ?_
      rintro e w6 ⟨vx, rfl, hi, hb⟩
      have hi6 := HIs5.out.below hb
      replace hW := hW.trans (hb.mono hW.size)
      clear hb hm HIs5
      obtain ⟨⟨aw, cw, bw, ow, rfl, gw⟩, -⟩ := hi6
      obtain ⟨⟨ax, cx, bx, ox, rfl, gx⟩, -⟩ := hi
      have HSL := Lib.hid (solR_len HV.out)
      have hX := HBX.out w6 hW
      have d2 := cell_of_row _ _ 2 _ _ _ hX
      rw [HSn.out] at d2
      rw [HSL.out] at gw
      rw [HML.out] at gx
      have HGw := Lib.hid gw
      have HGx := Lib.hid gx
      have hneq : ((g.owner.length : Int) != (g.owner.length : Int)) = false := by simp
      have HF := Lib.hid (HB.out.trans (hW.mono HB.out.size))
      clear hX HBX hW HB gw gx
      rw [HSL.out, HML.out]
      go_wp2
      clear d2 hneq
      go_loopg [12] g.owner.length (fun gh i wr => ∃ k : Nat, gh = g.owner.length - k ∧ i = .int .i64 k ∧ k ≤ g.owner.length ∧ wr = w6)
      case atStart => exact ⟨0, by omega, rfl, by omega, rfl⟩
      case round =>
        obtain ⟨k, rfl, rfl, hk, rfl⟩ := hrel
        by_cases hlt : k < g.owner.length
        · have hgs := HGw.out
          obtain rfl := hgs.ad (by omega)
          have e4 := hgs.el k hlt
          have hgx := HGx.out
          obtain rfl := hgx.ad (by omega)
          have e5 := hgx.el k hlt
          unfold ivF at e4 e5
          have ht := solR_two HV.out k hlt
          clear hgs hgx
          rcases ht with hx | hx
          · rw [hx] at e4
            rw [HKP.out k hlt hx] at e5
            clear hx
            go_wp2
            go_roundg (g.owner.length - (k + 1))
            case rel => exact ⟨k + 1, rfl, by go_num, by omega, rfl⟩
            case measure => omega
          · rw [hx] at e4
            clear hx e5
            go_wp2
            go_roundg (g.owner.length - (k + 1))
            case rel => exact ⟨k + 1, rfl, by go_num, by omega, rfl⟩
            case measure => omega
        · obtain rfl : k = g.owner.length := by omega
          go_wp2
          go_ret
          exact ⟨rfl, HF.out⟩

end Go.Proofs.Ytjhafakkadnfmaa
