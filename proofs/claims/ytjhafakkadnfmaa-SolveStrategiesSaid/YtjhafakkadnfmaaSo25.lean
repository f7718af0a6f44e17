/- What won computes; the walk of SolveRegions. -/
import Derived.Test.YtjhafakkadnfmaaSo24
import Derived.Test.YtjhafakkadnfmaaP21
namespace Go.Proofs.Ytjhafakkadnfmaa
open Go.RowKit

/-- The positions that a player wins from. -/
def setP (w : List Int) (p : Int) : List Bool := w.map fun x => x == p
theorem setP_len (w : List Int) (p : Int) : (setP w p).length = w.length := by simp [setP]
theorem setP_get (w : List Int) (p : Int) (i : Nat) (h : i < w.length) : (setP w p).getD i false = (w.getD i 0 == p) := by simp [setP, List.getD, h]

set_option maxHeartbeats 2000000 in
theorem won_c (w : World) (vg vw : Value) (g : Gm) (l : List Int) (p : Int) (hg : IsGame w vg g) (hl : IsInts w vw l) (hn : l.length = g.succ.length) (hn3 : l.length ≤ 3000) :
    Calls Try.prog 17 #[vg, vw, .int .i64 p] w (NewBools (setP l p) w) := by
  obtain ⟨v0, v1, v2, rfl, i0, i1, i2⟩ := id hg
  clear hg
  obtain ⟨⟨ao0, cap0, b0, off0, rfl, -⟩, -⟩ := i0
  obtain ⟨⟨ao1, cap1, b1, off1, rfl, -⟩, -⟩ := i1
  obtain ⟨V, ⟨ao2, cap2, b2, off2, rfl, -⟩, -⟩ := i2
  rw [← hn]
  obtain ⟨⟨aw, cw, bw, ow, rfl, gw⟩, -⟩ := hl
  have HW := Lib.hid gw.el
  have HA := Lib.hid gw.ad
  have hgo := gw.nb
  clear gw hn
  go_enter Try.func17, Try.ntmps17
  go_upto_region 1 with (fail)
  have hbg := boxGame (w := w) (v0 := Value.slice ao0 g.owner.length cap0) (v1 := Value.slice ao1 g.prio.length cap1) (v2 := Value.slice ao2 l.length cap2)
  generalize (w.alloc (Obj.cells #[Value.slice ao0 g.owner.length cap0, Value.slice ao1 g.prio.length cap1, Value.slice ao2 l.length cap2] 25)) = w1 at *
  have HB1 := Lib.hid hbg.2
  have d2 := cell_of_row _ _ 2 _ _ _ hbg.1
  have hz1 := HB1.out.size
  clear hbg
  go_wp2_with (at_make; refine mk_bool rfl _ _ _ Try.underlying33 rfl w.heap.size _ l.length rfl rfl rfl (by omega) hz1 ?_; intro w2 hown2 hg2)
  have hB2 : Below w.heap.size w w2 := HB1.out.grown hg2 hz1 (fun k hk => by cases hk)
  clear d2
  generalize w1.heap.size = gi at *
  go_loopg [8] l.length (fun gh i wr => ∃ (k : Nat) (s : List Bool), gh = l.length - k ∧ i = .int .i64 k ∧ k ≤ l.length ∧ s.length = l.length ∧ Hid (OB wr w.heap.size (.slice (some ⟨gi, 0, none⟩) l.length l.length) s) ∧ Hid (s.take k = setP (l.take k) p) ∧ Below w.heap.size w wr)
  case atStart => exact ⟨0, _, by omega, rfl, by omega, by simp, hown2, by simp [Hid, setP], hB2⟩
  case round =>
    clear hown2 hg2 hB2
    obtain ⟨k, s, rfl, rfl, hk, hsl, HO, HE, hW⟩ := hrel
    have HSL := Lib.hid hsl
    by_cases hlt : k < l.length
    · obtain rfl := HA.out (by omega)
      have e1 := cellB hW (HW.out k hlt)
      unfold ivF at e1
      rw [getD_lt _ _ _ hlt] at e1
      obtain ⟨y, e2⟩ : ∃ y, wr.cell? ⟨gi, k, none⟩ = some (.bool y) := ⟨_, HO.out.at' HSL.out.symm k (by rw [HSL.out]; exact hlt)⟩
      have f2 := HO.out.fz HSL.out.symm k
      have HO2 := Lib.hid (HO.out.set HSL.out.symm k (l[k] == p))
      have hge : w.heap.size ≤ gi := HO.out.ge gi rfl
      have HE2 : Hid ((s.set k (l[k] == p)).take (k + 1) = setP (l.take (k + 1)) p) := by
        show _ = _
        rw [List.take_succ_eq_append_getElem (by simp; omega), List.take_set_of_le (Nat.le_refl _), HE.out, List.take_succ_eq_append_getElem hlt, List.getElem_set_self]
        unfold setP
        rw [List.map_append]
        rfl
      have HL2 : Hid ((s.set k (l[k] == p)).length = l.length) := by show _ = _; rw [List.length_set]; exact HSL.out
      have HW2 := Lib.hid (hW.setCell (p := ⟨gi, k, none⟩) hge (.bool (l[k] == p)))
      clear HE HO hsl
      generalize l[k] = x at *
      go_wp2
      go_roundg (l.length - (k + 1))
      case rel => exact ⟨k + 1, _, rfl, by go_num, by omega, HL2.out, HO2, HE2, HW2.out⟩
      case measure => omega
    · obtain rfl : k = l.length := by omega
      have h1 := HE.out
      rw [List.take_of_length_le (by omega), List.take_length] at h1
      have HO2 := HO.out
      rw [h1] at HO2
      have HO3 := Lib.hid HO2
      clear HO2 h1 HE HO hsl HSL
      go_wp2
      go_ret
      exact ⟨_, rfl, HO3.out, hW⟩

/-- What a player wins from is a trap for the other one, and attracts nothing more. -/
theorem region_sets {g : Gm} (hv : validB g = true) (hS : ∀ i, (g.succ.getD i []).length ≤ 1000) {p : Int} (hp : p = 0 ∨ p = 1) : trapB g (1 - p) (setP (solR g) p) = true ∧ (attQ g p (setP (solR g) p)).inn = setP (solR g) p := by
  have F := valid_fits hv p hp
  have hl : (setP (solR g) p).length = g.owner.length := by rw [setP_len, solR_len hv]
  have hget : ∀ i, i < g.owner.length → ((setP (solR g) p).getD i false = true ↔ (solR g).getD i 0 = p) := fun i hi => by rw [setP_get _ _ _ (by rw [solR_len hv]; exact hi)]; simp
  have hs := ((solR_is g).2 hv).2
  obtain ⟨σ, hD⟩ := hs.dom hp
  obtain ⟨τ, hE⟩ := hs.dom (p := 1 - p) (by omega)
  have hat : ∀ v : Nat, v < g.owner.length → (atB (setP (solR g) p) (v : Int) = true ↔ (solR g).getD v 0 = p) := fun v hv => by
    unfold atB; rw [Int.toNat_natCast]; exact hget v hv
  refine ⟨?_, ?_⟩
  · rw [trapB_iff (by rw [hl]; exact F.other)]
    intro i hi hsi
    rw [hl] at hi
    have hwi := (hget i hi).1 hsi
    refine ⟨fun ho => ?_, fun ho x hx => ?_⟩
    · have hop : own g i = p := by have := valid_own hv i hi; unfold own at *; omega
      obtain ⟨h1, h2⟩ := hD.mine i ⟨hi, hwi⟩ hop
      exact ⟨_, h1, (hat _ h2.1).2 h2.2⟩
    · obtain ⟨v, rfl, hvn⟩ := valid_rg hv i hi x hx
      have := hD.other i ⟨hi, hwi⟩ (by unfold own; omega) v hx hvn
      exact (hat v hvn).2 this.2
  · have A := F.attr hS hl
    have hsub := A.least (C := fun i => (solR g).getD i 0 = p) (by rw [hl]; exact F.rg) (fun i hi h => (hget i (by omega)).1 h)
      (fun i hi ho ⟨x, hx, hc⟩ => by
        rw [hl] at hi
        obtain ⟨v, rfl, hvn⟩ := valid_rg hv i hi x hx
        rw [Int.toNat_natCast] at hc
        have ht := solR_two hv i hi
        by_cases he : (solR g).getD i 0 = p
        · exact he
        · have := (hE.other i ⟨hi, by omega⟩ (by unfold own; omega) v hx hvn).2
          omega)
      (fun i hi ho hall => by
        rw [hl] at hi
        have ht := solR_two hv i hi
        have hoi := valid_own hv i hi
        by_cases he : (solR g).getD i 0 = p
        · exact he
        · obtain ⟨h1, h2⟩ := hE.mine i ⟨hi, by omega⟩ (by unfold own at *; omega)
          have := hall _ h1
          rw [Int.toNat_natCast] at this
          have h3 : (solR g).getD (τ i) 0 = 1 - p := h2.2
          omega)
    refine ext_getB A.li fun i hi => ?_
    rw [A.li] at hi
    rw [Bool.eq_iff_iff]
    exact ⟨fun h => (hget i (by omega)).2 (hsub i hi h), fun h => A.mem i hi h⟩

set_option maxRecDepth 100000 in
set_option maxHeartbeats 8000000 in
theorem Regions_w (w : World) (vg : Value) (g : Gm) (who : Int) (hg : IsGame w vg g) (hwho : 0 ≤ who ∧ who ≤ 255) :
    Calls Try.prog 8 #[vg, .int .u8 who] w (Calm (.bool true) w) := by
  obtain ⟨v0, v1, v2, rfl, i0, i1, i2⟩ := id hg
  have HG := Lib.hid hg
  clear hg
  obtain ⟨⟨ao0, cap0, b0, off0, rfl, -⟩, -⟩ := i0
  obtain ⟨⟨ao1, cap1, b1, off1, rfl, -⟩, -⟩ := i1
  obtain ⟨V, ⟨ao2, cap2, b2, off2, rfl, -⟩, -⟩ := i2
  obtain ⟨who, rfl⟩ : ∃ k : Nat, who = k := ⟨who.toNat, by omega⟩
  have hmx : Try.prog.follows .mixedOrders = true := by kernel_rfl
  go_enter Try.func8, Try.ntmps8
  go_upto_region 1 with (fail)
  have hbg := boxGame (w := w) (v0 := Value.slice ao0 g.owner.length cap0) (v1 := Value.slice ao1 g.prio.length cap1) (v2 := Value.slice ao2 g.succ.length cap2)
  generalize (w.alloc (Obj.cells #[Value.slice ao0 g.owner.length cap0, Value.slice ao1 g.prio.length cap1, Value.slice ao2 g.succ.length cap2] 25)) = w1 at *
  have HBX : Hid (∀ W, Below w1.heap.size w1 W → W.heap[w.heap.size]? = some (Obj.cells #[Value.slice ao0 g.owner.length cap0, Value.slice ao1 g.prio.length cap1, Value.slice ao2 g.succ.length cap2] 25 (0, 0))) := fun W hW => (hW.block _ (Array.getElem?_eq_some_iff.1 hbg.1).1).trans hbg.1
  have HB := Lib.hid hbg.2
  clear hbg
  go_wp2_with fail
  refine (head_c w1).mono ?_
  rintro e w2 ⟨rfl, hW⟩
  have hX := HBX.out w2 hW
  have d0 := cell_of_row _ _ 0 _ _ _ hX
  have d1 := cell_of_row _ _ 1 _ _ _ hX
  have d2 := cell_of_row _ _ 2 _ _ _ hX
  go_wp2_with fail
  refine (small_c w2 _ g 30 (HG.out.below (HB.out.trans (hW.mono HB.out.size)))).mono ?_
  rintro e w3 ⟨rfl, hb⟩
  replace hW := hW.trans (hb.mono hW.size)
  clear hb hX d0 d1 d2
  cases hsm : smallV g 30 with
  | false =>
    have hF := HB.out.trans (hW.mono HB.out.size)
    go_wp2
    go_ret
    exact ⟨rfl, hF⟩
  | true =>
    have hsm2 : smallB g 30 = true ∧ validB g = true := by unfold smallV at hsm; rwa [Bool.and_eq_true] at hsm
    have HV := Lib.hid hsm2.2
    have HSl := Lib.hid (small_sl hsm2.1)
    have hnn := (valid_fits hsm2.2 0 (.inl rfl)).le
    have HSn := Lib.hid (valid_fits hsm2.2 0 (.inl rfl)).sn
    clear hsm hsm2
    have htm : ((who : Int)).tmod 2 = ((who % 2 : Nat) : Int) := (Int.ofNat_tmod who 2).symm
    have hm9 := Nat.mod_lt who (show 0 < 2 by omega)
    have hw1 : IntKind.i64.wrap (who : Int) = (who : Int) := IntWalk.i64_in _ ⟨by omega, by omega⟩
    have hw2 : IntKind.i64.wrap ((who % 2 : Nat) : Int) = ((who % 2 : Nat) : Int) := IntWalk.i64_in _ ⟨by omega, by omega⟩
    generalize who % 2 = p at *
    have hp : (p : Int) = 0 ∨ (p : Int) = 1 := by omega
    have HRS := Lib.hid (region_sets HV.out HSl.out hp)
    have HP := Lib.hid hp
    clear hp
    have hX := HBX.out w3 hW
    have d0 := cell_of_row _ _ 0 _ _ _ hX
    have d1 := cell_of_row _ _ 1 _ _ _ hX
    have d2 := cell_of_row _ _ 2 _ _ _ hX
    go_wp2_with fail
    refine (SolveR_c w3 _ g (HG.out.below (HB.out.trans (hW.mono HB.out.size))) HSl.out).mono ?_
    rintro e w4 ⟨vs, rfl, hi, hb⟩
    replace hW := hW.trans (hb.mono hW.size)
    clear hb hX d0 d1 d2 htm hw1 hw2
    obtain ⟨⟨az, cz, bz, oz, rfl, gs⟩, -⟩ := id hi
    have HIs := Lib.hid hi
    have HGs := Lib.hid gs
    clear gs hi
    have HSL := Lib.hid (solR_len HV.out)
    have hX := HBX.out w4 hW
    have d2 := cell_of_row _ _ 2 _ _ _ hX
    rw [HSn.out] at d2
    rw [HSL.out] at HGs
    have hneq : ((g.owner.length : Int) != (g.owner.length : Int)) = false := by simp
    have HF4 := Lib.hid (HB.out.trans (hW.mono HB.out.size))
    have HBX4 : Hid (∀ W, Below w4.heap.size w4 W → W.heap[w.heap.size]? = some (Obj.cells #[Value.slice ao0 g.owner.length cap0, Value.slice ao1 g.prio.length cap1, Value.slice ao2 g.succ.length cap2] 25 (0, 0))) := fun W h => HBX.out W (hW.trans (h.mono hW.size))
    rw [HSn.out] at HBX4
    have HG2 : Hid (∀ W, Below w4.heap.size w4 W → IsGame W (.agg #[Value.slice ao0 g.owner.length cap0, Value.slice ao1 g.prio.length cap1, Value.slice ao2 g.owner.length cap2]) g) := fun W h => by
      have h9 := HG.out.below (HF4.out.trans (h.mono HF4.out.size))
      rw [HSn.out] at h9
      exact h9
    clear hX HBX hW HB
    rw [HSn.out, HSL.out]
    rw [HSL.out] at HIs
    go_wp2
    clear d2 hneq
    go_loopg [8] g.owner.length (fun gh i wr => ∃ k : Nat, gh = g.owner.length - k ∧ i = .int .i64 k ∧ k ≤ g.owner.length ∧ Below w4.heap.size w4 wr)
    case atStart => exact ⟨0, by omega, rfl, by omega, Below.refl _ _⟩
    case round =>
      obtain ⟨k, rfl, rfl, hk, hW⟩ := hrel
      by_cases hlt : k < g.owner.length
      · have hgs := HGs.out
        obtain rfl := hgs.ad (by omega)
        have e4 := cellB hW (hgs.el k hlt)
        unfold ivF at e4
        have ht := solR_two HV.out k hlt
        clear hgs
        rcases ht with hx | hx
        all_goals
          rw [hx] at e4
          clear hx
          go_wp2
          go_roundg (g.owner.length - (k + 1))
          case rel => exact ⟨k + 1, rfl, by go_num, by omega, hW⟩
          case measure => omega
      · obtain rfl : k = g.owner.length := by omega
        have hX := HBX4.out wr hW
        have d0 := cell_of_row _ _ 0 _ _ _ hX
        have d1 := cell_of_row _ _ 1 _ _ _ hX
        have d2 := cell_of_row _ _ 2 _ _ _ hX
        go_wp2_with fail
        refine (won_c wr _ _ g (solR g) (p : Int) (HG2.out wr hW) (HIs.out.below hW) (by rw [HSL.out, HSn.out]) (by rw [HSL.out]; exact hnn)).mono ?_
        rintro e w5 ⟨va, rfl, hO, hb⟩
        replace hW := hW.trans (hb.mono hW.size)
        have hOl : (setP (solR g) (p : Int)).length = g.owner.length := by rw [setP_len, HSL.out]
        have HO := Lib.hid (hO.is (by rw [hOl]; unfold maxN; omega))
        have HOl := Lib.hid hOl
        clear hb hX d0 d1 d2 hO hOl
        have hX := HBX4.out w5 hW
        have d0 := cell_of_row _ _ 0 _ _ _ hX
        have d1 := cell_of_row _ _ 1 _ _ _ hX
        have d2 := cell_of_row _ _ 2 _ _ _ hX
        go_wp2_with fail
        refine (Attract_c w5 _ va g (p : Int) (setP (solR g) (p : Int)) (HG2.out w5 hW) HO.out HSl.out).mono ?_
        rintro e w6 ⟨vb, vm, rfl, hA, -, hb⟩
        have hfit : fitsB g (p : Int) (setP (solR g) (p : Int)).length = true := by
          rw [HOl.out]; unfold fitsB; rw [HV.out]; rcases HP.out with e | e <;> simp [e]
        rw [hfit, if_pos rfl, HRS.out.2] at hA
        have HA := Lib.hid (hA.is (by rw [HOl.out]; unfold maxN; omega))
        have HO6 := Lib.hid (HO.out.below hb)
        replace hW := hW.trans (hb.mono hW.size)
        clear hb hX d0 d1 d2 hA hfit
        have hX := HBX4.out w6 hW
        have d0 := cell_of_row _ _ 0 _ _ _ hX
        have d1 := cell_of_row _ _ 1 _ _ _ hX
        have d2 := cell_of_row _ _ 2 _ _ _ hX
        have hs1 : IntKind.i64.wrap (1 - (p : Int)) = 1 - (p : Int) := IntWalk.i64_in _ ⟨by omega, by omega⟩
        go_wp2_with fail
        refine (Trap_c w6 _ va g (1 - (p : Int)) (setP (solR g) (p : Int)) (HG2.out w6 hW) HO6.out).mono ?_
        rintro e w7 ⟨rfl, hb⟩
        have hfit : fitsB g (1 - (p : Int)) (setP (solR g) (p : Int)).length = true := by
          rw [HOl.out]; unfold fitsB; rw [HV.out]; rcases HP.out with e | e <;> simp [e]
        rw [hfit, HRS.out.1, Bool.and_true]
        have HA7 := Lib.hid (HA.out.below hb)
        have HO7 := Lib.hid (HO6.out.below hb)
        replace hW := hW.trans (hb.mono hW.size)
        clear hb hX d0 d1 d2 hfit
        go_wp2_with fail
        refine (SameB_c w7 vb va (setP (solR g) (p : Int)) HA7.out HO7.out).mono ?_
        rintro e w8 ⟨rfl, hb⟩
        have hF := HF4.out.trans ((hW.trans (hb.mono hW.size)).mono HF4.out.size)
        clear hb hW
        go_wp2
        go_ret
        exact ⟨rfl, hF⟩

end Go.Proofs.Ytjhafakkadnfmaa
