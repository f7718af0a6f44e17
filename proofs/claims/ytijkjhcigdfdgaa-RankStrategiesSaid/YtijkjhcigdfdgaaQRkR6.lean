/- What the reference's Swap computes. -/
import Derived.Deep.QuietTactic
import Derived.BigQuiet
import Derived.Test.YtijkjhcigdfdgaaQRkS
namespace Go.Proofs.Ytijkjhcigdfdgaa
open Go.RowKit

theorem gameEnd {w wf : World} {x0 x1 x2 : Value} {g : Gm} (hb : Below w.heap.size w wf) (h0 : IsInts wf x0 g.owner) (h1 : IsInts wf x1 g.prio) (h2 : IsRows wf x2 g.succ) : NewGame g w (.returned (.agg #[x0, x1, x2])) wf := ⟨_, rfl, ⟨_, _, _, rfl, h0, h1, h2⟩, hb⟩

/-- A game under construction whose rows are another's. -/
structure SB (w : World) (B z : Nat) (v0 v1 v2 : Value) (o p : List Int) : Prop where
  box : w.heap[z]? = some (.cells #[v0, v1, v2] 25 (0, 0))
  zB : B ≤ z
  o : OI w B v0 o
  p : OI w B v1 p
  ap : Apart v0 v1
  n0 : v0.ownBlock ≠ some z
  n1 : v1.ownBlock ≠ some z
section
variable {w w' : World} {B z : Nat} {v0 v1 v2 : Value} {o p : List Int}
theorem SB.zlt (h : SB w B z v0 v1 v2 o p) : z < w.heap.size := (Array.getElem?_eq_some_iff.1 h.box).1
theorem SB.below (h : SB w B z v0 v1 v2 o p) (hb : Below w.heap.size w w') : SB w' B z v0 v1 v2 o p :=
  { h with box := (hb.block _ h.zlt).trans h.box, o := h.o.below hb, p := h.p.below hb }
theorem SB.stepO (h : SB w B z v0 v1 v2 o p) {v0' : Value} {x : Int} (ho : OI w' B v0' (o ++ [x])) (hg : w.grownBy w' v0.ownBlock) (hm : Moved w v0 v0') (hB : B ≤ w.heap.size) :
    w'.heap[z]? = some (.cells #[v0, v1, v2] 25 (0, 0)) ∧ SB (w'.setCell ⟨z, 0, none⟩ v0') B z v0' v1 v2 (o ++ [x]) p ∧ Below B w (w'.setCell ⟨z, 0, none⟩ v0') := by
  have hbox : w'.heap[z]? = some (.cells #[v0, v1, v2] 25 (0, 0)) := by rw [hg.block z h.zlt (Ne.symm h.n0)]; exact h.box
  have hn : v0'.ownBlock ≠ some z := fun e => by
    rcases hm z e with e | e
    · exact h.n0 e
    · have := h.zlt; omega
  refine ⟨hbox, { box := heap_setCell_same w' z 0 _ _ v0' hbox, zB := h.zB, o := ho.setNe hn, p := (h.p.grownA hg h.ap.symm).setNe h.n1, ap := (h.ap.symm.moved hm h.p.lt').symm, n0 := hn, n1 := h.n1 }, ((Only.of_grown hg).below B (fun k hk => h.o.ge k hk) hB).setCell h.zB _⟩
theorem SB.stepP (h : SB w B z v0 v1 v2 o p) {v1' : Value} {x : Int} (ho : OI w' B v1' (p ++ [x])) (hg : w.grownBy w' v1.ownBlock) (hm : Moved w v1 v1') (hB : B ≤ w.heap.size) :
    w'.heap[z]? = some (.cells #[v0, v1, v2] 25 (0, 0)) ∧ SB (w'.setCell ⟨z, 1, none⟩ v1') B z v0 v1' v2 o (p ++ [x]) ∧ Below B w (w'.setCell ⟨z, 1, none⟩ v1') := by
  have hbox : w'.heap[z]? = some (.cells #[v0, v1, v2] 25 (0, 0)) := by rw [hg.block z h.zlt (Ne.symm h.n1)]; exact h.box
  have hn : v1'.ownBlock ≠ some z := fun e => by
    rcases hm z e with e | e
    · exact h.n1 e
    · have := h.zlt; omega
  refine ⟨hbox, { box := heap_setCell_same w' z 1 _ _ v1' hbox, zB := h.zB, o := (h.o.grownA hg h.ap).setNe h.n0, p := ho.setNe hn, ap := h.ap.moved hm h.o.lt', n0 := h.n0, n1 := hn }, ((Only.of_grown hg).below B (fun k hk => h.p.ge k hk) hB).setCell h.zB _⟩
end

set_option maxRecDepth 100000 in
set_option maxHeartbeats 8000000 in
theorem RSwap_c (w : World) (vg : Value) (g : Gm) (hg : IsGame w vg g) :
    Calls Try.prog 55 #[vg] w (NewGame (swapR g) w) := by
  have hgx := hg
  obtain ⟨v0, v1, v2, rfl, i0, i1, i2⟩ := hg
  have HI2 := Lib.hid i2
  obtain ⟨⟨ao0, cap0, b0, off0, rfl, g0⟩, i0⟩ := i0
  obtain ⟨⟨ao1, cap1, b1, off1, rfl, g1⟩, i1⟩ := i1
  obtain ⟨V, ⟨ao2, cap2, b2, off2, rfl, g2⟩, hr⟩ := i2
  clear i0 i1 g2 hr
  cases hv : validB g with
  | false =>
    have HR : Hid (swapR g = ⟨[], [], []⟩) := by show _ = _; simp [swapR, hv]
    go_enter Try.func55, Try.ntmps55
    go_wp2_with fail
    refine (RValid_c _ _ g (hgx.below (by repeat (first | exact Below.refl _ _ | assumption | (refine belA ?_ _) | (refine belD ?_ _))))).mono ?_
    rintro e w1 ⟨rfl, hb1⟩
    rw [hv]
    have hF : Fr w w1 #[Value.slice ao0 g.owner.length cap0, Value.slice ao1 g.prio.length cap1, Value.slice ao2 g.succ.length cap2] :=
      ⟨Boxed.start ((bel_box _).trans (hb1.mono (by simp))), (hb1.block _ (by simp)).trans (by (repeat (rw [alloc_get]; first | rw [if_pos (by first | (simp; done) | (simp; omega))] | rw [if_neg (by first | (simp; done) | (simp; omega))])); (try rfl))⟩
    obtain ⟨⟨z0, z1, z2⟩, y0, y1, y2⟩ := hF.res
    clear hb1
    go_wp2
    (have hc3 := three_set (a := Value.slice none 0 0) (b := Value.slice none 0 0) (c := Value.slice none 0 0) hF.rc); (have c0 := cell_of_row _ _ 0 _ _ _ hc3); (have c1 := cell_of_row _ _ 1 _ _ _ hc3); (have c2 := cell_of_row _ _ 2 _ _ _ hc3); (refine bodyPost_ret (v := .agg #[Value.slice none 0 0, Value.slice none 0 0, Value.slice none 0 0]) (by simp [results, Try.results55, go_sem, c0, c1, c2]) rfl ?_)
    exact nilGame_end HR.out hF
  | true =>
    have hn0 := g0.nb
    obtain ⟨la, lb, lc⟩ := valid_lens hv
    have HON : Hid (g.owner.length ≤ 3000 ∧ g.prio.length = g.owner.length ∧ g.succ.length = g.owner.length) := ⟨la, lb, lc⟩
    have HVB := Lib.hid (fun k hk => swap_bounds hv k hk)
    have HNO : Hid (∀ k, k < g.owner.length → g.prio.getD k 0 = 30000 → swapR g = ⟨[], [], []⟩) := fun k hk he => by
      have : inB 29999 g.prio = false := by
        cases h : inB 29999 g.prio with
        | false => rfl
        | true =>
          have hk' : k < g.prio.length := by omega
          have := List.all_eq_true.1 h _ (List.getElem_mem hk')
          rw [getD_lt _ _ _ hk'] at he
          simp [he] at this
      simp [swapR, this]
    have HYES : Hid ((∀ k, k < g.owner.length → g.prio.getD k 0 ≠ 30000) → swapR g = swapG g) := fun h => by
      have : inB 29999 g.prio = true := List.all_eq_true.2 fun x hx => by
        obtain ⟨i, hi, rfl⟩ := List.getElem_of_mem hx
        have h1 := h i (by omega)
        have h2 := (HVB.out i (by omega)).2
        rw [getD_lt _ _ _ hi] at h1 h2
        simp; omega
      simp [swapR, this, hv]
    clear la lb lc
    go_enter Try.func55, Try.ntmps55
    go_wp2_with fail
    refine (RValid_c _ _ g (hgx.below (by repeat (first | exact Below.refl _ _ | assumption | (refine belA ?_ _) | (refine belD ?_ _))))).mono ?_
    rintro e w1 ⟨rfl, hb1⟩
    rw [hv]
    have hF : Fr w w1 #[Value.slice ao0 g.owner.length cap0, Value.slice ao1 g.prio.length cap1, Value.slice ao2 g.succ.length cap2] :=
      ⟨Boxed.start ((bel_box _).trans (hb1.mono (by simp))), (hb1.block _ (by simp)).trans (by (repeat (rw [alloc_get]; first | rw [if_pos (by first | (simp; done) | (simp; omega))] | rw [if_neg (by first | (simp; done) | (simp; omega))])); (try rfl))⟩
    obtain ⟨⟨d0, d1, d2⟩, -⟩ := hF.cells
    clear hb1 hv
    obtain ⟨B, hBe⟩ : ∃ B, B = w.heap.size + 2 := ⟨_, rfl⟩
    have hB1 : B ≤ w1.heap.size := by have := hF.lt; omega
    have hSB : SB (w1.alloc (.cells #[.slice none 0 0, .slice none 0 0, .slice ao2 g.succ.length cap2] 25)) B w1.heap.size (.slice none 0 0) (.slice none 0 0) (.slice ao2 g.succ.length cap2) [] [] :=
      ⟨heap_alloc_new _ _, hB1, OI_nil _ _, OI_nil _ _, apart_none rfl, (fun e => by cases e), (fun e => by cases e)⟩
    have hBl1 : Below B w1 (w1.alloc (.cells #[.slice none 0 0, .slice none 0 0, .slice ao2 g.succ.length cap2] 25)) := (bel_box _).mono hB1
    go_upto_region 4 with (fail)
    generalize w1.alloc (.cells #[.slice none 0 0, .slice none 0 0, .slice ao2 g.succ.length cap2] 25) = w2 at *
    generalize w1.heap.size = z at *
    go_wp2
    clear d0 d1 d2
    go_loopg [4] g.owner.length (fun gh i wr => ∃ (k : Nat) (x0 x1 : Value), gh = g.owner.length - k ∧ i = .int .i64 k ∧ k ≤ g.owner.length ∧ Below B w1 wr ∧ SB wr B z x0 x1 (.slice ao2 g.succ.length cap2) ((g.owner.take k).map (1 - ·)) ((g.prio.take k).map (· + 1)) ∧ Hid (∀ j, j < k → g.prio.getD j 0 ≠ 30000))
    case atStart => exact ⟨0, _, _, by omega, rfl, by omega, hBl1, hSB, fun j hj => absurd hj (by omega)⟩
    case round =>
      obtain ⟨k, x0, x1, hgk, rfl, hk, hB, hG, HP⟩ := hrel
      have HG := Lib.hid hgk
      clear hgk hSB hBl1
      have hFw := hF.step (hBe ▸ hB)
      obtain ⟨⟨d0, d1, d2⟩, -⟩ := hFw.cells
      by_cases hlt : k < g.owner.length
      · have hn1 : k < g.prio.length := by rw [HON.out.2.1]; exact hlt
        obtain rfl := g0.ad (by omega)
        obtain rfl := g1.ad (by omega)
        have how := g0.el k hlt
        have hpw := g1.el k hn1
        unfold ivF at how hpw
        obtain ⟨⟨ob0, ob1⟩, ⟨pb0, pb1⟩⟩ := HVB.out k hlt
        have HNK : Hid (g.prio.getD k 0 = 30000 → swapR g = ⟨[], [], []⟩) := HNO.out k hlt
        have HPK : Hid (g.prio.getD k 0 ≠ 30000 → ∀ j, j < k + 1 → g.prio.getD j 0 ≠ 30000) := fun h j hj => by
          by_cases e : j = k
          · rw [e]; exact h
          · exact HP.out j (by omega)
        have HO1 : Hid ((g.owner.take (k + 1)).map (1 - ·) = (g.owner.take k).map (1 - ·) ++ [1 - g.owner.getD k 0]) := by
          show _ = _
          rw [List.take_succ_eq_append_getElem hlt, List.map_append, getD_lt _ _ _ hlt]; rfl
        have HP1 : Hid ((g.prio.take (k + 1)).map (· + 1) = (g.prio.take k).map (· + 1) ++ [g.prio.getD k 0 + 1]) := by
          show _ = _
          rw [List.take_succ_eq_append_getElem hn1, List.map_append, getD_lt _ _ _ hn1]; rfl
        have hGL0 : ((g.owner.take k).map (1 - ·)).length ≤ 3000 := by have := HON.out.1; simp; omega
        have hGL1 : ((g.prio.take k).map (· + 1)).length ≤ 3000 := by have := HON.out; simp; omega
        have HC0 : Hid (∀ W : World, Below w.heap.size w W → W.cell? ⟨b0, off0 + k, none⟩ = some (.int .i64 (g.owner.getD k 0))) := fun W hW => cellB hW how
        have HC1 : Hid (∀ W : World, Below w.heap.size w W → W.cell? ⟨b1, off1 + k, none⟩ = some (.int .i64 (g.prio.getD k 0))) := fun W hW => cellB hW hpw
        clear how hpw
        generalize g.owner.getD k 0 = ow at *
        generalize g.prio.getD k 0 = pw at *
        generalize (g.owner.take k).map (1 - ·) = lo at *
        generalize (g.prio.take k).map (· + 1) = lp at *
        obtain ⟨w4, rfl⟩ : ∃ w4 : World, w4 = wr := ⟨_, rfl⟩
        have c1 := HC1.out _ hFw.bx.bl
        have HGx := Lib.hid hG
        have HFx := Lib.hid hFw
        have HBo := Lib.hid hB
        have hi0 : (0 : Int) ≤ k := Int.natCast_nonneg _
        have hi1 : (k : Int) < g.prio.length := by omega
        clear hG hFw hB
        by_cases hpe : pw = 30000
        · have hpt : (pw == 30000) = true := by rw [hpe]; rfl
          have HR := Lib.hid (HNK.out hpe)
          clear hpe
          go_wp2
          refine wp_region_quiet_lit (by kernel_rfl) (by kernel_rfl) ?_
          ((repeat (go_big_quiet_step ((go_at_call 47; refine (greatest_c _).mono ?_; rintro e w' ⟨rfl, rfl⟩; exact ⟨rfl, _, rfl⟩)))); refine wpQuiet_nil ?_; rintro _ ⟨nq, rfl⟩)
          have hF5 := HFx.out.step (below_draws _ _ nq)
          clear d0 d1 d2 c1
          generalize w4.drewN nq = w5 at *
          obtain ⟨⟨z0, z1, z2⟩, y0, y1, y2⟩ := hF5.res
          go_wp2
          (have hc3 := three_set (a := Value.slice none 0 0) (b := Value.slice none 0 0) (c := Value.slice none 0 0) hF5.rc); (have c0 := cell_of_row _ _ 0 _ _ _ hc3); (have c1 := cell_of_row _ _ 1 _ _ _ hc3); (have c2 := cell_of_row _ _ 2 _ _ _ hc3); (refine bodyPost_ret (v := .agg #[Value.slice none 0 0, Value.slice none 0 0, Value.slice none 0 0]) (by simp [results, Try.results55, go_sem, c0, c1, c2]) rfl ?_)
          exact nilGame_end HR.out hF5
        have hpt : (pw == 30000) = false := by simpa using hpe
        have HPN := Lib.hid (HPK.out hpe)
        clear hpe
        go_wp2
        refine wp_region_quiet_lit (by kernel_rfl) (by kernel_rfl) ?_
        ((repeat (go_big_quiet_step ((go_at_call 47; refine (greatest_c _).mono ?_; rintro e w' ⟨rfl, rfl⟩; exact ⟨rfl, _, rfl⟩)))); refine wpQuiet_nil ?_; rintro _ ⟨nq, rfl⟩)
        have hF5 := HFx.out.step (below_draws _ _ nq)
        have hG5 := HGx.out.below (below_draws _ _ nq)
        have HBl5 : Hid (Below B w1 (w4.drewN nq)) := HBo.out.trans (below_draws _ _ nq)
        clear d0 d1 d2 c1 hpt HGx HFx HBo hi1
        generalize w4.drewN nq = w5 at *
        have hBr : B ≤ w5.heap.size := Nat.le_of_lt (Nat.lt_of_le_of_lt hG5.zB hG5.zlt)
        have HFx := Lib.hid hF5
        have HGx := Lib.hid hG5
        have q0 : w5.cell? ⟨z, 0, none⟩ = some x0 := cell_of_row _ _ 0 _ _ _ hG5.box
        have d0 := hF5.cells.1.1
        have c0 := HC0.out _ hF5.bx.bl
        have hzl := hG5.zlt
        have hi1 : (k : Int) < g.owner.length := by omega
        have hGo : OI w5 B x0 lo := hG5.o
        clear hF5 hG5
        have hwr0 : IntKind.i64.wrap (1 - ow) = 1 - ow := IntWalk.i64_in _ ⟨by omega, by omega⟩
        have hwr1 : IntKind.i64.wrap (pw + 1) = pw + 1 := IntWalk.i64_in _ ⟨by omega, by omega⟩
        go_upto_region 9 with (fail)
        go_cut [] (fun wx => ∃ (y0 : Value) (wz : World), wz = wx ∧ SB wz B z y0 x1 (.slice ao2 g.succ.length cap2) (lo ++ [1 - ow]) lp ∧ Below B w5 wz)
        case first =>
          go_region_law ((rw [if_pos (by rfl)]; refine wp_app_int w5 _ _ (1 - ow) (by rfl) B x0 _ (by rfl) hGo (by rfl) (by omega) hBr ?_; intro y0 w6 hown6 hg6 hmv6; obtain ⟨aoy, capy, hvy⟩ := hown6.slice; rw [List.length_append, List.length_singleton] at hvy; subst hvy; have HST := Lib.hid (HGx.out.stepO hown6 hg6 hmv6 hBr); have k0 : w6.cell? ⟨z, 0, none⟩ = some x0 := cell_of_row _ _ 0 _ _ _ HST.out.1; have f0 : w6.frozen? ⟨z, 0, none⟩ = false := frozen_of_row _ _ 0 _ _ HST.out.1))
          all_goals
            go_wp2_with fail
            go_meet
            case rel => exact ⟨_, _, rfl, HST.out.2⟩
        case rest =>
          obtain ⟨y1, w7, rfl, hG7, hK7⟩ := hcut
          clear q0 d0 c0 hzl hi1 hGo
          have HF7 := Lib.hid (HFx.out.step (hBe ▸ hK7))
          have HBl7 := Lib.hid (HBl5.out.trans hK7)
          have hBs7 : B ≤ w7.heap.size := Nat.le_trans hBr hK7.size
          have HG7 := Lib.hid hG7
          clear hG7 hK7 HFx HBl5 HGx hBr
          have q0 : w7.cell? ⟨z, 1, none⟩ = some x1 := cell_of_row _ _ 1 _ _ _ HG7.out.box
          have d0 := HF7.out.cells.1.2.1
          have c0 := HC1.out _ HF7.out.bx.bl
          have hzl := HG7.out.zlt
          have hi1 : (k : Int) < g.prio.length := by omega
          have hGo : OI w7 B x1 lp := HG7.out.p
          go_wp2_with fail
          go_upto_region 10 with (fail)
          go_region_law ((rw [if_pos (by rfl)]; refine wp_app_int w7 _ _ (pw + 1) (by rfl) B x1 _ (by rfl) hGo (by rfl) (by omega) hBs7 ?_; intro y0 w6 hown6 hg6 hmv6; obtain ⟨aoy, capy, hvy⟩ := hown6.slice; rw [List.length_append, List.length_singleton] at hvy; subst hvy; have HST := Lib.hid (HG7.out.stepP hown6 hg6 hmv6 hBs7); have k0 : w6.cell? ⟨z, 1, none⟩ = some x1 := cell_of_row _ _ 1 _ _ _ HST.out.1; have f0 : w6.frozen? ⟨z, 1, none⟩ = false := frozen_of_row _ _ 1 _ _ HST.out.1))
          all_goals
            go_wp2_with fail
            go_roundg (g.owner.length - (k + 1))
            case measure => have := HG.out; omega
            case rel => exact ⟨k + 1, _, _, rfl, by go_num, by omega, HBl7.out.trans HST.out.2.2, by rw [HO1.out, HP1.out]; exact HST.out.2.1, HPN⟩
      · obtain rfl : k = g.owner.length := by omega
        have HR := Lib.hid (HYES.out HP.out)
        have hlen := HON.out
        rw [List.take_length, List.take_of_length_le (by omega)] at hG
        have hI0 : ∀ x ∈ g.owner.map (1 - ·), I64 x := fun x hx => by
          obtain ⟨y, hy, rfl⟩ := List.mem_map.1 hx
          obtain ⟨i, hi, rfl⟩ := List.getElem_of_mem hy
          have := (HVB.out i hi).1
          rw [getD_lt _ _ _ hi] at this
          unfold I64; omega
        have hI1 : ∀ x ∈ g.prio.map (· + 1), I64 x := fun x hx => by
          obtain ⟨y, hy, rfl⟩ := List.mem_map.1 hx
          obtain ⟨i, hi, rfl⟩ := List.getElem_of_mem hy
          have := (HVB.out i (by omega)).2
          rw [getD_lt _ _ _ hi] at this
          unfold I64; omega
        have hL0 : (g.owner.map (1 - ·)).length ≤ 3000 := by simp; omega
        have hL1 : (g.prio.map (· + 1)).length ≤ 3000 := by simp; omega
        have hSG : swapG g = ⟨g.owner.map (1 - ·), g.prio.map (· + 1), g.succ⟩ := rfl
        have HSG := Lib.hid hSG
        generalize g.owner.map (1 - ·) = lo at *
        generalize g.prio.map (· + 1) = lp at *
        have HII : Hid ((lo.length ≤ 3000 ∧ ∀ x ∈ lo, I64 x) ∧ lp.length ≤ 3000 ∧ ∀ x ∈ lp, I64 x) := ⟨⟨hL0, hI0⟩, hL1, hI1⟩
        clear hI0 hI1 hL0 hL1 hSG hlen
        have HGg := Lib.hid hG
        have hq0 := cell_of_row _ _ 0 _ _ _ hG.box
        have hq1 := cell_of_row _ _ 1 _ _ _ hG.box
        have hq2 := cell_of_row _ _ 2 _ _ _ hG.box
        obtain ⟨oa0, oc0, hx0⟩ := hG.o.slice
        obtain ⟨oa1, oc1, hx1⟩ := hG.p.slice
        subst hx0 hx1
        obtain ⟨⟨z0, z1, z2⟩, y0, y1, y2⟩ := hFw.res
        have HBB : Hid (w.heap.size + 1 < B) := by show _ < _; omega
        clear hG hB
        go_wp2
        (have hc3 := three_set (a := Value.slice oa0 lo.length oc0) (b := Value.slice oa1 lp.length oc1) (c := Value.slice ao2 g.succ.length cap2) hFw.rc); (have c0 := cell_of_row _ _ 0 _ _ _ hc3); (have c1 := cell_of_row _ _ 1 _ _ _ hc3); (have c2 := cell_of_row _ _ 2 _ _ _ hc3); (refine bodyPost_ret (v := .agg #[Value.slice oa0 lo.length oc0, Value.slice oa1 lp.length oc1, Value.slice ao2 g.succ.length cap2]) (by simp [results, Try.results55, go_sem, c0, c1, c2]) rfl ?_)
        rw [HR.out, HSG.out]
        have hm : ∀ n, n ≤ 3000 → n ≤ maxN := fun n hn => by simp only [maxN]; omega
        exact gameEnd (below_three hFw.bx.bl (by omega)) ((((HGg.out.o.setFar HBB.out).setFar HBB.out).setFar HBB.out).is (hm _ HII.out.1.1) HII.out.1.2) ((((HGg.out.p.setFar HBB.out).setFar HBB.out).setFar HBB.out).is (hm _ HII.out.2.1) HII.out.2.2) (HI2.out.below (below_three hFw.bx.bl (by omega)))

end Go.Proofs.Ytijkjhcigdfdgaa
