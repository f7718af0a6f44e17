/- Swap's contract, with a result that stays where old memory is written. -/
import Derived.Test.YtijkjhcigdfdgaaQRkP4
namespace Go.Proofs.Ytijkjhcigdfdgaa
open Go.RowKit
open Go.RowKit
open Go Go.RowKit
open Go.RowKit Go.Maps Go.WideMaps
def NewGameK (g : Gm) (w : World) (e : Ending) (w' : World) : Prop := ∃ v, e = .returned v ∧ (∀ W, Only (fun q => q < w.heap.size) w' W → IsGame W v g) ∧ Below w.heap.size w w'
theorem rows_only {S : Nat → Prop} {w w' : World} {base n : Nat} {v : Value} {l : List Value} (h : w.ownsRow base 22 1 v n l) (hg : Only S w w') (hne : ∀ k, v.ownBlock = some k → ¬ S k) : w'.ownsRow base 22 1 v n l := by
  refine ⟨h.1, ?_⟩
  rcases h.2 with hn | ⟨g, cap, cur, rfl, hb, hgg, rest⟩
  · exact .inl hn
  · exact .inr ⟨g, cap, cur, rfl, hb, by rw [hg.block g (Array.getElem?_eq_some_iff.1 hgg).1 (hne g rfl)]; exact hgg, rest⟩
theorem GB.only {w w' : World} {B z : Nat} {v0 v1 v2 : Value} {vals others : List Value} {gm : Gm} {S : Nat → Prop} (h : GB w B z v0 v1 v2 vals gm others) (ho : Only S w w') (hS : ∀ q, S q → q < B) : GB w' B z v0 v1 v2 vals gm others :=
  ⟨(ho.block z (Array.getElem?_eq_some_iff.1 h.box).1 fun e => by have := hS z e; have := h.zB; omega).trans h.box, h.zB,
    h.o.only ho fun k e1 e2 => by have := hS k e2; have := h.o.ge k e1; omega,
    h.p.only ho fun k e1 e2 => by have := hS k e2; have := h.p.ge k e1; omega,
    rows_only h.r ho fun k e1 e2 => by have := hS k e2; have := (World.ownsRow.lt h.r k e1).1; omega,
    fun j hj => (h.e j hj).only ho fun k e1 e2 => by have := hS k e2; have := (h.e j hj).ge k e1; omega,
    h.sep, fun u hu g hg => Nat.lt_of_lt_of_le (h.lt u hu g hg) ho.size⟩
theorem nilGame_endK {g : Gm} {w wr : World} {cs : Array Value} {a b c : Value} (HR : g = ⟨[], [], []⟩) (hF : Fr w wr cs) :
    NewGameK g w (.returned (.agg #[.slice none 0 0, .slice none 0 0, .slice none 0 0])) (((wr.setCell ⟨w.heap.size + 1, 0, none⟩ a).setCell ⟨w.heap.size + 1, 1, none⟩ b).setCell ⟨w.heap.size + 1, 2, none⟩ c) := by
  rw [HR]
  exact ⟨_, rfl, fun _ _ => ⟨_, _, _, rfl, ints_nil _, ints_nil _, rows_nil _⟩, below_three hF.bx.bl (by omega)⟩

set_option maxHeartbeats 8000000 in
theorem Swap_k (w : World) (vg : Value) (g : Gm) (hg : IsGame w vg g) (hS : ∀ i, (g.succ.getD i []).length ≤ 1000) :
    Calls Try.prog 49 #[vg] w (NewGameK (swapR g) w) := by
  have hgx := hg
  obtain ⟨v0, v1, v2, rfl, i0, i1, i2⟩ := hg
  have HI1 := Lib.hid i1
  obtain ⟨⟨ao0, cap0, b0, off0, rfl, g0⟩, i0⟩ := i0
  obtain ⟨⟨ao1, cap1, b1, off1, rfl, g1⟩, i1⟩ := i1
  obtain ⟨V, ⟨ao2, cap2, b2, off2, rfl, g2⟩, hr⟩ := i2
  cases hv : validB g with
  | false =>
    have HR : Hid (swapR g = ⟨[], [], []⟩) := by show _ = _; simp [swapR, hv]
    go_enter Try.func49, Try.ntmps49
    go_wp2_with fail
    refine (AValid_c _ _ g (hgx.below (by repeat (first | exact Below.refl _ _ | assumption | (refine belA ?_ _) | (refine belD ?_ _))))).mono ?_
    rintro e w1 ⟨rfl, hb1⟩
    rw [hv]
    have hF : Fr w w1 #[Value.slice ao0 g.owner.length cap0, Value.slice ao1 g.prio.length cap1, Value.slice ao2 g.succ.length cap2] :=
      ⟨Boxed.start ((bel_box _).trans (hb1.mono (by simp))), (hb1.block _ (by simp)).trans (by (repeat (rw [alloc_get]; first | rw [if_pos (by first | (simp; done) | (simp; omega))] | rw [if_neg (by first | (simp; done) | (simp; omega))])); (try rfl))⟩
    obtain ⟨⟨z0, z1, z2⟩, y0, y1, y2⟩ := hF.res
    clear hb1
    go_wp2
    (have hc3 := three_set (a := Value.slice none 0 0) (b := Value.slice none 0 0) (c := Value.slice none 0 0) hF.rc); (have c0 := cell_of_row _ _ 0 _ _ _ hc3); (have c1 := cell_of_row _ _ 1 _ _ _ hc3); (have c2 := cell_of_row _ _ 2 _ _ _ hc3); (refine bodyPost_ret (v := .agg #[Value.slice none 0 0, Value.slice none 0 0, Value.slice none 0 0]) (by simp [results, Try.results49, go_sem, c0, c1, c2]) rfl ?_)
    exact nilGame_endK HR.out hF
  | true =>
    cases hq : inB 29999 g.prio with
    | false =>
      have HR : Hid (swapR g = ⟨[], [], []⟩) := by show _ = _; simp [swapR, hq]
      go_enter Try.func49, Try.ntmps49
      go_wp2_with fail
      refine (AValid_c _ _ g (hgx.below (by repeat (first | exact Below.refl _ _ | assumption | (refine belA ?_ _) | (refine belD ?_ _))))).mono ?_
      rintro e w1 ⟨rfl, hb1⟩
      rw [hv]
      have hF : Fr w w1 #[Value.slice ao0 g.owner.length cap0, Value.slice ao1 g.prio.length cap1, Value.slice ao2 g.succ.length cap2] :=
        ⟨Boxed.start ((bel_box _).trans (hb1.mono (by simp))), (hb1.block _ (by simp)).trans (by (repeat (rw [alloc_get]; first | rw [if_pos (by first | (simp; done) | (simp; omega))] | rw [if_neg (by first | (simp; done) | (simp; omega))])); (try rfl))⟩
      obtain ⟨⟨d0, d1, d2⟩, -⟩ := hF.cells
      clear hb1
      go_wp2_with fail
      refine (within_c _ _ [g.prio] _ (IsRows.one _ _ (HI1.out.below hF.bx.bl) (by simp))).mono ?_
      rintro e w2 ⟨rfl, n2, rfl⟩
      rw [show withinB 29999 [g.prio] = false from by simp [withinB, hq]]
      have hF2 := hF.step (((bel_box (.cells #[Value.slice ao1 g.prio.length cap1] 22)).mono hF.lt).trans (below_draws _ _ n2))
      clear hF d0 d1 d2
      generalize ((w1.alloc (.cells #[Value.slice ao1 g.prio.length cap1] 22)).drewN n2) = w3 at *
      obtain ⟨⟨z0, z1, z2⟩, y0, y1, y2⟩ := hF2.res
      go_wp2
      (have hc3 := three_set (a := Value.slice none 0 0) (b := Value.slice none 0 0) (c := Value.slice none 0 0) hF2.rc); (have c0 := cell_of_row _ _ 0 _ _ _ hc3); (have c1 := cell_of_row _ _ 1 _ _ _ hc3); (have c2 := cell_of_row _ _ 2 _ _ _ hc3); (refine bodyPost_ret (v := .agg #[Value.slice none 0 0, Value.slice none 0 0, Value.slice none 0 0]) (by simp [results, Try.results49, go_sem, c0, c1, c2]) rfl ?_)
      exact nilGame_endK HR.out hF2
    | true =>
      have hn0 := g0.nb
      have HR : Hid (swapR g = swapG g) := by show _ = _; simp [swapR, hv, hq]
      obtain ⟨la, lb, lc⟩ := valid_lens hv
      have HON : Hid (g.owner.length ≤ 3000 ∧ g.prio.length = g.owner.length ∧ g.succ.length = g.owner.length) := ⟨la, lb, lc⟩
      have HVB := Lib.hid (fun k hk => swap_bounds hv k hk)
      have HS := Lib.hid hS
      have HRW := Lib.hid hr
      have hpr : ∀ x ∈ g.prio, x ≤ 29999 := fun x hx => by
        have := List.all_eq_true.1 hq x hx
        simp at this; omega
      have HPR := Lib.hid hpr
      clear hpr hS la lb lc hr
      go_enter Try.func49, Try.ntmps49
      go_wp2_with fail
      refine (AValid_c _ _ g (hgx.below (by repeat (first | exact Below.refl _ _ | assumption | (refine belA ?_ _) | (refine belD ?_ _))))).mono ?_
      rintro e w1 ⟨rfl, hb1⟩
      rw [hv]
      have hF : Fr w w1 #[Value.slice ao0 g.owner.length cap0, Value.slice ao1 g.prio.length cap1, Value.slice ao2 g.succ.length cap2] :=
        ⟨Boxed.start ((bel_box _).trans (hb1.mono (by simp))), (hb1.block _ (by simp)).trans (by (repeat (rw [alloc_get]; first | rw [if_pos (by first | (simp; done) | (simp; omega))] | rw [if_neg (by first | (simp; done) | (simp; omega))])); (try rfl))⟩
      obtain ⟨⟨d0, d1, d2⟩, -⟩ := hF.cells
      clear hb1 hv
      go_wp2_with fail
      refine (within_c _ _ [g.prio] _ (IsRows.one _ _ (HI1.out.below hF.bx.bl) (by simp))).mono ?_
      rintro e w2 ⟨rfl, n2, rfl⟩
      rw [show withinB 29999 [g.prio] = true from by simp [withinB, hq]]
      have hF2 := hF.step (((bel_box (.cells #[Value.slice ao1 g.prio.length cap1] 22)).mono hF.lt).trans (below_draws _ _ n2))
      clear hF d0 d1 d2 hq
      generalize ((w1.alloc (.cells #[Value.slice ao1 g.prio.length cap1] 22)).drewN n2) = w3 at *
      obtain ⟨B, hBe⟩ : ∃ B, B = w.heap.size + 2 := ⟨_, rfl⟩
      have hB3 : B ≤ w3.heap.size := by have := hF2.lt; omega
      have hGB := GB.start (B := B) (others := []) (w := w3) hB3 List.Pairwise.nil (fun u hu => absurd hu (by simp))
      have d0 := (hF2.step (hBe ▸ (bel_box (.cells #[.slice none 0 0, .slice none 0 0, .slice none 0 0] 25)).mono hB3)).cells.1.1
      go_wp2
      clear d0
      go_loopg [19] g.owner.length (fun gh i wr => ∃ (k : Nat) (x0 x1 x2 : Value) (vals : List Value), gh = g.owner.length - k ∧ i = .int .i64 k ∧ k ≤ g.owner.length ∧ Below B w3 wr ∧ GB wr B w3.heap.size x0 x1 x2 vals (swK g k) [])
      case atStart => exact ⟨0, _, _, _, _, by omega, rfl, by omega, (bel_box _).mono hB3, hGB⟩
      case round =>
        obtain ⟨k, x0, x1, x2, vals, hgk, rfl, hk, hB, hG⟩ := hrel
        have HG := Lib.hid hgk
        clear hgk hGB
        have hFw := hF2.step (hBe ▸ hB)
        by_cases hlt : k < g.owner.length
        · have hn1 : k < g.prio.length := by rw [HON.out.2.1]; exact hlt
          have hn2 : k < g.succ.length := by rw [HON.out.2.2]; exact hlt
          obtain rfl := g2.ad (by omega)
          obtain rfl := g0.ad (by omega)
          obtain rfl := g1.ad (by omega)
          have hcv := g2.el k hn2
          obtain ⟨⟨ao3, cap3, b3, off3, hv3, g3⟩, hri⟩ := HRW.out k hn2
          have HROW : Hid (IsInts w (.slice ao3 (g.succ.getD k []).length cap3) (g.succ.getD k [])) := ⟨⟨ao3, cap3, b3, off3, rfl, g3⟩, hri⟩
          rw [hv3] at hcv
          have hsl := HS.out k
          have HGN := Lib.hid (swK_succ g k hlt hn1 hn2)
          have how := g0.el k hlt
          have hpw := g1.el k hn1
          unfold ivF at how hpw
          obtain ⟨⟨ob0, ob1⟩, ⟨pb0, pb1⟩⟩ := HVB.out k hlt
          have hGL0 : (swK g k).owner.length ≤ 3000 := by have := HON.out.1; simp [swK]; omega
          have hGL1 : (swK g k).prio.length ≤ 3000 := by have := HON.out; simp [swK]; omega
          have hGL2 : (swK g k).succ.length ≤ 3000 := by have := HON.out; simp [swK]; omega
          clear hri hv3 g3
          generalize g.succ.getD k [] = row at *
          generalize g.owner.getD k 0 = ow at *
          generalize g.prio.getD k 0 = pw at *
          generalize swK g k = gm at *
          have hBr : B ≤ wr.heap.size := Nat.le_trans hB3 hB.size
          have HC0 : Hid (∀ W : World, Below w.heap.size w W → W.cell? ⟨b0, off0 + k, none⟩ = some (.int .i64 ow)) := fun W hW => cellB hW how
          have HC1 : Hid (∀ W : World, Below w.heap.size w W → W.cell? ⟨b1, off1 + k, none⟩ = some (.int .i64 pw)) := fun W hW => cellB hW hpw
          have HC2 : Hid (∀ W : World, Below w.heap.size w W → W.cell? ⟨b2, off2 + k, none⟩ = some (.slice ao3 row.length cap3)) := fun W hW => cellB hW hcv
          clear how hpw hcv
          obtain ⟨w5, rfl⟩ : ∃ w5 : World, w5 = wr := ⟨_, rfl⟩
          have HGx := Lib.hid hG
          have HFx := Lib.hid hFw
          have HBo := Lib.hid hB
          have hi0 : (0 : Int) ≤ k := Int.natCast_nonneg _
          have hi1 : (k : Int) < g.owner.length := by omega
          have q0 : w5.cell? ⟨w3.heap.size, 0, none⟩ = some x0 := cell_of_row _ _ 0 _ _ _ hG.box
          have d0 := hFw.cells.1.1
          have c0 := HC0.out _ hFw.bx.bl
          have hzl := hG.zlt
          have hGo : OI w5 B x0 gm.owner := hG.o
          clear hG hFw hB
          have hwr0 : IntKind.i64.wrap (1 - ow) = 1 - ow := IntWalk.i64_in _ ⟨by omega, by omega⟩
          have hwr1 : IntKind.i64.wrap (pw + 1) = pw + 1 := IntWalk.i64_in _ ⟨by omega, by omega⟩
          go_upto_region 7 with (fail)
          go_cut [] (fun wx => ∃ (y0 : Value) (wz : World), wz = wx ∧ GB wz B w3.heap.size y0 x1 x2 vals ⟨gm.owner ++ [1 - ow], gm.prio, gm.succ⟩ [] ∧ Kept B [] w5 wz)
          case first =>
            go_region_law ((rw [if_pos (by rfl)]; refine wp_app_int w5 _ _ (1 - ow) (by rfl) B x0 _ (by rfl) hGo (by rfl) (by omega) hBr ?_; intro y0 w6 hown6 hg6 hmv6; obtain ⟨aoy, capy, hvy⟩ := hown6.slice; rw [List.length_append, List.length_singleton] at hvy; subst hvy; have hb6 : Below B w5 w6 := (Below.refl _ _).grown hg6 hBr (fun g hg => HGx.out.o.ge g hg); have hF6 := HFx.out.step (hBe ▸ hb6); have HST := Lib.hid (HGx.out.stepO hown6 hg6 hmv6 hBr); have k0 : w6.cell? ⟨w3.heap.size, 0, none⟩ = some x0 := cell_of_row _ _ 0 _ _ _ HST.out.1; have f0 : w6.frozen? ⟨w3.heap.size, 0, none⟩ = false := frozen_of_row _ _ 0 _ _ HST.out.1))
            all_goals
              go_wp2_with fail
              go_meet
              case rel => exact ⟨_, _, rfl, HST.out.2⟩
          case rest =>
            obtain ⟨y1, w7, rfl, hG7, hK7⟩ := hcut
            clear q0 d0 c0 hzl hi1 hGo
            have HF7 := Lib.hid (HFx.out.step (hBe ▸ hK7.bl))
            have HBl7 := Lib.hid (HBo.out.trans hK7.bl)
            have hBs7 : B ≤ w7.heap.size := Nat.le_trans hBr hK7.bl.size
            have HG7 := Lib.hid hG7
            clear hG7 hK7 HFx HBo HGx hBr
            have q0 : w7.cell? ⟨w3.heap.size, 1, none⟩ = some x1 := cell_of_row _ _ 1 _ _ _ HG7.out.box
            have d0 := HF7.out.cells.1.2.1
            have c0 := HC1.out _ HF7.out.bx.bl
            have hzl := HG7.out.zlt
            have hi1 : (k : Int) < g.prio.length := by omega
            have hGo : OI w7 B x1 gm.prio := HG7.out.p
            go_wp2_with fail
            go_upto_region 8 with (fail)
            go_cut [] (fun wx => ∃ (y0 : Value) (wz : World), wz = wx ∧ GB wz B w3.heap.size y1 y0 x2 vals ⟨gm.owner ++ [1 - ow], gm.prio ++ [pw + 1], gm.succ⟩ [] ∧ Kept B [] w7 wz)
            case first =>
              go_region_law ((rw [if_pos (by rfl)]; refine wp_app_int w7 _ _ (pw + 1) (by rfl) B x1 _ (by rfl) hGo (by rfl) (by omega) hBs7 ?_; intro y0 w6 hown6 hg6 hmv6; obtain ⟨aoy, capy, hvy⟩ := hown6.slice; rw [List.length_append, List.length_singleton] at hvy; subst hvy; have HST := Lib.hid (HG7.out.stepP hown6 hg6 hmv6 hBs7); have k0 : w6.cell? ⟨w3.heap.size, 1, none⟩ = some x1 := cell_of_row _ _ 1 _ _ _ HST.out.1; have f0 : w6.frozen? ⟨w3.heap.size, 1, none⟩ = false := frozen_of_row _ _ 1 _ _ HST.out.1))
              all_goals
                go_wp2_with fail
                go_meet
                case rel => exact ⟨_, _, rfl, HST.out.2⟩
            case rest =>
              obtain ⟨y2, w8, rfl, hG8, hK8⟩ := hcut
              clear q0 d0 c0 hzl hi1 hGo
              have HF8 := Lib.hid (HF7.out.step (hBe ▸ hK8.bl))
              have HBl8 := Lib.hid (HBl7.out.trans hK8.bl)
              have hBs8 : B ≤ w8.heap.size := Nat.le_trans hBs7 hK8.bl.size
              have HG8 := Lib.hid hG8
              have hzl := hG8.zlt
              have q2 : w8.cell? ⟨w3.heap.size, 2, none⟩ = some x2 := cell_of_row _ _ 2 _ _ _ hG8.box
              have d2 := HF8.out.cells.1.2.2
              have c2 := HC2.out _ HF8.out.bx.bl
              have HRI : Hid (IsInts w8 (.slice ao3 row.length cap3) row) := HROW.out.below HF8.out.bx.bl
              have hi1 : (k : Int) < g.succ.length := by omega
              clear hG8 hK8 HF7 HBl7 HG7 hBs7
              go_wp2_with fail
              have HRI8 : Hid (IsInts w8.drew (.slice ao3 row.length cap3) row) := HRI.out.below (Below.drew (Below.refl _ _))
              go_upto_region 9 with (fail)
              clear HRI HROW HPR HRW
              go_region_law (first | ((rw [if_pos (by rfl)]; refine wp_app_row w9 _ _ (.slice ao9 row.length cap9) (by rfl) B x2 _ vals (by rfl) HG9.out.r (by rfl) rfl (by show gm.succ.length < _; omega) hB9 ?_; intro v10 w10 hown10 hg10 hmv10; obtain ⟨ao10, cap10, hv10⟩ := ownsRow_slice hown10; subst hv10; have HST := Lib.hid (HG9.out.stepR HO9.out hown10 hg10 hmv10 hB9); have k0 : w10.cell? ⟨w3.heap.size, 2, none⟩ = some x2 := cell_of_row _ _ 2 _ _ _ HST.out.1; have f0 : w10.frozen? ⟨w3.heap.size, 2, none⟩ = false := frozen_of_row _ _ 2 _ _ HST.out.1)) | ((rw [if_pos (by rfl)]; refine wp_app_ints w8.drew _ _ (by rfl) w8.heap.size (.slice none 0 0) (.slice ao3 row.length cap3) [] row (by rfl) (OI_nil _ _) (by rfl) HRI8.out (by simp; omega) (Nat.le_refl _) ?_; intro v9 w9 hown9 hg9; rw [List.nil_append] at hown9; have hb9 : Below w8.heap.size w8 w9 := (Below.drew (Below.refl _ _)).grown hg9 (Nat.le_refl _) (fun k hk => by cases hk); obtain ⟨ao9, cap9, hv9⟩ := hown9.slice; subst hv9; have HG9 := Lib.hid (HG8.out.addNew hb9 (fun g hg => hown9.ge g hg) hown9.lt'); have HO9 := Lib.hid (hown9.base hBs8); have HB9 := Lib.hid hb9; have q9 : w9.cell? ⟨w3.heap.size, 2, none⟩ = some x2 := cell_of_row _ _ 2 _ _ _ HG9.out.box; have hz9 := HG9.out.zlt; have hB9 : B ≤ w9.heap.size := Nat.le_trans hBs8 hb9.size; clear hb9 hown9 hg9)))
              all_goals
                go_wp2_with fail
                go_roundg (g.owner.length - (k + 1))
                case measure => have := HG.out; omega
                case rel => exact ⟨k + 1, y1, y2, _, _, rfl, by go_num, by omega, HBl8.out.trans ((HB9.out.mono hBs8).trans HST.out.2.2.bl), by rw [HGN.out]; exact HST.out.2.1⟩
        · obtain rfl : k = g.owner.length := by omega
          have HGg := Lib.hid hG
          have HSW : Hid (swK g g.owner.length = swapG g) := by
            show _ = _
            unfold swK swapG
            have h1 := HON.out
            rw [List.take_length, List.take_of_length_le (by omega), List.take_of_length_le (by omega)]
          have hq0 := cell_of_row _ _ 0 _ _ _ hG.box
          have hq1 := cell_of_row _ _ 1 _ _ _ hG.box
          have hq2 := cell_of_row _ _ 2 _ _ _ hG.box
          obtain ⟨oa0, oc0, hx0⟩ := hG.o.slice
          obtain ⟨oa1, oc1, hx1⟩ := hG.p.slice
          obtain ⟨oa2, oc2, hx2⟩ := ownsRow_slice hG.r
          subst hx0 hx1 hx2
          obtain ⟨⟨z0, z1, z2⟩, y0, y1, y2⟩ := hFw.res
          have HBB : Hid (w.heap.size + 1 < B) := by show _ < _; omega
          clear hG hB
          generalize hgm : swK g g.owner.length = gm at *
          go_wp2
          (have hc3 := three_set (a := Value.slice oa0 gm.owner.length oc0) (b := Value.slice oa1 gm.prio.length oc1) (c := Value.slice oa2 gm.succ.length oc2) hFw.rc); (have c0 := cell_of_row _ _ 0 _ _ _ hc3); (have c1 := cell_of_row _ _ 1 _ _ _ hc3); (have c2 := cell_of_row _ _ 2 _ _ _ hc3); (refine bodyPost_ret (v := .agg #[Value.slice oa0 gm.owner.length oc0, Value.slice oa1 gm.prio.length oc1, Value.slice oa2 gm.succ.length oc2]) (by simp [results, Try.results49, go_sem, c0, c1, c2]) rfl ?_)
          rw [HR.out]
          refine ⟨_, rfl, fun WK hWK => ?_, below_three hFw.bx.bl (by omega)⟩
          have hE := ((HGg.out.setFar HBB.out (j := 0) (u := Value.slice oa0 gm.owner.length oc0)).setFar HBB.out (j := 1) (u := Value.slice oa1 gm.prio.length oc1)).setFar HBB.out (j := 2) (u := Value.slice oa2 gm.succ.length oc2)
          have hE := hE.only hWK (fun q (e : q < w.heap.size) => by have := HBB.out; omega)
          have hgs : gm = swapG g := HSW.out
          rw [← hgs]
          have hl := HON.out
          have e0 : gm.owner.length = g.owner.length := by rw [hgs]; simp [swapG]
          have e1 : gm.prio.length = g.prio.length := by rw [hgs]; simp [swapG]
          have e2 : gm.succ = g.succ := by rw [hgs]; rfl
          have hm : ∀ n, n ≤ 3000 → n ≤ maxN := fun n hn => by simp only [maxN]; omega
          refine hE.is ⟨hm _ (by omega), fun x hx => ?_⟩ ⟨hm _ (by omega), fun x hx => ?_⟩ (hm _ (by rw [e2]; omega)) (fun j hj => ?_)
          · rw [hgs] at hx
            obtain ⟨y, hy, rfl⟩ := List.mem_map.1 hx
            obtain ⟨i, hi, rfl⟩ := List.getElem_of_mem hy
            have := (HVB.out i hi).1
            rw [getD_lt _ _ _ hi] at this
            unfold I64; omega
          · rw [hgs] at hx
            obtain ⟨y, hy, rfl⟩ := List.mem_map.1 hx
            obtain ⟨i, hi, rfl⟩ := List.getElem_of_mem hy
            have := (HVB.out i (by omega)).2
            rw [getD_lt _ _ _ hi] at this
            unfold I64; omega
          · rw [e2] at hj ⊢
            exact ⟨hm _ (Nat.le_trans (HS.out j) (by omega)), (HRW.out j hj).2⟩

end Go.Proofs.Ytijkjhcigdfdgaa
