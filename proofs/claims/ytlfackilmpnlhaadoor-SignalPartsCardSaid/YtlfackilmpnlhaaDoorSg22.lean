/- What the program's Join computes. -/
import Derived.Test.YtlfackilmpnlhaaDoorSg21
import Derived.Test.YtlfackilmpnlhaaDoorSg14
namespace Go.Proofs.YtlfackilmpnlhaaDoor
open Go.RowKit Go.Shelf
attribute [local go_sem] Oper.semAt_some

/-- The boxes of Join, the letter with them. -/
structure JoX (w : World) (vs : Value) (b4 : Nat) (st : Int × Int × Int) (W : World) : Prop where
  b0 : Boxed W w.heap.size 22 vs
  b1 : Boxed W (w.heap.size + 1) 3 (.int .i64 st.1)
  b2 : Boxed W (w.heap.size + 1 + 1) 3 (.int .i64 st.2.1)
  b3 : Boxed W b4 3 (.int .i64 st.2.2)
theorem JoX.drew {w W : World} {vs : Value} {b4 : Nat} {st : Int × Int × Int} (h : JoX w vs b4 st W) : JoX w vs b4 st W.drew := ⟨h.b0, h.b1, h.b2, h.b3⟩
theorem JoX.letter {w W : World} {vs : Value} {b4 : Nat} {st : Int × Int × Int} (h : JoX w vs b4 st W) (hb : w.heap.size + 3 ≤ b4) (m : Int) : JoX w vs b4 (st.1, st.2.1, m) (W.setCell ⟨b4, 0, none⟩ (.int .i64 m)) :=
  ⟨h.b0.other (by omega) _, h.b1.other (by omega) _, h.b2.other (by omega) _, h.b3.set _⟩
theorem JoX.inp {w W : World} {vs : Value} {b4 : Nat} {st : Int × Int × Int} (h : JoX w vs b4 st W) (hb : w.heap.size + 3 ≤ b4) (m : Int) : JoX w vs b4 (m, st.2.1, st.2.2) (W.setCell ⟨w.heap.size + 1, 0, none⟩ (.int .i64 m)) :=
  ⟨h.b0.other (by omega) _, h.b1.set _, h.b2.other (by omega) _, h.b3.other (by omega) _⟩
theorem JoX.out {w W : World} {vs : Value} {b4 : Nat} {st : Int × Int × Int} (h : JoX w vs b4 st W) (hb : w.heap.size + 3 ≤ b4) (m : Int) : JoX w vs b4 (st.1, m, st.2.2) (W.setCell ⟨w.heap.size + 1 + 1, 0, none⟩ (.int .i64 m)) :=
  ⟨h.b0.other (by omega) _, h.b1.other (by omega) _, h.b2.set _, h.b3.other (by omega) _⟩
theorem joX_own (w : World) (vs : Value) (b4 : Nat) {α : Type} (f : α → Int × Int × Int) : Own (fun (s : α) W => JoX w vs b4 (f s) W) := fun s X Y row h hg hr =>
  ⟨boxed_own _ _ (fun (_ : Unit) => vs) () X Y row h.b0 hg hr, boxed_own _ _ (fun s => Value.int .i64 (f s).1) s X Y row h.b1 hg hr, boxed_own _ _ (fun s => Value.int .i64 (f s).2.1) s X Y row h.b2 hg hr, boxed_own _ _ (fun s => Value.int .i64 (f s).2.2) s X Y row h.b3 hg hr⟩

theorem valid_of_inputs {l : List Sig} {i : Int} (h0 : 0 ≤ i) (h1 : i < inputsI l) : validS l = true := by
  unfold inputsI at h1
  cases hv : validS l
  · rw [hv] at h1; simp at h1; omega
  · rfl

set_option maxRecDepth 100000 in
set_option maxHeartbeats 4000000 in
theorem Join_yes (w : World) (vl : Value) (l : List Sig) (i o : Int) (hi : I64 i) (ho : I64 o) (hK : Keys w) (hl : IsSigs w vl l)
    (h0 : 0 ≤ i) (h1 : i < inputsI l) (h2 : 0 ≤ o) (h3 : o < outputsI l) :
    Calls Tryd.prog 31 #[vl, .int .i64 i, .int .i64 o] w (Calm (.int .i64 (joinL l i o)) w) := by
  have hI : Hid (∀ W, Below w.heap.size w W → Calls Tryd.prog 21 #[vl] W (Calm (.int .i64 (inputsI l)) W)) := fun W hW => Inputs_c W vl l (hK.below hW) (hl.below hW)
  have hO : Hid (∀ W, Below w.heap.size w W → Calls Tryd.prog 23 #[vl] W (Calm (.int .i64 (outputsI l)) W)) := fun W hW => Outputs_c W vl l (hK.below hW) (hl.below hW)
  have hv := valid_of_inputs h0 h1
  obtain ⟨hz, hl1, hl6, -⟩ := valid_sizes hv
  obtain ⟨ao, cap, b, off, rfl, hl⟩ := hl
  have hn := hl.nb
  have hb : b < w.heap.size := World.block_lt_of_cell? w _ (hl.nn 0 (by omega))
  unfold I64 at hi ho
  have hi9 := hi.2
  have ho9 := ho.2
  have HV := Lib.hid hv
  have HZ := Lib.hid hz
  have HALL := Lib.hid (jF_all hz i o)
  clear hz hv hK hi ho
  generalize inputsI l = x at *
  generalize outputsI l = y at *
  have d0 : decide (i < 0) = false := decide_eq_false (by omega)
  have d1 : decide (x ≤ i) = false := decide_eq_false (by omega)
  have d2 : decide (o < 0) = false := decide_eq_false (by omega)
  have d3 : decide (y ≤ o) = false := decide_eq_false (by omega)
  have hmx : Tryd.prog.follows .mixedOrders = true := by kernel_rfl
  refine callsIn_wide (n := 5) |>.1 ?_
  refine callsIn_of_wp_marks0 Tryd.func31 rfl trivial ?_
  simp only [Tryd.ntmps31, List.size_toArray, List.length_cons, List.length_nil, Nat.reduceAdd, Nat.reduceSub, Array.replicate_succ, Array.replicate_zero, List.push_toArray, List.append_toArray, List.nil_append, List.cons_append]
  gi_upto_region 1 with (fail)
  have hV := JoY.mk' w (.slice ao l.length cap) i o
  have hB0 : Below w.heap.size w (((w.alloc (.cells #[.slice ao l.length cap] 22)).alloc (.cells #[.int .i64 i] 3)).alloc (.cells #[.int .i64 o] 3)) := (by repeat (first | exact Below.refl _ _ | assumption | (refine belA ?_ _) | (refine belD ?_ _)))
  generalize (((w.alloc (.cells #[.slice ao l.length cap] 22)).alloc (.cells #[.int .i64 i] 3)).alloc (.cells #[.int .i64 o] 3)) = w4 at *
  gi_cut [28] from 62 (fun v wx => v = .bool false ∧ Below w4.heap.size w4 wx)
  case first =>
    have q0 := hV.b0.cell
    have q1 := hV.b1.cell
    have q2 := hV.b2.cell
    have hb9 : Below w4.heap.size w4 w4 := Below.refl _ _
    refine wpIn_wide.2 ?_
    go_region_with (((first | (go_at_call 21; refine (hI.out _ (by repeat (first | exact Below.refl _ _ | assumption | (refine belA ?_ _) | (refine belD ?_ _) | (refine Below.drew ?_)))).mono ?_) | (go_at_call 23; refine (hO.out _ (by repeat (first | exact Below.refl _ _ | assumption | (refine belA ?_ _) | (refine belD ?_ _) | (refine Below.drew ?_)))).mono ?_)); rintro e W3 ⟨rfl, hb3⟩; have hb4 : Below w4.heap.size w4 W3 := (by first | exact bel_step (by assumption) hb3 | exact bel_step1 (by assumption) hb3); have hbw : Below w.heap.size w W3 := hB0.trans (hb4.mono hB0.size); have p0 := (box_bel hb4 hV.b0).cell; have p1 := (box_bel hb4 hV.b1).cell; have p2 := (box_bel hb4 hV.b2).cell))
    all_goals go_wp2_with fail
    all_goals
      go_meet
      case rel => exact ⟨rfl, by first | assumption | exact (by assumption : Below _ _ _).trans (Below.drew (Below.refl _ _))⟩
  case rest =>
    obtain ⟨rfl, hb4⟩ := hcut
    have hW := hV.below hb4
    have hB := hB0.trans (hb4.mono hB0.size)
    clear hV hB0 hb4 hI hO
    have q0 := hW.b0.cell
    have hz1 : w.heap.size + 3 ≤ wc.heap.size := by have := hW.b2.lt; omega
    have hz9 : w.heap.size < wc.heap.size := by omega
    have hne1 : ¬ w.heap.size = wc.heap.size := by omega
    gi_wp2_with fail
    refine ⟨trivial, ?_⟩
    refine (callsIn_wide.2 (weights_c _ _ _ _)).mono ?_
    rintro e w2 ⟨rfl, hw2⟩
    gi_wp2_with fail
    rw [← hw2]
    have hB2 : Below w.heap.size w w2 := by rw [hw2]; exact hB.trans ((((Below.refl _ wc).alloc (Nat.le_refl _) _).alloc (by simp) _).mono hB.size)
    have hX2 : JoX w (.slice ao l.length cap) wc.heap.size (i, o, 0) w2 := by
      rw [hw2]
      exact ⟨(hW.b0.alloc _).alloc _, (hW.b1.alloc _).alloc _, (hW.b2.alloc _).alloc _, (Boxed.new wc 3 (.int .i64 0)).alloc _⟩
    have hZ2 : wc.heap.size + 1 < w2.heap.size := by rw [hw2]; simp
    have e4 : w2.cell? ⟨wc.heap.size + 1, 0, none⟩ = some (.slice ao l.length cap) := by
      have := new1 (wc.alloc (.cells #[.int .i64 0] 3)) (.slice ao l.length cap) 22
      rw [World.size_alloc] at this
      rw [hw2]; exact this
    clear hw2 hW hB q0 hz9 hne1
    generalize wc.heap.size = b4 at *
    refine wpIn_rangeFunc_ownG rfl (by omega) (gf := 47) (lb := #[.pointer (some ⟨b4 + 1, 0, none⟩)]) rfl trivial (enters_of Tryd.func47 (by kernel_rfl) rfl)
      (weights_stops Fence.wide (5 - 1) trivial rfl (by omega) (b4 + 1) w.heap.size b off cap ao l HV.out hb w2 (by omega) (by omega) e4 (hl.below hB2)) KpW.trans (KpW.put (by omega) (by omega)) (Below.refl _ _) (fun _ => rfl)
      (fun pre W => JoX w (.slice ao l.length cap) b4 (jF l i o pre) W ∧ Below w.heap.size w W)
      (fun _ _ _ => False)
      (OwnFrom.and (Own.from (joX_own w _ b4 (fun pre => jF l i o pre)) _) (ownFrom_below (Nat.le_refl _) (by omega)))
      (fun _ _ _ _ _ hs _ _ => hs)
      ⟨hX2, hB2⟩
      ?a1 ?assign ?body ?done ?stop
    case assign =>
      intro lY x W K hK
      unfold encW
      gi_wp2
      exact hK
    case body =>
      rintro lY pre x W ⟨hX, hB⟩ hpl
      obtain ⟨x, hx⟩ := x
      have hd : 1 ≤ 5 - 1 - 1 := by omega
      have q0 := hX.b0.cell
      have q1 := hX.b1.cell
      have f1 := hX.b1.frozen
      have q2 := hX.b2.cell
      have f2 := hX.b2.frozen
      have q3 := hX.b3.cell
      have f3 := hX.b3.frozen
      have hlW := hl.below hB
      have n1 := hlW.ni x hx
      have n2 := hlW.nz x hx
      obtain rfl := hl.ad (by omega)
      obtain ⟨hs1, hs2⟩ := sizes_posV HZ.out _ (List.getElem_mem hx)
      obtain ⟨hp1, hp2⟩ := prodL_takeV HZ.out hl6 x
      obtain ⟨⟨ga0, ga1⟩, ⟨gb0, gb1⟩, gc0, gc1⟩ := jF_bd HZ.out hl6 h0 h2 pre
      have HSN : Hid (jF l i o (pre ++ [⟨x, hx⟩]) = if l[x].inp = true then ((jF l i o pre).1 / l[x].size, (jF l i o pre).2.1, (jF l i o pre).2.2 + prodL (l.take x) * ((jF l i o pre).1 % l[x].size)) else ((jF l i o pre).1, (jF l i o pre).2.1 / l[x].size, (jF l i o pre).2.2 + prodL (l.take x) * ((jF l i o pre).2.1 % l[x].size))) := jF_snoc _ _ _ _ _
      have HX := Lib.hid hX
      have hpl6 : (pre.length : Int) ≤ 5 := by omega
      clear hlW hX
      generalize prodL (l.take x) = pw at *
      generalize l[x].size = z at *
      generalize hst : jF l i o pre = st at *
      clear hst
      obtain ⟨si, so, sn⟩ := st
      simp only at ga0 ga1 gb0 gb1 gc0 gc1 q1 q2 q3
      have hz0 : ¬ z = 0 := by omega
      have hsn : 0 ≤ sn ∧ sn ≤ 16384 * 5 := by omega
      obtain ⟨hsn0, hsn1⟩ := hsn
      have hw5 : w.heap.size + 1 ≠ b4 := by omega
      have hw6 : w.heap.size + 1 + 1 ≠ b4 := by omega
      have hw7 : w.heap.size ≠ b4 := by omega
      have hw8 : b ≠ b4 := by omega
      have hw9 : b ≠ w.heap.size + 1 := by omega
      have hw10 : b ≠ w.heap.size + 1 + 1 := by omega
      clear gc0 gc1
      cases hq : l[x].inp
      · have HSN2 : Hid (jF l i o (pre ++ [⟨x, hx⟩]) = (si, so / z, sn + pw * (so % z))) := by
          show _ = _
          rw [HSN.out, hq]; rfl
        clear HSN
        have hm0 := Int.emod_nonneg so (show z ≠ 0 by omega)
        have hm1 := Int.emod_lt_of_pos so (show 0 < z by omega)
        have hd0 := Int.ediv_nonneg gb0 (show 0 ≤ z by omega)
        have hd1 := Int.ediv_le_self z gb0
        have ht1 : so.tmod z = so % z := Int.tmod_eq_emod_of_nonneg gb0
        have ht2 : so.tdiv z = so / z := Int.tdiv_eq_ediv_of_nonneg gb0
        have hm := mul_bounds hp1 hp2 hm0 hm1 hs2
        have hw1 : IntKind.i64.wrap (so % z) = so % z := IntWalk.i64_in _ ⟨by omega, by omega⟩
        have hw2 : IntKind.i64.wrap (so / z) = so / z := IntWalk.i64_in _ ⟨by omega, by omega⟩
        have hw3 : IntKind.i64.wrap (so % z * pw) = pw * (so % z) := by rw [Int.mul_comm (so % z) pw]; exact IntWalk.i64_in _ ⟨by omega, by omega⟩
        have hw4 : IntKind.i64.wrap (sn + pw * (so % z)) = sn + pw * (so % z) := IntWalk.i64_in _ ⟨by omega, by omega⟩
        generalize so / z = qt at *
        generalize so % z = rm at *
        clear hm
        gi_wp2
        refine region_tail_round 13 hmx (by kernel_rfl) (by kernel_rfl) ?_
        simp only [List.take_succ_cons, List.take_zero, List.drop_succ_cons, List.drop_zero]
        repeat still_step
        refine wpStill_nil ?_
        gi_wp2
        refine region_tail_round 10 hmx (by kernel_rfl) (by kernel_rfl) ?_
        simp only [List.take_succ_cons, List.take_zero, List.drop_succ_cons, List.drop_zero]
        repeat still_step
        refine wpStill_nil ?_
        gi_wp2
        have hk := ((((KK.refl w2.heap.size w.heap.size (b4 + 1) W)).drew.set (b := b4) (by omega) (by omega) (.int .i64 (sn + pw * rm))).drew).set (b := w.heap.size + 1 + 1) (by omega) (by omega) (.int .i64 qt)
        exact ⟨hk.1, hk.2, by rw [HSN2.out]; exact (((HX.out.drew).letter hz1 _).drew).out hz1 _, hB.trans hk.2.1⟩
      · have HSN2 : Hid (jF l i o (pre ++ [⟨x, hx⟩]) = (si / z, so, sn + pw * (si % z))) := by
          show _ = _
          rw [HSN.out, hq]; rfl
        clear HSN
        have hm0 := Int.emod_nonneg si (show z ≠ 0 by omega)
        have hm1 := Int.emod_lt_of_pos si (show 0 < z by omega)
        have hd0 := Int.ediv_nonneg ga0 (show 0 ≤ z by omega)
        have hd1 := Int.ediv_le_self z ga0
        have ht1 : si.tmod z = si % z := Int.tmod_eq_emod_of_nonneg ga0
        have ht2 : si.tdiv z = si / z := Int.tdiv_eq_ediv_of_nonneg ga0
        have hm := mul_bounds hp1 hp2 hm0 hm1 hs2
        have hw1 : IntKind.i64.wrap (si % z) = si % z := IntWalk.i64_in _ ⟨by omega, by omega⟩
        have hw2 : IntKind.i64.wrap (si / z) = si / z := IntWalk.i64_in _ ⟨by omega, by omega⟩
        have hw3 : IntKind.i64.wrap (si % z * pw) = pw * (si % z) := by rw [Int.mul_comm (si % z) pw]; exact IntWalk.i64_in _ ⟨by omega, by omega⟩
        have hw4 : IntKind.i64.wrap (sn + pw * (si % z)) = sn + pw * (si % z) := IntWalk.i64_in _ ⟨by omega, by omega⟩
        generalize si / z = qt at *
        generalize si % z = rm at *
        clear hm
        gi_wp2
        refine region_tail_round 13 hmx (by kernel_rfl) (by kernel_rfl) ?_
        simp only [List.take_succ_cons, List.take_zero, List.drop_succ_cons, List.drop_zero]
        repeat still_step
        refine wpStill_nil ?_
        gi_wp2
        refine region_tail_round 10 hmx (by kernel_rfl) (by kernel_rfl) ?_
        simp only [List.take_succ_cons, List.take_zero, List.drop_succ_cons, List.drop_zero]
        repeat still_step
        refine wpStill_nil ?_
        gi_wp2
        have hk := ((((KK.refl w2.heap.size w.heap.size (b4 + 1) W)).drew.set (b := b4) (by omega) (by omega) (.int .i64 (sn + pw * rm))).drew).set (b := w.heap.size + 1) (by omega) (by omega) (.int .i64 qt)
        exact ⟨hk.1, hk.2, by rw [HSN2.out]; exact (((HX.out.drew).letter hz1 _).drew).inp hz1 _, hB.trans hk.2.1⟩
    case done =>
      rintro D ys W hD rfl ⟨hX, hB⟩ hK
      have q3 := hX.b3.cell
      gi_wp2
      refine ⟨by simp, .inl ⟨_, _, rfl, run_takeDeferred hK, ?_⟩⟩
      exact ⟨_, results_tmp rfl _ _ _, by rw [HALL.out]; rfl, hB.trans (belowK_b (w := w) (Nat.le_refl _) W D _ _ (by omega) hK rfl rfl)⟩
    case stop =>
      rintro D c pre W _ _ h _
      exact h.elim

theorem Join_c (w : World) (vl : Value) (l : List Sig) (i o : Int) (hi : I64 i) (ho : I64 o) (hK : Keys w) (hl : IsSigs w vl l) :
    Calls Tryd.prog 31 #[vl, .int .i64 i, .int .i64 o] w (Calm (.int .i64 (joinI l i o)) w) := by
  by_cases h : 0 ≤ i ∧ i < inputsI l ∧ 0 ≤ o ∧ o < outputsI l
  · have := Join_yes w vl l i o hi ho hK hl h.1 h.2.1 h.2.2.1 h.2.2.2
    rwa [joinI, if_pos h]
  · have := Join_no w vl l i o hi ho hK hl h
    rwa [joinI, if_neg h]

end Go.Proofs.YtlfackilmpnlhaaDoor
