/- Work, Valid, Measure by the reference. -/
import Derived.Test.YtijkjhcigdfdgaaQRkR10
namespace Go.Proofs.Ytijkjhcigdfdgaa
open Go.RowKit

/-- What Measure returns: the measures, the error. -/
noncomputable def measG (g : Gm) (p : Int) : List (List Int) × Int := match viewG g p with | some h => measV h | none => ([], 1)
def MeasOut (g : Gm) (p : Int) (w : World) (e : Ending) (w' : World) : Prop := ∃ v, e = .returned (.tuple #[v, .int .i64 (measG g p).2]) ∧ IsRows w' v (measG g p).1 ∧ Below w.heap.size w w'
theorem measV_big {h : Gm} (hw : 2000000 < workN h.owner.length (moG h)) : measV h = ([], 2) := by unfold measV; rw [if_pos hw]
theorem measV_ok {h : Gm} (hw : ¬ 2000000 < workN h.owner.length (moG h)) : measV h = (rowsF (moG h) (lfpF h (moG h)) h.owner.length, 0) := by unfold measV; rw [if_neg hw]; rfl
theorem rows_none (w : World) : IsRows w (.slice none 0 0) [] := rows_nil w

set_option maxRecDepth 100000 in
set_option maxHeartbeats 4000000 in
theorem RWork_c (w : World) (vg : Value) (g : Gm) (p : Int) (hg : IsGame w vg g) (hn : g.prio.length ≤ 3000) :
    Calls Try.prog 15 #[vg, .int .i64 p] w (Calm (.int .i64 (workV g p : Int)) w) := by
  have HC : Hid (∀ W, Below w.heap.size w W → Calls Try.prog 38 #[vg, .int .i64 p] W (RViewOut g p W)) := fun W h => rview_c W vg g p (hg.below h) hn
  have HWK : Hid (∀ W v h, viewG g p = some h → IsGame W v h → Calls Try.prog 39 #[v] W (Calm (.int .i64 (workN h.owner.length (moG h) : Int)) W)) := fun W v h e hv => by
    have hv' := (view_valid e).1
    obtain ⟨la, lb, lc⟩ := valid_lens hv'
    exact rwork_c W v h hv la (by omega) (by have := high_le hv'; omega) (mo_bd hv')
  obtain ⟨v0, v1, v2, rfl, -⟩ := hg
  clear hn
  have hB : Below w.heap.size w (w.alloc (.cells #[v0, v1, v2] 25)) := (by repeat (first | exact Below.refl _ _ | assumption | (refine belA ?_ _) | (refine belD ?_ _)))
  have hx : (w.alloc (.cells #[v0, v1, v2] 25)).heap[w.heap.size]? = some (.cells #[v0, v1, v2] 25 (0, 0)) := (by (repeat (rw [alloc_get]; first | rw [if_pos (by first | (simp; done) | (simp; omega))] | rw [if_neg (by first | (simp; done) | (simp; omega))])); (try rfl))
  go_enter Try.func15, Try.ntmps15
  go_upto_region 1 with (fail)
  generalize (w.alloc (.cells #[v0, v1, v2] 25)) = w1 at *
  have q0 := cell_of_row _ _ 0 _ _ _ hx
  have q1 := cell_of_row _ _ 1 _ _ _ hx
  have q2 := cell_of_row _ _ 2 _ _ _ hx
  have HB := Lib.hid hB
  clear hx hB
  go_wp2_with fail
  refine (HC.out _ HB.out).mono ?_
  intro e w2 ho
  clear q0 q1 q2
  cases hv : viewG g p with
  | none =>
    unfold RViewOut at ho
    rw [hv] at ho
    obtain ⟨rfl, hb⟩ := ho
    have HB2 := Lib.hid (HB.out.trans (hb.mono HB.out.size))
    have HV : Hid (workV g p = 0) := by show _ = _; unfold workV; rw [hv]
    clear hb hv
    unfold nilGm
    go_wp2
    go_ret
    exact ⟨by rw [HV.out]; rfl, HB2.out.alloc HB2.out.size _⟩
  | some h =>
    have HH := Lib.hid hv
    have HVH := Lib.hid (view_valid hv)
    unfold RViewOut at ho
    rw [hv] at ho
    obtain ⟨v, rfl, hgg, hb⟩ := ho
    have HB2 := Lib.hid (HB.out.trans (hb.mono HB.out.size))
    have HVV := Lib.hid hgg
    obtain ⟨y0, z0, y1, z1, y2, z2, rfl⟩ := hgg.shape
    have hB4 : Below w2.heap.size w2 (w2.alloc (.cells #[.slice y0 h.owner.length z0, .slice y1 h.prio.length z1, .slice y2 h.succ.length z2] 25)) := bel_box _
    have HX4 : Hid ((w2.alloc (.cells #[.slice y0 h.owner.length z0, .slice y1 h.prio.length z1, .slice y2 h.succ.length z2] 25)).heap[w2.heap.size]? = some (.cells #[.slice y0 h.owner.length z0, .slice y1 h.prio.length z1, .slice y2 h.succ.length z2] 25 (0, 0))) := heap_alloc_new _ _
    have HV : Hid (workV g p = workN h.owner.length (moG h)) := by show _ = _; unfold workV; rw [hv]
    have HB4 := Lib.hid (HB2.out.trans (hB4.mono HB2.out.size))
    have HC2 := Lib.hid (HWK.out _ _ h HH.out (HVV.out.below hB4))
    clear hB4 hb hv hgg
    go_wp2_with fail
    refine HC2.out.mono ?_
    rintro e w3 ⟨rfl, hb⟩
    go_wp2
    go_ret
    exact ⟨by rw [HV.out]; rfl, HB4.out.trans (hb.mono HB4.out.size)⟩

set_option maxRecDepth 100000 in
set_option maxHeartbeats 4000000 in
theorem RValidM_c (w : World) (vg vm : Value) (g : Gm) (p : Int) (m : List (List Int)) (hg : IsGame w vg g) (hm : IsRows w vm m) (hn : g.prio.length ≤ 3000) :
    Calls Try.prog 17 #[vg, .int .i64 p, vm] w (Calm (.bool (validV g p m)) w) := by
  have HC : Hid (∀ W, Below w.heap.size w W → Calls Try.prog 38 #[vg, .int .i64 p] W (RViewOut g p W)) := fun W h => rview_c W vg g p (hg.below h) hn
  have HWK : Hid (∀ W v h, Below w.heap.size w W → viewG g p = some h → IsGame W v h → Calls Try.prog 43 #[v, vm] W (Calm (.bool (pmB h m)) W)) := fun W v h hW e hv => rvalid_c W v vm h m hv (hm.below hW) (view_valid e).1
  obtain ⟨v0, v1, v2, rfl, -⟩ := hg
  clear hn hm
  have hB : Below w.heap.size w (w.alloc (.cells #[v0, v1, v2] 25)) := (by repeat (first | exact Below.refl _ _ | assumption | (refine belA ?_ _) | (refine belD ?_ _)))
  have hx : (w.alloc (.cells #[v0, v1, v2] 25)).heap[w.heap.size]? = some (.cells #[v0, v1, v2] 25 (0, 0)) := (by (repeat (rw [alloc_get]; first | rw [if_pos (by first | (simp; done) | (simp; omega))] | rw [if_neg (by first | (simp; done) | (simp; omega))])); (try rfl))
  go_enter Try.func17, Try.ntmps17
  go_upto_region 1 with (fail)
  generalize (w.alloc (.cells #[v0, v1, v2] 25)) = w1 at *
  have q0 := cell_of_row _ _ 0 _ _ _ hx
  have q1 := cell_of_row _ _ 1 _ _ _ hx
  have q2 := cell_of_row _ _ 2 _ _ _ hx
  have HB := Lib.hid hB
  clear hx hB
  go_wp2_with fail
  refine (HC.out _ HB.out).mono ?_
  intro e w2 ho
  clear q0 q1 q2
  cases hv : viewG g p with
  | none =>
    unfold RViewOut at ho
    rw [hv] at ho
    obtain ⟨rfl, hb⟩ := ho
    have HB2 := Lib.hid (HB.out.trans (hb.mono HB.out.size))
    have HV : Hid (validV g p m = false) := by show _ = _; unfold validV; rw [hv]
    clear hb hv
    unfold nilGm
    go_wp2
    go_ret
    exact ⟨ret_bool HV.out.symm, HB2.out.alloc HB2.out.size _⟩
  | some h =>
    have HH := Lib.hid hv
    have HVH := Lib.hid (view_valid hv)
    unfold RViewOut at ho
    rw [hv] at ho
    obtain ⟨v, rfl, hgg, hb⟩ := ho
    have HB2 := Lib.hid (HB.out.trans (hb.mono HB.out.size))
    have HVV := Lib.hid hgg
    obtain ⟨y0, z0, y1, z1, y2, z2, rfl⟩ := hgg.shape
    have hB4 : Below w2.heap.size w2 (w2.alloc (.cells #[.slice y0 h.owner.length z0, .slice y1 h.prio.length z1, .slice y2 h.succ.length z2] 25)) := bel_box _
    have HX4 : Hid ((w2.alloc (.cells #[.slice y0 h.owner.length z0, .slice y1 h.prio.length z1, .slice y2 h.succ.length z2] 25)).heap[w2.heap.size]? = some (.cells #[.slice y0 h.owner.length z0, .slice y1 h.prio.length z1, .slice y2 h.succ.length z2] 25 (0, 0))) := heap_alloc_new _ _
    have HV : Hid (validV g p m = pmB h m) := by show _ = _; unfold validV; rw [hv]
    have HB4 := Lib.hid (HB2.out.trans (hB4.mono HB2.out.size))
    have HC2 := Lib.hid (HWK.out _ _ h HB4.out HH.out (HVV.out.below hB4))
    clear hB4 hb hv hgg
    go_wp2_with fail
    refine HC2.out.mono ?_
    rintro e w3 ⟨rfl, hb⟩
    go_wp2
    go_ret
    exact ⟨ret_bool HV.out.symm, HB4.out.trans (hb.mono HB4.out.size)⟩

set_option maxRecDepth 100000 in
set_option maxHeartbeats 4000000 in
theorem RMeasure_c (w : World) (vg : Value) (g : Gm) (p : Int) (hg : IsGame w vg g) (hn : g.prio.length ≤ 3000) :
    Calls Try.prog 12 #[vg, .int .i64 p] w (MeasOut g p w) := by
  have HC : Hid (∀ W, Below w.heap.size w W → Calls Try.prog 38 #[vg, .int .i64 p] W (RViewOut g p W)) := fun W h => rview_c W vg g p (hg.below h) hn
  have HWK : Hid (∀ W v h, viewG g p = some h → IsGame W v h → Calls Try.prog 39 #[v] W (Calm (.int .i64 (workN h.owner.length (moG h) : Int)) W)) := fun W v h e hv => by
    have hv' := (view_valid e).1
    obtain ⟨la, lb, lc⟩ := valid_lens hv'
    exact rwork_c W v h hv la (by omega) (by have := high_le hv'; omega) (mo_bd hv')
  have HLS : Hid (∀ W v h, viewG g p = some h → IsGame W v h → Calls Try.prog 41 #[v] W (NewRows (rowsF (moG h) (lfpF h (moG h)) h.owner.length) W)) := fun W v h e hv => rleast_c W v h hv (view_valid e).1
  obtain ⟨v0, v1, v2, rfl, -⟩ := hg
  clear hn
  have hB : Below w.heap.size w (w.alloc (.cells #[v0, v1, v2] 25)) := (by repeat (first | exact Below.refl _ _ | assumption | (refine belA ?_ _) | (refine belD ?_ _)))
  have hx : (w.alloc (.cells #[v0, v1, v2] 25)).heap[w.heap.size]? = some (.cells #[v0, v1, v2] 25 (0, 0)) := (by (repeat (rw [alloc_get]; first | rw [if_pos (by first | (simp; done) | (simp; omega))] | rw [if_neg (by first | (simp; done) | (simp; omega))])); (try rfl))
  go_enter Try.func12, Try.ntmps12
  go_upto_region 1 with (fail)
  generalize (w.alloc (.cells #[v0, v1, v2] 25)) = w1 at *
  have q0 := cell_of_row _ _ 0 _ _ _ hx
  have q1 := cell_of_row _ _ 1 _ _ _ hx
  have q2 := cell_of_row _ _ 2 _ _ _ hx
  have HB := Lib.hid hB
  clear hx hB
  go_wp2_with fail
  refine (HC.out _ HB.out).mono ?_
  intro e w2 ho
  clear q0 q1 q2
  cases hv : viewG g p with
  | none =>
    unfold RViewOut at ho
    rw [hv] at ho
    obtain ⟨rfl, hb⟩ := ho
    have HB2 := Lib.hid (HB.out.trans (hb.mono HB.out.size))
    have HV : Hid (measG g p = ([], 1)) := by show _ = _; unfold measG; rw [hv]
    clear hb hv
    unfold nilGm
    go_wp2
    go_ret2
    exact ⟨_, by rw [HV.out]; rfl, by rw [HV.out]; exact rows_none _, HB2.out.alloc HB2.out.size _⟩
  | some h =>
    have HH := Lib.hid hv
    have HVH := Lib.hid (view_valid hv)
    unfold RViewOut at ho
    rw [hv] at ho
    obtain ⟨v, rfl, hgg, hb⟩ := ho
    have HB2 := Lib.hid (HB.out.trans (hb.mono HB.out.size))
    have HVV := Lib.hid hgg
    obtain ⟨y0, z0, y1, z1, y2, z2, rfl⟩ := hgg.shape
    have hB4 : Below w2.heap.size w2 (w2.alloc (.cells #[.slice y0 h.owner.length z0, .slice y1 h.prio.length z1, .slice y2 h.succ.length z2] 25)) := bel_box _
    have HX4 : Hid ((w2.alloc (.cells #[.slice y0 h.owner.length z0, .slice y1 h.prio.length z1, .slice y2 h.succ.length z2] 25)).heap[w2.heap.size]? = some (.cells #[.slice y0 h.owner.length z0, .slice y1 h.prio.length z1, .slice y2 h.succ.length z2] 25 (0, 0))) := heap_alloc_new _ _
    have HV : Hid (measG g p = measV h) := by show _ = _; unfold measG; rw [hv]
    have HB4 := Lib.hid (HB2.out.trans (hB4.mono HB2.out.size))
    have HV4 := Lib.hid (HVV.out.below hB4)
    have HC2 := Lib.hid (HWK.out _ _ h HH.out HV4.out)
    clear hB4 hb hv hgg HVV
    go_upto_region 2 with (fail)
    generalize (w2.alloc (.cells #[.slice y0 h.owner.length z0, .slice y1 h.prio.length z1, .slice y2 h.succ.length z2] 25)) = w3 at *
    have q0 := cell_of_row _ _ 0 _ _ _ HX4.out
    have q1 := cell_of_row _ _ 1 _ _ _ HX4.out
    have q2 := cell_of_row _ _ 2 _ _ _ HX4.out
    go_wp2_with fail
    refine HC2.out.mono ?_
    rintro e w4 ⟨rfl, hb⟩
    have HB5 := Lib.hid (HB4.out.trans (hb.mono HB4.out.size))
    have HV5 := Lib.hid (HV4.out.below hb)
    replace q0 := cellB hb q0
    replace q1 := cellB hb q1
    replace q2 := cellB hb q2
    have HL := Lib.hid (HLS.out _ _ h HH.out HV5.out)
    clear hb HC2 HX4
    by_cases hw : 2000000 < workN h.owner.length (moG h)
    · have HM := Lib.hid (measV_big hw)
      have t1 : (2000000 : Int) < (workN h.owner.length (moG h) : Int) := by omega
      clear hw
      generalize workN h.owner.length (moG h) = wk at *
      go_wp2_with (go_at_call 40; refine (limit_c _).mono ?_; rintro e w' ⟨rfl, rfl⟩)
      go_ret2
      exact ⟨_, by rw [HV.out, HM.out]; rfl, by rw [HV.out, HM.out]; exact rows_none _, HB5.out⟩
    · have HM := Lib.hid (measV_ok hw)
      have t1 : ¬ (2000000 : Int) < (workN h.owner.length (moG h) : Int) := by omega
      clear hw
      generalize workN h.owner.length (moG h) = wk at *
      go_upto_region 6 with (go_at_call 40; refine (limit_c _).mono ?_; rintro e w' ⟨rfl, rfl⟩)
      go_wp2_with fail
      refine HL.out.mono ?_
      rintro e w5 ⟨vr, rfl, hr, hb⟩
      go_wp2
      go_ret2
      exact ⟨_, by rw [HV.out, HM.out]; rfl, by rw [HV.out, HM.out]; exact hr, HB5.out.trans (hb.mono HB5.out.size)⟩

end Go.Proofs.Ytijkjhcigdfdgaa
