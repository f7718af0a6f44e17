/- Light games. The examples (plain). -/
import Derived.Test.YtijkjhcigdfdgaaQRkW18
namespace Go.Proofs.Ytijkjhcigdfdgaa
open Go.RowKit

noncomputable def lightB (g : Gm) : Bool := smallB g 12 && (!validB g || (decide (highG g ≤ 12) && decide (workV g 0 ≤ 20000) && decide (workV g 1 ≤ 20000)))
theorem small_prio {g : Gm} {m : Int} (h : smallB g m = true) : (g.prio.length : Int) ≤ m ∧ (g.owner.length : Int) ≤ m ∧ ∀ i, (g.succ.getD i []).length ≤ 20 := by
  unfold smallB at h
  simp only [Bool.and_eq_true, decide_eq_true_eq] at h
  refine ⟨h.1.1.2, h.1.1.1, fun i => ?_⟩
  by_cases hi : i < g.succ.length
  · have := (all_iff_getD g.succ _ []).1 h.2 i hi
    simpa using this
  · simp [List.getD, List.getElem?_eq_none (Nat.le_of_not_lt hi)]
theorem top_work {g h : Gm} {p : Int} (e : viewG g p = some h) (hw : ¬ 2000000 < workN h.owner.length (moG h)) : topN (moG h) ≤ 2000000 := by
  have hv := (view_valid e).1
  obtain ⟨la, lb, lc⟩ := valid_lens hv
  have ht : topN (moG h) = unitL (moG h) := rfl
  unfold workN at hw
  by_cases h0 : h.owner.length = 0
  · have hp : h.prio = [] := List.length_eq_zero_iff.1 (by omega)
    have : moG h = [] := by unfold moG highG; rw [hp]; rfl
    rw [this]; decide
  · rw [ht]
    have h1 : unitL (moG h) ≤ h.owner.length * unitL (moG h) := Nat.le_mul_of_pos_left _ (by omega)
    split at hw <;> omega

set_option maxRecDepth 100000 in
set_option maxHeartbeats 4000000 in
theorem Light_c (w : World) (vg : Value) (g : Gm) (hg : IsGame w vg g) :
    Calls Try.prog 10 #[vg] w (Calm (.bool (lightB g)) w) := by
  have HSC : Hid (∀ W, Below w.heap.size w W → Calls Try.prog 28 #[vg, .int .i64 12] W (Calm (.bool (smallB g 12)) W)) := fun W h => Small_c W vg g 12 (hg.below h)
  have HVC : Hid (∀ W, Below w.heap.size w W → Calls Try.prog 29 #[vg] W (Calm (.bool (validB g)) W)) := fun W h => RValid_c W vg g (hg.below h)
  have HGC : Hid (g.prio.length ≤ 3000 → ∀ W, Below w.heap.size w W → Calls Try.prog 30 #[vg] W (Calm (.int .i64 (highG g)) W)) := fun hn W h => Greatest_c W vg g (hg.below h) hn
  have HWC : Hid (g.prio.length ≤ 3000 → ∀ W p, Below w.heap.size w W → Calls Try.prog 15 #[vg, .int .i64 p] W (Calm (.int .i64 (workV g p : Int)) W)) := fun hn W p h => RWork_c W vg g p (hg.below h) hn
  obtain ⟨v0, v1, v2, rfl, -⟩ := hg
  have hB : Below w.heap.size w (w.alloc (.cells #[v0, v1, v2] 25)) := (by repeat (first | exact Below.refl _ _ | assumption | (refine belA ?_ _) | (refine belD ?_ _)))
  have hx : (w.alloc (.cells #[v0, v1, v2] 25)).heap[w.heap.size]? = some (.cells #[v0, v1, v2] 25 (0, 0)) := (by (repeat (rw [alloc_get]; first | rw [if_pos (by first | (simp; done) | (simp; omega))] | rw [if_neg (by first | (simp; done) | (simp; omega))])); (try rfl))
  go_enter Try.func10, Try.ntmps10
  go_upto_region 1 with (fail)
  generalize (w.alloc (.cells #[v0, v1, v2] 25)) = w1 at *
  have q0 := cell_of_row _ _ 0 _ _ _ hx
  have q1 := cell_of_row _ _ 1 _ _ _ hx
  have q2 := cell_of_row _ _ 2 _ _ _ hx
  have HB := Lib.hid hB
  clear hx hB
  go_wp2_with fail
  refine (HSC.out _ HB.out).mono ?_
  rintro e w2 ⟨rfl, hb⟩
  have HB2 := Lib.hid (HB.out.trans (hb.mono HB.out.size))
  replace q0 := cellB hb q0
  replace q1 := cellB hb q1
  replace q2 := cellB hb q2
  clear hb
  cases hs : smallB g 12 with
  | false =>
    have HE : Hid (lightB g = false) := by show _ = _; unfold lightB; rw [hs]; rfl
    clear hs
    go_wp2
    go_ret
    exact ⟨ret_bool HE.out.symm, HB2.out⟩
  | true =>
    have hpn : g.prio.length ≤ 3000 := by have := (small_prio hs).1; omega
    have HG2 := Lib.hid (HGC.out hpn)
    have HW2 := Lib.hid (HWC.out hpn)
    have HE : Hid (lightB g = (!validB g || (decide (highG g ≤ 12) && decide (workV g 0 ≤ 20000) && decide (workV g 1 ≤ 20000)))) := by show _ = _; unfold lightB; rw [hs]; rfl
    clear hs hpn HGC HWC
    go_wp2_with fail
    refine (HVC.out _ HB2.out).mono ?_
    rintro e w3 ⟨rfl, hb⟩
    have HB3 := Lib.hid (HB2.out.trans (hb.mono HB2.out.size))
    replace q0 := cellB hb q0
    replace q1 := cellB hb q1
    replace q2 := cellB hb q2
    clear hb
    cases hv : validB g with
    | false =>
      have HE2 : Hid (lightB g = true) := by show _ = _; rw [HE.out, hv]; rfl
      clear hv
      go_wp2
      go_ret
      exact ⟨ret_bool HE2.out.symm, HB3.out⟩
    | true =>
      have HE2 : Hid (lightB g = (decide (highG g ≤ 12) && decide (workV g 0 ≤ 20000) && decide (workV g 1 ≤ 20000))) := by show _ = _; rw [HE.out, hv]; rfl
      have hww : workV g 0 ≤ 2000001 ∧ workV g 1 ≤ 2000001 := by
        have : ∀ p, workV g p ≤ 2000001 := fun p => by
          unfold workV
          split
          · unfold workN; split <;> omega
          · omega
        exact ⟨this 0, this 1⟩
      clear hv HE
      go_wp2_with fail
      refine (HG2.out _ HB3.out).mono ?_
      rintro e w4 ⟨rfl, hb⟩
      have HB4 := Lib.hid (HB3.out.trans (hb.mono HB3.out.size))
      replace q0 := cellB hb q0
      replace q1 := cellB hb q1
      replace q2 := cellB hb q2
      clear hb
      generalize highG g = hi at *
      by_cases h1 : hi ≤ 12
      case neg =>
        have HE3 : Hid (lightB g = false) := by show _ = _; rw [HE2.out, decide_eq_false h1]; rfl
        have t1 : decide (hi ≤ 12) = false := decide_eq_false h1
        clear h1
        go_wp2
        go_ret
        exact ⟨ret_bool HE3.out.symm, HB4.out⟩
      rw [decide_eq_true h1] at HE2
      go_wp2_with fail
      refine (HW2.out _ 0 HB4.out).mono ?_
      rintro e w5 ⟨rfl, hb⟩
      have HB5 := Lib.hid (HB4.out.trans (hb.mono HB4.out.size))
      replace q0 := cellB hb q0
      replace q1 := cellB hb q1
      replace q2 := cellB hb q2
      clear hb
      have HW1 := Lib.hid (fun W => HW2.out W 1)
      clear HW2
      generalize workV g 0 = k0 at *
      generalize workV g 1 = k1 at *
      by_cases h2 : k0 ≤ 20000
      case neg =>
        have HE3 : Hid (lightB g = false) := by show _ = _; rw [HE2.out, decide_eq_false h2]; rfl
        have t1 : ¬ (k0 : Int) ≤ 20000 := by omega
        clear h2
        go_wp2
        go_ret
        exact ⟨ret_bool HE3.out.symm, HB5.out⟩
      rw [decide_eq_true h2] at HE2
      have t2 : (k0 : Int) ≤ 20000 := by omega
      go_wp2_with fail
      refine (HW1.out _ HB5.out).mono ?_
      rintro e w6 ⟨rfl, hb⟩
      have HB6 := Lib.hid (HB5.out.trans (hb.mono HB5.out.size))
      clear hb
      by_cases h3 : k1 ≤ 20000
      · have t3 : (k1 : Int) ≤ 20000 := by omega
        have HE3 : Hid (lightB g = true) := by show _ = _; rw [HE2.out, decide_eq_true h3]; rfl
        clear h3
        go_wp2
        go_ret
        exact ⟨ret_bool HE3.out.symm, HB6.out⟩
      · have t3 : decide ((k1 : Int) ≤ 20000) = false := decide_eq_false (by omega)
        have HE3 : Hid (lightB g = false) := by show _ = _; rw [HE2.out, decide_eq_false h3]; rfl
        clear h3
        go_wp2
        go_ret
        exact ⟨ret_bool HE3.out.symm, HB6.out⟩

end Go.Proofs.Ytijkjhcigdfdgaa

namespace Go.Proofs.Ytijkjhcigdfdgaa

def exG : Gm := ⟨[0, 1], [1, 2], [[0, 1], [1]]⟩
def exS : Gm := ⟨[1, 0], [2, 3], [[0, 1], [1]]⟩
/-- The first k positions of the great example. -/
def manyK (k : Nat) : Gm := ⟨(List.range k).map fun _ => 0, (List.range k).map fun i => ((1 + 2 * (i % 3) : Nat) : Int), (List.range k).map fun (i : Nat) => [(i : Int)]⟩
def manyG : Gm := manyK 300
theorem ex_valid : validB exG = true := by decide +kernel
theorem exS_valid : validB exS = true := by decide +kernel
theorem ex_view0 : viewG exG 0 = some exG := by decide +kernel
theorem ex_view1 : viewG exG 1 = some exS := by decide +kernel
theorem ex_view2 : viewG exG 2 = none := by decide +kernel
theorem ex_mo : moG exG = [1] := by decide +kernel
theorem exS_mo : moG exS = [0, 1] := by decide +kernel
theorem ex_least : LeastP exG 2 [1] (fun v => if v = 0 then 1 else 0) := by
  have hE : RE exG 2 := re_valid ex_valid
  have h1 := (Und.zero (g := exG) (n := 2) (mo := [1])).raise hE (v := 0) (by decide)
  have e : needN exG [1] (fun _ => 0) 0 = 1 := by decide +kernel
  rw [e] at h1
  refine h1.done hE fun v hv => ?_
  match v, hv with
  | 0, _ => decide +kernel
  | 1, _ => decide +kernel
theorem exS_least : LeastP exS 2 [0, 1] (fun _ => 2) := by
  have hE : RE exS 2 := re_valid exS_valid
  have h1 := (Und.zero (g := exS) (n := 2) (mo := [0, 1])).raise hE (v := 1) (by decide)
  have e : needN exS [0, 1] (fun _ => 0) 1 = 1 := by decide +kernel
  rw [e] at h1
  have h2 := h1.raise hE (v := 1) (by decide)
  have e2 : needN exS [0, 1] (fun u => if u = 1 then 1 else 0) 1 = 2 := by decide +kernel
  rw [e2] at h2
  have h3 := h2.raise hE (v := 0) (by decide)
  have e3 : needN exS [0, 1] (fun u => if u = 1 then 2 else if u = 1 then 1 else 0) 0 = 2 := by decide +kernel
  rw [e3] at h3
  have h4 := h3.done hE fun v hv => by
    match v, hv with
    | 0, _ => decide +kernel
    | 1, _ => decide +kernel
  have hu : Und exS 2 [0, 1] (fun _ => 2) := fun f' hf v hv => by
    have := h3 f' hf v hv
    match v, hv with
    | 0, _ => exact this
    | 1, _ => exact this
  exact hu.done hE fun v hv => by
    match v, hv with
    | 0, _ => decide +kernel
    | 1, _ => decide +kernel
theorem meas_of {h : Gm} {f : Nat → Nat} (hw : ¬ 2000000 < workN h.owner.length (moG h)) (hf : LeastP h h.owner.length (moG h) f) : measV h = (rowsF (moG h) f h.owner.length, 0) := by
  rw [measV_ok hw, rowsF_congr fun v hv => lfp_eq hf hv]
theorem ex_meas0 : measG exG 0 = ([[1], [0]], 0) := by
  unfold measG
  rw [ex_view0]
  show measV exG = _
  rw [meas_of (f := fun v => if v = 0 then 1 else 0) (by decide +kernel) (by rw [ex_mo]; exact ex_least), ex_mo]
  decide +kernel
theorem ex_meas1 : measG exG 1 = ([[], []], 0) := by
  unfold measG
  rw [ex_view1]
  show measV exS = _
  rw [meas_of (f := fun _ => 2) (by decide +kernel) (by rw [exS_mo]; exact exS_least), exS_mo]
  decide +kernel
theorem ex_meas2 : measG exG 2 = ([], 1) := by
  unfold measG
  rw [ex_view2]
theorem ex_cho0 : choG exG 0 [[1], [0]] = [1, -1] := by
  unfold choG; rw [ex_view0]; decide +kernel
theorem ex_cho1 : choG exG 1 [[], []] = [-1, -1] := by
  unfold choG; rw [ex_view1]; decide +kernel
theorem ex_cho2 : choG exG 0 [[0], [0]] = [] := by
  unfold choG; rw [ex_view0]; decide +kernel
theorem ex_val0 : validV exG 0 [[1], [0]] = true := by
  unfold validV; rw [ex_view0]; decide +kernel
theorem ex_val1 : validV exG 0 [[0], [0]] = false := by
  unfold validV; rw [ex_view0]; decide +kernel
theorem ex_val2 : validV exG 0 [[], [0]] = true := by
  unfold validV; rw [ex_view0]; decide +kernel
theorem ex_work0 : workV exG 0 = 4 := by
  unfold workV; rw [ex_view0]; decide +kernel
theorem ex_work1 : workV exG 1 = 4 := by
  unfold workV; rw [ex_view1]; decide +kernel
theorem ex_sol {l : List Int} (h : IsSol exG l) : l = [0, 0] := by
  obtain ⟨h1, h2⟩ := h.2 ex_valid
  have hl : l.length = 2 := h1
  have key : ∀ v, v < 2 → l.getD v 0 = 0 := fun v hv => by
    have hG := rg_valid ex_valid
    have := (LeastP.won (mo := [1]) (by rw [← ex_mo]; exact hG) ex_least h2 hv).1 (by
      match v, hv with
      | 0, _ => decide +kernel
      | 1, _ => decide +kernel)
    exact this
  match l, hl with
  | [x, y], _ =>
    have a := key 0 (by decide)
    have b := key 1 (by decide)
    simp at a b
    rw [a, b]
def manyS : Gm := ⟨(List.range 300).map fun _ => 1, (List.range 300).map fun i => ((2 + 2 * (i % 3) : Nat) : Int), (List.range 300).map fun (i : Nat) => [(i : Int)]⟩
theorem many_view0 : viewG manyG 0 = some manyG := by decide +kernel
theorem many_view1 : viewG manyG 1 = some manyS := by decide +kernel
theorem many_work0 : workV manyG 0 = 2000001 := by
  unfold workV; rw [many_view0]; decide +kernel
theorem many_meas0 : measG manyG 0 = ([], 2) := by
  unfold measG
  rw [many_view0]
  exact measV_big (by decide +kernel)
theorem many_meas1 : (measG manyG 1).2 = 0 ∧ (measG manyG 1).1.length = 300 := by
  unfold measG
  rw [many_view1]
  show (measV manyS).2 = 0 ∧ (measV manyS).1.length = 300
  rw [measV_ok (by decide +kernel)]
  exact ⟨rfl, by rw [rowsF_len]; decide +kernel⟩
theorem ex_look : LookH exG := ⟨fun i => by
  by_cases h : i < 2
  · match i, h with
    | 0, _ => decide
    | 1, _ => decide
  · have : exG.succ.getD i [] = [] := by simp [exG, List.getD, List.getElem?_eq_none (show ([[0, 1], [1]] : List (List Int)).length ≤ i by simp; omega)]
    rw [this]; simp, by decide, fun _ => by decide +kernel⟩
theorem many_len (k i : Nat) : ((manyK k).succ.getD i []).length ≤ 1 := by
  by_cases h : i < k
  · simp [manyK, List.getD, h]
  · simp [manyK, List.getD, h]
theorem many_look : LookH manyG := ⟨fun i => by have := many_len 300 i; show ((manyK 300).succ.getD i []).length ≤ 1000; omega, by decide +kernel, fun _ => by decide +kernel⟩

end Go.Proofs.Ytijkjhcigdfdgaa
