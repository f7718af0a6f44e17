/- The reference's view of a game. -/
import Derived.Test.YtijkjhcigdfdgaaQRkR5
import Derived.Test.YtijkjhcigdfdgaaQRkR6
namespace Go.Proofs.Ytijkjhcigdfdgaa
open Go.RowKit

def nilGm : Value := .agg #[.slice none 0 0, .slice none 0 0, .slice none 0 0]
def RViewOut (g : Gm) (p : Int) (w : World) (e : Ending) (w' : World) : Prop :=
  match viewG g p with
  | some h => ∃ v, e = .returned (.tuple #[v, .bool true]) ∧ IsGame w' v h ∧ Below w.heap.size w w'
  | none => e = .returned (.tuple #[nilGm, .bool false]) ∧ Below w.heap.size w w'
theorem RViewOut.no {g : Gm} {p : Int} {w w' : World} (h : viewG g p = none) (hb : Below w.heap.size w w') : RViewOut g p w (.returned (.tuple #[nilGm, .bool false])) w' := by
  unfold RViewOut; rw [h]; exact ⟨rfl, hb⟩
theorem RViewOut.yes {g h : Gm} {p : Int} {w w' : World} {v : Value} (e : viewG g p = some h) (hv : IsGame w' v h) (hb : Below w.heap.size w w') : RViewOut g p w (.returned (.tuple #[v, .bool true])) w' := by
  unfold RViewOut; rw [e]; exact ⟨v, rfl, hv, hb⟩
theorem high_le {g : Gm} (h : validB g = true) : highG g ≤ 30000 := by
  obtain ⟨la, lb, lc⟩ := valid_lens h
  rcases high_in g with h' | h'
  · omega
  · obtain ⟨j, hj, ej⟩ := List.getElem_of_mem h'
    have := (valid_at h j (by omega)).2.1
    rw [getD_lt _ _ _ hj, ej] at this
    omega
theorem swapR_view {g : Gm} (h : validB g = true) (hh : highG g ≠ 30000) : swapR g = swapG g := by
  have h1 := high_le h
  have : inB 29999 g.prio = true := List.all_eq_true.2 fun x hx => by
    obtain ⟨la, lb, lc⟩ := valid_lens h
    obtain ⟨i, hi, rfl⟩ := List.getElem_of_mem hx
    have h2 := (valid_at h i (by omega)).2.1
    rw [getD_lt _ _ _ hi] at h2
    have h3 := high_ge (g := g) (List.getElem_mem hi)
    simp; omega
  simp [swapR, this, h]
/-- A game stays where three cells that hold no row are written. -/
theorem game_off3 {W : World} {v : Value} {g : Gm} (h : IsGame W v g) (hne : ∀ i, i < g.succ.length → g.succ.getD i [] ≠ []) {z : Nat} {t : TypeId} (hz : W.heap[z]? = some (.cells #[.slice none 0 0, .slice none 0 0, .slice none 0 0] t (0, 0))) (a b c : Value) : IsGame (((W.setCell ⟨z, 0, none⟩ a).setCell ⟨z, 1, none⟩ b).setCell ⟨z, 2, none⟩ c) v g := by
  have h1 := h.off hne (cell_of_row _ _ 0 _ _ _ hz) a
  have z1 := heap_setCell_same W z 0 _ _ a hz
  have h2 := h1.off hne (cell_of_row _ _ 1 _ _ _ z1) b
  have z2 := heap_setCell_same _ z 1 _ _ b z1
  exact h2.off hne (cell_of_row _ _ 2 _ _ _ z2) c

set_option maxRecDepth 100000 in
set_option maxHeartbeats 4000000 in
theorem rview_c (w : World) (vg : Value) (g : Gm) (p : Int) (hg : IsGame w vg g) (hn : g.prio.length ≤ 3000) :
    Calls Try.prog 38 #[vg, .int .i64 p] w (RViewOut g p w) := by
  have HVC : Hid (∀ W, Below w.heap.size w W → Calls Try.prog 29 #[vg] W (Calm (.bool (validB g)) W)) := fun W h => RValid_c W vg g (hg.below h)
  have HGC : Hid (∀ W, Below w.heap.size w W → Calls Try.prog 30 #[vg] W (Calm (.int .i64 (highG g)) W)) := fun W h => Greatest_c W vg g (hg.below h) hn
  have HSC : Hid (∀ W, Below w.heap.size w W → Calls Try.prog 55 #[vg] W (NewGame (swapR g) W)) := fun W h => RSwap_c W vg g (hg.below h)
  have HG := Lib.hid hg
  obtain ⟨a0, c0, a1, c1, a2, c2, rfl⟩ := hg.shape
  clear hg
  generalize g.owner.length = n0 at *
  generalize g.prio.length = n1 at *
  generalize g.succ.length = n2 at *
  have hx : ((w.alloc (.cells #[.slice a0 n0 c0, .slice a1 n1 c1, .slice a2 n2 c2] 25)).alloc (.cells #[.slice none 0 0, .slice none 0 0, .slice none 0 0] 25)).heap[w.heap.size]? = some (.cells #[.slice a0 n0 c0, .slice a1 n1 c1, .slice a2 n2 c2] 25 (0, 0)) := (by (repeat (rw [alloc_get]; first | rw [if_pos (by first | (simp; done) | (simp; omega))] | rw [if_neg (by first | (simp; done) | (simp; omega))])); (try rfl))
  have hz : ((w.alloc (.cells #[.slice a0 n0 c0, .slice a1 n1 c1, .slice a2 n2 c2] 25)).alloc (.cells #[.slice none 0 0, .slice none 0 0, .slice none 0 0] 25)).heap[w.heap.size + 1]? = some (.cells #[.slice none 0 0, .slice none 0 0, .slice none 0 0] 25 (0, 0)) := (by (repeat (rw [alloc_get]; first | rw [if_pos (by first | (simp; done) | (simp; omega))] | rw [if_neg (by first | (simp; done) | (simp; omega))])); (try rfl))
  have hB : Below w.heap.size w ((w.alloc (.cells #[.slice a0 n0 c0, .slice a1 n1 c1, .slice a2 n2 c2] 25)).alloc (.cells #[.slice none 0 0, .slice none 0 0, .slice none 0 0] 25)) := (by repeat (first | exact Below.refl _ _ | assumption | (refine belA ?_ _) | (refine belD ?_ _)))
  go_enter Try.func38, Try.ntmps38
  go_upto_region 1 with (fail)
  generalize ((w.alloc (.cells #[.slice a0 n0 c0, .slice a1 n1 c1, .slice a2 n2 c2] 25)).alloc (.cells #[.slice none 0 0, .slice none 0 0, .slice none 0 0] 25)) = w1 at *
  have HB1 := Lib.hid hB
  have HEND : Hid (∀ W, Below w.heap.size w W → ∀ u0 u1 u2, Below w.heap.size w (((W.setCell ⟨w.heap.size + 1, 0, none⟩ u0).setCell ⟨w.heap.size + 1, 1, none⟩ u1).setCell ⟨w.heap.size + 1, 2, none⟩ u2)) := fun W h1 u0 u1 u2 => by
    have ho : ∀ (W' : World) (k : Nat) (u : Value), Below w.heap.size w W' → Below w.heap.size w (W'.setCell ⟨w.heap.size + 1, k, none⟩ u) := fun W' k u h' => h'.trans ((Only.set (S := fun q => q = w.heap.size + 1) _ _ _ rfl).below w.heap.size (fun q e => by have : q = w.heap.size + 1 := e; omega) h'.size)
    exact ho _ _ _ (ho _ _ _ (ho _ _ _ h1))
  clear hB
  have k0 := cell_of_row _ _ 0 _ _ _ hx
  have k1 := cell_of_row _ _ 1 _ _ _ hx
  have k2 := cell_of_row _ _ 2 _ _ _ hx
  have HX := Lib.hid hx
  have HZ := Lib.hid hz
  clear hx hz
  go_wp2_with fail
  refine (HVC.out _ HB1.out).mono ?_
  rintro e w2 ⟨rfl, hb2⟩
  have HB2 := Lib.hid (HB1.out.trans (hb2.mono HB1.out.size))
  have HX2 := Lib.hid ((hb2.block _ (Array.getElem?_eq_some_iff.1 HX.out).1).trans HX.out)
  have HZ2 := Lib.hid ((hb2.block _ (Array.getElem?_eq_some_iff.1 HZ.out).1).trans HZ.out)
  clear hb2 k0 k1 k2 HX HZ HB1
  cases hv : validB g
  · have HV : Hid (viewG g p = none) := by show _ = _; unfold viewG; rw [if_neg (fun h => by rw [hv] at h; exact absurd h.2.1 (by simp))]
    clear hv
    have d0 := cell_of_row _ _ 0 _ _ _ HZ2.out
    have f0 := frozen_of_row _ _ 0 _ _ HZ2.out
    have d1 := cell_of_row _ _ 1 _ _ _ HZ2.out
    have f1 := frozen_of_row _ _ 1 _ _ HZ2.out
    have d2 := cell_of_row _ _ 2 _ _ _ HZ2.out
    have f2 := frozen_of_row _ _ 2 _ _ HZ2.out
    go_wp2
    have hc3 := three_set (a := .slice none 0 0) (b := .slice none 0 0) (c := .slice none 0 0) HZ2.out
    have j0 := cell_of_row _ _ 0 _ _ _ hc3
    have j1 := cell_of_row _ _ 1 _ _ _ hc3
    have j2 := cell_of_row _ _ 2 _ _ _ hc3
    refine bodyPost_ret (v := .tuple #[nilGm, .bool false]) (by simp [results, Try.results38, go_sem, j0, j1, j2, nilGm]) rfl ?_
    exact RViewOut.no HV.out (HEND.out _ HB2.out _ _ _)
  have HVV := Lib.hid hv
  clear hv
  by_cases hp : p = 0 ∨ p = 1
  case neg =>
    have HV : Hid (viewG g p = none) := by show _ = _; unfold viewG; rw [if_neg (fun h => hp h.1)]
    have p0 : (p != 0) = true := by simp; omega
    have p1 : (p != 1) = true := by simp; omega
    have q0 : ¬ p = 0 := by omega
    have q1 : ¬ p = 1 := by omega
    clear hp
    have d0 := cell_of_row _ _ 0 _ _ _ HZ2.out
    have f0 := frozen_of_row _ _ 0 _ _ HZ2.out
    have d1 := cell_of_row _ _ 1 _ _ _ HZ2.out
    have f1 := frozen_of_row _ _ 1 _ _ HZ2.out
    have d2 := cell_of_row _ _ 2 _ _ _ HZ2.out
    have f2 := frozen_of_row _ _ 2 _ _ HZ2.out
    go_wp2
    have hc3 := three_set (a := .slice none 0 0) (b := .slice none 0 0) (c := .slice none 0 0) HZ2.out
    have j0 := cell_of_row _ _ 0 _ _ _ hc3
    have j1 := cell_of_row _ _ 1 _ _ _ hc3
    have j2 := cell_of_row _ _ 2 _ _ _ hc3
    refine bodyPost_ret (v := .tuple #[nilGm, .bool false]) (by simp [results, Try.results38, go_sem, j0, j1, j2, nilGm]) rfl ?_
    exact RViewOut.no HV.out (HEND.out _ HB2.out _ _ _)
  have hle := high_le HVV.out
  have hnn := high_nn g
  by_cases hh : highG g = 30000
  · have HV : Hid (viewG g p = none) := by show _ = _; unfold viewG; rw [if_neg (fun h => h.2.2 hh)]
    rw [hh] at HGC
    clear hh hle hnn
    rcases hp with rfl | rfl
    all_goals
      have e0 := cell_of_row _ _ 0 _ _ _ HX2.out
      have e1 := cell_of_row _ _ 1 _ _ _ HX2.out
      have e2 := cell_of_row _ _ 2 _ _ _ HX2.out
      go_wp2_with fail
      refine (HGC.out _ HB2.out).mono ?_
      rintro e w3 ⟨rfl, hb3⟩
      have HB3 := Lib.hid (HB2.out.trans (hb3.mono HB2.out.size))
      have HZ3 := Lib.hid ((hb3.block _ (Array.getElem?_eq_some_iff.1 HZ2.out).1).trans HZ2.out)
      clear hb3 e0 e1 e2
      have d0 := cell_of_row _ _ 0 _ _ _ HZ3.out
      have f0 := frozen_of_row _ _ 0 _ _ HZ3.out
      have d1 := cell_of_row _ _ 1 _ _ _ HZ3.out
      have f1 := frozen_of_row _ _ 1 _ _ HZ3.out
      have d2 := cell_of_row _ _ 2 _ _ _ HZ3.out
      have f2 := frozen_of_row _ _ 2 _ _ HZ3.out
      go_wp2
      have hc3 := three_set (a := .slice none 0 0) (b := .slice none 0 0) (c := .slice none 0 0) HZ3.out
      have j0 := cell_of_row _ _ 0 _ _ _ hc3
      have j1 := cell_of_row _ _ 1 _ _ _ hc3
      have j2 := cell_of_row _ _ 2 _ _ _ hc3
      refine bodyPost_ret (v := .tuple #[nilGm, .bool false]) (by simp [results, Try.results38, go_sem, j0, j1, j2, nilGm]) rfl ?_
      exact RViewOut.no HV.out (HEND.out _ HB3.out _ _ _)
  have HV0 : Hid (viewG g 0 = some g) := by show _ = _; unfold viewG; rw [if_pos ⟨.inl rfl, HVV.out, hh⟩]; rfl
  have HV1 : Hid (viewG g 1 = some (swapG g)) := by show _ = _; unfold viewG; rw [if_pos ⟨.inr rfl, HVV.out, hh⟩]; rfl
  have HSE : Hid (swapR g = swapG g) := swapR_view HVV.out hh
  have t1 : ¬ 30000 ≤ highG g := by omega
  have HNE : Hid (∀ i, i < g.succ.length → g.succ.getD i [] ≠ []) := fun i hi => (valid_at HVV.out i (by have := valid_lens HVV.out; omega)).2.2.1
  clear hh hle hnn
  rcases hp with rfl | rfl
  · have e0 := cell_of_row _ _ 0 _ _ _ HX2.out
    have e1 := cell_of_row _ _ 1 _ _ _ HX2.out
    have e2 := cell_of_row _ _ 2 _ _ _ HX2.out
    go_wp2_with fail
    refine (HGC.out _ HB2.out).mono ?_
    rintro e w3 ⟨rfl, hb3⟩
    generalize highG g = H at *
    have HB3 := Lib.hid (HB2.out.trans (hb3.mono HB2.out.size))
    have HX3 := Lib.hid ((hb3.block _ (Array.getElem?_eq_some_iff.1 HX2.out).1).trans HX2.out)
    have HZ3 := Lib.hid ((hb3.block _ (Array.getElem?_eq_some_iff.1 HZ2.out).1).trans HZ2.out)
    clear hb3 e0 e1 e2
    have e0 := cell_of_row _ _ 0 _ _ _ HX3.out
    have e1 := cell_of_row _ _ 1 _ _ _ HX3.out
    have e2 := cell_of_row _ _ 2 _ _ _ HX3.out
    have d0 := cell_of_row _ _ 0 _ _ _ HZ3.out
    have f0 := frozen_of_row _ _ 0 _ _ HZ3.out
    have d1 := cell_of_row _ _ 1 _ _ _ HZ3.out
    have f1 := frozen_of_row _ _ 1 _ _ HZ3.out
    have d2 := cell_of_row _ _ 2 _ _ _ HZ3.out
    have f2 := frozen_of_row _ _ 2 _ _ HZ3.out
    go_wp2
    have hc3 := three_set (a := .slice a0 n0 c0) (b := .slice a1 n1 c1) (c := .slice a2 n2 c2) HZ3.out
    have j0 := cell_of_row _ _ 0 _ _ _ hc3
    have j1 := cell_of_row _ _ 1 _ _ _ hc3
    have j2 := cell_of_row _ _ 2 _ _ _ hc3
    refine bodyPost_ret (v := .tuple #[.agg #[.slice a0 n0 c0, .slice a1 n1 c1, .slice a2 n2 c2], .bool true]) (by simp [results, Try.results38, go_sem, j0, j1, j2]) rfl ?_
    exact RViewOut.yes HV0.out (HG.out.below (HEND.out _ HB3.out _ _ _)) (HEND.out _ HB3.out _ _ _)
  · have e0 := cell_of_row _ _ 0 _ _ _ HX2.out
    have e1 := cell_of_row _ _ 1 _ _ _ HX2.out
    have e2 := cell_of_row _ _ 2 _ _ _ HX2.out
    go_wp2_with fail
    refine (HGC.out _ HB2.out).mono ?_
    rintro e w3 ⟨rfl, hb3⟩
    generalize highG g = H at *
    have HB3 := Lib.hid (HB2.out.trans (hb3.mono HB2.out.size))
    have HX3 := Lib.hid ((hb3.block _ (Array.getElem?_eq_some_iff.1 HX2.out).1).trans HX2.out)
    have HZ3 := Lib.hid ((hb3.block _ (Array.getElem?_eq_some_iff.1 HZ2.out).1).trans HZ2.out)
    clear hb3 e0 e1 e2
    have e0 := cell_of_row _ _ 0 _ _ _ HX3.out
    have e1 := cell_of_row _ _ 1 _ _ _ HX3.out
    have e2 := cell_of_row _ _ 2 _ _ _ HX3.out
    go_wp2_with fail
    refine (HSC.out _ HB3.out).mono ?_
    rintro e w4 ⟨vs, rfl, hvs, hb4⟩
    have HB4 := Lib.hid (HB3.out.trans (hb4.mono HB3.out.size))
    have HZ4 := Lib.hid ((hb4.block _ (Array.getElem?_eq_some_iff.1 HZ3.out).1).trans HZ3.out)
    rw [HSE.out] at hvs
    have HVS := Lib.hid hvs
    obtain ⟨y0, z0, y1, z1, y2, z2, rfl⟩ := hvs.shape
    clear hb4 e0 e1 e2 hvs
    generalize (swapG g).owner.length = m0 at *
    generalize (swapG g).prio.length = m1 at *
    have HNE2 : Hid (∀ i, i < (swapG g).succ.length → (swapG g).succ.getD i [] ≠ []) := HNE.out
    generalize (swapG g).succ.length = m2 at *
    have d0 := cell_of_row _ _ 0 _ _ _ HZ4.out
    have f0 := frozen_of_row _ _ 0 _ _ HZ4.out
    have d1 := cell_of_row _ _ 1 _ _ _ HZ4.out
    have f1 := frozen_of_row _ _ 1 _ _ HZ4.out
    have d2 := cell_of_row _ _ 2 _ _ _ HZ4.out
    have f2 := frozen_of_row _ _ 2 _ _ HZ4.out
    go_wp2
    have hc3 := three_set (a := .slice y0 m0 z0) (b := .slice y1 m1 z1) (c := .slice y2 m2 z2) HZ4.out
    have j0 := cell_of_row _ _ 0 _ _ _ hc3
    have j1 := cell_of_row _ _ 1 _ _ _ hc3
    have j2 := cell_of_row _ _ 2 _ _ _ hc3
    refine bodyPost_ret (v := .tuple #[.agg #[.slice y0 m0 z0, .slice y1 m1 z1, .slice y2 m2 z2], .bool true]) (by simp [results, Try.results38, go_sem, j0, j1, j2]) rfl ?_
    exact RViewOut.yes HV1.out (game_off3 HVS.out (by first | exact HNE2.out | exact HNE.out) HZ4.out _ _ _) (HEND.out _ HB4.out _ _ _)

end Go.Proofs.Ytijkjhcigdfdgaa
