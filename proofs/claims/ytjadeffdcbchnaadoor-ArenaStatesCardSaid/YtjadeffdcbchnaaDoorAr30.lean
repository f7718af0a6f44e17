/- The law ArenaSwap: the plain part, and its walk on inputs that it does not look at. -/
import Derived.Test.YtjadeffdcbchnaaDoorAr29
namespace Go.Proofs.YtjadeffdcbchnaaDoor
open Go.RowKit

theorem foldl_max_le {l : List Int} {m b : Int} (h : l.foldl max b ≤ m) : b ≤ m ∧ ∀ x ∈ l, x ≤ m := by
  induction l generalizing b with
  | nil => exact ⟨h, fun x hx => absurd hx (by simp)⟩
  | cons y l ih =>
    simp only [List.foldl_cons] at h
    obtain ⟨h1, h2⟩ := ih h
    refine ⟨by omega, fun x hx => ?_⟩
    rcases List.mem_cons.1 hx with rfl | hx
    · omega
    · exact h2 x hx
theorem greatI_le {l : List Int} {m : Int} (h : greatI l ≤ m) : ∀ x ∈ l, x ≤ m := (foldl_max_le h).2
theorem inB_of {l : List Int} {m : Int} (h : ∀ x ∈ l, 0 ≤ x ∧ x ≤ m) : inB m l = true := List.all_eq_true.2 fun x hx => by have := h x hx; simp; omega
theorem valid_prio {g : Gm} (h : validB g = true) : ∀ x ∈ g.prio, 0 ≤ x := fun x hx => by
  obtain ⟨i, hi, rfl⟩ := List.mem_iff_getElem.1 hx
  have h1 := valid_at h i (by have := (valid_lens h).2.1; omega)
  rw [getD_lt _ _ _ hi] at h1
  omega
theorem swap_two {g : Gm} (hv : validB g = true) (hq : greatI g.prio < 29999) : swapR g = swapG g ∧ validB (swapG g) = true ∧ swapR (swapG g) = swapG (swapG g) := by
  have hle := greatI_le (show greatI g.prio ≤ 29998 by omega)
  have hpo := valid_prio hv
  have h1 : swapR g = swapG g := by
    unfold swapR
    rw [hv, inB_of (fun x hx => ⟨hpo x hx, by have := hle x hx; omega⟩)]
    rfl
  have h2 : validB (swapG g) = true := swap_valid hv fun i hi => by
    have hi' : i < g.prio.length := by have := (valid_lens hv).2.1; omega
    rw [getD_lt _ _ _ hi']
    have := hle _ (List.getElem_mem hi')
    omega
  refine ⟨h1, h2, ?_⟩
  unfold swapR
  rw [h2, inB_of (fun x hx => ?_)]
  · rfl
  · obtain ⟨y, hy, rfl⟩ := List.mem_map.1 hx
    have h3 := hle y hy
    have h4 := hpo y hy
    omega
theorem small_rows {g : Gm} {m : Int} (h : smallB g m = true) : ∀ i, (g.succ.getD i []).length ≤ 20 := fun i => by
  simp only [smallB, Bool.and_eq_true, List.all_eq_true, decide_eq_true_eq] at h
  by_cases hi : i < g.succ.length
  · rw [getD_lt _ _ _ hi]; exact h.2 _ (List.getElem_mem hi)
  · rw [List.getD, List.getElem?_eq_none (by omega)]; simp

set_option maxRecDepth 100000 in
set_option maxHeartbeats 8000000 in
theorem Swap_walk0 (w : World) (vg : Value) (g : Gm) (hK : Keys w) (hg : IsGame w vg g) (hq : ¬ (smallB g 100 = true ∧ validB g = true ∧ greatI g.prio < 29999)) : Calls Tryd.prog 5 #[vg] w (Calm (.bool true) w) := by
  have hgx := hg
  obtain ⟨a0, n0, k0, a1, n1, k1, a2, n2, k2, rfl⟩ := hg.shape
  go_enter Tryd.func5, Tryd.ntmps5
  go_upto_region 1 with (fail)
  obtain ⟨hx, hB⟩ : (w.alloc (.cells #[.slice a0 n0 k0, .slice a1 n1 k1, .slice a2 n2 k2] 28)).heap[w.heap.size]? = some (.cells #[.slice a0 n0 k0, .slice a1 n1 k1, .slice a2 n2 k2] 28 (0, 0)) ∧ Below w.heap.size w (w.alloc (.cells #[.slice a0 n0 k0, .slice a1 n1 k1, .slice a2 n2 k2] 28)) := ⟨heap_alloc_new _ _, bel_box _⟩
  replace hg := hg.below hB
  replace hK := hK.below hB
  generalize w.alloc (.cells #[.slice a0 n0 k0, .slice a1 n1 k1, .slice a2 n2 k2] 28) = w1 at *
  have HE : Hid (∀ W, Below w1.heap.size w1 W → Calm (.bool true) w (.returned (.bool true)) W) := fun W h => ⟨rfl, hB.trans (h.mono hB.size)⟩
  clear hB
  generalize w.heap.size = z at *
  have hz : z < w1.heap.size := (Array.getElem?_eq_some_iff.1 hx).1
  go_wp2_with fail
  refine (head_c _ hK).mono ?_
  rintro e w2 ⟨rfl, hb⟩
  replace hx := (hb.block _ hz).trans hx
  replace hg := hg.below hb
  have c0 := cell_of_row _ _ 0 _ _ _ hx
  have c1 := cell_of_row _ _ 1 _ _ _ hx
  have c2 := cell_of_row _ _ 2 _ _ _ hx
  go_wp2_with fail
  refine (Small_c _ _ g 100 hg).mono ?_
  rintro e w3 ⟨rfl, hb3⟩
  have hb' := hb.trans (hb3.mono hb.size)
  replace hx := (hb3.block _ (by have := hb.size; omega)).trans hx
  replace hg := hg.below hb3
  clear c0 c1 c2
  have c0 := cell_of_row _ _ 0 _ _ _ hx
  have c1 := cell_of_row _ _ 1 _ _ _ hx
  have c2 := cell_of_row _ _ 2 _ _ _ hx
  cases hs : smallB g 100
  · go_wp2_with fail
    go_ret
    exact HE.out _ hb'
  · go_wp2_with fail
    have hq' : ¬ (validB g = true ∧ greatI g.prio < 29999) := fun h => hq ⟨hs, h⟩
    refine (RValid_c _ _ g hg).mono ?_
    rintro e w4 ⟨rfl, hb4⟩
    replace hb := hb'.trans (hb4.mono hb'.size)
    replace hx := (hb4.block _ (by have := hb'.size; omega)).trans hx
    replace hg := hg.below hb4
    clear c0 c1 c2
    have c0 := cell_of_row _ _ 0 _ _ _ hx
    have c1 := cell_of_row _ _ 1 _ _ _ hx
    have c2 := cell_of_row _ _ 2 _ _ _ hx
    cases hv : validB g
    · go_wp2_with fail
      go_ret
      exact HE.out _ hb
    · have hgr : 29999 ≤ greatI g.prio := by
        have := hq'
        simp only [hv, true_and] at this
        omega
      have HP : Hid (g.prio.length ≤ 3000) := by have := valid_lens hv; show _ ≤ _; omega
      go_wp2_with fail
      refine (Greatest_c _ _ g hg HP.out).mono ?_
      rintro e w5 ⟨rfl, hb5⟩
      replace hb := hb.trans (hb5.mono hb.size)
      go_wp2_with fail
      all_goals
        go_ret
        exact HE.out _ hb

end Go.Proofs.YtjadeffdcbchnaaDoor
