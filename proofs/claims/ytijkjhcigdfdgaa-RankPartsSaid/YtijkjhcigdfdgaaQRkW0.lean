/- Views in memory; part; games stay where a cell that holds no row is written. -/
import Derived.Test.YtijkjhcigdfdgaaQRkP4
namespace Go.Proofs.Ytijkjhcigdfdgaa
open Go.RowKit

def castM (l : List Nat) : List Int := l.map Int.ofNat
theorem castM_len (l : List Nat) : (castM l).length = l.length := by simp [castM]
theorem castM_get {l : List Nat} {k : Nat} (hk : k < l.length) : (castM l).getD k 0 = ((l.getD k 0 : Nat) : Int) := by simp [castM, List.getD, hk]
/-- A view in memory. -/
def IsView (w : World) (v : Value) (g : Gm) (mo : List Nat) : Prop := ∃ v0 v1 v2 vm, v = .agg #[v0, v1, v2, vm] ∧ IsGame w (.agg #[v0, v1, v2]) g ∧ IsInts w vm (castM mo)
theorem IsView.below {w wr : World} {v : Value} {g : Gm} {mo : List Nat} (h : IsView w v g mo) (hb : Below w.heap.size w wr) : IsView wr v g mo := by
  obtain ⟨v0, v1, v2, vm, rfl, h1, h2⟩ := h
  exact ⟨v0, v1, v2, vm, rfl, h1.below hb, h2.below hb⟩
theorem IsInts.off {W : World} {v : Value} {l : List Int} (h : IsInts W v l) {z k : Nat} (hz : W.cell? ⟨z, k, none⟩ = some (.slice none 0 0)) (u : Value) : IsInts (W.setCell ⟨z, k, none⟩ u) v l := by
  obtain ⟨⟨ao, cap, b, off, rfl, h1, h2, h3, h4, h5, h6⟩, hI⟩ := h
  refine ⟨⟨ao, cap, b, off, rfl, h1, h2, h3, h4, h5, fun j hj => ?_⟩, hI⟩
  rw [World.cell?_setCell_other _ _ _ _ (fun e => ?_)]
  · exact h6 j hj
  · have h7 := h6 j hj
    have e2 : (⟨b, off + j, none⟩ : Addr) = ⟨z, k, none⟩ := by first | exact e | exact e.symm
    rw [e2, hz] at h7
    simp [ivF] at h7
theorem IsRows.off {W : World} {v : Value} {l : List (List Int)} (h : IsRows W v l) (hne : ∀ i, i < l.length → l.getD i [] ≠ []) {z k : Nat} (hz : W.cell? ⟨z, k, none⟩ = some (.slice none 0 0)) (u : Value) : IsRows (W.setCell ⟨z, k, none⟩ u) v l := by
  obtain ⟨V, ⟨ao, cap, b, off, rfl, h1, h2, h3, h4, h5, h6⟩, hR⟩ := h
  refine ⟨V, ⟨ao, cap, b, off, rfl, h1, h2, h3, h4, h5, fun j hj => ?_⟩, fun j hj => (hR j hj).off hz u⟩
  rw [World.cell?_setCell_other _ _ _ _ (fun e => ?_)]
  · exact h6 j hj
  · have h7 := h6 j hj
    have e2 : (⟨b, off + j, none⟩ : Addr) = ⟨z, k, none⟩ := by first | exact e | exact e.symm
    rw [e2, hz] at h7
    have h8 := Option.some.inj h7
    obtain ⟨⟨ao', cap', b', off', hv, g1, g2, g3, g4, g5, g6⟩, -⟩ := hR j hj
    have hpos : 0 < (l.getD j []).length := List.length_pos_iff.2 (hne j hj)
    rw [hv, g5 hpos] at h8
    simp at h8
theorem IsGame.off {W : World} {v : Value} {g : Gm} (h : IsGame W v g) (hne : ∀ i, i < g.succ.length → g.succ.getD i [] ≠ []) {z k : Nat} (hz : W.cell? ⟨z, k, none⟩ = some (.slice none 0 0)) (u : Value) : IsGame (W.setCell ⟨z, k, none⟩ u) v g := by
  obtain ⟨v0, v1, v2, rfl, h0, h1, h2⟩ := h
  exact ⟨v0, v1, v2, rfl, h0.off hz u, h1.off hz u, h2.off hne hz u⟩

set_option maxRecDepth 100000 in
theorem rpart_c (w : World) (k : Nat) (hk : k ≤ 40000) : Calls Try.prog 50 #[.int .i64 (k : Int)] w (Quiet (.int .i64 (partN k : Int)) w) := by
  have h2 : ((k : Int) + 1) / 2 = (partN k : Int) := by unfold partN; omega
  have h1 : Int.tdiv ((k : Int) + 1) 2 = (partN k : Int) := by rw [Int.tdiv_eq_ediv_of_nonneg (by omega)]; exact h2
  have hw : IntKind.i64.wrap (partN k : Int) = (partN k : Int) := IntWalk.i64_in _ ⟨by omega, by unfold partN; omega⟩
  generalize partN k = p at *
  go_enter Try.func50, Try.ntmps50
  go_wp2
  go_ret
  exact ⟨rfl, 0, rfl⟩

/-! How often each odd priority occurs. -/
/-- How often the odd priorities occur among the first j positions. -/
def mostL (pr : List Int) (pt j : Nat) : List Int := (List.range pt).map fun k => (((pr.take j).filter fun x => decide (x = ((2 * k + 1 : Nat) : Int))).length : Int)
theorem mostL_len (pr : List Int) (pt j : Nat) : (mostL pr pt j).length = pt := by simp [mostL]
theorem mostL_zero (pr : List Int) (pt : Nat) : List.replicate pt 0 = mostL pr pt 0 := by
  apply List.ext_getElem (by simp [mostL])
  intro i h1 h2
  simp [mostL]
theorem mostL_at {pr : List Int} {pt j k : Nat} (h : k < pt) : (mostL pr pt j).getD k 0 = (((pr.take j).filter fun x => decide (x = ((2 * k + 1 : Nat) : Int))).length : Int) := by simp [mostL, List.getD, h]
theorem mostL_bd {pr : List Int} {pt j k : Nat} (h : k < pt) : 0 ≤ (mostL pr pt j).getD k 0 ∧ (mostL pr pt j).getD k 0 ≤ (j : Int) := by
  rw [mostL_at h]
  have h1 := List.length_filter_le (fun x => decide (x = ((2 * k + 1 : Nat) : Int))) (pr.take j)
  have h2 := List.length_take_le j pr
  omega
theorem mostL_even {pr : List Int} {pt j x : Nat} (hj : j < pr.length) (hx : pr.getD j 0 = (x : Int)) (he : x % 2 = 0) : mostL pr pt (j + 1) = mostL pr pt j := by
  apply List.ext_getElem (by simp [mostL])
  intro i h1 h2
  simp only [mostL, List.getElem_map, List.getElem_range]
  rw [List.take_succ_eq_append_getElem hj, ← getD_lt _ 0 _ hj, hx, List.filter_append, List.length_append, List.filter_cons_of_neg (by simp; omega)]
  simp
theorem mostL_odd {pr : List Int} {pt j x : Nat} (hj : j < pr.length) (hx : pr.getD j 0 = (x : Int)) (ho : x % 2 = 1) : (mostL pr pt j).set (x / 2) ((mostL pr pt j).getD (x / 2) 0 + 1) = mostL pr pt (j + 1) := by
  apply List.ext_getElem (by simp [mostL])
  intro i h1 h2
  have hi : i < pt := by simpa [mostL] using h2
  have e : (mostL pr pt (j + 1))[i] = (mostL pr pt j).getD i 0 + if i = x / 2 then 1 else 0 := by
    rw [mostL_at hi]
    simp only [mostL, List.getElem_map, List.getElem_range]
    rw [List.take_succ_eq_append_getElem hj, ← getD_lt _ 0 _ hj, hx, List.filter_append, List.length_append]
    by_cases e : i = x / 2
    · rw [if_pos e, List.filter_cons_of_pos (by simp; omega)]; simp
    · rw [if_neg e, List.filter_cons_of_neg (by simp; omega)]; simp
  rw [e, List.getElem_set]
  by_cases e2 : x / 2 = i
  · rw [if_pos e2, if_pos e2.symm, e2]
  · rw [if_neg e2, if_neg (fun e => e2 e.symm), ← getD_lt _ 0 _ (by simpa [mostL] using hi)]; omega
theorem mostL_all (g : Gm) : mostL g.prio (partN (highG g).toNat) g.prio.length = castM (moG g) := by
  unfold mostL castM moG cntP
  rw [List.take_length, List.map_map]; rfl
/-- The view of a player. -/
def viewG (g : Gm) (p : Int) : Option Gm := if (p = 0 ∨ p = 1) ∧ validB g = true ∧ highG g ≠ 30000 then some (if p = 1 then swapG g else g) else none
theorem foldl_add1 : ∀ (l : List Int) (m : Int), (∀ x ∈ l, 0 ≤ x) → (l.map (· + 1)).foldl max (m + 1) = l.foldl max m + 1
  | [], _, _ => rfl
  | x :: l, m, h => by
    show (l.map (· + 1)).foldl max (max (m + 1) (x + 1)) = l.foldl max (max m x) + 1
    rw [show max (m + 1) (x + 1) = max m x + 1 by omega]
    exact foldl_add1 l _ fun y hy => h y (List.mem_cons_of_mem _ hy)
theorem swap_high {g : Gm} (h : g.prio ≠ []) (h0 : ∀ x ∈ g.prio, 0 ≤ x) : highG (swapG g) = highG g + 1 := by
  unfold highG swapG
  cases hg : g.prio with
  | nil => exact absurd hg h
  | cons x l =>
    have hx := h0 x (by rw [hg]; exact List.mem_cons_self)
    show (l.map (· + 1)).foldl max (max 0 (x + 1)) = l.foldl max (max 0 x) + 1
    rw [show max 0 (x + 1) = x + 1 by omega, show max 0 x = x by omega]
    exact foldl_add1 l x fun y hy => h0 y (by rw [hg]; exact List.mem_cons_of_mem _ hy)

end Go.Proofs.Ytijkjhcigdfdgaa
