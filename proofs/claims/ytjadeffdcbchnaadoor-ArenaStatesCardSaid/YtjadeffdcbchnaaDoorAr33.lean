/- The law ArenaParts: its walk on inputs that it does not look at; readings of slices. -/
import Derived.Test.YtjadeffdcbchnaaDoorAr32
import Derived.Test.YtjadeffdcbchnaaDoorAr31
namespace Go.Proofs.YtjadeffdcbchnaaDoor
open Go.RowKit

theorem IsBools.shape {w : World} {v : Value} {l : List Bool} (h : IsBools w v l) : ∃ a c, v = .slice a l.length c := by
  obtain ⟨a, c, b, o, rfl, -⟩ := h
  exact ⟨a, c, rfl⟩
theorem IsInts.shape {w : World} {v : Value} {l : List Int} (h : IsInts w v l) : ∃ a c, v = .slice a l.length c := by
  obtain ⟨⟨a, c, b, o, rfl, -⟩, -⟩ := h
  exact ⟨a, c, rfl⟩
theorem IsBools.data {w : World} {a : Option Addr} {n c : Nat} {l : List Bool} (h : IsBools w (.slice a n c) l) : ∃ b o, (0 < n → a = some ⟨b, o, none⟩) ∧ n ≤ 140737488351232 ∧ ∀ j, j < n → w.cell? ⟨b, o + j, none⟩ = some (.bool (l.getD j false)) := by
  obtain ⟨a', c', b, o, hv, ha⟩ := h
  injection hv with h1 h2 h3
  subst h1 h2 h3
  exact ⟨b, o, fun h => ha.ad h, ha.nb, fun j hj => ha.el j hj⟩
theorem IsInts.data {w : World} {a : Option Addr} {n c : Nat} {l : List Int} (h : IsInts w (.slice a n c) l) : ∃ b o, (0 < n → a = some ⟨b, o, none⟩) ∧ n ≤ 140737488351232 ∧ ∀ j, j < n → w.cell? ⟨b, o + j, none⟩ = some (.int .i64 (l.getD j 0)) := by
  obtain ⟨⟨a', c', b, o, hv, ha⟩, -⟩ := h
  injection hv with h1 h2 h3
  subst h1 h2 h3
  exact ⟨b, o, fun h => ha.ad h, ha.nb, fun j hj => ha.el j hj⟩

set_option maxRecDepth 100000 in
set_option maxHeartbeats 8000000 in
theorem Parts_walk0 (w : World) (vg vs vi : Value) (g : Gm) (s inn : List Bool) (hK : Keys w) (hg : IsGame w vg g) (hs : IsBools w vs s) (hi : IsBools w vi inn) (hq : ¬ (smallB g 100 = true ∧ validB g = true ∧ s.length = g.owner.length ∧ inn.length ≤ 120)) :
    Calls Tryd.prog 6 #[vg, vs, vi] w (Calm (.bool true) w) := by
  obtain ⟨a0, n0, k0, a1, n1, k1, a2, n2, k2, rfl⟩ := hg.shape
  have hn0 : Hid (n0 = g.owner.length) := by
    show _ = _
    obtain ⟨v0, v1, v2, hv, ⟨⟨ao0, cap0, b0, off0, rfl, g0⟩, _⟩, -, -⟩ := hg
    injection hv with hv
    injection hv with hv
    simp only [List.cons.injEq, Value.slice.injEq, and_true] at hv
    exact hv.1.2.1
  obtain ⟨as', cs, rfl⟩ := hs.shape
  obtain ⟨ai, ci, rfl⟩ := hi.shape
  obtain ⟨sb, so, -, hsn, -⟩ := hs.data
  obtain ⟨ib, io, -, hin, -⟩ := hi.data
  clear hs hi
  go_enter Tryd.func6, Tryd.ntmps6
  go_upto_region 1 with (fail)
  obtain ⟨hx, hB⟩ : (w.alloc (.cells #[.slice a0 n0 k0, .slice a1 n1 k1, .slice a2 n2 k2] 28)).heap[w.heap.size]? = some (.cells #[.slice a0 n0 k0, .slice a1 n1 k1, .slice a2 n2 k2] 28 (0, 0)) ∧ Below w.heap.size w (w.alloc (.cells #[.slice a0 n0 k0, .slice a1 n1 k1, .slice a2 n2 k2] 28)) := ⟨heap_alloc_new _ _, bel_box _⟩
  replace hg := hg.below hB
  replace hK := hK.below hB
  generalize w.alloc (.cells #[.slice a0 n0 k0, .slice a1 n1 k1, .slice a2 n2 k2] 28) = w1 at *
  have HE : Hid (∀ W, Below w1.heap.size w1 W → Calm (.bool true) w (.returned (.bool true)) W) := fun W h => ⟨rfl, hB.trans (h.mono hB.size)⟩
  clear hB
  generalize w.heap.size = z at *
  go_wp2_with fail
  refine (head_c _ hK).mono ?_
  rintro e w2 ⟨rfl, hb⟩
  (replace hx := (hb.block _ (Array.getElem?_eq_some_iff.1 hx).1).trans hx)
  replace hg := hg.below hb
  have c0 := cell_of_row _ _ 0 _ _ _ hx
  have c1 := cell_of_row _ _ 1 _ _ _ hx
  have c2 := cell_of_row _ _ 2 _ _ _ hx
  go_wp2_with fail
  refine (Small_c _ _ g 100 hg).mono ?_
  rintro e w3 ⟨rfl, hb3⟩
  (replace hx := (hb3.block _ (Array.getElem?_eq_some_iff.1 hx).1).trans hx)
  replace hg := hg.below hb3
  replace hb := hb.trans (hb3.mono hb.size)
  clear c0 c1 c2 hb3
  have c0 := cell_of_row _ _ 0 _ _ _ hx
  have c1 := cell_of_row _ _ 1 _ _ _ hx
  have c2 := cell_of_row _ _ 2 _ _ _ hx
  cases hsm : smallB g 100
  · go_wp2_with fail
    go_ret
    exact HE.out _ hb
  · go_wp2_with fail
    refine (RValid_c _ _ g hg).mono ?_
    rintro e w4 ⟨rfl, hb3⟩
    (replace hx := (hb3.block _ (Array.getElem?_eq_some_iff.1 hx).1).trans hx)
    replace hb := hb.trans (hb3.mono hb.size)
    clear c0 c1 c2 hb3
    have c0 := cell_of_row _ _ 0 _ _ _ hx
    have c1 := cell_of_row _ _ 1 _ _ _ hx
    have c2 := cell_of_row _ _ 2 _ _ _ hx
    cases hv : validB g
    · go_wp2_with fail
      go_ret
      exact HE.out _ hb
    · have hq' : ¬ (s.length = n0 ∧ inn.length ≤ 120) := fun h => hq ⟨hsm, hv, by rw [h.1, hn0.out], h.2⟩
      clear hq hsm hv
      by_cases hl : s.length = n0
      · have hne : ((s.length : Int) != (n0 : Int)) = false := by rw [hl]; simp
        have h120 : 120 < inn.length := by have := fun h => hq' ⟨hl, h⟩; omega
        have hgt : decide ((inn.length : Int) > 120) = true := decide_eq_true (by omega)
        clear hq'
        go_wp2_with fail
        go_ret
        exact HE.out _ hb
      · have hne : ((s.length : Int) != (n0 : Int)) = true := by simpa using (show (s.length : Int) ≠ n0 by omega)
        clear hq'
        go_wp2_with fail
        go_ret
        exact HE.out _ hb

end Go.Proofs.YtjadeffdcbchnaaDoor
