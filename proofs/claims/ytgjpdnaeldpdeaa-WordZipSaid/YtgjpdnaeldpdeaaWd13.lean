/- What short, Normal compute. -/
import Derived.Test.YtgjpdnaeldpdeaaWd12
import Derived.Test.YtgjpdnaeldpdeaaWd6
namespace Go.Proofs.Ytgjpdnaeldpdeaa
open Go.RowKit

/-- A lasso made for the call, its slices in view. -/
def NewT (l : Ls) (w : World) (e : Ending) (w' : World) : Prop :=
  ∃ a b c d, e = .returned (.agg #[.slice a l.stem.length b, .slice c l.loop.length d]) ∧ Hid (IsInts w' (.slice a l.stem.length b) l.stem) ∧ Hid (IsInts w' (.slice c l.loop.length d) l.loop) ∧ Below w.heap.size w w'
theorem NewL.t {l : Ls} {w w' : World} {e : Ending} (h : NewL l w e w') : NewT l w e w' := by
  obtain ⟨v, rfl, ⟨v0, v1, rfl, h0, h1⟩, hb⟩ := h
  have k0 := h0
  have k1 := h1
  obtain ⟨⟨a0, c0, b0, o0, rfl, g0⟩, -⟩ := h0
  obtain ⟨⟨a1, c1, b1, o1, rfl, g1⟩, -⟩ := h1
  exact ⟨a0, c0, a1, c1, rfl, k0, k1, hb⟩

theorem boxF {w : World} {n m1 m2 c1 c2 : Nat} {t : TypeId} {ao bo : Option Addr} (h : w.heap[n]? = some (.cells #[.slice ao m1 c1, .slice bo m2 c2] t (0, 0))) :
    w.cell? ⟨n, 0, none⟩ = some (.slice ao m1 c1) ∧ w.cell? ⟨n, 1, none⟩ = some (.slice bo m2 c2) ∧ w.frozen? ⟨n, 0, none⟩ = false ∧ w.frozen? ⟨n, 1, none⟩ = false :=
  ⟨cell_of_row _ _ 0 _ _ _ h, cell_of_row _ _ 1 _ _ _ h, frozen_of_row _ _ 0 _ _ h, frozen_of_row _ _ 1 _ _ h⟩

theorem lsEnd {w wr : World} {n m1 m2 c1 c2 : Nat} {t : TypeId} {ao bo : Option Addr} {x y : Value} {l : Ls} (hr : wr.heap[n]? = some (.cells #[.slice ao m1 c1, .slice bo m2 c2] t (0, 0))) (h1 : IsInts wr x l.stem) (h2 : IsInts wr y l.loop) (hb : Below w.heap.size w wr) (hn : w.heap.size ≤ n) :
    NewL l w (.returned (.agg #[x, y])) ((wr.setCell ⟨n, 0, none⟩ x).setCell ⟨n, 1, none⟩ y) :=
  ⟨_, rfl, ⟨_, _, rfl, h1.setTwo hr, h2.setTwo hr⟩, below_two hb hn⟩

theorem zeroEnd {w wr : World} {n : Nat} (hb : Below w.heap.size w wr) (hn : w.heap.size ≤ n) :
    NewL zeroL w (.returned (.agg #[.slice none 0 0, .slice none 0 0])) ((wr.setCell ⟨n, 0, none⟩ (.slice none 0 0)).setCell ⟨n, 1, none⟩ (.slice none 0 0)) :=
  ⟨_, rfl, ⟨_, _, rfl, ints_nil _, ints_nil _⟩, below_two hb hn⟩

set_option maxHeartbeats 2000000 in
theorem Normal_c (w : World) (v : Value) (l : Ls) (hl : IsLs w v l) :
    Calls Try.prog 20 #[v] w (NewL (normalI l) w) := by
  have HF := Lib.hid (fun (W : World) (hW : Below w.heap.size w W) => formed_c W v l (hl.below hW))
  by_cases hf : formB l = true
  · have hs := formB_short hf
    have HN := Lib.hid (fun (W : World) (hW : Below w.heap.size w W) => (normal_c W v l (hl.below hW) (by omega) (by omega) (by omega)).mono fun e w' h => h.t)
    have HR : Hid (normalI l = normL l) := if_pos hf
    obtain ⟨v0, v1, rfl, h0, h1⟩ := hl
    obtain ⟨⟨a0, c0, b0, o0, rfl, g0⟩, -⟩ := h0
    obtain ⟨⟨a1, c1, b1, o1, rfl, g1⟩, -⟩ := h1
    rw [hf] at HF
    clear g0 g1 hf
    generalize hnl : normalI l = ni at *
    generalize normL l = nl at *
    clear hnl
    go_enter Try.func20, Try.ntmps20
    go_upto_region 1 with (fail)
    (have hB0 : Below w.heap.size w ((w.alloc (Obj.cells #[Value.slice a0 l.stem.length c0, Value.slice a1 l.loop.length c1] 24)).alloc (Obj.cells #[Value.slice none 0 0, Value.slice none 0 0] 24)) := (by repeat (first | exact Below.refl _ _ | assumption | (refine belA ?_ _) | (refine belD ?_ _)))); (have cA : ((w.alloc (Obj.cells #[Value.slice a0 l.stem.length c0, Value.slice a1 l.loop.length c1] 24)).alloc (Obj.cells #[Value.slice none 0 0, Value.slice none 0 0] 24)).cell? ⟨w.heap.size, 0, none⟩ = some (Value.slice a0 l.stem.length c0) := boxCell 0 (bel_box _) rfl); (have cB : ((w.alloc (Obj.cells #[Value.slice a0 l.stem.length c0, Value.slice a1 l.loop.length c1] 24)).alloc (Obj.cells #[Value.slice none 0 0, Value.slice none 0 0] 24)).cell? ⟨w.heap.size, 1, none⟩ = some (Value.slice a1 l.loop.length c1) := boxCell 1 (bel_box _) rfl); (have cR : ((w.alloc (Obj.cells #[Value.slice a0 l.stem.length c0, Value.slice a1 l.loop.length c1] 24)).alloc (Obj.cells #[Value.slice none 0 0, Value.slice none 0 0] 24)).heap[w.heap.size + 1]? = some (Obj.cells #[Value.slice none 0 0, Value.slice none 0 0] 24) := (by have := heap_alloc_new (w.alloc (Obj.cells #[Value.slice a0 l.stem.length c0, Value.slice a1 l.loop.length c1] 24)) (Obj.cells #[Value.slice none 0 0, Value.slice none 0 0] 24); simpa using this)); (have hsz : w.heap.size + 1 < ((w.alloc (Obj.cells #[Value.slice a0 l.stem.length c0, Value.slice a1 l.loop.length c1] 24)).alloc (Obj.cells #[Value.slice none 0 0, Value.slice none 0 0] 24)).heap.size := (Array.getElem?_eq_some_iff.1 cR).1); generalize ((w.alloc (Obj.cells #[Value.slice a0 l.stem.length c0, Value.slice a1 l.loop.length c1] 24)).alloc (Obj.cells #[Value.slice none 0 0, Value.slice none 0 0] 24)) = w1 at *
    go_wp2_with fail
    refine (HF.out _ hB0).mono ?_
    rintro e w2 ⟨rfl, hb2⟩
    have cA := cellB hb2 cA
    have cB := cellB hb2 cB
    have cR := (hb2.block _ (by omega : w.heap.size + 1 < w1.heap.size)).trans cR
    have hB := hB0.trans (hb2.mono hB0.size)
    go_wp2_with fail
    refine (HN.out _ hB).mono ?_
    rintro e w3 ⟨a5, k5, a6, k6, rfl, i5, i6, hb3⟩
    have hz2 : w.heap.size + 1 < w2.heap.size := (Array.getElem?_eq_some_iff.1 cR).1
    have HC := Lib.hid ((hb3.block _ hz2).trans cR)
    have hB3 := hB.trans (hb3.mono hB.size)
    obtain ⟨x0, x1, y0, y1⟩ := boxF HC.out
    clear cA cB cR hb2 hb3
    go_wp2_with fail
    (have hc3 := two_set (a := .slice a5 nl.stem.length k5) (b := .slice a6 nl.loop.length k6) HC.out); (have cc0 := cell_of_row _ _ 0 _ _ _ hc3); (have cc1 := cell_of_row _ _ 1 _ _ _ hc3); (refine bodyPost_ret (v := .agg #[.slice a5 nl.stem.length k5, .slice a6 nl.loop.length k6]) (by simp [results, Try.results20, go_sem, cc0, cc1]) rfl ?_)
    rw [HR.out]
    exact lsEnd HC.out i5.out i6.out hB3 (by omega)
  · rw [Bool.not_eq_true] at hf
    have HR : Hid (normalI l = zeroL) := if_neg (by rw [hf]; simp)
    obtain ⟨v0, v1, rfl, h0, h1⟩ := hl
    obtain ⟨⟨a0, c0, b0, o0, rfl, g0⟩, -⟩ := h0
    obtain ⟨⟨a1, c1, b1, o1, rfl, g1⟩, -⟩ := h1
    rw [hf] at HF
    clear g0 g1 hf
    generalize hnl : normalI l = ni at *
    clear hnl
    go_enter Try.func20, Try.ntmps20
    go_upto_region 1 with (fail)
    (have hB0 : Below w.heap.size w ((w.alloc (Obj.cells #[Value.slice a0 l.stem.length c0, Value.slice a1 l.loop.length c1] 24)).alloc (Obj.cells #[Value.slice none 0 0, Value.slice none 0 0] 24)) := (by repeat (first | exact Below.refl _ _ | assumption | (refine belA ?_ _) | (refine belD ?_ _)))); (have cA : ((w.alloc (Obj.cells #[Value.slice a0 l.stem.length c0, Value.slice a1 l.loop.length c1] 24)).alloc (Obj.cells #[Value.slice none 0 0, Value.slice none 0 0] 24)).cell? ⟨w.heap.size, 0, none⟩ = some (Value.slice a0 l.stem.length c0) := boxCell 0 (bel_box _) rfl); (have cB : ((w.alloc (Obj.cells #[Value.slice a0 l.stem.length c0, Value.slice a1 l.loop.length c1] 24)).alloc (Obj.cells #[Value.slice none 0 0, Value.slice none 0 0] 24)).cell? ⟨w.heap.size, 1, none⟩ = some (Value.slice a1 l.loop.length c1) := boxCell 1 (bel_box _) rfl); (have cR : ((w.alloc (Obj.cells #[Value.slice a0 l.stem.length c0, Value.slice a1 l.loop.length c1] 24)).alloc (Obj.cells #[Value.slice none 0 0, Value.slice none 0 0] 24)).heap[w.heap.size + 1]? = some (Obj.cells #[Value.slice none 0 0, Value.slice none 0 0] 24) := (by have := heap_alloc_new (w.alloc (Obj.cells #[Value.slice a0 l.stem.length c0, Value.slice a1 l.loop.length c1] 24)) (Obj.cells #[Value.slice none 0 0, Value.slice none 0 0] 24); simpa using this)); (have hsz : w.heap.size + 1 < ((w.alloc (Obj.cells #[Value.slice a0 l.stem.length c0, Value.slice a1 l.loop.length c1] 24)).alloc (Obj.cells #[Value.slice none 0 0, Value.slice none 0 0] 24)).heap.size := (Array.getElem?_eq_some_iff.1 cR).1); generalize ((w.alloc (Obj.cells #[Value.slice a0 l.stem.length c0, Value.slice a1 l.loop.length c1] 24)).alloc (Obj.cells #[Value.slice none 0 0, Value.slice none 0 0] 24)) = w1 at *
    go_wp2_with fail
    refine (HF.out _ hB0).mono ?_
    rintro e w2 ⟨rfl, hb2⟩
    have hB := hB0.trans (hb2.mono hB0.size)
    have HC := Lib.hid ((hb2.block _ (by omega : w.heap.size + 1 < w1.heap.size)).trans cR)
    obtain ⟨x0, x1, y0, y1⟩ := boxF HC.out
    clear cA cB cR hb2
    go_wp2_with fail
    (have hc3 := two_set (a := .slice none 0 0) (b := .slice none 0 0) HC.out); (have cc0 := cell_of_row _ _ 0 _ _ _ hc3); (have cc1 := cell_of_row _ _ 1 _ _ _ hc3); (refine bodyPost_ret (v := .agg #[.slice none 0 0, .slice none 0 0]) (by simp [results, Try.results20, go_sem, cc0, cc1]) rfl ?_)
    rw [HR.out]
    exact zeroEnd hB (by omega)

end Go.Proofs.Ytgjpdnaeldpdeaa
