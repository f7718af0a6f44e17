/- What short computes. -/
import Derived.Test.YtgjpdnaeldpdeaaWd13
namespace Go.Proofs.Ytgjpdnaeldpdeaa
open Go.RowKit

theorem IsLs.mk {w : World} {l : Ls} {x y : Value} (h0 : IsInts w x l.stem) (h1 : IsInts w y l.loop) : IsLs w (.agg #[x, y]) l := ⟨_, _, rfl, h0, h1⟩

set_option maxHeartbeats 2000000 in
theorem short_c (w : World) (v : Value) (l : Ls) (hl : IsLs w v l) (hp : 0 < l.loop.length) (hls : l.stem.length ≤ 100000) (hll : l.loop.length ≤ 100000) :
    Calls Try.prog 43 #[v] w (NewL (shortL l) w) := by
  have HN := Lib.hid (fun (W : World) (hW : Below w.heap.size w W) => (normal_c W v l (hl.below hW) hp hls hll).mono fun e w' h => h.t)
  have HR : Hid (formB (normL l) = true → shortL l = normL l) := fun h => if_pos h
  have HR2 : Hid (formB (normL l) = false → shortL l = zeroL) := fun h => if_neg (by rw [h]; simp)
  obtain ⟨v0, v1, rfl, h0, h1⟩ := hl
  obtain ⟨⟨a0, c0, b0, o0, rfl, g0⟩, -⟩ := h0
  obtain ⟨⟨a1, c1, b1, o1, rfl, g1⟩, -⟩ := h1
  have HF : Hid (∀ W v, IsLs W v (normL l) → Calls Try.prog 34 #[v] W (Calm (.bool (formB (normL l))) W)) := fun W v h => formed_c W v _ h
  clear g0 g1
  generalize hnl : shortL l = ni at *
  generalize normL l = nl at *
  generalize hq : formB nl = q at *
  clear hnl hq
  go_enter Try.func43, Try.ntmps43
  go_upto_region 1 with (fail)
  (have hB0 : Below w.heap.size w ((w.alloc (Obj.cells #[Value.slice a0 l.stem.length c0, Value.slice a1 l.loop.length c1] 24)).alloc (Obj.cells #[Value.slice none 0 0, Value.slice none 0 0] 24)) := (by repeat (first | exact Below.refl _ _ | assumption | (refine belA ?_ _) | (refine belD ?_ _)))); (have cA : ((w.alloc (Obj.cells #[Value.slice a0 l.stem.length c0, Value.slice a1 l.loop.length c1] 24)).alloc (Obj.cells #[Value.slice none 0 0, Value.slice none 0 0] 24)).cell? ⟨w.heap.size, 0, none⟩ = some (Value.slice a0 l.stem.length c0) := boxCell 0 (bel_box _) rfl); (have cB : ((w.alloc (Obj.cells #[Value.slice a0 l.stem.length c0, Value.slice a1 l.loop.length c1] 24)).alloc (Obj.cells #[Value.slice none 0 0, Value.slice none 0 0] 24)).cell? ⟨w.heap.size, 1, none⟩ = some (Value.slice a1 l.loop.length c1) := boxCell 1 (bel_box _) rfl); (have cR : ((w.alloc (Obj.cells #[Value.slice a0 l.stem.length c0, Value.slice a1 l.loop.length c1] 24)).alloc (Obj.cells #[Value.slice none 0 0, Value.slice none 0 0] 24)).heap[w.heap.size + 1]? = some (Obj.cells #[Value.slice none 0 0, Value.slice none 0 0] 24) := (by have := heap_alloc_new (w.alloc (Obj.cells #[Value.slice a0 l.stem.length c0, Value.slice a1 l.loop.length c1] 24)) (Obj.cells #[Value.slice none 0 0, Value.slice none 0 0] 24); simpa using this)); (have hsz : w.heap.size + 1 < ((w.alloc (Obj.cells #[Value.slice a0 l.stem.length c0, Value.slice a1 l.loop.length c1] 24)).alloc (Obj.cells #[Value.slice none 0 0, Value.slice none 0 0] 24)).heap.size := (Array.getElem?_eq_some_iff.1 cR).1); generalize ((w.alloc (Obj.cells #[Value.slice a0 l.stem.length c0, Value.slice a1 l.loop.length c1] 24)).alloc (Obj.cells #[Value.slice none 0 0, Value.slice none 0 0] 24)) = w1 at *
  go_wp2_with fail
  refine (HN.out _ hB0).mono ?_
  rintro e w3 ⟨a5, k5, a6, k6, rfl, i5, i6, hb3⟩
  have HC := Lib.hid ((hb3.block _ hsz).trans cR)
  have hB3 := hB0.trans (hb3.mono hB0.size)
  have hz3 : w.heap.size + 1 < w3.heap.size := by have := hb3.size; omega
  clear cA cB cR hb3
  go_upto_region 2 with (fail)
  have dA : (w3.alloc (Obj.cells #[Value.slice a5 nl.stem.length k5, Value.slice a6 nl.loop.length k6] 24)).cell? ⟨w3.heap.size, 0, none⟩ = some (Value.slice a5 nl.stem.length k5) := boxCell 0 (Below.refl _ _) rfl
  have dB : (w3.alloc (Obj.cells #[Value.slice a5 nl.stem.length k5, Value.slice a6 nl.loop.length k6] 24)).cell? ⟨w3.heap.size, 1, none⟩ = some (Value.slice a6 nl.loop.length k6) := boxCell 1 (Below.refl _ _) rfl
  have hb4 : Below w3.heap.size w3 (w3.alloc (Obj.cells #[Value.slice a5 nl.stem.length k5, Value.slice a6 nl.loop.length k6] 24)) := bel_box _
  generalize (w3.alloc (Obj.cells #[Value.slice a5 nl.stem.length k5, Value.slice a6 nl.loop.length k6] 24)) = w4 at *
  go_wp2_with fail
  refine (HF.out _ _ (IsLs.mk (i5.out.below hb4) (i6.out.below hb4))).mono ?_
  rintro e w5 ⟨rfl, hb5⟩
  have hb6 := hb4.trans (hb5.mono hb4.size)
  have eA := cellB hb5 dA
  have eB := cellB hb5 dB
  have HC5 := Lib.hid ((hb6.block _ hz3).trans HC.out)
  have hB5 := hB3.trans (hb6.mono hB3.size)
  obtain ⟨x0, x1, y0, y1⟩ := boxF HC5.out
  have J5 := Lib.hid (i5.out.below hb6)
  have J6 := Lib.hid (i6.out.below hb6)
  clear dA dB hb4 hb5 hb6
  cases q with
  | true =>
    go_wp2_with fail
    (have hc3 := two_set (a := .slice a5 nl.stem.length k5) (b := .slice a6 nl.loop.length k6) HC5.out); (have cc0 := cell_of_row _ _ 0 _ _ _ hc3); (have cc1 := cell_of_row _ _ 1 _ _ _ hc3); (refine bodyPost_ret (v := .agg #[.slice a5 nl.stem.length k5, .slice a6 nl.loop.length k6]) (by simp [results, Try.results43, go_sem, cc0, cc1]) rfl ?_)
    rw [HR.out (by trivial)]
    exact lsEnd HC5.out J5.out J6.out hB5 (by omega)
  | false =>
    go_wp2_with fail
    (have hc3 := two_set (a := .slice none 0 0) (b := .slice none 0 0) HC5.out); (have cc0 := cell_of_row _ _ 0 _ _ _ hc3); (have cc1 := cell_of_row _ _ 1 _ _ _ hc3); (refine bodyPost_ret (v := .agg #[.slice none 0 0, .slice none 0 0]) (by simp [results, Try.results43, go_sem, cc0, cc1]) rfl ?_)
    rw [HR2.out (by trivial)]
    exact zeroEnd hB5 (by omega)

end Go.Proofs.Ytgjpdnaeldpdeaa
