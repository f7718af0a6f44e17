/- What the reference's Normal, formed, Same compute. -/
import Derived.Test.YtgjpdnaeldpdeaaWd22
import Derived.Test.YtgjpdnaeldpdeaaWd19
namespace Go.Proofs.Ytgjpdnaeldpdeaa
open Go.RowKit

set_option maxHeartbeats 2000000 in
theorem RNormal_c (w : World) (v : Value) (l : Ls) (hl : IsLs w v l) :
    Calls Try.prog 21 #[v] w (NewL (normalI l) w) := by
  have HF := Lib.hid (fun (W : World) (hW : Below w.heap.size w W) => RFormed_c W v l (hl.below hW))
  by_cases hf : formB l = true
  · have hs := formB_short hf
    have HN := Lib.hid (fun (W : World) (hW : Below w.heap.size w W) => (Shortest_c W v l (hl.below hW) (by omega) (by omega) (by omega)).mono fun e w' h => h.t)
    have HR : Hid (normalI l = normL l) := if_pos hf
    obtain ⟨v0, v1, rfl, h0, h1⟩ := hl
    obtain ⟨⟨a0, c0, b0, o0, rfl, g0⟩, -⟩ := h0
    obtain ⟨⟨a1, c1, b1, o1, rfl, g1⟩, -⟩ := h1
    rw [hf] at HF
    clear g0 g1 hf
    generalize hnl : normalI l = ni at *
    generalize normL l = nl at *
    clear hnl
    go_enter Try.func21, Try.ntmps21
    go_upto_region 1 with (fail)
    (have hB0 : Below w.heap.size w ((w.alloc (Obj.cells #[Value.slice a0 l.stem.length c0, Value.slice a1 l.loop.length c1] 24)).alloc (Obj.cells #[Value.slice none 0 0, Value.slice none 0 0] 24)) := (by repeat (first | exact Below.refl _ _ | assumption | (refine belA ?_ _) | (refine belD ?_ _)))); (have cA : ((w.alloc (Obj.cells #[Value.slice a0 l.stem.length c0, Value.slice a1 l.loop.length c1] 24)).alloc (Obj.cells #[Value.slice none 0 0, Value.slice none 0 0] 24)).cell? ⟨w.heap.size, 0, none⟩ = some (Value.slice a0 l.stem.length c0) := boxCell 0 (bel_box _) rfl); (have cB : ((w.alloc (Obj.cells #[Value.slice a0 l.stem.length c0, Value.slice a1 l.loop.length c1] 24)).alloc (Obj.cells #[Value.slice none 0 0, Value.slice none 0 0] 24)).cell? ⟨w.heap.size, 1, none⟩ = some (Value.slice a1 l.loop.length c1) := boxCell 1 (bel_box _) rfl); (have cR : ((w.alloc (Obj.cells #[Value.slice a0 l.stem.length c0, Value.slice a1 l.loop.length c1] 24)).alloc (Obj.cells #[Value.slice none 0 0, Value.slice none 0 0] 24)).heap[w.heap.size + 1]? = some (Obj.cells #[Value.slice none 0 0, Value.slice none 0 0] 24) := (by have := heap_alloc_new (w.alloc (Obj.cells #[Value.slice a0 l.stem.length c0, Value.slice a1 l.loop.length c1] 24)) (Obj.cells #[Value.slice none 0 0, Value.slice none 0 0] 24); simpa using this)); (have hsz : w.heap.size + 1 < ((w.alloc (Obj.cells #[Value.slice a0 l.stem.length c0, Value.slice a1 l.loop.length c1] 24)).alloc (Obj.cells #[Value.slice none 0 0, Value.slice none 0 0] 24)).heap.size := (Array.getElem?_eq_some_iff.1 cR).1); generalize ((w.alloc (Obj.cells #[Value.slice a0 l.stem.length c0, Value.slice a1 l.loop.length c1] 24)).alloc (Obj.cells #[Value.slice none 0 0, Value.slice none 0 0] 24)) = w1 at *
    go_wp2_with fail
    refine (HF.out _ hB0).mono ?_
    rintro e w2 ⟨rfl, hb2⟩
    have cA := cellB hb2 cA
    have cB := cellB hb2 cB
    have cR := (hb2.block _ (by omega : w.heap.size + 1 < w1.heap.size)).trans cR
    have hB := hB0.trans (hb2.mono hB0.size)
    go_wp2_with fail
    refine (HN.out _ hB).mono ?_
    rintro e w3 ⟨a5, k5, a6, k6, rfl, i5, i6, hb3⟩
    have hz2 : w.heap.size + 1 < w2.heap.size := (Array.getElem?_eq_some_iff.1 cR).1
    have HC := Lib.hid ((hb3.block _ hz2).trans cR)
    have hB3 := hB.trans (hb3.mono hB.size)
    obtain ⟨x0, x1, y0, y1⟩ := boxF HC.out
    clear cA cB cR hb2 hb3
    go_wp2_with fail
    (have hc3 := two_set (a := .slice a5 nl.stem.length k5) (b := .slice a6 nl.loop.length k6) HC.out); (have cc0 := cell_of_row _ _ 0 _ _ _ hc3); (have cc1 := cell_of_row _ _ 1 _ _ _ hc3); (refine bodyPost_ret (v := .agg #[.slice a5 nl.stem.length k5, .slice a6 nl.loop.length k6]) (by simp [results, Try.results21, go_sem, cc0, cc1]) rfl ?_)
    rw [HR.out]
    exact lsEnd HC.out i5.out i6.out hB3 (by omega)
  · rw [Bool.not_eq_true] at hf
    have HR : Hid (normalI l = zeroL) := if_neg (by rw [hf]; simp)
    obtain ⟨v0, v1, rfl, h0, h1⟩ := hl
    obtain ⟨⟨a0, c0, b0, o0, rfl, g0⟩, -⟩ := h0
    obtain ⟨⟨a1, c1, b1, o1, rfl, g1⟩, -⟩ := h1
    rw [hf] at HF
    clear g0 g1 hf
    generalize hnl : normalI l = ni at *
    clear hnl
    go_enter Try.func21, Try.ntmps21
    go_upto_region 1 with (fail)
    (have hB0 : Below w.heap.size w ((w.alloc (Obj.cells #[Value.slice a0 l.stem.length c0, Value.slice a1 l.loop.length c1] 24)).alloc (Obj.cells #[Value.slice none 0 0, Value.slice none 0 0] 24)) := (by repeat (first | exact Below.refl _ _ | assumption | (refine belA ?_ _) | (refine belD ?_ _)))); (have cA : ((w.alloc (Obj.cells #[Value.slice a0 l.stem.length c0, Value.slice a1 l.loop.length c1] 24)).alloc (Obj.cells #[Value.slice none 0 0, Value.slice none 0 0] 24)).cell? ⟨w.heap.size, 0, none⟩ = some (Value.slice a0 l.stem.length c0) := boxCell 0 (bel_box _) rfl); (have cB : ((w.alloc (Obj.cells #[Value.slice a0 l.stem.length c0, Value.slice a1 l.loop.length c1] 24)).alloc (Obj.cells #[Value.slice none 0 0, Value.slice none 0 0] 24)).cell? ⟨w.heap.size, 1, none⟩ = some (Value.slice a1 l.loop.length c1) := boxCell 1 (bel_box _) rfl); (have cR : ((w.alloc (Obj.cells #[Value.slice a0 l.stem.length c0, Value.slice a1 l.loop.length c1] 24)).alloc (Obj.cells #[Value.slice none 0 0, Value.slice none 0 0] 24)).heap[w.heap.size + 1]? = some (Obj.cells #[Value.slice none 0 0, Value.slice none 0 0] 24) := (by have := heap_alloc_new (w.alloc (Obj.cells #[Value.slice a0 l.stem.length c0, Value.slice a1 l.loop.length c1] 24)) (Obj.cells #[Value.slice none 0 0, Value.slice none 0 0] 24); simpa using this)); (have hsz : w.heap.size + 1 < ((w.alloc (Obj.cells #[Value.slice a0 l.stem.length c0, Value.slice a1 l.loop.length c1] 24)).alloc (Obj.cells #[Value.slice none 0 0, Value.slice none 0 0] 24)).heap.size := (Array.getElem?_eq_some_iff.1 cR).1); generalize ((w.alloc (Obj.cells #[Value.slice a0 l.stem.length c0, Value.slice a1 l.loop.length c1] 24)).alloc (Obj.cells #[Value.slice none 0 0, Value.slice none 0 0] 24)) = w1 at *
    go_wp2_with fail
    refine (HF.out _ hB0).mono ?_
    rintro e w2 ⟨rfl, hb2⟩
    have hB := hB0.trans (hb2.mono hB0.size)
    have HC := Lib.hid ((hb2.block _ (by omega : w.heap.size + 1 < w1.heap.size)).trans cR)
    obtain ⟨x0, x1, y0, y1⟩ := boxF HC.out
    clear cA cB cR hb2
    go_wp2_with fail
    (have hc3 := two_set (a := .slice none 0 0) (b := .slice none 0 0) HC.out); (have cc0 := cell_of_row _ _ 0 _ _ _ hc3); (have cc1 := cell_of_row _ _ 1 _ _ _ hc3); (refine bodyPost_ret (v := .agg #[.slice none 0 0, .slice none 0 0]) (by simp [results, Try.results21, go_sem, cc0, cc1]) rfl ?_)
    rw [HR.out]
    exact zeroEnd hB (by omega)


def formedL (l : Ls) : Ls := if formB l = true then l else zeroL

set_option maxHeartbeats 2000000 in
theorem Rformed_c (w : World) (v : Value) (l : Ls) (hl : IsLs w v l) :
    Calls Try.prog 46 #[v] w (NewL (formedL l) w) := by
  have HF := Lib.hid (fun (W : World) (hW : Below w.heap.size w W) => RFormed_c W v l (hl.below hW))
  by_cases hf : formB l = true
  · have HR : Hid (formedL l = l) := if_pos hf
    obtain ⟨v0, v1, rfl, h0, h1⟩ := hl
    have H0 := Lib.hid (fun (W : World) (hW : Below w.heap.size w W) => h0.below hW)
    have H1 := Lib.hid (fun (W : World) (hW : Below w.heap.size w W) => h1.below hW)
    obtain ⟨⟨a0, c0, b0, o0, rfl, g0⟩, -⟩ := h0
    obtain ⟨⟨a1, c1, b1, o1, rfl, g1⟩, -⟩ := h1
    rw [hf] at HF
    clear g0 g1 hf
    go_enter Try.func46, Try.ntmps46
    go_upto_region 1 with (fail)
    (have hB0 : Below w.heap.size w ((w.alloc (Obj.cells #[Value.slice a0 l.stem.length c0, Value.slice a1 l.loop.length c1] 24)).alloc (Obj.cells #[Value.slice none 0 0, Value.slice none 0 0] 24)) := (by repeat (first | exact Below.refl _ _ | assumption | (refine belA ?_ _) | (refine belD ?_ _)))); (have cA : ((w.alloc (Obj.cells #[Value.slice a0 l.stem.length c0, Value.slice a1 l.loop.length c1] 24)).alloc (Obj.cells #[Value.slice none 0 0, Value.slice none 0 0] 24)).cell? ⟨w.heap.size, 0, none⟩ = some (Value.slice a0 l.stem.length c0) := boxCell 0 (bel_box _) rfl); (have cB : ((w.alloc (Obj.cells #[Value.slice a0 l.stem.length c0, Value.slice a1 l.loop.length c1] 24)).alloc (Obj.cells #[Value.slice none 0 0, Value.slice none 0 0] 24)).cell? ⟨w.heap.size, 1, none⟩ = some (Value.slice a1 l.loop.length c1) := boxCell 1 (bel_box _) rfl); (have cR : ((w.alloc (Obj.cells #[Value.slice a0 l.stem.length c0, Value.slice a1 l.loop.length c1] 24)).alloc (Obj.cells #[Value.slice none 0 0, Value.slice none 0 0] 24)).heap[w.heap.size + 1]? = some (Obj.cells #[Value.slice none 0 0, Value.slice none 0 0] 24) := (by have := heap_alloc_new (w.alloc (Obj.cells #[Value.slice a0 l.stem.length c0, Value.slice a1 l.loop.length c1] 24)) (Obj.cells #[Value.slice none 0 0, Value.slice none 0 0] 24); simpa using this)); (have hsz : w.heap.size + 1 < ((w.alloc (Obj.cells #[Value.slice a0 l.stem.length c0, Value.slice a1 l.loop.length c1] 24)).alloc (Obj.cells #[Value.slice none 0 0, Value.slice none 0 0] 24)).heap.size := (Array.getElem?_eq_some_iff.1 cR).1); generalize ((w.alloc (Obj.cells #[Value.slice a0 l.stem.length c0, Value.slice a1 l.loop.length c1] 24)).alloc (Obj.cells #[Value.slice none 0 0, Value.slice none 0 0] 24)) = w1 at *
    go_wp2_with fail
    refine (HF.out _ hB0).mono ?_
    rintro e w2 ⟨rfl, hb2⟩
    have cA := cellB hb2 cA
    have cB := cellB hb2 cB
    have HC := Lib.hid ((hb2.block _ (by omega : w.heap.size + 1 < w1.heap.size)).trans cR)
    have hB := hB0.trans (hb2.mono hB0.size)
    have hz2 : w.heap.size + 1 < w2.heap.size := (Array.getElem?_eq_some_iff.1 HC.out).1
    obtain ⟨x0, x1, y0, y1⟩ := boxF HC.out
    clear cR hb2
    go_wp2_with fail
    (have hc3 := two_set (a := .slice a0 l.stem.length c0) (b := .slice a1 l.loop.length c1) HC.out); (have cc0 := cell_of_row _ _ 0 _ _ _ hc3); (have cc1 := cell_of_row _ _ 1 _ _ _ hc3); (refine bodyPost_ret (v := .agg #[.slice a0 l.stem.length c0, .slice a1 l.loop.length c1]) (by simp [results, Try.results46, go_sem, cc0, cc1]) rfl ?_)
    rw [HR.out]
    exact lsEnd HC.out (H0.out _ hB) (H1.out _ hB) hB (by omega)
  · rw [Bool.not_eq_true] at hf
    have HR : Hid (formedL l = zeroL) := if_neg (by rw [hf]; simp)
    obtain ⟨v0, v1, rfl, h0, h1⟩ := hl
    obtain ⟨⟨a0, c0, b0, o0, rfl, g0⟩, -⟩ := h0
    obtain ⟨⟨a1, c1, b1, o1, rfl, g1⟩, -⟩ := h1
    rw [hf] at HF
    clear g0 g1 hf
    generalize hnl : formedL l = ni at *
    clear hnl
    go_enter Try.func46, Try.ntmps46
    go_upto_region 1 with (fail)
    (have hB0 : Below w.heap.size w ((w.alloc (Obj.cells #[Value.slice a0 l.stem.length c0, Value.slice a1 l.loop.length c1] 24)).alloc (Obj.cells #[Value.slice none 0 0, Value.slice none 0 0] 24)) := (by repeat (first | exact Below.refl _ _ | assumption | (refine belA ?_ _) | (refine belD ?_ _)))); (have cA : ((w.alloc (Obj.cells #[Value.slice a0 l.stem.length c0, Value.slice a1 l.loop.length c1] 24)).alloc (Obj.cells #[Value.slice none 0 0, Value.slice none 0 0] 24)).cell? ⟨w.heap.size, 0, none⟩ = some (Value.slice a0 l.stem.length c0) := boxCell 0 (bel_box _) rfl); (have cB : ((w.alloc (Obj.cells #[Value.slice a0 l.stem.length c0, Value.slice a1 l.loop.length c1] 24)).alloc (Obj.cells #[Value.slice none 0 0, Value.slice none 0 0] 24)).cell? ⟨w.heap.size, 1, none⟩ = some (Value.slice a1 l.loop.length c1) := boxCell 1 (bel_box _) rfl); (have cR : ((w.alloc (Obj.cells #[Value.slice a0 l.stem.length c0, Value.slice a1 l.loop.length c1] 24)).alloc (Obj.cells #[Value.slice none 0 0, Value.slice none 0 0] 24)).heap[w.heap.size + 1]? = some (Obj.cells #[Value.slice none 0 0, Value.slice none 0 0] 24) := (by have := heap_alloc_new (w.alloc (Obj.cells #[Value.slice a0 l.stem.length c0, Value.slice a1 l.loop.length c1] 24)) (Obj.cells #[Value.slice none 0 0, Value.slice none 0 0] 24); simpa using this)); (have hsz : w.heap.size + 1 < ((w.alloc (Obj.cells #[Value.slice a0 l.stem.length c0, Value.slice a1 l.loop.length c1] 24)).alloc (Obj.cells #[Value.slice none 0 0, Value.slice none 0 0] 24)).heap.size := (Array.getElem?_eq_some_iff.1 cR).1); generalize ((w.alloc (Obj.cells #[Value.slice a0 l.stem.length c0, Value.slice a1 l.loop.length c1] 24)).alloc (Obj.cells #[Value.slice none 0 0, Value.slice none 0 0] 24)) = w1 at *
    go_wp2_with fail
    refine (HF.out _ hB0).mono ?_
    rintro e w2 ⟨rfl, hb2⟩
    have hB := hB0.trans (hb2.mono hB0.size)
    have HC := Lib.hid ((hb2.block _ (by omega : w.heap.size + 1 < w1.heap.size)).trans cR)
    obtain ⟨x0, x1, y0, y1⟩ := boxF HC.out
    clear cA cB cR hb2
    go_wp2_with fail
    (have hc3 := two_set (a := .slice none 0 0) (b := .slice none 0 0) HC.out); (have cc0 := cell_of_row _ _ 0 _ _ _ hc3); (have cc1 := cell_of_row _ _ 1 _ _ _ hc3); (refine bodyPost_ret (v := .agg #[.slice none 0 0, .slice none 0 0]) (by simp [results, Try.results46, go_sem, cc0, cc1]) rfl ?_)
    rw [HR.out]
    exact zeroEnd hB (by omega)

end Go.Proofs.Ytgjpdnaeldpdeaa
