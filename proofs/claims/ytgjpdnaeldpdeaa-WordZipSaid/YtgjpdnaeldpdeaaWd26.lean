/- What Push computes. -/
import Derived.Test.YtgjpdnaeldpdeaaWd14
import Derived.Test.YtgjpdnaeldpdeaaWd17
import Derived.Test.YtgjpdnaeldpdeaaWd20
namespace Go.Proofs.Ytgjpdnaeldpdeaa
open Go.RowKit

theorem pushI_not {a : List Int} {l : Ls} (h : formB l = false) : pushI a l = zeroL := if_neg (by rw [h]; simp)
theorem pushI_bad {a : List Int} {l : Ls} (h : a.all letB = false) : pushI a l = zeroL := if_neg (by rw [h]; simp)
theorem pushI_ok {a : List Int} {l : Ls} (h : formB l = true) (h2 : a.all letB = true) : pushI a l = shortL (pushR a l) := if_pos ⟨h, h2⟩

/-- Two lists in a slice of slices made for the call. -/
theorem rows_two (W : World) (v0 v1 : Value) (l0 l1 : List Int) (t : TypeId) (h0 : IsInts W v0 l0) (h1 : IsInts W v1 l1) :
    IsRows (W.alloc (.cells #[v0, v1] t)) (.slice (some ⟨W.heap.size, 0, none⟩) 2 2) [l0, l1] := by
  have hb := bel_box (w := W) (.cells #[v0, v1] t)
  have hr := heap_alloc_new W (.cells #[v0, v1] t)
  refine ⟨fun j => if j = 0 then v0 else v1, ⟨some ⟨W.heap.size, 0, none⟩, 2, W.heap.size, 0, rfl, ⟨by simp, by simp [maxLen], by simp [maxN], (fun e => by cases e), fun _ => rfl, fun j hj => ?_⟩⟩, fun j hj => ?_⟩
  · simp at hj
    rcases (by omega : j = 0 ∨ j = 1) with rfl | rfl
    · exact cell_of_row _ _ 0 _ _ _ hr
    · exact cell_of_row _ _ 1 _ _ _ hr
  · simp at hj
    rcases (by omega : j = 0 ∨ j = 1) with rfl | rfl
    · exact h0.below hb
    · exact h1.below hb

set_option maxRecDepth 100000 in
set_option maxHeartbeats 4000000 in
theorem Push_c (w : World) (va v : Value) (a : List Int) (l : Ls) (ha : IsInts w va a) (hl : IsLs w v l) (hal : a.length ≤ 90000) :
    Calls Try.prog 26 #[va, v] w (NewL (pushI a l) w) := by
  have HF := Lib.hid (fun (W : World) (hW : Below w.heap.size w W) => formed_c W v l (hl.below hW))
  have HBl := Lib.hid (fun (W : World) (hW : Below w.heap.size w W) => below_c W va a 64 (ha.below hW))
  by_cases hf : formB l = true
  case neg =>
    rw [Bool.not_eq_true] at hf
    have HR := Lib.hid (pushI_not (a := a) hf)
    obtain ⟨v0, v1, rfl, h0, h1⟩ := hl
    obtain ⟨⟨a0, c0, b0, o0, rfl, g0⟩, -⟩ := h0
    obtain ⟨⟨a1, c1, b1, o1, rfl, g1⟩, -⟩ := h1
    obtain ⟨⟨a2, c2, b2, o2, rfl, g2⟩, -⟩ := ha
    rw [hf] at HF
    clear g0 g1 g2 hf
    generalize pushI a l = ni at *
    go_enter Try.func26, Try.ntmps26
    go_upto_region 1 with (fail)
    (have hB0 : Below w.heap.size w ((w.alloc (Obj.cells #[Value.slice a0 l.stem.length c0, Value.slice a1 l.loop.length c1] 24)).alloc (Obj.cells #[Value.slice none 0 0, Value.slice none 0 0] 24)) := (by repeat (first | exact Below.refl _ _ | assumption | (refine belA ?_ _) | (refine belD ?_ _)))); (have cA : ((w.alloc (Obj.cells #[Value.slice a0 l.stem.length c0, Value.slice a1 l.loop.length c1] 24)).alloc (Obj.cells #[Value.slice none 0 0, Value.slice none 0 0] 24)).cell? ⟨w.heap.size, 0, none⟩ = some (Value.slice a0 l.stem.length c0) := boxCell 0 (bel_box _) rfl); (have cB : ((w.alloc (Obj.cells #[Value.slice a0 l.stem.length c0, Value.slice a1 l.loop.length c1] 24)).alloc (Obj.cells #[Value.slice none 0 0, Value.slice none 0 0] 24)).cell? ⟨w.heap.size, 1, none⟩ = some (Value.slice a1 l.loop.length c1) := boxCell 1 (bel_box _) rfl); (have cR : ((w.alloc (Obj.cells #[Value.slice a0 l.stem.length c0, Value.slice a1 l.loop.length c1] 24)).alloc (Obj.cells #[Value.slice none 0 0, Value.slice none 0 0] 24)).heap[w.heap.size + 1]? = some (Obj.cells #[Value.slice none 0 0, Value.slice none 0 0] 24) := (by have := heap_alloc_new (w.alloc (Obj.cells #[Value.slice a0 l.stem.length c0, Value.slice a1 l.loop.length c1] 24)) (Obj.cells #[Value.slice none 0 0, Value.slice none 0 0] 24); simpa using this)); (have hsz : w.heap.size + 1 < ((w.alloc (Obj.cells #[Value.slice a0 l.stem.length c0, Value.slice a1 l.loop.length c1] 24)).alloc (Obj.cells #[Value.slice none 0 0, Value.slice none 0 0] 24)).heap.size := (Array.getElem?_eq_some_iff.1 cR).1); generalize ((w.alloc (Obj.cells #[Value.slice a0 l.stem.length c0, Value.slice a1 l.loop.length c1] 24)).alloc (Obj.cells #[Value.slice none 0 0, Value.slice none 0 0] 24)) = w1 at *
    go_wp2_with fail
    refine (HF.out _ hB0).mono ?_
    rintro e w2 ⟨rfl, hb2⟩
    have hB := hB0.trans (hb2.mono hB0.size)
    have HC := Lib.hid ((hb2.block _ (by omega : w.heap.size + 1 < w1.heap.size)).trans cR)
    obtain ⟨x0, x1, y0, y1⟩ := boxF HC.out
    clear cA cB cR hb2
    go_wp2_with fail
    (have hc3 := two_set (a := .slice none 0 0) (b := .slice none 0 0) HC.out); (have cc0 := cell_of_row _ _ 0 _ _ _ hc3); (have cc1 := cell_of_row _ _ 1 _ _ _ hc3); (refine bodyPost_ret (v := .agg #[.slice none 0 0, .slice none 0 0]) (by simp [results, Try.results26, go_sem, cc0, cc1]) rfl ?_)
    rw [HR.out]
    exact zeroEnd hB (by omega)
  rw [belB_let] at HBl
  by_cases hq : a.all letB = true
  case neg =>
    rw [Bool.not_eq_true] at hq
    have HR := Lib.hid (pushI_bad (l := l) hq)
    obtain ⟨v0, v1, rfl, h0, h1⟩ := hl
    obtain ⟨⟨a0, c0, b0, o0, rfl, g0⟩, -⟩ := h0
    obtain ⟨⟨a1, c1, b1, o1, rfl, g1⟩, -⟩ := h1
    obtain ⟨⟨a2, c2, b2, o2, rfl, g2⟩, -⟩ := ha
    rw [hf] at HF
    rw [hq] at HBl
    clear g0 g1 g2 hf hq
    generalize pushI a l = ni at *
    go_enter Try.func26, Try.ntmps26
    go_upto_region 1 with (fail)
    (have hB0 : Below w.heap.size w ((w.alloc (Obj.cells #[Value.slice a0 l.stem.length c0, Value.slice a1 l.loop.length c1] 24)).alloc (Obj.cells #[Value.slice none 0 0, Value.slice none 0 0] 24)) := (by repeat (first | exact Below.refl _ _ | assumption | (refine belA ?_ _) | (refine belD ?_ _)))); (have cA : ((w.alloc (Obj.cells #[Value.slice a0 l.stem.length c0, Value.slice a1 l.loop.length c1] 24)).alloc (Obj.cells #[Value.slice none 0 0, Value.slice none 0 0] 24)).cell? ⟨w.heap.size, 0, none⟩ = some (Value.slice a0 l.stem.length c0) := boxCell 0 (bel_box _) rfl); (have cB : ((w.alloc (Obj.cells #[Value.slice a0 l.stem.length c0, Value.slice a1 l.loop.length c1] 24)).alloc (Obj.cells #[Value.slice none 0 0, Value.slice none 0 0] 24)).cell? ⟨w.heap.size, 1, none⟩ = some (Value.slice a1 l.loop.length c1) := boxCell 1 (bel_box _) rfl); (have cR : ((w.alloc (Obj.cells #[Value.slice a0 l.stem.length c0, Value.slice a1 l.loop.length c1] 24)).alloc (Obj.cells #[Value.slice none 0 0, Value.slice none 0 0] 24)).heap[w.heap.size + 1]? = some (Obj.cells #[Value.slice none 0 0, Value.slice none 0 0] 24) := (by have := heap_alloc_new (w.alloc (Obj.cells #[Value.slice a0 l.stem.length c0, Value.slice a1 l.loop.length c1] 24)) (Obj.cells #[Value.slice none 0 0, Value.slice none 0 0] 24); simpa using this)); (have hsz : w.heap.size + 1 < ((w.alloc (Obj.cells #[Value.slice a0 l.stem.length c0, Value.slice a1 l.loop.length c1] 24)).alloc (Obj.cells #[Value.slice none 0 0, Value.slice none 0 0] 24)).heap.size := (Array.getElem?_eq_some_iff.1 cR).1); generalize ((w.alloc (Obj.cells #[Value.slice a0 l.stem.length c0, Value.slice a1 l.loop.length c1] 24)).alloc (Obj.cells #[Value.slice none 0 0, Value.slice none 0 0] 24)) = w1 at *
    go_wp2_with fail
    refine (HF.out _ hB0).mono ?_
    rintro e w2 ⟨rfl, hb2⟩
    have hB := hB0.trans (hb2.mono hB0.size)
    have HC := Lib.hid ((hb2.block _ (by omega : w.heap.size + 1 < w1.heap.size)).trans cR)
    clear cA cB cR hb2
    go_wp2_with fail
    refine (HBl.out _ hB).mono ?_
    rintro e w3 ⟨rfl, rfl⟩
    obtain ⟨x0, x1, y0, y1⟩ := boxF HC.out
    go_wp2_with fail
    (have hc3 := two_set (a := .slice none 0 0) (b := .slice none 0 0) HC.out); (have cc0 := cell_of_row _ _ 0 _ _ _ hc3); (have cc1 := cell_of_row _ _ 1 _ _ _ hc3); (refine bodyPost_ret (v := .agg #[.slice none 0 0, .slice none 0 0]) (by simp [results, Try.results26, go_sem, cc0, cc1]) rfl ?_)
    rw [HR.out]
    exact zeroEnd hB (by omega)
  obtain ⟨s1, s2, s3⟩ := formB_short hf
  have HR := Lib.hid (pushI_ok hf hq)
  rw [hf] at HF
  rw [hq] at HBl
  have HS : Hid (∀ W v, IsLs W v (pushR a l) → Calls Try.prog 43 #[v] W (NewT (shortL (pushR a l)) W)) := fun W v h => (short_c W v _ h (by show 0 < l.loop.length; omega) (by show (a ++ l.stem).length ≤ _; rw [List.length_append]; omega) (by show l.loop.length ≤ _; omega)).mono fun e w' h => h.t
  have HCc : Hid (∀ W v, IsRows W v [a, l.stem] → Calls Try.prog 44 #[v] W (NewS (a.length + l.stem.length) (a ++ l.stem) W)) := fun W v h => by
    have e : flatL [a, l.stem] = a ++ l.stem := by simp [flatL]
    have := Concat_c W v _ h (by rw [e, List.length_append]; omega)
    rw [e] at this
    exact this.mono fun e w' h => h.sl (by rw [List.length_append])
  obtain ⟨v0, v1, rfl, h0, h1⟩ := hl
  have HI0 := Lib.hid (fun (W : World) (hW : Below w.heap.size w W) => h0.below hW)
  have HI1 := Lib.hid (fun (W : World) (hW : Below w.heap.size w W) => h1.below hW)
  have HIa := Lib.hid (fun (W : World) (hW : Below w.heap.size w W) => ha.below hW)
  obtain ⟨⟨a0, c0, b0, o0, rfl, g0⟩, -⟩ := h0
  obtain ⟨⟨a1, c1, b1, o1, rfl, g1⟩, -⟩ := h1
  obtain ⟨⟨a2, c2, b2, o2, rfl, g2⟩, -⟩ := ha
  clear g0 g1 g2 hf hq
  generalize pushI a l = ni at *
  generalize shortL (pushR a l) = nl at *
  go_enter Try.func26, Try.ntmps26
  go_upto_region 1 with (fail)
  (have hB0 : Below w.heap.size w ((w.alloc (Obj.cells #[Value.slice a0 l.stem.length c0, Value.slice a1 l.loop.length c1] 24)).alloc (Obj.cells #[Value.slice none 0 0, Value.slice none 0 0] 24)) := (by repeat (first | exact Below.refl _ _ | assumption | (refine belA ?_ _) | (refine belD ?_ _)))); (have cA : ((w.alloc (Obj.cells #[Value.slice a0 l.stem.length c0, Value.slice a1 l.loop.length c1] 24)).alloc (Obj.cells #[Value.slice none 0 0, Value.slice none 0 0] 24)).cell? ⟨w.heap.size, 0, none⟩ = some (Value.slice a0 l.stem.length c0) := boxCell 0 (bel_box _) rfl); (have cB : ((w.alloc (Obj.cells #[Value.slice a0 l.stem.length c0, Value.slice a1 l.loop.length c1] 24)).alloc (Obj.cells #[Value.slice none 0 0, Value.slice none 0 0] 24)).cell? ⟨w.heap.size, 1, none⟩ = some (Value.slice a1 l.loop.length c1) := boxCell 1 (bel_box _) rfl); (have cR : ((w.alloc (Obj.cells #[Value.slice a0 l.stem.length c0, Value.slice a1 l.loop.length c1] 24)).alloc (Obj.cells #[Value.slice none 0 0, Value.slice none 0 0] 24)).heap[w.heap.size + 1]? = some (Obj.cells #[Value.slice none 0 0, Value.slice none 0 0] 24) := (by have := heap_alloc_new (w.alloc (Obj.cells #[Value.slice a0 l.stem.length c0, Value.slice a1 l.loop.length c1] 24)) (Obj.cells #[Value.slice none 0 0, Value.slice none 0 0] 24); simpa using this)); (have hsz : w.heap.size + 1 < ((w.alloc (Obj.cells #[Value.slice a0 l.stem.length c0, Value.slice a1 l.loop.length c1] 24)).alloc (Obj.cells #[Value.slice none 0 0, Value.slice none 0 0] 24)).heap.size := (Array.getElem?_eq_some_iff.1 cR).1); generalize ((w.alloc (Obj.cells #[Value.slice a0 l.stem.length c0, Value.slice a1 l.loop.length c1] 24)).alloc (Obj.cells #[Value.slice none 0 0, Value.slice none 0 0] 24)) = w1 at *
  go_wp2_with fail
  refine (HF.out _ hB0).mono ?_
  rintro e w2 ⟨rfl, hb2⟩
  have cA := cellB hb2 cA
  have cB := cellB hb2 cB
  have hB := hB0.trans (hb2.mono hB0.size)
  have cR := (hb2.block _ (by omega : w.heap.size + 1 < w1.heap.size)).trans cR
  have hz2 : w.heap.size + 1 < w2.heap.size := (Array.getElem?_eq_some_iff.1 cR).1
  have hz20 : w.heap.size < w2.heap.size := by omega
  clear hb2
  go_wp2_with fail
  refine (HBl.out _ hB).mono ?_
  rintro e w3 ⟨rfl, rfl⟩
  go_wp2_with fail
  go_region_with (first | (go_at_call 44; refine (HCc.out _ _ (by have h := rows_two w2 _ _ _ _ 22 (HIa.out w2 hB) (HI0.out w2 hB); exact IsRows.below h (by repeat (first | exact Below.refl _ _ | assumption | (refine belA ?_ _) | (refine belD ?_ _) | (refine Below.drew ?_))))).mono ?_; rintro e w4 ⟨a4, k4, rfl, i4, b4⟩; have z4 : Below w2.heap.size w2 w4 := (by first | exact (bel_box _).drew.trans (b4.mono (by simp)) | exact (bel_box _).trans (b4.mono (by simp))); have cA := cellB z4 cA; have cB := cellB z4 cB) | (go_at_call 43; refine (HS.out _ _ ⟨_, _, rfl, i4.out, HI1.out _ (hB.trans (z4.mono hB.size))⟩).mono ?_; rintro e w5 ⟨a5, k5, a6, k6, rfl, i5, i6, b5⟩; have z5 : Below w2.heap.size w2 w5 := z4.trans (b5.mono z4.size); have HC := Lib.hid ((z5.block _ hz2).trans cR); obtain ⟨x0, x1, y0, y1⟩ := boxF HC.out))
  all_goals
    have hB5 := hB.trans (z5.mono hB.size)
    go_wp2_with fail
    (have hc3 := two_set (a := .slice a5 nl.stem.length k5) (b := .slice a6 nl.loop.length k6) HC.out); (have cc0 := cell_of_row _ _ 0 _ _ _ hc3); (have cc1 := cell_of_row _ _ 1 _ _ _ hc3); (refine bodyPost_ret (v := .agg #[.slice a5 nl.stem.length k5, .slice a6 nl.loop.length k6]) (by simp [results, Try.results26, go_sem, cc0, cc1]) rfl ?_)
    rw [HR.out]
    exact lsEnd HC.out i5.out i6.out hB5 (by omega)

end Go.Proofs.Ytgjpdnaeldpdeaa
