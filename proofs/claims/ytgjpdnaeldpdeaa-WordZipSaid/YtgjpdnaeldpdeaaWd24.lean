/- What the reference's Suffix computes. -/
import Derived.Test.YtgjpdnaeldpdeaaWd23
namespace Go.Proofs.Ytgjpdnaeldpdeaa
open Go.RowKit

set_option maxRecDepth 100000 in
set_option maxHeartbeats 4000000 in
theorem RSuffix_c (w : World) (v : Value) (l : Ls) (i : Int) (hl : IsLs w v l) (hi : I64 i) :
    Calls Try.prog 25 #[v, .int .i64 i] w (NewL (suffixI l i) w) := by
  have HF := Lib.hid (fun (W : World) (hW : Below w.heap.size w W) => RFormed_c W v l (hl.below hW))
  unfold I64 at hi
  by_cases h0 : i < 0
  · have HR := Lib.hid (suffixI_neg (l := l) h0)
    obtain ⟨v0, v1, rfl, h0, h1⟩ := hl
    obtain ⟨⟨a0, c0, b0, o0, rfl, g0⟩, -⟩ := h0
    obtain ⟨⟨a1, c1, b1, o1, rfl, g1⟩, -⟩ := h1
    clear g0 g1
    generalize suffixI l i = ni at *
    go_enter Try.func25, Try.ntmps25
    go_upto_region 1 with (fail)
    (have hB0 : Below w.heap.size w ((w.alloc (Obj.cells #[Value.slice a0 l.stem.length c0, Value.slice a1 l.loop.length c1] 24)).alloc (Obj.cells #[Value.slice none 0 0, Value.slice none 0 0] 24)) := (by repeat (first | exact Below.refl _ _ | assumption | (refine belA ?_ _) | (refine belD ?_ _)))); (have cA : ((w.alloc (Obj.cells #[Value.slice a0 l.stem.length c0, Value.slice a1 l.loop.length c1] 24)).alloc (Obj.cells #[Value.slice none 0 0, Value.slice none 0 0] 24)).cell? ⟨w.heap.size, 0, none⟩ = some (Value.slice a0 l.stem.length c0) := boxCell 0 (bel_box _) rfl); (have cB : ((w.alloc (Obj.cells #[Value.slice a0 l.stem.length c0, Value.slice a1 l.loop.length c1] 24)).alloc (Obj.cells #[Value.slice none 0 0, Value.slice none 0 0] 24)).cell? ⟨w.heap.size, 1, none⟩ = some (Value.slice a1 l.loop.length c1) := boxCell 1 (bel_box _) rfl); (have cR : ((w.alloc (Obj.cells #[Value.slice a0 l.stem.length c0, Value.slice a1 l.loop.length c1] 24)).alloc (Obj.cells #[Value.slice none 0 0, Value.slice none 0 0] 24)).heap[w.heap.size + 1]? = some (Obj.cells #[Value.slice none 0 0, Value.slice none 0 0] 24) := (by have := heap_alloc_new (w.alloc (Obj.cells #[Value.slice a0 l.stem.length c0, Value.slice a1 l.loop.length c1] 24)) (Obj.cells #[Value.slice none 0 0, Value.slice none 0 0] 24); simpa using this)); (have hsz : w.heap.size + 1 < ((w.alloc (Obj.cells #[Value.slice a0 l.stem.length c0, Value.slice a1 l.loop.length c1] 24)).alloc (Obj.cells #[Value.slice none 0 0, Value.slice none 0 0] 24)).heap.size := (Array.getElem?_eq_some_iff.1 cR).1); generalize ((w.alloc (Obj.cells #[Value.slice a0 l.stem.length c0, Value.slice a1 l.loop.length c1] 24)).alloc (Obj.cells #[Value.slice none 0 0, Value.slice none 0 0] 24)) = w1 at *
    obtain ⟨x0, x1, y0, y1⟩ := boxF cR
    have HC := Lib.hid cR
    go_wp2_with fail
    (have hc3 := two_set (a := .slice none 0 0) (b := .slice none 0 0) HC.out); (have cc0 := cell_of_row _ _ 0 _ _ _ hc3); (have cc1 := cell_of_row _ _ 1 _ _ _ hc3); (refine bodyPost_ret (v := .agg #[.slice none 0 0, .slice none 0 0]) (by simp [results, Try.results25, go_sem, cc0, cc1]) rfl ?_)
    rw [HR.out]
    exact zeroEnd hB0 (by omega)
  by_cases hf : formB l = true
  · obtain ⟨k, rfl⟩ : ∃ k : Nat, i = k := ⟨i.toNat, by omega⟩
    obtain ⟨s1, s2, s3⟩ := formB_short hf
    have HR := Lib.hid (suffixI_nat (k := k) hf)
    rw [hf] at HF
    by_cases hk : k ≤ l.stem.length
    · have HN : Hid (∀ W v, IsLs W v ⟨l.stem.drop k, l.loop⟩ → Calls Try.prog 40 #[v] W (NewT (normL (fromL l k)) W)) := fun W v h => by
        have e := fromL_low hk
        rw [e]
        exact (Shortest_c W v _ h (by show 0 < l.loop.length; omega) (by show (l.stem.drop k).length ≤ _; simp; omega) (by show l.loop.length ≤ _; omega)).mono fun e w' h => h.t
      have HL := Lib.hid hl
      obtain ⟨v0, v1, rfl, h0, h1⟩ := hl
      obtain ⟨⟨a0, c0, b0, o0, rfl, g0⟩, r0⟩ := h0
      have H1 := Lib.hid h1
      obtain ⟨⟨a1, c1, b1, o1, rfl, g1⟩, -⟩ := h1
      generalize suffixI l k = ni at *
      generalize normL (fromL l k) = nl at *
      have hkc := g0.lc
      by_cases hkl : k < l.stem.length
      · obtain rfl := g0.ad (by omega)
        have HD := Lib.hid (IsInts.drop g0 r0 k hkl)
        clear g0 g1 r0 hf
        go_enter Try.func25, Try.ntmps25
        go_upto_region 1 with (fail)
        (have hB0 : Below w.heap.size w ((w.alloc (Obj.cells #[Value.slice (some ⟨b0, o0, none⟩) l.stem.length c0, Value.slice a1 l.loop.length c1] 24)).alloc (Obj.cells #[Value.slice none 0 0, Value.slice none 0 0] 24)) := (by repeat (first | exact Below.refl _ _ | assumption | (refine belA ?_ _) | (refine belD ?_ _)))); (have cA : ((w.alloc (Obj.cells #[Value.slice (some ⟨b0, o0, none⟩) l.stem.length c0, Value.slice a1 l.loop.length c1] 24)).alloc (Obj.cells #[Value.slice none 0 0, Value.slice none 0 0] 24)).cell? ⟨w.heap.size, 0, none⟩ = some (Value.slice (some ⟨b0, o0, none⟩) l.stem.length c0) := boxCell 0 (bel_box _) rfl); (have cB : ((w.alloc (Obj.cells #[Value.slice (some ⟨b0, o0, none⟩) l.stem.length c0, Value.slice a1 l.loop.length c1] 24)).alloc (Obj.cells #[Value.slice none 0 0, Value.slice none 0 0] 24)).cell? ⟨w.heap.size, 1, none⟩ = some (Value.slice a1 l.loop.length c1) := boxCell 1 (bel_box _) rfl); (have cR : ((w.alloc (Obj.cells #[Value.slice (some ⟨b0, o0, none⟩) l.stem.length c0, Value.slice a1 l.loop.length c1] 24)).alloc (Obj.cells #[Value.slice none 0 0, Value.slice none 0 0] 24)).heap[w.heap.size + 1]? = some (Obj.cells #[Value.slice none 0 0, Value.slice none 0 0] 24) := (by have := heap_alloc_new (w.alloc (Obj.cells #[Value.slice (some ⟨b0, o0, none⟩) l.stem.length c0, Value.slice a1 l.loop.length c1] 24)) (Obj.cells #[Value.slice none 0 0, Value.slice none 0 0] 24); simpa using this)); (have hsz : w.heap.size + 1 < ((w.alloc (Obj.cells #[Value.slice (some ⟨b0, o0, none⟩) l.stem.length c0, Value.slice a1 l.loop.length c1] 24)).alloc (Obj.cells #[Value.slice none 0 0, Value.slice none 0 0] 24)).heap.size := (Array.getElem?_eq_some_iff.1 cR).1); generalize ((w.alloc (Obj.cells #[Value.slice (some ⟨b0, o0, none⟩) l.stem.length c0, Value.slice a1 l.loop.length c1] 24)).alloc (Obj.cells #[Value.slice none 0 0, Value.slice none 0 0] 24)) = w1 at *
        go_wp2_with fail
        refine (HF.out _ hB0).mono ?_
        rintro e w2 ⟨rfl, hb2⟩
        have cA := cellB hb2 cA
        have cB := cellB hb2 cB
        have cR := (hb2.block _ (by omega : w.heap.size + 1 < w1.heap.size)).trans cR
        have hB := hB0.trans (hb2.mono hB0.size)
        have hz2 : w.heap.size + 1 < w2.heap.size := (Array.getElem?_eq_some_iff.1 cR).1
        have hkk : (k : Int) ≤ l.stem.length := by omega
        have hk1 : ¬ c0 = k := by omega
        have hk2 : k ≤ c0 := by omega
        go_wp2_with fail
        go_region_held3 (fun w' => w'.cell? ⟨w.heap.size, 0, none⟩ = some (Value.slice (some ⟨b0, o0, none⟩) l.stem.length c0) ∧ w'.cell? ⟨w.heap.size, 1, none⟩ = some (Value.slice a1 l.loop.length c1)) (first | exact ⟨cA, cB⟩ | exact ⟨keepF (by omega) cA, keepF (by omega) cB⟩) ((go_at_call 40; refine (HN.out _ _ (IsLs.mk (HD.out.below (by repeat (first | exact Below.refl _ _ | assumption | (refine belA ?_ _) | (refine belD ?_ _) | (refine Below.drew ?_)))) (H1.out.below (by repeat (first | exact Below.refl _ _ | assumption | (refine belA ?_ _) | (refine belD ?_ _) | (refine Below.drew ?_)))))).mono ?_; rintro e w5 ⟨a5, k5, a6, k6, rfl, i5, i6, b5⟩; have z5 : Below w2.heap.size w2 w5 := (by first | exact b5 | exact (Below.drew (Below.refl _ _)).trans b5); have cA := cellB z5 cA; have cB := cellB z5 cB; have HC := Lib.hid ((z5.block _ hz2).trans cR); obtain ⟨x0, x1, y0, y1⟩ := boxF HC.out))
        all_goals
          have hB5 := hB.trans (z5.mono hB.size)
          go_wp2_with fail
          (have hc3 := two_set (a := .slice a5 nl.stem.length k5) (b := .slice a6 nl.loop.length k6) HC.out); (have cc0 := cell_of_row _ _ 0 _ _ _ hc3); (have cc1 := cell_of_row _ _ 1 _ _ _ hc3); (refine bodyPost_ret (v := .agg #[.slice a5 nl.stem.length k5, .slice a6 nl.loop.length k6]) (by simp [results, Try.results25, go_sem, cc0, cc1]) rfl ?_)
          rw [HR.out]
          exact lsEnd HC.out i5.out i6.out hB5 (by omega)
      · obtain rfl : k = l.stem.length := by omega
        have HNil : Hid (l.stem.drop l.stem.length = []) := by show _ = _; simp
        have hm0 := g0.cm
        have hc0 := g0.nc
        by_cases hce : c0 = l.stem.length
        · have HE : Hid (∀ W, IsInts W (.slice a0 0 0) []) := fun W => ints_empty W a0 0 (fun _ => rfl) (Nat.zero_le _)
          have HN2 := HN
          rw [HNil.out] at HN2
          subst hce
          clear g0 g1 r0 hf HN
          go_enter Try.func25, Try.ntmps25
          go_upto_region 1 with (fail)
          (have hB0 : Below w.heap.size w ((w.alloc (Obj.cells #[Value.slice a0 l.stem.length l.stem.length, Value.slice a1 l.loop.length c1] 24)).alloc (Obj.cells #[Value.slice none 0 0, Value.slice none 0 0] 24)) := (by repeat (first | exact Below.refl _ _ | assumption | (refine belA ?_ _) | (refine belD ?_ _)))); (have cA : ((w.alloc (Obj.cells #[Value.slice a0 l.stem.length l.stem.length, Value.slice a1 l.loop.length c1] 24)).alloc (Obj.cells #[Value.slice none 0 0, Value.slice none 0 0] 24)).cell? ⟨w.heap.size, 0, none⟩ = some (Value.slice a0 l.stem.length l.stem.length) := boxCell 0 (bel_box _) rfl); (have cB : ((w.alloc (Obj.cells #[Value.slice a0 l.stem.length l.stem.length, Value.slice a1 l.loop.length c1] 24)).alloc (Obj.cells #[Value.slice none 0 0, Value.slice none 0 0] 24)).cell? ⟨w.heap.size, 1, none⟩ = some (Value.slice a1 l.loop.length c1) := boxCell 1 (bel_box _) rfl); (have cR : ((w.alloc (Obj.cells #[Value.slice a0 l.stem.length l.stem.length, Value.slice a1 l.loop.length c1] 24)).alloc (Obj.cells #[Value.slice none 0 0, Value.slice none 0 0] 24)).heap[w.heap.size + 1]? = some (Obj.cells #[Value.slice none 0 0, Value.slice none 0 0] 24) := (by have := heap_alloc_new (w.alloc (Obj.cells #[Value.slice a0 l.stem.length l.stem.length, Value.slice a1 l.loop.length c1] 24)) (Obj.cells #[Value.slice none 0 0, Value.slice none 0 0] 24); simpa using this)); (have hsz : w.heap.size + 1 < ((w.alloc (Obj.cells #[Value.slice a0 l.stem.length l.stem.length, Value.slice a1 l.loop.length c1] 24)).alloc (Obj.cells #[Value.slice none 0 0, Value.slice none 0 0] 24)).heap.size := (Array.getElem?_eq_some_iff.1 cR).1); generalize ((w.alloc (Obj.cells #[Value.slice a0 l.stem.length l.stem.length, Value.slice a1 l.loop.length c1] 24)).alloc (Obj.cells #[Value.slice none 0 0, Value.slice none 0 0] 24)) = w1 at *
          go_wp2_with fail
          refine (HF.out _ hB0).mono ?_
          rintro e w2 ⟨rfl, hb2⟩
          have cA := cellB hb2 cA
          have cB := cellB hb2 cB
          have cR := (hb2.block _ (by omega : w.heap.size + 1 < w1.heap.size)).trans cR
          have hB := hB0.trans (hb2.mono hB0.size)
          have hz2 : w.heap.size + 1 < w2.heap.size := (Array.getElem?_eq_some_iff.1 cR).1
          go_wp2_with fail
          go_region_held3 (fun w' => w'.cell? ⟨w.heap.size, 0, none⟩ = some (Value.slice a0 l.stem.length l.stem.length) ∧ w'.cell? ⟨w.heap.size, 1, none⟩ = some (Value.slice a1 l.loop.length c1)) (first | exact ⟨cA, cB⟩ | exact ⟨keepF (by omega) cA, keepF (by omega) cB⟩) ((go_at_call 40; refine (HN2.out _ _ (IsLs.mk (HE.out _) (H1.out.below (by repeat (first | exact Below.refl _ _ | assumption | (refine belA ?_ _) | (refine belD ?_ _) | (refine Below.drew ?_)))))).mono ?_; rintro e w5 ⟨a5, k5, a6, k6, rfl, i5, i6, b5⟩; have z5 : Below w2.heap.size w2 w5 := (by first | exact b5 | exact (Below.drew (Below.refl _ _)).trans b5); have cA := cellB z5 cA; have cB := cellB z5 cB; have HC := Lib.hid ((z5.block _ hz2).trans cR); obtain ⟨x0, x1, y0, y1⟩ := boxF HC.out))
          all_goals
            have hB5 := hB.trans (z5.mono hB.size)
            go_wp2_with fail
            (have hc3 := two_set (a := .slice a5 nl.stem.length k5) (b := .slice a6 nl.loop.length k6) HC.out); (have cc0 := cell_of_row _ _ 0 _ _ _ hc3); (have cc1 := cell_of_row _ _ 1 _ _ _ hc3); (refine bodyPost_ret (v := .agg #[.slice a5 nl.stem.length k5, .slice a6 nl.loop.length k6]) (by simp [results, Try.results25, go_sem, cc0, cc1]) rfl ?_)
            rw [HR.out]
            exact lsEnd HC.out i5.out i6.out hB5 (by omega)
        · obtain ⟨ad, rfl⟩ : ∃ ad, a0 = some ad := by
            cases a0 with
            | none => exact absurd (hc0 rfl) (by omega)
            | some ad => exact ⟨ad, rfl⟩
          have HE : Hid (∀ W, IsInts W (.slice (some (ad.add l.stem.length)) 0 (c0 - l.stem.length)) []) := fun W => ints_empty W _ _ (fun e => by cases e) (by omega)
          have HN2 := HN
          rw [HNil.out] at HN2
          clear g0 g1 r0 hf HN hc0
          go_enter Try.func25, Try.ntmps25
          go_upto_region 1 with (fail)
          (have hB0 : Below w.heap.size w ((w.alloc (Obj.cells #[Value.slice (some ad) l.stem.length c0, Value.slice a1 l.loop.length c1] 24)).alloc (Obj.cells #[Value.slice none 0 0, Value.slice none 0 0] 24)) := (by repeat (first | exact Below.refl _ _ | assumption | (refine belA ?_ _) | (refine belD ?_ _)))); (have cA : ((w.alloc (Obj.cells #[Value.slice (some ad) l.stem.length c0, Value.slice a1 l.loop.length c1] 24)).alloc (Obj.cells #[Value.slice none 0 0, Value.slice none 0 0] 24)).cell? ⟨w.heap.size, 0, none⟩ = some (Value.slice (some ad) l.stem.length c0) := boxCell 0 (bel_box _) rfl); (have cB : ((w.alloc (Obj.cells #[Value.slice (some ad) l.stem.length c0, Value.slice a1 l.loop.length c1] 24)).alloc (Obj.cells #[Value.slice none 0 0, Value.slice none 0 0] 24)).cell? ⟨w.heap.size, 1, none⟩ = some (Value.slice a1 l.loop.length c1) := boxCell 1 (bel_box _) rfl); (have cR : ((w.alloc (Obj.cells #[Value.slice (some ad) l.stem.length c0, Value.slice a1 l.loop.length c1] 24)).alloc (Obj.cells #[Value.slice none 0 0, Value.slice none 0 0] 24)).heap[w.heap.size + 1]? = some (Obj.cells #[Value.slice none 0 0, Value.slice none 0 0] 24) := (by have := heap_alloc_new (w.alloc (Obj.cells #[Value.slice (some ad) l.stem.length c0, Value.slice a1 l.loop.length c1] 24)) (Obj.cells #[Value.slice none 0 0, Value.slice none 0 0] 24); simpa using this)); (have hsz : w.heap.size + 1 < ((w.alloc (Obj.cells #[Value.slice (some ad) l.stem.length c0, Value.slice a1 l.loop.length c1] 24)).alloc (Obj.cells #[Value.slice none 0 0, Value.slice none 0 0] 24)).heap.size := (Array.getElem?_eq_some_iff.1 cR).1); generalize ((w.alloc (Obj.cells #[Value.slice (some ad) l.stem.length c0, Value.slice a1 l.loop.length c1] 24)).alloc (Obj.cells #[Value.slice none 0 0, Value.slice none 0 0] 24)) = w1 at *
          go_wp2_with fail
          refine (HF.out _ hB0).mono ?_
          rintro e w2 ⟨rfl, hb2⟩
          have cA := cellB hb2 cA
          have cB := cellB hb2 cB
          have cR := (hb2.block _ (by omega : w.heap.size + 1 < w1.heap.size)).trans cR
          have hB := hB0.trans (hb2.mono hB0.size)
          have hz2 : w.heap.size + 1 < w2.heap.size := (Array.getElem?_eq_some_iff.1 cR).1
          have hk1 : ¬ c0 ≤ l.stem.length := by omega
          go_wp2_with fail
          go_region_held3 (fun w' => w'.cell? ⟨w.heap.size, 0, none⟩ = some (Value.slice (some ad) l.stem.length c0) ∧ w'.cell? ⟨w.heap.size, 1, none⟩ = some (Value.slice a1 l.loop.length c1)) (first | exact ⟨cA, cB⟩ | exact ⟨keepF (by omega) cA, keepF (by omega) cB⟩) ((go_at_call 40; refine (HN2.out _ _ (IsLs.mk (HE.out _) (H1.out.below (by repeat (first | exact Below.refl _ _ | assumption | (refine belA ?_ _) | (refine belD ?_ _) | (refine Below.drew ?_)))))).mono ?_; rintro e w5 ⟨a5, k5, a6, k6, rfl, i5, i6, b5⟩; have z5 : Below w2.heap.size w2 w5 := (by first | exact b5 | exact (Below.drew (Below.refl _ _)).trans b5); have cA := cellB z5 cA; have cB := cellB z5 cB; have HC := Lib.hid ((z5.block _ hz2).trans cR); obtain ⟨x0, x1, y0, y1⟩ := boxF HC.out))
          all_goals
            have hB5 := hB.trans (z5.mono hB.size)
            go_wp2_with fail
            (have hc3 := two_set (a := .slice a5 nl.stem.length k5) (b := .slice a6 nl.loop.length k6) HC.out); (have cc0 := cell_of_row _ _ 0 _ _ _ hc3); (have cc1 := cell_of_row _ _ 1 _ _ _ hc3); (refine bodyPost_ret (v := .agg #[.slice a5 nl.stem.length k5, .slice a6 nl.loop.length k6]) (by simp [results, Try.results25, go_sem, cc0, cc1]) rfl ?_)
            rw [HR.out]
            exact lsEnd HC.out i5.out i6.out hB5 (by omega)
    · obtain ⟨t, ht⟩ : ∃ t, (k - l.stem.length) % l.loop.length = t := ⟨_, rfl⟩
      have htl : t < l.loop.length := by have := Nat.mod_lt (k - l.stem.length) (show 0 < l.loop.length by omega); omega
      have HN : Hid (∀ W v, IsLs W v ⟨[], turnL l.loop t⟩ → Calls Try.prog 40 #[v] W (NewT (normL (fromL l k)) W)) := fun W v h => by
        have e := fromL_high (show l.stem.length < k by omega)
        rw [ht] at e
        rw [e]
        exact (Shortest_c W v _ h (by show 0 < (turnL l.loop t).length; rw [turnL_len]; omega) (by show ([] : List Int).length ≤ _; simp) (by show (turnL l.loop t).length ≤ _; rw [turnL_len]; omega)).mono fun e w' h => h.t
      obtain ⟨v0, v1, rfl, h0, h1⟩ := hl
      have HI1 := Lib.hid h1.2
      obtain ⟨⟨a0, c0, b0, o0, rfl, g0⟩, -⟩ := h0
      obtain ⟨⟨a1, c1, b1, o1, rfl, g1⟩, r1⟩ := h1
      obtain rfl := g1.ad (by omega)
      have hlc := g1.lc
      have HDr := Lib.hid (fun (W : World) (hW : Below w.heap.size w W) => (IsInts.drop g1 r1 t htl).below hW)
      have HTk := Lib.hid (fun (W : World) (hW : Below w.heap.size w W) => (IsInts.take g1 r1 t (by omega)).below hW)
      have hdl : (l.loop.drop t).length = l.loop.length - t := List.length_drop
      have htkl : (l.loop.take t).length = t := by rw [List.length_take]; omega
      have HDL := Lib.hid hdl
      have HTL := Lib.hid htkl
      have HTT : Hid (([] ++ l.loop.drop t ++ l.loop.take t).length = l.loop.length) := by show _ = _; rw [List.nil_append, List.length_append, hdl, htkl]; omega
      have HTI : Hid (∀ x ∈ turnL l.loop t, I64 x) := fun x hx => by unfold turnL at hx; exact (List.mem_append.1 hx).elim (fun h => r1 x (List.mem_of_mem_drop h)) (fun h => r1 x (List.mem_of_mem_take h))
      clear r1 hdl htkl
      generalize suffixI l k = ni at *
      generalize normL (fromL l k) = nl at *
      have hq1 : ((k : Int) - l.stem.length).tmod (l.loop.length : Int) = (t : Int) := by rw [show (k : Int) - l.stem.length = ((k - l.stem.length : Nat) : Int) by omega, ← Int.ofNat_tmod, ht]
      have hq2 : ((k : Int) - l.stem.length) % (l.loop.length : Int) = (t : Int) := by rw [show (k : Int) - l.stem.length = ((k - l.stem.length : Nat) : Int) by omega, ← Int.natCast_emod, ht]
      have hw5 : IntKind.i64.wrap ((k : Int) - l.stem.length) = (k : Int) - l.stem.length := IntWalk.i64_in _ ⟨by omega, by omega⟩
      have hw6 : IntKind.i64.wrap (t : Int) = (t : Int) := IntWalk.i64_in _ ⟨by omega, by omega⟩
      have hzn : ¬ l.loop.length = 0 := by omega
      have hlk : ¬ (k : Int) ≤ l.stem.length := by omega
      clear g0 g1 hf ht
      go_enter Try.func25, Try.ntmps25
      go_upto_region 1 with (fail)
      (have hB0 : Below w.heap.size w ((w.alloc (Obj.cells #[Value.slice a0 l.stem.length c0, Value.slice (some ⟨b1, o1, none⟩) l.loop.length c1] 24)).alloc (Obj.cells #[Value.slice none 0 0, Value.slice none 0 0] 24)) := (by repeat (first | exact Below.refl _ _ | assumption | (refine belA ?_ _) | (refine belD ?_ _)))); (have cA : ((w.alloc (Obj.cells #[Value.slice a0 l.stem.length c0, Value.slice (some ⟨b1, o1, none⟩) l.loop.length c1] 24)).alloc (Obj.cells #[Value.slice none 0 0, Value.slice none 0 0] 24)).cell? ⟨w.heap.size, 0, none⟩ = some (Value.slice a0 l.stem.length c0) := boxCell 0 (bel_box _) rfl); (have cB : ((w.alloc (Obj.cells #[Value.slice a0 l.stem.length c0, Value.slice (some ⟨b1, o1, none⟩) l.loop.length c1] 24)).alloc (Obj.cells #[Value.slice none 0 0, Value.slice none 0 0] 24)).cell? ⟨w.heap.size, 1, none⟩ = some (Value.slice (some ⟨b1, o1, none⟩) l.loop.length c1) := boxCell 1 (bel_box _) rfl); (have cR : ((w.alloc (Obj.cells #[Value.slice a0 l.stem.length c0, Value.slice (some ⟨b1, o1, none⟩) l.loop.length c1] 24)).alloc (Obj.cells #[Value.slice none 0 0, Value.slice none 0 0] 24)).heap[w.heap.size + 1]? = some (Obj.cells #[Value.slice none 0 0, Value.slice none 0 0] 24) := (by have := heap_alloc_new (w.alloc (Obj.cells #[Value.slice a0 l.stem.length c0, Value.slice (some ⟨b1, o1, none⟩) l.loop.length c1] 24)) (Obj.cells #[Value.slice none 0 0, Value.slice none 0 0] 24); simpa using this)); (have hsz : w.heap.size + 1 < ((w.alloc (Obj.cells #[Value.slice a0 l.stem.length c0, Value.slice (some ⟨b1, o1, none⟩) l.loop.length c1] 24)).alloc (Obj.cells #[Value.slice none 0 0, Value.slice none 0 0] 24)).heap.size := (Array.getElem?_eq_some_iff.1 cR).1); generalize ((w.alloc (Obj.cells #[Value.slice a0 l.stem.length c0, Value.slice (some ⟨b1, o1, none⟩) l.loop.length c1] 24)).alloc (Obj.cells #[Value.slice none 0 0, Value.slice none 0 0] 24)) = w1 at *
      go_wp2_with fail
      refine (HF.out _ hB0).mono ?_
      rintro e w2 ⟨rfl, hb2⟩
      have cA := cellB hb2 cA
      have cB := cellB hb2 cB
      have cR := (hb2.block _ (by omega : w.heap.size + 1 < w1.heap.size)).trans cR
      have hB := hB0.trans (hb2.mono hB0.size)
      have hz2 : w.heap.size + 1 < w2.heap.size := (Array.getElem?_eq_some_iff.1 cR).1
      have hz20 : w.heap.size < w2.heap.size := by omega
      go_wp2_with fail
      have hk1 : ¬ c1 = t := by omega
      have hk2 : t ≤ c1 := by omega
      have hk3 : (t : Int) ≤ c1 := by omega
      have hk4 : (t : Int) ≤ l.loop.length := by omega
      have hk5 : t ≤ l.loop.length := by omega
      go_region_law (first | (rw [if_pos (by rfl)]; refine wp_app_ints _ (.tmp 36) _ (by rfl) w2.heap.size _ _ [] (l.loop.drop t) (by rfl) (OI_zero w2) (by rfl) (HDr.out _ (by repeat (first | exact Below.refl _ _ | assumption | (refine belA ?_ _) | (refine belD ?_ _) | (refine Below.drew ?_)))) (by rw [HDL.out]; simp; omega) (by simp) ?_; intro v6 w6 hown6 hg6; have hb6 : Below w2.heap.size w2 w6 := (bel_box _).drew.grown hg6 (by simp) (fun g h => by simp [Value.ownBlock] at h; omega); have HO6 := Lib.hid hown6; clear hown6 hg6; have cA := cellB hb6 cA; have cB := cellB hb6 cB) | (rw [if_pos (by rfl)]; refine wp_app_ints _ (.tmp 41) _ (by rfl) w2.heap.size _ _ _ (l.loop.take t) (by rfl) HO6.out (by rfl) (HTk.out _ (hB.trans (hb6.mono hB.size))) (by rw [HTL.out, List.nil_append, HDL.out]; omega) (by have := hb6.size; omega) ?_; intro v7 w7 hown7 hg7; have hb7 : Below w2.heap.size w2 w7 := hb6.grown hg7 (by have := hb6.size; omega) (fun g h => HO6.out.ge g h); obtain ⟨a7, c7, hv7⟩ := hown7.slice; rw [HTT.out] at hv7; subst hv7; have HO7 := Lib.hid hown7; clear hown7 hg7) | (go_simp; go_at_call 40; refine (HN.out _ _ ⟨_, _, rfl, ints_nil _, (show IsInts _ _ (turnL l.loop t) from HO7.out.is (by rw [HTT.out]; unfold maxN; omega) HTI.out)⟩).mono ?_; rintro e w5 ⟨a5, k5, a6, k6, rfl, i5, i6, b5⟩; have z5 : Below w2.heap.size w2 w5 := hb7.trans (b5.mono hb7.size); have HC := Lib.hid ((z5.block _ hz2).trans cR); obtain ⟨x0, x1, y0, y1⟩ := boxF HC.out))
      all_goals
        have hB5 := hB.trans (z5.mono hB.size)
        go_wp2_with fail
        (have hc3 := two_set (a := .slice a5 nl.stem.length k5) (b := .slice a6 nl.loop.length k6) HC.out); (have cc0 := cell_of_row _ _ 0 _ _ _ hc3); (have cc1 := cell_of_row _ _ 1 _ _ _ hc3); (refine bodyPost_ret (v := .agg #[.slice a5 nl.stem.length k5, .slice a6 nl.loop.length k6]) (by simp [results, Try.results25, go_sem, cc0, cc1]) rfl ?_)
        rw [HR.out]
        exact lsEnd HC.out i5.out i6.out hB5 (by omega)
  · rw [Bool.not_eq_true] at hf
    have HR := Lib.hid (suffixI_not (i := i) hf)
    obtain ⟨v0, v1, rfl, h0, h1⟩ := hl
    obtain ⟨⟨a0, c0, b0, o0, rfl, g0⟩, -⟩ := h0
    obtain ⟨⟨a1, c1, b1, o1, rfl, g1⟩, -⟩ := h1
    rw [hf] at HF
    clear g0 g1 hf
    generalize suffixI l i = ni at *
    go_enter Try.func25, Try.ntmps25
    go_upto_region 1 with (fail)
    (have hB0 : Below w.heap.size w ((w.alloc (Obj.cells #[Value.slice a0 l.stem.length c0, Value.slice a1 l.loop.length c1] 24)).alloc (Obj.cells #[Value.slice none 0 0, Value.slice none 0 0] 24)) := (by repeat (first | exact Below.refl _ _ | assumption | (refine belA ?_ _) | (refine belD ?_ _)))); (have cA : ((w.alloc (Obj.cells #[Value.slice a0 l.stem.length c0, Value.slice a1 l.loop.length c1] 24)).alloc (Obj.cells #[Value.slice none 0 0, Value.slice none 0 0] 24)).cell? ⟨w.heap.size, 0, none⟩ = some (Value.slice a0 l.stem.length c0) := boxCell 0 (bel_box _) rfl); (have cB : ((w.alloc (Obj.cells #[Value.slice a0 l.stem.length c0, Value.slice a1 l.loop.length c1] 24)).alloc (Obj.cells #[Value.slice none 0 0, Value.slice none 0 0] 24)).cell? ⟨w.heap.size, 1, none⟩ = some (Value.slice a1 l.loop.length c1) := boxCell 1 (bel_box _) rfl); (have cR : ((w.alloc (Obj.cells #[Value.slice a0 l.stem.length c0, Value.slice a1 l.loop.length c1] 24)).alloc (Obj.cells #[Value.slice none 0 0, Value.slice none 0 0] 24)).heap[w.heap.size + 1]? = some (Obj.cells #[Value.slice none 0 0, Value.slice none 0 0] 24) := (by have := heap_alloc_new (w.alloc (Obj.cells #[Value.slice a0 l.stem.length c0, Value.slice a1 l.loop.length c1] 24)) (Obj.cells #[Value.slice none 0 0, Value.slice none 0 0] 24); simpa using this)); (have hsz : w.heap.size + 1 < ((w.alloc (Obj.cells #[Value.slice a0 l.stem.length c0, Value.slice a1 l.loop.length c1] 24)).alloc (Obj.cells #[Value.slice none 0 0, Value.slice none 0 0] 24)).heap.size := (Array.getElem?_eq_some_iff.1 cR).1); generalize ((w.alloc (Obj.cells #[Value.slice a0 l.stem.length c0, Value.slice a1 l.loop.length c1] 24)).alloc (Obj.cells #[Value.slice none 0 0, Value.slice none 0 0] 24)) = w1 at *
    go_wp2_with fail
    refine (HF.out _ hB0).mono ?_
    rintro e w2 ⟨rfl, hb2⟩
    have hB := hB0.trans (hb2.mono hB0.size)
    have HC := Lib.hid ((hb2.block _ (by omega : w.heap.size + 1 < w1.heap.size)).trans cR)
    obtain ⟨x0, x1, y0, y1⟩ := boxF HC.out
    clear cA cB cR hb2
    go_wp2_with fail
    (have hc3 := two_set (a := .slice none 0 0) (b := .slice none 0 0) HC.out); (have cc0 := cell_of_row _ _ 0 _ _ _ hc3); (have cc1 := cell_of_row _ _ 1 _ _ _ hc3); (refine bodyPost_ret (v := .agg #[.slice none 0 0, .slice none 0 0]) (by simp [results, Try.results25, go_sem, cc0, cc1]) rfl ?_)
    rw [HR.out]
    exact zeroEnd hB (by omega)

end Go.Proofs.Ytgjpdnaeldpdeaa
