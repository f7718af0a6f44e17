/- What the reference's Push computes. -/
import Derived.Test.YtgjpdnaeldpdeaaWd23
import Derived.Test.YtgjpdnaeldpdeaaWd26
namespace Go.Proofs.Ytgjpdnaeldpdeaa
open Go.RowKit

theorem formedL_short (l : Ls) : formedL (normL l) = shortL l := rfl

set_option maxRecDepth 100000 in
set_option maxHeartbeats 4000000 in
theorem RPush_c (w : World) (va v : Value) (a : List Int) (l : Ls) (ha : IsInts w va a) (hl : IsLs w v l) (hal : a.length ≤ 90000) :
    Calls Try.prog 27 #[va, v] w (NewL (pushI a l) w) := by
  have HF := Lib.hid (fun (W : World) (hW : Below w.heap.size w W) => RFormed_c W v l (hl.below hW))
  have HS : Hid (formB l = true → ∀ W v, IsLs W v (pushR a l) → Calls Try.prog 40 #[v] W (NewT (normL (pushR a l)) W)) := fun hf W v h => by
    obtain ⟨s1, s2, s3⟩ := formB_short hf
    exact (Shortest_c W v _ h (by show 0 < l.loop.length; omega) (by show (a ++ l.stem).length ≤ _; rw [List.length_append]; omega) (by show l.loop.length ≤ _; omega)).mono fun e w' h => h.t
  have HG : Hid (∀ W v, IsLs W v (normL (pushR a l)) → Calls Try.prog 46 #[v] W (NewT (shortL (pushR a l)) W)) := fun W v h => (Rformed_c W v _ h).mono fun e w' h => by
    rw [formedL_short] at h; exact h.t
  have HBad : Hid (a.all letB = false → pushI a l = zeroL) := fun h => pushI_bad h
  have HNot : Hid (formB l = false → pushI a l = zeroL) := fun h => pushI_not h
  have HOk : Hid (formB l = true → a.all letB = true → pushI a l = shortL (pushR a l)) := fun h1 h2 => pushI_ok h1 h2
  have HSh : Hid (formB l = true → l.stem.length ≤ 60) := fun h => (formB_short h).1
  obtain ⟨v0, v1, rfl, h0, h1⟩ := hl
  have HI0 := Lib.hid (fun (W : World) (hW : Below w.heap.size w W) => h0.below hW)
  have HI1 := Lib.hid (fun (W : World) (hW : Below w.heap.size w W) => h1.below hW)
  have HIa := Lib.hid (fun (W : World) (hW : Below w.heap.size w W) => ha.below hW)
  have HRa := Lib.hid ha.2
  have HRs := Lib.hid h0.2
  obtain ⟨⟨a0, c0, b0, o0, rfl, g0⟩, -⟩ := h0
  obtain ⟨⟨a1, c1, b1, o1, rfl, g1⟩, -⟩ := h1
  obtain ⟨⟨a2, c2, b2, o2, rfl, g2⟩, -⟩ := ha
  have HS0 := Lib.hid (fun k (h : k < a.length) (hb : letB a[k] = false) => all_false_of a letB k h hb)
  have HGet := Lib.hid (fun k (h : k < a.length) => g2.el k h)
  have HAd := Lib.hid g2.ad
  clear g0 g1 g2
  generalize formB l = f at *
  generalize hni : pushI a l = ni at *
  generalize hnl : normL (pushR a l) = nl at *
  generalize hsl : shortL (pushR a l) = sl at *
  clear hni hnl hsl
  go_enter Try.func27, Try.ntmps27
  go_upto_region 1 with (fail)
  (have hB0 : Below w.heap.size w ((w.alloc (Obj.cells #[Value.slice a0 l.stem.length c0, Value.slice a1 l.loop.length c1] 24)).alloc (Obj.cells #[Value.slice none 0 0, Value.slice none 0 0] 24)) := (by repeat (first | exact Below.refl _ _ | assumption | (refine belA ?_ _) | (refine belD ?_ _)))); (have cA : ((w.alloc (Obj.cells #[Value.slice a0 l.stem.length c0, Value.slice a1 l.loop.length c1] 24)).alloc (Obj.cells #[Value.slice none 0 0, Value.slice none 0 0] 24)).cell? ⟨w.heap.size, 0, none⟩ = some (Value.slice a0 l.stem.length c0) := boxCell 0 (bel_box _) rfl); (have cB : ((w.alloc (Obj.cells #[Value.slice a0 l.stem.length c0, Value.slice a1 l.loop.length c1] 24)).alloc (Obj.cells #[Value.slice none 0 0, Value.slice none 0 0] 24)).cell? ⟨w.heap.size, 1, none⟩ = some (Value.slice a1 l.loop.length c1) := boxCell 1 (bel_box _) rfl); (have cR : ((w.alloc (Obj.cells #[Value.slice a0 l.stem.length c0, Value.slice a1 l.loop.length c1] 24)).alloc (Obj.cells #[Value.slice none 0 0, Value.slice none 0 0] 24)).heap[w.heap.size + 1]? = some (Obj.cells #[Value.slice none 0 0, Value.slice none 0 0] 24) := (by have := heap_alloc_new (w.alloc (Obj.cells #[Value.slice a0 l.stem.length c0, Value.slice a1 l.loop.length c1] 24)) (Obj.cells #[Value.slice none 0 0, Value.slice none 0 0] 24); simpa using this)); (have hsz : w.heap.size + 1 < ((w.alloc (Obj.cells #[Value.slice a0 l.stem.length c0, Value.slice a1 l.loop.length c1] 24)).alloc (Obj.cells #[Value.slice none 0 0, Value.slice none 0 0] 24)).heap.size := (Array.getElem?_eq_some_iff.1 cR).1); generalize ((w.alloc (Obj.cells #[Value.slice a0 l.stem.length c0, Value.slice a1 l.loop.length c1] 24)).alloc (Obj.cells #[Value.slice none 0 0, Value.slice none 0 0] 24)) = w1 at *
  have HCR := Lib.hid cR
  clear cR
  go_wp2
  go_loop [5] (fun i => ∃ k : Nat, i = .int .i64 k ∧ k ≤ a.length ∧ Hid ((a.take k).all letB = true)) (fun i => a.length - (intOf i).toNat)
  case atStart => exact ⟨0, rfl, by omega, by show _ = _; simp⟩
  case round =>
    obtain ⟨k, rfl, hk, HA⟩ := hrel
    by_cases hlt : k < a.length
    · obtain rfl := HAd.out (by omega)
      have e1 := cellB hB0 (HGet.out k hlt)
      unfold ivF at e1
      rw [getD_lt _ _ _ hlt] at e1
      have HT := Lib.hid (all_take_succ a letB k hlt)
      have HF0 := Lib.hid (HS0.out k hlt)
      generalize a[k] = x at *
      go_wp2_with fail
      refine (Letter_c _ x).mono ?_
      rintro e w2 ⟨rfl, rfl⟩
      cases hx : letB x
      · have HX := Lib.hid (HBad.out (HF0.out hx))
        clear hx
        obtain ⟨x0, x1, y0, y1⟩ := boxF HCR.out
        go_wp2
        (have hc3 := two_set (a := .slice none 0 0) (b := .slice none 0 0) HCR.out); (have cc0 := cell_of_row _ _ 0 _ _ _ hc3); (have cc1 := cell_of_row _ _ 1 _ _ _ hc3); (refine bodyPost_ret (v := .agg #[.slice none 0 0, .slice none 0 0]) (by simp [results, Try.results27, go_sem, cc0, cc1]) rfl ?_)
        rw [HX.out]
        exact zeroEnd hB0 (by omega)
      · have HT2 : Hid ((a.take (k + 1)).all letB = true) := by show _ = _; rw [HT.out, HA.out, hx]; rfl
        clear hx
        go_wp2
        go_round
        case rel => exact ⟨k + 1, by go_num, by omega, HT2⟩
        case measure => simp [intOf]; omega
    · obtain rfl : k = a.length := by omega
      have HAll : Hid (a.all letB = true) := by
        show _ = _
        have := HA.out
        rwa [List.take_length] at this
      clear HA hk hlt HS0 HGet HAd
      go_wp2_with fail
      refine (HF.out _ hB0).mono ?_
      rintro e w2 ⟨rfl, hb2⟩
      have cA := cellB hb2 cA
      have cB := cellB hb2 cB
      have hB := hB0.trans (hb2.mono hB0.size)
      have HC2 := Lib.hid ((hb2.block _ (by omega : w.heap.size + 1 < w1.heap.size)).trans HCR.out)
      have hz2 : w.heap.size + 1 < w2.heap.size := (Array.getElem?_eq_some_iff.1 HC2.out).1
      have hz20 : w.heap.size < w2.heap.size := by omega
      clear hb2
      cases f with
      | false =>
        have HX := Lib.hid (HNot.out (by trivial))
        obtain ⟨x0, x1, y0, y1⟩ := boxF HC2.out
        go_wp2
        (have hc3 := two_set (a := .slice none 0 0) (b := .slice none 0 0) HC2.out); (have cc0 := cell_of_row _ _ 0 _ _ _ hc3); (have cc1 := cell_of_row _ _ 1 _ _ _ hc3); (refine bodyPost_ret (v := .agg #[.slice none 0 0, .slice none 0 0]) (by simp [results, Try.results27, go_sem, cc0, cc1]) rfl ?_)
        rw [HX.out]
        exact zeroEnd hB (by omega)
      | true =>
        have HX := Lib.hid (HOk.out (by trivial) HAll.out)
        have HS2 := Lib.hid (HS.out (by trivial))
        have hsl := HSh.out (by trivial)
        have HLen : Hid (([] ++ a ++ l.stem).length = a.length + l.stem.length) := by show _ = _; rw [List.nil_append, List.length_append]
        have HII : Hid (∀ x ∈ (pushR a l).stem, I64 x) := fun x hx => (List.mem_append.1 hx).elim (fun h => HRa.out x h) (fun h => HRs.out x h)
        clear HS HNot HOk HBad HSh
        have CB0 := Lib.hid cB
        go_wp2_with fail
        go_region_law (first | (rw [if_pos (by rfl)]; refine wp_app_ints _ (.tmp 25) _ (by rfl) w2.heap.size _ _ [] a (by rfl) (OI_zero w2) (by rfl) (HIa.out _ (by repeat (first | exact Below.refl _ _ | assumption | (refine belA ?_ _) | (refine belD ?_ _) | (refine Below.drew ?_)))) (by simp; omega) (by simp) ?_; intro v6 w6 hown6 hg6; have hb6 : Below w2.heap.size w2 w6 := (bel_box _).drew.grown hg6 (by simp) (fun g h => by simp [Value.ownBlock] at h; omega); have HO6 := Lib.hid hown6; clear hown6 hg6; have cA := cellB hb6 cA; have cB := cellB hb6 cB) | (rw [if_pos (by rfl)]; refine wp_app_ints _ (.tmp 27) _ (by rfl) w2.heap.size _ _ _ l.stem (by rfl) HO6.out (by rfl) (HI0.out _ (hB.trans (hb6.mono hB.size))) (by rw [List.nil_append]; omega) (by have := hb6.size; omega) ?_; intro v7 w7 hown7 hg7; have hb7 : Below w2.heap.size w2 w7 := hb6.grown hg7 (by have := hb6.size; omega) (fun g h => HO6.out.ge g h); obtain ⟨a7, c7, hv7⟩ := hown7.slice; rw [HLen.out] at hv7; subst hv7; have HO7 := Lib.hid hown7; clear hown7 hg7; have cB := cellB hb7 CB0.out) | (go_simp; go_at_call 40; refine (HS2.out _ _ ⟨_, _, rfl, (show IsInts _ _ (pushR a l).stem from HO7.out.is (by rw [HLen.out]; unfold maxN; omega) HII.out), HI1.out _ (hB.trans (hb7.mono hB.size))⟩).mono ?_; rintro e w4 ⟨a4, k4, a3, k3, rfl, i3, i4, b4⟩; have z4 : Below w2.heap.size w2 w4 := hb7.trans (b4.mono hb7.size)) | (go_simp; go_at_call 46; refine (HG.out _ _ (IsLs.mk i3.out i4.out)).mono ?_; rintro e w5 ⟨a5, k5, a6, k6, rfl, i5, i6, b5⟩; have z5 : Below w2.heap.size w2 w5 := z4.trans (b5.mono z4.size); have HC := Lib.hid ((z5.block _ hz2).trans HC2.out); obtain ⟨x0, x1, y0, y1⟩ := boxF HC.out))
        all_goals
          have hB5 := hB.trans (z5.mono hB.size)
          go_wp2_with fail
          (have hc3 := two_set (a := .slice a5 sl.stem.length k5) (b := .slice a6 sl.loop.length k6) HC.out); (have cc0 := cell_of_row _ _ 0 _ _ _ hc3); (have cc1 := cell_of_row _ _ 1 _ _ _ hc3); (refine bodyPost_ret (v := .agg #[.slice a5 sl.stem.length k5, .slice a6 sl.loop.length k6]) (by simp [results, Try.results27, go_sem, cc0, cc1]) rfl ?_)
          rw [HX.out]
          exact lsEnd HC.out i5.out i6.out hB5 (by omega)

end Go.Proofs.Ytgjpdnaeldpdeaa
