/- What Valid, At compute, the program's and the reference's. -/
import Derived.Test.YtgjpdnaeldpdeaaWd13
import Derived.Test.YtgjpdnaeldpdeaaWd8
namespace Go.Proofs.Ytgjpdnaeldpdeaa
open Go.RowKit

/-- The program's At and the reference's: one text for both. -/
theorem atI_neg {l : Ls} {i : Int} (h : i < 0) : atI l i = -1 := if_neg (by omega)
theorem atI_not {l : Ls} {i : Int} (h : formB l = false) : atI l i = -1 := if_neg (by rw [h]; simp)
theorem atI_nat {l : Ls} {i : Int} (h0 : 0 ≤ i) (h : formB l = true) : atI l i = atL l i.toNat := if_pos ⟨h0, h⟩

set_option maxHeartbeats 2000000 in
theorem At_c (w : World) (v : Value) (l : Ls) (i : Int) (hl : IsLs w v l) (hi : I64 i) :
    Calls Try.prog 14 #[v, .int .i64 i] w (Calm (.int .i64 (atI l i)) w) := by
  have HF := Lib.hid (fun (W : World) (hW : Below w.heap.size w W) => formed_c W v l (hl.below hW))
  by_cases h0 : i < 0
  · have HR := Lib.hid (atI_neg (l := l) h0)
    obtain ⟨v0, v1, rfl, h0, h1⟩ := hl
    obtain ⟨⟨a0, c0, b0, o0, rfl, g0⟩, -⟩ := h0
    obtain ⟨⟨a1, c1, b1, o1, rfl, g1⟩, -⟩ := h1
    clear g0 g1
    go_enter Try.func14, Try.ntmps14
    go_wp2
    go_ret
    exact ⟨ret_int HR.out.symm, bel_box _⟩
  by_cases hf : formB l = true
  · obtain ⟨k, rfl⟩ : ∃ k : Nat, i = k := ⟨i.toNat, by omega⟩
    have HP := Lib.hid (fun (W : World) (hW : Below w.heap.size w W) => pick_c W v l k (hl.below hW) (form_pos hf) hi)
    have HR : Hid (atI l (k : Int) = atL l k) := by show _ = _; rw [atI_nat (by omega) hf]; rfl
    obtain ⟨v0, v1, rfl, h0, h1⟩ := hl
    obtain ⟨⟨a0, c0, b0, o0, rfl, g0⟩, -⟩ := h0
    obtain ⟨⟨a1, c1, b1, o1, rfl, g1⟩, -⟩ := h1
    rw [hf] at HF
    clear g0 g1 hf
    go_enter Try.func14, Try.ntmps14
    go_wp2_with fail
    refine (HF.out _ (bel_box _)).mono ?_
    rintro e w2 ⟨rfl, hb2⟩
    have hB2 := (bel_box (w := w) (Obj.cells #[Value.slice a0 l.stem.length c0, Value.slice a1 l.loop.length c1] 24)).trans (hb2.mono (by simp))
    have cA : w2.cell? ⟨w.heap.size, 0, none⟩ = some (Value.slice a0 l.stem.length c0) := boxCell 0 hb2 rfl
    have cB : w2.cell? ⟨w.heap.size, 1, none⟩ = some (Value.slice a1 l.loop.length c1) := boxCell 1 hb2 rfl
    clear hb2
    go_wp2_with fail
    refine (HP.out _ hB2).mono ?_
    rintro e w3 ⟨rfl, hb3⟩
    go_wp2
    go_ret
    exact ⟨ret_int HR.out.symm, hB2.trans (hb3.mono hB2.size)⟩
  · rw [Bool.not_eq_true] at hf
    have HR := Lib.hid (atI_not (i := i) hf)
    obtain ⟨v0, v1, rfl, h0, h1⟩ := hl
    obtain ⟨⟨a0, c0, b0, o0, rfl, g0⟩, -⟩ := h0
    obtain ⟨⟨a1, c1, b1, o1, rfl, g1⟩, -⟩ := h1
    rw [hf] at HF
    clear g0 g1 hf
    go_enter Try.func14, Try.ntmps14
    go_wp2_with fail
    refine (HF.out _ (bel_box _)).mono ?_
    rintro e w2 ⟨rfl, hb2⟩
    go_wp2
    go_ret
    exact ⟨ret_int HR.out.symm, (bel_box _).trans (hb2.mono (by simp))⟩

set_option maxHeartbeats 2000000 in
theorem RAt_c (w : World) (v : Value) (l : Ls) (i : Int) (hl : IsLs w v l) (hi : I64 i) :
    Calls Try.prog 15 #[v, .int .i64 i] w (Calm (.int .i64 (atI l i)) w) := by
  have HF := Lib.hid (fun (W : World) (hW : Below w.heap.size w W) => RFormed_c W v l (hl.below hW))
  by_cases h0 : i < 0
  · have HR := Lib.hid (atI_neg (l := l) h0)
    obtain ⟨v0, v1, rfl, h0, h1⟩ := hl
    obtain ⟨⟨a0, c0, b0, o0, rfl, g0⟩, -⟩ := h0
    obtain ⟨⟨a1, c1, b1, o1, rfl, g1⟩, -⟩ := h1
    clear g0 g1
    go_enter Try.func15, Try.ntmps15
    go_wp2
    go_ret
    exact ⟨ret_int HR.out.symm, bel_box _⟩
  by_cases hf : formB l = true
  · obtain ⟨k, rfl⟩ : ∃ k : Nat, i = k := ⟨i.toNat, by omega⟩
    have HP := Lib.hid (fun (W : World) (hW : Below w.heap.size w W) => Rat_c W v l k (hl.below hW) (form_pos hf) hi)
    have HR : Hid (atI l (k : Int) = atL l k) := by show _ = _; rw [atI_nat (by omega) hf]; rfl
    obtain ⟨v0, v1, rfl, h0, h1⟩ := hl
    obtain ⟨⟨a0, c0, b0, o0, rfl, g0⟩, -⟩ := h0
    obtain ⟨⟨a1, c1, b1, o1, rfl, g1⟩, -⟩ := h1
    rw [hf] at HF
    clear g0 g1 hf
    go_enter Try.func15, Try.ntmps15
    go_wp2_with fail
    refine (HF.out _ (bel_box _)).mono ?_
    rintro e w2 ⟨rfl, hb2⟩
    have hB2 := (bel_box (w := w) (Obj.cells #[Value.slice a0 l.stem.length c0, Value.slice a1 l.loop.length c1] 24)).trans (hb2.mono (by simp))
    have cA : w2.cell? ⟨w.heap.size, 0, none⟩ = some (Value.slice a0 l.stem.length c0) := boxCell 0 hb2 rfl
    have cB : w2.cell? ⟨w.heap.size, 1, none⟩ = some (Value.slice a1 l.loop.length c1) := boxCell 1 hb2 rfl
    clear hb2
    go_wp2_with fail
    refine (HP.out _ hB2).mono ?_
    rintro e w3 ⟨rfl, hb3⟩
    go_wp2
    go_ret
    exact ⟨ret_int HR.out.symm, hB2.trans (hb3.mono hB2.size)⟩
  · rw [Bool.not_eq_true] at hf
    have HR := Lib.hid (atI_not (i := i) hf)
    obtain ⟨v0, v1, rfl, h0, h1⟩ := hl
    obtain ⟨⟨a0, c0, b0, o0, rfl, g0⟩, -⟩ := h0
    obtain ⟨⟨a1, c1, b1, o1, rfl, g1⟩, -⟩ := h1
    rw [hf] at HF
    clear g0 g1 hf
    go_enter Try.func15, Try.ntmps15
    go_wp2_with fail
    refine (HF.out _ (bel_box _)).mono ?_
    rintro e w2 ⟨rfl, hb2⟩
    go_wp2
    go_ret
    exact ⟨ret_int HR.out.symm, (bel_box _).trans (hb2.mono (by simp))⟩

end Go.Proofs.Ytgjpdnaeldpdeaa
