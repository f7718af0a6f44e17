/- The fixed examples: what head computes. -/
import Derived.Test.YtlfackilmpnlhaaDoorSg25
import Derived.Test.YtlfackilmpnlhaaDoorSg22
import Derived.Test.YtlfackilmpnlhaaDoorSgP2
namespace Go.Proofs.YtlfackilmpnlhaaDoor
open Go.RowKit

/-- The signals of the examples. -/
def exL : List Sig := [⟨⟨#[114]⟩, true, 2⟩, ⟨⟨#[109]⟩, false, 3⟩, ⟨⟨#[115]⟩, true, 2⟩]

theorem nameB_eq (s : ByteArray) : nameB s = (decide (1 ≤ s.size) && decide (s.size ≤ 12) && (List.range s.size).all (fun i => byteB (decide (i = 0)) (s.data.toList.getD i 0)) && !keyL.contains s.data.toList) := by
  unfold nameB isKey
  rw [ByteArray.toList_eq]

/-- The same test, by the bytes. -/
def sigB' (l : List Sig) (i : Nat) : Bool :=
  (decide (1 ≤ (l.getD i sig0).name.size) && decide ((l.getD i sig0).name.size ≤ 12) && (List.range (l.getD i sig0).name.size).all (fun j => byteB (decide (j = 0)) ((l.getD i sig0).name.data.toList.getD j 0)) && !keyL.contains (l.getD i sig0).name.data.toList) &&
    sizeB (l.getD i sig0) && (List.range i).all fun k => !((l.getD k sig0).name.data.toList == (l.getD i sig0).name.data.toList)
theorem sigB_eq (l : List Sig) : sigB l = sigB' l := by
  funext i
  unfold sigB sigB' newB
  rw [nameB_eq]
  simp only [ByteArray.toList_eq]

theorem ex_valid : validS exL = true := by
  simp only [validS, allB, sigB_eq]
  decide
theorem ex_letters : lettersI exL = 12 := by rw [lettersI, ex_valid]; rfl
theorem ex_inputs : inputsI exL = 4 := by rw [inputsI, ex_valid]; rfl
theorem ex_outputs : outputsI exL = 3 := by rw [outputsI, ex_valid]; rfl
theorem ex_mk1 : mkR exL [1, 2, 1] = (11, true) := by rw [mkR, ex_valid]; rfl
theorem ex_mk2 : mkR exL [2, 0, 0] = (0, false) := by rw [mkR, ex_valid]; rfl
theorem ex_in : halfI exL true 11 = 3 := by rw [halfI, ex_letters]; rfl
theorem ex_out : halfI exL false 11 = 2 := by rw [halfI, ex_letters]; rfl
theorem ex_join : joinI exL 2 1 = 8 := by rw [joinI, ex_inputs, ex_outputs]; rfl
theorem ex_value : valueI exL 8 2 = 1 := by rw [valueI, ex_letters]; rfl
theorem ex_value0 : valueI exL 12 0 = 0 := by rw [valueI, ex_letters]; rfl
theorem ex_find : findI exL ⟨#[115]⟩ = 2 := by simp only [findI, exL, findF, ByteArray.toList_eq]; decide
theorem ex_find0 : findI exL ⟨#[113]⟩ = -1 := by simp only [findI, exL, findF, ByteArray.toList_eq]; decide
theorem ex_nil : validS [] = false := by simp [validS]
def exT : List Sig := [⟨⟨#[116, 114, 117, 101]⟩, false, 2⟩]
theorem ex_true : validS exT = false := by
  simp only [validS, allB, sigB_eq]
  decide
theorem ex_n1 : nameB ⟨#[97, 95, 49]⟩ = true := by rw [nameB_eq]; decide
theorem ex_n2 : nameB ⟨#[65]⟩ = false := by rw [nameB_eq]; decide
theorem ex_n3 : nameB ⟨#[112, 97, 114, 116]⟩ = false := by rw [nameB_eq]; decide
theorem ex_n4 : nameB ⟨#[]⟩ = false := by rw [nameB_eq]; decide

theorem Example_c (w : World) : Calls Tryd.prog 35 #[] w fun e w' => e = .returned (.slice (some ⟨w.heap.size, 0, none⟩) 3 3) ∧
    w' = w.alloc (.cells #[.string ⟨#[114]⟩, .bool true, .int .i64 2, .string ⟨#[109]⟩, .bool false, .int .i64 3, .string ⟨#[115]⟩, .bool true, .int .i64 2] 36) := by
  go_enter Tryd.func35, Tryd.ntmps35
  go_wp2
  go_ret
  exact ⟨rfl, rfl⟩

theorem ex_sigs (w : World) : IsSigs (w.alloc (.cells #[.string ⟨#[114]⟩, .bool true, .int .i64 2, .string ⟨#[109]⟩, .bool false, .int .i64 3, .string ⟨#[115]⟩, .bool true, .int .i64 2] 36)) (.slice (some ⟨w.heap.size, 0, none⟩) 3 3) exL := by
  have hc := fun k => cell_of_row _ _ k _ _ (0, 0) (heap_alloc_new w (.cells #[.string ⟨#[114]⟩, .bool true, .int .i64 2, .string ⟨#[109]⟩, .bool false, .int .i64 3, .string ⟨#[115]⟩, .bool true, .int .i64 2] 36))
  refine ⟨some ⟨w.heap.size, 0, none⟩, 3, w.heap.size, 0, rfl, ?_⟩
  refine ⟨by decide, by decide, by decide, fun _ => rfl, ?_, ?_, ?_, by simp [exL, exT, I64], by decide⟩
  · intro j hj
    match j, hj with
    | 0, _ => exact hc 0
    | 1, _ => exact hc 3
    | 2, _ => exact hc 6
  · intro j hj
    match j, hj with
    | 0, _ => exact hc 1
    | 1, _ => exact hc 4
    | 2, _ => exact hc 7
  · intro j hj
    match j, hj with
    | 0, _ => exact hc 2
    | 1, _ => exact hc 5
    | 2, _ => exact hc 8

theorem nil_sigs (w : World) : IsSigs w (.slice none 0 0) [] :=
  ⟨none, 0, 0, 0, rfl, Nat.le_refl _, Nat.zero_le _, Nat.zero_le _, fun h => absurd h (by simp), fun j h => absurd h (by simp), fun j h => absurd h (by simp), fun j h => absurd h (by simp), by simp, by simp⟩

theorem true_sigs (w : World) : IsSigs (w.alloc (.cells #[.string ⟨#[116, 114, 117, 101]⟩, .bool false, .int .i64 2] 36)) (.slice (some ⟨w.heap.size, 0, none⟩) 1 1) exT := by
  have hc := fun k => cell_of_row _ _ k _ _ (0, 0) (heap_alloc_new w (.cells #[.string ⟨#[116, 114, 117, 101]⟩, .bool false, .int .i64 2] 36))
  refine ⟨some ⟨w.heap.size, 0, none⟩, 1, w.heap.size, 0, rfl, ?_⟩
  refine ⟨by decide, by decide, by decide, fun _ => rfl, ?_, ?_, ?_, by simp [exL, exT, I64], by decide⟩
  · intro j hj
    match j, hj with
    | 0, _ => exact hc 0
  · intro j hj
    match j, hj with
    | 0, _ => exact hc 1
  · intro j hj
    match j, hj with
    | 0, _ => exact hc 2

theorem three_ints (w : World) (a b c : Int) (ha : I64 a) (hb : I64 b) (hc : I64 c) : IsInts (w.alloc (.cells #[.int .i64 a, .int .i64 b, .int .i64 c] 3)) (.slice (some ⟨w.heap.size, 0, none⟩) 3 3) [a, b, c] := by
  have hcell := fun k => cell_of_row _ _ k _ _ (0, 0) (heap_alloc_new w (.cells #[.int .i64 a, .int .i64 b, .int .i64 c] 3))
  refine ⟨⟨some ⟨w.heap.size, 0, none⟩, 3, w.heap.size, 0, rfl, by simp, by simp [maxLen], by simp [maxN], (fun h => by cases h), fun _ => rfl, ?_⟩, ?_⟩
  · intro j hj
    rw [Nat.zero_add]
    match j, hj with
    | 0, _ => exact hcell 0
    | 1, _ => exact hcell 1
    | 2, _ => exact hcell 2
  · intro x hx
    simp only [List.mem_cons, List.not_mem_nil, or_false] at hx
    rcases hx with rfl | rfl | rfl <;> assumption

set_option maxRecDepth 100000 in
set_option maxHeartbeats 4000000 in
theorem head_c (w : World) (hK : Keys w) : Calls Tryd.prog 9 #[] w (Calm (.bool true) w) := by
  have hw0 := ex_sigs w
  have hb0 : Below w.heap.size w (w.alloc (.cells #[.string ⟨#[114]⟩, .bool true, .int .i64 2, .string ⟨#[109]⟩, .bool false, .int .i64 3, .string ⟨#[115]⟩, .bool true, .int .i64 2] 36)) := bel_box _
  obtain ⟨w1, hw1⟩ : ∃ w1, w.alloc (.cells #[.string ⟨#[114]⟩, .bool true, .int .i64 2, .string ⟨#[109]⟩, .bool false, .int .i64 3, .string ⟨#[115]⟩, .bool true, .int .i64 2] 36) = w1 := ⟨_, rfl⟩
  rw [hw1] at hw0 hb0
  have HW1 := Lib.hid hw1
  have hK1 := hK.below hb0
  obtain ⟨vl, hvl⟩ : ∃ vl, Value.slice (some ⟨w.heap.size, 0, none⟩) 3 3 = vl := ⟨_, rfl⟩
  rw [hvl] at hw0
  have HVL := Lib.hid hvl
  have hE : Hid (Calls Tryd.prog 35 #[] w fun e w' => e = .returned vl ∧ w' = w1) := by
    have := Example_c w
    rw [hw1, hvl] at this
    exact this
  have hMk : ∀ (a b c : Int), I64 a → I64 b → I64 c → ∀ W, Below w1.heap.size w1 W → Calls Tryd.prog 11 #[vl, .slice (some ⟨W.heap.size, 0, none⟩) 3 3] (W.alloc (.cells #[.int .i64 a, .int .i64 b, .int .i64 c] 3)) (MkPost (mkR exL [a, b, c]) W) := fun a b c ha hb hc W hW =>
    (Make_c _ vl _ exL [a, b, c] (hK1.below (belA hW _)) (hw0.below (belA hW _)) (three_ints W a b c ha hb hc)).mono fun e w' h => ⟨h.1, (bel_box _).trans (h.2.mono (by simp))⟩
  have hMk1 : Hid (∀ W, Below w1.heap.size w1 W → Calls Tryd.prog 11 #[vl, .slice (some ⟨W.heap.size, 0, none⟩) 3 3] (W.alloc (.cells #[.int .i64 1, .int .i64 2, .int .i64 1] 3)) (MkPost (11, true) W)) := fun W hW => by
    have := hMk 1 2 1 (by unfold I64; omega) (by unfold I64; omega) (by unfold I64; omega) W hW
    rwa [ex_mk1] at this
  have hMk2 : Hid (∀ W, Below w1.heap.size w1 W → Calls Tryd.prog 11 #[vl, .slice (some ⟨W.heap.size, 0, none⟩) 3 3] (W.alloc (.cells #[.int .i64 2, .int .i64 0, .int .i64 0] 3)) (MkPost (0, false) W)) := fun W hW => by
    have := hMk 2 0 0 (by unfold I64; omega) (by unfold I64; omega) (by unfold I64; omega) W hW
    rwa [ex_mk2] at this
  have hVa : Hid (∀ W, Below w1.heap.size w1 W → Calls Tryd.prog 13 #[vl] W (Calm (.bool true) W)) := fun W hW => by
    have := (SValid_c W vl exL (hK1.below hW) (hw0.below hW)).mono fun e w' h => h.calm
    rwa [ex_valid] at this
  have hLe : Hid (∀ W, Below w1.heap.size w1 W → Calls Tryd.prog 19 #[vl] W (Calm (.int .i64 12) W)) := fun W hW => by
    have := Letters_c W vl exL (hK1.below hW) (hw0.below hW)
    rwa [ex_letters] at this
  have hIn : Hid (∀ W, Below w1.heap.size w1 W → Calls Tryd.prog 21 #[vl] W (Calm (.int .i64 4) W)) := fun W hW => by
    have := Inputs_c W vl exL (hK1.below hW) (hw0.below hW)
    rwa [ex_inputs] at this
  have hOu : Hid (∀ W, Below w1.heap.size w1 W → Calls Tryd.prog 23 #[vl] W (Calm (.int .i64 3) W)) := fun W hW => by
    have := Outputs_c W vl exL (hK1.below hW) (hw0.below hW)
    rwa [ex_outputs] at this
  have hI : Hid (∀ W, Below w1.heap.size w1 W → Calls Tryd.prog 27 #[vl, .int .i64 11] W (Calm (.int .i64 3) W)) := fun W hW => by
    have := SIn_c W vl exL 11 (by unfold I64; omega) (hK1.below hW) (hw0.below hW)
    rwa [ex_in] at this
  have hO : Hid (∀ W, Below w1.heap.size w1 W → Calls Tryd.prog 29 #[vl, .int .i64 11] W (Calm (.int .i64 2) W)) := fun W hW => by
    have := SOut_c W vl exL 11 (by unfold I64; omega) (hK1.below hW) (hw0.below hW)
    rwa [ex_out] at this
  have hJ : Hid (∀ W, Below w1.heap.size w1 W → Calls Tryd.prog 31 #[vl, .int .i64 2, .int .i64 1] W (Calm (.int .i64 8) W)) := fun W hW => by
    have := Join_c W vl exL 2 1 (by unfold I64; omega) (by unfold I64; omega) (hK1.below hW) (hw0.below hW)
    rwa [ex_join] at this
  have hV1 : Hid (∀ W, Below w1.heap.size w1 W → Calls Tryd.prog 25 #[vl, .int .i64 8, .int .i64 2] W (Calm (.int .i64 1) W)) := fun W hW => by
    have := Value_c W vl exL 8 2 (by unfold I64; omega) (by unfold I64; omega) (hK1.below hW) (hw0.below hW)
    rwa [ex_value] at this
  have hV2 : Hid (∀ W, Below w1.heap.size w1 W → Calls Tryd.prog 25 #[vl, .int .i64 12, .int .i64 0] W (Calm (.int .i64 0) W)) := fun W hW => by
    have := Value_c W vl exL 12 0 (by unfold I64; omega) (by unfold I64; omega) (hK1.below hW) (hw0.below hW)
    rwa [ex_value0] at this
  have hF1 : Hid (∀ W, Below w1.heap.size w1 W → Calls Tryd.prog 17 #[vl, .string ⟨#[115]⟩] W (Calm (.int .i64 2) W)) := fun W hW => by
    have := (Find_c W vl exL ⟨#[115]⟩ (hw0.below hW)).mono fun e w' (h : _ ∧ W = w') => (⟨h.1, h.2 ▸ Below.refl _ _⟩ : Calm _ W e w')
    rwa [ex_find] at this
  have hF2 : Hid (∀ W, Below w1.heap.size w1 W → Calls Tryd.prog 17 #[vl, .string ⟨#[113]⟩] W (Calm (.int .i64 (-1)) W)) := fun W hW => by
    have := (Find_c W vl exL ⟨#[113]⟩ (hw0.below hW)).mono fun e w' (h : _ ∧ W = w') => (⟨h.1, h.2 ▸ Below.refl _ _⟩ : Calm _ W e w')
    rwa [ex_find0] at this
  have hVN : Hid (∀ W, Below w1.heap.size w1 W → Calls Tryd.prog 13 #[.slice none 0 0] W (Calm (.bool false) W)) := fun W hW => by
    have := (SValid_c W _ [] (hK1.below hW) (nil_sigs W)).mono fun e w' h => h.calm
    rwa [ex_nil] at this
  have hVT : Hid (∀ W, Below w1.heap.size w1 W → Calls Tryd.prog 13 #[.slice (some ⟨W.heap.size, 0, none⟩) 1 1] (W.alloc (.cells #[.string ⟨#[116, 114, 117, 101]⟩, .bool false, .int .i64 2] 36)) (Calm (.bool false) W)) := fun W hW => by
    have := (SValid_c _ _ exT (hK1.below (belA hW _)) (true_sigs W)).mono fun e w' h => (⟨h.calm.1, (bel_box _).trans (h.calm.2.mono (by simp))⟩ : Calm _ W e w')
    rwa [ex_true] at this
  have hNa : ∀ (s : ByteArray) (q : Bool), nameB s = q → s.size ≤ 100 → ∀ W, Below w1.heap.size w1 W → Calls Tryd.prog 15 #[.string s] W (Calm (.bool q) W) := fun s q hq hs W hW => by
    have := (Name_c W s (hK1.below hW) (by unfold maxN; omega)).mono fun e w' (h : _ ∧ W = w') => (⟨h.1, h.2 ▸ Below.refl _ _⟩ : Calm _ W e w')
    rwa [hq] at this
  have hN1 := Lib.hid (hNa ⟨#[97, 95, 49]⟩ true ex_n1 (by decide))
  have hN2 := Lib.hid (hNa ⟨#[65]⟩ false ex_n2 (by decide))
  have hN3 := Lib.hid (hNa ⟨#[112, 97, 114, 116]⟩ false ex_n3 (by decide))
  have hN4 := Lib.hid (hNa ⟨#[]⟩ false ex_n4 (by decide))
  clear hNa hMk hw0 hvl hw1 hK hK1
  have hB : Below w1.heap.size w1 w1 := Below.refl _ _
  go_enter Tryd.func9, Tryd.ntmps9
  go_wp2_with fail
  refine hE.out.mono ?_
  rintro e w2 ⟨rfl, hw2⟩
  subst hw2
  (go_wp2_with fail); (refine (hMk1.out _ hB).mono ?_); (rintro e w3 ⟨rfl, hb⟩); (replace hB := bel_step hB hb); (clear hb)
  (go_wp2_with fail); (refine (hMk2.out _ hB).mono ?_); (rintro e w4 ⟨rfl, hb⟩); (replace hB := bel_step hB hb); (clear hb)
  (go_wp2_with fail); (refine (hVa.out _ hB).mono ?_); (rintro e w5 ⟨rfl, hb⟩); (replace hB := bel_step hB hb); (clear hb)
  (go_wp2_with fail); (refine (hLe.out _ hB).mono ?_); (rintro e w6 ⟨rfl, hb⟩); (replace hB := bel_step hB hb); (clear hb)
  (go_wp2_with fail); (refine (hIn.out _ hB).mono ?_); (rintro e w7 ⟨rfl, hb⟩); (replace hB := bel_step hB hb); (clear hb)
  (go_wp2_with fail); (refine (hOu.out _ hB).mono ?_); (rintro e w8 ⟨rfl, hb⟩); (replace hB := bel_step hB hb); (clear hb)
  (go_wp2_with fail); (refine (hI.out _ hB).mono ?_); (rintro e w9 ⟨rfl, hb⟩); (replace hB := bel_step hB hb); (clear hb)
  (go_wp2_with fail); (refine (hO.out _ hB).mono ?_); (rintro e w10 ⟨rfl, hb⟩); (replace hB := bel_step hB hb); (clear hb)
  (go_wp2_with fail); (refine (hJ.out _ hB).mono ?_); (rintro e w11 ⟨rfl, hb⟩); (replace hB := bel_step hB hb); (clear hb)
  (go_wp2_with fail); (refine (hV1.out _ hB).mono ?_); (rintro e w12 ⟨rfl, hb⟩); (replace hB := bel_step hB hb); (clear hb)
  (go_wp2_with fail); (refine (hV2.out _ hB).mono ?_); (rintro e w13 ⟨rfl, hb⟩); (replace hB := bel_step hB hb); (clear hb)
  (go_wp2_with fail); (refine (hF1.out _ hB).mono ?_); (rintro e w14 ⟨rfl, hb⟩); (replace hB := bel_step hB hb); (clear hb)
  (go_wp2_with fail); (refine (hF2.out _ hB).mono ?_); (rintro e w15 ⟨rfl, hb⟩); (replace hB := bel_step hB hb); (clear hb)
  (go_wp2_with fail); (refine (hVN.out _ hB).mono ?_); (rintro e w16 ⟨rfl, hb⟩); (replace hB := bel_step hB hb); (clear hb)
  (go_wp2_with fail); (refine (hVT.out _ hB).mono ?_); (rintro e w17 ⟨rfl, hb⟩); (replace hB := bel_step hB hb); (clear hb)
  (go_wp2_with fail); (refine (hN1.out _ hB).mono ?_); (rintro e w18 ⟨rfl, hb⟩); (replace hB := bel_step hB hb); (clear hb)
  (go_wp2_with fail); (refine (hN2.out _ hB).mono ?_); (rintro e w19 ⟨rfl, hb⟩); (replace hB := bel_step hB hb); (clear hb)
  (go_wp2_with fail); (refine (hN3.out _ hB).mono ?_); (rintro e w20 ⟨rfl, hb⟩); (replace hB := bel_step hB hb); (clear hb)
  (go_wp2_with fail); (refine (hN4.out _ hB).mono ?_); (rintro e w21 ⟨rfl, hb⟩); (replace hB := bel_step hB hb); (clear hb)
  go_wp2
  go_ret
  exact ⟨rfl, hb0.trans (hB.mono hb0.size)⟩

end Go.Proofs.YtlfackilmpnlhaaDoor
