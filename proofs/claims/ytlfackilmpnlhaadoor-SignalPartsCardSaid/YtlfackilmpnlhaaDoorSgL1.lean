/- The walk of SignalMatchesReference. -/
import Derived.Test.YtlfackilmpnlhaaDoorSg26
namespace Go.Proofs.YtlfackilmpnlhaaDoor
open Go.RowKit

theorem calm_same {v : Value} {w : World} {e : Ending} {w' : World} (h : e = .returned v ∧ w = w') : Calm v w e w' := ⟨h.1, h.2 ▸ Below.refl _ _⟩

set_option maxRecDepth 100000 in
set_option maxHeartbeats 4000000 in
theorem SL1_walk (w : World) (vl vv : Value) (l : List Sig) (s : ByteArray) (a i : Int) (vals : List Int) (p o : Int) (hK : Keys w) (hl : IsSigs w vl l) (hs : s.size ≤ maxN) (ha : I64 a) (hi : I64 i) (hvv : IsInts w vv vals) (hp : I64 p) (ho : I64 o) :
    Calls Tryd.prog 3 #[vl, .string s, .int .i64 a, .int .i64 i, vv, .int .i64 p, .int .i64 o] w (Calm (.bool true) w) := by
  have hHead := Lib.hid (head_c w hK)
  have hSm : Hid (∀ W, Below w.heap.size w W → Calls Tryd.prog 10 #[vl] W (Calm (.bool (smallS l)) W)) := fun W hW => (Small_c W vl l (hl.below hW)).mono fun _ _ h => calm_same h
  have hMk : Hid (∀ W, Below w.heap.size w W → Calls Tryd.prog 11 #[vl, vv] W (MkPost (mkR l vals) W)) := fun W hW => Make_c W vl vv l vals (hK.below hW) (hl.below hW) (hvv.below hW)
  have hRMk : Hid (∀ W, Below w.heap.size w W → Calls Tryd.prog 12 #[vl, vv] W (MkPost (mkR l vals) W)) := fun W hW => RMake_c W vl vv l vals (hl.below hW) (hvv.below hW)
  have hVa : Hid (∀ W, Below w.heap.size w W → Calls Tryd.prog 13 #[vl] W (Calm (.bool (validS l)) W)) := fun W hW => (SValid_c W vl l (hK.below hW) (hl.below hW)).mono fun _ _ h => h.calm
  have hRVa : Hid (∀ W, Below w.heap.size w W → Calls Tryd.prog 14 #[vl] W (Calm (.bool (validS l)) W)) := fun W hW => RSValid_c W vl l (hl.below hW)
  have hNa : Hid (∀ W, Below w.heap.size w W → Calls Tryd.prog 15 #[.string s] W (Calm (.bool (nameB s)) W)) := fun W hW => (Name_c W s (hK.below hW) hs).mono fun _ _ h => calm_same h
  have hRNa : Hid (∀ W, Below w.heap.size w W → Calls Tryd.prog 16 #[.string s] W (Calm (.bool (nameB s)) W)) := fun W hW => RName_c W s hs
  have hFi : Hid (∀ W, Below w.heap.size w W → Calls Tryd.prog 17 #[vl, .string s] W (Calm (.int .i64 (findI l s)) W)) := fun W hW => (Find_c W vl l s (hl.below hW)).mono fun _ _ h => calm_same h
  have hRFi : Hid (∀ W, Below w.heap.size w W → Calls Tryd.prog 18 #[vl, .string s] W (Calm (.int .i64 (findI l s)) W)) := fun W hW => (RFind_c W vl l s (hl.below hW)).mono fun _ _ h => calm_same h
  have hLe : Hid (∀ W, Below w.heap.size w W → Calls Tryd.prog 19 #[vl] W (Calm (.int .i64 (lettersI l)) W)) := fun W hW => Letters_c W vl l (hK.below hW) (hl.below hW)
  have hRLe : Hid (∀ W, Below w.heap.size w W → Calls Tryd.prog 20 #[vl] W (Calm (.int .i64 (lettersI l)) W)) := fun W hW => RLetters_c W vl l (hl.below hW)
  have hIn : Hid (∀ W, Below w.heap.size w W → Calls Tryd.prog 21 #[vl] W (Calm (.int .i64 (inputsI l)) W)) := fun W hW => Inputs_c W vl l (hK.below hW) (hl.below hW)
  have hRIn : Hid (∀ W, Below w.heap.size w W → Calls Tryd.prog 22 #[vl] W (Calm (.int .i64 (inputsI l)) W)) := fun W hW => RInputs_c W vl l (hl.below hW)
  have hOu : Hid (∀ W, Below w.heap.size w W → Calls Tryd.prog 23 #[vl] W (Calm (.int .i64 (outputsI l)) W)) := fun W hW => Outputs_c W vl l (hK.below hW) (hl.below hW)
  have hROu : Hid (∀ W, Below w.heap.size w W → Calls Tryd.prog 24 #[vl] W (Calm (.int .i64 (outputsI l)) W)) := fun W hW => ROutputs_c W vl l (hl.below hW)
  have hV : Hid (∀ W, Below w.heap.size w W → Calls Tryd.prog 25 #[vl, .int .i64 a, .int .i64 i] W (Calm (.int .i64 (valueI l a i)) W)) := fun W hW => Value_c W vl l a i ha hi (hK.below hW) (hl.below hW)
  have hRV : Hid (∀ W, Below w.heap.size w W → Calls Tryd.prog 26 #[vl, .int .i64 a, .int .i64 i] W (Calm (.int .i64 (valueI l a i)) W)) := fun W hW => RValue_c W vl l a i ha hi (hl.below hW)
  have hI : Hid (∀ W, Below w.heap.size w W → Calls Tryd.prog 27 #[vl, .int .i64 a] W (Calm (.int .i64 (halfI l true a)) W)) := fun W hW => SIn_c W vl l a ha (hK.below hW) (hl.below hW)
  have hRI : Hid (∀ W, Below w.heap.size w W → Calls Tryd.prog 28 #[vl, .int .i64 a] W (Calm (.int .i64 (halfI l true a)) W)) := fun W hW => RInput_c W vl l a ha (hl.below hW)
  have hO : Hid (∀ W, Below w.heap.size w W → Calls Tryd.prog 29 #[vl, .int .i64 a] W (Calm (.int .i64 (halfI l false a)) W)) := fun W hW => SOut_c W vl l a ha (hK.below hW) (hl.below hW)
  have hRO : Hid (∀ W, Below w.heap.size w W → Calls Tryd.prog 30 #[vl, .int .i64 a] W (Calm (.int .i64 (halfI l false a)) W)) := fun W hW => ROutput_c W vl l a ha (hl.below hW)
  have hJ : Hid (∀ W, Below w.heap.size w W → Calls Tryd.prog 31 #[vl, .int .i64 p, .int .i64 o] W (Calm (.int .i64 (joinI l p o)) W)) := fun W hW => Join_c W vl l p o hp ho (hK.below hW) (hl.below hW)
  have hRJ : Hid (∀ W, Below w.heap.size w W → Calls Tryd.prog 32 #[vl, .int .i64 p, .int .i64 o] W (Calm (.int .i64 (joinI l p o)) W)) := fun W hW => RJoin_c W vl l p o hp ho (hl.below hW)
  obtain ⟨ao, cap, b, off, rfl, hl⟩ := hl
  obtain ⟨⟨av, cv, bv, ov, rfl, hvv⟩, -⟩ := hvv
  have hnv := hvv.nb
  have hs9 : s.size ≤ 140737488351232 := hs
  clear hl hvv hK ha hi hp ho hs
  generalize smallS l = sm at *
  generalize mkR l vals = mr at *
  generalize validS l = vd at *
  generalize nameB s = nb at *
  generalize findI l s = fi at *
  generalize lettersI l = le at *
  generalize inputsI l = ni at *
  generalize outputsI l = no at *
  generalize valueI l a i = va at *
  generalize halfI l true a = hin at *
  generalize halfI l false a = hou at *
  generalize joinI l p o = jo at *
  obtain ⟨mx, mb⟩ := mr
  have hB : Below w.heap.size w w := Below.refl _ _
  cases sm
  · go_enter Tryd.func3, Tryd.ntmps3
    go_wp2_with fail
    refine hHead.out.mono ?_
    rintro e w1 ⟨rfl, hB⟩
    (go_wp2_with fail); (refine (hSm.out _ hB).mono ?_); (rintro e w2 ⟨rfl, hb⟩); (replace hB := bel_step hB hb); (clear hb)
    go_wp2
    go_ret
    exact ⟨rfl, hB⟩
  by_cases h20 : (20 : Int) < vals.length
  · go_enter Tryd.func3, Tryd.ntmps3
    go_wp2_with fail
    refine hHead.out.mono ?_
    rintro e w1 ⟨rfl, hB⟩
    (go_wp2_with fail); (refine (hSm.out _ hB).mono ?_); (rintro e w2 ⟨rfl, hb⟩); (replace hB := bel_step hB hb); (clear hb)
    go_wp2
    go_ret
    exact ⟨rfl, hB⟩
  by_cases h100 : (100 : Int) < s.size
  · go_enter Tryd.func3, Tryd.ntmps3
    go_wp2_with fail
    refine hHead.out.mono ?_
    rintro e w1 ⟨rfl, hB⟩
    (go_wp2_with fail); (refine (hSm.out _ hB).mono ?_); (rintro e w2 ⟨rfl, hb⟩); (replace hB := bel_step hB hb); (clear hb)
    go_wp2
    go_ret
    exact ⟨rfl, hB⟩
  go_enter Tryd.func3, Tryd.ntmps3
  go_wp2_with fail
  refine hHead.out.mono ?_
  rintro e w1 ⟨rfl, hB⟩
  (go_wp2_with fail); (refine (hSm.out _ hB).mono ?_); (rintro e w2 ⟨rfl, hb⟩); (replace hB := bel_step hB hb); (clear hb)
  (go_wp2_with fail); (refine (hMk.out _ hB).mono ?_); (rintro e w3 ⟨rfl, hb⟩); (replace hB := bel_step hB hb); (clear hb)
  (go_wp2_with fail); (refine (hRMk.out _ hB).mono ?_); (rintro e w4 ⟨rfl, hb⟩); (replace hB := bel_step hB hb); (clear hb)
  (go_wp2_with fail); (refine (hVa.out _ hB).mono ?_); (rintro e w5 ⟨rfl, hb⟩); (replace hB := bel_step hB hb); (clear hb)
  (go_wp2_with fail); (refine (hRVa.out _ hB).mono ?_); (rintro e w6 ⟨rfl, hb⟩); (replace hB := bel_step hB hb); (clear hb)
  (go_wp2_with fail); (refine (hNa.out _ hB).mono ?_); (rintro e w7 ⟨rfl, hb⟩); (replace hB := bel_step hB hb); (clear hb)
  (go_wp2_with fail); (refine (hRNa.out _ hB).mono ?_); (rintro e w8 ⟨rfl, hb⟩); (replace hB := bel_step hB hb); (clear hb)
  (go_wp2_with fail); (refine (hFi.out _ hB).mono ?_); (rintro e w9 ⟨rfl, hb⟩); (replace hB := bel_step hB hb); (clear hb)
  (go_wp2_with fail); (refine (hRFi.out _ hB).mono ?_); (rintro e w10 ⟨rfl, hb⟩); (replace hB := bel_step hB hb); (clear hb)
  (go_wp2_with fail); (refine (hLe.out _ hB).mono ?_); (rintro e w11 ⟨rfl, hb⟩); (replace hB := bel_step hB hb); (clear hb)
  (go_wp2_with fail); (refine (hRLe.out _ hB).mono ?_); (rintro e w12 ⟨rfl, hb⟩); (replace hB := bel_step hB hb); (clear hb)
  (go_wp2_with fail); (refine (hIn.out _ hB).mono ?_); (rintro e w13 ⟨rfl, hb⟩); (replace hB := bel_step hB hb); (clear hb)
  (go_wp2_with fail); (refine (hRIn.out _ hB).mono ?_); (rintro e w14 ⟨rfl, hb⟩); (replace hB := bel_step hB hb); (clear hb)
  (go_wp2_with fail); (refine (hOu.out _ hB).mono ?_); (rintro e w15 ⟨rfl, hb⟩); (replace hB := bel_step hB hb); (clear hb)
  (go_wp2_with fail); (refine (hROu.out _ hB).mono ?_); (rintro e w16 ⟨rfl, hb⟩); (replace hB := bel_step hB hb); (clear hb)
  (go_wp2_with fail); (refine (hV.out _ hB).mono ?_); (rintro e w17 ⟨rfl, hb⟩); (replace hB := bel_step hB hb); (clear hb)
  (go_wp2_with fail); (refine (hRV.out _ hB).mono ?_); (rintro e w18 ⟨rfl, hb⟩); (replace hB := bel_step hB hb); (clear hb)
  (go_wp2_with fail); (refine (hI.out _ hB).mono ?_); (rintro e w19 ⟨rfl, hb⟩); (replace hB := bel_step hB hb); (clear hb)
  (go_wp2_with fail); (refine (hRI.out _ hB).mono ?_); (rintro e w20 ⟨rfl, hb⟩); (replace hB := bel_step hB hb); (clear hb)
  (go_wp2_with fail); (refine (hO.out _ hB).mono ?_); (rintro e w21 ⟨rfl, hb⟩); (replace hB := bel_step hB hb); (clear hb)
  (go_wp2_with fail); (refine (hRO.out _ hB).mono ?_); (rintro e w22 ⟨rfl, hb⟩); (replace hB := bel_step hB hb); (clear hb)
  (go_wp2_with fail); (refine (hJ.out _ hB).mono ?_); (rintro e w23 ⟨rfl, hb⟩); (replace hB := bel_step hB hb); (clear hb)
  (go_wp2_with fail); (refine (hRJ.out _ hB).mono ?_); (rintro e w24 ⟨rfl, hb⟩); (replace hB := bel_step hB hb); (clear hb)
  go_wp2
  go_ret
  exact ⟨rfl, hB⟩

end Go.Proofs.YtlfackilmpnlhaaDoor
