/- The walk of SignalPairs. -/
import Derived.Test.YtlfackilmpnlhaaDoorSgL1
import Derived.Test.YtlfackilmpnlhaaDoorSgP3
namespace Go.Proofs.YtlfackilmpnlhaaDoor
open Go.RowKit

theorem i64_small {x : Int} (h0 : 0 ≤ x) (h1 : x ≤ 1000) : I64 x := by unfold I64; omega

set_option maxRecDepth 100000 in
set_option maxHeartbeats 4000000 in
theorem SL2_walk (w : World) (vl : Value) (l : List Sig) (hK : Keys w) (hl : IsSigs w vl l) :
    Calls Tryd.prog 4 #[vl] w (Calm (.bool true) w) := by
  have hHead := Lib.hid (head_c w hK)
  have hSm : Hid (∀ W, Below w.heap.size w W → Calls Tryd.prog 10 #[vl] W (Calm (.bool (smallS l)) W)) := fun W hW => (Small_c W vl l (hl.below hW)).mono fun _ _ h => calm_same h
  have hVa : Hid (∀ W, Below w.heap.size w W → Calls Tryd.prog 13 #[vl] W (Calm (.bool (validS l)) W)) := fun W hW => (SValid_c W vl l (hK.below hW) (hl.below hW)).mono fun _ _ h => h.calm
  have hLe : Hid (∀ W, Below w.heap.size w W → Calls Tryd.prog 19 #[vl] W (Calm (.int .i64 (lettersI l)) W)) := fun W hW => Letters_c W vl l (hK.below hW) (hl.below hW)
  have hIn : Hid (∀ W, Below w.heap.size w W → Calls Tryd.prog 21 #[vl] W (Calm (.int .i64 (inputsI l)) W)) := fun W hW => Inputs_c W vl l (hK.below hW) (hl.below hW)
  have hOu : Hid (∀ W, Below w.heap.size w W → Calls Tryd.prog 23 #[vl] W (Calm (.int .i64 (outputsI l)) W)) := fun W hW => Outputs_c W vl l (hK.below hW) (hl.below hW)
  have hI : Hid (∀ a, I64 a → ∀ W, Below w.heap.size w W → Calls Tryd.prog 27 #[vl, .int .i64 a] W (Calm (.int .i64 (halfI l true a)) W)) := fun a ha W hW => SIn_c W vl l a ha (hK.below hW) (hl.below hW)
  have hO : Hid (∀ a, I64 a → ∀ W, Below w.heap.size w W → Calls Tryd.prog 29 #[vl, .int .i64 a] W (Calm (.int .i64 (halfI l false a)) W)) := fun a ha W hW => SOut_c W vl l a ha (hK.below hW) (hl.below hW)
  have hJ : Hid (∀ p o, I64 p → I64 o → ∀ W, Below w.heap.size w W → Calls Tryd.prog 31 #[vl, .int .i64 p, .int .i64 o] W (Calm (.int .i64 (joinI l p o)) W)) := fun p o hp ho W hW => Join_c W vl l p o hp ho (hK.below hW) (hl.below hW)
  have HM := Lib.hid (letters_mul l)
  have HLB : Hid (validS l = true → 2 ≤ lettersI l ∧ lettersI l ≤ 64) := fun h => letters_bd h
  have HSB : Hid (validS l = true → (1 ≤ inputsI l ∧ inputsI l ≤ 64) ∧ 1 ≤ outputsI l ∧ outputsI l ≤ 64) := fun h => sides_bd h
  have HHL : Hid (validS l = true → ∀ a, 0 ≤ a → a < lettersI l → (0 ≤ halfI l true a ∧ halfI l true a < inputsI l) ∧ (0 ≤ halfI l false a ∧ halfI l false a < outputsI l) ∧ joinI l (halfI l true a) (halfI l false a) = a) := fun h a h0 h1 => halves_law h h0 h1
  have HJL : Hid (validS l = true → ∀ i o, 0 ≤ i → i < inputsI l → 0 ≤ o → o < outputsI l → (0 ≤ joinI l i o ∧ joinI l i o < lettersI l) ∧ halfI l true (joinI l i o) = i ∧ halfI l false (joinI l i o) = o) := fun h i o h0 h1 h2 h3 => join_law h h0 h1 h2 h3
  obtain ⟨ao, cap, b, off, rfl, hl⟩ := hl
  clear hl hK
  generalize smallS l = sm at *
  generalize validS l = vd at *
  generalize lettersI l = le at *
  generalize inputsI l = ni at *
  generalize outputsI l = no at *
  generalize halfI l true = F at *
  generalize halfI l false = G at *
  generalize joinI l = J at *
  cases sm
  · go_enter Tryd.func4, Tryd.ntmps4
    go_wp2_with fail
    refine hHead.out.mono ?_
    rintro e w1 ⟨rfl, hB⟩
    (go_wp2_with fail); (refine (hSm.out _ hB).mono ?_); (rintro e w2 ⟨rfl, hb⟩); (replace hB := bel_step hB hb); (clear hb)
    go_wp2
    go_ret
    exact ⟨rfl, hB⟩
  cases vd
  · go_enter Tryd.func4, Tryd.ntmps4
    go_wp2_with fail
    refine hHead.out.mono ?_
    rintro e w1 ⟨rfl, hB⟩
    (go_wp2_with fail); (refine (hSm.out _ hB).mono ?_); (rintro e w2 ⟨rfl, hb⟩); (replace hB := bel_step hB hb); (clear hb)
    (go_wp2_with fail); (refine (hVa.out _ hB).mono ?_); (rintro e w3 ⟨rfl, hb⟩); (replace hB := bel_step hB hb); (clear hb)
    go_wp2
    go_ret
    exact ⟨rfl, hB⟩
  obtain ⟨hle0, hle1⟩ := HLB.out rfl
  obtain ⟨⟨hni0, hni1⟩, hno0, hno1⟩ := HSB.out rfl
  have HH : Hid (∀ a, 0 ≤ a → a < le → (0 ≤ F a ∧ F a < ni) ∧ (0 ≤ G a ∧ G a < no) ∧ J (F a) (G a) = a) := HHL.out rfl
  have HJ2 : Hid (∀ i o, 0 ≤ i → i < ni → 0 ≤ o → o < no → (0 ≤ J i o ∧ J i o < le) ∧ F (J i o) = i ∧ G (J i o) = o) := HJL.out rfl
  clear HHL HJL HLB HSB
  go_enter Tryd.func4, Tryd.ntmps4
  go_wp2_with fail
  refine hHead.out.mono ?_
  rintro e w1 ⟨rfl, hB⟩
  (go_wp2_with fail); (refine (hSm.out _ hB).mono ?_); (rintro e w2 ⟨rfl, hb⟩); (replace hB := bel_step hB hb); (clear hb)
  (go_wp2_with fail); (refine (hVa.out _ hB).mono ?_); (rintro e w3 ⟨rfl, hb⟩); (replace hB := bel_step hB hb); (clear hb)
  (go_wp2_with fail); (refine (hLe.out _ hB).mono ?_); (rintro e w4 ⟨rfl, hb⟩); (replace hB := bel_step hB hb); (clear hb)
  (go_wp2_with fail); (refine (hIn.out _ hB).mono ?_); (rintro e w5 ⟨rfl, hb⟩); (replace hB := bel_step hB hb); (clear hb)
  (go_wp2_with fail); (refine (hOu.out _ hB).mono ?_); (rintro e w6 ⟨rfl, hb⟩); (replace hB := bel_step hB hb); (clear hb)
  have hm := HM.out
  go_wp2
  clear hm HM
  go_loopg [5] le.toNat (fun gh vi wr => ∃ k : Nat, gh = le.toNat - k ∧ vi = .int .i64 k ∧ (k : Int) ≤ le ∧ Below w.heap.size w wr)
  case atStart => exact ⟨0, rfl, rfl, by omega, hB⟩
  case round =>
    clear hB
    obtain ⟨k, hgk, rfl, hk, hB⟩ := hrel
    have HG := Lib.hid hgk
    clear hgk
    by_cases hlt : (k : Int) < le
    · obtain ⟨⟨ha0, ha1⟩, ⟨hb0, hb1⟩, hab⟩ := HH.out k (by omega) hlt
      have hIk := Lib.hid (hI.out (k : Int) (i64_small (by omega) (by omega)))
      have hOk := Lib.hid (hO.out (k : Int) (i64_small (by omega) (by omega)))
      have hJk : Hid (∀ W, Below w.heap.size w W → Calls Tryd.prog 31 #[.slice ao l.length cap, .int .i64 (F k), .int .i64 (G k)] W (Calm (.int .i64 (k : Int)) W)) := fun W hW => by
        have := hJ.out (F k) (G k) (i64_small ha0 (by omega)) (i64_small hb0 (by omega)) W hW
        rwa [hab] at this
      clear hab
      generalize F k = fk at *
      generalize G k = gk at *
      (go_wp2_with fail); (refine (hIk.out _ hB).mono ?_); (rintro e x1 ⟨rfl, hb⟩); (replace hB := bel_step hB hb); (clear hb)
      (go_wp2_with fail); (refine (hOk.out _ hB).mono ?_); (rintro e x2 ⟨rfl, hb⟩); (replace hB := bel_step hB hb); (clear hb)
      (go_wp2_with fail); (refine (hIn.out _ hB).mono ?_); (rintro e x3 ⟨rfl, hb⟩); (replace hB := bel_step hB hb); (clear hb)
      (go_wp2_with fail); (refine (hOu.out _ hB).mono ?_); (rintro e x4 ⟨rfl, hb⟩); (replace hB := bel_step hB hb); (clear hb)
      (go_wp2_with fail); (refine (hJk.out _ hB).mono ?_); (rintro e x5 ⟨rfl, hb⟩); (replace hB := bel_step hB hb); (clear hb)
      go_wp2
      go_roundg (le.toNat - (k + 1))
      case measure => have := HG.out; omega
      case rel => exact ⟨k + 1, rfl, by go_num, by omega, hB⟩
    · go_wp2
      clear HG hlt hk
      go_loopg [8] ni.toNat (fun gh vi wr => ∃ k : Nat, gh = ni.toNat - k ∧ vi = .int .i64 k ∧ (k : Int) ≤ ni ∧ Below w.heap.size w wr)
      case atStart => exact ⟨0, rfl, rfl, by omega, hB⟩
      case round =>
        clear hB
        obtain ⟨k, hgk, rfl, hk, hB⟩ := hrel
        have HG := Lib.hid hgk
        clear hgk
        by_cases hlt : (k : Int) < ni
        · (go_wp2_with fail); (refine (hIn.out _ hB).mono ?_); (rintro e x1 ⟨rfl, hb⟩); (replace hB := bel_step hB hb); (clear hb)
          go_wp2
          go_loopg [9] no.toNat (fun gh vi wr => ∃ j : Nat, gh = no.toNat - j ∧ vi = .int .i64 j ∧ (j : Int) ≤ no ∧ Below w.heap.size w wr)
          case atStart => exact ⟨0, rfl, rfl, by omega, hB⟩
          case round =>
            clear hB
            obtain ⟨j, hgj, rfl, hj, hB⟩ := hrel
            have HGJ := Lib.hid hgj
            clear hgj
            by_cases hltj : (j : Int) < no
            · obtain ⟨⟨ha0, ha1⟩, hfa, hga⟩ := HJ2.out k j (by omega) hlt (by omega) hltj
              have hJk := Lib.hid (hJ.out (k : Int) (j : Int) (i64_small (by omega) (by omega)) (i64_small (by omega) (by omega)))
              have hIk := hI.out (J k j) (i64_small ha0 (by omega))
              have hOk := hO.out (J k j) (i64_small ha0 (by omega))
              rw [hfa] at hIk
              rw [hga] at hOk
              have HIK := Lib.hid hIk
              have HOK := Lib.hid hOk
              clear hIk hOk hfa hga
              generalize J k j = a at *
              have hj64 : (j : Int) < 64 := by omega
              (go_wp2_with fail); (refine (hOu.out _ hB).mono ?_); (rintro e x2 ⟨rfl, hb⟩); (replace hB := bel_step hB hb); (clear hb)
              (go_wp2_with fail); (refine (hJk.out _ hB).mono ?_); (rintro e x3 ⟨rfl, hb⟩); (replace hB := bel_step hB hb); (clear hb)
              (go_wp2_with fail); (refine (HIK.out _ hB).mono ?_); (rintro e x4 ⟨rfl, hb⟩); (replace hB := bel_step hB hb); (clear hb)
              (go_wp2_with fail); (refine (HOK.out _ hB).mono ?_); (rintro e x5 ⟨rfl, hb⟩); (replace hB := bel_step hB hb); (clear hb)
              go_wp2
              go_roundg (no.toNat - (j + 1))
              case measure => have := HGJ.out; omega
              case rel => exact ⟨j + 1, rfl, by go_num, by omega, hB⟩
            · (go_wp2_with fail); (refine (hOu.out _ hB).mono ?_); (rintro e x2 ⟨rfl, hb⟩); (replace hB := bel_step hB hb); (clear hb)
              go_wp2
              go_roundg (ni.toNat - (k + 1))
              case measure => have := HG.out; omega
              case rel => exact ⟨k + 1, rfl, by go_num, by omega, hB⟩
        · (go_wp2_with fail); (refine (hIn.out _ hB).mono ?_); (rintro e x1 ⟨rfl, hb⟩); (replace hB := bel_step hB hb); (clear hb)
          go_wp2
          go_ret
          exact ⟨rfl, hB⟩

end Go.Proofs.YtlfackilmpnlhaaDoor
