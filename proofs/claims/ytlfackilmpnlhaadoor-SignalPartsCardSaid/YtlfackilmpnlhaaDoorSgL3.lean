/- The walk of SignalValues. -/
import Derived.Test.YtlfackilmpnlhaaDoorSgL2
namespace Go.Proofs.YtlfackilmpnlhaaDoor
open Go.RowKit

set_option maxRecDepth 100000 in
set_option maxHeartbeats 4000000 in
theorem SL3_walk (w : World) (vl vv : Value) (l : List Sig) (vals : List Int) (hK : Keys w) (hl : IsSigs w vl l) (hvv : IsInts w vv vals) :
    Calls Tryd.prog 5 #[vl, vv] w (Calm (.bool true) w) := by
  have hHead := Lib.hid (head_c w hK)
  have hSm : Hid (∀ W, Below w.heap.size w W → Calls Tryd.prog 10 #[vl] W (Calm (.bool (smallS l)) W)) := fun W hW => (Small_c W vl l (hl.below hW)).mono fun _ _ h => calm_same h
  have hVa : Hid (∀ W, Below w.heap.size w W → Calls Tryd.prog 13 #[vl] W (Calm (.bool (validS l)) W)) := fun W hW => (SValid_c W vl l (hK.below hW) (hl.below hW)).mono fun _ _ h => h.calm
  have hLe : Hid (∀ W, Below w.heap.size w W → Calls Tryd.prog 19 #[vl] W (Calm (.int .i64 (lettersI l)) W)) := fun W hW => Letters_c W vl l (hK.below hW) (hl.below hW)
  have hMkV : Hid (∀ vs W v, Below w.heap.size w W → IsInts W v vs → Calls Tryd.prog 11 #[vl, v] W (MkPost (mkR l vs) W)) := fun vs W v hW hv => Make_c W vl v l vs (hK.below hW) (hl.below hW) hv
  have hVs : Hid (l.length ≤ 10 → ∀ a, I64 a → ∀ W, Below w.heap.size w W → Calls Tryd.prog 33 #[vl, .int .i64 a] W (NewI (valuesI l a) W)) := fun h10 a ha W hW => values_c W vl l a ha h10 (hK.below hW) (hl.below hW)
  have HVV := Lib.hid hvv
  obtain ⟨ao, cap, b, off, rfl, hl⟩ := hl
  obtain ⟨⟨av, cv, bv, ov, rfl, hvv⟩, hvr⟩ := hvv
  have hn := hl.nb
  have hnv := hvv.nb
  have hMk1 : Hid (∀ W, Below w.heap.size w W → Calls Tryd.prog 11 #[.slice ao l.length cap, .slice av vals.length cv] W (MkPost (mkR l vals) W)) := fun W hW => hMkV.out vals W _ hW (HVV.out.below hW)
  clear hvv hvr hK
  generalize smallS l = sm at *
  cases sm
  · go_enter Tryd.func5, Tryd.ntmps5
    go_wp2_with fail
    refine hHead.out.mono ?_
    rintro e w1 ⟨rfl, hB⟩
    (go_wp2_with fail); (refine (hSm.out _ hB).mono ?_); (rintro e w2 ⟨rfl, hb⟩); (replace hB := bel_step hB hb); (clear hb)
    go_wp2
    go_ret
    exact ⟨rfl, hB⟩
  cases hv : validS l
  · have HV := Lib.hid hv
    clear hv
    go_enter Tryd.func5, Tryd.ntmps5
    go_wp2_with fail
    refine hHead.out.mono ?_
    rintro e w1 ⟨rfl, hB⟩
    (go_wp2_with fail); (refine (hSm.out _ hB).mono ?_); (rintro e w2 ⟨rfl, hb⟩); (replace hB := bel_step hB hb); (clear hb)
    rw [HV.out] at hVa
    (go_wp2_with fail); (refine (hVa.out _ hB).mono ?_); (rintro e w3 ⟨rfl, hb⟩); (replace hB := bel_step hB hb); (clear hb)
    go_wp2
    go_ret
    exact ⟨rfl, hB⟩
  rw [hv] at hVa
  obtain ⟨hz, hl1, hl6, -⟩ := valid_sizes hv
  have HZ := Lib.hid hz
  have HV := Lib.hid hv
  clear hz hv
  by_cases h20 : (20 : Int) < vals.length
  · go_enter Tryd.func5, Tryd.ntmps5
    go_wp2_with fail
    refine hHead.out.mono ?_
    rintro e w1 ⟨rfl, hB⟩
    (go_wp2_with fail); (refine (hSm.out _ hB).mono ?_); (rintro e w2 ⟨rfl, hb⟩); (replace hB := bel_step hB hb); (clear hb)
    (go_wp2_with fail); (refine (hVa.out _ hB).mono ?_); (rintro e w3 ⟨rfl, hb⟩); (replace hB := bel_step hB hb); (clear hb)
    go_wp2
    go_ret
    exact ⟨rfl, hB⟩
  obtain ⟨hle0, hle1⟩ := letters_bd HV.out
  have HVS : Hid (∀ a, I64 a → ∀ W, Below w.heap.size w W → Calls Tryd.prog 33 #[.slice ao l.length cap, .int .i64 a] W (NewI (valuesI l a) W)) := hVs.out (by omega)
  have HMV : Hid (∀ k : Nat, (k : Int) < lettersI l → mkR l (valuesI l (k : Int)) = ((k : Int), true)) := fun k hk => make_values HV.out (by omega) hk
  have HML := Lib.hid (make_law HV.out vals)
  clear hVs
  generalize lettersI l = le at *
  go_enter Tryd.func5, Tryd.ntmps5
  go_wp2_with fail
  refine hHead.out.mono ?_
  rintro e w1 ⟨rfl, hB⟩
  (go_wp2_with fail); (refine (hSm.out _ hB).mono ?_); (rintro e w2 ⟨rfl, hb⟩); (replace hB := bel_step hB hb); (clear hb)
  (go_wp2_with fail); (refine (hVa.out _ hB).mono ?_); (rintro e w3 ⟨rfl, hb⟩); (replace hB := bel_step hB hb); (clear hb)
  (go_wp2_with fail); (refine (hLe.out _ hB).mono ?_); (rintro e w4 ⟨rfl, hb⟩); (replace hB := bel_step hB hb); (clear hb)
  go_wp2
  go_loopg [7] le.toNat (fun gh vi wr => ∃ k : Nat, gh = le.toNat - k ∧ vi = .int .i64 k ∧ (k : Int) ≤ le ∧ Below w.heap.size w wr)
  case atStart => exact ⟨0, rfl, rfl, by omega, hB⟩
  case round =>
    clear hB
    obtain ⟨k, hgk, rfl, hk, hB⟩ := hrel
    have HG := Lib.hid hgk
    clear hgk
    by_cases hlt : (k : Int) < le
    · have hI6 : I64 (k : Int) := i64_small (by omega) (by omega)
      have HI6 := Lib.hid hI6
      have hMk : Hid (∀ W v, Below w.heap.size w W → IsInts W v (valuesI l (k : Int)) → Calls Tryd.prog 11 #[.slice ao l.length cap, v] W (MkPost ((k : Int), true) W)) := fun W v hW hv => by
        have := hMkV.out _ W v hW hv
        rwa [HMV.out k hlt] at this
      have HLN := Lib.hid (values_len l (k : Int))
      have HGT : Hid (∀ j (hj : j < l.length), 0 ≤ (valuesI l (k : Int)).getD j 0 ∧ (valuesI l (k : Int)).getD j 0 < l[j].size) := fun j hj => by rw [values_get l _ j hj]; exact value_lt HV.out _ j hj
      have HBD := Lib.hid (values_bd l (k : Int))
      have HVK := Lib.hid (HVS.out (k : Int) hI6)
      clear hI6
      generalize valuesI l (k : Int) = vs at *
      go_wp2_with fail
      refine (HVK.out _ hB).mono ?_
      rintro e x1 ⟨v, rfl, hO, hb⟩
      have hIs : IsInts x1 v vs := hO.is (by rw [HLN.out]; unfold maxN; omega) (fun x hx => by have := HBD.out x hx; unfold I64; omega)
      replace hB := bel_step hB hb
      clear hb hO
      go_wp2_with fail
      refine (hMk.out _ _ hB hIs).mono ?_
      rintro e x2 ⟨rfl, hb⟩
      have hIs2 := hIs.below hb
      replace hB := bel_step hB hb
      clear hb hIs
      obtain ⟨⟨a2, c2, b2, o2, rfl, hva⟩, -⟩ := hIs2
      have hnv2 := hva.nb
      go_wp2
      go_loopg [11] vs.length (fun gh vj wr => ∃ j m : Nat, gh = vs.length - j ∧ vj = .int .i64 j ∧ j ≤ vs.length ∧ wr = x2.drewN m)
      case atStart => exact ⟨0, 0, rfl, rfl, by omega, rfl⟩
      case round =>
        obtain ⟨j, m, hgj, rfl, hj, rfl⟩ := hrel
        have HGJ := Lib.hid hgj
        clear hgj
        by_cases hltj : j < vs.length
        · have hjl : j < l.length := by rw [← HLN.out]; exact hltj
          obtain rfl := hl.ad (by omega)
          obtain rfl := hva.ad (by omega)
          have c1 := hva.el j hltj
          have c3 := cellB hB (hl.nz j hjl)
          unfold ivF at c1
          obtain ⟨hg0, hg1⟩ := HGT.out j hjl
          generalize vs.getD j 0 = vj at *
          generalize l[j].size = z at *
          have d0 : decide (vj < 0) = false := decide_eq_false (by omega)
          have d1 : decide (z ≤ vj) = false := decide_eq_false (by omega)
          go_wp2
          go_quiet (fail)
          go_wp2
          go_roundg (vs.length - (j + 1))
          case measure => have := HGJ.out; omega
          case rel => exact ⟨j + 1, _, rfl, by go_num, by omega, rfl⟩
        · go_wp2
          go_roundg (le.toNat - (k + 1))
          case measure => have := HG.out; omega
          case rel => exact ⟨k + 1, rfl, by go_num, by omega, belD hB _⟩
    · clear HG
      rcases HML.out with ⟨hr2, hr1⟩ | ⟨hr2, hr0, hr1, hr3⟩
      · have hMk2 : Hid (∀ W, Below w.heap.size w W → Calls Tryd.prog 11 #[.slice ao l.length cap, .slice av vals.length cv] W (MkPost (0, false) W)) := fun W hW => by
          have := hMk1.out W hW
          rwa [show mkR l vals = (0, false) from Prod.ext hr1 hr2] at this
        clear HML hr1 hr2 hMk1
        (go_wp2_with fail); (refine (hMk2.out _ hB).mono ?_); (rintro e x1 ⟨rfl, hb⟩); (replace hB := bel_step hB hb); (clear hb)
        go_wp2
        go_ret
        exact ⟨rfl, hB⟩
      · obtain ⟨x, hx⟩ : ∃ x, (mkR l vals).1 = x := ⟨_, rfl⟩
        rw [hx] at hr0 hr1 hr3
        have hMk2 : Hid (∀ W, Below w.heap.size w W → Calls Tryd.prog 11 #[.slice ao l.length cap, .slice av vals.length cv] W (MkPost (x, true) W)) := fun W hW => by
          have := hMk1.out W hW
          rwa [show mkR l vals = (x, true) from Prod.ext hx hr2] at this
        have HVX := Lib.hid (HVS.out x (i64_small hr0 (by omega)))
        rw [hr3] at HVX
        have HBD : Hid (∀ y ∈ vals, 0 ≤ y ∧ y ≤ 3) := by rw [← hr3]; exact values_bd l x
        have HLN : Hid (vals.length = l.length) := by rw [← hr3]; exact values_len l x
        clear HML hr2 hMk1 hr3 hx
        (go_wp2_with fail); (refine (hMk2.out _ hB).mono ?_); (rintro e x1 ⟨rfl, hb⟩); (replace hB := bel_step hB hb); (clear hb)
        go_wp2_with fail
        refine (HVX.out _ hB).mono ?_
        rintro e x2 ⟨v, rfl, hO, hb⟩
        have hIs : IsInts x2 v vals := hO.is (by rw [HLN.out]; unfold maxN; omega) (fun x hx => by have := HBD.out x hx; unfold I64; omega)
        replace hB := bel_step hB hb
        clear hb hO
        have hC := Lib.hid ((Ints_c x2 v (.slice av vals.length cv) vals vals hIs (HVV.out.below hB)).mono fun _ _ h => h.calm)
        rw [decide_eq_true rfl] at hC
        go_wp2_with fail
        refine hC.out.mono ?_
        rintro e x3 ⟨rfl, hb⟩
        replace hB := bel_step hB hb
        go_wp2
        go_ret
        exact ⟨rfl, hB⟩

end Go.Proofs.YtlfackilmpnlhaaDoor
