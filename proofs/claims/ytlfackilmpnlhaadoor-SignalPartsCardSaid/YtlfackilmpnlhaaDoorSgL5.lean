/- The walk of SignalOrder. -/
import Derived.Test.YtlfackilmpnlhaaDoorSgL4
namespace Go.Proofs.YtlfackilmpnlhaaDoor
open Go.RowKit

set_option maxRecDepth 100000 in
set_option maxHeartbeats 4000000 in
theorem SL5_walk (w : World) (vl : Value) (l : List Sig) (ra rb : Int) (hK : Keys w) (hl : IsSigs w vl l) (hra : 0 ≤ ra ∧ ra ≤ 255) (hrb : 0 ≤ rb ∧ rb ≤ 255) :
    Calls Tryd.prog 7 #[vl, .int .u8 ra, .int .u8 rb] w (Calm (.bool true) w) := by
  have hHead := Lib.hid (head_c w hK)
  have hSm : Hid (∀ W, Below w.heap.size w W → Calls Tryd.prog 10 #[vl] W (Calm (.bool (smallS l)) W)) := fun W hW => (Small_c W vl l (hl.below hW)).mono fun _ _ h => calm_same h
  have hVa : Hid (∀ W, Below w.heap.size w W → Calls Tryd.prog 13 #[vl] W (Calm (.bool (validS l)) W)) := fun W hW => (SValid_c W vl l (hK.below hW) (hl.below hW)).mono fun _ _ h => h.calm
  have hLe : Hid (∀ W, Below w.heap.size w W → Calls Tryd.prog 19 #[vl] W (Calm (.int .i64 (lettersI l)) W)) := fun W hW => Letters_c W vl l (hK.below hW) (hl.below hW)
  have hI : Hid (∀ a, I64 a → ∀ W, Below w.heap.size w W → Calls Tryd.prog 27 #[vl, .int .i64 a] W (Calm (.int .i64 (halfI l true a)) W)) := fun a ha W hW => SIn_c W vl l a ha (hK.below hW) (hl.below hW)
  have hO : Hid (∀ a, I64 a → ∀ W, Below w.heap.size w W → Calls Tryd.prog 29 #[vl, .int .i64 a] W (Calm (.int .i64 (halfI l false a)) W)) := fun a ha W hW => SOut_c W vl l a ha (hK.below hW) (hl.below hW)
  have hMkV : Hid (∀ vs W v, Below w.heap.size w W → IsInts W v vs → Calls Tryd.prog 11 #[vl, v] W (MkPost (mkR l vs) W)) := fun vs W v hW hv => Make_c W vl v l vs (hK.below hW) (hl.below hW) hv
  have hVs : Hid (l.length ≤ 10 → ∀ a, I64 a → ∀ W, Below w.heap.size w W → Calls Tryd.prog 33 #[vl, .int .i64 a] W (NewI (valuesI l a) W)) := fun h10 a ha W hW => values_c W vl l a ha h10 (hK.below hW) (hl.below hW)
  obtain ⟨ao, cap, b, off, rfl, hl⟩ := hl
  have hn := hl.nb
  obtain ⟨hra0, hra1⟩ := hra
  obtain ⟨hrb0, hrb1⟩ := hrb
  clear hK
  generalize smallS l = sm at *
  cases sm
  · go_enter Tryd.func7, Tryd.ntmps7
    go_wp2_with fail
    refine hHead.out.mono ?_
    rintro e w1 ⟨rfl, hB⟩
    (go_wp2_with fail); (refine (hSm.out _ hB).mono ?_); (rintro e w2 ⟨rfl, hb⟩); (replace hB := bel_step hB hb); (clear hb)
    go_wp2
    go_ret
    exact ⟨rfl, hB⟩
  cases hv : validS l
  · rw [hv] at hVa
    clear hv
    go_enter Tryd.func7, Tryd.ntmps7
    go_wp2_with fail
    refine hHead.out.mono ?_
    rintro e w1 ⟨rfl, hB⟩
    (go_wp2_with fail); (refine (hSm.out _ hB).mono ?_); (rintro e w2 ⟨rfl, hb⟩); (replace hB := bel_step hB hb); (clear hb)
    (go_wp2_with fail); (refine (hVa.out _ hB).mono ?_); (rintro e w3 ⟨rfl, hb⟩); (replace hB := bel_step hB hb); (clear hb)
    go_wp2
    go_ret
    exact ⟨rfl, hB⟩
  rw [hv] at hVa
  obtain ⟨hz, hl1, hl6, -⟩ := valid_sizes hv
  obtain ⟨hle0, hle1⟩ := letters_bd hv
  have hln0 : lettersI l ≠ 0 := by omega
  have ha0 := Int.emod_nonneg ra hln0
  have ha1 := Int.emod_lt_of_pos ra (show 0 < lettersI l by omega)
  have ht1 : ra.tmod (lettersI l) = ra % lettersI l := Int.tmod_eq_emod_of_nonneg hra0
  have hj0 := Int.emod_nonneg rb (show (l.length : Int) ≠ 0 by omega)
  have hj1 := Int.emod_lt_of_pos rb (show (0 : Int) < l.length by omega)
  have ht2 : rb.tmod (l.length : Int) = rb % (l.length : Int) := Int.tmod_eq_emod_of_nonneg hrb0
  obtain ⟨j, hj⟩ : ∃ j : Nat, rb % (l.length : Int) = (j : Int) := ⟨(rb % (l.length : Int)).toNat, (Int.toNat_of_nonneg hj0).symm⟩
  rw [hj] at ht2 hj1
  have hjl : j < l.length := by omega
  clear hj0 hj1 hj
  have hup := up_law hv ha0 ha1 hjl
  have hvb := value_bd l (ra % lettersI l) j
  have HVS := Lib.hid (hVs.out (by omega) (ra % lettersI l) (i64_small ha0 (by omega)))
  have HLN := Lib.hid (values_len l (ra % lettersI l))
  have HBD := Lib.hid (values_bd l (ra % lettersI l))
  have hvj := values_get l (ra % lettersI l) j hjl
  have hI1 := Lib.hid (hI.out (ra % lettersI l) (i64_small ha0 (by omega)))
  have hO1 := Lib.hid (hO.out (ra % lettersI l) (i64_small ha0 (by omega)))
  have hz1 : (lettersI l == 0) = false := by simp; omega
  have hz2 : ¬ lettersI l = 0 := hln0
  have hz3 : ((l.length : Int) == 0) = false := beq_eq_false_iff_ne.2 (by omega)
  have hz4 : ¬ (l.length : Int) = 0 := by omega
  have c1 := hl.ni j hjl
  have c2 := hl.nz j hjl
  obtain rfl := hl.ad (by omega)
  have HVJ := Lib.hid hvj
  have HUP := Lib.hid hup
  clear hz hv hln0 hVs hvj hup hl
  obtain ⟨hvb0, hvb1⟩ := hvb
  generalize hvs : valuesI l (ra % lettersI l) = vs at *
  clear hvs
  generalize valueI l (ra % lettersI l) j = vj at *
  generalize ra % lettersI l = a at *
  generalize lettersI l = le at *
  generalize l[j].size = z at *
  have HC1 := Lib.hid c1
  have HC2 := Lib.hid c2
  clear c1 c2
  go_enter Tryd.func7, Tryd.ntmps7
  go_wp2_with fail
  refine hHead.out.mono ?_
  rintro e w1 ⟨rfl, hB⟩
  (go_wp2_with fail); (refine (hSm.out _ hB).mono ?_); (rintro e w2 ⟨rfl, hb⟩); (replace hB := bel_step hB hb); (clear hb)
  (go_wp2_with fail); (refine (hVa.out _ hB).mono ?_); (rintro e w3 ⟨rfl, hb⟩); (replace hB := bel_step hB hb); (clear hb)
  (go_wp2_with fail); (refine (hLe.out _ hB).mono ?_); (rintro e w4 ⟨rfl, hb⟩); (replace hB := bel_step hB hb); (clear hb)
  go_wp2_with fail
  refine (HVS.out _ hB).mono ?_
  rintro e x1 ⟨v, rfl, hOv, hb⟩
  obtain ⟨g, cv, rfl, hg1, hg2⟩ := hOv.row (by rw [HLN.out]; omega)
  have hjv : j < vs.length := by rw [HLN.out]; exact hjl
  have hgw : w.heap.size ≤ g := Nat.le_trans hB.size hg1
  replace hB := bel_step hB hb
  have q1 := hOv.at' rfl j hjv
  have f1 := hOv.fz rfl j
  have hvv : vs[j] = vj := by rw [← HVJ.out, getD_lt _ _ _ hjv]
  rw [hvv] at q1
  have hnv : vs.length ≤ 140737488351232 := by rw [HLN.out]; omega
  have hOs := hOv.set rfl j (vj + 1)
  have hUV : vs.set j (vj + 1) = upV vs j := by rw [upV, HVJ.out]
  rw [hUV] at hOs
  have HOS := Lib.hid hOs
  have HLU : Hid ((upV vs j).length = l.length) := by show _ = _; rw [upV, List.length_set, HLN.out]
  have hIs : IsInts (x1.setCell ⟨g, j, none⟩ (.int .i64 (vj + 1))) (.slice (some ⟨g, 0, none⟩) vs.length cv) (upV vs j) := HOS.out.is (by rw [HLU.out]; unfold maxN; omega) (fun x hx => by
    rcases List.mem_or_eq_of_mem_set hx with h | h
    · have := HBD.out x h; unfold I64; omega
    · rw [HVJ.out] at h; unfold I64; omega)
  have HIS := Lib.hid hIs
  have hB2 : Below w.heap.size w (x1.setCell ⟨g, j, none⟩ (.int .i64 (vj + 1))) := hB.setCell (p := ⟨g, j, none⟩) hgw _
  have HMK := Lib.hid (hMkV.out (upV vs j) _ _ hB2 hIs)
  have q2 : (x1.setCell ⟨g, j, none⟩ (.int .i64 (vj + 1))).cell? ⟨g, j, none⟩ = some (.int .i64 (vj + 1)) := World.cell?_setCell_same' _ _ _ (by rw [q1]; rfl)
  have HQ2 := Lib.hid q2
  have HB2 := Lib.hid hB2
  clear hOv hOs hIs hvv hUV hb hB2 q2
  rcases HUP.out with ⟨hr, hz⟩ | ⟨c, hr, hc0, hc1, hc2, hc3⟩
  · rw [hr] at HMK
    have hq : ((vj + 1 : Int) == z) = true := by simp [hz]
    clear hr hz HUP
    go_wp2_with fail
    refine HMK.out.mono ?_
    rintro e x2 ⟨rfl, hb⟩
    have c2 := cellB (bel_step HB2.out hb) HC2.out
    have q3 := cellB hb HQ2.out
    have hB3 := bel_step HB2.out hb
    clear hb
    go_wp2
    go_quiet (fail)
    go_wp2
    go_ret
    exact ⟨rfl, belD hB3 _⟩
  · rw [hr] at HMK
    have hI2 := Lib.hid (hI.out c (i64_small (by omega) (by omega)))
    have hO2 := Lib.hid (hO.out c (i64_small (by omega) (by omega)))
    clear hr HUP
    cases hp : l[j].inp <;> rw [hp] at hc2 hc3 HC1 <;> simp only [Bool.not_true, Bool.not_false] at hc2 hc3 <;> clear hp
    all_goals
      have hq := beq_iff_eq.2 hc3
      clear hc3
      generalize halfI l true a = fa at *
      generalize halfI l false a = ga at *
      generalize halfI l true c = fc at *
      generalize halfI l false c = gc at *
      go_wp2_with fail
      refine HMK.out.mono ?_
      rintro e x2 ⟨rfl, hb⟩
      have c1 := cellB (bel_step HB2.out hb) HC1.out
      have hB := bel_step HB2.out hb
      clear hb
      first
      | ((go_wp2_with fail); (refine (hI2.out _ hB).mono ?_); (rintro e x3 ⟨rfl, hb⟩); (replace hB := bel_step hB hb); (clear hb)
         (go_wp2_with fail); (refine (hI1.out _ hB).mono ?_); (rintro e x4 ⟨rfl, hb⟩); (replace hB := bel_step hB hb); (clear hb)
         (go_wp2_with fail); (refine (hO2.out _ hB).mono ?_); (rintro e x5 ⟨rfl, hb⟩); (replace hB := bel_step hB hb); (clear hb)
         (go_wp2_with fail); (refine (hO1.out _ hB).mono ?_); (rintro e x6 ⟨rfl, hb⟩); (replace hB := bel_step hB hb); (clear hb)
         go_wp2
         go_ret
         exact ⟨rfl, hB⟩)
      | ((go_wp2_with fail); (refine (hO2.out _ hB).mono ?_); (rintro e x3 ⟨rfl, hb⟩); (replace hB := bel_step hB hb); (clear hb)
         (go_wp2_with fail); (refine (hO1.out _ hB).mono ?_); (rintro e x4 ⟨rfl, hb⟩); (replace hB := bel_step hB hb); (clear hb)
         (go_wp2_with fail); (refine (hI2.out _ hB).mono ?_); (rintro e x5 ⟨rfl, hb⟩); (replace hB := bel_step hB hb); (clear hb)
         (go_wp2_with fail); (refine (hI1.out _ hB).mono ?_); (rintro e x6 ⟨rfl, hb⟩); (replace hB := bel_step hB hb); (clear hb)
         go_wp2
         go_ret
         exact ⟨rfl, hB⟩)

end Go.Proofs.YtlfackilmpnlhaaDoor
