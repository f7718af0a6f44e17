/- The walk of SignalHalves. -/
import Derived.Test.YtlfackilmpnlhaaDoorSgL3
namespace Go.Proofs.YtlfackilmpnlhaaDoor
open Go.RowKit

set_option maxRecDepth 100000 in
set_option maxHeartbeats 4000000 in
theorem SL4_walk (w : World) (vl : Value) (l : List Sig) (ra rb : Int) (hK : Keys w) (hl : IsSigs w vl l) (hra : 0 ≤ ra ∧ ra ≤ 255) (hrb : 0 ≤ rb ∧ rb ≤ 255) :
    Calls Tryd.prog 6 #[vl, .int .u8 ra, .int .u8 rb] w (Calm (.bool true) w) := by
  have hHead := Lib.hid (head_c w hK)
  have hSm : Hid (∀ W, Below w.heap.size w W → Calls Tryd.prog 10 #[vl] W (Calm (.bool (smallS l)) W)) := fun W hW => (Small_c W vl l (hl.below hW)).mono fun _ _ h => calm_same h
  have hVa : Hid (∀ W, Below w.heap.size w W → Calls Tryd.prog 13 #[vl] W (Calm (.bool (validS l)) W)) := fun W hW => (SValid_c W vl l (hK.below hW) (hl.below hW)).mono fun _ _ h => h.calm
  have hLe : Hid (∀ W, Below w.heap.size w W → Calls Tryd.prog 19 #[vl] W (Calm (.int .i64 (lettersI l)) W)) := fun W hW => Letters_c W vl l (hK.below hW) (hl.below hW)
  have hV : Hid (∀ a i, I64 a → I64 i → ∀ W, Below w.heap.size w W → Calls Tryd.prog 25 #[vl, .int .i64 a, .int .i64 i] W (Calm (.int .i64 (valueI l a i)) W)) := fun a i ha hi W hW => Value_c W vl l a i ha hi (hK.below hW) (hl.below hW)
  have hI : Hid (∀ a, I64 a → ∀ W, Below w.heap.size w W → Calls Tryd.prog 27 #[vl, .int .i64 a] W (Calm (.int .i64 (halfI l true a)) W)) := fun a ha W hW => SIn_c W vl l a ha (hK.below hW) (hl.below hW)
  have hO : Hid (∀ a, I64 a → ∀ W, Below w.heap.size w W → Calls Tryd.prog 29 #[vl, .int .i64 a] W (Calm (.int .i64 (halfI l false a)) W)) := fun a ha W hW => SOut_c W vl l a ha (hK.below hW) (hl.below hW)
  obtain ⟨ao, cap, b, off, rfl, hl⟩ := hl
  have hn := hl.nb
  obtain ⟨hra0, hra1⟩ := hra
  obtain ⟨hrb0, hrb1⟩ := hrb
  clear hK
  generalize smallS l = sm at *
  cases sm
  · go_enter Tryd.func6, Tryd.ntmps6
    go_wp2_with fail
    refine hHead.out.mono ?_
    rintro e w1 ⟨rfl, hB⟩
    (go_wp2_with fail); (refine (hSm.out _ hB).mono ?_); (rintro e w2 ⟨rfl, hb⟩); (replace hB := bel_step hB hb); (clear hb)
    go_wp2
    go_ret
    exact ⟨rfl, hB⟩
  cases hv : validS l
  · rw [hv] at hVa
    clear hv
    go_enter Tryd.func6, Tryd.ntmps6
    go_wp2_with fail
    refine hHead.out.mono ?_
    rintro e w1 ⟨rfl, hB⟩
    (go_wp2_with fail); (refine (hSm.out _ hB).mono ?_); (rintro e w2 ⟨rfl, hb⟩); (replace hB := bel_step hB hb); (clear hb)
    (go_wp2_with fail); (refine (hVa.out _ hB).mono ?_); (rintro e w3 ⟨rfl, hb⟩); (replace hB := bel_step hB hb); (clear hb)
    go_wp2
    go_ret
    exact ⟨rfl, hB⟩
  rw [hv] at hVa
  obtain ⟨hz, hl1, hl6, -⟩ := valid_sizes hv
  obtain ⟨hle0, hle1⟩ := letters_bd hv
  have hln0 : lettersI l ≠ 0 := by omega
  have ha0 := Int.emod_nonneg ra hln0
  have ha1 := Int.emod_lt_of_pos ra (show 0 < lettersI l by omega)
  have hb0 := Int.emod_nonneg rb hln0
  have hb1 := Int.emod_lt_of_pos rb (show 0 < lettersI l by omega)
  have ht1 : ra.tmod (lettersI l) = ra % lettersI l := Int.tmod_eq_emod_of_nonneg hra0
  have ht2 : rb.tmod (lettersI l) = rb % lettersI l := Int.tmod_eq_emod_of_nonneg hrb0
  have HS : Hid (∀ q k (hk : k < l.length), sameB l q (ra % lettersI l) (rb % lettersI l) (k + 1) = (sameB l q (ra % lettersI l) (rb % lettersI l) k && (!(l[k].inp == q) || (valueI l (ra % lettersI l) k == valueI l (rb % lettersI l) k)))) := fun q k hk => sameB_succ l q _ _ k hk
  have HET : Hid (sameB l true (ra % lettersI l) (rb % lettersI l) l.length = (halfI l true (ra % lettersI l) == halfI l true (rb % lettersI l))) := same_law hv true ha0 ha1 hb0 hb1
  have HEF : Hid (sameB l false (ra % lettersI l) (rb % lettersI l) l.length = (halfI l false (ra % lettersI l) == halfI l false (rb % lettersI l))) := same_law hv false ha0 ha1 hb0 hb1
  have H00 : Hid (∀ q, sameB l q (ra % lettersI l) (rb % lettersI l) 0 = true) := fun q => rfl
  have hI1 := Lib.hid (hI.out (ra % lettersI l) (i64_small ha0 (by omega)))
  have hI2 := Lib.hid (hI.out (rb % lettersI l) (i64_small hb0 (by omega)))
  have hO1 := Lib.hid (hO.out (ra % lettersI l) (i64_small ha0 (by omega)))
  have hO2 := Lib.hid (hO.out (rb % lettersI l) (i64_small hb0 (by omega)))
  have hV1 : Hid (∀ k : Nat, k < l.length → ∀ W, Below w.heap.size w W → Calls Tryd.prog 25 #[.slice ao l.length cap, .int .i64 (ra % lettersI l), .int .i64 (k : Int)] W (Calm (.int .i64 (valueI l (ra % lettersI l) k)) W)) := fun k hk => hV.out _ _ (i64_small ha0 (by omega)) (i64_small (by omega) (by omega))
  have hV2 : Hid (∀ k : Nat, k < l.length → ∀ W, Below w.heap.size w W → Calls Tryd.prog 25 #[.slice ao l.length cap, .int .i64 (rb % lettersI l), .int .i64 (k : Int)] W (Calm (.int .i64 (valueI l (rb % lettersI l) k)) W)) := fun k hk => hV.out _ _ (i64_small hb0 (by omega)) (i64_small (by omega) (by omega))
  have hz1 : (lettersI l == 0) = false := by simp; omega
  have hz2 : ¬ lettersI l = 0 := hln0
  have HL := Lib.hid hl
  clear hz hv hI hO hV hln0 hl
  generalize halfI l true (ra % lettersI l) = fa at *
  generalize halfI l false (ra % lettersI l) = ga at *
  generalize halfI l true (rb % lettersI l) = fb at *
  generalize halfI l false (rb % lettersI l) = gb at *
  generalize ra % lettersI l = a at *
  generalize rb % lettersI l = c at *
  generalize lettersI l = le at *
  generalize hS : sameB l = S at *
  clear hS
  generalize hU : valueI l = U at *
  clear hU
  go_enter Tryd.func6, Tryd.ntmps6
  go_wp2_with fail
  refine hHead.out.mono ?_
  rintro e w1 ⟨rfl, hB⟩
  (go_wp2_with fail); (refine (hSm.out _ hB).mono ?_); (rintro e w2 ⟨rfl, hb⟩); (replace hB := bel_step hB hb); (clear hb)
  (go_wp2_with fail); (refine (hVa.out _ hB).mono ?_); (rintro e w3 ⟨rfl, hb⟩); (replace hB := bel_step hB hb); (clear hb)
  (go_wp2_with fail); (refine (hLe.out _ hB).mono ?_); (rintro e w4 ⟨rfl, hb⟩); (replace hB := bel_step hB hb); (clear hb)
  go_wp2
  go_loopg [11, 12, 13] l.length (fun gh v1 v2 vi wr => ∃ k : Nat, gh = l.length - k ∧ vi = .int .i64 k ∧ v1 = .bool (S true a c k) ∧ v2 = .bool (S false a c k) ∧ k ≤ l.length ∧ Below w.heap.size w wr)
  case atStart => exact ⟨0, rfl, rfl, by rw [H00.out], by rw [H00.out], by omega, hB⟩
  case round =>
    clear hB
    obtain ⟨k, hgk, rfl, rfl, rfl, hk, hB⟩ := hrel
    have HG := Lib.hid hgk
    clear hgk
    by_cases hlt : k < l.length
    · have c1 := HL.out.ni k hlt
      obtain rfl := HL.out.ad (by omega)
      have hV1k := Lib.hid (hV1.out k hlt)
      have hV2k := Lib.hid (hV2.out k hlt)
      have HSt := Lib.hid (HS.out true k hlt)
      have HSf := Lib.hid (HS.out false k hlt)
      obtain ⟨q, hq⟩ : ∃ q : Bool, (U a k == U c k) = q := ⟨_, rfl⟩
      rw [hq] at HSt HSf
      generalize U a k = ua at *
      generalize U c k = uc at *
      generalize S true a c k = s1 at *
      generalize S false a c k = s0 at *
      have HC := Lib.hid c1
      clear c1
      cases hp : l[k].inp <;> rw [hp] at HSt HSf HC <;> clear hp <;> cases s1 <;> cases s0 <;> cases q
      all_goals
        (go_wp2_with fail); (refine (hV1k.out _ hB).mono ?_); (rintro e x1 ⟨rfl, hb⟩); (replace hB := bel_step hB hb); (clear hb)
        (go_wp2_with fail); (refine (hV2k.out _ hB).mono ?_); (rintro e x2 ⟨rfl, hb⟩); (replace hB := bel_step hB hb); (clear hb)
        have c2 := cellB hB HC.out
        go_wp2
        go_roundg (l.length - (k + 1))
        case measure => have := HG.out; omega
        case rel => exact ⟨k + 1, rfl, by go_num, by rw [HSt.out]; rfl, by rw [HSf.out]; rfl, by omega, hB⟩
    · obtain rfl : k = l.length := by omega
      rw [HET.out, HEF.out]
      obtain ⟨p1, hp1⟩ : ∃ p : Bool, (fa == fb) = p := ⟨_, rfl⟩
      obtain ⟨p2, hp2⟩ : ∃ p : Bool, (ga == gb) = p := ⟨_, rfl⟩
      rw [hp1, hp2]
      cases p1 <;> cases p2
      all_goals
        (go_wp2_with fail); (refine (hI1.out _ hB).mono ?_); (rintro e x1 ⟨rfl, hb⟩); (replace hB := bel_step hB hb); (clear hb)
        (go_wp2_with fail); (refine (hI2.out _ hB).mono ?_); (rintro e x2 ⟨rfl, hb⟩); (replace hB := bel_step hB hb); (clear hb)
        (go_wp2_with fail); (refine (hO1.out _ hB).mono ?_); (rintro e x3 ⟨rfl, hb⟩); (replace hB := bel_step hB hb); (clear hb)
        (go_wp2_with fail); (refine (hO2.out _ hB).mono ?_); (rintro e x4 ⟨rfl, hb⟩); (replace hB := bel_step hB hb); (clear hb)
        go_wp2
        go_ret
        exact ⟨rfl, hB⟩

end Go.Proofs.YtlfackilmpnlhaaDoor
