/- The walk of SignalParts. -/
import Derived.Test.YtlfackilmpnlhaaDoorSgL5
import Derived.Test.YtlfackilmpnlhaaDoorSgP4
import Derived.Test.YtlfackilmpnlhaaDoorSgOS
import Derived.Deep.RegionLaw
import Derived.Deep.RegionHeld3
namespace Go.Proofs.YtlfackilmpnlhaaDoor
open Go.RowKit

theorem addr_add (b off k : Nat) : (⟨b, off, none⟩ : Addr).add k = ⟨b, off + k, none⟩ := by
  unfold Addr.add
  split
  · rename_i e; rw [e, Nat.add_zero]
  · rfl

theorem bel_dr {w4 W : World} (h : Below w4.heap.size w4 W) : Below w4.heap.size w4 W.drew := h.trans (Below.drew (Below.refl _ _))

/-- The cells of signals that lie from a place on. -/
theorem sigs_news {w : World} {ao : Option Addr} {cap b off : Nat} {l : List Sig} (hl : SArr w ao cap b off l) (i : Nat) (l2 : List Sig) (h2 : ∀ j, j < l2.length → l2[j]? = l[i + j]?) :
    ∀ k u, (cellsOfS l2)[k]? = some u → w.cell? ((⟨b, off + i * 3, none⟩ : Addr).add k) = some u := by
  intro k u hu
  have hk : k < l2.length * 3 := by
    have := (List.getElem?_eq_some_iff.1 hu).1
    rwa [cellsOfS_len] at this
  have hj : k / 3 < l2.length := by omega
  have hkk : k / 3 * 3 + k % 3 = k := by omega
  rw [← hkk, cellsOfS_get l2 (k / 3) (k % 3) hj (by omega)] at hu
  have e := h2 (k / 3) hj
  rw [List.getElem?_eq_getElem hj] at e
  obtain ⟨hil, e2⟩ := List.getElem?_eq_some_iff.1 e.symm
  rw [← e2] at hu
  rw [addr_add]
  have hn := hl.nn _ hil
  have hi := hl.ni _ hil
  have hz := hl.nz _ hil
  rcases (by omega : k % 3 = 0 ∨ k % 3 = 1 ∨ k % 3 = 2) with e3 | e3 | e3 <;> rw [e3] at hu <;> simp only [sigC, List.getElem?_cons_zero, List.getElem?_cons_succ, Option.some.injEq] at hu <;> subst hu
  · rw [show off + i * 3 + k = off + (i + k / 3) * 3 by omega]; exact hn
  · rw [show off + i * 3 + k = off + (i + k / 3) * 3 + 1 by omega]; exact hi
  · rw [show off + i * 3 + k = off + (i + k / 3) * 3 + 2 by omega]; exact hz

set_option maxRecDepth 100000 in
set_option maxHeartbeats 4000000 in
theorem SL6_walk (w : World) (vl : Value) (l : List Sig) (rb : Int) (hK : Keys w) (hl : IsSigs w vl l) (hrb : 0 ≤ rb ∧ rb ≤ 255) :
    Calls Tryd.prog 8 #[vl, .int .u8 rb] w (Calm (.bool true) w) := by
  have hHead := Lib.hid (head_c w hK)
  have hSm : Hid (∀ W, Below w.heap.size w W → Calls Tryd.prog 10 #[vl] W (Calm (.bool (smallS l)) W)) := fun W hW => (Small_c W vl l (hl.below hW)).mono fun _ _ h => calm_same h
  have hVa : Hid (∀ W, Below w.heap.size w W → Calls Tryd.prog 13 #[vl] W (Calm (.bool (validS l)) W)) := fun W hW => (SValid_c W vl l (hK.below hW) (hl.below hW)).mono fun _ _ h => h.calm
  have hLe : Hid (∀ W, Below w.heap.size w W → Calls Tryd.prog 19 #[vl] W (Calm (.int .i64 (lettersI l)) W)) := fun W hW => Letters_c W vl l (hK.below hW) (hl.below hW)
  have hFi : Hid (∀ s W, Below w.heap.size w W → Calls Tryd.prog 17 #[vl, .string s] W (Calm (.int .i64 (findI l s)) W)) := fun s W hW => (Find_c W vl l s (hl.below hW)).mono fun _ _ h => calm_same h
  have HK := Lib.hid hK
  obtain ⟨ao, cap, b, off, rfl, hl⟩ := hl
  have hn := hl.nb
  obtain ⟨hrb0, hrb1⟩ := hrb
  clear hK
  generalize smallS l = sm at *
  cases sm
  · go_enter Tryd.func8, Tryd.ntmps8
    go_wp2_with fail
    refine hHead.out.mono ?_
    rintro e w1 ⟨rfl, hB⟩
    (go_wp2_with fail); (refine (hSm.out _ hB).mono ?_); (rintro e w2 ⟨rfl, hb⟩); (replace hB := bel_step hB hb); (clear hb)
    go_wp2
    go_ret
    exact ⟨rfl, hB⟩
  cases hv : validS l
  · rw [hv] at hVa
    clear hv
    go_enter Tryd.func8, Tryd.ntmps8
    go_wp2_with fail
    refine hHead.out.mono ?_
    rintro e w1 ⟨rfl, hB⟩
    (go_wp2_with fail); (refine (hSm.out _ hB).mono ?_); (rintro e w2 ⟨rfl, hb⟩); (replace hB := bel_step hB hb); (clear hb)
    (go_wp2_with fail); (refine (hVa.out _ hB).mono ?_); (rintro e w3 ⟨rfl, hb⟩); (replace hB := bel_step hB hb); (clear hb)
    go_wp2
    go_ret
    exact ⟨rfl, hB⟩
  rw [hv] at hVa
  obtain ⟨hz, hl1, hl6, -⟩ := valid_sizes hv
  have hj0 := Int.emod_nonneg rb (show (l.length : Int) ≠ 0 by omega)
  have hj1 := Int.emod_lt_of_pos rb (show (0 : Int) < l.length by omega)
  have ht2 : rb.tmod (l.length : Int) = rb % (l.length : Int) := Int.tmod_eq_emod_of_nonneg hrb0
  obtain ⟨j, hj⟩ : ∃ j : Nat, rb % (l.length : Int) = (j : Int) := ⟨(rb % (l.length : Int)).toNat, (Int.toNat_of_nonneg hj0).symm⟩
  rw [hj] at ht2 hj1
  have hjl : j < l.length := by omega
  clear hj0 hj1 hj
  have HEA : Hid (∀ k (hk : k < l.length), findI l l[k].name = (k : Int)) := fun k hk => find_each hv hk
  have HRV : Hid (2 ≤ l.length → validS (restL l j) = true) := fun h => rest_valid hv hjl h
  have HRL : Hid (2 ≤ l.length → lettersI (restL l j) * l[j].size = lettersI l) := fun h => rest_letters hv hjl h
  have HRF := Lib.hid (rest_find hv hjl)
  have HRN := Lib.hid (rest_len hjl)
  obtain ⟨hle0, hle1⟩ := letters_bd hv
  have HL := Lib.hid hl
  have HRS : Hid (∀ s ∈ restL l j, I64 s.size ∧ s.name.size ≤ maxN) := fun s hs => ⟨hl.sz s ((rest_sub l j).subset hs), hl.sn s ((rest_sub l j).subset hs)⟩
  have hlc := hl.lc
  have hcm := hl.cm
  unfold maxLen at hcm
  obtain rfl := hl.ad (by omega)
  have hz3 : ((l.length : Int) == 0) = false := beq_eq_false_iff_ne.2 (by omega)
  have hz4 : ¬ (l.length : Int) = 0 := by omega
  clear hz hv hl
  go_enter Tryd.func8, Tryd.ntmps8
  go_wp2_with fail
  refine hHead.out.mono ?_
  rintro e w1 ⟨rfl, hB⟩
  (go_wp2_with fail); (refine (hSm.out _ hB).mono ?_); (rintro e w2 ⟨rfl, hb⟩); (replace hB := bel_step hB hb); (clear hb)
  (go_wp2_with fail); (refine (hVa.out _ hB).mono ?_); (rintro e w3 ⟨rfl, hb⟩); (replace hB := bel_step hB hb); (clear hb)
  go_wp2
  go_loopg [6] l.length (fun gh vi wr => ∃ k : Nat, gh = l.length - k ∧ vi = .int .i64 k ∧ k ≤ l.length ∧ Below w.heap.size w wr)
  case atStart => exact ⟨0, rfl, rfl, by omega, hB⟩
  case round =>
    clear hB
    obtain ⟨k, hgk, rfl, hk, hB⟩ := hrel
    have HG := Lib.hid hgk
    clear hgk
    by_cases hlt : k < l.length
    · have c0 := cellB hB (HL.out.nn k hlt)
      have hF := hFi.out l[k].name
      rw [HEA.out k hlt] at hF
      have HF := Lib.hid hF
      clear hF
      (go_wp2_with fail); (refine (HF.out _ hB).mono ?_); (rintro e x1 ⟨rfl, hb⟩); (replace hB := bel_step hB hb); (clear hb)
      go_wp2
      go_roundg (l.length - (k + 1))
      case measure => have := HG.out; omega
      case rel => exact ⟨k + 1, rfl, by go_num, by omega, hB⟩
    · clear HG hk
      go_upto_region 10 with (fail)
      have hbw : b < wr.heap.size := Nat.lt_of_lt_of_le (World.block_lt_of_cell? w _ (HL.out.nn j hjl)) hB.size
      have hLw : SArr wr (some ⟨b, off, none⟩) cap b off l := { HL.out with nn := fun j hj => cellB hB (HL.out.nn j hj), ni := fun j hj => cellB hB (HL.out.ni j hj), nz := fun j hj => cellB hB (HL.out.nz j hj) }
      have HN1 : Hid (∀ k u, (cellsOfS (l.take j))[k]? = some u → wr.cell? ((⟨b, off, none⟩ : Addr).add k) = some u) := by
        have := sigs_news hLw 0 (l.take j) (fun i hi => by rw [List.getElem?_take]; rw [List.length_take] at hi; rw [if_pos (by omega), Nat.zero_add])
        rwa [Nat.zero_mul, Nat.add_zero] at this
      obtain ⟨A, hA, HN2⟩ : ∃ A : Addr, (if cap = j + 1 then some (⟨b, off, none⟩ : Addr) else some ⟨b, off + (j + 1) * 3, none⟩) = some A ∧ Hid (∀ k u, (cellsOfS (l.drop (j + 1)))[k]? = some u → wr.cell? (A.add k) = some u) := by
        by_cases h : cap = j + 1
        · refine ⟨⟨b, off, none⟩, by simp [h], fun k u hu => ?_⟩
          rw [List.drop_eq_nil_of_le (by omega)] at hu
          simp [cellsOfS] at hu
        · exact ⟨⟨b, off + (j + 1) * 3, none⟩, by simp [h], sigs_news hLw (j + 1) (l.drop (j + 1)) (fun i hi => by rw [List.getElem?_drop])⟩
      have HO0 : Hid (OS (wr.alloc (.cells #[] 36)).drew wr.heap.size (.slice (some ⟨wr.heap.size, 0, none⟩) 0 0) []) := OS_empty wr
      have HTK : Hid ((l.take j).length = j) := by show _ = _; rw [List.length_take]; omega
      have HDR : Hid ((l.drop (j + 1)).length = l.length - (j + 1)) := by show _ = _; rw [List.length_drop]
      have hic : j ≤ cap := by omega
      have hwr : IntKind.i64.wrap ((j : Int) + 1) = (j : Int) + 1 := by rw [IntKind.wrap_i64]; omega
      have hp0 : (0 : Int) ≤ (j : Int) + 1 := by omega
      have hp1 : (j : Int) + 1 ≤ (l.length : Int) := by omega
      have hp2 : ((j : Int) + 1).toNat = j + 1 := by omega
      clear hLw
      go_cut [8] (fun v wx => OS wx wr.heap.size v (restL l j) ∧ Below wr.heap.size wr wx)
      case first =>
        have hbA : Below wr.heap.size wr (wr.alloc (.cells #[] 36)).drew := (bel_box _).trans (Below.drew (Below.refl _ _))
        have HNW : Hid (∀ k u, (cellsOfS (l.take j))[k]? = some u → (wr.alloc (.cells #[] 36)).drew.cell? ((⟨b, off, none⟩ : Addr).add k) = some u) := fun k u h => cellB hbA (HN1.out k u h)
        have HS1 : Hid (([] : List Sig).length + (l.take j).length ≤ 100) := by show _ ≤ _; rw [HTK.out]; simp; omega
        have HS2 : Hid ((l.take j).length + (l.drop (j + 1)).length ≤ 100) := by show _ ≤ _; rw [HTK.out, HDR.out]; omega
        have HBA := Lib.hid hbA
        clear hbA
        go_region_law (first
          | (rw [if_pos (by rfl)]; refine wp_app_sigs (wr.alloc (.cells #[] 36)).drew (.tmp 44) (.tmp 47) (by rfl) wr.heap.size (.slice (some ⟨wr.heap.size, 0, none⟩) 0 0) [] (l.take j) (by rfl) HO0.out ⟨b, off, none⟩ j cap (by rfl) HTK.out HNW.out HS1.out HBA.out.size ?_; intro v1 w1 hown1 hg1; have hb1 := HBA.out.grown hg1 HBA.out.size (fun k e => by cases e; exact Nat.le_refl _); have HO1 : Hid (OS w1 wr.heap.size v1 (l.take j)) := hown1; clear hown1 hg1)
          | (rw [if_pos (by rfl)]; refine wp_app_sigs _ (.tmp 48) (.tmp 52) (by rfl) wr.heap.size _ (l.take j) (l.drop (j + 1)) (by rfl) HO1.out A (l.length - (j + 1)) (cap - (j + 1)) (by rfl) HDR.out (fun k u h => cellB hb1 (HN2.out k u h)) HS2.out hb1.size ?_; intro v2 w2 hown2 hg2; have hb2 := hb1.grown hg2 hb1.size (fun k e => HO1.out.ge k e); have HO2 : Hid (OS w2 wr.heap.size v2 (restL l j)) := hown2; clear hown2 hg2))
        all_goals go_wp2_with fail
        all_goals
          go_meet
          case rel => exact ⟨HO2.out, hb2⟩
      case rest =>
        obtain ⟨hO, hb⟩ := hcut
        replace hB := bel_step hB hb
        clear hb HN1 HN2 hA HO0 HTK HDR hic hwr hp0 hp1 hp2 hbw
        have hIs : IsSigs wc u8 (restL l j) := hO.is (by rw [HRN.out]; unfold maxN; omega) (fun s hs => (HRS.out s hs).1) (fun s hs => (HRS.out s hs).2)
        obtain ⟨ar, cr, rfl⟩ := hO.slice
        have hVr : Hid (∀ W, Below wc.heap.size wc W → Calls Tryd.prog 13 #[.slice ar (restL l j).length cr] W (Calm (.bool (validS (restL l j))) W)) := fun W hW => (SValid_c W _ _ ((HK.out.below hB).below hW) (hIs.below hW)).mono fun _ _ h => h.calm
        have hLr : Hid (∀ W, Below wc.heap.size wc W → Calls Tryd.prog 19 #[.slice ar (restL l j).length cr] W (Calm (.int .i64 (lettersI (restL l j))) W)) := fun W hW => Letters_c W _ _ ((HK.out.below hB).below hW) (hIs.below hW)
        have hFr : Hid (∀ W, Below wc.heap.size wc W → Calls Tryd.prog 17 #[.slice ar (restL l j).length cr, .string l[j].name] W (Calm (.int .i64 (-1)) W)) := fun W hW => by
          have := (Find_c W _ _ l[j].name (hIs.below hW)).mono fun _ _ h => calm_same h
          rwa [HRF.out] at this
        have HC0 := Lib.hid (cellB hB (HL.out.nn j hjl))
        have HC2 := Lib.hid (cellB hB (HL.out.nz j hjl))
        clear hO hIs HRF HRS HEA
        generalize restL l j = R at *
        have hRn := HRN.out
        by_cases h1 : l.length = 1
        · have hR0 : R = [] := List.eq_nil_of_length_eq_zero (by omega)
          have hq : ((R.length : Int) == 0) = true := by rw [hR0]; rfl
          rw [show validS R = false by rw [hR0]; exact ex_nil] at hVr
          clear hR0 h1 hRn
          go_wp2_with fail
          refine (hVr.out _ (Below.refl _ _)).mono ?_
          rintro e y1 ⟨rfl, hb⟩
          go_wp2
          go_ret
          exact ⟨rfl, bel_step hB hb⟩
        · have h2 : 2 ≤ l.length := by omega
          have hq : ((R.length : Int) == 0) = false := beq_eq_false_iff_ne.2 (by omega)
          rw [HRV.out h2] at hVr
          have hmul := HRL.out h2
          have hmw : IntKind.i64.wrap (lettersI R * l[j].size) = lettersI l := by rw [hmul]; exact IntWalk.i64_in _ ⟨by omega, by omega⟩
          have HMW := Lib.hid hmw
          clear hmul hmw HRV HRL h1 hRn
          generalize lettersI R = lr at *
          generalize lettersI l = le at *
          generalize l[j].size = z at *
          generalize l[j].name = nm at *
          go_upto_region 13 with (fail)
          go_cut [4] (fun v wx => v = .bool true ∧ Below w.heap.size w wx)
          case first =>
            have hmw := HMW.out
            have d0 := HC0.out
            have d2 := HC2.out
            go_region_held3 (fun w' => w'.cell? ⟨b, off + j * 3, none⟩ = some (Value.string nm) ∧ w'.cell? ⟨b, off + j * 3 + 2, none⟩ = some (Value.int .i64 z)) (exact ⟨d0, d2⟩) (first | (go_at_call 13; refine (hVr.out _ (bel_dr (Below.refl _ _))).mono ?_; rintro e y1 ⟨rfl, hb⟩; have z1 : Below wc.heap.size wc y1 := bel_step1 (Below.refl _ _) hb; have x1 := bel_step hB z1; have d0 : y1.cell? ⟨b, off + j * 3, none⟩ = some (Value.string nm) := cellB z1 HC0.out; have d2 : y1.cell? ⟨b, off + j * 3 + 2, none⟩ = some (Value.int .i64 z) := cellB z1 HC2.out) | (go_at_call_of 19 (Value.slice ar R.length cr); refine (hLr.out _ z1).mono ?_; rintro e y2 ⟨rfl, hb⟩; have z2 : Below wc.heap.size wc y2 := bel_step z1 hb; have x2 := bel_step hB z2; have d0 : y2.cell? ⟨b, off + j * 3, none⟩ = some (Value.string nm) := cellB z2 HC0.out; have d2 : y2.cell? ⟨b, off + j * 3 + 2, none⟩ = some (Value.int .i64 z) := cellB z2 HC2.out) | (go_at_call_of 19 (Value.slice (some ⟨b, off, none⟩) l.length cap); refine (hLe.out _ x2).mono ?_; rintro e y3 ⟨rfl, hb⟩; have z3 : Below wc.heap.size wc y3 := bel_step z2 hb; have x3 := bel_step hB z3; have d0 : y3.cell? ⟨b, off + j * 3, none⟩ = some (Value.string nm) := cellB z3 HC0.out; have d2 : y3.cell? ⟨b, off + j * 3 + 2, none⟩ = some (Value.int .i64 z) := cellB z3 HC2.out) | (go_at_call 17; refine (hFr.out _ z3).mono ?_; rintro e y4 ⟨rfl, hb⟩; have z4 : Below wc.heap.size wc y4 := bel_step z3 hb; have x4 := bel_step hB z4; have d0 : y4.cell? ⟨b, off + j * 3, none⟩ = some (Value.string nm) := cellB z4 HC0.out; have d2 : y4.cell? ⟨b, off + j * 3 + 2, none⟩ = some (Value.int .i64 z) := cellB z4 HC2.out))
            all_goals go_wp2_with fail
            all_goals
              go_meet
              case rel => exact ⟨rfl, x4⟩
          case rest =>
            obtain ⟨rfl, hB4⟩ := hcut
            go_wp2
            go_ret
            exact ⟨rfl, hB4⟩

end Go.Proofs.YtlfackilmpnlhaaDoor
