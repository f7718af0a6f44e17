/- The law RankParts: its walk. -/
import Derived.Test.YtijkjhcigdfdgaaQRkA7
namespace Go.Proofs.Ytijkjhcigdfdgaa
open Go.RowKit

set_option maxRecDepth 100000 in
set_option maxHeartbeats 8000000 in
theorem Parts_walk (w : World) (vg : Value) (g : Gm) (x : Int) (hg : IsGame w vg g) (hx8 : 0 ≤ x ∧ x ≤ 255) : Calls Try.prog 8 #[vg, .int .u8 x] w (Calm (.bool true) w) := by
  obtain ⟨hx0, hx1⟩ := hx8
  have HPP : Hid (x % 2 = 0 ∨ x % 2 = 1) := by show _ ∨ _; omega
  obtain ⟨a0, c0, a1, c1, a2, c2, rfl⟩ := hg.shape
  generalize hn0 : g.owner.length = n0 at *
  generalize hn1 : g.prio.length = n1 at *
  generalize hn2 : g.succ.length = n2 at *
  have HN0 := Lib.hid hn0
  clear hn0 hn1 hn2
  go_enter Try.func8, Try.ntmps8
  go_upto_region 1 with (fail)
  obtain ⟨hx, hb, hB⟩ := box_new (w0 := w) (Below.refl _ _) (Nat.le_refl _) #[.slice a0 n0 c0, .slice a1 n1 c1, .slice a2 n2 c2] 25
  replace hg := hg.below hb
  generalize w.alloc (.cells #[.slice a0 n0 c0, .slice a1 n1 c1, .slice a2 n2 c2] 25) = w1 at *
  clear hb
  go_wp2_with fail
  refine (head_c _).mono ?_
  rintro e w2 ⟨rfl, hb⟩
  replace hx := (hb.block _ (Array.getElem?_eq_some_iff.1 hx).1).trans hx
  replace hg := hg.below hb
  replace hB := hB.trans (hb.mono hB.size)
  clear hb 
  have k0 := cell_of_row _ _ 0 _ _ _ hx
  have k1 := cell_of_row _ _ 1 _ _ _ hx
  have k2 := cell_of_row _ _ 2 _ _ _ hx
  go_wp2_with fail
  refine (fine_c _ _ g hg).mono ?_
  rintro e w3 ⟨rfl, hb⟩
  replace hx := (hb.block _ (Array.getElem?_eq_some_iff.1 hx).1).trans hx
  replace hg := hg.below hb
  replace hB := hB.trans (hb.mono hB.size)
  clear hb k0 k1 k2
  cases hf : fineB g with
  | false =>
    clear hf
    go_wp2_with fail
    go_ret
    exact ⟨rfl, hB⟩
  | true =>
  have HF := Lib.hid (fine_h hf)
  clear hf
  go_upto_region 5 with (fail)
  obtain ⟨p, hp⟩ : ∃ p, p = x % 2 := ⟨_, rfl⟩
  rw [← hp] at HPP ⊢
  clear hp hx0 hx1
  have hn12 : n0 ≤ 12 := by rw [← HN0.out]; exact HF.out.n
  have k0 := cell_of_row _ _ 0 _ _ _ hx
  have k1 := cell_of_row _ _ 1 _ _ _ hx
  have k2 := cell_of_row _ _ 2 _ _ _ hx
  go_wp2_with fail
  refine (Measure_c _ _ g p hg HF.out.look fun h e hw => top_work e hw).mono ?_
  intro e w4 h
  obtain ⟨a3, c3, rfl, hm0, hb⟩ : ∃ a c, e = .returned (.tuple #[.slice a n0 c, .int .i64 0]) ∧ IsRows w4 (.slice a n0 c) (lstG g p) ∧ Below w3.heap.size w3 w4 := by have := h.ex (HF.out.meas HPP.out); rw [lst_len, HN0.out] at this; exact this
  clear h
  replace hx := (hb.block _ (Array.getElem?_eq_some_iff.1 hx).1).trans hx
  replace hg := hg.below hb
  replace hB := hB.trans (hb.mono hB.size)
  clear hb k0 k1 k2
  go_upto_region 6 with (fail)
  have k0 := cell_of_row _ _ 0 _ _ _ hx
  have k1 := cell_of_row _ _ 1 _ _ _ hx
  have k2 := cell_of_row _ _ 2 _ _ _ hx
  go_upto_region 8 with (fail)
  clear k0 k1 k2
  have HPT : Hid (partR g (inL g p) = (partG g (inL g p) (keptI (inL g p) n0), keptI (inL g p) n0) ∧
    FineH (partG g (inL g p) (keptI (inL g p) n0)) ∧ (partG g (inL g p) (keptI (inL g p) n0)).owner.length = (keptI (inL g p) n0).length ∧
    ∀ j, j < (keptI (inL g p) n0).length → (lstG (partG g (inL g p) (keptI (inL g p) n0)) p).getD j [] ≠ [] ∧ (lstG (partG g (inL g p) (keptI (inL g p) n0)) (1 - p)).getD j [] = []) := by
    have := HF.out.part HPP.out
    rw [HN0.out] at this
    exact this
  have HSL : Hid ((inL g p).length = n0) := by show _ = _; rw [inL_len, HN0.out]
  have HSA : Hid (∀ i, i < n0 → (inL g p).getD i false = !decide ((lstG g p).getD i [] = [])) := fun i hi => inL_at (by rw [HN0.out]; exact hi)
  generalize inL g p = s at *
  obtain ⟨bA, oA, dA, nA, fA⟩ := hm0.dat2
  have HFA := Lib.hid fA
  have HBB := Lib.hid hB
  have HGG := Lib.hid hg
  have HXX := Lib.hid hx
  clear fA hm0 hB hg hx
  generalize lstG g p = A at *
  go_upto_region 9 with (at_make; refine mk_bool rfl _ _ _ Try.underlying39 rfl w4.heap.size (n0 : Int) n0 rfl rfl rfl (by omega) (Nat.le_refl _) ?_; intro wm hown hgr)
  have hbm : Below w4.heap.size w4 wm := (Below.refl _ _).grown hgr (Nat.le_refl _) (fun k hk => by cases hk)
  obtain ⟨ZB, hZB⟩ : ∃ z, z = w4.heap.size := ⟨_, rfl⟩
  rw [← hZB] at hown hbm ⊢
  have HZB := Lib.hid hZB
  clear hgr hZB
  have hKL : ((keptI s 0).length : Int) = 0 := rfl
  go_wp2_with fail
  go_loopg [10, 11] n0 (fun gh cn i wr => ∃ (k : Nat) (L : List Bool), gh = n0 - k ∧ cn = .int .i64 ((keptI s k).length : Int) ∧ i = .int .i64 (k : Int) ∧ k ≤ n0 ∧ Hid (L.length = n0) ∧ Hid (∀ j, j < k → L.getD j false = s.getD j false) ∧ Hid (OB wr ZB (.slice (some ⟨ZB, 0, none⟩) n0 n0) L) ∧ Hid (Below ZB w4 wr))
  case atStart => exact ⟨0, _, rfl, by rw [hKL], rfl, by omega, by show _ = _; simp, fun j hj => absurd hj (by omega), hown, hbm⟩
  case round =>
    obtain ⟨k, L, hgk, rfl, rfl, hk, HL, HLS, HO, HBx⟩ := hrel
    have HGK := Lib.hid hgk
    clear hgk hown hbm hKL
    by_cases hlt : k < n0
    · obtain rfl := dA (by omega)
      have i1 : (k : Int) < (n0 : Int) := by omega
      have hi0 : (0 : Int) ≤ (k : Int) := by omega
      obtain ⟨a1', e1, cM, -⟩ := HFA.out k hlt
      replace cM := cellB (by have := HBx.out; rw [HZB.out] at this; exact this) cM
      have e2 := HO.out.at' HL.out.symm k (by rw [HL.out]; exact hlt)
      have f2 := HO.out.fz HL.out.symm k
      have hsa := HSA.out k hlt
      have HKS := Lib.hid (keptI_succ s k)
      have HKL : Hid ((keptI s k).length ≤ k) := keptI_len s k
      have HNX : Hid (∀ b : Bool, s.getD k false = b → (L.set k b).length = n0 ∧ ∀ j, j < k + 1 → (L.set k b).getD j false = s.getD j false) := fun b hb => by
        refine ⟨by rw [List.length_set]; exact HL.out, fun j hj => ?_⟩
        by_cases hjk : j = k
        · subst hjk
          rw [hb]
          have : j < L.length := by rw [HL.out]; exact hlt
          simp [List.getD, this]
        · have := HLS.out j (by omega)
          rw [← this]
          simp [List.getD, List.getElem?_set_ne (Ne.symm hjk)]
      cases hb : s.getD k false with
      | false =>
        have tA : (((A.getD k []).length : Int) == 0) = true := by
          rw [hb] at hsa
          have : A.getD k [] = [] := by simpa using hsa.symm
          rw [this]; rfl
        have HKE : Hid ((keptI s (k + 1)).length = (keptI s k).length) := by show _ = _; rw [HKS.out, hb]; rfl
        have HO2 := Lib.hid (HO.out.set HL.out.symm k false)
        have HN2 := Lib.hid (HNX.out false hb)
        have HB2 : Hid (Below ZB w4 (wr.setCell ⟨ZB, k, none⟩ (.bool false))) := by
          show Below _ _ _
          have := HBx.out
          rw [HZB.out] at this ⊢
          exact below_set this (Nat.le_refl _)
        clear hb hsa HKS HNX HO HBx
        generalize (A.getD k []).length = y at *
        generalize (keptI s k).length = cn at *
        have HTA : Hid (∀ W a e, Calls Try.prog 24 #[.slice a y e] W (fun r w' => r = .returned (.bool true) ∧ W = w')) := fun W a e => Top_c W a y e _ tA
        clear tA
        go_upto_region 14 with (go_at_call 24; refine (HTA.out _ _ _).mono ?_; rintro e w' ⟨rfl, rfl⟩)
        clear e2 f2 cM
        have e2 : (wr.setCell ⟨ZB, k, none⟩ (.bool false)).cell? ⟨ZB, k, none⟩ = some (.bool false) := by
          have := HO2.out.at' HN2.out.1.symm k (by rw [HN2.out.1]; exact hlt)
          simpa using this
        generalize wr.setCell ⟨ZB, k, none⟩ (.bool false) = wx at *
        go_wp2
        go_roundg (n0 - (k + 1))
        case measure => have := HGK.out; omega
        case rel => exact ⟨k + 1, _, rfl, by rw [HKE.out], by go_num, by omega, HN2.out.1, HN2.out.2, HO2, HB2⟩
      | true =>
        have tA : (((A.getD k []).length : Int) == 0) = false := by
          rw [hb] at hsa
          have h1 : A.getD k [] ≠ [] := by simpa using hsa.symm
          rw [beq_eq_false_iff_ne]
          intro e
          exact h1 (List.length_eq_zero_iff.1 (by omega))
        have HKE : Hid ((keptI s (k + 1)).length = (keptI s k).length + 1) := by show _ = _; rw [HKS.out, hb]; simp
        have HO2 := Lib.hid (HO.out.set HL.out.symm k true)
        have HN2 := Lib.hid (HNX.out true hb)
        have HB2 : Hid (Below ZB w4 (wr.setCell ⟨ZB, k, none⟩ (.bool true))) := by
          show Below _ _ _
          have := HBx.out
          rw [HZB.out] at this ⊢
          exact below_set this (Nat.le_refl _)
        have hcn := HKL.out
        clear hb hsa HKS HNX HO HBx HKL
        generalize (A.getD k []).length = y at *
        generalize (keptI s k).length = cn at *
        have HTA : Hid (∀ W a e, Calls Try.prog 24 #[.slice a y e] W (fun r w' => r = .returned (.bool false) ∧ W = w')) := fun W a e => Top_c W a y e _ tA
        clear tA
        go_upto_region 14 with (go_at_call 24; refine (HTA.out _ _ _).mono ?_; rintro e w' ⟨rfl, rfl⟩)
        clear e2 f2 cM
        have e2 : (wr.setCell ⟨ZB, k, none⟩ (.bool true)).cell? ⟨ZB, k, none⟩ = some (.bool true) := by
          have := HO2.out.at' HN2.out.1.symm k (by rw [HN2.out.1]; exact hlt)
          simpa using this
        generalize wr.setCell ⟨ZB, k, none⟩ (.bool true) = wx at *
        go_wp2
        go_roundg (n0 - (k + 1))
        case measure => have := HGK.out; omega
        case rel => exact ⟨k + 1, _, rfl, by rw [HKE.out]; go_num, by go_num, by omega, HN2.out.1, HN2.out.2, HO2, HB2⟩
    · obtain rfl : k = n0 := by omega
      generalize hkn : k = n0 at *
      clear hkn hlt hk HGK
      have i1 : ¬ (n0 : Int) < (n0 : Int) := by omega
      obtain rfl : L = s := by
        apply List.ext_getElem (by rw [HL.out, HSL.out])
        intro j h1 h2
        have := HLS.out j (by rw [← HL.out]; exact h1)
        rw [getD_lt _ _ _ h2] at this
        rw [← this]
        simp [List.getD, h1]
      have hs : IsBools wr (.slice (some ⟨ZB, 0, none⟩) n0 n0) L := HO.out.is (by rw [HL.out]; simp only [maxN]; omega)
      have hbx := HBx.out
      rw [HZB.out] at hbx
      have hg := HGG.out.below hbx
      have hx := (hbx.block _ (Array.getElem?_eq_some_iff.1 HXX.out).1).trans HXX.out
      have hB := HBB.out.trans (hbx.mono HBB.out.size)
      clear HGG HXX HBB hbx HO HBx HLS HL HFA HSA HSL HZB dA nA
      go_upto_region 16 with (fail)
      have k0 := cell_of_row _ _ 0 _ _ _ hx
      have k1 := cell_of_row _ _ 1 _ _ _ hx
      have k2 := cell_of_row _ _ 2 _ _ _ hx
      go_wp2_with fail
      refine (Part_c _ _ _ g L hg hs HF.out.look.s).mono ?_
      rw [HPT.out.1]
      rintro e w31 ⟨vP, vks, rfl, hP, hks, hb⟩
      replace hx := (hb.block _ (Array.getElem?_eq_some_iff.1 hx).1).trans hx
      replace hg := hg.below hb
      replace hB := hB.trans (hb.mono hB.size)
      clear hb k0 k1 k2 hs
      have HPF := Lib.hid HPT.out.2
      clear HPT
      generalize keptI L n0 = ks at *
      generalize partG g L ks = P at *
      obtain ⟨b0, f0, b1, f1, b2, f2, rfl⟩ := hP.shape
      obtain ⟨aK, cK, rfl⟩ := hks.shape
      have hm0 : P.owner.length = ks.length := HPF.out.2.1
      have hKS : ks.length ≤ 12 := by rw [← hm0]; exact HPF.out.1.n
      rw [hm0] at hP ⊢
      have HM0 := Lib.hid hm0
      clear hm0
      generalize hnk : ks.length = nk at *
      generalize P.prio.length = m1 at *
      generalize P.succ.length = m2 at *
      clear hks hnk
      go_upto_region 17 with (fail)
      obtain ⟨hy, hb, hB⟩ := box_new hB hB.size #[.slice b0 nk f0, .slice b1 m1 f1, .slice b2 m2 f2] 25
      replace hx := (hb.block _ (Array.getElem?_eq_some_iff.1 hx).1).trans hx
      replace hP := hP.below hb
      generalize w31.alloc (.cells #[.slice b0 nk f0, .slice b1 m1 f1, .slice b2 m2 f2] 25) = w32 at *
      generalize w31.heap.size = zP at *
      clear hb hg hx
      go_upto_region 19 with (fail)
      have k0 := cell_of_row _ _ 0 _ _ _ hy
      have k1 := cell_of_row _ _ 1 _ _ _ hy
      have k2 := cell_of_row _ _ 2 _ _ _ hy
      go_wp2_with fail
      refine (Measure_c _ _ P p hP HPF.out.1.look fun h e hw => top_work e hw).mono ?_
      intro e w33 h
      obtain ⟨a5, c5, rfl, hm1, hb⟩ : ∃ a c, e = .returned (.tuple #[.slice a nk c, .int .i64 0]) ∧ IsRows w33 (.slice a nk c) (lstG P p) ∧ Below w32.heap.size w32 w33 := by have := h.ex (HPF.out.1.meas HPP.out); rw [lst_len, HM0.out] at this; exact this
      clear h
      replace hy := (hb.block _ (Array.getElem?_eq_some_iff.1 hy).1).trans hy
      replace hP := hP.below hb
      replace hB := hB.trans (hb.mono hB.size)
      clear hb k0 k1 k2
      go_upto_region 20 with (fail)
      have hp0 : 0 ≤ p ∧ p ≤ 1 := by have := HPP.out; omega
      obtain ⟨hp0, hp1⟩ := hp0
      have HQQ : Hid (1 - p = 0 ∨ 1 - p = 1) := by have := HPP.out; show _ ∨ _; omega
      have k0 := cell_of_row _ _ 0 _ _ _ hy
      have k1 := cell_of_row _ _ 1 _ _ _ hy
      have k2 := cell_of_row _ _ 2 _ _ _ hy
      go_wp2_with fail
      refine (Measure_c _ _ P (1 - p) hP HPF.out.1.look fun h e hw => top_work e hw).mono ?_
      intro e w34 h
      obtain ⟨a6, c6, rfl, hm2, hb⟩ : ∃ a c, e = .returned (.tuple #[.slice a nk c, .int .i64 0]) ∧ IsRows w34 (.slice a nk c) (lstG P (1 - p)) ∧ Below w33.heap.size w33 w34 := by have := h.ex (HPF.out.1.meas HQQ.out); rw [lst_len, HM0.out] at this; exact this
      clear h
      replace hy := (hb.block _ (Array.getElem?_eq_some_iff.1 hy).1).trans hy
      replace hP := hP.below hb
      replace hm1 := hm1.below hb
      replace hB := hB.trans (hb.mono hB.size)
      clear hb k0 k1 k2
      go_upto_region 23 with (fail)
      obtain ⟨bX, oX, dX, nX, fX⟩ := hm1.dat2
      obtain ⟨bY, oY, dY, nY, fY⟩ := hm2.dat2
      have HFX := Lib.hid fX
      have HFY := Lib.hid fY
      have HRW : Hid (∀ j, j < nk → (lstG P p).getD j [] ≠ [] ∧ (lstG P (1 - p)).getD j [] = []) := HPF.out.2.2
      have HBB := Lib.hid hB
      clear fX fY hm1 hm2 hB hP hy HPF HM0
      generalize lstG P p = X at *
      generalize lstG P (1 - p) = Y at *
      go_wp2_with fail
      go_loopg [18] nk (fun gh i wr => ∃ k : Nat, gh = nk - k ∧ i = .int .i64 (k : Int) ∧ k ≤ nk ∧ w34 = wr)
      case atStart => exact ⟨0, rfl, rfl, by omega, rfl⟩
      case round =>
        obtain ⟨k, hgk, rfl, hk, rfl⟩ := hrel
        have HGK := Lib.hid hgk
        clear hgk
        by_cases hlt : k < nk
        · obtain rfl := dX (by omega)
          obtain rfl := dY (by omega)
          have i2 : (k : Int) < (nk : Int) := by omega
          have hi0 : (0 : Int) ≤ (k : Int) := by omega
          obtain ⟨a1', e1, cX, -⟩ := HFX.out k hlt
          obtain ⟨a2', e2, cY, -⟩ := HFY.out k hlt
          obtain ⟨h1, h2⟩ := HRW.out k hlt
          have tX : (((X.getD k []).length : Int) == 0) = false := by
            rw [beq_eq_false_iff_ne]
            intro e
            exact h1 (List.length_eq_zero_iff.1 (by omega))
          have tY : (((Y.getD k []).length : Int) == 0) = true := by rw [h2]; rfl
          clear h1 h2
          generalize (X.getD k []).length = xl at *
          generalize (Y.getD k []).length = yl at *
          go_wp2_with (go_at_call 24; refine (Top_c _ _ _ _ _ (by assumption)).mono ?_; rintro e w' ⟨rfl, rfl⟩)
          go_roundg (nk - (k + 1))
          case measure => have := HGK.out; omega
          case rel => exact ⟨k + 1, rfl, by go_num, by omega, rfl⟩
        · have i2 : ¬ (k : Int) < (nk : Int) := by omega
          go_wp2
          go_ret
          exact ⟨rfl, HBB.out⟩

end Go.Proofs.Ytijkjhcigdfdgaa
