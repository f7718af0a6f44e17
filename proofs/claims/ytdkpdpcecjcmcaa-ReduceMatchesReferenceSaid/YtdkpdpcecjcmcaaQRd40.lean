/- What Components returns. -/
import Derived.BigRegion
import Derived.Test.YtdkpdpcecjcmcaaQRd38
import Derived.Test.YtdkpdpcecjcmcaaQRd39
namespace Go.Proofs.Ytdkpdpcecjcmcaa
open Go.RowKit

def CompOut (w : World) (a : Au) (k : Nat) (S : Nat → Nat → Bool) (e : Ending) (w' : World) : Prop :=
  ∃ (vo : Value) (outs : List Value) (rs : List Nat) (M : Nat → Nat → Bool), e = .returned vo ∧ ML w' w.heap.size vo outs a.next.length k (rs.map (cmpW a S M)) ∧ Below w.heap.size w w' ∧ RepW a.next.length M rs a.next.length ∧ ∀ i j, i < a.next.length → j < a.next.length → (M i j = true ↔ P1 (EdS (tgN a.next) (SetB a.next.length k S)) i j)

set_option maxRecDepth 100000 in
set_option maxHeartbeats 8000000 in
theorem Components_c (w : World) (v vIn : Value) (a : Au) (k Bi : Nat) (valsI : List Value) (S : Nat → Nat → Bool) (ha : IsAuto w v a) (hA : AuV a k) (hM : MW w Bi vIn valsI a.next.length k S) : Calls Try.prog 53 #[v, vIn] w (CompOut w a k S) := by
  have HA := Lib.hid ha
  obtain ⟨vN, vP, rfl, hI, hN, hP⟩ := ha
  have HX := Lib.hid hA
  have HLk := Lib.hid hA.L
  have hk1 : 1 ≤ k ∧ k ≤ 64 := hA.k1
  have hn0 : 0 < a.next.length := by have := hA.n1; omega
  have hn3 : a.next.length ≤ 3000 := hA.n1.2
  obtain ⟨aN, cN, bN, oN, V, hvN, hdN, hmN, hVN⟩ := hN.data
  have HVN := Lib.hid hVN
  obtain rfl := hdN hn0
  subst hvN
  obtain ⟨aI, cI, hvI⟩ := hM.slice
  subst hvI
  obtain ⟨gI, hgI⟩ := ownsRow_at hM.o
  obtain rfl := hgI hn0
  have HIn := Lib.hid hM
  have bx := heap_alloc_new w (.cells #[.int .i64 a.letters, .int .i64 a.start, .slice (some ⟨bN, oN, none⟩) a.next.length cN, vP] 24)
  have hb1 : Below w.heap.size w (w.alloc (.cells #[.int .i64 a.letters, .int .i64 a.start, .slice (some ⟨bN, oN, none⟩) a.next.length cN, vP] 24)) := bel_box _
  have HBX := Lib.hid bx
  have HB1 := Lib.hid hb1
  have HPC := Lib.hid (paths_c _ _ _ a k Bi valsI S (HA.out.below hb1) hA (hM.below hb1))
  clear hI hN hP hVN hdN hA bx hb1 hM hgI
  go_enter Try.func53, Try.ntmps53
  go_upto_region 1 with (fail)
  generalize w.alloc (.cells #[.int .i64 a.letters, .int .i64 a.start, .slice (some ⟨bN, oN, none⟩) a.next.length cN, vP] 24) = w1 at *
  obtain ⟨zw, hzw⟩ : ∃ zw, zw = w.heap.size := ⟨_, rfl⟩
  rw [← hzw] at HBX
  rw [← hzw]
  have HZW := Lib.hid hzw
  have hz1 : zw < w1.heap.size := (Array.getElem?_eq_some_iff.1 HBX.out).1
  have d0 := cell_of_row _ _ 0 _ _ _ HBX.out
  have d1 := cell_of_row _ _ 1 _ _ _ HBX.out
  have d2 := cell_of_row _ _ 2 _ _ _ HBX.out
  have d3 := cell_of_row _ _ 3 _ _ _ HBX.out
  clear hzw
  go_wp2_with fail
  refine HPC.out.mono ?_
  rintro e w2 ⟨vW, valsW, M, rfl, hW, hb2, hMP⟩
  clear HPC d0 d1 d2 d3
  have HMP : Hid (∀ i j, i < a.next.length → j < a.next.length → (M i j = true ↔ P1 (EdS (tgN a.next) (SetB a.next.length k S)) i j)) := hMP
  have HW2 := Lib.hid hW
  have HB2 := Lib.hid hb2
  obtain ⟨aW, cW, hvW⟩ := hW.slice
  subst hvW
  obtain ⟨gW, hgW⟩ := ownsRow_at hW.o
  obtain rfl := hgW hn0
  have d2 := cell_of_row _ _ 2 _ _ _ ((hb2.block zw hz1).trans HBX.out)
  clear hMP hW hb2 hgW
  go_wp2_with (at_make; refine mk_bool rfl _ _ _ Try.underlying55 rfl w2.heap.size _ a.next.length rfl rfl rfl (by omega) (Nat.le_refl _) ?_; intro w3 hown hg1; have HO3 := Lib.hid hown; have HB3 : Hid (Below w2.heap.size w2 w3) := below_of_grown hg1 (fun q e => (nomatch e)) (Nat.le_refl _); clear hown hg1)
  have HO0 : Hid ((w3.alloc (.cells #[] 53)).ownsRow w3.heap.size 53 1 (.slice (some ⟨w3.heap.size, 0, none⟩) 0 0) 0 []) := by
    show World.ownsRow _ _ _ _ _ _ _
    have h := World.ownsRow_lit (base := w3.heap.size) (e := 53) (size := 1) w3 #[] 0 (Nat.le_refl _) (by simp [maxLen]) (by simp)
    simpa using h
  have HB4 : Hid (Below w3.heap.size w3 (w3.alloc (.cells #[] 53))) := bel_box _
  have HL0 : Hid (ML (w3.alloc (.cells #[] 53)) w3.heap.size (.slice (some ⟨w3.heap.size, 0, none⟩) 0 0) [] a.next.length k (([] : List Nat).map (cmpW a S M))) := ML.nil HO0.out
  generalize w3.alloc (.cells #[] 53) = w4 at *
  obtain ⟨D, hD⟩ : ∃ D, D = w2.heap.size := ⟨_, rfl⟩
  have hDlt : D < w3.heap.size := by rw [hD]; exact HO3.out.lt' _ rfl
  rw [← hD] at HO3
  rw [← hD]
  obtain ⟨B, hB⟩ : ∃ B, B = w3.heap.size := ⟨_, rfl⟩
  rw [← hB] at HL0 hDlt
  rw [← hB]
  have HDe := Lib.hid hD
  have HBe := Lib.hid hB
  have hs1 := HB1.out.size
  have hs2 := HB2.out.size
  have HWW : Hid (∀ W, Only (fun q => q = D) w3 W → Below w.heap.size w W) := fun W h => by
    have h1 := HB1.out.trans ((HB2.out.mono hs1).trans (HB3.out.mono (by omega)))
    exact Only.to_below h1 h fun q e => by have e : q = D := e; omega
  have HWZ : Hid (∀ W, Only (fun q => q = D) w3 W → W.heap[zw]? = some (.cells #[.int .i64 a.letters, .int .i64 a.start, .slice (some ⟨bN, oN, none⟩) a.next.length cN, vP] 24)) := fun W h => by
    have h1 := HB2.out.trans (HB3.out.mono hs2)
    exact ((Only.to_below h1 h fun q e => by have e : q = D := e; omega).block zw hz1).trans HBX.out
  have HWM : Hid (∀ W, Only (fun q => q = D) w3 W → MW W w1.heap.size (.slice (some ⟨gW, 0, none⟩) a.next.length cW) valsW a.next.length a.next.length M) := fun W h =>
    (HW2.out.below HB3.out).only h fun q e k => by have e : q = D := e; have := (HW2.out.lt q k).2; omega
  have HD0 : Hid (OB w4 D (.slice (some ⟨D, 0, none⟩) a.next.length a.next.length) (mrow a.next.length (doneW M []))) := by
    show OB _ _ _ _
    have e : mrow a.next.length (doneW M []) = List.replicate a.next.length false := mrow_no a.next.length 0
    rw [e]; exact HO3.out.below HB4.out
  have HF0 : Hid (Only (fun q => q = D) w3 w4) := Only.of_below HB4.out
  have HR0 := Lib.hid (RepW.nil a.next.length M)
  clear hD hB HO0 HB4 HB3 HO3 d2
  go_loopg [7, 8] a.next.length (fun gh c7 c8 wx => ∃ (i : Nat) (outs : List Value) (rs : List Nat), gh = a.next.length - i ∧ c8 = .int .i64 (i : Int) ∧ i ≤ a.next.length ∧ Hid (ML wx B c7 outs a.next.length k (rs.map (cmpW a S M))) ∧ Hid (OB wx D (.slice (some ⟨D, 0, none⟩) a.next.length a.next.length) (mrow a.next.length (doneW M rs))) ∧ Hid (RepW a.next.length M rs i) ∧ Hid (Only (fun q => q = D) w3 wx))
  case atStart => exact ⟨0, [], [], rfl, rfl, by omega, HL0, HD0, HR0, HF0⟩
  case round =>
    clear HL0 HD0 HR0 HF0
    obtain ⟨wo, rfl⟩ : ∃ wo : World, wo = wr := ⟨_, rfl⟩
    obtain ⟨i, outs, rs, hgi, rfl, hin, HL, HDn, HR, HF⟩ := hrel
    have HGI := Lib.hid hgi
    clear hgi
    obtain ⟨aO, cO, hv7⟩ := HL.out.slice
    rw [List.length_map] at hv7
    subst hv7
    have hBwo : B ≤ wo.heap.size := by have h1 := HF.out.size; have h2 := HBe.out; omega
    have b0 := HWZ.out _ HF.out
    have d2 := cell_of_row _ _ 2 _ _ _ b0
    by_cases hi : i < a.next.length
    · as_aux_lemma =>
      have hi2 : (i : Int) < a.next.length := by omega
      have hil : i < (mrow a.next.length (doneW M rs)).length := by rw [mrow_len]; exact hi
      have k1 := HDn.out.at' (mrow_len _ _).symm i hil
      have e1 : (mrow a.next.length (doneW M rs))[i] = doneW M rs i := by simp [mrow]
      rw [e1] at k1
      clear hil e1
      obtain ⟨gJ, kJ, hvJ, m1, m2, -⟩ := (HWM.out _ HF.out).at' hi hi
      clear hvJ
      cases hd : doneW M rs i with
      | true =>
        rw [hd] at k1
        have HRn := Lib.hid (HR.out.skip fun _ => hd)
        clear b0 hd
        go_wp2
        go_roundg (a.next.length - (i + 1))
        case measure => have := HGI.out; omega
        case rel => exact ⟨i + 1, outs, rs, rfl, by go_num, by omega, HL, HDn, HRn, HF⟩
      | false =>
        rw [hd] at k1
        cases hm : M i i with
        | false =>
          rw [hm] at m2
          have HRn := Lib.hid (HR.out.skip fun e => by rw [hm] at e; cases e)
          clear b0 hd hm
          go_wp2
          go_roundg (a.next.length - (i + 1))
          case measure => have := HGI.out; omega
          case rel => exact ⟨i + 1, outs, rs, rfl, by go_num, by omega, HL, HDn, HRn, HF⟩
        | true =>
          rw [hm] at m2
          have HRn := Lib.hid (HR.out.add hi hm hd)
          have HEC := Lib.hid (empty_c wo _ a k (HA.out.below (HWW.out _ HF.out)) HX.out)
          have d0 := cell_of_row _ _ 0 _ _ _ b0
          have d1 := cell_of_row _ _ 1 _ _ _ b0
          have d3 := cell_of_row _ _ 3 _ _ _ b0
          clear b0 hd hm
          go_wp2_with fail
          refine HEC.out.mono ?_
          rintro e wc ⟨vC, valsC, rfl, hC, hbC⟩
          clear HEC d0 d1 d2 d3 k1 m1 m2
          obtain ⟨aC, cC, hvC⟩ := hC.slice
          subst hvC
          obtain ⟨gC, hgC⟩ := ownsRow_at hC.o
          obtain rfl := hgC hn0
          obtain ⟨C, hCe⟩ : ∃ C, C = wo.heap.size := ⟨_, rfl⟩
          rw [← hCe] at hC hbC
          have HCe := Lib.hid hCe
          have HM0 : Hid (MW wc C (.slice (some ⟨gC, 0, none⟩) a.next.length cC) valsC a.next.length k (parM (cmpW a S M i) 0 0)) := hC.congr fun j x _ _ => parM_zero j x
          have HD1 : Hid (OB wc D (.slice (some ⟨D, 0, none⟩) a.next.length a.next.length) (mrow a.next.length (dnP M rs i 0))) := by
            show OB _ _ _ _
            rw [← dnP_zero]
            exact HDn.out.below (by rw [← hCe]; exact hbC)
          have HF1 : Hid (Only (fun q => q = D) wo wc) := Only.of_below (by rw [← hCe]; exact hbC)
          clear hC hbC hgC hCe HDn
          go_wp2
          go_loopg [10] a.next.length (fun gh c10 wx => ∃ (j : Nat), gh = a.next.length - j ∧ c10 = .int .i64 (j : Int) ∧ j ≤ a.next.length ∧ Hid (MW wx C (.slice (some ⟨gC, 0, none⟩) a.next.length cC) valsC a.next.length k (parM (cmpW a S M i) j 0)) ∧ Hid (OB wx D (.slice (some ⟨D, 0, none⟩) a.next.length a.next.length) (mrow a.next.length (dnP M rs i j))) ∧ Hid (Only (fun q => q = D) wo wx))
          case atStart => exact ⟨0, rfl, rfl, by omega, HM0, HD1, HF1⟩
          case round =>
            clear HM0 HD1 HF1
            obtain ⟨j, hgj, rfl, hjn, HMx, HDx, HFx⟩ := hrel
            have HGJ := Lib.hid hgj
            clear hgj
            have HFa := Lib.hid (HF.out.trans HFx.out)
            have b0 := HWZ.out _ HFa.out
            have d2 := cell_of_row _ _ 2 _ _ _ b0
            by_cases hj : j < a.next.length
            · as_aux_lemma =>
              have hj2 : (j : Int) < a.next.length := by omega
              obtain ⟨g1, kk1, hv1, m1, m2, -⟩ := (HWM.out _ HFa.out).at' hi hj
              obtain ⟨g2, kk2, hv2, m3, m4, -⟩ := (HWM.out _ HFa.out).at' hj hi
              clear hv1 hv2
              cases h1 : M i j with
              | false =>
                rw [h1] at m2
                have hcf : conW M i j = false := by simp [conW, h1]
                have HMn : Hid (MW wr C (.slice (some ⟨gC, 0, none⟩) a.next.length cC) valsC a.next.length k (parM (cmpW a S M i) (j + 1) 0)) := HMx.out.congr fun b x _ _ => parM_skip (fun c => by simp [cmpW, hcf]) b x
                have HDn : Hid (OB wr D (.slice (some ⟨D, 0, none⟩) a.next.length a.next.length) (mrow a.next.length (dnP M rs i (j + 1)))) := by show OB _ _ _ _; rw [← dnP_skip _ hcf]; exact HDx.out
                clear b0 h1 hcf
                go_wp2
                go_roundg (a.next.length - (j + 1))
                case measure => have := HGJ.out; omega
                case rel => exact ⟨j + 1, rfl, by go_num, by omega, HMn, HDn, HFx⟩
              | true =>
                rw [h1] at m2
                cases h2 : M j i with
                | false =>
                  rw [h2] at m4
                  have hcf : conW M i j = false := by simp [conW, h2]
                  have HMn : Hid (MW wr C (.slice (some ⟨gC, 0, none⟩) a.next.length cC) valsC a.next.length k (parM (cmpW a S M i) (j + 1) 0)) := HMx.out.congr fun b x _ _ => parM_skip (fun c => by simp [cmpW, hcf]) b x
                  have HDn : Hid (OB wr D (.slice (some ⟨D, 0, none⟩) a.next.length a.next.length) (mrow a.next.length (dnP M rs i (j + 1)))) := by show OB _ _ _ _; rw [← dnP_skip _ hcf]; exact HDx.out
                  clear b0 h1 h2 hcf
                  go_wp2
                  go_roundg (a.next.length - (j + 1))
                  case measure => have := HGJ.out; omega
                  case rel => exact ⟨j + 1, rfl, by go_num, by omega, HMn, HDn, HFx⟩
                | true =>
                  rw [h2] at m4
                  have HCF : Hid (conW M i j = true) := by show _ = _; simp [conW, h1, h2]
                  have hjl : j < (mrow a.next.length (dnP M rs i j)).length := by rw [mrow_len]; exact hj
                  have k1 := HDx.out.at' (mrow_len _ _).symm j hjl
                  have ho := HDx.out
                  unfold OB at ho
                  rw [mrow_len] at ho
                  have f1 : wr.frozen? ⟨D, j, none⟩ = false := World.ownsRow.frozenAt ho j
                  have HDn : Hid (OB (wr.setCell ⟨D, j, none⟩ (.bool true)) D (.slice (some ⟨D, 0, none⟩) a.next.length a.next.length) (mrow a.next.length (dnP M rs i (j + 1)))) := by
                    have h := OB.set HDx.out (mrow_len _ _).symm j true
                    rw [dnP_set _ HCF.out] at h
                    exact h
                  have hS : Only (fun q => q = D) wr (wr.setCell ⟨D, j, none⟩ (.bool true)) := Only.set _ _ _ rfl
                  have HFn := Lib.hid (HFx.out.trans hS)
                  have HMn := Lib.hid (HMx.out.only hS fun q e k => by have e : q = D := e; have := (HMx.out.lt q k).1; have := HCe.out; omega)
                  generalize (mrow a.next.length (dnP M rs i j))[j] = old at *
                  clear b0 h1 h2 hS ho hjl
                  go_upto_region 14 with (fail)
                  generalize wr.setCell ⟨D, j, none⟩ (.bool true) = wj at *
                  clear d2 m1 m2 m3 m4 k1 f1 HMx HDx HFx HFa
                  go_wp2
                  go_loopg [11] k (fun gh c11 wx => ∃ (x : Nat), gh = k - x ∧ c11 = .int .i64 (x : Int) ∧ x ≤ k ∧ Hid (MW wx C (.slice (some ⟨gC, 0, none⟩) a.next.length cC) valsC a.next.length k (parM (cmpW a S M i) j x)) ∧ Hid (OB wx D (.slice (some ⟨D, 0, none⟩) a.next.length a.next.length) (mrow a.next.length (dnP M rs i (j + 1)))) ∧ Hid (Only (fun q => q = D) wo wx))
                  case atStart => exact ⟨0, rfl, rfl, by omega, HMn, HDn, HFn⟩
                  case round =>
                    clear HMn HDn HFn
                    obtain ⟨x, hgx, rfl, hxk, HMx, HDx, HFx⟩ := hrel
                    have HGX := Lib.hid hgx
                    clear hgx
                    have HFa := Lib.hid (HF.out.trans HFx.out)
                    have HWx := Lib.hid (HWW.out _ HFa.out)
                    have b0 := HWZ.out _ HFa.out
                    have d0 := cell_of_row _ _ 0 _ _ _ b0
                    by_cases hx : x < k
                    · as_aux_lemma =>
                      have hx2 : (x : Int) < a.letters := by have := HLk.out; omega
                      have hx3 : (x : Int) < k := by omega
                      have d2 := cell_of_row _ _ 2 _ _ _ b0
                      obtain ⟨q1, q2⟩ := HVN.out j hj
                      obtain ⟨aR, cR, hVs⟩ := q2.shape
                      rw [(HX.out.ln j hj).1] at hVs
                      rw [hVs] at q1 q2
                      obtain ⟨bR, oR, had, -, hdt⟩ := q2.dat
                      obtain rfl := had (by omega)
                      have hdt : ∀ x, x < k → w.cell? ⟨bR, oR + x, none⟩ = some (.int .i64 ((a.next.getD j []).getD x 0)) := hdt
                      have q1 := cellB HWx.out q1
                      have r1 := cellB HWx.out (hdt x hx)
                      have hy := HX.out.nx j x hj hx
                      have HNx : Hid (nxI a j x = ((a.next.getD j []).getD x 0).toNat) := rfl
                      generalize (a.next.getD j []).getD x 0 = y at *
                      obtain ⟨t, rfl⟩ : ∃ t : Nat, y = (t : Int) := ⟨y.toNat, by omega⟩
                      have HNx : Hid (nxI a j x = t) := by have := HNx.out; rwa [Int.toNat_natCast] at this
                      have ht2 : (t : Int) < a.next.length := hy.2
                      have ht : t < a.next.length := by omega
                      obtain ⟨g1, kk1, hv1, m1, m2, -⟩ := (HWM.out _ HFa.out).at' hi ht
                      obtain ⟨g2, kk2, hv2, m3, m4, -⟩ := (HWM.out _ HFa.out).at' ht hi
                      obtain ⟨g3, kk3, hv3, m5, m6, -⟩ := (HIn.out.below HWx.out).at' hj hx
                      obtain ⟨g4, kk4, hv4, m7, m8, m9⟩ := HMx.out.at' hj hx
                      have HMn : Hid (∀ b, b = cmpW a S M i j x → MW (wr.setCell ⟨g4, x, none⟩ (.bool b)) C (.slice (some ⟨gC, 0, none⟩) a.next.length cC) valsC a.next.length k (parM (cmpW a S M i) j (x + 1))) := fun b hb => by
                        have h := HMx.out.set hj hv4 (x := x) b
                        rw [hb] at h ⊢
                        exact h.congr fun b c _ _ => parM_put (cmpW a S M i) j x b c
                      have HDn : Hid (∀ b, OB (wr.setCell ⟨g4, x, none⟩ (.bool b)) D (.slice (some ⟨D, 0, none⟩) a.next.length a.next.length) (mrow a.next.length (dnP M rs i (j + 1)))) := fun b => by
                        refine OB_set_ne HDx.out fun e => ?_
                        have e : D = g4 := Option.some.inj e
                        have := (HMx.out.lt g4 (.inr ⟨j, hj, by rw [hv4]; rfl⟩)).1
                        have := HCe.out
                        omega
                      have HFn : Hid (∀ b, Only (fun q => q = D) wo (wr.setCell ⟨g4, x, none⟩ (.bool b))) := fun b => by
                        have h1 : C ≤ g4 := (HMx.out.lt g4 (.inr ⟨j, hj, by rw [hv4]; rfl⟩)).1
                        refine Only.chain HFx.out (Only.set (S := fun q => q = g4) _ _ _ rfl) fun q hq e => ?_
                        have e : q = g4 := e
                        have := HCe.out
                        omega
                      have HV : Hid (cmpW a S M i j x = (S j x && (M i t && M t i))) := by show _ = _; unfold cmpW; rw [HCF.out, HNx.out]; rfl
                      generalize parM (cmpW a S M i) j x j x = old at *
                      clear b0 hv1 hv2 hv3 hv4 hdt hy hVs had q2 HMx HDx HFx HWx HFa
                      cases h1 : S j x with
                      | false =>
                        rw [h1] at m6
                        have HMn := Lib.hid ((HMn.out false (by rw [HV.out, h1]; rfl)).below (Below.drew (Below.refl _ _)))
                        have HDn := Lib.hid ((HDn.out false).below (Below.drew (Below.refl _ _)))
                        have HFn := Lib.hid ((HFn.out false).trans (Only.of_below (Below.drew (Below.refl _ _))))
                        clear h1 m1 m2 m3 m4
                        go_upto_region 18 with (fail)
                        go_region
                        go_wp2
                        go_roundg (k - (x + 1))
                        case measure => have := HGX.out; omega
                        case rel => exact ⟨x + 1, rfl, by go_num, by omega, HMn, HDn, HFn⟩
                      | true =>
                        rw [h1] at m6
                        cases h2 : M i t with
                        | false =>
                          rw [h2] at m2
                          have HMn := Lib.hid ((HMn.out false (by rw [HV.out, h1, h2]; rfl)).below (Below.drew (Below.refl _ _)))
                          have HDn := Lib.hid ((HDn.out false).below (Below.drew (Below.refl _ _)))
                          have HFn := Lib.hid ((HFn.out false).trans (Only.of_below (Below.drew (Below.refl _ _))))
                          clear h1 h2 m3 m4
                          go_upto_region 18 with (fail)
                          go_region
                          go_wp2
                          go_roundg (k - (x + 1))
                          case measure => have := HGX.out; omega
                          case rel => exact ⟨x + 1, rfl, by go_num, by omega, HMn, HDn, HFn⟩
                        | true =>
                          rw [h2] at m2
                          cases h3 : M t i with
                          | false =>
                            rw [h3] at m4
                            have HMn := Lib.hid ((HMn.out false (by rw [HV.out, h1, h2, h3]; rfl)).below (Below.drew (Below.refl _ _)))
                            have HDn := Lib.hid ((HDn.out false).below (Below.drew (Below.refl _ _)))
                            have HFn := Lib.hid ((HFn.out false).trans (Only.of_below (Below.drew (Below.refl _ _))))
                            clear h1 h2 h3
                            go_upto_region 18 with (fail)
                            go_region
                            go_wp2
                            go_roundg (k - (x + 1))
                            case measure => have := HGX.out; omega
                            case rel => exact ⟨x + 1, rfl, by go_num, by omega, HMn, HDn, HFn⟩
                          | true =>
                            rw [h3] at m4
                            have HMn := Lib.hid ((HMn.out true (by rw [HV.out, h1, h2, h3]; rfl)).below (Below.drew (Below.refl _ _)))
                            have HDn := Lib.hid ((HDn.out true).below (Below.drew (Below.refl _ _)))
                            have HFn := Lib.hid ((HFn.out true).trans (Only.of_below (Below.drew (Below.refl _ _))))
                            clear h1 h2 h3
                            go_upto_region 18 with (fail)
                            go_region
                            go_wp2
                            go_roundg (k - (x + 1))
                            case measure => have := HGX.out; omega
                            case rel => exact ⟨x + 1, rfl, by go_num, by omega, HMn, HDn, HFn⟩
                    · as_aux_lemma =>
                      obtain rfl : x = k := by omega
                      have hx2 : ¬ (x : Int) < a.letters := by have := HLk.out; omega
                      have hx3 : a.letters ≤ (x : Int) := by have := HLk.out; omega
                      have HMn : Hid (MW wr C (.slice (some ⟨gC, 0, none⟩) a.next.length cC) valsC a.next.length x (parM (cmpW a S M i) (j + 1) 0)) := HMx.out.congr fun b c _ hc => parM_row x b c hc
                      clear b0
                      go_wp2
                      go_roundg (a.next.length - (j + 1))
                      case measure => have := HGJ.out; omega
                      case rel => exact ⟨j + 1, rfl, by go_num, by omega, HMn, HDx, HFx⟩
            · as_aux_lemma =>
              obtain rfl : j = a.next.length := by omega
              have HLx := Lib.hid (HL.out.only HFx.out fun q h1 _ e => by have e : q = D := e; omega)
              have hoL := HLx.out.o
              rw [List.length_map] at hoL
              have hBr : B ≤ wr.heap.size := by have h1 := HFx.out.size; omega
              have HMe : Hid (MW wr C (.slice (some ⟨gC, 0, none⟩) a.next.length cC) valsC a.next.length k (cmpW a S M i)) := HMx.out.congr fun b c hb _ => parM_all a.next.length b c hb
              have HDe' : Hid (OB wr D (.slice (some ⟨D, 0, none⟩) a.next.length a.next.length) (mrow a.next.length (doneW M (rs ++ [i])))) := by show OB _ _ _ _; rw [← dnP_all]; exact HDx.out
              have HCt : Hid (∀ q, (.slice aO rs.length cO : Value).ownBlock = some q → q < C) := fun q e => by have := (World.ownsRow.lt HL.out.o q e).2; have := HCe.out; omega
              have hlen : rs.length < 5864062014000 := by have := HR.out.sz; omega
              have HBC : Hid (B ≤ C) := by show _ ≤ _; have := HCe.out; omega
              clear b0
              go_wp2_with (at_builtin; refine app_moves rfl _ _ (.slice (some ⟨gC, 0, none⟩) a.next.length cC) rfl B _ _ _ hoL rfl _ (by simp) rfl rfl hlen hBr ?_; intro v' w' hown' hg hmv; have HG := Lib.hid hg; have HLn := Lib.hid (HLx.out.add (by rw [List.length_map]; exact hown') hg hmv HMe.out HBC.out HCt.out); clear hown' hg hmv hoL)
              have hs5 := (Only.of_grown HG.out)
              have HDn : Hid (OB w' D (.slice (some ⟨D, 0, none⟩) a.next.length a.next.length) (mrow a.next.length (doneW M (rs ++ [i])))) := HDe'.out.only hs5 fun q e k => by
                have e : D = q := Option.some.inj e
                have := (World.ownsRow.lt HLx.out.o q k).1
                omega
              have HFn : Hid (Only (fun q => q = D) w3 w') := Only.chain HFa.out hs5 fun q hq e => by
                have := (World.ownsRow.lt HLx.out.o q e).1
                have := HBe.out
                omega
              rw [← List.map_singleton (f := cmpW a S M) (a := i), ← List.map_append] at HLn
              go_roundg (a.next.length - (i + 1))
              case measure => have := HGI.out; omega
              case rel => exact ⟨i + 1, _, rs ++ [i], rfl, by go_num, by omega, HLn, HDn, HRn, HFn⟩
    · as_aux_lemma =>
      obtain rfl : i = a.next.length := by omega
      clear b0
      go_wp2
      go_ret
      exact ⟨_, outs, rs, M, rfl, HL.out.base (by have h1 := HDe.out; have h2 := HBe.out; omega), HWW.out _ HF.out, HR.out, HMP.out⟩

end Go.Proofs.Ytdkpdpcecjcmcaa
