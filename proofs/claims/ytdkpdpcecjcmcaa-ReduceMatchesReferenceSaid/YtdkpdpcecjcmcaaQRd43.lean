/- What lower does. -/
import Derived.BigRegion
import Derived.Test.YtdkpdpcecjcmcaaQRd40
import Derived.Test.YtdkpdpcecjcmcaaQRd31
namespace Go.Proofs.Ytdkpdpcecjcmcaa
open Go.RowKit

def LowerOut (w : World) (a : Au) (k B : Nat) (S : Nat → Nat → Bool) (b : Int) (P : Nat → Nat → Int) (vP : Value) (valsP : List Value) (e : Ending) (w' : World) : Prop :=
  ∃ P', e = .returned (.tuple #[]) ∧ MI w' B vP valsP a.next.length k P' ∧ Only (fun q => hotI vP valsP a.next.length q) w w' ∧ LowD a k S b P P'
def LowerC (w0 : World) (v : Value) (a : Au) (k B N : Nat) : Prop := ∀ (w : World) (vS vP : Value) (valsS valsP : List Value) (S : Nat → Nat → Bool) (P : Nat → Nat → Int) (b : Int) (Bi : Nat),
  Below w0.heap.size w0 w → MW w Bi vS valsS a.next.length k S → MI w B vP valsP a.next.length k P → (∀ q, hotM vS valsS a.next.length q → ¬ hotI vP valsP a.next.length q) → 0 ≤ b → cntM (mvsU k a.next.length 0) (SetB a.next.length k S) = N → b + N ≤ 192000 →
  Calls Try.prog 40 #[v, vS, .int .i64 b, vP] w (LowerOut w a k B S b P vP valsP)

set_option maxRecDepth 100000 in
set_option maxHeartbeats 8000000 in
theorem lower_step (w0 : World) (v : Value) (a : Au) (k B N : Nat) (ha : IsAuto w0 v a) (hA : AuV a k) (hB : w0.heap.size ≤ B) (ih : ∀ N', N' < N → LowerC w0 v a k B N') : LowerC w0 v a k B N := by
  intro w vS vP valsS valsP S P b Bi h0 hS hP hdis hb0 hN hbN
  have HA := Lib.hid ha
  have HIH := Lib.hid ih
  obtain ⟨vN, vQ, rfl, hI, hNx, hQ⟩ := ha
  have HX := Lib.hid hA
  have HLk := Lib.hid hA.L
  have hk1 : 1 ≤ k ∧ k ≤ 64 := hA.k1
  have hn0 : 0 < a.next.length := by have := hA.n1; omega
  have hn3 : a.next.length ≤ 3000 := hA.n1.2
  obtain ⟨aQ, cQ, bQ, oQ, VQ, hvQ, hdQ, hmQ, hVQ⟩ := hQ.data
  rw [hA.pn] at hvQ hdQ
  have HVQ : Hid (∀ j, j < a.next.length → w0.cell? ⟨bQ, oQ + j, none⟩ = some (VQ j) ∧ IsInts w0 (VQ j) (a.prio.getD j [])) := fun j hj => hVQ j (by rw [hA.pn]; exact hj)
  obtain rfl := hdQ hn0
  subst hvQ
  obtain ⟨aI, cI, hvI⟩ := hS.slice
  subst hvI
  obtain ⟨gI, hgI⟩ := ownsRow_at hS.o
  obtain rfl := hgI hn0
  obtain ⟨aP, cP, hvP⟩ := hP.slice
  subst hvP
  obtain ⟨gP, hgP⟩ := ownsRow_at hP.o
  obtain rfl := hgP hn0
  have hB0 : B ≤ w.heap.size := by have := hP.lt gP (.inl rfl); omega
  have HDI := Lib.hid hdis
  have hHB : ∀ q, hotI (.slice (some ⟨gP, 0, none⟩) a.next.length cP) valsP a.next.length q → B ≤ q ∧ q < w.heap.size := fun q e => hP.lt q e
  have bx := heap_alloc_new w (.cells #[.int .i64 a.letters, .int .i64 a.start, vN, .slice (some ⟨bQ, oQ, none⟩) a.next.length cQ] 24)
  have hb1 : Below w.heap.size w (w.alloc (.cells #[.int .i64 a.letters, .int .i64 a.start, vN, .slice (some ⟨bQ, oQ, none⟩) a.next.length cQ] 24)) := bel_box _
  have HBX := Lib.hid bx
  have HS1 := Lib.hid (hS.below hb1)
  have HP1 := Lib.hid (hP.below hb1)
  have HB1 := Lib.hid hb1
  have h01 := Lib.hid (h0.trans (hb1.mono h0.size))
  clear hI hNx hQ hVQ hdQ hA bx hb1 hS hP hgI hgP ih hdis
  go_enter Try.func40, Try.ntmps40
  go_upto_region 1 with (fail)
  generalize w.alloc (.cells #[.int .i64 a.letters, .int .i64 a.start, vN, .slice (some ⟨bQ, oQ, none⟩) a.next.length cQ] 24) = w1 at *
  obtain ⟨zw, hzw⟩ : ∃ zw, zw = w.heap.size := ⟨_, rfl⟩
  rw [← hzw] at HBX
  rw [← hzw]
  have HZW := Lib.hid hzw
  have hz1 : zw < w1.heap.size := (Array.getElem?_eq_some_iff.1 HBX.out).1
  obtain ⟨H, hH⟩ : ∃ H : Nat → Prop, H = fun q => hotI (.slice (some ⟨gP, 0, none⟩) a.next.length cP) valsP a.next.length q := ⟨_, rfl⟩
  have HH := Lib.hid hH
  have HHB : Hid (∀ q, H q → B ≤ q ∧ q < zw) := fun q e => by rw [hH] at e; rw [hzw]; exact hHB q e
  have HWA : Hid (∀ W, Only H w1 W → IsAuto W (.agg #[.int .i64 a.letters, .int .i64 a.start, vN, .slice (some ⟨bQ, oQ, none⟩) a.next.length cQ]) a) := fun W h =>
    HA.out.below (Only.to_below h01.out h fun q e => Nat.le_trans hB (HHB.out q e).1)
  have HWQ : Hid (∀ W, Only H w1 W → Below w0.heap.size w0 W) := fun W h => Only.to_below h01.out h fun q e => Nat.le_trans hB (HHB.out q e).1
  have HWZ : Hid (∀ W, Only H w1 W → W.heap[zw]? = some (.cells #[.int .i64 a.letters, .int .i64 a.start, vN, .slice (some ⟨bQ, oQ, none⟩) a.next.length cQ] 24)) := fun W h =>
    (h.block zw hz1 fun e => by have := (HHB.out zw e).2; omega).trans HBX.out
  have HWS : Hid (∀ W, Only H w1 W → MW W Bi (.slice (some ⟨gI, 0, none⟩) a.next.length cI) valsS a.next.length k S) := fun W h =>
    HS1.out.only h fun q e k => by rw [hH] at e; exact HDI.out q k e
  have HP0 : Hid (MI w1 B (.slice (some ⟨gP, 0, none⟩) a.next.length cP) valsP a.next.length k (parI (bndM S b P) P 0 0)) := HP1.out.congr fun i x _ _ => parI_zero i x
  have HF0 : Hid (Only H w1 w1) := Only.refl _ _
  clear hH hHB hzw HS1 HP1
  go_wp2
  go_loopg [8] a.next.length (fun gh c8 wx => ∃ (i : Nat), gh = a.next.length - i ∧ c8 = .int .i64 (i : Int) ∧ i ≤ a.next.length ∧ Hid (MI wx B (.slice (some ⟨gP, 0, none⟩) a.next.length cP) valsP a.next.length k (parI (bndM S b P) P i 0)) ∧ Hid (Only H w1 wx))
  case atStart => exact ⟨0, rfl, rfl, by omega, HP0, HF0⟩
  case round =>
    clear HP0 HF0
    obtain ⟨i, hgi, rfl, hin, HPx, HF⟩ := hrel
    have HGI := Lib.hid hgi
    clear hgi
    by_cases hi : i < a.next.length
    · as_aux_lemma =>
      have hi2 : (i : Int) < a.next.length := by omega
      go_wp2
      go_loopg [9] k (fun gh c9 wx => ∃ (x : Nat), gh = k - x ∧ c9 = .int .i64 (x : Int) ∧ x ≤ k ∧ Hid (MI wx B (.slice (some ⟨gP, 0, none⟩) a.next.length cP) valsP a.next.length k (parI (bndM S b P) P i x)) ∧ Hid (Only H w1 wx))
      case atStart => exact ⟨0, rfl, rfl, by omega, HPx, HF⟩
      case round =>
        clear HPx HF
        obtain ⟨x, hgx, rfl, hxk, HPx, HF⟩ := hrel
        have HGX := Lib.hid hgx
        clear hgx
        have HSx := HWS.out _ HF.out
        obtain ⟨gJ0, kJ0, -, m0, -⟩ := HSx.at' hi (x := 0) (by omega)
        by_cases hx : x < k
        · as_aux_lemma =>
          have hx2 : (x : Int) < k := by omega
          clear m0
          obtain ⟨g1, kk1, -, m1, m2, -⟩ := HSx.at' hi hx
          obtain ⟨g2, kk2, hv2, m3, m4, m5⟩ := HPx.out.at' hi hx
          cases hs : S i x with
          | false =>
            rw [hs] at m2
            have HPn : Hid (MI wr B (.slice (some ⟨gP, 0, none⟩) a.next.length cP) valsP a.next.length k (parI (bndM S b P) P i (x + 1))) := HPx.out.congr fun b c _ _ => parI_keep (by simp [bndM, hs]) b c
            clear hs m3 m4 m5 HSx
            go_wp2
            go_roundg (k - (x + 1))
            case measure => have := HGX.out; omega
            case rel => exact ⟨x + 1, rfl, by go_num, by omega, HPn, HF⟩
          | true =>
            rw [hs] at m2
            have HPn : Hid (MI (wr.setCell ⟨g2, x, none⟩ (.int .i64 b)) B (.slice (some ⟨gP, 0, none⟩) a.next.length cP) valsP a.next.length k (parI (bndM S b P) P i (x + 1))) :=
              (HPx.out.set hi hv2 b).congr fun c d _ _ => by have := parI_put (bndM S b P) P i x c d; rwa [show bndM S b P i x = b by simp [bndM, hs]] at this
            have HFn : Hid (Only H w1 (wr.setCell ⟨g2, x, none⟩ (.int .i64 b))) := HF.out.trans (Only.set _ _ _ (by rw [HH.out]; exact .inr ⟨i, hi, by rw [hv2]; rfl⟩))
            generalize parI (bndM S b P) P i x i x = old at *
            clear hs HSx hv2
            go_wp2
            go_roundg (k - (x + 1))
            case measure => have := HGX.out; omega
            case rel => exact ⟨x + 1, rfl, by go_num, by omega, HPn, HFn⟩
        · as_aux_lemma =>
          obtain rfl : x = k := by omega
          have HPn : Hid (MI wr B (.slice (some ⟨gP, 0, none⟩) a.next.length cP) valsP a.next.length x (parI (bndM S b P) P (i + 1) 0)) := HPx.out.congr fun b c _ hc => parI_row b c hc
          clear HSx
          go_wp2
          go_roundg (a.next.length - (i + 1))
          case measure => have := HGI.out; omega
          case rel => exact ⟨i + 1, rfl, by go_num, by omega, HPn, HF⟩
    · as_aux_lemma =>
      obtain rfl : i = a.next.length := by omega
      have HPe : Hid (MI wr B (.slice (some ⟨gP, 0, none⟩) a.next.length cP) valsP a.next.length k (bndM S b P)) := HPx.out.congr fun c d hc _ => parI_all c d hc
      have HCC := Lib.hid (Components_c wr _ _ a k Bi valsS S (HWA.out _ HF.out) HX.out (HWS.out _ HF.out))
      have b0 := HWZ.out _ HF.out
      have d0 := cell_of_row _ _ 0 _ _ _ b0
      have d1 := cell_of_row _ _ 1 _ _ _ b0
      have d2 := cell_of_row _ _ 2 _ _ _ b0
      have d3 := cell_of_row _ _ 3 _ _ _ b0
      obtain ⟨wa, hwa⟩ : ∃ wa : World, wa = wr := ⟨_, rfl⟩
      clear HPx b0
      go_wp2_with fail
      refine HCC.out.mono ?_
      rintro e wb ⟨vO, outs, rs, M, rfl, hL, hbb, hR, hPM⟩
      clear HCC d0 d1 d2 d3
      have HPM : Hid (PathM a k S M) := hPM
      have HRW := Lib.hid hR
      obtain ⟨aO, cO, hvO⟩ := hL.slice
      rw [List.length_map] at hvO
      subst hvO
      have hLo := hL.o
      rw [List.length_map] at hLo
      obtain ⟨gO, hgO⟩ := ownsRow_at hLo
      have HGO : Hid (0 < rs.length → aO = some ⟨gO, 0, none⟩) := hgO
      obtain ⟨C, hCe⟩ : ∃ C, C = wr.heap.size := ⟨_, rfl⟩
      rw [← hCe] at hL hbb
      have hzC : zw < C := by have := HF.out.size; omega
      have HL0 := Lib.hid hL
      have HP0 := Lib.hid (HPe.out.below (by rw [← hCe]; exact hbb))
      have HF0 : Hid (Only H w1 wb) := HF.out.trans (Only.of_below (by rw [← hCe]; exact hbb))
      have HLP0 : Hid (LowP a k S M b P (rs.take 0) (bndM S b P)) := LowP.start b P
      clear hPM hR hLo hgO hL hbb hCe HPe HF HGI hi hin
      go_wp2
      go_loopg [11] rs.length (fun gh c11 wx => ∃ (c : Nat) (P1 : Nat → Nat → Int), gh = rs.length - c ∧ c11 = .int .i64 (c : Int) ∧ c ≤ rs.length ∧ Hid (ML wx C (.slice aO rs.length cO) outs a.next.length k (rs.map (cmpW a S M))) ∧ Hid (MI wx B (.slice (some ⟨gP, 0, none⟩) a.next.length cP) valsP a.next.length k P1) ∧ Hid (LowP a k S M b P (rs.take c) P1) ∧ Hid (Only H w1 wx))
      case atStart => exact ⟨0, _, rfl, rfl, by omega, HL0, HP0, HLP0, HF0⟩
      case round =>
        clear HL0 HP0 HLP0 HF0
        obtain ⟨wc, rfl⟩ : ∃ wc : World, wc = wr := ⟨_, rfl⟩
        obtain ⟨c, P1, hgc, rfl, hcn, HL, HPc, HLP, HF⟩ := hrel
        have HGC := Lib.hid hgc
        clear hgc
        by_cases hc : c < rs.length
        · as_aux_lemma =>
          have hc2 : (c : Int) < rs.length := by omega
          have hsz : rs.length ≤ a.next.length := HRW.out.sz
          obtain rfl := HGO.out (by omega)
          obtain ⟨r, hr⟩ : ∃ r, r = rs[c] := ⟨_, rfl⟩
          have hrm : r ∈ rs := by rw [hr]; exact List.getElem_mem hc
          have HTK : Hid (rs.take (c + 1) = rs.take c ++ [r]) := by show _ = _; rw [hr]; simp
          have hrn := (HRW.out.lt r hrm).1
          have HEX := Lib.hid (cmp_ex HX.out HPM.out HRW.out hrm)
          obtain ⟨F, hFe⟩ : ∃ F, F = cmpW a S M r := ⟨_, rfl⟩
          have HFe := Lib.hid hFe
          obtain ⟨valsC, hMC, -⟩ := HL.out.e c (by rw [List.length_map]; exact hc)
          have hel : (rs.map (cmpW a S M)).getD c noM = F := by rw [hFe, hr]; simp [List.getD, hc]
          rw [hel] at hMC
          have hLo := HL.out.o
          rw [List.length_map] at hLo
          have hEl : outs[c]? = some (outs.getD c undef) := by
            have h1 : c < outs.length := by rw [HL.out.ln, List.length_map]; exact hc
            rw [getD_lt _ _ _ h1]; simp [h1]
          generalize outs.getD c undef = vC at *
          obtain ⟨aC, cC, hvC⟩ := hMC.slice
          subst hvC
          obtain ⟨gC, hgC⟩ := ownsRow_at hMC.o
          obtain rfl := hgC hn0
          have HMC := Lib.hid hMC
          have HMO : Hid (∀ W, Only H wc W → W.cell? ⟨gO, c, none⟩ = some (.slice (some ⟨gC, 0, none⟩) a.next.length cC)) := fun W h => by
            have h2 := (HL.out.only h fun q e1 _ e => by have := (HHB.out q e).2; omega).o
            rw [List.length_map] at h2
            rw [World.ownsRow.cellAt h2 c (by omega)]; exact hEl
          have HMW : Hid (∀ W, Only H wc W → MW W C (.slice (some ⟨gC, 0, none⟩) a.next.length cC) valsC a.next.length k F) := fun W h =>
            hMC.only h fun q e k => by have := (HHB.out q e).2; have := (hMC.lt q k).1; omega
          have hm0 : Hid (MinP a F k 0 0 (-1)) := MinP.start a F k
          have HWq := Lib.hid (HWQ.out _ HF.out)
          have b0 := HWZ.out _ HF.out
          have d3 := cell_of_row _ _ 3 _ _ _ b0
          have mO := HMO.out wc (Only.refl _ _)
          clear hr hFe hel hLo hMC hgC b0 hEl
          go_wp2
          go_loopg [12, 13] a.next.length (fun gh c12 c13 wx => ∃ (i : Nat) (K : Int), gh = a.next.length - i ∧ c12 = .int .i64 K ∧ c13 = .int .i64 (i : Int) ∧ i ≤ a.next.length ∧ Hid (MinP a F k i 0 K) ∧ wx = wc)
          case atStart => exact ⟨0, -1, rfl, rfl, rfl, by omega, hm0, rfl⟩
          case round =>
            clear hm0
            obtain ⟨i, K, hgi, rfl, rfl, hin, HK, rfl⟩ := hrel
            have HGI := Lib.hid hgi
            clear hgi
            by_cases hi : i < a.next.length
            · as_aux_lemma =>
              have hi2 : (i : Int) < a.next.length := by omega
              obtain ⟨q1, q2⟩ := HVQ.out i hi
              obtain ⟨aR, cR, hVs⟩ := q2.shape
              rw [(HX.out.ln i hi).2] at hVs
              rw [hVs] at q1 q2
              obtain ⟨bR, oR, had, -, hdt⟩ := q2.dat
              obtain rfl := had (by omega)
              have hdt : ∀ x, x < k → w0.cell? ⟨bR, oR + x, none⟩ = some (.int .i64 ((a.prio.getD i []).getD x 0)) := hdt
              have q1 := cellB HWq.out q1
              obtain ⟨gJ0, kJ0, hvJ0, m0, -⟩ := HMC.out.at' hi (x := 0) (by omega)
              have HQ1 := Lib.hid q1
              have HDT := Lib.hid hdt
              clear q2 hVs had hdt hvJ0 q1
              go_wp2
              go_loopg [12, 14] k (fun gh c12 c14 wx => ∃ (x : Nat) (K : Int), gh = k - x ∧ c12 = .int .i64 K ∧ c14 = .int .i64 (x : Int) ∧ x ≤ k ∧ Hid (MinP a F k i x K) ∧ wx = wr)
              case atStart => exact ⟨0, K, rfl, rfl, rfl, by omega, HK, rfl⟩
              case round =>
                clear HK
                obtain ⟨x, K, hgx, rfl, rfl, hxk, HK, rfl⟩ := hrel
                have HGX := Lib.hid hgx
                clear hgx
                by_cases hx : x < k
                · as_aux_lemma =>
                  have hx2 : (x : Int) < k := by omega
                  obtain ⟨g1, kk1, hv1, m1, m2, -⟩ := HMC.out.at' hi hx
                  have q1 := HQ1.out
                  have r1 := cellB HWq.out (HDT.out x hx)
                  have hp := HX.out.pr i x hi hx
                  have HPR : Hid (prA a (i, x) = (a.prio.getD i []).getD x 0) := rfl
                  generalize (a.prio.getD i []).getD x 0 = y at *
                  clear hv1 m0
                  cases hf : F i x with
                  | false =>
                    rw [hf] at m2
                    have HKn := Lib.hid (HK.out.skip hf)
                    clear hf
                    go_wp2
                    go_roundg (k - (x + 1))
                    case measure => have := HGX.out; omega
                    case rel => exact ⟨x + 1, K, rfl, rfl, by go_num, by omega, HKn, rfl⟩
                  | true =>
                    rw [hf] at m2
                    have hpp : ∀ i' x', Bef i x i' x' → x' < k → 0 ≤ prA a (i', x') := fun i' x' hb hk => (HX.out.pr i' x' (by unfold Bef at hb; omega) hk).1
                    by_cases hlt : K < 0
                    · have HKn := Lib.hid (HK.out.put hx hf (.inl hlt) hpp)
                      rw [HPR.out] at HKn
                      clear hf hpp
                      go_wp2
                      go_roundg (k - (x + 1))
                      case measure => have := HGX.out; omega
                      case rel => exact ⟨x + 1, _, rfl, rfl, by go_num, by omega, HKn, rfl⟩
                    · by_cases hlt2 : y < K
                      · have HKn := Lib.hid (HK.out.put hx hf (.inr (by rw [HPR.out]; exact hlt2)) hpp)
                        rw [HPR.out] at HKn
                        clear hf hpp
                        go_wp2
                        go_roundg (k - (x + 1))
                        case measure => have := HGX.out; omega
                        case rel => exact ⟨x + 1, _, rfl, rfl, by go_num, by omega, HKn, rfl⟩
                      · have HKn := Lib.hid (HK.out.keep (by omega) (by rw [HPR.out]; omega))
                        clear hf hpp
                        go_wp2
                        go_roundg (k - (x + 1))
                        case measure => have := HGX.out; omega
                        case rel => exact ⟨x + 1, K, rfl, rfl, by go_num, by omega, HKn, rfl⟩
                · as_aux_lemma =>
                  obtain rfl : x = k := by omega
                  have HKn := Lib.hid HK.out.row
                  go_wp2
                  go_roundg (a.next.length - (i + 1))
                  case measure => have := HGI.out; omega
                  case rel => exact ⟨i + 1, K, rfl, rfl, by go_num, by omega, HKn, rfl⟩
            · as_aux_lemma =>
              obtain rfl : i = a.next.length := by omega
              have HLM : Hid (LeastM a k F K) := by
                obtain ⟨x, h1, h2⟩ := HEX.out
                exact MinP.done HK.out ⟨r, x, hrn, h1, by rw [HFe.out]; exact h2⟩
              have hK0 : 0 ≤ K ∧ K ≤ 20000 := by
                obtain ⟨⟨i, x, h1, h2, h3, h4⟩, -⟩ := HLM.out
                have h5 := HX.out.pr i x h1 h2
                have h4 : (a.prio.getD i []).getD x 0 = K := h4
                omega
              have HBb : Hid (b ≤ 192000) := by show _ ≤ _; omega
              rcases (show ((b % 2 != K % 2) = false ∧ qB b K = b) ∨ ((b % 2 != K % 2) = true ∧ qB b K = b + 1) by
                by_cases he : b % 2 = K % 2
                · exact .inl ⟨by rw [he]; simp, qB_same he⟩
                · exact .inr ⟨by simp [he], by unfold qB; omega⟩) with ⟨s2, hq⟩ | ⟨s2, hq⟩
              all_goals
                as_aux_lemma =>
                have hbb := HBb.out
                have HQ := Lib.hid hq
                have HEC := Lib.hid (empty_c wr _ a k (HWA.out _ HF.out) HX.out)
                have b0 := HWZ.out _ HF.out
                have d0 := cell_of_row _ _ 0 _ _ _ b0
                have d1 := cell_of_row _ _ 1 _ _ _ b0
                have d2 := cell_of_row _ _ 2 _ _ _ b0
                have HVB : Hid (0 ≤ qB b K ∧ qB b K ≤ b + 1) := ⟨Int.le_trans hb0 (qB_ge b K), qB_le b K⟩
                clear hq b0
                go_wp2_with fail
                refine HEC.out.mono ?_
                rintro e we ⟨vR, valsR, rfl, hRm, hbe⟩
                clear HEC d0 d1 d2 d3 mO s2
                obtain ⟨aR, cR, hvR⟩ := hRm.slice
                subst hvR
                obtain ⟨gR, hgR⟩ := ownsRow_at hRm.o
                obtain rfl := hgR hn0
                obtain ⟨wd, rfl⟩ : ∃ wd : World, wd = wr := ⟨_, rfl⟩
                obtain ⟨C2, hC2⟩ : ∃ C2, C2 = wd.heap.size := ⟨_, rfl⟩
                rw [← hC2] at hRm hbe
                have HC2 := Lib.hid hC2
                have hz2 : zw < C2 := by have := HF.out.size; omega
                have HM0 : Hid (MW we C2 (.slice (some ⟨gR, 0, none⟩) a.next.length cR) valsR a.next.length k (parM (restM a F K) 0 0)) := hRm.congr fun i x _ _ => parM_zero i x
                have HP0 : Hid (MI we B (.slice (some ⟨gP, 0, none⟩) a.next.length cP) valsP a.next.length k (parI (putM a F K (qB b K) P1) P1 0 0)) := (HPc.out.below (by rw [← hC2]; exact hbe)).congr fun i x _ _ => parI_zero i x
                have HF0 : Hid (Only H wd we) := Only.of_below (by rw [← hC2]; exact hbe)
                clear hRm hbe hgR hC2 HPc hi hin HK HGI
                go_wp2
                go_loopg [17] a.next.length (fun gh c17 wx => ∃ (i : Nat), gh = a.next.length - i ∧ c17 = .int .i64 (i : Int) ∧ i ≤ a.next.length ∧ Hid (MW wx C2 (.slice (some ⟨gR, 0, none⟩) a.next.length cR) valsR a.next.length k (parM (restM a F K) i 0)) ∧ Hid (MI wx B (.slice (some ⟨gP, 0, none⟩) a.next.length cP) valsP a.next.length k (parI (putM a F K (qB b K) P1) P1 i 0)) ∧ Hid (Only H wd wx))
                case atStart => exact ⟨0, rfl, rfl, by omega, HM0, HP0, HF0⟩
                case round =>
                  clear HM0 HP0 HF0
                  obtain ⟨i, hgi, rfl, hin, HMx, HPx, HFx⟩ := hrel
                  have HGI := Lib.hid hgi
                  clear hgi
                  have HFa := Lib.hid (HF.out.trans HFx.out)
                  have mO := HMO.out _ HFx.out
                  by_cases hi : i < a.next.length
                  · as_aux_lemma =>
                    have hi2 : (i : Int) < a.next.length := by omega
                    go_wp2
                    go_loopg [18] k (fun gh c18 wx => ∃ (x : Nat), gh = k - x ∧ c18 = .int .i64 (x : Int) ∧ x ≤ k ∧ Hid (MW wx C2 (.slice (some ⟨gR, 0, none⟩) a.next.length cR) valsR a.next.length k (parM (restM a F K) i x)) ∧ Hid (MI wx B (.slice (some ⟨gP, 0, none⟩) a.next.length cP) valsP a.next.length k (parI (putM a F K (qB b K) P1) P1 i x)) ∧ Hid (Only H wd wx))
                    case atStart => exact ⟨0, rfl, rfl, by omega, HMx, HPx, HFx⟩
                    case round =>
                      clear HMx HPx HFx HFa mO
                      obtain ⟨x, hgx, rfl, hxk, HMx, HPx, HFx⟩ := hrel
                      have HGX := Lib.hid hgx
                      clear hgx
                      have HFa := Lib.hid (HF.out.trans HFx.out)
                      have mO := HMO.out _ HFx.out
                      have HMWx := HMW.out _ HFx.out
                      by_cases hx : x < k
                      · as_aux_lemma =>
                        have hx2 : (x : Int) < k := by omega
                        clear HFa mO HMWx
                        obtain ⟨q1, q2⟩ := HVQ.out i hi
                        obtain ⟨aR, cR2, hVs⟩ := q2.shape
                        rw [(HX.out.ln i hi).2] at hVs
                        rw [hVs] at q1 q2
                        obtain ⟨bR, oR, had, -, hdt⟩ := q2.dat
                        obtain rfl := had (by omega)
                        have hdt : ∀ x, x < k → w0.cell? ⟨bR, oR + x, none⟩ = some (.int .i64 ((a.prio.getD i []).getD x 0)) := hdt
                        have HQ1 := Lib.hid q1
                        have HR1 := Lib.hid (hdt x hx)
                        have hp := HX.out.pr i x hi hx
                        have HPR : Hid (prA a (i, x) = (a.prio.getD i []).getD x 0) := rfl
                        clear q1 q2 hVs had hdt
                        generalize (a.prio.getD i []).getD x 0 = y at *
                        cases hf : F i x with
                        | false =>
                          have HPy : Hid (MI wr B (.slice (some ⟨gP, 0, none⟩) a.next.length cP) valsP a.next.length k (parI (putM a F K (qB b K) P1) P1 i (x + 1))) := HPx.out.congr fun c d _ _ => parI_keep (by simp [putM, hf]) c d
                          have HFa := Lib.hid (HF.out.trans HFx.out)
                          have mO := HMO.out _ HFx.out
                          have d3 := cell_of_row _ _ 3 _ _ _ (HWZ.out _ HFa.out)
                          have q1 := cellB (HWQ.out _ HFa.out) HQ1.out
                          have r1 := cellB (HWQ.out _ HFa.out) HR1.out
                          obtain ⟨g1, kk1, -, m1, m2, -⟩ := (HMW.out _ HFx.out).at' hi hx
                          obtain ⟨g4, kk4, hv4, m7, m8, m9⟩ := HMx.out.at' hi hx
                          rw [hf] at m2
                          have HMn : Hid (MW (wr.setCell ⟨g4, x, none⟩ (.bool false)).drew C2 (.slice (some ⟨gR, 0, none⟩) a.next.length cR) valsR a.next.length k (parM (restM a F K) i (x + 1))) := by
                            have h := HMx.out.set hi hv4 (x := x) false
                            refine (h.congr fun b c _ _ => ?_).below (Below.drew (Below.refl _ _))
                            have h2 := parM_put (restM a F K) i x b c
                            rwa [show restM a F K i x = false by simp [restM, hf]] at h2
                          have hg4 : C2 ≤ g4 := (HMx.out.lt g4 (.inr ⟨i, hi, by rw [hv4]; rfl⟩)).1
                          have HPn : Hid (MI (wr.setCell ⟨g4, x, none⟩ (.bool false)).drew B (.slice (some ⟨gP, 0, none⟩) a.next.length cP) valsP a.next.length k (parI (putM a F K (qB b K) P1) P1 i (x + 1))) :=
                            (HPy.out.only (Only.set (S := fun q => q = g4) _ _ _ rfl) fun q e k => by have e : q = g4 := e; have := HHB.out q (by rw [HH.out]; exact k); omega).below (Below.drew (Below.refl _ _))
                          have HFn : Hid (Only H wd (wr.setCell ⟨g4, x, none⟩ (.bool false)).drew) := (Only.chain HFx.out (Only.set (S := fun q => q = g4) _ _ _ rfl) fun q hq e => by have e : q = g4 := e; have := HC2.out; omega).trans (Only.of_below (Below.drew (Below.refl _ _)))
                          generalize parM (restM a F K) i x i x = old at *
                          clear hv4 hg4 HPy HMx HFx HFa HPx hf
                          go_upto_region 34 with (fail)
                          go_region
                          go_wp2
                          go_roundg (k - (x + 1))
                          case measure => have := HGX.out; omega
                          case rel => exact ⟨x + 1, rfl, by go_num, by omega, HMn, HPn, HFn⟩
                        | true =>
                          have hge := HLM.out.2 i x hi hx hf
                          rw [HPR.out] at hge
                          by_cases hy : y = K
                          · have hny : ¬ K < y := by omega
                            obtain ⟨g2, kk2, hv2, m3, m4, m5⟩ := HPx.out.at' hi hx
                            have hS2 : H g2 := by rw [HH.out]; exact .inr ⟨i, hi, by rw [hv2]; rfl⟩
                            have HPy : Hid (MI (wr.setCell ⟨g2, x, none⟩ (.int .i64 (qB b K))) B (.slice (some ⟨gP, 0, none⟩) a.next.length cP) valsP a.next.length k (parI (putM a F K (qB b K) P1) P1 i (x + 1))) :=
                              (HPx.out.set hi hv2 (qB b K)).congr fun c d _ _ => by have h2 := parI_put (putM a F K (qB b K) P1) P1 i x c d; rwa [show putM a F K (qB b K) P1 i x = qB b K by simp [putM, hf, HPR.out, hy]] at h2
                            have hO2 : Only H wr (wr.setCell ⟨g2, x, none⟩ (.int .i64 (qB b K))) := Only.set _ _ _ hS2
                            have HMy := Lib.hid (HMx.out.only hO2 fun q e k => by have := (HHB.out q e).2; have := (HMx.out.lt q k).1; omega)
                            have HFy := Lib.hid (HFx.out.trans hO2)
                            rw [HQ.out] at HMy HFy
                            have HPy2 : Hid (MI (wr.setCell ⟨g2, x, none⟩ (.int .i64 (qB b K))) B (.slice (some ⟨gP, 0, none⟩) a.next.length cP) valsP a.next.length k (parI (putM a F K (qB b K) P1) P1 i (x + 1))) := HPy
                            obtain ⟨bv, hbv⟩ : ∃ bv, bv = qB b K := ⟨_, rfl⟩
                            rw [show (wr.setCell ⟨g2, x, none⟩ (.int .i64 (qB b K))) = wr.setCell ⟨g2, x, none⟩ (.int .i64 bv) by rw [hbv]] at HPy2
                            have hbv2 := hbv
                            rw [HQ.out] at hbv2
                            rw [hbv2] at HPy2
                            have HFa := Lib.hid (HF.out.trans HFx.out)
                            have mO := HMO.out _ HFx.out
                            have d3 := cell_of_row _ _ 3 _ _ _ (HWZ.out _ HFa.out)
                            have q1 := cellB (HWQ.out _ HFa.out) HQ1.out
                            have r1 := cellB (HWQ.out _ HFa.out) HR1.out
                            obtain ⟨g1, kk1, -, m1, m2, -⟩ := (HMW.out _ HFx.out).at' hi hx
                            obtain ⟨g4, kk4, hv4, m7, m8, m9⟩ := HMx.out.at' hi hx
                            rw [hf] at m2
                            generalize parI (putM a F K (qB b K) P1) P1 i x i x = old2 at *
                            clear hv4 HPy hbv hbv2 hO2 hS2 hv2 HPx HMx HFx HFa m7 m8 m9
                            go_upto_region 34 with (fail)
                            generalize wr.setCell ⟨g2, x, none⟩ _ = w5 at *
                            clear mO d3 q1 r1 m1 m2 m3 m4 m5
                            have HFa := Lib.hid (HF.out.trans HFy.out)
                            have mO := HMO.out _ HFy.out
                            have d3 := cell_of_row _ _ 3 _ _ _ (HWZ.out _ HFa.out)
                            have q1 := cellB (HWQ.out _ HFa.out) HQ1.out
                            have r1 := cellB (HWQ.out _ HFa.out) HR1.out
                            obtain ⟨g6, kk6, -, m1, m2, -⟩ := (HMW.out _ HFy.out).at' hi hx
                            obtain ⟨g7, kk7, hv7, m7, m8, m9⟩ := HMy.out.at' hi hx
                            rw [hf] at m2
                            have HMn : Hid (MW (w5.setCell ⟨g7, x, none⟩ (.bool false)).drew C2 (.slice (some ⟨gR, 0, none⟩) a.next.length cR) valsR a.next.length k (parM (restM a F K) i (x + 1))) := by
                              have h := HMy.out.set hi hv7 (x := x) false
                              refine (h.congr fun b c _ _ => ?_).below (Below.drew (Below.refl _ _))
                              have h2 := parM_put (restM a F K) i x b c
                              rwa [show restM a F K i x = false by simp [restM, HPR.out, hny]] at h2
                            have hg7 : C2 ≤ g7 := (HMy.out.lt g7 (.inr ⟨i, hi, by rw [hv7]; rfl⟩)).1
                            have HPn : Hid (MI (w5.setCell ⟨g7, x, none⟩ (.bool false)).drew B (.slice (some ⟨gP, 0, none⟩) a.next.length cP) valsP a.next.length k (parI (putM a F K (qB b K) P1) P1 i (x + 1))) :=
                              (HPy2.out.only (Only.set (S := fun q => q = g7) _ _ _ rfl) fun q e k => by have e : q = g7 := e; have := HHB.out q (by rw [HH.out]; exact k); omega).below (Below.drew (Below.refl _ _))
                            have HFn : Hid (Only H wd (w5.setCell ⟨g7, x, none⟩ (.bool false)).drew) := (Only.chain HFy.out (Only.set (S := fun q => q = g7) _ _ _ rfl) fun q hq e => by have e : q = g7 := e; have := HC2.out; omega).trans (Only.of_below (Below.drew (Below.refl _ _)))
                            generalize parM (restM a F K) i x i x = old3 at *
                            clear hv7 hg7 HPy2 HMy HFy HFa hf hge
                            go_region
                            go_wp2
                            go_roundg (k - (x + 1))
                            case measure => have := HGX.out; omega
                            case rel => exact ⟨x + 1, rfl, by go_num, by omega, HMn, HPn, HFn⟩
                          · have hny : K < y := by omega
                            have HPy : Hid (MI wr B (.slice (some ⟨gP, 0, none⟩) a.next.length cP) valsP a.next.length k (parI (putM a F K (qB b K) P1) P1 i (x + 1))) := HPx.out.congr fun c d _ _ => parI_keep (by simp [putM, HPR.out, hy]) c d
                            have HFa := Lib.hid (HF.out.trans HFx.out)
                            have mO := HMO.out _ HFx.out
                            have d3 := cell_of_row _ _ 3 _ _ _ (HWZ.out _ HFa.out)
                            have q1 := cellB (HWQ.out _ HFa.out) HQ1.out
                            have r1 := cellB (HWQ.out _ HFa.out) HR1.out
                            obtain ⟨g1, kk1, -, m1, m2, -⟩ := (HMW.out _ HFx.out).at' hi hx
                            obtain ⟨g4, kk4, hv4, m7, m8, m9⟩ := HMx.out.at' hi hx
                            rw [hf] at m2
                            have HMn : Hid (MW (wr.setCell ⟨g4, x, none⟩ (.bool true)).drew C2 (.slice (some ⟨gR, 0, none⟩) a.next.length cR) valsR a.next.length k (parM (restM a F K) i (x + 1))) := by
                              have h := HMx.out.set hi hv4 (x := x) true
                              refine (h.congr fun b c _ _ => ?_).below (Below.drew (Below.refl _ _))
                              have h2 := parM_put (restM a F K) i x b c
                              rwa [show restM a F K i x = true by simp [restM, hf, HPR.out, hny]] at h2
                            have hg4 : C2 ≤ g4 := (HMx.out.lt g4 (.inr ⟨i, hi, by rw [hv4]; rfl⟩)).1
                            have HPn : Hid (MI (wr.setCell ⟨g4, x, none⟩ (.bool true)).drew B (.slice (some ⟨gP, 0, none⟩) a.next.length cP) valsP a.next.length k (parI (putM a F K (qB b K) P1) P1 i (x + 1))) :=
                              (HPy.out.only (Only.set (S := fun q => q = g4) _ _ _ rfl) fun q e k => by have e : q = g4 := e; have := HHB.out q (by rw [HH.out]; exact k); omega).below (Below.drew (Below.refl _ _))
                            have HFn : Hid (Only H wd (wr.setCell ⟨g4, x, none⟩ (.bool true)).drew) := (Only.chain HFx.out (Only.set (S := fun q => q = g4) _ _ _ rfl) fun q hq e => by have e : q = g4 := e; have := HC2.out; omega).trans (Only.of_below (Below.drew (Below.refl _ _)))
                            generalize parM (restM a F K) i x i x = old at *
                            clear hv4 hg4 HPy HMx HFx HFa HPx hf hge
                            go_upto_region 34 with (fail)
                            go_region
                            go_wp2
                            go_roundg (k - (x + 1))
                            case measure => have := HGX.out; omega
                            case rel => exact ⟨x + 1, rfl, by go_num, by omega, HMn, HPn, HFn⟩
                      · as_aux_lemma =>
                        obtain rfl : x = k := by omega
                        have HMn : Hid (MW wr C2 (.slice (some ⟨gR, 0, none⟩) a.next.length cR) valsR a.next.length x (parM (restM a F K) (i + 1) 0)) := HMx.out.congr fun b c _ hc => parM_row x b c hc
                        have HPn : Hid (MI wr B (.slice (some ⟨gP, 0, none⟩) a.next.length cP) valsP a.next.length x (parI (putM a F K (qB b K) P1) P1 (i + 1) 0)) := HPx.out.congr fun b c _ hc => parI_row b c hc
                        obtain ⟨gJ0, kJ0, -, m0, -⟩ := HMWx.at' hi (x := 0) (by omega)
                        clear HMWx
                        go_wp2
                        go_roundg (a.next.length - (i + 1))
                        case measure => have := HGI.out; omega
                        case rel => exact ⟨i + 1, rfl, by go_num, by omega, HMn, HPn, HFx⟩
                  · as_aux_lemma =>
                    obtain rfl : i = a.next.length := by omega
                    have HMe : Hid (MW wr C2 (.slice (some ⟨gR, 0, none⟩) a.next.length cR) valsR a.next.length k (restM a F K)) := HMx.out.congr fun b c hb _ => parM_all a.next.length b c hb
                    have HPe : Hid (MI wr B (.slice (some ⟨gP, 0, none⟩) a.next.length cP) valsP a.next.length k (putM a F K (qB b K) P1)) := HPx.out.congr fun b c hb _ => parI_all b c hb
                    obtain rfl := HFe.out
                    have hlt := rest_cnt (l := mvsU k a.next.length 0) (fun m h1 h2 => mvsU_mem.2 ⟨h1, h2⟩) HLM.out
                    rw [hN] at hlt
                    have HLC := Lib.hid (HIH.out _ hlt wr _ _ valsR valsP _ _ (qB b K) C2 (HWQ.out _ HFa.out) HMe.out HPe.out (fun q e k => by have := (HMe.out.lt q e).1; have := HHB.out q (by rw [HH.out]; exact k); omega) HVB.out.1 rfl (by have := HVB.out.2; omega))
                    rw [HQ.out] at HLC
                    have b0 := HWZ.out _ HFa.out
                    have d0 := cell_of_row _ _ 0 _ _ _ b0
                    have d1 := cell_of_row _ _ 1 _ _ _ b0
                    have d2 := cell_of_row _ _ 2 _ _ _ b0
                    have d3 := cell_of_row _ _ 3 _ _ _ b0
                    clear b0 hlt
                    go_wp2_with fail
                    refine HLC.out.mono ?_
                    rintro e w9 ⟨P3, rfl, hP3, hO3, hD3⟩
                    rw [← HQ.out] at hD3
                    rw [← HH.out] at hO3
                    have HFn := Lib.hid (HFa.out.trans hO3)
                    have HLn := Lib.hid (HL.out.only (HFx.out.trans hO3) fun q e1 _ e => by have := (HHB.out q e).2; omega)
                    have HPn := Lib.hid hP3
                    have HLPn := Lib.hid (HLP.out.part HX.out HPM.out hrn HLM.out hD3)
                    rw [← HTK.out] at HLPn
                    clear HLC d0 d1 d2 d3 mO hP3 hO3 hD3
                    go_wp2
                    go_roundg (rs.length - (c + 1))
                    case measure => have := HGC.out; omega
                    case rel => exact ⟨c + 1, P3, rfl, by go_num, by omega, HLn, HPn, HLPn, HFn⟩
        · as_aux_lemma =>
          obtain rfl : c = rs.length := by omega
          have HLD := HLP.out
          rw [List.take_length] at HLD
          have HLD := Lib.hid (HLD.done HX.out HPM.out HRW.out)
          go_wp2
          refine bodyPost_end (results_none rfl _ _ _) rfl ?_
          have h := (Only.of_below (S := H) HB1.out).trans HF.out
          rw [HH.out] at h
          exact ⟨P1, rfl, HPc.out, h, HLD.out⟩

end Go.Proofs.Ytdkpdpcecjcmcaa
