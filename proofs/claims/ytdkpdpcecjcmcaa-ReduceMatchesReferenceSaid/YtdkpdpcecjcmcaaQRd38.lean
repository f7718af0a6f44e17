/- What paths returns. -/
import Derived.Test.YtdkpdpcecjcmcaaQRd30
import Derived.Test.YtdkpdpcecjcmcaaQRdX
namespace Go.Proofs.Ytdkpdpcecjcmcaa
open Go.RowKit

def PathOut (w : World) (a : Au) (k : Nat) (S : Nat → Nat → Bool) (e : Ending) (w' : World) : Prop :=
  ∃ (vo : Value) (vals : List Value) (M : Nat → Nat → Bool), e = .returned vo ∧ MW w' w.heap.size vo vals a.next.length a.next.length M ∧ Below w.heap.size w w' ∧ ∀ i j, i < a.next.length → j < a.next.length → (M i j = true ↔ P1 (EdS (tgN a.next) (SetB a.next.length k S)) i j)

set_option maxRecDepth 100000 in
set_option maxHeartbeats 8000000 in
theorem paths_c (w : World) (v vIn : Value) (a : Au) (k Bi : Nat) (valsI : List Value) (S : Nat → Nat → Bool) (ha : IsAuto w v a) (hA : AuV a k) (hM : MW w Bi vIn valsI a.next.length k S) : Calls Try.prog 58 #[v, vIn] w (PathOut w a k S) := by
  obtain ⟨vN, vP, rfl, hI, hN, hP⟩ := ha
  have HX := Lib.hid hA
  have HLk := Lib.hid hA.L
  have hk1 : 1 ≤ k ∧ k ≤ 64 := hA.k1
  have hn0 : 0 < a.next.length := by have := hA.n1; omega
  have hn3 : a.next.length ≤ 3000 := hA.n1.2
  obtain ⟨aN, cN, bN, oN, V, hvN, hdN, hmN, hVN⟩ := hN.data
  have HVN := Lib.hid hVN
  obtain rfl := hdN hn0
  subst hvN
  obtain ⟨aI, cI, hvI⟩ := hM.slice
  subst hvI
  obtain ⟨gI, hgI⟩ := ownsRow_at hM.o
  obtain rfl := hgI hn0
  have HIn := Lib.hid hM
  have bx := heap_alloc_new w (.cells #[.int .i64 a.letters, .int .i64 a.start, .slice (some ⟨bN, oN, none⟩) a.next.length cN, vP] 24)
  have hb1 : Below w.heap.size w (w.alloc (.cells #[.int .i64 a.letters, .int .i64 a.start, .slice (some ⟨bN, oN, none⟩) a.next.length cN, vP] 24)) := bel_box _
  have HBX := Lib.hid bx
  have HB1 := Lib.hid hb1
  clear hI hN hP hVN hdN hA bx hb1 hM hgI
  go_enter Try.func58, Try.ntmps58
  go_upto_region 1 with (fail)
  generalize w.alloc (.cells #[.int .i64 a.letters, .int .i64 a.start, .slice (some ⟨bN, oN, none⟩) a.next.length cN, vP] 24) = w1 at *
  obtain ⟨zw, hzw⟩ : ∃ zw, zw = w.heap.size := ⟨_, rfl⟩
  rw [← hzw] at HBX
  rw [← hzw]
  have HZW := Lib.hid hzw
  have hz1 : zw < w1.heap.size := (Array.getElem?_eq_some_iff.1 HBX.out).1
  have d2 := cell_of_row _ _ 2 _ _ _ HBX.out
  clear hzw
  go_upto_region 3 with (fail)
  have HO0 : Hid ((w1.alloc (.cells #[] 55)).ownsRow w1.heap.size 55 1 (.slice (some ⟨w1.heap.size, 0, none⟩) 0 0) 0 []) := by
    show World.ownsRow _ _ _ _ _ _ _
    have h := World.ownsRow_lit (base := w1.heap.size) (e := 55) (size := 1) w1 #[] 0 (Nat.le_refl _) (by simp [maxLen]) (by simp)
    simpa using h
  have HB2 : Hid (Below w1.heap.size w1 (w1.alloc (.cells #[] 55))) := bel_box _
  have HM0 := Lib.hid (MW.nil (w1.alloc (.cells #[] 55)) w1.heap.size a.next.length (fun i => edR a S i k) HO0.out)
  generalize w1.alloc (.cells #[] 55) = w2 at *
  obtain ⟨B, hB⟩ : ∃ B, B = w1.heap.size := ⟨_, rfl⟩
  rw [← hB] at HM0 HB2 hz1
  rw [← hB]
  have HBe := Lib.hid hB
  have hwB : w.heap.size ≤ B := by have h1 := HB1.out.size; omega
  clear hB HO0 d2
  have HWW : Hid (∀ W, Below B w1 W → Below w.heap.size w W) := fun W h => HB1.out.trans (h.mono hwB)
  go_wp2
  go_loopg [6, 7] a.next.length (fun gh c6 c7 wx => ∃ (i : Nat) (vals : List Value), gh = a.next.length - i ∧ c7 = .int .i64 (i : Int) ∧ i ≤ a.next.length ∧ Hid (MW wx B c6 vals i a.next.length (fun i => edR a S i k)) ∧ Hid (Below B w1 wx))
  case atStart => exact ⟨0, [], rfl, rfl, by omega, HM0, HB2⟩
  case round =>
    clear HM0 HB2
    obtain ⟨wo, rfl⟩ : ∃ wo : World, wo = wr := ⟨_, rfl⟩
    obtain ⟨i, vals, hgi, rfl, hin, HMo, HBo⟩ := hrel
    have HGI := Lib.hid hgi
    clear hgi
    obtain ⟨aO, cO, hv6⟩ := HMo.out.slice
    subst hv6
    have hBwo : B ≤ wo.heap.size := by have h1 := HBo.out.size; have h2 := HBe.out; omega
    by_cases hi : i < a.next.length
    · as_aux_lemma =>
      have hi2 : (i : Int) < a.next.length := by omega
      obtain ⟨q1, q2⟩ := HVN.out i hi
      obtain ⟨aR, cR, hVs⟩ := q2.shape
      rw [(HX.out.ln i hi).1] at hVs
      rw [hVs] at q1 q2
      obtain ⟨bR, oR, had, -, hdt⟩ := q2.dat
      obtain rfl := had (by omega)
      have HDT : Hid (∀ x, x < k → w.cell? ⟨bR, oR + x, none⟩ = some (.int .i64 ((a.next.getD i []).getD x 0))) := hdt
      have HQ1 := Lib.hid q1
      clear q1 q2 hVs had hdt
      go_wp2_with (at_make; refine mk_bool rfl _ _ _ Try.underlying55 rfl wo.heap.size _ a.next.length rfl rfl rfl (by omega) (Nat.le_refl _) ?_; intro w6 hown hg1; have HO6 := Lib.hid hown; have HB6 : Hid (Below wo.heap.size wo w6) := below_of_grown hg1 (fun q e => (nomatch e)) (Nat.le_refl _); clear hown hg1)
      have HR6 : Hid (OB w6 wo.heap.size (.slice (some ⟨wo.heap.size, 0, none⟩) a.next.length a.next.length) (mrow a.next.length (edR a S i 0))) := by
        show OB _ _ _ _
        have e : mrow a.next.length (edR a S i 0) = List.replicate a.next.length false := mrow_no a.next.length i
        rw [e]; exact HO6.out
      obtain ⟨C, hCe⟩ : ∃ C, C = wo.heap.size := ⟨_, rfl⟩
      rw [← hCe] at HR6 HB6 hBwo
      rw [← hCe]
      have HCe := Lib.hid hCe
      clear hCe HO6
      go_loopg [9] k (fun gh c9 wx => ∃ (x : Nat), gh = k - x ∧ c9 = .int .i64 (x : Int) ∧ x ≤ k ∧ Hid (OB wx C (.slice (some ⟨C, 0, none⟩) a.next.length a.next.length) (mrow a.next.length (edR a S i x))) ∧ Hid (Below C wo wx))
      case atStart => exact ⟨0, rfl, rfl, by omega, HR6, HB6⟩
      case round =>
        clear HR6 HB6
        obtain ⟨x, hgx, rfl, hxk, HRx, HCx⟩ := hrel
        have HGX := Lib.hid hgx
        clear hgx
        have hCw : C ≤ wr.heap.size := by have h1 := HCx.out.size; have h2 := HCe.out; omega
        have HZx : Hid (Below B w1 wr) := HBo.out.trans (HCx.out.mono hBwo)
        have HWx := Lib.hid (HWW.out wr HZx.out)
        have HBX2 := Lib.hid ((HZx.out.block zw hz1).trans HBX.out)
        have c0 := cell_of_row _ _ 0 _ _ _ HBX2.out
        by_cases hx : x < k
        · as_aux_lemma =>
          have hx2 : (x : Int) < a.letters := by have := HLk.out; omega
          have hx3 : (x : Int) < k := by omega
          have c2 := cell_of_row _ _ 2 _ _ _ HBX2.out
          have q1 := cellB HWx.out HQ1.out
          have r1 := cellB HWx.out (HDT.out x hx)
          have hy := HX.out.nx i x hi hx
          have HNx : Hid (nxI a i x = ((a.next.getD i []).getD x 0).toNat) := rfl
          generalize (a.next.getD i []).getD x 0 = y at *
          obtain ⟨t, rfl⟩ : ∃ t : Nat, y = (t : Int) := ⟨y.toNat, by omega⟩
          have HNx : Hid (nxI a i x = t) := by have := HNx.out; rwa [Int.toNat_natCast] at this
          have ht2 : (t : Int) < a.next.length := hy.2
          obtain ⟨gJ, kJ, hvJ, m1, m2, -⟩ := (HIn.out.below HWx.out).at' hi hx
          clear hvJ hy
          cases hs : S i x with
          | true =>
            rw [hs] at m2
            have htl : t < (mrow a.next.length (edR a S i x)).length := by rw [mrow_len]; omega
            have k1 := HRx.out.at' (mrow_len _ _).symm t htl
            have ho := HRx.out
            unfold OB at ho
            rw [mrow_len] at ho
            have f1 : wr.frozen? ⟨C, t, none⟩ = false := World.ownsRow.frozenAt ho t
            have HRn : Hid (OB (wr.setCell ⟨C, t, none⟩ (.bool true)) C (.slice (some ⟨C, 0, none⟩) a.next.length a.next.length) (mrow a.next.length (edR a S i (x + 1)))) := by
              have h := OB.set HRx.out (mrow_len _ _).symm t true
              rw [← HNx.out, edR_set _ hs, HNx.out] at h
              exact h
            have HCn : Hid (Below C wo (wr.setCell ⟨C, t, none⟩ (.bool true))) := HCx.out.trans ((Only.set (S := fun q => q = C) _ _ _ rfl).below C (fun q e => by have : q = C := e; omega) hCw)
            generalize (mrow a.next.length (edR a S i x))[t] = old at *
            clear ho hs htl
            go_wp2
            go_roundg (k - (x + 1))
            case measure => have := HGX.out; omega
            case rel => exact ⟨x + 1, rfl, by go_num, by omega, HRn, HCn⟩
          | false =>
            rw [hs] at m2
            have HRn : Hid (OB wr C (.slice (some ⟨C, 0, none⟩) a.next.length a.next.length) (mrow a.next.length (edR a S i (x + 1)))) := by show OB _ _ _ _; rw [← edR_skip _ hs]; exact HRx.out
            clear hs
            go_wp2
            go_roundg (k - (x + 1))
            case measure => have := HGX.out; omega
            case rel => exact ⟨x + 1, rfl, by go_num, by omega, HRn, HCx⟩
        · as_aux_lemma =>
          obtain rfl : x = k := by omega
          have hx2 : ¬ (x : Int) < a.letters := by have := HLk.out; omega
          have hx3 : a.letters ≤ (x : Int) := by have := HLk.out; omega
          have HMx : Hid (MW wr B (.slice aO i cO) vals i a.next.length (fun i => edR a S i x)) := HMo.out.below (by rw [← HCe.out]; exact HCx.out)
          have hoM := HMx.out.o
          have hBr : B ≤ wr.heap.size := by omega
          have hAy : Hid (∀ q, (.slice (some ⟨C, 0, none⟩) a.next.length a.next.length : Value).ownBlock = some q → ¬ hotM (.slice aO i cO) vals i q) := fun q e1 e2 => by
            have e1 : C = q := Option.some.inj e1
            have h2 := (HMo.out.lt q e2).2
            have h3 := HCe.out
            omega
          go_wp2_with (at_builtin; refine app_browB rfl _ _ (.slice (some ⟨C, 0, none⟩) a.next.length a.next.length) rfl B _ _ _ hoM rfl _ (by simp) rfl rfl (by omega) hBr ?_; intro v' w' hown' hg hmv; have HG := Lib.hid hg; have HMn := Lib.hid (HMx.out.add hown' hg hmv (HRx.out.base hBwo) hAy.out); clear hown' hg hmv hoM)
          have HBn := Lib.hid (HZx.out.trans ((Only.of_grown HG.out).below B (fun q e => (HMx.out.lt q (.inl e)).1) hBr))
          go_roundg (a.next.length - (i + 1))
          case measure => have := HGI.out; omega
          case rel => exact ⟨i + 1, _, rfl, by go_num, by omega, HMn, HBn⟩
    · as_aux_lemma =>
      obtain rfl : i = a.next.length := by omega
      obtain ⟨gO, hgO⟩ := ownsRow_at HMo.out.o
      obtain rfl := hgO hn0
      have HF0 : Hid (FW (EdS (tgN a.next) (SetB a.next.length k S)) a.next.length (fun i => edR a S i k) 0 0 0) := FW.start fun i j hi hj => edR_iff hi
      have HBo2 := HBo
      clear hi HGI hgO hin
      go_wp2
      go_loopg [10] a.next.length (fun gh c10 wx => ∃ (M : Nat → Nat → Bool) (c : Nat), gh = a.next.length - c ∧ c10 = .int .i64 (c : Int) ∧ c ≤ a.next.length ∧ Hid (MW wx B (.slice (some ⟨gO, 0, none⟩) a.next.length cO) vals a.next.length a.next.length M) ∧ Hid (FW (EdS (tgN a.next) (SetB a.next.length k S)) a.next.length M c 0 0) ∧ Hid (Below B w1 wx))
      case atStart => exact ⟨_, 0, rfl, rfl, by omega, HMo, HF0, HBo2⟩
      case round =>
        clear HMo HF0 HBo2 HBo
        obtain ⟨M, c, hgc, rfl, hcn, HM3, HF3, HB3⟩ := hrel
        have HGC := Lib.hid hgc
        clear hgc
        by_cases hc : c < a.next.length
        · as_aux_lemma =>
          have hc2 : (c : Int) < a.next.length := by omega
          go_wp2
          go_loopg [11] a.next.length (fun gh c11 wx => ∃ (M : Nat → Nat → Bool) (i : Nat), gh = a.next.length - i ∧ c11 = .int .i64 (i : Int) ∧ i ≤ a.next.length ∧ Hid (MW wx B (.slice (some ⟨gO, 0, none⟩) a.next.length cO) vals a.next.length a.next.length M) ∧ Hid (FW (EdS (tgN a.next) (SetB a.next.length k S)) a.next.length M c i 0) ∧ Hid (Below B w1 wx))
          case atStart => exact ⟨M, 0, rfl, rfl, by omega, HM3, HF3, HB3⟩
          case round =>
            clear HM3 HF3 HB3
            obtain ⟨M, i, hgi, rfl, hin, HM4, HF4, HB4⟩ := hrel
            have HGI := Lib.hid hgi
            clear hgi
            by_cases hi : i < a.next.length
            · as_aux_lemma =>
              have hi2 : (i : Int) < a.next.length := by omega
              go_wp2
              go_loopg [12] a.next.length (fun gh c12 wx => ∃ (M : Nat → Nat → Bool) (j : Nat), gh = a.next.length - j ∧ c12 = .int .i64 (j : Int) ∧ j ≤ a.next.length ∧ Hid (MW wx B (.slice (some ⟨gO, 0, none⟩) a.next.length cO) vals a.next.length a.next.length M) ∧ Hid (FW (EdS (tgN a.next) (SetB a.next.length k S)) a.next.length M c i j) ∧ Hid (Below B w1 wx))
              case atStart => exact ⟨M, 0, rfl, rfl, by omega, HM4, HF4, HB4⟩
              case round =>
                clear HM4 HF4 HB4
                obtain ⟨M, j, hgj, rfl, hjn, HM5, HF5, HB5⟩ := hrel
                have HGJ := Lib.hid hgj
                clear hgj
                have hBs : B ≤ wr.heap.size := by have h1 := HB5.out.size; have h2 := HBe.out; omega
                by_cases hj : j < a.next.length
                · as_aux_lemma =>
                  have hj2 : (j : Int) < a.next.length := by omega
                  obtain ⟨g1, k1, hv1, m1, m2, -⟩ := HM5.out.at' hi hc
                  obtain ⟨g2, k2, hv2, m3, m4, -⟩ := HM5.out.at' hc hj
                  obtain ⟨g3, k3, hv3, m5, m6, m7⟩ := HM5.out.at' hi hj
                  have hgg : g3 = g1 ∧ k3 = k1 := by
                    rw [hv1] at hv3
                    injection hv3 with e1 e2 e3
                    injection e1 with e1
                    injection e1 with e1
                    exact ⟨e1.symm, e3.symm⟩
                  obtain ⟨rfl, rfl⟩ := hgg
                  have hge : B ≤ g3 := (HM5.out.lt g3 (.inr ⟨i, hi, by rw [hv1]; rfl⟩)).1
                  have HV3 := Lib.hid hv3
                  clear hv1 hv2 hv3 m5
                  cases e1 : M i c with
                  | false =>
                    have HFn := Lib.hid (HF5.out.keep hc hi hj fun h => by rw [e1] at h; cases h.1)
                    rw [e1] at m2
                    clear e1
                    go_wp2
                    go_roundg (a.next.length - (j + 1))
                    case measure => have := HGJ.out; omega
                    case rel => exact ⟨M, j + 1, rfl, by go_num, by omega, HM5, HFn, HB5⟩
                  | true =>
                    cases e2 : M c j with
                    | false =>
                      have HFn := Lib.hid (HF5.out.keep hc hi hj fun h => by rw [e2] at h; cases h.2)
                      rw [e1] at m2
                      rw [e2] at m4
                      clear e1 e2
                      go_wp2
                      go_roundg (a.next.length - (j + 1))
                      case measure => have := HGJ.out; omega
                      case rel => exact ⟨M, j + 1, rfl, by go_num, by omega, HM5, HFn, HB5⟩
                    | true =>
                      have HFn := Lib.hid (HF5.out.put hc hi hj e1 e2)
                      rw [e1] at m2
                      rw [e2] at m4
                      have HMn := Lib.hid (HM5.out.set hi HV3.out (x := j) true)
                      have HBn : Hid (Below B w1 (wr.setCell ⟨g3, j, none⟩ (.bool true))) := HB5.out.trans ((Only.set (S := fun q => q = g3) _ _ _ rfl).below B (fun q e => by have e : q = g3 := e; omega) hBs)
                      generalize M i j = old at *
                      clear e1 e2
                      go_wp2
                      go_roundg (a.next.length - (j + 1))
                      case measure => have := HGJ.out; omega
                      case rel => exact ⟨_, j + 1, rfl, by go_num, by omega, HMn, HFn, HBn⟩
                · as_aux_lemma =>
                  obtain rfl : j = a.next.length := by omega
                  have HFn := Lib.hid HF5.out.nexti
                  go_wp2
                  go_roundg (a.next.length - (i + 1))
                  case measure => have := HGI.out; omega
                  case rel => exact ⟨M, i + 1, rfl, by go_num, by omega, HM5, HFn, HB5⟩
            · as_aux_lemma =>
              obtain rfl : i = a.next.length := by omega
              have HFn := Lib.hid HF4.out.nextc
              go_wp2
              go_roundg (a.next.length - (c + 1))
              case measure => have := HGC.out; omega
              case rel => exact ⟨M, c + 1, rfl, by go_num, by omega, HM4, HFn, HB4⟩
        · as_aux_lemma =>
          obtain rfl : c = a.next.length := by omega
          go_wp2
          go_ret
          exact ⟨_, vals, M, rfl, HM3.out.base hwB, HWW.out _ HB3.out, fun i j hi hj => HF3.out.done (fun u v h => edS_lt HX.out u v h) hi hj⟩

end Go.Proofs.Ytdkpdpcecjcmcaa
