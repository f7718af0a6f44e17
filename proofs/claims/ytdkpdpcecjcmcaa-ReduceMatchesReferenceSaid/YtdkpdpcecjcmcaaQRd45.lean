/- What the reference's Prios returns (it hands the old Next back). -/
import Derived.Test.YtdkpdpcecjcmcaaQRd44
import Derived.Test.YtdkpdpcecjcmcaaQRd35
namespace Go.Proofs.Ytdkpdpcecjcmcaa
open Go.RowKit

def IsOut (a : Au) (w : World) (e : Ending) (w' : World) : Prop := ∃ v', e = .returned v' ∧ IsAuto w' v' a ∧ Below w.heap.size w w'

set_option maxRecDepth 100000 in
set_option maxHeartbeats 8000000 in
theorem RPrios_c (w : World) (v : Value) (a : Au) (ha : IsAuto w v a) : Calls Try.prog 20 #[v] w (IsOut (priosF a) w) := by
  have HA := Lib.hid ha
  obtain ⟨vN, vP, rfl, hI, hN, hP⟩ := ha
  cases hv : validA a with
  | false =>
    have hF := FA.start w #[.int .i64 a.letters, .int .i64 a.start, vN, vP]
    have HR : Hid (priosF a = noAu) := by show _ = _; simp [priosF, hv]
    have HV := Lib.hid (RPValid_c ((w.alloc (.cells #[.int .i64 a.letters, .int .i64 a.start, vN, vP] 24)).alloc (.cells #[.int .i64 0, .int .i64 0, .slice none 0 0, .slice none 0 0] 24)) _ a (HA.out.below hF.bl))
    obtain ⟨c0, c1, c2, c3⟩ := hF.cells
    clear hI hN hP
    go_enter Try.func20, Try.ntmps20
    go_upto_region 1 with (fail)
    generalize ((w.alloc (.cells #[.int .i64 a.letters, .int .i64 a.start, vN, vP] 24)).alloc (.cells #[.int .i64 0, .int .i64 0, .slice none 0 0, .slice none 0 0] 24)) = w2 at *
    go_wp2_with fail
    refine HV.out.mono ?_
    rintro e w3 ⟨rfl, hb3⟩
    rw [hv]
    have hF3 := hF.below hb3
    obtain ⟨⟨z0, z1, z2, z3⟩, y0, y1, y2, y3⟩ := hF3.zero
    clear hb3 hF c0 c1 c2 c3 HV
    go_wp2
    (have hc4 := four_set (a := Value.int .i64 0) (b := Value.int .i64 0) (c := Value.slice none 0 0) (d := Value.slice none 0 0) hF3.rc); (have c0 := cell_of_row _ _ 0 _ _ _ hc4); (have c1 := cell_of_row _ _ 1 _ _ _ hc4); (have c2 := cell_of_row _ _ 2 _ _ _ hc4); (have c3 := cell_of_row _ _ 3 _ _ _ hc4); (refine bodyPost_ret (v := .agg #[Value.int .i64 0, Value.int .i64 0, Value.slice none 0 0, Value.slice none 0 0]) (by simp [results, Try.results20, go_sem, c0, c1, c2, c3]) rfl ?_)
    rw [HR.out]
    have h := hF3.fin (fun W _ => noAu_is W) (x0 := Value.int .i64 0) (x1 := Value.int .i64 0) (x2 := Value.slice none 0 0) (x3 := Value.slice none 0 0)
    obtain ⟨v', h1, h2, h3⟩ := h
    exact ⟨v', h1, h2 _ (Only.refl _ _), h3⟩
  | true =>
    have hF := FA.start w #[.int .i64 a.letters, .int .i64 a.start, vN, vP]
    have hA := AuV.of hv
    have HR : Hid (priosF a = priosA a) := by show _ = _; simp [priosF, hv]
    obtain ⟨k, hk⟩ : ∃ k, k = a.letters.toNat := ⟨_, rfl⟩
    rw [← hk] at hA
    have HKe := Lib.hid hk
    have HX := Lib.hid hA
    have hk1 : 1 ≤ k ∧ k ≤ 64 := hA.k1
    have HLk := Lib.hid hA.L
    have hn0 : 0 < a.next.length := by have := hA.n1; omega
    have hn3 : a.next.length ≤ 3000 := hA.n1.2
    have HNx := Lib.hid hN
    have HI := Lib.hid hI
    obtain ⟨aN, cN, bN, oN, V, hvN, hdN, hmN, hVN⟩ := hN.data
    obtain rfl := hdN hn0
    subst hvN
    have HV := Lib.hid (RPValid_c ((w.alloc (.cells #[.int .i64 a.letters, .int .i64 a.start, .slice (some ⟨bN, oN, none⟩) a.next.length cN, vP] 24)).alloc (.cells #[.int .i64 0, .int .i64 0, .slice none 0 0, .slice none 0 0] 24)) _ a (HA.out.below hF.bl))
    obtain ⟨c0, c1, c2, c3⟩ := hF.cells
    clear hk hI hN hP hVN hdN hA
    go_enter Try.func20, Try.ntmps20
    go_upto_region 1 with (fail)
    generalize ((w.alloc (.cells #[.int .i64 a.letters, .int .i64 a.start, .slice (some ⟨bN, oN, none⟩) a.next.length cN, vP] 24)).alloc (.cells #[.int .i64 0, .int .i64 0, .slice none 0 0, .slice none 0 0] 24)) = w2 at *
    go_wp2_with fail
    refine HV.out.mono ?_
    rintro e w3 ⟨rfl, hb3⟩
    rw [hv]
    have HF3 := Lib.hid (hF.below hb3)
    clear c0 c1 c2 c3 HV hb3 hF
    obtain ⟨c0, c1, c2, c3⟩ := HF3.out.cells
    have HEC := Lib.hid (empty_c w3 _ a k (HA.out.below HF3.out.bl) HX.out)
    go_wp2_with fail
    refine HEC.out.mono ?_
    rintro e w4 ⟨vC, valsC, rfl, hC, hb4⟩
    have HF4 := Lib.hid (HF3.out.below hb4)
    clear c0 c1 c2 c3 HEC
    obtain ⟨aC, cC, hvC⟩ := hC.slice
    subst hvC
    obtain ⟨gC, hgC⟩ := ownsRow_at hC.o
    obtain rfl := hgC hn0
    obtain ⟨C, hCe⟩ : ∃ C, C = w3.heap.size := ⟨_, rfl⟩
    rw [← hCe] at hC
    have HCe := Lib.hid hCe
    have HC0 := Lib.hid hC
    have HZ4 := Lib.hid hb4
    clear hCe hC hb4 hgC
    go_wp2
    have HO0 : Hid ((w4.alloc (.cells #[] 29)).ownsRow w4.heap.size 29 1 (.slice (some ⟨w4.heap.size, 0, none⟩) 0 0) 0 []) := by
      show World.ownsRow _ _ _ _ _ _ _
      have h := World.ownsRow_lit (base := w4.heap.size) (e := 29) (size := 1) w4 #[] 0 (Nat.le_refl _) (by simp [maxLen]) (by simp)
      simpa using h
    have HB5 : Hid (Below w4.heap.size w4 (w4.alloc (.cells #[] 29))) := bel_box _
    have HP0 := Lib.hid (MI.nil (w4.alloc (.cells #[] 29)) w4.heap.size k (fun _ _ => 0) HO0.out)
    have HCB : Hid (∀ q, hotM (.slice (some ⟨gC, 0, none⟩) a.next.length cC) valsC a.next.length q → q < w4.heap.size) := fun q e => (HC0.out.lt q e).2
    have HM0 : Hid (MW (w4.alloc (.cells #[] 29)) C (.slice (some ⟨gC, 0, none⟩) a.next.length cC) valsC a.next.length k (parM (fun _ _ => true) 0 0)) := (HC0.out.below HB5.out).congr fun i x _ _ => parM_zero i x
    generalize w4.alloc (.cells #[] 29) = w5 at *
    obtain ⟨B, hB⟩ : ∃ B, B = w4.heap.size := ⟨_, rfl⟩
    rw [← hB] at HP0 HCB HB5
    rw [← hB]
    have hCB : C ≤ B := by have := HZ4.out.size; have := HCe.out; omega
    have hwC : w.heap.size + 2 ≤ C := by have := HF3.out.lt; have := HCe.out; omega
    have HBe := Lib.hid hB
    have HZ5 : Hid (Below C w4 w5) := HB5.out.mono hCB
    clear hB HO0 HC0 HB5
    go_loopg [4, 5] a.next.length (fun gh c4 c5 wx => ∃ (i : Nat) (vals : List Value), gh = a.next.length - i ∧ c5 = .int .i64 (i : Int) ∧ i ≤ a.next.length ∧ Hid (MI wx B c4 vals i k (fun _ _ => 0)) ∧ Hid (MW wx C (.slice (some ⟨gC, 0, none⟩) a.next.length cC) valsC a.next.length k (parM (fun _ _ => true) i 0)) ∧ Hid (Below C w4 wx))
    case atStart => exact ⟨0, [], rfl, rfl, by omega, HP0, HM0, HZ5⟩
    case round =>
      clear HP0 HM0 HZ5
      obtain ⟨wo, rfl⟩ : ∃ wo : World, wo = wr := ⟨_, rfl⟩
      obtain ⟨i, vals, hgi, rfl, hin, HPx, HMx, HZx⟩ := hrel
      have HGI := Lib.hid hgi
      clear hgi
      obtain ⟨aO, cO, hv4⟩ := HPx.out.slice
      subst hv4
      have HFx := Lib.hid (HF4.out.belowB hwC HZx.out)
      obtain ⟨c0, c1, c2, c3⟩ := HFx.out.cells
      by_cases hi : i < a.next.length
      · as_aux_lemma =>
        have hi2 : (i : Int) < a.next.length := by omega
        clear c0 c1 c3
        go_wp2
        go_loopg [6] k (fun gh c6 wx => ∃ (x : Nat), gh = k - x ∧ c6 = .int .i64 (x : Int) ∧ x ≤ k ∧ Hid (MI wx B (.slice aO i cO) vals i k (fun _ _ => 0)) ∧ Hid (MW wx C (.slice (some ⟨gC, 0, none⟩) a.next.length cC) valsC a.next.length k (parM (fun _ _ => true) i x)) ∧ Hid (Below C w4 wx))
        case atStart => exact ⟨0, rfl, rfl, by omega, HPx, HMx, HZx⟩
        case round =>
          clear HPx HMx HZx HFx c2
          obtain ⟨x, hgx, rfl, hxk, HPx, HMx, HZx⟩ := hrel
          have HGX := Lib.hid hgx
          clear hgx
          have HFx := Lib.hid (HF4.out.belowB hwC HZx.out)
          obtain ⟨c0, -, -, -⟩ := HFx.out.cells
          have hCr : C ≤ wr.heap.size := by have := HZx.out.size; have := HBe.out; omega
          have hBr : B ≤ wr.heap.size := by have := HZx.out.size; have := HBe.out; omega
          by_cases hx : x < k
          · as_aux_lemma =>
            have hx2 : (x : Int) < a.letters := by have := HLk.out; omega
            have hx3 : (x : Int) < k := by omega
            obtain ⟨g4, kk4, hv4, m7, m8, m9⟩ := HMx.out.at' hi hx
            have HMn : Hid (MW (wr.setCell ⟨g4, x, none⟩ (.bool true)) C (.slice (some ⟨gC, 0, none⟩) a.next.length cC) valsC a.next.length k (parM (fun _ _ => true) i (x + 1))) := (HMx.out.set hi hv4 (x := x) true).congr fun b c _ _ => parM_put (fun _ _ => true) i x b c
            have hg4 : hotM (.slice (some ⟨gC, 0, none⟩) a.next.length cC) valsC a.next.length g4 := .inr ⟨i, hi, by rw [hv4]; rfl⟩
            have hS : Only (fun q => q = g4) wr (wr.setCell ⟨g4, x, none⟩ (.bool true)) := Only.set _ _ _ rfl
            have HPn := Lib.hid (HPx.out.only hS fun q e k => by have e : q = g4 := e; have h1 := HCB.out g4 hg4; have := (HPx.out.lt q k).1; omega)
            have HZn := Lib.hid (HZx.out.trans (hS.below C (fun q e => by have e : q = g4 := e; have := (HMx.out.lt g4 hg4).1; omega) hCr))
            generalize parM (fun _ _ => true) i x i x = old at *
            clear hv4 hg4 hS
            go_wp2
            go_roundg (k - (x + 1))
            case measure => have := HGX.out; omega
            case rel => exact ⟨x + 1, rfl, by go_num, by omega, HPn, HMn, HZn⟩
          · as_aux_lemma =>
            obtain rfl : x = k := by omega
            have hx2 : ¬ (x : Int) < a.letters := by have := HLk.out; omega
            have hx3 : a.letters ≤ (x : Int) := by have := HLk.out; omega
            have HMn : Hid (MW wr C (.slice (some ⟨gC, 0, none⟩) a.next.length cC) valsC a.next.length x (parM (fun _ _ => true) (i + 1) 0)) := HMx.out.congr fun b c _ hc => parM_row x b c hc
            have hoP := HPx.out.o
            clear c0
            obtain ⟨c0, -, -, -⟩ := HFx.out.cells
            go_wp2_with (first
              | (at_make; refine mk_int rfl _ _ _ Try.underlying29 rfl wr.heap.size _ x rfl rfl HLk.out (by omega) (Nat.le_refl _) ?_; intro w6 hown hg1; have HO6 := Lib.hid hown; have hb6 : Below wr.heap.size wr w6 := below_of_grown hg1 (fun q e => (nomatch e)) (Nat.le_refl _); have HP6 := Lib.hid (HPx.out.below hb6); have HM6 := Lib.hid (HMn.out.below hb6); have HZ6 := Lib.hid (HZx.out.trans (hb6.mono hCr)); have hB6 : B ≤ w6.heap.size := Nat.le_trans hBr hb6.size; have hC6 : C ≤ w6.heap.size := Nat.le_trans hCr hb6.size; have hoP := HP6.out.o; clear hown hg1)
              | (at_builtin; refine app_row rfl _ _ (.slice (some ⟨wr.heap.size, 0, none⟩) x x) rfl B _ _ _ hoP rfl _ (by simp) rfl rfl (by omega) hB6 ?_; intro v' w' hown' hg hmv; have HG := Lib.hid hg; have HO' := Lib.hid hown'; have HMV := Lib.hid hmv; clear hown' hg hmv hoP))
            have HAy : Hid (∀ q, (.slice (some ⟨wr.heap.size, 0, none⟩) x x : Value).ownBlock = some q → ¬ hotI (.slice aO i cO) vals i q) := fun q e1 e2 => by
              have e1 : wr.heap.size = q := Option.some.inj e1
              have h2 := (HPx.out.lt q e2).2
              omega
            have hir : irow x ((fun _ _ => 0 : Nat → Nat → Int) i) = List.replicate x 0 := by
              apply List.ext_getElem (by simp [irow])
              intro j h1 h2
              simp [irow]
            have HPn := Lib.hid (HP6.out.add HO'.out HG.out HMV.out (by rw [hir]; exact HO6.out.base hBr) HAy.out)
            have hG := Only.of_grown HG.out
            have HMn2 := Lib.hid (HM6.out.only hG fun q e k => by have h1 := HCB.out q k; have := (HP6.out.lt q (.inl e)).1; omega)
            have HZn := Lib.hid (HZ6.out.trans (hG.below C (fun q e => by have := (HP6.out.lt q (.inl e)).1; omega) hC6))
            go_roundg (a.next.length - (i + 1))
            case measure => have := HGI.out; omega
            case rel => exact ⟨i + 1, _, rfl, by go_num, by omega, HPn, HMn2, HZn⟩
      · as_aux_lemma =>
        obtain rfl : i = a.next.length := by omega
        have HMe : Hid (MW wo C (.slice (some ⟨gC, 0, none⟩) a.next.length cC) valsC a.next.length k (fun _ _ => true)) := HMx.out.congr fun b c hb _ => parM_all a.next.length b c hb
        have hlen : cntM (mvsU k a.next.length 0) (SetB a.next.length k fun _ _ => true) ≤ 192000 := by
          have h1 := cntM_len (mvsU k a.next.length 0) (S := SetB a.next.length k fun _ _ => true)
          rw [mvsU_len] at h1
          have h2 : a.next.length * k ≤ 3000 * 64 := Nat.mul_le_mul hn3 hk1.2
          omega
        have HLC := Lib.hid (lower_c w _ a k B HA.out HX.out (by omega) _ wo _ _ valsC vals _ _ 0 C HFx.out.bl HMe.out HPx.out (fun q e k => by have h1 := HCB.out q e; have := (HPx.out.lt q k).1; omega) (Int.le_refl _) rfl (by omega))
        clear hlen
        go_wp2_with fail
        refine HLC.out.mono ?_
        rintro e w9 ⟨P3, rfl, hP3, hO3, hD3⟩
        have hCo : C ≤ wo.heap.size := by have := HZx.out.size; have := HBe.out; omega
        have HF9 := Lib.hid (HFx.out.belowB hwC (hO3.below C (fun q e => by have := (HPx.out.lt q e).1; omega) hCo))
        have HP9 := Lib.hid hP3
        have HD9 := Lib.hid hD3
        clear HLC c0 c1 c2 c3 hP3 hO3 hD3
        obtain ⟨c0, c1, c2, c3⟩ := HF9.out.cells
        obtain ⟨⟨z0, z1, z2, z3⟩, y0, y1, y2, y3⟩ := HF9.out.zero
        have HZ9 := Lib.hid (Only.of_below (S := fun q => q = w.heap.size + 1) (Below.refl w9.heap.size w9))
        have HKe2 : Hid (∀ i x, i < a.next.length → x < k → P3 i x = valF a (i, x)) := fun i x hi hx => by
          have h := (HD9.out i x hi hx).2 rfl
          have e : SetB a.next.length k (fun _ _ => true) = AllM a.letters.toNat a := set_ext fun m => by rw [← HKe.out]; unfold SetB AllM; simp
          rw [e] at h
          exact (valF_eq h).symm
        go_wp2
        (have hc4 := four_set (a := Value.int .i64 a.letters) (b := Value.int .i64 a.start) (c := Value.slice (some ⟨bN, oN, none⟩) a.next.length cN) (d := Value.slice aO a.next.length cO) HF9.out.rc); (have c0 := cell_of_row _ _ 0 _ _ _ hc4); (have c1 := cell_of_row _ _ 1 _ _ _ hc4); (have c2 := cell_of_row _ _ 2 _ _ _ hc4); (have c3 := cell_of_row _ _ 3 _ _ _ hc4); (refine bodyPost_ret (v := .agg #[Value.int .i64 a.letters, Value.int .i64 a.start, Value.slice (some ⟨bN, oN, none⟩) a.next.length cN, Value.slice aO a.next.length cO]) (by simp [results, Try.results20, go_sem, c0, c1, c2, c3]) rfl ?_)
        rw [HR.out]
        have hO := four_only (wr := w9) (w.heap.size + 1) (Value.int .i64 a.letters) (Value.int .i64 a.start) (Value.slice (some ⟨bN, oN, none⟩) a.next.length cN) (Value.slice aO a.next.length cO)
        have hbl := Only.to_below HF9.out.bl hO fun q e => by have e : q = w.heap.size + 1 := e; omega
        have hMI := HP9.out.only hO fun q e k => by have e : q = w.heap.size + 1 := e; have := (HP9.out.lt q k).1; omega
        refine ⟨_, rfl, ⟨_, _, rfl, HI.out, HNx.out.below hbl, ⟨fun j => vals.getD j undef, ?_, fun j hj => ?_⟩⟩, hbl⟩
        · have hl : (priosA a).prio.length = a.next.length := by simp [priosA]
          rw [hl]
          refine ownsRow_arr hMI.o (by unfold maxN; omega) _ fun j hj => ?_
          have : j < vals.length := by rw [hMI.ln]; exact hj
          rw [getD_lt _ _ _ this]; simp [this]
        · have hj : j < a.next.length := by simpa [priosA] using hj
          have hrow : irow k (P3 j) = (priosA a).prio.getD j [] := by
            rw [priosA_row a hj, ← HKe.out]
            exact List.map_congr_left fun x hx => HKe2.out j x hj (List.mem_range.1 hx)
          have hAP := HX.out.prios
          have h1 := (hAP.ln j hj).2
          rw [← hrow] at h1 ⊢
          refine (hMI.e j hj).is (by rw [h1]; unfold maxN; omega) fun y hy => ?_
          rw [hrow] at hy
          obtain ⟨x, hx, rfl⟩ := mem_getD hy
          rw [← hrow, h1] at hx
          have := hAP.pr j x hj hx
          unfold I64; omega

end Go.Proofs.Ytdkpdpcecjcmcaa
