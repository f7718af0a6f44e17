/- What Equivalent returns. -/
import Derived.Test.YtdkpdpcecjcmcaaQRdX
import Derived.Test.YtdkpdpcecjcmcaaQRd29
import Derived.Test.YtdkpdpcecjcmcaaQRd44
namespace Go.Proofs.Ytdkpdpcecjcmcaa
open Go.RowKit

def EqOut (w : World) (a : Au) (k : Nat) (e : Ending) (w' : World) : Prop :=
  ∃ (vo : Value) (vals : List Value) (M : Nat → Nat → Bool), e = .returned vo ∧ MW w' w.heap.size vo vals a.next.length a.next.length M ∧ Below w.heap.size w w' ∧ ∀ i j, i < a.next.length → j < a.next.length → (M i j = true ↔ ∀ d, eqN a k d i j)
def pEq (a : Au) (i j : Nat) : Bool := decide (a.prio.getD i [] = a.prio.getD j [])

def R41_10 (zw bP oP i x N k cr cP cI cX : Nat) (ar aI aX : Option Addr) (q : Bool) (ix : Nat) (u : Value) (W : World) : Prop :=
  match ix with
  | 0 => u = .slice ar x cr
  | 1 => u = .pointer (some ⟨zw, 3, none⟩)
  | 2 => u = .slice (some ⟨bP, oP, none⟩) N cP
  | 3 => u = .int .i64 (i : Int)
  | 4 => u = .pointer (some ⟨bP, oP + i, none⟩)
  | 5 => u = .slice aI k cI
  | 6 => u = .pointer (some ⟨zw, 3, none⟩)
  | 7 => u = .slice (some ⟨bP, oP, none⟩) N cP
  | 8 => u = .int .i64 (x : Int)
  | 9 => u = .pointer (some ⟨bP, oP + x, none⟩)
  | 10 => u = .slice aX k cX
  | 11 => u = .bool q
  | 12 => ElB q u W
  | 13 => True
  | 14 => True
  | _ => True
theorem R41_10.mono (zw bP oP i x N k cr cP cI cX : Nat) (ar aI aX : Option Addr) (q : Bool) (jx : Nat) (v : Value) (W W' : World) (h : R41_10 zw bP oP i x N k cr cP cI cX ar aI aX q jx v W) (hb : Below W.heap.size W W') : R41_10 zw bP oP i x N k cr cP cI cX ar aI aX q jx v W' := by
  match jx, h with
  | 0, h => exact h
  | 1, h => exact h
  | 2, h => exact h
  | 3, h => exact h
  | 4, h => exact h
  | 5, h => exact h
  | 6, h => exact h
  | 7, h => exact h
  | 8, h => exact h
  | 9, h => exact h
  | 10, h => exact h
  | 11, h => exact h
  | 12, h => exact ElB.below h hb
  | 13, h => exact h
  | 14, h => exact h
  | _ + 15, h => exact h

set_option maxRecDepth 100000 in
set_option maxHeartbeats 8000000 in
theorem Equiv_c (w : World) (v : Value) (a : Au) (k : Nat) (ha : IsAuto w v a) (hA : AuV a k) : Calls Try.prog 41 #[v] w (EqOut w a k) := by
  obtain ⟨vN, vP, rfl, hI, hN, hP⟩ := ha
  have hmx : Try.prog.follows .mixedOrders = true := by kernel_rfl
  have HX := Lib.hid hA
  have hk1 : 1 ≤ k ∧ k ≤ 64 := hA.k1
  have HLk := Lib.hid hA.L
  have hn0 : 0 < a.next.length := by have := hA.n1; omega
  have hn3 : a.next.length ≤ 3000 := hA.n1.2
  obtain ⟨aN, cN, bN, oN, V, hvN, hdN, hmN, hVN⟩ := hN.data
  obtain ⟨aP, cP, bP, oP, VP, hvP, hdP, hmP, hVP⟩ := hP.data
  have HVN := Lib.hid hVN
  have hpl := hA.pn
  rw [hpl] at hdP hvP hVP
  have HVP := Lib.hid hVP
  obtain rfl := hdN hn0
  obtain rfl := hdP hn0
  subst hvN hvP
  have bx := heap_alloc_new w (.cells #[.int .i64 a.letters, .int .i64 a.start, .slice (some ⟨bN, oN, none⟩) a.next.length cN, .slice (some ⟨bP, oP, none⟩) a.next.length cP] 24)
  have hb1 : Below w.heap.size w (w.alloc (.cells #[.int .i64 a.letters, .int .i64 a.start, .slice (some ⟨bN, oN, none⟩) a.next.length cN, .slice (some ⟨bP, oP, none⟩) a.next.length cP] 24)) := bel_box _
  have HBX := Lib.hid bx
  have HB1 := Lib.hid hb1
  clear hI hN hP hVN hdN hA hdP hVP hpl hmP bx hb1
  go_enter Try.func41, Try.ntmps41
  go_upto_region 1 with (fail)
  generalize w.alloc (.cells #[.int .i64 a.letters, .int .i64 a.start, .slice (some ⟨bN, oN, none⟩) a.next.length cN, .slice (some ⟨bP, oP, none⟩) a.next.length cP] 24) = w1 at *
  obtain ⟨zw, hzw⟩ : ∃ zw, zw = w.heap.size := ⟨_, rfl⟩
  rw [← hzw] at HBX
  rw [← hzw]
  have HZW := Lib.hid hzw
  have hz1 : zw < w1.heap.size := (Array.getElem?_eq_some_iff.1 HBX.out).1
  have d2 := cell_of_row _ _ 2 _ _ _ HBX.out
  clear hzw
  go_upto_region 3 with (fail)
  have HO0 : Hid ((w1.alloc (.cells #[] 55)).ownsRow w1.heap.size 55 1 (.slice (some ⟨w1.heap.size, 0, none⟩) 0 0) 0 []) := by
    show World.ownsRow _ _ _ _ _ _ _
    have h := World.ownsRow_lit (base := w1.heap.size) (e := 55) (size := 1) w1 #[] 0 (Nat.le_refl _) (by simp [maxLen]) (by simp)
    simpa using h
  have hb2 : Below w1.heap.size w1 (w1.alloc (.cells #[] 55)) := bel_box _
  have HM0 := Lib.hid (MW.nil (w1.alloc (.cells #[] 55)) w1.heap.size a.next.length (pEq a) HO0.out)
  have HB2 := Lib.hid hb2
  generalize w1.alloc (.cells #[] 55) = w2 at *
  obtain ⟨B, hB⟩ : ∃ B, B = w1.heap.size := ⟨_, rfl⟩
  rw [← hB] at HM0 HB2 hz1
  rw [← hB]
  have HBe := Lib.hid hB
  clear hB hb2 HO0 d2
  go_wp2
  go_loopg [4, 5] a.next.length (fun gh c4 c5 wx => ∃ (i : Nat) (vals : List Value), gh = a.next.length - i ∧ c5 = .int .i64 (i : Int) ∧ i ≤ a.next.length ∧ Hid (MW wx B c4 vals i a.next.length (pEq a)) ∧ Hid (Below B w1 wx))
  case atStart => exact ⟨0, [], rfl, rfl, by omega, HM0, HB2⟩
  case round =>
    clear HM0 HB2
    obtain ⟨wo, rfl⟩ : ∃ wo : World, wo = wr := ⟨_, rfl⟩
    obtain ⟨i, vals, hgi, rfl, hin, HMo, HBo⟩ := hrel
    have HGI := Lib.hid hgi
    clear hgi
    obtain ⟨aO, cO, hv4⟩ := HMo.out.slice
    subst hv4
    have hBwo : B ≤ wo.heap.size := by have h1 := HBo.out.size; have h2 := HBe.out; omega
    by_cases hi : i < a.next.length
    · as_aux_lemma =>
      have hi2 : (i : Int) < a.next.length := by omega
      obtain ⟨p1, p2⟩ := HVP.out i hi
      obtain ⟨aI, cI, hVi⟩ := p2.shape
      rw [(HX.out.ln i hi).2] at hVi
      rw [hVi] at p1 p2
      have HP1 := Lib.hid p1
      have HP2 := Lib.hid p2
      clear p1 p2 hVi
      go_upto_region 7 with (fail)
      have HE0 : Hid (OB (wo.alloc (.cells #[] 4)) wo.heap.size (.slice (some ⟨wo.heap.size, 0, none⟩) 0 0) (mrow 0 (pEq a i))) := OB_emptyN wo wo.heap.size rfl
      have hbe : Below wo.heap.size wo (wo.alloc (.cells #[] 4)) := bel_box _
      have HBe2 : Hid (Below wo.heap.size wo (wo.alloc (.cells #[] 4))) := hbe
      obtain ⟨we, hwe⟩ : ∃ we, we = wo.alloc (.cells #[] 4) := ⟨_, rfl⟩
      rw [← hwe] at HE0 HBe2
      rw [← hwe]
      clear hwe hbe
      obtain ⟨C, hCe⟩ : ∃ C, C = wo.heap.size := ⟨_, rfl⟩
      rw [← hCe] at HE0 HBe2 hBwo
      rw [← hCe]
      have HCe := Lib.hid hCe
      clear hCe
      go_wp2
      go_loopg [6, 7] a.next.length (fun gh c6 c7 wx => ∃ (x : Nat), gh = a.next.length - x ∧ c7 = .int .i64 (x : Int) ∧ x ≤ a.next.length ∧ Hid (OB wx C c6 (mrow x (pEq a i))) ∧ Hid (Below C wo wx))
      case atStart => exact ⟨0, rfl, rfl, by omega, HE0, HBe2⟩
      case round =>
        clear HE0 HBe2
        obtain ⟨x, hgx, rfl, hxn, HRx, HCx⟩ := hrel
        have HGX := Lib.hid hgx
        clear hgx
        obtain ⟨ar, cr, hv6⟩ := HRx.out.slice
        rw [mrow_len] at hv6
        subst hv6
        have hCw : C ≤ wr.heap.size := by have h1 := HCx.out.size; have h2 := HCe.out; omega
        have HZx : Hid (Below B w1 wr) := HBo.out.trans (HCx.out.mono hBwo)
        have HWx : Hid (Below w.heap.size w wr) := HB1.out.trans (HZx.out.mono (by have h1 := HB1.out.size; have h2 := HBe.out; omega))
        by_cases hx : x < a.next.length
        · as_aux_lemma =>
          have hx2 : (x : Int) < a.next.length := by omega
          obtain ⟨p3, p4⟩ := HVP.out x hx
          obtain ⟨aX, cX, hVx⟩ := p4.shape
          rw [(HX.out.ln x hx).2] at hVx
          rw [hVx] at p3 p4
          obtain ⟨q, hq⟩ : ∃ q, pEq a i x = q := ⟨_, rfl⟩
          have HQ := IntsQ w (.slice aI k cI) (.slice aX k cX) _ _ HP2.out p4 q hq
          have hpi := cellB HWx.out HP1.out
          have hpx := cellB HWx.out p3
          have hwp := cell_of_row _ _ 3 _ _ _ ((HZx.out.block zw hz1).trans HBX.out)
          have HSn : Hid (mrow x (pEq a i) ++ [q] = mrow (x + 1) (pEq a i)) := by show _ = _; rw [mrow_snoc, hq]
          have hxl : x < 140737488355327 := by omega
          clear p3 p4 hVx hq
          go_upto_region 10 with (fail)
          obtain ⟨w9, rfl⟩ : ∃ w9 : World, w9 = wr := ⟨_, rfl⟩
          refine region_grow4 hmx (R41_10 zw bP oP i x a.next.length k cr cP cI cX ar aI aX q) (AppB C q (.slice ar x cr) (mrow x (pEq a i))) (fun v' u W' => u = v' ∧ Hid (OB W' C v' (mrow (x + 1) (pEq a i))) ∧ Hid (Below C w9.drew W')) (fun i => false) 13 14 (fun vs => { tmps := (_ :: _ :: _ :: _ :: _ :: _ :: vs 14 :: _ :: _ :: _ :: _ :: _ :: _ :: _ :: _ :: _ :: _ :: _ :: _ :: _ :: _ :: _ :: _ :: _ :: _ :: _ :: _ :: vs 0 :: vs 1 :: vs 2 :: vs 3 :: vs 4 :: vs 5 :: vs 6 :: vs 7 :: vs 8 :: vs 9 :: vs 10 :: vs 11 :: vs 12 :: vs 13 :: _ :: _ :: _ :: _ :: _ :: _ :: _ :: _ :: _ :: _ :: _ :: _ :: _ :: _ :: _ :: _ :: _ :: _ :: _ :: _ :: _ :: _ :: _ :: _ :: _ :: _ :: _ :: _ :: _ :: _ :: _ :: _ :: _ :: _ :: _ :: _ :: _ :: _ :: _ :: _ :: _ :: _ :: _ :: _ :: _ :: _ :: _ :: _ :: _ :: _ :: _ :: _ :: _ :: _ :: _ :: _ :: _ :: _ :: _ :: []).toArray, defers := _ }) (fun n => [u27, u28, u29, u30, u31, u32, u33, u34, u35, u36, u37, u38, u39, u40, .slice ar x cr].getD n undef) rfl (by kernel_rfl) (R41_10.mono zw bP oP i x a.next.length k cr cP cI cX ar aI aX q) ?step ?free ?app ?last ?fin
          case step =>
            intro ix o hp hm2 hf ho
            match ix, hp, hm2, hf, ho with
            | 0, _, _, _, ho =>
                obtain rfl := Option.some.inj ho
                intro vs W K hU hB hD hK
                have HK := Lib.hid hK
                have eU : vs 14 = .slice ar x cr := hU
                clear hK hD hU ho
                dsimp only
                go_simp
                have h := HK.out _ _ (Below.refl _ _) rfl
                simp only [upd, Nat.reduceEqDiff, reduceIte, eU] at h
                exact h
            | 1, _, _, _, ho =>
                obtain rfl := Option.some.inj ho
                intro vs W K hU hB hD hK
                have HK := Lib.hid hK
                clear hK hD hU ho
                dsimp only
                go_simp
                have h := HK.out _ _ (Below.refl _ _) rfl
                simp only [upd, Nat.reduceEqDiff, reduceIte] at h
                exact h
            | 2, _, _, _, ho =>
                obtain rfl := Option.some.inj ho
                intro vs W K hU hB hD hK
                have HK := Lib.hid hK
                have e1 : vs 1 = .pointer (some ⟨zw, 3, none⟩) := hD 1 (by rfl)
                have c := cellB hB hwp
                clear hK hD hU ho
                dsimp only
                go_simp
                have h := HK.out _ _ (Below.refl _ _) rfl
                simp only [upd, Nat.reduceEqDiff, reduceIte, e1] at h
                exact h
            | 3, _, _, _, ho =>
                obtain rfl := Option.some.inj ho
                intro vs W K hU hB hD hK
                have HK := Lib.hid hK
                clear hK hD hU ho
                dsimp only
                go_simp
                have h := HK.out _ _ (Below.refl _ _) rfl
                simp only [upd, Nat.reduceEqDiff, reduceIte] at h
                exact h
            | 4, _, _, _, ho =>
                obtain rfl := Option.some.inj ho
                intro vs W K hU hB hD hK
                have HK := Lib.hid hK
                have e2 : vs 2 = .slice (some ⟨bP, oP, none⟩) a.next.length cP := hD 2 (by rfl)
                have e3 : vs 3 = .int .i64 (i : Int) := hD 3 (by rfl)
                clear hK hD hU ho
                dsimp only
                go_simp
                have h := HK.out _ _ (Below.refl _ _) rfl
                simp only [upd, Nat.reduceEqDiff, reduceIte, e2, e3] at h
                exact h
            | 5, _, _, _, ho =>
                obtain rfl := Option.some.inj ho
                intro vs W K hU hB hD hK
                have HK := Lib.hid hK
                have e4 : vs 4 = .pointer (some ⟨bP, oP + i, none⟩) := hD 4 (by rfl)
                have c := cellB hB hpi
                clear hK hD hU ho
                dsimp only
                go_simp
                have h := HK.out _ _ (Below.refl _ _) rfl
                simp only [upd, Nat.reduceEqDiff, reduceIte, e4] at h
                exact h
            | 6, _, _, _, ho =>
                obtain rfl := Option.some.inj ho
                intro vs W K hU hB hD hK
                have HK := Lib.hid hK
                clear hK hD hU ho
                dsimp only
                go_simp
                have h := HK.out _ _ (Below.refl _ _) rfl
                simp only [upd, Nat.reduceEqDiff, reduceIte] at h
                exact h
            | 7, _, _, _, ho =>
                obtain rfl := Option.some.inj ho
                intro vs W K hU hB hD hK
                have HK := Lib.hid hK
                have e6 : vs 6 = .pointer (some ⟨zw, 3, none⟩) := hD 6 (by rfl)
                have c := cellB hB hwp
                clear hK hD hU ho
                dsimp only
                go_simp
                have h := HK.out _ _ (Below.refl _ _) rfl
                simp only [upd, Nat.reduceEqDiff, reduceIte, e6] at h
                exact h
            | 8, _, _, _, ho =>
                obtain rfl := Option.some.inj ho
                intro vs W K hU hB hD hK
                have HK := Lib.hid hK
                clear hK hD hU ho
                dsimp only
                go_simp
                have h := HK.out _ _ (Below.refl _ _) rfl
                simp only [upd, Nat.reduceEqDiff, reduceIte] at h
                exact h
            | 9, _, _, _, ho =>
                obtain rfl := Option.some.inj ho
                intro vs W K hU hB hD hK
                have HK := Lib.hid hK
                have e7 : vs 7 = .slice (some ⟨bP, oP, none⟩) a.next.length cP := hD 7 (by rfl)
                have e8 : vs 8 = .int .i64 (x : Int) := hD 8 (by rfl)
                clear hK hD hU ho
                dsimp only
                go_simp
                have h := HK.out _ _ (Below.refl _ _) rfl
                simp only [upd, Nat.reduceEqDiff, reduceIte, e7, e8] at h
                exact h
            | 10, _, _, _, ho =>
                obtain rfl := Option.some.inj ho
                intro vs W K hU hB hD hK
                have HK := Lib.hid hK
                have e9 : vs 9 = .pointer (some ⟨bP, oP + x, none⟩) := hD 9 (by rfl)
                have c := cellB hB hpx
                clear hK hD hU ho
                dsimp only
                go_simp
                have h := HK.out _ _ (Below.refl _ _) rfl
                simp only [upd, Nat.reduceEqDiff, reduceIte, e9] at h
                exact h
            | 11, _, _, _, ho =>
                obtain rfl := Option.some.inj ho
                intro vs W K hU hB hD hK
                have HK := Lib.hid hK
                have e5 : vs 5 = .slice aI k cI := hD 5 (by rfl)
                have e10 : vs 10 = .slice aX k cX := hD 10 (by rfl)
                clear hK hD hU ho
                dsimp only
                go_simp
                refine ((HQ.out W (HWx.out.trans (((Below.drew (Below.refl _ _)).trans hB).mono HWx.out.size))).mono fun _ _ h => h.calm).mono ?_
                rintro e W' ⟨rfl, hb⟩
                have h := HK.out _ _ hb rfl
                simp only [upd, Nat.reduceEqDiff, reduceIte, e5, e10] at h
                exact h
            | 12, _, _, _, ho =>
                obtain rfl := Option.some.inj ho
                intro vs W K hU hB hD hK
                have HK := Lib.hid hK
                have e11 : vs 11 = .bool q := hD 11 (by rfl)
                clear hK hD hU ho
                dsimp only
                go_simp
                have h := HK.out _ _ (bel_box (.cells #[.bool q] 4)) (ElB.made q W)
                simp only [upd, Nat.reduceEqDiff, reduceIte, e11] at h
                exact h
            | 13, hp, _, _, _ => exact absurd rfl hp
            | 14, _, hm2, _, _ => exact absurd rfl hm2
            | q + 15, _, _, _, ho => exact absurd ho (by simp)
          case free =>
            intro ix o hf ho
            match ix, hf, ho with
            | 0, hf, _ => exact absurd hf (by decide)
            | 1, hf, _ => exact absurd hf (by decide)
            | 2, hf, _ => exact absurd hf (by decide)
            | 3, hf, _ => exact absurd hf (by decide)
            | 4, hf, _ => exact absurd hf (by decide)
            | 5, hf, _ => exact absurd hf (by decide)
            | 6, hf, _ => exact absurd hf (by decide)
            | 7, hf, _ => exact absurd hf (by decide)
            | 8, hf, _ => exact absurd hf (by decide)
            | 9, hf, _ => exact absurd hf (by decide)
            | 10, hf, _ => exact absurd hf (by decide)
            | 11, hf, _ => exact absurd hf (by decide)
            | 12, hf, _ => exact absurd hf (by decide)
            | 13, hf, _ => exact absurd hf (by decide)
            | 14, hf, _ => exact absurd hf (by decide)
            | q + 15, _, ho => exact absurd ho (by simp)
          case app =>
            intro o ho
            obtain rfl := Option.some.inj ho
            intro vs W K hU hB hD hK
            have e1 : vs 0 = .slice ar x cr := hD 0 (by rfl)
            have hel : ElB q (vs 12) W := hD 12 (by rfl)
            rw [if_pos (by rfl)]
            exact wp_app_boolU W _ _ (by rfl) C (.slice ar x cr) (mrow x (pEq a i)) (by show vs 0 = _; exact e1) (HRx.out.below ((Below.drew (Below.refl _ _)).trans hB)) _ rfl hel (by rw [mrow_len]; exact hxl) (Nat.le_trans hCw hB.size) fun v' w' hA => hK v' w' hA
          case last =>
            intro o ho
            obtain rfl := Option.some.inj ho
            intro vs W9 W K hU hB hR hA hK
            have HK := Lib.hid hK
            obtain ⟨hO, hG, hM⟩ := hA
            rw [HSn.out] at hO
            have HFIN : Hid ((fun v' u W' => u = v' ∧ Hid (OB W' C v' (mrow (x + 1) (pEq a i))) ∧ Hid (Below C w9.drew W')) (vs 13) (vs 13) W) := ⟨rfl, hO, (hB.mono hCw).trans ((Only.of_grown hG).below C (fun q e => HRx.out.ge q e) (Nat.le_trans hCw hB.size))⟩
            clear hO hG hM
            clear hK hR hU ho
            dsimp only
            go_simp
            have h := HK.out (vs 13) _ HFIN.out
            simp only [upd, Nat.reduceEqDiff, reduceIte] at h
            exact h
          case fin =>
            intro vs W hR hF
            obtain ⟨hu, HOn, HBn⟩ := hF
            clear hR
            rw [hu]
            generalize vs 0 = q10_0 at *
            generalize vs 1 = q10_1 at *
            generalize vs 2 = q10_2 at *
            generalize vs 3 = q10_3 at *
            generalize vs 4 = q10_4 at *
            generalize vs 5 = q10_5 at *
            generalize vs 6 = q10_6 at *
            generalize vs 7 = q10_7 at *
            generalize vs 8 = q10_8 at *
            generalize vs 9 = q10_9 at *
            generalize vs 10 = q10_10 at *
            generalize vs 11 = q10_11 at *
            generalize vs 12 = q10_12 at *
            generalize vs 13 = q10_13 at *
            clear hu vs
            have HCn : Hid (Below C wo W) := HCx.out.trans ((Below.drew (Below.refl _ _)).trans HBn.out)
            go_wp2
            go_roundg (a.next.length - (x + 1))
            case measure => have := HGX.out; omega
            case rel => exact ⟨x + 1, rfl, by go_num, by omega, HOn, HCn⟩
        · as_aux_lemma =>
          obtain rfl : x = a.next.length := by omega
          have HMx : Hid (MW wr B (.slice aO i cO) vals i a.next.length (pEq a)) := HMo.out.below (by rw [← HCe.out]; exact HCx.out)
          have hoM := HMx.out.o
          have hBr : B ≤ wr.heap.size := by omega
          have hAy : Hid (∀ q, (.slice ar a.next.length cr : Value).ownBlock = some q → ¬ hotM (.slice aO i cO) vals i q) := fun q e1 e2 => by
            have h1 := HRx.out.ge q e1
            have h2 := (HMo.out.lt q e2).2
            have h3 := HCe.out
            omega
          clear HWx
          go_wp2_with (at_builtin; refine app_browB rfl _ _ (.slice ar a.next.length cr) rfl B _ _ _ hoM rfl _ (by simp) rfl rfl (by omega) hBr ?_; intro v' w' hown' hg hmv; have HG := Lib.hid hg; have HMn := Lib.hid (HMx.out.add hown' hg hmv (HRx.out.base hBwo) hAy.out); clear hown' hg hmv hoM)
          have HBn := Lib.hid (HZx.out.trans ((Only.of_grown HG.out).below B (fun q e => (HMx.out.lt q (.inl e)).1) hBr))
          go_roundg (a.next.length - (i + 1))
          case measure => have := HGI.out; omega
          case rel => exact ⟨i + 1, _, rfl, by go_num, by omega, HMn, HBn⟩
    · as_aux_lemma =>
      obtain rfl : i = a.next.length := by omega
      obtain ⟨gO, hgO⟩ := ownsRow_at HMo.out.o
      obtain rfl := hgO hn0
      have HE0 : Hid (EI a k (pEq a)) := EI.start a k
      have HBo2 := HBo
      have hg1 : (if true = true then cntE a.next.length (pEq a) + 1 else 0) = cntE a.next.length (pEq a) + 1 := rfl
      clear hi HGI hgO hin
      go_wp2
      go_loopg [8] (cntE a.next.length (pEq a) + 1) (fun gh c8 wx => ∃ (M : Nat → Nat → Bool) (b : Bool), gh = (if b = true then cntE a.next.length M + 1 else 0) ∧ c8 = .bool b ∧ Hid (MW wx B (.slice (some ⟨gO, 0, none⟩) a.next.length cO) vals a.next.length a.next.length M) ∧ Hid (EI a k M) ∧ Hid (b = false → ClM a k M) ∧ Hid (Below B w1 wx))
      case atStart => exact ⟨_, true, rfl, rfl, HMo, HE0, fun e => (nomatch e), HBo2⟩
      case round =>
        clear HMo HE0 HBo2 HBo hg1
        obtain ⟨M, b, hg3, rfl, HM3, HE3, HC3, HB3⟩ := hrel
        have HG3 := Lib.hid hg3
        clear hg3
        cases b with
        | false =>
          as_aux_lemma =>
          go_wp2
          go_ret
          exact ⟨_, vals, M, rfl, HM3.out.base (by have h1 := HB1.out.size; have h2 := HBe.out; omega), HB1.out.trans (HB3.out.mono (by have h1 := HB1.out.size; have h2 := HBe.out; omega)), fun i j hi hj => HE3.out.done HX.out (HC3.out (by trivial)) hi hj⟩
        | true =>
          as_aux_lemma =>
          have HS3 : Hid (PS a k M M false 0 0 0) := PS.start HE3.out
          go_wp2
          go_loopg [8, 9] a.next.length (fun gh c8 c9 wx => ∃ (M1 : Nat → Nat → Bool) (b : Bool) (i : Nat), gh = a.next.length - i ∧ c8 = .bool b ∧ c9 = .int .i64 (i : Int) ∧ i ≤ a.next.length ∧ Hid (MW wx B (.slice (some ⟨gO, 0, none⟩) a.next.length cO) vals a.next.length a.next.length M1) ∧ Hid (PS a k M M1 b i 0 0) ∧ Hid (Below B w1 wx))
          case atStart => exact ⟨M, false, 0, rfl, rfl, rfl, by omega, HM3, HS3, HB3⟩
          case round =>
            clear HM3 HS3 HB3 HE3 HC3
            obtain ⟨M1, b, i, hg4, rfl, rfl, hin, HM4, HS4, HB4⟩ := hrel
            have HG4 := Lib.hid hg4
            clear hg4
            by_cases hi : i < a.next.length
            · as_aux_lemma =>
              have hi2 : (i : Int) < a.next.length := by omega
              go_wp2
              go_loopg [8, 10] a.next.length (fun gh c8 c10 wx => ∃ (M1 : Nat → Nat → Bool) (b : Bool) (j : Nat), gh = a.next.length - j ∧ c8 = .bool b ∧ c10 = .int .i64 (j : Int) ∧ j ≤ a.next.length ∧ Hid (MW wx B (.slice (some ⟨gO, 0, none⟩) a.next.length cO) vals a.next.length a.next.length M1) ∧ Hid (PS a k M M1 b i j 0) ∧ Hid (Below B w1 wx))
              case atStart => exact ⟨M1, b, 0, rfl, rfl, rfl, by omega, HM4, HS4, HB4⟩
              case round =>
                clear HM4 HS4 HB4
                obtain ⟨M1, b, j, hg5, rfl, rfl, hjn, HM5, HS5, HB5⟩ := hrel
                have HG5 := Lib.hid hg5
                clear hg5
                by_cases hj : j < a.next.length
                · as_aux_lemma =>
                  have hj2 : (j : Int) < a.next.length := by omega
                  go_wp2
                  go_loopg [8, 11] k (fun gh c8 c11 wx => ∃ (M1 : Nat → Nat → Bool) (b : Bool) (x : Nat), gh = k - x ∧ c8 = .bool b ∧ c11 = .int .i64 (x : Int) ∧ x ≤ k ∧ Hid (MW wx B (.slice (some ⟨gO, 0, none⟩) a.next.length cO) vals a.next.length a.next.length M1) ∧ Hid (PS a k M M1 b i j x) ∧ Hid (Below B w1 wx))
                  case atStart => exact ⟨M1, b, 0, rfl, rfl, rfl, by omega, HM5, HS5, HB5⟩
                  case round =>
                    clear HM5 HS5 HB5
                    obtain ⟨M1, b, x, hg6, rfl, rfl, hxk, HM6, HS6, HB6⟩ := hrel
                    have HG6 := Lib.hid hg6
                    have hBs : B ≤ wr.heap.size := by have h1 := HB6.out.size; have h2 := HBe.out; omega
                    have HBX6 := Lib.hid ((HB6.out.block zw hz1).trans HBX.out)
                    have HW6 : Hid (Below w.heap.size w wr) := HB1.out.trans (HB6.out.mono (by have h1 := HB1.out.size; have h2 := HBe.out; omega))
                    have c0 := cell_of_row _ _ 0 _ _ _ HBX6.out
                    clear hg6
                    by_cases hx : x < k
                    · as_aux_lemma =>
                      have hx2 : (x : Int) < a.letters := by have := HLk.out; omega
                      have hx3 : (x : Int) < k := by omega
                      have c2 := cell_of_row _ _ 2 _ _ _ HBX6.out
                      obtain ⟨p1, p2⟩ := HVN.out i hi
                      obtain ⟨aI, cI, hVi⟩ := p2.shape
                      rw [(HX.out.ln i hi).1] at hVi
                      rw [hVi] at p1 p2
                      obtain ⟨bI, oI, had, -, hdt⟩ := p2.dat
                      obtain rfl := had (by omega)
                      have r1 := cellB HW6.out (hdt x hx)
                      have q1 := cellB HW6.out p1
                      obtain ⟨p3, p4⟩ := HVN.out j hj
                      obtain ⟨aJ, cJ, hVj⟩ := p4.shape
                      rw [(HX.out.ln j hj).1] at hVj
                      rw [hVj] at p3 p4
                      obtain ⟨bJ, oJ, had2, -, hdt2⟩ := p4.dat
                      obtain rfl := had2 (by omega)
                      have r2 := cellB HW6.out (hdt2 x hx)
                      have q2 := cellB HW6.out p3
                      have hy1 := HX.out.nx i x hi hx
                      have hy2 := HX.out.nx j x hj hx
                      have HN1 : Hid (nxI a i x = ((a.next.getD i []).getD x 0).toNat) := rfl
                      have HN2 : Hid (nxI a j x = ((a.next.getD j []).getD x 0).toNat) := rfl
                      generalize (a.next.getD i []).getD x 0 = y1 at *
                      generalize (a.next.getD j []).getD x 0 = y2 at *
                      obtain ⟨t1, rfl⟩ : ∃ t : Nat, y1 = (t : Int) := ⟨y1.toNat, by omega⟩
                      obtain ⟨t2, rfl⟩ : ∃ t : Nat, y2 = (t : Int) := ⟨y2.toNat, by omega⟩
                      have HN1 : Hid (nxI a i x = t1) := by have := HN1.out; rwa [Int.toNat_natCast] at this
                      have HN2 : Hid (nxI a j x = t2) := by have := HN2.out; rwa [Int.toNat_natCast] at this
                      have ht1 : (t1 : Int) < a.next.length := hy1.2
                      have ht2 : (t2 : Int) < a.next.length := hy2.2
                      obtain ⟨g1, k1, hv1, m1, m2, m3⟩ := HM6.out.at' hi hj
                      obtain ⟨g2, k2, hv2, m4, m5, -⟩ := HM6.out.at' (j := t1) (x := t2) (by omega) (by omega)
                      have HV1 := Lib.hid hv1
                      clear p1 p2 hVi had hdt p3 p4 hVj had2 hdt2 hy1 hy2 hv1 hv2
                      cases e1 : M1 i j with
                      | false =>
                        have HSn : Hid (PS a k M M1 b i j (x + 1)) := HS6.out.keep fun h => by rw [e1] at h; cases h
                        rw [e1] at m2
                        clear e1
                        go_upto_region 24 with (fail)
                        refine wp_region_quiet_lit (by kernel_rfl) (by kernel_rfl) ?_
                        ((repeat (go_big_quiet_step (fail))); refine wpQuiet_nil ?_; rintro _ ⟨nq, rfl⟩)
                        have HMn := Lib.hid (HM6.out.below (below_draws wr _ nq))
                        have HBn := Lib.hid (HB6.out.trans ((below_draws wr _ nq).mono hBs))
                        clear m1 m2 m3 m4 m5 r1 r2 q1 q2 c2 c0
                        generalize wr.drewN nq = wd at *
                        go_wp2
                        go_roundg (k - (x + 1))
                        case measure => have := HG6.out; omega
                        case rel => exact ⟨M1, b, x + 1, rfl, rfl, by go_num, by omega, HMn, HSn, HBn⟩
                      | true =>
                        cases e2 : M1 t1 t2 with
                        | true =>
                          have HSn : Hid (PS a k M M1 b i j (x + 1)) := HS6.out.keep fun _ => by rw [HN1.out, HN2.out]; exact e2
                          rw [e1] at m2
                          rw [e2] at m5
                          clear e1 e2
                          go_upto_region 24 with (fail)
                          refine wp_region_quiet_lit (by kernel_rfl) (by kernel_rfl) ?_
                          ((repeat (go_big_quiet_step (fail))); refine wpQuiet_nil ?_; rintro _ ⟨nq, rfl⟩)
                          have HMn := Lib.hid (HM6.out.below (below_draws wr _ nq))
                          have HBn := Lib.hid (HB6.out.trans ((below_draws wr _ nq).mono hBs))
                          clear m1 m2 m3 m4 m5 r1 r2 q1 q2 c2 c0
                          generalize wr.drewN nq = wd at *
                          go_wp2
                          go_roundg (k - (x + 1))
                          case measure => have := HG6.out; omega
                          case rel => exact ⟨M1, b, x + 1, rfl, rfl, by go_num, by omega, HMn, HSn, HBn⟩
                        | false =>
                          have HSn : Hid (PS a k M (upM M1 i j false) true i j (x + 1)) := HS6.out.drop HX.out hi hj hx e1 (by rw [HN1.out, HN2.out]; exact e2)
                          rw [e1] at m2
                          rw [e2] at m5
                          clear e1 e2
                          go_upto_region 24 with (fail)
                          refine wp_region_quiet_lit (by kernel_rfl) (by kernel_rfl) ?_
                          ((repeat (go_big_quiet_step (fail))); refine wpQuiet_nil ?_; rintro _ ⟨nq, rfl⟩)
                          have HMd := Lib.hid (HM6.out.below (below_draws wr _ nq))
                          have HBd := Lib.hid (HB6.out.trans ((below_draws wr _ nq).mono hBs))
                          clear m1 m2 m3 m4 m5 r1 r2 q1 q2 c2 c0
                          have hwd : wr.heap.size ≤ (wr.drewN nq).heap.size := Nat.le_refl _
                          generalize wr.drewN nq = wd at *
                          obtain ⟨g3, k3, hv3, m1, m2, m3⟩ := HMd.out.at' hi hj
                          have hge : B ≤ g3 := (HMd.out.lt g3 (.inr ⟨i, hi, by rw [hv3]; rfl⟩)).1
                          have HMn := Lib.hid (HMd.out.set hi hv3 (x := j) false)
                          have HBn : Hid (Below B w1 (wd.setCell ⟨g3, j, none⟩ (.bool false))) := HBd.out.trans ((Only.set (S := fun q => q = g3) _ _ _ rfl).below B (fun q e => by have e : q = g3 := e; omega) (by omega))
                          clear hv3
                          go_wp2
                          go_roundg (k - (x + 1))
                          case measure => have := HG6.out; omega
                          case rel => exact ⟨_, true, x + 1, rfl, rfl, by go_num, by omega, HMn, HSn, HBn⟩
                    · as_aux_lemma =>
                      obtain rfl : x = k := by omega
                      have hx2 : ¬ (x : Int) < a.letters := by have := HLk.out; omega
                      have hx3 : a.letters ≤ (x : Int) := by have := HLk.out; omega
                      have HSn : Hid (PS a x M M1 b i (j + 1) 0) := HS6.out.nextk
                      go_wp2
                      go_roundg (a.next.length - (j + 1))
                      case measure => have := HG5.out; omega
                      case rel => exact ⟨M1, b, j + 1, rfl, rfl, by go_num, by omega, HM6, HSn, HB6⟩
                · as_aux_lemma =>
                  obtain rfl : j = a.next.length := by omega
                  have HSn : Hid (PS a k M M1 b (i + 1) 0 0) := HS5.out.nexti
                  go_wp2
                  go_roundg (a.next.length - (i + 1))
                  case measure => have := HG4.out; omega
                  case rel => exact ⟨M1, b, i + 1, rfl, rfl, by go_num, by omega, HM5, HSn, HB5⟩
            · as_aux_lemma =>
              obtain rfl : i = a.next.length := by omega
              have HEn : Hid (EI a k M1) := HS4.out.e
              have HCn : Hid (b = false → ClM a k M1) := fun e => by subst e; exact HS4.out.closed
              have HLt : Hid ((if b = true then cntE a.next.length M1 + 1 else 0) < cntE a.next.length M + 1) := by
                show _ < _
                cases b with
                | false => simp
                | true => have := HS4.out.t rfl; simp; omega
              go_wp2
              go_roundg (if b = true then cntE a.next.length M1 + 1 else 0)
              case measure => have h1 := HG3.out; have h2 := HLt.out; simp only [if_true] at h1; omega
              case rel => exact ⟨M1, b, rfl, rfl, HM4, HEn, HCn, HB4⟩

end Go.Proofs.Ytdkpdpcecjcmcaa
