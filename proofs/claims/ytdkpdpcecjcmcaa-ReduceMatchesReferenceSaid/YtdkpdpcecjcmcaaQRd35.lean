/- What the reference's Merge returns. -/
import Derived.Test.YtdkpdpcecjcmcaaQRd34
import Derived.Test.YtdkpdpcecjcmcaaQRdY
import Derived.Test.YtdkpdpcecjcmcaaQRd32
import Derived.Test.YtdkpdpcecjcmcaaQRd27
namespace Go.Proofs.Ytdkpdpcecjcmcaa
open Go.RowKit

theorem fst_i64 {a : Au} {i : Nat} (hn : a.next.length ≤ 3000) (hi : i ≤ a.next.length) : ∀ x ∈ castL (firstsC (clsA a) i), I64 x := fun x hx => by
  obtain ⟨y, hy, rfl⟩ := List.mem_map.1 hx
  have := firsts_in _ hy
  show I64 ((y : Nat) : Int)
  unfold I64; omega
theorem cls_take {c : List Int} {i : Nat} (h : i < c.length) : c.take (i + 1) = c.take i ++ [c.getD i 0] := take_getD h

def R21_26 (bw bC oC bN oN bF oF bR oR n s x t N f k cr c4 cN c5 cR : Nat) (ar : Option Addr) (ct : Int) (ix : Nat) (u : Value) (W : World) : Prop :=
  match ix with
  | 0 => u = .slice ar x cr
  | 1 => u = .slice (some ⟨bC, oC, none⟩) N c4
  | 2 => u = .pointer (some ⟨bw, 2, none⟩)
  | 3 => u = .slice (some ⟨bN, oN, none⟩) N cN
  | 4 => u = .slice (some ⟨bF, oF, none⟩) f c5
  | 5 => u = .int .i64 (n : Int)
  | 6 => u = .pointer (some ⟨bF, oF + n, none⟩)
  | 7 => u = .int .i64 (s : Int)
  | 8 => u = .pointer (some ⟨bN, oN + s, none⟩)
  | 9 => u = .slice (some ⟨bR, oR, none⟩) k cR
  | 10 => u = .int .i64 (x : Int)
  | 11 => u = .pointer (some ⟨bR, oR + x, none⟩)
  | 12 => u = .int .i64 (t : Int)
  | 13 => u = .pointer (some ⟨bC, oC + t, none⟩)
  | 14 => u = .int .i64 ct
  | 15 => ElI ct u W
  | 16 => True
  | 17 => True
  | _ => True
theorem R21_26.mono (bw bC oC bN oN bF oF bR oR n s x t N f k cr c4 cN c5 cR : Nat) (ar : Option Addr) (ct : Int) (jx : Nat) (v : Value) (W W' : World) (h : R21_26 bw bC oC bN oN bF oF bR oR n s x t N f k cr c4 cN c5 cR ar ct jx v W) (hb : Below W.heap.size W W') : R21_26 bw bC oC bN oN bF oF bR oR n s x t N f k cr c4 cN c5 cR ar ct jx v W' := by
  match jx, h with
  | 0, h => exact h
  | 1, h => exact h
  | 2, h => exact h
  | 3, h => exact h
  | 4, h => exact h
  | 5, h => exact h
  | 6, h => exact h
  | 7, h => exact h
  | 8, h => exact h
  | 9, h => exact h
  | 10, h => exact h
  | 11, h => exact h
  | 12, h => exact h
  | 13, h => exact h
  | 14, h => exact h
  | 15, h => exact ElI.below h hb
  | 16, h => exact h
  | 17, h => exact h
  | _ + 18, h => exact h
def R21_28 (C0 bw z bP oP bF oF n s N f np x cP c5 cQ cQ2 : Nat) (aQ aQ2 : Option Addr) (row : List Int) (ix : Nat) (u : Value) (W : World) : Prop :=
  match ix with
  | 0 => u = .pointer (some ⟨z, 3, none⟩)
  | 1 => u = .slice aQ np cQ
  | 2 => ∃ b, u = .slice (some ⟨b, 0, none⟩) 0 0 ∧ W.heap[b]? = some (.cells #[] 3 (0, 0))
  | 3 => u = .pointer (some ⟨bw, 3, none⟩)
  | 4 => u = .slice (some ⟨bP, oP, none⟩) N cP
  | 5 => u = .slice (some ⟨bF, oF, none⟩) f c5
  | 6 => u = .int .i64 (n : Int)
  | 7 => u = .pointer (some ⟨bF, oF + n, none⟩)
  | 8 => u = .int .i64 (s : Int)
  | 9 => u = .pointer (some ⟨bP, oP + s, none⟩)
  | 10 => u = .slice aQ2 x cQ2
  | 11 => FreshRow C0 row u W
  | 12 => FreshEl C0 row u W
  | 13 => True
  | 14 => u = .pointer (some ⟨z, 3, none⟩)
  | 15 => True
  | _ => True
theorem R21_28.mono (C0 bw z bP oP bF oF n s N f np x cP c5 cQ cQ2 : Nat) (aQ aQ2 : Option Addr) (row : List Int) (jx : Nat) (v : Value) (W W' : World) (h : R21_28 C0 bw z bP oP bF oF n s N f np x cP c5 cQ cQ2 aQ aQ2 row jx v W) (hb : Below W.heap.size W W') : R21_28 C0 bw z bP oP bF oF n s N f np x cP c5 cQ cQ2 aQ aQ2 row jx v W' := by
  match jx, h with
  | 0, h => exact h
  | 1, h => exact h
  | 2, ⟨b, h1, h2⟩ => exact ⟨b, h1, (hb.block b (Array.getElem?_eq_some_iff.1 h2).1).trans h2⟩
  | 3, h => exact h
  | 4, h => exact h
  | 5, h => exact h
  | 6, h => exact h
  | 7, h => exact h
  | 8, h => exact h
  | 9, h => exact h
  | 10, h => exact h
  | 11, h => exact FreshRow.below h hb
  | 12, h => exact FreshEl.below h hb
  | 13, h => exact h
  | 14, h => exact h
  | 15, h => exact h
  | _ + 16, h => exact h

set_option maxRecDepth 100000 in
set_option maxHeartbeats 8000000 in
theorem RMerge_c (w : World) (v : Value) (a : Au) (ha : IsAuto w v a) : Calls Try.prog 21 #[v] w (NewAuto (mergeF a) w) := by
  have HA := Lib.hid ha
  obtain ⟨vN, vP, rfl, hI, hN, hP⟩ := ha
  have hmx : Try.prog.follows .mixedOrders = true := by kernel_rfl
  cases hv : validA a with
  | false =>
    have hF := FA.start w #[.int .i64 a.letters, .int .i64 a.start, vN, vP]
    have HR : Hid (mergeF a = noAu) := by show _ = _; simp [mergeF, hv]
    have HV := Lib.hid (RPValid_c ((w.alloc (.cells #[.int .i64 a.letters, .int .i64 a.start, vN, vP] 24)).alloc (.cells #[.int .i64 0, .int .i64 0, .slice none 0 0, .slice none 0 0] 24)) _ a (HA.out.below hF.bl))
    obtain ⟨c0, c1, c2, c3⟩ := hF.cells
    clear hI hN hP
    go_enter Try.func21, Try.ntmps21
    go_upto_region 1 with (fail)
    generalize ((w.alloc (.cells #[.int .i64 a.letters, .int .i64 a.start, vN, vP] 24)).alloc (.cells #[.int .i64 0, .int .i64 0, .slice none 0 0, .slice none 0 0] 24)) = w2 at *
    go_wp2_with fail
    refine HV.out.mono ?_
    rintro e w3 ⟨rfl, hb3⟩
    rw [hv]
    have hF3 := hF.below hb3
    obtain ⟨⟨z0, z1, z2, z3⟩, y0, y1, y2, y3⟩ := hF3.zero
    clear hb3 hF c0 c1 c2 c3 HV
    go_wp2
    (have hc4 := four_set (a := Value.int .i64 0) (b := Value.int .i64 0) (c := Value.slice none 0 0) (d := Value.slice none 0 0) hF3.rc); (have c0 := cell_of_row _ _ 0 _ _ _ hc4); (have c1 := cell_of_row _ _ 1 _ _ _ hc4); (have c2 := cell_of_row _ _ 2 _ _ _ hc4); (have c3 := cell_of_row _ _ 3 _ _ _ hc4); (refine bodyPost_ret (v := .agg #[Value.int .i64 0, Value.int .i64 0, Value.slice none 0 0, Value.slice none 0 0]) (by simp [results, Try.results21, go_sem, c0, c1, c2, c3]) rfl ?_)
    rw [HR.out]
    exact hF3.fin (fun W _ => noAu_is W)
  | true =>
    have hF := FA.start w #[.int .i64 a.letters, .int .i64 a.start, vN, vP]
    have hA := AuV.of hv
    have HR : Hid (mergeF a = mergeA a) := by show _ = _; simp [mergeF, hv]
    obtain ⟨k, hk⟩ : ∃ k, k = a.letters.toNat := ⟨_, rfl⟩
    rw [← hk] at hA
    have HX := Lib.hid hA
    have hk1 : 1 ≤ k ∧ k ≤ 64 := hA.k1
    have HLk := Lib.hid hA.L
    have hn0 : 0 < a.next.length := by have := hA.n1; omega
    have hn3 : a.next.length ≤ 3000 := hA.n1.2
    clear hk
    obtain ⟨aN, cN, bN, oN, V, hvN, hdN, hmN, hVN⟩ := hN.data
    obtain ⟨aP, cP, bP, oP, VP, hvP, hdP, hmP, hVP⟩ := hP.data
    have HVN := Lib.hid hVN
    have hpl := hA.pn
    rw [hpl] at hdP hvP hVP
    have HVP := Lib.hid hVP
    obtain rfl := hdN hn0
    obtain rfl := hdP hn0
    subst hvN hvP
    have HI := Lib.hid hI
    have HPL := Lib.hid hpl
    have HV := Lib.hid (RPValid_c ((w.alloc (.cells #[.int .i64 a.letters, .int .i64 a.start, .slice (some ⟨bN, oN, none⟩) a.next.length cN, .slice (some ⟨bP, oP, none⟩) a.next.length cP] 24)).alloc (.cells #[.int .i64 0, .int .i64 0, .slice none 0 0, .slice none 0 0] 24)) _ a (HA.out.below hF.bl))
    obtain ⟨c0, c1, c2, c3⟩ := hF.cells
    obtain ⟨st, hste⟩ : ∃ st : Nat, a.start = (st : Int) := ⟨a.start.toNat, by have := hA.st; omega⟩
    have hstn : st < a.next.length := by have := hA.st; omega
    have hst2 : (st : Int) < a.next.length := by omega
    have HST := Lib.hid hste
    clear hI hN hP hVN hdN hA hdP hVP hpl hmP hste
    go_enter Try.func21, Try.ntmps21
    go_upto_region 1 with (fail)
    generalize ((w.alloc (.cells #[.int .i64 a.letters, .int .i64 a.start, .slice (some ⟨bN, oN, none⟩) a.next.length cN, .slice (some ⟨bP, oP, none⟩) a.next.length cP] 24)).alloc (.cells #[.int .i64 0, .int .i64 0, .slice none 0 0, .slice none 0 0] 24)) = w2 at *
    go_wp2_with fail
    refine HV.out.mono ?_
    rintro e w3 ⟨rfl, hb3⟩
    rw [hv]
    have HF3 := Lib.hid (hF.below hb3)
    clear c0 c1 c2 c3 HV hb3 hF
    obtain ⟨c0, c1, c2, c3⟩ := HF3.out.cells
    have HEq := Lib.hid (Equiv_c w3 _ a k (HA.out.below HF3.out.bl) HX.out)
    go_wp2_with fail
    refine HEq.out.mono ?_
    rintro e w4 ⟨vo, vals, M, rfl, hM4, hb4, hEq⟩
    obtain ⟨aO, cO, hvo⟩ := hM4.slice
    subst hvo
    obtain ⟨gO, hgO⟩ := ownsRow_at hM4.o
    obtain rfl := hgO hn0
    have HM4 := Lib.hid hM4
    have HEQ := Lib.hid hEq
    have HF4 := Lib.hid (HF3.out.below hb4)
    have hsz4 := hb4.size
    have hr3 := HF3.out.lt
    clear c0 c1 c2 c3 hb4 HEq hgO hM4 hEq
    go_upto_region 6 with (fail)
    have HC0 : Hid (OI ((w4.alloc (.cells #[] 3)).alloc (.cells #[] 3)) w4.heap.size (.slice (some ⟨w4.heap.size, 0, none⟩) 0 0) ((clsA a).take 0)) := (OI_empty0 w4).below (bel_box _)
    have HFi0 : Hid (OI ((w4.alloc (.cells #[] 3)).alloc (.cells #[] 3)) w4.heap.size (.slice (some ⟨w4.heap.size + 1, 0, none⟩) 0 0) (castL (firstsC (clsA a) 0))) := by
      have h := (OI_empty0 (w4.alloc (.cells #[] 3))).base (show w4.heap.size ≤ (w4.alloc (.cells #[] 3)).heap.size by simp)
      show OI _ _ _ []
      simpa using h
    have HB0 : Hid (Below w4.heap.size w4 ((w4.alloc (.cells #[] 3)).alloc (.cells #[] 3))) := (bel_box _).trans ((bel_box _).mono (by simp))
    have HAp0 : Hid (Apart (.slice (some ⟨w4.heap.size, 0, none⟩) 0 0) (.slice (some ⟨w4.heap.size + 1, 0, none⟩) 0 0)) := fun g h1 h2 => by
      have e1 : w4.heap.size = g := Option.some.inj h1
      have e2 : w4.heap.size + 1 = g := Option.some.inj h2
      omega
    generalize (w4.alloc (.cells #[] 3)).alloc (.cells #[] 3) = w5 at *
    go_wp2
    go_loopg [4, 5, 6] a.next.length (fun gh c4 c5 c6 wx => ∃ (i : Nat), gh = a.next.length - i ∧ c6 = .int .i64 (i : Int) ∧ i ≤ a.next.length ∧ Hid (OI wx w4.heap.size c4 ((clsA a).take i)) ∧ Hid (OI wx w4.heap.size c5 (castL (firstsC (clsA a) i))) ∧ Hid (Apart c4 c5) ∧ Hid (Below w4.heap.size w4 wx))
    case atStart => exact ⟨0, rfl, rfl, by omega, HC0, HFi0, HAp0, HB0⟩
    case round =>
      clear HC0 HFi0 HAp0 HB0
      obtain ⟨i, hgi, rfl, hin, HCx, HFx, HAx, HBx⟩ := hrel
      have HGI := Lib.hid hgi
      clear hgi
      obtain ⟨a4, c4, hv4⟩ := HCx.out.slice
      obtain ⟨a5, c5, hv5⟩ := HFx.out.slice
      have hcl : (clsA a).length = a.next.length := clsI_len a _
      have HCL := Lib.hid hcl
      have ht4 : ((clsA a).take i).length = i := by rw [List.length_take, hcl]; omega
      have HT4 := Lib.hid ht4
      rw [ht4] at hv4
      rw [castL_ln] at hv5
      subst hv4 hv5
      have hfl := firstsC_len (clsA a) i
      obtain ⟨f, hfe⟩ : ∃ f, f = (firstsC (clsA a) i).length := ⟨_, rfl⟩
      have HFE := Lib.hid hfe
      rw [← hfe] at hfl HAx HFx
      rw [← hfe]
      have HFo := Lib.hid (HF4.out.belowB (by omega) HBx.out)
      have hBw := HBx.out.size
      obtain ⟨c0, c1, c2, c3⟩ := HFo.out.cells
      clear ht4 hcl hfe
      by_cases hi : i < a.next.length
      · as_aux_lemma =>
        have hi2 : (i : Int) < a.next.length := by omega
        obtain ⟨hc0, hc1⟩ := clsA_le a hi
        obtain ⟨ci, hci⟩ : ∃ ci : Nat, (clsA a).getD i 0 = (ci : Int) := ⟨((clsA a).getD i 0).toNat, by omega⟩
        have hcf : ci ≤ f := by have := HFE.out; omega
        have HCI := Lib.hid hci
        have HMx := Lib.hid (HM4.out.below HBx.out)
        have HSF : Hid (∀ j, j < f → M i ((firstsC (clsA a) i).getD j 0) = decide ((ci : Int) = (j : Int))) := fun j hj => by rw [← HCI.out]; exact same_first HX.out HEQ.out hi (by have := HFE.out; omega)
        clear hc0 hc1 hci c0 c1 c3
        go_upto_region 10 with (fail)
        clear c2
        obtain ⟨w6, hw6⟩ : ∃ w6, w6 = wr := ⟨_, rfl⟩
        rw [← hw6]
        rw [← hw6] at HCx HFx HBx HFo hBw HMx
        clear hw6
        have HBd0 : Hid (∃ m, w6.drewN m = w6) := ⟨0, rfl⟩
        go_wp2
        go_loopg [7, 8] (f + 1) (fun gh c7 c8 wx => ∃ (x m : Nat) (b : Bool), gh = f + 1 - x ∧ c8 = .int .i64 (x : Int) ∧ x ≤ f ∧ c7 = .int .i64 ((if b then ci else f : Nat) : Int) ∧ (b = true → ci < f ∧ ci < x) ∧ (b = false → x ≤ ci) ∧ w6.drewN m = wx)
        case atStart => exact ⟨0, 0, false, rfl, rfl, by omega, rfl, fun e => (nomatch e), fun _ => Nat.zero_le _, rfl⟩
        case round =>
          obtain ⟨x, m, b, hgx, rfl, hxf, rfl, hbt, hbf, rfl⟩ := hrel
          have HGX := Lib.hid hgx
          clear hgx
          cases b with
          | true =>
            obtain ⟨hcf1, hcx⟩ := hbt rfl
            have he : ((if true = true then ci else f : Nat) : Int) = (ci : Int) := rfl
            clear hbt hbf
            by_cases hxl : x < f
            · as_aux_lemma =>
              have hx2 : (x : Int) < f := by omega
              have hx3 : decide ((x : Int) < (f : Int)) = true := decide_eq_true hx2
              have hcf2 : ((ci : Int) == (f : Int)) = false := by simp; omega
              have hcf3 : ¬ (ci : Int) = (f : Int) := by omega
              obtain ⟨w9, hw9⟩ : ∃ w9, w9 = w6.drewN m := ⟨_, rfl⟩
              have HC9 : Hid (OI w9 w4.heap.size (.slice a4 i c4) ((clsA a).take i)) := by show OI _ _ _ _; rw [hw9]; exact HCx.out.below (below_draws _ _ _)
              have HF9 : Hid (OI w9 w4.heap.size (.slice a5 f c5) (castL (firstsC (clsA a) (i + 1)))) := by
                show OI _ _ _ _
                rw [hw9, show firstsC (clsA a) (i + 1) = firstsC (clsA a) i by show (if _ then _ else _) = _; rw [HCI.out, if_pos (by have := HFE.out; omega)]]
                exact HFx.out.below (below_draws _ _ _)
              have HA9 : Hid (Apart (.slice a4 i c4) (.slice a5 f c5)) := HAx.out
              have HB9 : Hid (Below w4.heap.size w4 w9) := by show Below _ _ _; rw [hw9]; exact HBx.out.trans ((below_draws _ _ _).mono hBw)
              rw [← hw9]
              clear hw9
              have hC9 := HC9.out
              have hl4 : ((clsA a).take i).length < 17592186043904 := by have := HT4.out; omega
              have hB9 : w4.heap.size ≤ w9.heap.size := HB9.out.size
              go_wp2_with (at_builtin; refine app_int rfl _ _ (ci : Int) rfl w4.heap.size _ _ hC9 rfl _ (by simp) rfl hl4 hB9 ?_; intro v' w' hown' hg hmv; obtain ⟨ao', cap', hv'⟩ := hown'.slice; rw [List.length_append, List.length_singleton, HT4.out] at hv'; subst hv'; have HC' := Lib.hid hown'; have HG := Lib.hid hg; have HMV := Lib.hid hmv; clear hown' hg hmv hC9)
              have HO1 : Hid (Only (fun q => (.slice a4 i c4 : Value).ownBlock = some q) w9 w') := Only.of_grown HG.out
              have HCn : Hid (OI w' w4.heap.size (.slice ao' (i + 1) cap') ((clsA a).take (i + 1))) := by
                show OI _ _ _ _
                rw [cls_take (by rw [HCL.out]; exact hi), HCI.out]
                exact HC'.out
              have HFn : Hid (OI w' w4.heap.size (.slice a5 f c5) (castL (firstsC (clsA a) (i + 1)))) := HF9.out.only HO1.out fun q e1 e2 => HA9.out q e2 e1
              have HAn : Hid (Apart (.slice ao' (i + 1) cap') (.slice a5 f c5)) := (HA9.out.symm.moved HMV.out fun g e => HF9.out.lt' g e).symm
              have HBn : Hid (Below w4.heap.size w4 w') := HB9.out.trans (HO1.out.below w4.heap.size (fun q e => HC9.out.ge q e) hB9)
              go_roundg (a.next.length - (i + 1))
              case measure => have := HGI.out; omega
              case rel => exact ⟨i + 1, rfl, by go_num, by omega, HCn, HFn, HAn, HBn⟩
            · as_aux_lemma =>
              have hx2 : ¬ (x : Int) < f := by omega
              have hx3 : decide ((x : Int) < (f : Int)) = false := decide_eq_false hx2
              have hcf2 : ((ci : Int) == (f : Int)) = false := by simp; omega
              have hcf3 : ¬ (ci : Int) = (f : Int) := by omega
              obtain ⟨w9, hw9⟩ : ∃ w9, w9 = w6.drewN m := ⟨_, rfl⟩
              have HC9 : Hid (OI w9 w4.heap.size (.slice a4 i c4) ((clsA a).take i)) := by show OI _ _ _ _; rw [hw9]; exact HCx.out.below (below_draws _ _ _)
              have HF9 : Hid (OI w9 w4.heap.size (.slice a5 f c5) (castL (firstsC (clsA a) (i + 1)))) := by
                show OI _ _ _ _
                rw [hw9, show firstsC (clsA a) (i + 1) = firstsC (clsA a) i by show (if _ then _ else _) = _; rw [HCI.out, if_pos (by have := HFE.out; omega)]]
                exact HFx.out.below (below_draws _ _ _)
              have HA9 : Hid (Apart (.slice a4 i c4) (.slice a5 f c5)) := HAx.out
              have HB9 : Hid (Below w4.heap.size w4 w9) := by show Below _ _ _; rw [hw9]; exact HBx.out.trans ((below_draws _ _ _).mono hBw)
              rw [← hw9]
              clear hw9
              have hC9 := HC9.out
              have hl4 : ((clsA a).take i).length < 17592186043904 := by have := HT4.out; omega
              have hB9 : w4.heap.size ≤ w9.heap.size := HB9.out.size
              go_wp2_with (at_builtin; refine app_int rfl _ _ (ci : Int) rfl w4.heap.size _ _ hC9 rfl _ (by simp) rfl hl4 hB9 ?_; intro v' w' hown' hg hmv; obtain ⟨ao', cap', hv'⟩ := hown'.slice; rw [List.length_append, List.length_singleton, HT4.out] at hv'; subst hv'; have HC' := Lib.hid hown'; have HG := Lib.hid hg; have HMV := Lib.hid hmv; clear hown' hg hmv hC9)
              have HO1 : Hid (Only (fun q => (.slice a4 i c4 : Value).ownBlock = some q) w9 w') := Only.of_grown HG.out
              have HCn : Hid (OI w' w4.heap.size (.slice ao' (i + 1) cap') ((clsA a).take (i + 1))) := by
                show OI _ _ _ _
                rw [cls_take (by rw [HCL.out]; exact hi), HCI.out]
                exact HC'.out
              have HFn : Hid (OI w' w4.heap.size (.slice a5 f c5) (castL (firstsC (clsA a) (i + 1)))) := HF9.out.only HO1.out fun q e1 e2 => HA9.out q e2 e1
              have HAn : Hid (Apart (.slice ao' (i + 1) cap') (.slice a5 f c5)) := (HA9.out.symm.moved HMV.out fun g e => HF9.out.lt' g e).symm
              have HBn : Hid (Below w4.heap.size w4 w') := HB9.out.trans (HO1.out.below w4.heap.size (fun q e => HC9.out.ge q e) hB9)
              go_roundg (a.next.length - (i + 1))
              case measure => have := HGI.out; omega
              case rel => exact ⟨i + 1, rfl, by go_num, by omega, HCn, HFn, HAn, HBn⟩
          | false =>
            have hxc := hbf rfl
            clear hbt hbf
            by_cases hxl : x < f
            · as_aux_lemma =>
              have hx2 : (x : Int) < f := by omega
              have hx3 : decide ((x : Int) < (f : Int)) = true := decide_eq_true hx2
              have hff : ((f : Int) == (f : Int)) = true := by simp
              obtain ⟨g5, k5, hg5, -, -⟩ := HFx.out.row (by rw [castL_ln, ← HFE.out]; omega)
              rw [castL_ln, ← HFE.out] at hg5
              injection hg5 with hg5a hg5b hg5c
              subst hg5a
              have hF9 := HFx.out
              have l1 := OI.at' hF9 (by rw [castL_ln, ← HFE.out]) x (by rw [castL_ln, ← HFE.out]; exact hxl)
              rw [← getD_lt (castL (firstsC (clsA a) i)) 0 x (by rw [castL_ln, ← HFE.out]; exact hxl), castL_getD (by rw [← HFE.out]; exact hxl)] at l1
              have ht := (clsA_first a hin (j := x) (by rw [← HFE.out]; exact hxl)).1
              have hm := HSF.out x hxl
              generalize (firstsC (clsA a) i).getD x 0 = t at *
              have ht2 : (t : Int) < a.next.length := by omega
              obtain ⟨g2, k2, hv2, m4, m5, -⟩ := HMx.out.at' hi ht
              rw [hm] at m5
              clear hF9 hv2 hm hg5b hg5c
              have l1 := cellB (below_draws w6 _ m) l1
              have m4 := cellB (below_draws w6 _ m) m4
              have m5 := cellB (below_draws w6 _ m) m5
              go_upto_region 13 with (fail)
              refine wp_region_quiet_lit (by kernel_rfl) (by kernel_rfl) ?_
              ((repeat (go_big_quiet_step (fail))); refine wpQuiet_nil ?_; rintro _ ⟨nq, rfl⟩)
              clear l1 m4 m5
              by_cases hct : ci = x
              · as_aux_lemma =>
                have hd : decide ((ci : Int) = (x : Int)) = true := decide_eq_true (by omega)
                have hd2 : (ci : Int) = (x : Int) := by omega
                go_wp2
                go_roundg (f + 1 - (x + 1))
                case measure => have := HGX.out; omega
                case rel => exact ⟨x + 1, m + nq, true, rfl, by go_num, by omega, by rw [hct]; rfl, fun _ => ⟨by omega, by omega⟩, fun e => (nomatch e), rfl⟩
              · as_aux_lemma =>
                have hd : decide ((ci : Int) = (x : Int)) = false := decide_eq_false (by omega)
                have hd2 : ¬ (ci : Int) = (x : Int) := by omega
                go_wp2
                go_roundg (f + 1 - (x + 1))
                case measure => have := HGX.out; omega
                case rel => exact ⟨x + 1, m + nq, false, rfl, by go_num, by omega, rfl, fun e => (nomatch e), fun _ => by omega, rfl⟩
            · as_aux_lemma =>
              have hx2 : ¬ (x : Int) < f := by omega
              have hx3 : decide ((x : Int) < (f : Int)) = false := decide_eq_false hx2
              have hce : ci = f := by omega
              have HCf := Lib.hid hce
              clear hce
              have hcf2 : ((f : Int) == (f : Int)) = true := by simp
              obtain ⟨w8, hw8⟩ : ∃ w8, w8 = w6.drewN m := ⟨_, rfl⟩
              have HC8 : Hid (OI w8 w4.heap.size (.slice a4 i c4) ((clsA a).take i)) := by show OI _ _ _ _; rw [hw8]; exact HCx.out.below (below_draws _ _ _)
              have HF8 : Hid (OI w8 w4.heap.size (.slice a5 f c5) (castL (firstsC (clsA a) i))) := by show OI _ _ _ _; rw [hw8]; exact HFx.out.below (below_draws _ _ _)
              have HB8 : Hid (Below w4.heap.size w4 w8) := by show Below _ _ _; rw [hw8]; exact HBx.out.trans ((below_draws _ _ _).mono hBw)
              rw [← hw8]
              clear hw8
              have hF8 := HF8.out
              have hl5 : (castL (firstsC (clsA a) i)).length < 17592186043904 := by rw [castL_ln]; have := HFE.out; omega
              have hB8 : w4.heap.size ≤ w8.heap.size := HB8.out.size
              go_upto_region 17 with (at_builtin; refine app_int rfl _ _ (i : Int) rfl w4.heap.size _ _ hF8 rfl _ (by simp) rfl hl5 hB8 ?_; intro v2 w9 hown2 hg2 hmv2; obtain ⟨ao2, cap2, hv2⟩ := hown2.slice; rw [List.length_append, List.length_singleton, castL_ln, ← HFE.out] at hv2; subst hv2; have HF' := Lib.hid hown2; have HG2 := Lib.hid hg2; have HMV2 := Lib.hid hmv2; clear hown2 hg2 hmv2 hF8)
              have HO2 : Hid (Only (fun q => (.slice a5 f c5 : Value).ownBlock = some q) w8 w9) := Only.of_grown HG2.out
              have HC9 : Hid (OI w9 w4.heap.size (.slice a4 i c4) ((clsA a).take i)) := HC8.out.only HO2.out fun q e1 e2 => HAx.out q e1 e2
              have HF9 : Hid (OI w9 w4.heap.size (.slice ao2 (f + 1) cap2) (castL (firstsC (clsA a) (i + 1)))) := by
                show OI _ _ _ _
                rw [show firstsC (clsA a) (i + 1) = firstsC (clsA a) i ++ [i] by show (if _ then _ else _) = _; rw [HCI.out, if_neg (by have := HFE.out; omega)], castL_app]
                exact HF'.out
              have HA9 : Hid (Apart (.slice a4 i c4) (.slice ao2 (f + 1) cap2)) := HAx.out.moved HMV2.out fun g e => HC8.out.lt' g e
              have HB9 : Hid (Below w4.heap.size w4 w9) := HB8.out.trans (HO2.out.below w4.heap.size (fun q e => HF8.out.ge q e) hB8)
              have hC9 := HC9.out
              have hl4 : ((clsA a).take i).length < 17592186043904 := by have := HT4.out; omega
              have hB9 : w4.heap.size ≤ w9.heap.size := HB9.out.size
              go_wp2_with (at_builtin; refine app_int rfl _ _ (f : Int) rfl w4.heap.size _ _ hC9 rfl _ (by simp) rfl hl4 hB9 ?_; intro v' w' hown' hg hmv; obtain ⟨ao', cap', hv'⟩ := hown'.slice; rw [List.length_append, List.length_singleton, HT4.out] at hv'; subst hv'; have HC' := Lib.hid hown'; have HG := Lib.hid hg; have HMV := Lib.hid hmv; clear hown' hg hmv hC9)
              have HO1 : Hid (Only (fun q => (.slice a4 i c4 : Value).ownBlock = some q) w9 w') := Only.of_grown HG.out
              have HCn : Hid (OI w' w4.heap.size (.slice ao' (i + 1) cap') ((clsA a).take (i + 1))) := by
                show OI _ _ _ _
                rw [cls_take (by rw [HCL.out]; exact hi), HCI.out, HCf.out]
                exact HC'.out
              have HFn : Hid (OI w' w4.heap.size (.slice ao2 (f + 1) cap2) (castL (firstsC (clsA a) (i + 1)))) := HF9.out.only HO1.out fun q e1 e2 => HA9.out q e2 e1
              have HAn : Hid (Apart (.slice ao' (i + 1) cap') (.slice ao2 (f + 1) cap2)) := (HA9.out.symm.moved HMV.out fun g e => HF9.out.lt' g e).symm
              have HBn : Hid (Below w4.heap.size w4 w') := HB9.out.trans (HO1.out.below w4.heap.size (fun q e => HC9.out.ge q e) hB9)
              go_roundg (a.next.length - (i + 1))
              case measure => have := HGI.out; omega
              case rel => exact ⟨i + 1, rfl, by go_num, by omega, HCn, HFn, HAn, HBn⟩
      · as_aux_lemma =>
        obtain rfl : i = a.next.length := by omega
        have HTA : Hid ((clsA a).take a.next.length = clsA a) := List.take_of_length_le (Nat.le_of_eq HCL.out)
        rw [HTA.out] at HCx
        have hf0 : 0 < f := by have h1 := clsA_lt a hn0; have h2 := HFE.out; omega
        have hIC := HCx.out.is (by rw [HCL.out]; unfold maxN; omega) (clsA_i64 HX.out)
        have hIF := HFx.out.is (by rw [castL_ln, ← HFE.out]; unfold maxN; omega) (fst_i64 hn3 (Nat.le_refl _))
        obtain ⟨bC, oC, hadC, -, hdc⟩ := hIC.dat
        obtain ⟨bF, oF, hadF, -, hdf⟩ := hIF.dat
        obtain rfl := hadC hn0
        obtain rfl := hadF hf0
        have HDC : Hid (∀ j, j < a.next.length → wr.cell? ⟨bC, oC + j, none⟩ = some (.int .i64 ((clsA a).getD j 0))) := hdc
        have HDF : Hid (∀ j, j < f → wr.cell? ⟨bF, oF + j, none⟩ = some (.int .i64 (((firstsC (clsA a) a.next.length).getD j 0 : Nat) : Int))) := fun j hj => by rw [← castL_getD (by rw [← HFE.out]; exact hj)]; exact hdf j hj
        obtain ⟨w6, hw6⟩ : ∃ w6, w6 = wr := ⟨_, rfl⟩
        rw [← hw6] at HDC HDF HFo c0 c1 c2 c3
        rw [← hw6]
        clear hw6 hIC hIF hadC hadF hdc hdf hi hin HGI HBx HCx HFx HAx hBw
        rw [HST.out] at c1
        have hr6 := HFo.out.lt
        go_upto_region 18 with (fail)
        have cs := HDC.out st hstn
        obtain ⟨st0, hst0⟩ : ∃ x, x = (clsA a).getD st 0 := ⟨_, rfl⟩
        rw [← hst0] at cs
        have HST0 := Lib.hid hst0
        have HSI : Hid (I64 st0) := by show I64 _; rw [hst0]; exact clsA_i64 HX.out _ (getD_mem (by rw [HCL.out]; exact hstn))
        clear hst0
        rw [HST.out]
        refine region_last hmx (R14_4 w.heap.size w6.heap.size bC oC st a.next.length c4 a.letters st0) (fun vs => { tmps := (_ :: _ :: _ :: _ :: _ :: _ :: _ :: _ :: _ :: vs 8 :: _ :: _ :: _ :: _ :: _ :: _ :: _ :: _ :: _ :: _ :: _ :: _ :: _ :: _ :: _ :: _ :: _ :: _ :: _ :: _ :: _ :: _ :: _ :: _ :: _ :: _ :: _ :: _ :: _ :: _ :: _ :: _ :: _ :: _ :: _ :: _ :: _ :: _ :: _ :: _ :: _ :: _ :: _ :: _ :: _ :: _ :: _ :: _ :: _ :: _ :: _ :: _ :: _ :: _ :: _ :: vs 0 :: vs 1 :: vs 2 :: vs 3 :: vs 4 :: vs 5 :: vs 6 :: vs 7 :: _ :: _ :: _ :: _ :: _ :: _ :: _ :: _ :: _ :: _ :: _ :: _ :: _ :: _ :: _ :: _ :: _ :: _ :: _ :: _ :: _ :: _ :: _ :: _ :: _ :: _ :: _ :: _ :: _ :: _ :: _ :: _ :: _ :: _ :: _ :: _ :: _ :: _ :: _ :: _ :: _ :: _ :: _ :: _ :: _ :: _ :: _ :: _ :: _ :: _ :: _ :: _ :: []).toArray, defers := _ }) (fun _ => undef) 9 rfl (by kernel_rfl) (by kernel_rfl) (R14_4.mono _ _ _ _ _ _ _ _ _) ?step ?last
        case step =>
          intro ix o hlt ho
          match ix, hlt, ho with
          | 0, _, ho =>
            obtain rfl := Option.some.inj ho
            intro vs W K hB hD hK
            have HK := Lib.hid hK
            clear hK hD ho
            dsimp only
            go_simp
            have h := HK.out _ _ (Below.refl _ _) rfl
            simp only [upd, Nat.reduceEqDiff, reduceIte] at h
            exact h
          | 1, _, ho =>
            obtain rfl := Option.some.inj ho
            intro vs W K hB hD hK
            have HK := Lib.hid hK
            have e0 : vs 0 = .pointer (some ⟨w.heap.size, 0, none⟩) := dep_of hD 0 (by rfl)
            have c := cellB hB c0
            clear hK hD ho
            dsimp only
            go_simp
            have h := HK.out _ _ (Below.refl _ _) rfl
            simp only [upd, Nat.reduceEqDiff, reduceIte, e0] at h
            exact h
          | 2, _, ho =>
            obtain rfl := Option.some.inj ho
            intro vs W K hB hD hK
            have HK := Lib.hid hK
            clear hK hD ho
            dsimp only
            go_simp
            have h := HK.out _ _ (Below.refl _ _) rfl
            simp only [upd, Nat.reduceEqDiff, reduceIte] at h
            exact h
          | 3, _, ho =>
            obtain rfl := Option.some.inj ho
            intro vs W K hB hD hK
            have HK := Lib.hid hK
            clear hK hD ho
            dsimp only
            go_simp
            have h := HK.out _ _ (Below.refl _ _) rfl
            simp only [upd, Nat.reduceEqDiff, reduceIte] at h
            exact h
          | 4, _, ho =>
            obtain rfl := Option.some.inj ho
            intro vs W K hB hD hK
            have HK := Lib.hid hK
            have e3 : vs 3 = .pointer (some ⟨w.heap.size, 1, none⟩) := dep_of hD 3 (by rfl)
            have c := cellB hB c1
            clear hK hD ho
            dsimp only
            go_simp
            have h := HK.out _ _ (Below.refl _ _) rfl
            simp only [upd, Nat.reduceEqDiff, reduceIte, e3] at h
            exact h
          | 5, _, ho =>
            obtain rfl := Option.some.inj ho
            intro vs W K hB hD hK
            have HK := Lib.hid hK
            have e2 : vs 2 = .slice (some ⟨bC, oC, none⟩) a.next.length c4 := dep_of hD 2 (by rfl)
            have e4 : vs 4 = .int .i64 (st : Int) := dep_of hD 4 (by rfl)
            clear hK hD ho
            dsimp only
            go_simp
            have h := HK.out _ _ (Below.refl _ _) rfl
            simp only [upd, Nat.reduceEqDiff, reduceIte, e2, e4] at h
            exact h
          | 6, _, ho =>
            obtain rfl := Option.some.inj ho
            intro vs W K hB hD hK
            have HK := Lib.hid hK
            have e5 : vs 5 = .pointer (some ⟨bC, oC + st, none⟩) := dep_of hD 5 (by rfl)
            have c := cellB hB cs
            clear hK hD ho
            dsimp only
            go_simp
            have h := HK.out _ _ (Below.refl _ _) rfl
            simp only [upd, Nat.reduceEqDiff, reduceIte, e5] at h
            exact h
          | 7, _, ho =>
            obtain rfl := Option.some.inj ho
            intro vs W K hB hD hK
            have HK := Lib.hid hK
            have e1 : vs 1 = .int .i64 a.letters := dep_of hD 1 (by rfl)
            have e6 : vs 6 = .int .i64 st0 := dep_of hD 6 (by rfl)
            clear hK hD ho
            dsimp only
            go_simp
            have h := HK.out _ _ (Below.refl _ _) rfl
            simp only [upd, Nat.reduceEqDiff, reduceIte, e1, e6] at h
            exact h
          | 8, _, ho =>
            obtain rfl := Option.some.inj ho
            intro vs W K hB hD hK
            have HK := Lib.hid hK
            clear hK hD ho
            dsimp only
            go_simp
            have h := HK.out (.pointer (some ⟨W.heap.size, 0, none⟩)) _ (bel_box (.cells #[.int .i64 0, .int .i64 0, .slice none 0 0, .slice none 0 0] 24)) ⟨_, rfl, hB.size, heap_alloc_new _ _⟩
            simp only [upd, Nat.reduceEqDiff, reduceIte] at h
            exact h
          | q + 9, hlt, _ => exact absurd hlt (by omega)
        case last =>
          intro o ho
          obtain rfl := Option.some.inj ho
          intro vs W K hB hR hK
          have e0 : vs 0 = .pointer (some ⟨w.heap.size, 0, none⟩) := hR 0 (by omega)
          have e1 : vs 1 = .int .i64 a.letters := hR 1 (by omega)
          have e2 : vs 2 = .slice (some ⟨bC, oC, none⟩) a.next.length c4 := hR 2 (by omega)
          have e3 : vs 3 = .pointer (some ⟨w.heap.size, 1, none⟩) := hR 3 (by omega)
          have e4 : vs 4 = .int .i64 (st : Int) := hR 4 (by omega)
          have e5 : vs 5 = .pointer (some ⟨bC, oC + st, none⟩) := hR 5 (by omega)
          have e6 : vs 6 = .int .i64 st0 := hR 6 (by omega)
          have e7 : vs 7 = .agg #[.int .i64 a.letters, .int .i64 st0, .slice none 0 0, .slice none 0 0] := hR 7 (by omega)
          obtain ⟨z, e8, hzB, hbox⟩ : ∃ z, vs 8 = .pointer (some ⟨z, 0, none⟩) ∧ w6.heap.size ≤ z ∧ W.heap[z]? = some (.cells #[.int .i64 0, .int .i64 0, .slice none 0 0, .slice none 0 0] 24 (0, 0)) := hR 8 (by omega)
          have k0 := cell_of_row _ _ 0 _ _ _ hbox
          have k1 := cell_of_row _ _ 1 _ _ _ hbox
          have k2 := cell_of_row _ _ 2 _ _ _ hbox
          have k3 := cell_of_row _ _ 3 _ _ _ hbox
          have f0 := frozen_of_row _ _ 0 _ _ hbox
          have f1 := frozen_of_row _ _ 1 _ _ hbox
          have f2 := frozen_of_row _ _ 2 _ _ hbox
          have f3 := frozen_of_row _ _ 3 _ _ hbox
          have HBX := Lib.hid (four_set (a := .int .i64 a.letters) (b := .int .i64 st0) (c := .slice none 0 0) (d := .slice none 0 0) hbox)
          have HBB : Hid (Below w6.heap.size w6 ((((W.setCell ⟨z, 0, none⟩ (.int .i64 a.letters)).setCell ⟨z, 1, none⟩ (.int .i64 st0)).setCell ⟨z, 2, none⟩ (.slice none 0 0)).setCell ⟨z, 3, none⟩ (.slice none 0 0))) :=
            (Below.drew (Below.refl _ _)).trans (hB.trans ((four_only z _ _ _ _).below w6.heap.size (fun q e => by have : q = z := e; omega) hB.size))
          have HK := Lib.hid hK
          have hzW : z < W.heap.size := (Array.getElem?_eq_some_iff.1 hbox).1
          clear hK hR hbox hB ho
          dsimp only
          go_simp
          refine HK.out _ _ ?_
          clear e0 e1 e2 e3 e4 e5 e6 e7 e8 k0 k1 k2 k3 f0 f1 f2 f3 HK c0 c1 c2 c3 cs
          have HF5 := Lib.hid (HFo.out.belowB (by omega) HBB.out)
          have HAB : Hid (AB ((((W.setCell ⟨z, 0, none⟩ (.int .i64 a.letters)).setCell ⟨z, 1, none⟩ (.int .i64 st0)).setCell ⟨z, 2, none⟩ (.slice none 0 0)).setCell ⟨z, 3, none⟩ (.slice none 0 0)) w6.heap.size z a.letters st0 (.slice none 0 0) (.slice none 0 0) [] [] [] [] (fun q => q ≤ w.heap.size + 1)) := AB.of HBX.out hzB fun q e => ⟨by have h1 := HF5.out.lt; omega, by omega⟩
          generalize (((W.setCell ⟨z, 0, none⟩ (.int .i64 a.letters)).setCell ⟨z, 1, none⟩ (.int .i64 st0)).setCell ⟨z, 2, none⟩ (.slice none 0 0)).setCell ⟨z, 3, none⟩ (.slice none 0 0) = w5 at *
          clear HBX hzW
          go_wp2
          go_loopg [10] f (fun gh i wx => ∃ (n : Nat) (vN' vP' : Value) (nv pv : List Value) (nxs prs : List (List Int)), gh = f - n ∧ i = .int .i64 (n : Int) ∧ n ≤ f ∧ Hid (nxs = ((firstsC (clsA a) a.next.length).take n).map (mrgR a) ∧ prs = ((firstsC (clsA a) a.next.length).take n).map fun s => a.prio.getD s []) ∧ Hid (AB wx w6.heap.size z a.letters st0 vN' vP' nv pv nxs prs (fun q => q ≤ w.heap.size + 1)) ∧ Hid (Below w6.heap.size w6 wx))
          case atStart => exact ⟨0, _, _, [], [], [], [], rfl, rfl, by omega, ⟨rfl, rfl⟩, HAB, HBB⟩
          case round =>
            clear HAB HBB HF5
            obtain ⟨wo, rfl⟩ : ∃ wo : World, wo = wr := ⟨_, rfl⟩
            obtain ⟨n, vN', vP', nv, pv, nxs, prs, hgs, rfl, hnf, HNS, HABo, HBo⟩ := hrel
            have HGS := Lib.hid hgs
            clear hgs
            have hln : nxs.length = n := by rw [HNS.out.1, List.length_map, List.length_take]; have := HFE.out; omega
            have hlp : prs.length = n := by rw [HNS.out.2, List.length_map, List.length_take]; have := HFE.out; omega
            have HLN := Lib.hid hln
            have HLP := Lib.hid hlp
            obtain ⟨aA, cA, hvN'⟩ := ownsRow_slice HABo.out.oN
            obtain ⟨aQ, cQ, hvP'⟩ := ownsRow_slice HABo.out.oP
            have HFw := Lib.hid (HFo.out.belowB (by omega) HBo.out)
            have hzo := HABo.out.zlt
            clear hln hlp
            by_cases hn : n < f
            · as_aux_lemma =>
              have hn2 : (n : Int) < f := by omega
              have hsn := (clsA_first a (Nat.le_refl _) (j := n) (by rw [← HFE.out]; exact hn)).1
              have hfc := HDF.out n hn
              obtain ⟨s, hse⟩ : ∃ s, s = (firstsC (clsA a) a.next.length).getD n 0 := ⟨_, rfl⟩
              rw [← hse] at hsn hfc
              have HSE := Lib.hid hse
              have HFC := Lib.hid hfc
              obtain ⟨q1, q2⟩ := HVN.out s hsn
              obtain ⟨aR, cR, hVs⟩ := q2.shape
              rw [(HX.out.ln s hsn).1] at hVs
              rw [hVs] at q1 q2
              obtain ⟨bR, oR, had, -, hdt⟩ := q2.dat
              obtain rfl := had (by omega)
              have HDT : Hid (∀ x, x < k → w.cell? ⟨bR, oR + x, none⟩ = some (.int .i64 ((a.next.getD s []).getD x 0))) := hdt
              have HQ1 := Lib.hid q1
              have HRL : Hid ((a.next.getD s []).length = k) := (HX.out.ln s hsn).1
              have HRk : Hid ((mrgR a s).length = k) := by show _ = _; unfold mrgR; rw [List.length_map]; exact HRL.out
              have hC : Hid (∀ q, hotAB z vN' vP' (fun q => q ≤ w.heap.size + 1) q → q < wo.heap.size) := HABo.out.hlt
              clear q1 q2 hVs had hdt hfc hse
              go_upto_region 23 with (fail)
              have HE0 : Hid (OI (wo.alloc (.cells #[] 3)) wo.heap.size (.slice (some ⟨wo.heap.size, 0, none⟩) 0 0) ((mrgR a s).take 0)) := OI_empty0 wo
              have HBe : Hid (Below wo.heap.size wo (wo.alloc (.cells #[] 3))) := bel_box _
              obtain ⟨we, hwe⟩ : ∃ we, we = wo.alloc (.cells #[] 3) := ⟨_, rfl⟩
              rw [← hwe] at HE0 HBe
              rw [← hwe]
              clear hwe
              obtain ⟨C, hCe⟩ : ∃ C, C = wo.heap.size := ⟨_, rfl⟩
              rw [← hCe] at HE0 HBe hC
              rw [← hCe]
              have HCe := Lib.hid hCe
              have hzC : z < C := by omega
              clear hCe
              go_wp2
              go_loopg [11, 12] k (fun gh c11 c12 wx => ∃ (x : Nat), gh = k - x ∧ c12 = .int .i64 (x : Int) ∧ x ≤ k ∧ Hid (OI wx C c11 ((mrgR a s).take x)) ∧ Hid (Below C wo wx))
              case atStart => exact ⟨0, rfl, rfl, by omega, HE0, HBe⟩
              case round =>
                clear HE0 HBe
                obtain ⟨x, hgx, rfl, hxk, HRx, HCx⟩ := hrel
                have HGX := Lib.hid hgx
                obtain ⟨ar, cr, hv11⟩ := HRx.out.slice
                have htk : ((mrgR a s).take x).length = x := by rw [List.length_take, HRk.out]; omega
                rw [htk] at hv11
                have HTK := Lib.hid htk
                subst hv11
                have hCw : C ≤ wr.heap.size := by have h1 := HCx.out.size; have h2 := HCe.out; omega
                have HB6 : Hid (Below w6.heap.size w6 wr) := HBo.out.trans (HCx.out.mono (by omega))
                have HWx := Lib.hid (HFo.out.belowB (by omega) HB6.out)
                obtain ⟨c0, -, c2, -⟩ := HWx.out.cells
                clear hgx htk
                by_cases hx : x < k
                · as_aux_lemma =>
                  have hx2 : (x : Int) < a.letters := by have := HLk.out; omega
                  have hx3 : (x : Int) < k := by omega
                  have q1 := cellB HWx.out.bl HQ1.out
                  have r1 := cellB HWx.out.bl (HDT.out x hx)
                  have hfc := cellB HB6.out HFC.out
                  have hy := HX.out.nx s x hsn hx
                  have hmx2 : (mrgR a s).getD x 0 = (clsA a).getD ((a.next.getD s []).getD x 0).toNat 0 := map_getD (f := fun y => (clsA a).getD y.toNat 0) (by rw [HRL.out]; exact hx)
                  have HSn : Hid ((mrgR a s).take (x + 1) = (mrgR a s).take x ++ [(mrgR a s).getD x 0]) := take_getD (by rw [HRk.out]; exact hx)
                  generalize (a.next.getD s []).getD x 0 = y at *
                  obtain ⟨t, rfl⟩ : ∃ t : Nat, y = (t : Int) := ⟨y.toNat, by omega⟩
                  rw [Int.toNat_natCast] at hmx2
                  have ht2 : (t : Int) < a.next.length := hy.2
                  have r2 := cellB HB6.out (HDC.out t (by omega))
                  rw [← hmx2] at r2
                  generalize (mrgR a s).getD x 0 = ct at *
                  have hs2 : (s : Int) < a.next.length := by omega
                  have hxl : x < 17592186044415 := by omega
                  clear hy hmx2
                  go_upto_region 26 with (fail)
                  obtain ⟨w9, rfl⟩ : ∃ w9 : World, w9 = wr := ⟨_, rfl⟩
                  clear c0
                  refine region_grow4 hmx (R21_26 w.heap.size bC oC bN oN bF oF bR oR n s x t a.next.length f k cr c4 cN c5 cR ar ct) (AppI C ct (.slice ar x cr) ((mrgR a s).take x)) (fun v' u W' => u = v' ∧ Hid (OI W' C v' ((mrgR a s).take (x + 1))) ∧ Hid (Below C w9.drew W')) (fun i => false) 16 17 (fun vs => { tmps := (_ :: _ :: _ :: _ :: _ :: _ :: _ :: _ :: _ :: _ :: _ :: vs 17 :: _ :: _ :: _ :: _ :: _ :: _ :: _ :: _ :: _ :: _ :: _ :: _ :: _ :: _ :: _ :: _ :: _ :: _ :: _ :: _ :: _ :: _ :: _ :: _ :: _ :: _ :: _ :: _ :: _ :: _ :: _ :: _ :: _ :: _ :: _ :: _ :: _ :: _ :: _ :: _ :: _ :: _ :: _ :: _ :: _ :: _ :: _ :: _ :: _ :: _ :: _ :: _ :: _ :: _ :: _ :: _ :: _ :: _ :: _ :: _ :: _ :: _ :: _ :: _ :: _ :: _ :: _ :: _ :: _ :: _ :: _ :: _ :: _ :: _ :: vs 0 :: vs 1 :: vs 2 :: vs 3 :: vs 4 :: vs 5 :: vs 6 :: vs 7 :: vs 8 :: vs 9 :: vs 10 :: vs 11 :: vs 12 :: vs 13 :: vs 14 :: vs 15 :: vs 16 :: _ :: _ :: _ :: _ :: _ :: _ :: _ :: _ :: _ :: _ :: _ :: _ :: _ :: _ :: _ :: _ :: _ :: _ :: _ :: _ :: _ :: _ :: []).toArray, defers := _ }) (fun n => [u86, u87, u88, u89, u90, u91, u92, u93, u94, u95, u96, u97, u98, u99, u100, u101, u102, .slice ar x cr].getD n undef) rfl (by kernel_rfl) (R21_26.mono w.heap.size bC oC bN oN bF oF bR oR n s x t a.next.length f k cr c4 cN c5 cR ar ct) ?step ?free ?app ?last ?fin
                  case step =>
                    intro ix o hp hm2 hf ho
                    match ix, hp, hm2, hf, ho with
                    | 0, _, _, _, ho =>
                        obtain rfl := Option.some.inj ho
                        intro vs W K hU hB hD hK
                        have HK := Lib.hid hK
                        have eU : vs 17 = .slice ar x cr := hU
                        clear hK hD hU ho
                        dsimp only
                        go_simp
                        have h := HK.out _ _ (Below.refl _ _) rfl
                        simp only [upd, Nat.reduceEqDiff, reduceIte, eU] at h
                        exact h
                    | 1, _, _, _, ho =>
                        obtain rfl := Option.some.inj ho
                        intro vs W K hU hB hD hK
                        have HK := Lib.hid hK
                        clear hK hD hU ho
                        dsimp only
                        go_simp
                        have h := HK.out _ _ (Below.refl _ _) rfl
                        simp only [upd, Nat.reduceEqDiff, reduceIte] at h
                        exact h
                    | 2, _, _, _, ho =>
                        obtain rfl := Option.some.inj ho
                        intro vs W K hU hB hD hK
                        have HK := Lib.hid hK
                        clear hK hD hU ho
                        dsimp only
                        go_simp
                        have h := HK.out _ _ (Below.refl _ _) rfl
                        simp only [upd, Nat.reduceEqDiff, reduceIte] at h
                        exact h
                    | 3, _, _, _, ho =>
                        obtain rfl := Option.some.inj ho
                        intro vs W K hU hB hD hK
                        have HK := Lib.hid hK
                        have e2 : vs 2 = .pointer (some ⟨w.heap.size, 2, none⟩) := hD 2 (by rfl)
                        have c := cellB hB c2
                        clear hK hD hU ho
                        dsimp only
                        go_simp
                        have h := HK.out _ _ (Below.refl _ _) rfl
                        simp only [upd, Nat.reduceEqDiff, reduceIte, e2] at h
                        exact h
                    | 4, _, _, _, ho =>
                        obtain rfl := Option.some.inj ho
                        intro vs W K hU hB hD hK
                        have HK := Lib.hid hK
                        clear hK hD hU ho
                        dsimp only
                        go_simp
                        have h := HK.out _ _ (Below.refl _ _) rfl
                        simp only [upd, Nat.reduceEqDiff, reduceIte] at h
                        exact h
                    | 5, _, _, _, ho =>
                        obtain rfl := Option.some.inj ho
                        intro vs W K hU hB hD hK
                        have HK := Lib.hid hK
                        clear hK hD hU ho
                        dsimp only
                        go_simp
                        have h := HK.out _ _ (Below.refl _ _) rfl
                        simp only [upd, Nat.reduceEqDiff, reduceIte] at h
                        exact h
                    | 6, _, _, _, ho =>
                        obtain rfl := Option.some.inj ho
                        intro vs W K hU hB hD hK
                        have HK := Lib.hid hK
                        have e4 : vs 4 = .slice (some ⟨bF, oF, none⟩) f c5 := hD 4 (by rfl)
                        have e5 : vs 5 = .int .i64 (n : Int) := hD 5 (by rfl)
                        clear hK hD hU ho
                        dsimp only
                        go_simp
                        have h := HK.out _ _ (Below.refl _ _) rfl
                        simp only [upd, Nat.reduceEqDiff, reduceIte, e4, e5] at h
                        exact h
                    | 7, _, _, _, ho =>
                        obtain rfl := Option.some.inj ho
                        intro vs W K hU hB hD hK
                        have HK := Lib.hid hK
                        have e6 : vs 6 = .pointer (some ⟨bF, oF + n, none⟩) := hD 6 (by rfl)
                        have c := cellB hB hfc
                        clear hK hD hU ho
                        dsimp only
                        go_simp
                        have h := HK.out _ _ (Below.refl _ _) rfl
                        simp only [upd, Nat.reduceEqDiff, reduceIte, e6] at h
                        exact h
                    | 8, _, _, _, ho =>
                        obtain rfl := Option.some.inj ho
                        intro vs W K hU hB hD hK
                        have HK := Lib.hid hK
                        have e3 : vs 3 = .slice (some ⟨bN, oN, none⟩) a.next.length cN := hD 3 (by rfl)
                        have e7 : vs 7 = .int .i64 (s : Int) := hD 7 (by rfl)
                        clear hK hD hU ho
                        dsimp only
                        go_simp
                        have h := HK.out _ _ (Below.refl _ _) rfl
                        simp only [upd, Nat.reduceEqDiff, reduceIte, e3, e7] at h
                        exact h
                    | 9, _, _, _, ho =>
                        obtain rfl := Option.some.inj ho
                        intro vs W K hU hB hD hK
                        have HK := Lib.hid hK
                        have e8 : vs 8 = .pointer (some ⟨bN, oN + s, none⟩) := hD 8 (by rfl)
                        have c := cellB hB q1
                        clear hK hD hU ho
                        dsimp only
                        go_simp
                        have h := HK.out _ _ (Below.refl _ _) rfl
                        simp only [upd, Nat.reduceEqDiff, reduceIte, e8] at h
                        exact h
                    | 10, _, _, _, ho =>
                        obtain rfl := Option.some.inj ho
                        intro vs W K hU hB hD hK
                        have HK := Lib.hid hK
                        clear hK hD hU ho
                        dsimp only
                        go_simp
                        have h := HK.out _ _ (Below.refl _ _) rfl
                        simp only [upd, Nat.reduceEqDiff, reduceIte] at h
                        exact h
                    | 11, _, _, _, ho =>
                        obtain rfl := Option.some.inj ho
                        intro vs W K hU hB hD hK
                        have HK := Lib.hid hK
                        have e9 : vs 9 = .slice (some ⟨bR, oR, none⟩) k cR := hD 9 (by rfl)
                        have e10 : vs 10 = .int .i64 (x : Int) := hD 10 (by rfl)
                        clear hK hD hU ho
                        dsimp only
                        go_simp
                        have h := HK.out _ _ (Below.refl _ _) rfl
                        simp only [upd, Nat.reduceEqDiff, reduceIte, e9, e10] at h
                        exact h
                    | 12, _, _, _, ho =>
                        obtain rfl := Option.some.inj ho
                        intro vs W K hU hB hD hK
                        have HK := Lib.hid hK
                        have e11 : vs 11 = .pointer (some ⟨bR, oR + x, none⟩) := hD 11 (by rfl)
                        have c := cellB hB r1
                        clear hK hD hU ho
                        dsimp only
                        go_simp
                        have h := HK.out _ _ (Below.refl _ _) rfl
                        simp only [upd, Nat.reduceEqDiff, reduceIte, e11] at h
                        exact h
                    | 13, _, _, _, ho =>
                        obtain rfl := Option.some.inj ho
                        intro vs W K hU hB hD hK
                        have HK := Lib.hid hK
                        have e1 : vs 1 = .slice (some ⟨bC, oC, none⟩) a.next.length c4 := hD 1 (by rfl)
                        have e12 : vs 12 = .int .i64 (t : Int) := hD 12 (by rfl)
                        clear hK hD hU ho
                        dsimp only
                        go_simp
                        have h := HK.out _ _ (Below.refl _ _) rfl
                        simp only [upd, Nat.reduceEqDiff, reduceIte, e1, e12] at h
                        exact h
                    | 14, _, _, _, ho =>
                        obtain rfl := Option.some.inj ho
                        intro vs W K hU hB hD hK
                        have HK := Lib.hid hK
                        have e13 : vs 13 = .pointer (some ⟨bC, oC + t, none⟩) := hD 13 (by rfl)
                        have c := cellB hB r2
                        clear hK hD hU ho
                        dsimp only
                        go_simp
                        have h := HK.out _ _ (Below.refl _ _) rfl
                        simp only [upd, Nat.reduceEqDiff, reduceIte, e13] at h
                        exact h
                    | 15, _, _, _, ho =>
                        obtain rfl := Option.some.inj ho
                        intro vs W K hU hB hD hK
                        have HK := Lib.hid hK
                        have e14 : vs 14 = .int .i64 ct := hD 14 (by rfl)
                        clear hK hD hU ho
                        dsimp only
                        go_simp
                        have h := HK.out _ _ (bel_box (.cells #[.int .i64 ct] 3)) (ElI.made ct W)
                        simp only [upd, Nat.reduceEqDiff, reduceIte, e14] at h
                        exact h
                    | 16, hp, _, _, _ => exact absurd rfl hp
                    | 17, _, hm2, _, _ => exact absurd rfl hm2
                    | q + 18, _, _, _, ho => exact absurd ho (by simp)
                  case free =>
                    intro ix o hf ho
                    match ix, hf, ho with
                    | 0, hf, _ => exact absurd hf (by decide)
                    | 1, hf, _ => exact absurd hf (by decide)
                    | 2, hf, _ => exact absurd hf (by decide)
                    | 3, hf, _ => exact absurd hf (by decide)
                    | 4, hf, _ => exact absurd hf (by decide)
                    | 5, hf, _ => exact absurd hf (by decide)
                    | 6, hf, _ => exact absurd hf (by decide)
                    | 7, hf, _ => exact absurd hf (by decide)
                    | 8, hf, _ => exact absurd hf (by decide)
                    | 9, hf, _ => exact absurd hf (by decide)
                    | 10, hf, _ => exact absurd hf (by decide)
                    | 11, hf, _ => exact absurd hf (by decide)
                    | 12, hf, _ => exact absurd hf (by decide)
                    | 13, hf, _ => exact absurd hf (by decide)
                    | 14, hf, _ => exact absurd hf (by decide)
                    | 15, hf, _ => exact absurd hf (by decide)
                    | 16, hf, _ => exact absurd hf (by decide)
                    | 17, hf, _ => exact absurd hf (by decide)
                    | q + 18, _, ho => exact absurd ho (by simp)
                  case app =>
                    intro o ho
                    obtain rfl := Option.some.inj ho
                    intro vs W K hU hB hD hK
                    have e1 : vs 0 = .slice ar x cr := hD 0 (by rfl)
                    have hel : ElI ct (vs 15) W := hD 15 (by rfl)
                    rw [if_pos (by rfl)]
                    exact wp_app_intU W _ _ (by rfl) C (.slice ar x cr) ((mrgR a s).take x) (by show vs 0 = _; exact e1) (HRx.out.below ((Below.drew (Below.refl _ _)).trans hB)) _ rfl hel (by rw [HTK.out]; exact hxl) (Nat.le_trans hCw hB.size) fun v' w' hA => hK v' w' hA
                  case last =>
                    intro o ho
                    obtain rfl := Option.some.inj ho
                    intro vs W9 W K hU hB hR hA hK
                    have HK := Lib.hid hK
                    obtain ⟨hO, hG, hM⟩ := hA
                    rw [← HSn.out] at hO
                    have HFIN : Hid ((fun v' u W' => u = v' ∧ Hid (OI W' C v' ((mrgR a s).take (x + 1))) ∧ Hid (Below C w9.drew W')) (vs 16) (vs 16) W) := ⟨rfl, hO, (hB.mono hCw).trans ((Only.of_grown hG).below C (fun q e => HRx.out.ge q e) (Nat.le_trans hCw hB.size))⟩
                    clear hO hG hM
                    clear hK hR hU ho
                    dsimp only
                    go_simp
                    have h := HK.out (vs 16) _ HFIN.out
                    simp only [upd, Nat.reduceEqDiff, reduceIte] at h
                    exact h
                  case fin =>
                    intro vs W hR hF
                    obtain ⟨hu, HOn, HBn⟩ := hF
                    clear hR
                    rw [hu]
                    generalize vs 0 = q26_0 at *
                    generalize vs 1 = q26_1 at *
                    generalize vs 2 = q26_2 at *
                    generalize vs 3 = q26_3 at *
                    generalize vs 4 = q26_4 at *
                    generalize vs 5 = q26_5 at *
                    generalize vs 6 = q26_6 at *
                    generalize vs 7 = q26_7 at *
                    generalize vs 8 = q26_8 at *
                    generalize vs 9 = q26_9 at *
                    generalize vs 10 = q26_10 at *
                    generalize vs 11 = q26_11 at *
                    generalize vs 12 = q26_12 at *
                    generalize vs 13 = q26_13 at *
                    generalize vs 14 = q26_14 at *
                    generalize vs 15 = q26_15 at *
                    generalize vs 16 = q26_16 at *
                    clear hu vs
                    have HCn : Hid (Below C wo W) := HCx.out.trans ((Below.drew (Below.refl _ _)).trans HBn.out)
                    go_wp2
                    go_roundg (k - (x + 1))
                    case measure => have := HGX.out; omega
                    case rel => exact ⟨x + 1, rfl, by go_num, by omega, HOn, HCn⟩
                · as_aux_lemma =>
                  obtain rfl : x = k := by omega
                  have hx2 : ¬ (x : Int) < a.letters := by have := HLk.out; omega
                  have hx3 : a.letters ≤ (x : Int) := by have := HLk.out; omega
                  have HTA2 : Hid ((mrgR a s).take x = mrgR a s) := List.take_of_length_le (Nat.le_of_eq HRk.out)
                  have HOy : Hid (OI wr C (.slice ar x cr) (mrgR a s)) := by show OI _ _ _ _; rw [← HTA2.out]; exact HRx.out
                  have HABx : Hid (AB wr w6.heap.size z a.letters st0 vN' vP' nv pv nxs prs (fun q => q ≤ w.heap.size + 1)) := HABo.out.below (by rw [← HCe.out]; exact HCx.out)
                  have HI1 : Hid (∀ y ∈ mrgR a s, I64 y) := fun y hy => by
                    obtain ⟨u, hu, rfl⟩ := List.mem_map.1 hy
                    obtain ⟨j, hj, rfl⟩ := mem_getD hu
                    have h1 := HX.out.nx s j hsn (by have := HRL.out; omega)
                    exact clsA_i64 HX.out _ (getD_mem (by rw [HCL.out]; omega))
                  have HU := Lib.hid (HABx.out.fresh HOy.out (fun q e k => by have h1 := HOy.out.ge q e; have h2 := hC.out q k; omega) (by rw [HRk.out]; omega) HI1.out)
                  subst hvN'
                  have n2 : wr.cell? ⟨z, 2, none⟩ = some (.slice aA nxs.length cA) := cell_of_row _ _ 2 _ _ _ HABx.out.box
                  have hzz := HABx.out.zlt
                  have hoN := HABx.out.oN
                  have hpl : nxs.length < 5864062014000 := by have := HLN.out; omega
                  have h6z : w6.heap.size ≤ wr.heap.size := HB6.out.size
                  clear HRx HABo HOy hx c2
                  go_wp2_with (at_builtin; refine app_row rfl _ _ (.slice ar x cr) rfl w6.heap.size _ _ _ hoN rfl _ (by simp) rfl rfl hpl h6z ?_; intro v' w' hown' hg hmv; obtain ⟨ao', cap', hv'⟩ := ownsRow_slice hown'; subst hv'; have HST := Lib.hid (HABx.out.appN HU.out hown' hg hmv); have k2 := cell_of_row _ _ 2 _ _ _ HST.out.1; have f2 := frozen_of_row _ _ 2 _ _ HST.out.1; clear hown' hg hmv)
                  have HABy := Lib.hid HST.out.2.1
                  have HBy := Lib.hid (HB6.out.trans HST.out.2.2.2)
                  clear k2 f2 HST hoN n2 hpl HABx c0
                  go_upto_region 28 with (fail)
                  obtain ⟨w9, hw9⟩ : ∃ w9, w9 = w'.setCell ⟨z, 2, none⟩ (.slice ao' (nxs.length + 1) cap') := ⟨_, rfl⟩
                  rw [← hw9] at HABy HBy
                  rw [← hw9]
                  clear hw9
                  have HFy := Lib.hid (HFo.out.belowB (by omega) HBy.out)
                  obtain ⟨p1, p2⟩ := HVP.out s hsn
                  obtain ⟨aQ2, cQ2, hVq⟩ := p2.shape
                  rw [(HX.out.ln s hsn).2] at hVq
                  rw [hVq] at p1 p2
                  have HIP : Hid (∀ W, Below w9.heap.size w9 W → IsInts W (.slice aQ2 x cQ2) (a.prio.getD s [])) := fun W hW => p2.below (HFy.out.bl.trans (hW.mono HFy.out.bl.size))
                  have hpc := cellB HFy.out.bl p1
                  have hwp := (HFy.out.cells).2.2.2
                  have hlt := cellB HBy.out HFC.out
                  subst hvP'
                  have hz3 : w9.cell? ⟨z, 3, none⟩ = some (.slice aQ prs.length cQ) := cell_of_row _ _ 3 _ _ _ HABy.out.box
                  have HPR : Hid ((a.prio.getD s []).length ≤ 100000 ∧ ∀ y ∈ a.prio.getD s [], I64 y) := ⟨by have := (HX.out.ln s hsn).2; omega, fun y hy => by
                    obtain ⟨j, hj, rfl⟩ := mem_getD hy
                    have := HX.out.pr s j hsn (by have := (HX.out.ln s hsn).2; omega)
                    unfold I64; omega⟩
                  have HPp : Hid (0 < (a.prio.getD s []).length ∧ (a.prio.getD s []).length ≤ 1000000) := by have := (HX.out.ln s hsn).2; exact ⟨by omega, by omega⟩
                  have hs2 : (s : Int) < a.next.length := by omega
                  have hzw : z < w9.heap.size := HABy.out.zlt
                  have hprl : prs.length < 5864062014000 := by have := HLP.out; omega
                  have HABz : Hid (AB w9.drew w6.heap.size z a.letters st0 (.slice ao' (nxs.length + 1) cap') (.slice aQ prs.length cQ) (nv ++ [.slice ar x cr]) pv (nxs ++ [mrgR a s]) prs (fun q => q ≤ w.heap.size + 1)) := HABy.out.below (Below.drew (Below.refl _ _))
                  clear p1 p2 hVq HABy hx2 hx3
                  refine region_grow4 hmx (R21_28 w9.heap.size w.heap.size z bP oP bF oF n s a.next.length f prs.length x cP c5 cQ cQ2 aQ aQ2 (a.prio.getD s [])) (AppRow w9.heap.size w6.heap.size (a.prio.getD s []) (.slice aQ prs.length cQ) prs.length pv) (fun v' _ W' => ∃ y : Value, Hid (AB W' w6.heap.size z a.letters st0 (.slice ao' (nxs.length + 1) cap') v' (nv ++ [.slice ar x cr]) (pv ++ [y]) (nxs ++ [mrgR a s]) (prs ++ [a.prio.getD s []]) (fun q => q ≤ w.heap.size + 1)) ∧ Hid (Below w6.heap.size w9.drew W') ∧ ∃ ay cy, v' = .slice ay (prs.length + 1) cy) (fun i => i == 14) 13 15 (fun vs => { tmps := (_ :: _ :: _ :: _ :: _ :: _ :: _ :: _ :: _ :: _ :: _ :: _ :: _ :: _ :: _ :: _ :: _ :: _ :: _ :: _ :: _ :: _ :: _ :: _ :: _ :: _ :: _ :: _ :: _ :: _ :: _ :: _ :: _ :: _ :: _ :: _ :: _ :: _ :: _ :: _ :: _ :: _ :: _ :: _ :: _ :: _ :: _ :: _ :: _ :: _ :: _ :: _ :: _ :: _ :: _ :: _ :: _ :: _ :: _ :: _ :: _ :: _ :: _ :: _ :: _ :: _ :: _ :: _ :: _ :: _ :: _ :: _ :: _ :: _ :: _ :: _ :: _ :: _ :: _ :: _ :: _ :: _ :: _ :: _ :: _ :: _ :: _ :: _ :: _ :: _ :: _ :: _ :: _ :: _ :: _ :: _ :: _ :: _ :: _ :: _ :: _ :: _ :: _ :: _ :: _ :: _ :: _ :: _ :: _ :: vs 0 :: vs 1 :: vs 2 :: vs 3 :: vs 4 :: vs 5 :: vs 6 :: vs 7 :: vs 8 :: vs 9 :: vs 10 :: vs 11 :: vs 12 :: vs 13 :: vs 14 :: _ :: []).toArray, defers := _ }) (fun n => [u109, u110, u111, u112, u113, u114, u115, u116, u117, u118, u119, u120, u121, u122, u123, undef].getD n undef) rfl (by kernel_rfl) (R21_28.mono w9.heap.size w.heap.size z bP oP bF oF n s a.next.length f prs.length x cP c5 cQ cQ2 aQ aQ2 (a.prio.getD s [])) ?step ?free ?app ?last ?fin
                  case step =>
                    intro ix o hp hm2 hf ho
                    match ix, hp, hm2, hf, ho with
                    | 0, _, _, _, ho =>
                        obtain rfl := Option.some.inj ho
                        intro vs W K hU hB hD hK
                        have HK := Lib.hid hK
                        clear hK hD hU ho
                        dsimp only
                        go_simp
                        have h := HK.out _ _ (Below.refl _ _) rfl
                        simp only [upd, Nat.reduceEqDiff, reduceIte] at h
                        exact h
                    | 1, _, _, _, ho =>
                        obtain rfl := Option.some.inj ho
                        intro vs W K hU hB hD hK
                        have HK := Lib.hid hK
                        have e0 : vs 0 = .pointer (some ⟨z, 3, none⟩) := hD 0 (by rfl)
                        have c := cellB hB hz3
                        clear hK hD hU ho
                        dsimp only
                        go_simp
                        have h := HK.out _ _ (Below.refl _ _) rfl
                        simp only [upd, Nat.reduceEqDiff, reduceIte, e0] at h
                        exact h
                    | 2, _, _, _, ho =>
                        obtain rfl := Option.some.inj ho
                        intro vs W K hU hB hD hK
                        have HK := Lib.hid hK
                        clear hK hD hU ho
                        dsimp only
                        go_simp
                        have h := HK.out (.slice (some ⟨W.heap.size, 0, none⟩) 0 0) _ (bel_box (.cells #[] 3)) ⟨_, rfl, heap_alloc_new _ _⟩
                        simp only [upd, Nat.reduceEqDiff, reduceIte] at h
                        exact h
                    | 3, _, _, _, ho =>
                        obtain rfl := Option.some.inj ho
                        intro vs W K hU hB hD hK
                        have HK := Lib.hid hK
                        clear hK hD hU ho
                        dsimp only
                        go_simp
                        have h := HK.out _ _ (Below.refl _ _) rfl
                        simp only [upd, Nat.reduceEqDiff, reduceIte] at h
                        exact h
                    | 4, _, _, _, ho =>
                        obtain rfl := Option.some.inj ho
                        intro vs W K hU hB hD hK
                        have HK := Lib.hid hK
                        have e3 : vs 3 = .pointer (some ⟨w.heap.size, 3, none⟩) := hD 3 (by rfl)
                        have c := cellB hB hwp
                        clear hK hD hU ho
                        dsimp only
                        go_simp
                        have h := HK.out _ _ (Below.refl _ _) rfl
                        simp only [upd, Nat.reduceEqDiff, reduceIte, e3] at h
                        exact h
                    | 5, _, _, _, ho =>
                        obtain rfl := Option.some.inj ho
                        intro vs W K hU hB hD hK
                        have HK := Lib.hid hK
                        clear hK hD hU ho
                        dsimp only
                        go_simp
                        have h := HK.out _ _ (Below.refl _ _) rfl
                        simp only [upd, Nat.reduceEqDiff, reduceIte] at h
                        exact h
                    | 6, _, _, _, ho =>
                        obtain rfl := Option.some.inj ho
                        intro vs W K hU hB hD hK
                        have HK := Lib.hid hK
                        clear hK hD hU ho
                        dsimp only
                        go_simp
                        have h := HK.out _ _ (Below.refl _ _) rfl
                        simp only [upd, Nat.reduceEqDiff, reduceIte] at h
                        exact h
                    | 7, _, _, _, ho =>
                        obtain rfl := Option.some.inj ho
                        intro vs W K hU hB hD hK
                        have HK := Lib.hid hK
                        have e5 : vs 5 = .slice (some ⟨bF, oF, none⟩) f c5 := hD 5 (by rfl)
                        have e6 : vs 6 = .int .i64 (n : Int) := hD 6 (by rfl)
                        clear hK hD hU ho
                        dsimp only
                        go_simp
                        have h := HK.out _ _ (Below.refl _ _) rfl
                        simp only [upd, Nat.reduceEqDiff, reduceIte, e5, e6] at h
                        exact h
                    | 8, _, _, _, ho =>
                        obtain rfl := Option.some.inj ho
                        intro vs W K hU hB hD hK
                        have HK := Lib.hid hK
                        have e7 : vs 7 = .pointer (some ⟨bF, oF + n, none⟩) := hD 7 (by rfl)
                        have c := cellB hB hlt
                        clear hK hD hU ho
                        dsimp only
                        go_simp
                        have h := HK.out _ _ (Below.refl _ _) rfl
                        simp only [upd, Nat.reduceEqDiff, reduceIte, e7] at h
                        exact h
                    | 9, _, _, _, ho =>
                        obtain rfl := Option.some.inj ho
                        intro vs W K hU hB hD hK
                        have HK := Lib.hid hK
                        have e4 : vs 4 = .slice (some ⟨bP, oP, none⟩) a.next.length cP := hD 4 (by rfl)
                        have e8 : vs 8 = .int .i64 (s : Int) := hD 8 (by rfl)
                        clear hK hD hU ho
                        dsimp only
                        go_simp
                        have h := HK.out _ _ (Below.refl _ _) rfl
                        simp only [upd, Nat.reduceEqDiff, reduceIte, e4, e8] at h
                        exact h
                    | 10, _, _, _, ho =>
                        obtain rfl := Option.some.inj ho
                        intro vs W K hU hB hD hK
                        have HK := Lib.hid hK
                        have e9 : vs 9 = .pointer (some ⟨bP, oP + s, none⟩) := hD 9 (by rfl)
                        have c := cellB hB hpc
                        clear hK hD hU ho
                        dsimp only
                        go_simp
                        have h := HK.out _ _ (Below.refl _ _) rfl
                        simp only [upd, Nat.reduceEqDiff, reduceIte, e9] at h
                        exact h
                    | 11, _, _, _, ho =>
                        obtain rfl := Option.some.inj ho
                        intro vs W K hU hB hD hK
                        have HK := Lib.hid hK
                        have e10 : vs 10 = .slice aQ2 x cQ2 := hD 10 (by rfl)
                        obtain ⟨b, eb, hb⟩ : ∃ b, vs 2 = .slice (some ⟨b, 0, none⟩) 0 0 ∧ W.heap[b]? = some (.cells #[] 3 (0, 0)) := hD 2 (by rfl)
                        rw [if_pos (by rfl)]
                        refine wp_app_emptyI W _ _ (by rfl) b (by show vs 2 = _; exact eb) hb _ (a.prio.getD s []) (by show vs 10 = _; exact e10) (HIP.out W ((Below.drew (Below.refl _ _)).trans hB)) (HPp.out.1) (HPp.out.2) ?_
                        intro v9 W' hO hb9
                        exact hK v9 W' hb9 ⟨hO.slice, hO.base hB.size⟩
                    | 12, _, _, _, ho =>
                        obtain rfl := Option.some.inj ho
                        intro vs W K hU hB hD hK
                        have HK := Lib.hid hK
                        have HM : Hid (FreshRow w9.heap.size (a.prio.getD s []) (vs 11) W) := hD 11 (by rfl)
                        have h1 : (vs 11).oneCell' = true := by obtain ⟨⟨a1, c1, e⟩, -⟩ := HM.out; rw [e]; rfl
                        clear hK hD hU ho
                        dsimp only
                        obtain ⟨⟨a1, c1, ey⟩, -⟩ := HM.out
                        go_simp
                        have h := HK.out _ _ (bel_box (.cells #[vs 11] 29)) (FreshEl.made HM.out)
                        simp only [upd, Nat.reduceEqDiff, reduceIte, ey] at h
                        exact h
                    | 13, hp, _, _, _ => exact absurd rfl hp
                    | 14, _, _, hf, _ => exact absurd hf (by decide)
                    | 15, _, hm2, _, _ => exact absurd rfl hm2
                    | q + 16, _, _, _, ho => exact absurd ho (by simp)
                  case free =>
                    intro ix o hf ho
                    match ix, hf, ho with
                    | 0, hf, _ => exact absurd hf (by decide)
                    | 1, hf, _ => exact absurd hf (by decide)
                    | 2, hf, _ => exact absurd hf (by decide)
                    | 3, hf, _ => exact absurd hf (by decide)
                    | 4, hf, _ => exact absurd hf (by decide)
                    | 5, hf, _ => exact absurd hf (by decide)
                    | 6, hf, _ => exact absurd hf (by decide)
                    | 7, hf, _ => exact absurd hf (by decide)
                    | 8, hf, _ => exact absurd hf (by decide)
                    | 9, hf, _ => exact absurd hf (by decide)
                    | 10, hf, _ => exact absurd hf (by decide)
                    | 11, hf, _ => exact absurd hf (by decide)
                    | 12, hf, _ => exact absurd hf (by decide)
                    | 13, hf, _ => exact absurd hf (by decide)
                    | 14, _, ho =>
                        obtain rfl := Option.some.inj ho
                        intro vs W K hU hD hK
                        have HK := Lib.hid hK
                        clear hK hD hU ho
                        dsimp only
                        go_simp
                        have h := HK.out _ (fun _ => rfl)
                        simp only [upd, Nat.reduceEqDiff, reduceIte] at h
                        exact h
                    | 15, hf, _ => exact absurd hf (by decide)
                    | q + 16, _, ho => exact absurd ho (by simp)
                  case app =>
                    intro o ho
                    obtain rfl := Option.some.inj ho
                    intro vs W K hU hB hD hK
                    have e1 : vs 1 = .slice aQ prs.length cQ := hD 1 (by rfl)
                    have hel : FreshEl w9.heap.size (a.prio.getD s []) (vs 12) W := hD 12 (by rfl)
                    rw [if_pos (by rfl)]
                    exact wp_app_rowU W _ _ (by rfl) w6.heap.size (.slice aQ prs.length cQ) prs.length pv (by show vs 1 = _; exact e1) (ownsRow_only HABz.out.oP (S := fun _ => False) (Only.of_below hB) fun _ _ e => e) _ rfl hel hprl (Nat.le_trans (Nat.le_trans hzB (Nat.le_of_lt hzw)) hB.size) fun v' w' hA => hK v' w' hA
                  case last =>
                    intro o ho
                    obtain rfl := Option.some.inj ho
                    intro vs W9 W K hU hB hR hA hK
                    have HK := Lib.hid hK
                    have e14 : vs 14 = .pointer (some ⟨z, 3, none⟩) := hR 14 (by omega) (by omega)
                    obtain ⟨y, hy, hown, hg, hm⟩ := hA
                    obtain ⟨ay, cy, hvy⟩ := ownsRow_slice hown
                    have hAB9 := HABz.out.below hB
                    have hST := hAB9.appP (hAB9.fresh hy.2 (fun q e k => by have h1 := hy.2.ge q e; have h2 := HABz.out.hlt q k; exact Nat.lt_irrefl _ (Nat.lt_of_lt_of_le h2 h1)) HPR.out.1 HPR.out.2) hown hg hm
                    have k2 := cell_of_row _ _ 3 _ _ _ hST.1
                    have f2 := frozen_of_row _ _ 3 _ _ hST.1
                    have HFIN : Hid ((fun v' _ W' => ∃ y : Value, Hid (AB W' w6.heap.size z a.letters st0 (.slice ao' (nxs.length + 1) cap') v' (nv ++ [.slice ar x cr]) (pv ++ [y]) (nxs ++ [mrgR a s]) (prs ++ [a.prio.getD s []]) (fun q => q ≤ w.heap.size + 1)) ∧ Hid (Below w6.heap.size w9.drew W') ∧ ∃ ay cy, v' = .slice ay (prs.length + 1) cy) (vs 13) undef (W.setCell ⟨z, 3, none⟩ (vs 13))) := ⟨y, hST.2.1, (hB.mono (Nat.le_trans hzB (Nat.le_of_lt hzw))).trans hST.2.2.2, ay, cy, hvy⟩
                    clear hST hAB9 hg hm hown hy
                    clear hK hR hU ho
                    dsimp only
                    go_simp
                    have h := HK.out undef _ HFIN.out
                    simp only [upd, Nat.reduceEqDiff, reduceIte, e14, hvy] at h
                    exact h
                  case fin =>
                    intro vs W hR hF
                    obtain ⟨yv, HABn, HBn, ay, cy, hvy⟩ := hF
                    clear hR
                    generalize vs 0 = q28_0 at *
                    generalize vs 1 = q28_1 at *
                    generalize vs 2 = q28_2 at *
                    generalize vs 3 = q28_3 at *
                    generalize vs 4 = q28_4 at *
                    generalize vs 5 = q28_5 at *
                    generalize vs 6 = q28_6 at *
                    generalize vs 7 = q28_7 at *
                    generalize vs 8 = q28_8 at *
                    generalize vs 9 = q28_9 at *
                    generalize vs 10 = q28_10 at *
                    generalize vs 11 = q28_11 at *
                    generalize vs 12 = q28_12 at *
                    generalize vs 13 = q28_13 at *
                    generalize vs 14 = q28_14 at *
                    clear vs
                    have HNS2 : Hid (nxs ++ [mrgR a s] = ((firstsC (clsA a) a.next.length).take (n + 1)).map (mrgR a) ∧ prs ++ [a.prio.getD s []] = ((firstsC (clsA a) a.next.length).take (n + 1)).map fun s => a.prio.getD s []) := by
                      have hnl : n < (firstsC (clsA a) a.next.length).length := by rw [← HFE.out]; exact hn
                      have ht : (firstsC (clsA a) a.next.length).take (n + 1) = (firstsC (clsA a) a.next.length).take n ++ [s] := by rw [List.take_succ_eq_append_getElem hnl, HSE.out, getD_lt _ _ _ hnl]
                      show _ ∧ _
                      rw [ht, List.map_append, List.map_append, ← HNS.out.1, ← HNS.out.2]
                      exact ⟨rfl, rfl⟩
                    have HBn2 := Lib.hid (HBy.out.trans ((Below.drew (Below.refl _ _)).trans HBn.out))
                    go_wp2
                    go_roundg (f - (n + 1))
                    case measure => have := HGS.out; omega
                    case rel => exact ⟨n + 1, _, _, _, _, _, _, rfl, by go_num, by omega, HNS2, HABn, HBn2⟩
            · as_aux_lemma =>
              obtain rfl : n = f := by omega
              have hT : Hid (mergeA a = ⟨a.letters, st0, nxs, prs⟩) := by
                show _ = _
                rw [mergeA_def, HNS.out.1, HNS.out.2, HST0.out, HST.out, Int.toNat_natCast, List.take_of_length_le (Nat.le_of_eq HFE.out.symm)]
              subst hvN' hvP'
              have n0 : wo.cell? ⟨z, 0, none⟩ = some (.int .i64 a.letters) := cell_of_row _ _ 0 _ _ _ HABo.out.box
              have n1 : wo.cell? ⟨z, 1, none⟩ = some (.int .i64 st0) := cell_of_row _ _ 1 _ _ _ HABo.out.box
              have n2 : wo.cell? ⟨z, 2, none⟩ = some (.slice aA nxs.length cA) := cell_of_row _ _ 2 _ _ _ HABo.out.box
              have n3 : wo.cell? ⟨z, 3, none⟩ = some (.slice aQ prs.length cQ) := cell_of_row _ _ 3 _ _ _ HABo.out.box
              obtain ⟨⟨z0, z1, z2, z3⟩, y0, y1, y2, y3⟩ := HFw.out.zero
              go_wp2
              (have hc4 := four_set (a := Value.int .i64 a.letters) (b := Value.int .i64 st0) (c := Value.slice aA nxs.length cA) (d := Value.slice aQ prs.length cQ) HFw.out.rc); (have c0 := cell_of_row _ _ 0 _ _ _ hc4); (have c1 := cell_of_row _ _ 1 _ _ _ hc4); (have c2 := cell_of_row _ _ 2 _ _ _ hc4); (have c3 := cell_of_row _ _ 3 _ _ _ hc4); (refine bodyPost_ret (v := .agg #[Value.int .i64 a.letters, Value.int .i64 st0, Value.slice aA nxs.length cA, Value.slice aQ prs.length cQ]) (by simp [results, Try.results21, go_sem, c0, c1, c2, c3]) rfl ?_)
              rw [HR.out, hT.out]
              exact HABo.out.fin HFw.out ⟨HI.out.1, HSI.out⟩ (by have := HLN.out; omega) (by have := HLP.out; omega)

end Go.Proofs.Ytdkpdpcecjcmcaa
