/- What Merge returns. -/
import Derived.Test.YtdkpdpcecjcmcaaQRd26
import Derived.Test.YtdkpdpcecjcmcaaQRegG
namespace Go.Proofs.Ytdkpdpcecjcmcaa
open Go.RowKit

/-- The rows of the merged automaton. -/
def mrgR (a : Au) (s : Nat) : List Int := (a.next.getD s []).map fun y => (clsA a).getD y.toNat 0
theorem mergeA_def (a : Au) : mergeA a = ⟨a.letters, (clsA a).getD a.start.toNat 0, (firstsC (clsA a) a.next.length).map (mrgR a), (firstsC (clsA a) a.next.length).map fun s => a.prio.getD s []⟩ := rfl
theorem clsA_i64 {a : Au} {k : Nat} (hA : AuV a k) : ∀ x ∈ clsA a, I64 x := cls_i64 hA
theorem firstsC_len (c : List Int) : ∀ n, (firstsC c n).length ≤ n
  | 0 => Nat.le_refl _
  | n + 1 => by
    have := firstsC_len c n
    unfold firstsC
    split
    · omega
    · simp; omega
theorem fillL_row (f : Int → Int) (r : List Int) : fillL (fun j => f (r.getD j 0)) r.length r.length = r.map f := by
  rw [fillL_all]
  apply List.ext_getElem (by simp)
  intro i h1 h2
  have : i < r.length := by simpa using h1
  simp [this]

def R14_4 (bw B bC oC st N cC : Nat) (L c0 : Int) (ix : Nat) (u : Value) (W : World) : Prop :=
  match ix with
  | 0 => u = .pointer (some ⟨bw, 0, none⟩)
  | 1 => u = .int .i64 L
  | 2 => u = .slice (some ⟨bC, oC, none⟩) N cC
  | 3 => u = .pointer (some ⟨bw, 1, none⟩)
  | 4 => u = .int .i64 (st : Int)
  | 5 => u = .pointer (some ⟨bC, oC + st, none⟩)
  | 6 => u = .int .i64 c0
  | 7 => u = .agg #[.int .i64 L, .int .i64 c0, .slice none 0 0, .slice none 0 0]
  | 8 => ∃ z, u = .pointer (some ⟨z, 0, none⟩) ∧ B ≤ z ∧ W.heap[z]? = some (.cells #[.int .i64 0, .int .i64 0, .slice none 0 0, .slice none 0 0] 24 (0, 0))
  | _ => True
theorem R14_4.mono (bw B bC oC st N cC : Nat) (L c0 : Int) (i : Nat) (v : Value) (W W' : World) (h : R14_4 bw B bC oC st N cC L c0 i v W) (hb : Below W.heap.size W W') : R14_4 bw B bC oC st N cC L c0 i v W' := by
  match i, h with
  | 0, h => exact h
  | 1, h => exact h
  | 2, h => exact h
  | 3, h => exact h
  | 4, h => exact h
  | 5, h => exact h
  | 6, h => exact h
  | 7, h => exact h
  | 8, ⟨z, h1, h2, h3⟩ => exact ⟨z, h1, h2, (hb.block z (Array.getElem?_eq_some_iff.1 h3).1).trans h3⟩
  | _ + 9, h => exact h
def R14_16 (C0 bw z bP oP s N np x cP cQ cQ2 : Nat) (aQ aQ2 : Option Addr) (row : List Int) (ix : Nat) (u : Value) (W : World) : Prop :=
  match ix with
  | 0 => u = .pointer (some ⟨z, 3, none⟩)
  | 1 => u = .slice aQ np cQ
  | 2 => u = .pointer (some ⟨bw, 3, none⟩)
  | 3 => u = .slice (some ⟨bP, oP, none⟩) N cP
  | 4 => u = .int .i64 (s : Int)
  | 5 => u = .pointer (some ⟨bP, oP + s, none⟩)
  | 6 => u = .slice aQ2 x cQ2
  | 7 => FreshRow C0 row u W
  | 8 => FreshEl C0 row u W
  | 9 => True
  | 10 => u = .pointer (some ⟨z, 3, none⟩)
  | 11 => True
  | _ => True
theorem R14_16.mono (C0 bw z bP oP s N np x cP cQ cQ2 : Nat) (aQ aQ2 : Option Addr) (row : List Int) (i : Nat) (v : Value) (W W' : World) (h : R14_16 C0 bw z bP oP s N np x cP cQ cQ2 aQ aQ2 row i v W) (hb : Below W.heap.size W W') : R14_16 C0 bw z bP oP s N np x cP cQ cQ2 aQ aQ2 row i v W' := by
  match i, h with
  | 0, h => exact h
  | 1, h => exact h
  | 2, h => exact h
  | 3, h => exact h
  | 4, h => exact h
  | 5, h => exact h
  | 6, h => exact h
  | 7, h => exact FreshRow.below h hb
  | 8, h => exact FreshEl.below h hb
  | 9, h => exact h
  | 10, h => exact h
  | 11, h => exact h
  | _ + 12, h => exact h

set_option maxRecDepth 100000 in
set_option maxHeartbeats 8000000 in
theorem Merge_c (w : World) (v : Value) (a : Au) (ha : IsAuto w v a) : Calls Try.prog 14 #[v] w (NewAuto (mergeF a) w) := by
  have HA := Lib.hid ha
  obtain ⟨vN, vP, rfl, hI, hN, hP⟩ := ha
  have hmx : Try.prog.follows .mixedOrders = true := by kernel_rfl
  cases hv : validA a with
  | false =>
    have hF := FA.start w #[.int .i64 a.letters, .int .i64 a.start, vN, vP]
    have HR : Hid (mergeF a = noAu) := by show _ = _; simp [mergeF, hv]
    have HV := Lib.hid (PValid_c ((w.alloc (.cells #[.int .i64 a.letters, .int .i64 a.start, vN, vP] 24)).alloc (.cells #[.int .i64 0, .int .i64 0, .slice none 0 0, .slice none 0 0] 24)) _ a (HA.out.below hF.bl))
    obtain ⟨c0, c1, c2, c3⟩ := hF.cells
    clear hI hN hP
    go_enter Try.func14, Try.ntmps14
    go_upto_region 1 with (fail)
    generalize ((w.alloc (.cells #[.int .i64 a.letters, .int .i64 a.start, vN, vP] 24)).alloc (.cells #[.int .i64 0, .int .i64 0, .slice none 0 0, .slice none 0 0] 24)) = w2 at *
    go_wp2_with fail
    refine HV.out.mono ?_
    rintro e w3 ⟨rfl, hb3⟩
    rw [hv]
    have hF3 := hF.below hb3
    obtain ⟨⟨z0, z1, z2, z3⟩, y0, y1, y2, y3⟩ := hF3.zero
    clear hb3 hF c0 c1 c2 c3 HV
    go_wp2
    (have hc4 := four_set (a := Value.int .i64 0) (b := Value.int .i64 0) (c := Value.slice none 0 0) (d := Value.slice none 0 0) hF3.rc); (have c0 := cell_of_row _ _ 0 _ _ _ hc4); (have c1 := cell_of_row _ _ 1 _ _ _ hc4); (have c2 := cell_of_row _ _ 2 _ _ _ hc4); (have c3 := cell_of_row _ _ 3 _ _ _ hc4); (refine bodyPost_ret (v := .agg #[Value.int .i64 0, Value.int .i64 0, Value.slice none 0 0, Value.slice none 0 0]) (by simp [results, Try.results14, go_sem, c0, c1, c2, c3]) rfl ?_)
    rw [HR.out]
    exact hF3.fin (fun W _ => noAu_is W)
  | true =>
    have hF := FA.start w #[.int .i64 a.letters, .int .i64 a.start, vN, vP]
    have hA := AuV.of hv
    have HR : Hid (mergeF a = mergeA a) := by show _ = _; simp [mergeF, hv]
    obtain ⟨k, hk⟩ : ∃ k, k = a.letters.toNat := ⟨_, rfl⟩
    rw [← hk] at hA
    have HX := Lib.hid hA
    have hk1 : 1 ≤ k ∧ k ≤ 64 := hA.k1
    have HLk := Lib.hid hA.L
    have hn0 : 0 < a.next.length := by have := hA.n1; omega
    have hn3 : a.next.length ≤ 3000 := hA.n1.2
    clear hk
    obtain ⟨aN, cN, bN, oN, V, hvN, hdN, hmN, hVN⟩ := hN.data
    obtain ⟨aP, cP, bP, oP, VP, hvP, hdP, hmP, hVP⟩ := hP.data
    have HVN := Lib.hid hVN
    have hpl := hA.pn
    rw [hpl] at hdP hvP hVP
    have HVP := Lib.hid hVP
    obtain rfl := hdN hn0
    obtain rfl := hdP hn0
    subst hvN hvP
    have HI := Lib.hid hI
    have HPL := Lib.hid hpl
    have HV := Lib.hid (PValid_c ((w.alloc (.cells #[.int .i64 a.letters, .int .i64 a.start, .slice (some ⟨bN, oN, none⟩) a.next.length cN, .slice (some ⟨bP, oP, none⟩) a.next.length cP] 24)).alloc (.cells #[.int .i64 0, .int .i64 0, .slice none 0 0, .slice none 0 0] 24)) _ a (HA.out.below hF.bl))
    obtain ⟨c0, c1, c2, c3⟩ := hF.cells
    clear hI hN hP hVN hdN hA hdP hVP hpl hmP
    go_enter Try.func14, Try.ntmps14
    go_upto_region 1 with (fail)
    generalize ((w.alloc (.cells #[.int .i64 a.letters, .int .i64 a.start, .slice (some ⟨bN, oN, none⟩) a.next.length cN, .slice (some ⟨bP, oP, none⟩) a.next.length cP] 24)).alloc (.cells #[.int .i64 0, .int .i64 0, .slice none 0 0, .slice none 0 0] 24)) = w2 at *
    go_wp2_with fail
    refine HV.out.mono ?_
    rintro e w3 ⟨rfl, hb3⟩
    rw [hv]
    have HF3 := Lib.hid (hF.below hb3)
    clear c0 c1 c2 c3 HV hb3 hF
    obtain ⟨c0, c1, c2, c3⟩ := HF3.out.cells
    have HCl := Lib.hid (classes_c w3 _ a k (HA.out.below HF3.out.bl) HX.out)
    go_wp2_with fail
    refine HCl.out.mono ?_
    rintro e w4 ⟨vc, rfl, hI4, hb4⟩
    obtain ⟨aC, cC, hvc⟩ := hI4.shape
    have hcl : (clsA a).length = a.next.length := clsI_len a _
    rw [hcl] at hvc
    subst hvc
    obtain ⟨bC, oC, had, hnC, hdc⟩ := hI4.dat
    obtain rfl := had hn0
    have HDC : Hid (∀ j, j < a.next.length → w4.cell? ⟨bC, oC + j, none⟩ = some (.int .i64 ((clsA a).getD j 0))) := hdc
    have HF4 := Lib.hid (HF3.out.below hb4)
    have HCL := Lib.hid hcl
    clear c0 c1 c2 c3 hb4 HCl had hdc hcl hI4 HF3
    go_upto_region 4 with (fail)
    have hst := HX.out.st
    obtain ⟨st, hste⟩ : ∃ st : Nat, a.start = (st : Int) := ⟨a.start.toNat, by omega⟩
    have HST := Lib.hid hste
    have hstn : st < a.next.length := by omega
    have hst2 : (st : Int) < a.next.length := by omega
    have cs := HDC.out st hstn
    obtain ⟨c0, c1, c2, c3⟩ := HF4.out.cells
    have hr4 := HF4.out.lt
    rw [hste] at c1 ⊢
    have hF4 := HF4.out
    rw [hste] at hF4
    have HF4 := Lib.hid hF4
    have HI0 : Hid (I64 a.letters) := HI.out.1
    clear hste hst hF4 HI
    obtain ⟨st0, hst0⟩ : ∃ x, x = (clsA a).getD st 0 := ⟨_, rfl⟩
    rw [← hst0] at cs
    have HST0 := Lib.hid hst0
    have HSI : Hid (I64 st0) := by show I64 _; rw [hst0]; exact clsA_i64 HX.out _ (getD_mem (by rw [HCL.out]; exact hstn))
    clear hst0
    refine region_last hmx (R14_4 w.heap.size w4.heap.size bC oC st a.next.length cC a.letters st0) (fun vs => { tmps := (_ :: _ :: _ :: _ :: vs 8 :: _ :: _ :: _ :: _ :: _ :: _ :: _ :: _ :: _ :: _ :: _ :: vs 0 :: vs 1 :: vs 2 :: vs 3 :: vs 4 :: vs 5 :: vs 6 :: vs 7 :: _ :: _ :: _ :: _ :: _ :: _ :: _ :: _ :: _ :: _ :: _ :: _ :: _ :: _ :: _ :: _ :: _ :: _ :: _ :: _ :: _ :: _ :: _ :: _ :: _ :: _ :: _ :: _ :: _ :: _ :: _ :: _ :: _ :: _ :: _ :: _ :: _ :: _ :: _ :: _ :: _ :: _ :: _ :: _ :: _ :: _ :: _ :: _ :: _ :: _ :: _ :: _ :: _ :: []).toArray, defers := _ }) (fun _ => undef) 9 rfl (by kernel_rfl) (by kernel_rfl) (R14_4.mono _ _ _ _ _ _ _ _ _) ?step ?last
    case step =>
      intro ix o hlt ho
      match ix, hlt, ho with
      | 0, _, ho =>
        obtain rfl := Option.some.inj ho
        intro vs W K hB hD hK
        have HK := Lib.hid hK
        clear hK hD ho
        dsimp only
        go_simp
        have h := HK.out _ _ (Below.refl _ _) rfl
        simp only [upd, Nat.reduceEqDiff, reduceIte] at h
        exact h
      | 1, _, ho =>
        obtain rfl := Option.some.inj ho
        intro vs W K hB hD hK
        have HK := Lib.hid hK
        have e0 : vs 0 = .pointer (some ⟨w.heap.size, 0, none⟩) := dep_of hD 0 (by rfl)
        have c := cellB hB c0
        clear hK hD ho
        dsimp only
        go_simp
        have h := HK.out _ _ (Below.refl _ _) rfl
        simp only [upd, Nat.reduceEqDiff, reduceIte, e0] at h
        exact h
      | 2, _, ho =>
        obtain rfl := Option.some.inj ho
        intro vs W K hB hD hK
        have HK := Lib.hid hK
        clear hK hD ho
        dsimp only
        go_simp
        have h := HK.out _ _ (Below.refl _ _) rfl
        simp only [upd, Nat.reduceEqDiff, reduceIte] at h
        exact h
      | 3, _, ho =>
        obtain rfl := Option.some.inj ho
        intro vs W K hB hD hK
        have HK := Lib.hid hK
        clear hK hD ho
        dsimp only
        go_simp
        have h := HK.out _ _ (Below.refl _ _) rfl
        simp only [upd, Nat.reduceEqDiff, reduceIte] at h
        exact h
      | 4, _, ho =>
        obtain rfl := Option.some.inj ho
        intro vs W K hB hD hK
        have HK := Lib.hid hK
        have e3 : vs 3 = .pointer (some ⟨w.heap.size, 1, none⟩) := dep_of hD 3 (by rfl)
        have c := cellB hB c1
        clear hK hD ho
        dsimp only
        go_simp
        have h := HK.out _ _ (Below.refl _ _) rfl
        simp only [upd, Nat.reduceEqDiff, reduceIte, e3] at h
        exact h
      | 5, _, ho =>
        obtain rfl := Option.some.inj ho
        intro vs W K hB hD hK
        have HK := Lib.hid hK
        have e2 : vs 2 = .slice (some ⟨bC, oC, none⟩) a.next.length cC := dep_of hD 2 (by rfl)
        have e4 : vs 4 = .int .i64 (st : Int) := dep_of hD 4 (by rfl)
        clear hK hD ho
        dsimp only
        go_simp
        have h := HK.out _ _ (Below.refl _ _) rfl
        simp only [upd, Nat.reduceEqDiff, reduceIte, e2, e4] at h
        exact h
      | 6, _, ho =>
        obtain rfl := Option.some.inj ho
        intro vs W K hB hD hK
        have HK := Lib.hid hK
        have e5 : vs 5 = .pointer (some ⟨bC, oC + st, none⟩) := dep_of hD 5 (by rfl)
        have c := cellB hB cs
        clear hK hD ho
        dsimp only
        go_simp
        have h := HK.out _ _ (Below.refl _ _) rfl
        simp only [upd, Nat.reduceEqDiff, reduceIte, e5] at h
        exact h
      | 7, _, ho =>
        obtain rfl := Option.some.inj ho
        intro vs W K hB hD hK
        have HK := Lib.hid hK
        have e1 : vs 1 = .int .i64 a.letters := dep_of hD 1 (by rfl)
        have e6 : vs 6 = .int .i64 st0 := dep_of hD 6 (by rfl)
        clear hK hD ho
        dsimp only
        go_simp
        have h := HK.out _ _ (Below.refl _ _) rfl
        simp only [upd, Nat.reduceEqDiff, reduceIte, e1, e6] at h
        exact h
      | 8, _, ho =>
        obtain rfl := Option.some.inj ho
        intro vs W K hB hD hK
        have HK := Lib.hid hK
        clear hK hD ho
        dsimp only
        go_simp
        have h := HK.out (.pointer (some ⟨W.heap.size, 0, none⟩)) _ (bel_box (.cells #[.int .i64 0, .int .i64 0, .slice none 0 0, .slice none 0 0] 24)) ⟨_, rfl, hB.size, heap_alloc_new _ _⟩
        simp only [upd, Nat.reduceEqDiff, reduceIte] at h
        exact h
      | q + 9, hlt, _ => exact absurd hlt (by omega)
    case last =>
      intro o ho
      obtain rfl := Option.some.inj ho
      intro vs W K hB hR hK
      have e0 : vs 0 = .pointer (some ⟨w.heap.size, 0, none⟩) := hR 0 (by omega)
      have e1 : vs 1 = .int .i64 a.letters := hR 1 (by omega)
      have e2 : vs 2 = .slice (some ⟨bC, oC, none⟩) a.next.length cC := hR 2 (by omega)
      have e3 : vs 3 = .pointer (some ⟨w.heap.size, 1, none⟩) := hR 3 (by omega)
      have e4 : vs 4 = .int .i64 (st : Int) := hR 4 (by omega)
      have e5 : vs 5 = .pointer (some ⟨bC, oC + st, none⟩) := hR 5 (by omega)
      have e6 : vs 6 = .int .i64 st0 := hR 6 (by omega)
      have e7 : vs 7 = .agg #[.int .i64 a.letters, .int .i64 st0, .slice none 0 0, .slice none 0 0] := hR 7 (by omega)
      obtain ⟨z, e8, hzB, hbox⟩ : ∃ z, vs 8 = .pointer (some ⟨z, 0, none⟩) ∧ w4.heap.size ≤ z ∧ W.heap[z]? = some (.cells #[.int .i64 0, .int .i64 0, .slice none 0 0, .slice none 0 0] 24 (0, 0)) := hR 8 (by omega)
      have k0 := cell_of_row _ _ 0 _ _ _ hbox
      have k1 := cell_of_row _ _ 1 _ _ _ hbox
      have k2 := cell_of_row _ _ 2 _ _ _ hbox
      have k3 := cell_of_row _ _ 3 _ _ _ hbox
      have f0 := frozen_of_row _ _ 0 _ _ hbox
      have f1 := frozen_of_row _ _ 1 _ _ hbox
      have f2 := frozen_of_row _ _ 2 _ _ hbox
      have f3 := frozen_of_row _ _ 3 _ _ hbox
      have HBX := Lib.hid (four_set (a := .int .i64 a.letters) (b := .int .i64 st0) (c := .slice none 0 0) (d := .slice none 0 0) hbox)
      have HBB : Hid (Below w4.heap.size w4 ((((W.setCell ⟨z, 0, none⟩ (.int .i64 a.letters)).setCell ⟨z, 1, none⟩ (.int .i64 st0)).setCell ⟨z, 2, none⟩ (.slice none 0 0)).setCell ⟨z, 3, none⟩ (.slice none 0 0))) :=
        (Below.drew (Below.refl _ _)).trans (hB.trans ((four_only z _ _ _ _).below w4.heap.size (fun q e => by have : q = z := e; omega) hB.size))
      have HK := Lib.hid hK
      have hzW : z < W.heap.size := (Array.getElem?_eq_some_iff.1 hbox).1
      clear hK hR hbox hB ho
      dsimp only
      go_simp
      refine HK.out _ _ ?_
      clear e0 e1 e2 e3 e4 e5 e6 e7 e8 k0 k1 k2 k3 f0 f1 f2 f3 HK c0 c1 c2 c3 cs
      have HF5 := Lib.hid (HF4.out.belowB (by omega) HBB.out)
      have HAB : Hid (AB ((((W.setCell ⟨z, 0, none⟩ (.int .i64 a.letters)).setCell ⟨z, 1, none⟩ (.int .i64 st0)).setCell ⟨z, 2, none⟩ (.slice none 0 0)).setCell ⟨z, 3, none⟩ (.slice none 0 0)) w4.heap.size z a.letters st0 (.slice none 0 0) (.slice none 0 0) [] [] [] [] (fun q => q ≤ w.heap.size + 1)) := AB.of HBX.out hzB fun q e => ⟨by have h1 := HF5.out.lt; omega, by omega⟩
      generalize (((W.setCell ⟨z, 0, none⟩ (.int .i64 a.letters)).setCell ⟨z, 1, none⟩ (.int .i64 st0)).setCell ⟨z, 2, none⟩ (.slice none 0 0)).setCell ⟨z, 3, none⟩ (.slice none 0 0) = w5 at *
      clear HBX hzW
      obtain ⟨c0, c1, c2, c3⟩ := HF5.out.cells
      go_wp2
      clear c0 c1 c2 c3
      go_loopg [27] a.next.length (fun gh i wx => ∃ (s : Nat) (vN' vP' : Value) (nv pv : List Value) (nxs prs : List (List Int)), gh = a.next.length - s ∧ i = .int .i64 (s : Int) ∧ s ≤ a.next.length ∧ Hid (nxs = (firstsC (clsA a) s).map (mrgR a) ∧ prs = (firstsC (clsA a) s).map fun s => a.prio.getD s []) ∧ Hid (AB wx w4.heap.size z a.letters st0 vN' vP' nv pv nxs prs (fun q => q ≤ w.heap.size + 1)) ∧ Hid (Below w4.heap.size w4 wx))
      case atStart => exact ⟨0, _, _, [], [], [], [], rfl, rfl, by omega, ⟨rfl, rfl⟩, HAB, HBB⟩
      case round =>
        clear HAB HBB HF5
        obtain ⟨wo, rfl⟩ : ∃ wo : World, wo = wr := ⟨_, rfl⟩
        obtain ⟨s, vN', vP', nv, pv, nxs, prs, hgs, rfl, hsn, HNS, HABo, HBo⟩ := hrel
        have HGS := Lib.hid hgs
        clear hgs
        have hfl := firstsC_len (clsA a) s
        have hln : nxs.length = (firstsC (clsA a) s).length := by rw [HNS.out.1, List.length_map]
        have hlp : prs.length = (firstsC (clsA a) s).length := by rw [HNS.out.2, List.length_map]
        have HLN := Lib.hid hln
        have HLP := Lib.hid hlp
        obtain ⟨aA, cA, hvN'⟩ := ownsRow_slice HABo.out.oN
        obtain ⟨aQ, cQ, hvP'⟩ := ownsRow_slice HABo.out.oP
        have HFo := Lib.hid (HF4.out.belowB (by omega) HBo.out)
        have hzo := HABo.out.zlt
        clear hln hlp
        by_cases hs : s < a.next.length
        · as_aux_lemma =>
          obtain ⟨q1, q2⟩ := HVN.out s hs
          obtain ⟨aR, cR, hVs⟩ := q2.shape
          rw [(HX.out.ln s hs).1] at hVs
          rw [hVs] at q1 q2
          have HQ2 : Hid (∀ W, Below w.heap.size w W → IsInts W (.slice aR k cR) (a.next.getD s [])) := fun W hW => q2.below hW
          have q1 := cellB HFo.out.bl q1
          have hs2 : (s : Int) < a.next.length := by omega
          have cs := cellB HBo.out (HDC.out s hs)
          have hcs := clsA_lt a hs
          have HSuc : Hid ((clsA a).getD s 0 < (nxs.length : Int) → firstsC (clsA a) (s + 1) = firstsC (clsA a) s) := fun h => by
            rw [HLN.out] at h
            show (if _ then _ else _) = _
            rw [if_pos (by omega)]
          have HSuc2 : Hid (¬ (clsA a).getD s 0 < (nxs.length : Int) → firstsC (clsA a) (s + 1) = firstsC (clsA a) s ++ [s]) := fun h => by
            rw [HLN.out] at h
            show (if _ then _ else _) = _
            rw [if_neg (by omega)]
          generalize (clsA a).getD s 0 = ks at cs HSuc HSuc2
          have hkd : decide (ks < (nxs.length : Int)) = decide (ks < (nxs.length : Int)) := rfl
          subst hvN'
          have n2 : wo.cell? ⟨z, 2, none⟩ = some (.slice aA nxs.length cA) := cell_of_row _ _ 2 _ _ _ HABo.out.box
          clear q2 hVs hcs hkd
          go_upto_region 8 with (fail)
          refine wp_region_quiet_lit (by kernel_rfl) (by kernel_rfl) ?_
          ((repeat (go_big_quiet_step (fail))); refine wpQuiet_nil ?_; rintro _ ⟨nq, rfl⟩)
          have HBd : Hid (Below w4.heap.size w4 (wo.drewN nq)) := HBo.out.trans ((below_draws _ _ _).mono HBo.out.size)
          have HABd : Hid (AB (wo.drewN nq) w4.heap.size z a.letters st0 (.slice aA nxs.length cA) vP' nv pv nxs prs (fun q => q ≤ w.heap.size + 1)) := HABo.out.below (below_draws _ _ _)
          have HFd := Lib.hid (HF4.out.belowB (by omega) HBd.out)
          clear HBo HABo HFo cs n2 q1
          generalize wo.drewN nq = wd at *
          by_cases hlt : ks < (nxs.length : Int)
          · as_aux_lemma =>
            have hd : decide (ks < (nxs.length : Int)) = true := decide_eq_true hlt
            have HNS2 : Hid (nxs = (firstsC (clsA a) (s + 1)).map (mrgR a) ∧ prs = (firstsC (clsA a) (s + 1)).map fun s => a.prio.getD s []) := by
              show _ ∧ _
              rw [HSuc.out hlt]; exact HNS.out
            go_wp2
            go_roundg (a.next.length - (s + 1))
            case measure => have := HGS.out; omega
            case rel => exact ⟨s + 1, _, _, nv, pv, nxs, prs, rfl, by go_num, by omega, HNS2, HABd, HBd⟩
          · as_aux_lemma =>
            have hd : decide (ks < (nxs.length : Int)) = false := decide_eq_false hlt
            have HFs := Lib.hid (HSuc2.out hlt)
            clear HSuc HSuc2
            have hC : Hid (∀ q, hotAB z (.slice aA nxs.length cA) vP' (fun q => q ≤ w.heap.size + 1) q → q < wd.heap.size) := HABd.out.hlt
            have hzd := HABd.out.zlt
            go_wp2_with (at_make; refine mk_int rfl _ _ _ Try.underlying29 rfl wd.heap.size _ k rfl rfl rfl (by omega) (Nat.le_refl _) ?_; intro w6 hown hg1; have HO6 := Lib.hid hown; have HB6 : Hid (Below wd.heap.size wd w6) := below_of_grown hg1 (fun q e => (nomatch e)) (Nat.le_refl _); clear hown hg1)
            rw [fillL_zero (fun j => (clsA a).getD ((a.next.getD s []).getD j 0).toNat 0) k] at HO6
            obtain ⟨C, hCe⟩ : ∃ C, C = wd.heap.size := ⟨_, rfl⟩
            rw [← hCe] at HO6 HB6 hC
            rw [← hCe]
            have HCe := Lib.hid hCe
            have hzC : z < C := by omega
            have hk0 : (0 : Int) ≤ (k : Int) := by omega
            clear hCe hd hlt
            go_loopg [45] k (fun gh i wx => ∃ (x : Nat), gh = k - x ∧ i = .int .i64 (x : Int) ∧ x ≤ k ∧ Hid (OI wx C (.slice (some ⟨C, 0, none⟩) k k) (fillL (fun j => (clsA a).getD ((a.next.getD s []).getD j 0).toNat 0) k x)) ∧ Hid (Below C wd wx))
            case atStart => exact ⟨0, rfl, rfl, by omega, HO6, HB6⟩
            case round =>
              clear HO6 HB6
              obtain ⟨x, hgx, rfl, hxk, HOx, HBx⟩ := hrel
              have HGX := Lib.hid hgx
              have HBw : Hid (Below w.heap.size w wr) := HFd.out.bl.trans (HBx.out.mono (by have := HFd.out.bl.size; have := HCe.out; omega))
              have HB4 : Hid (Below w4.heap.size w4 wr) := HBd.out.trans (HBx.out.mono (by omega))
              clear hgx
              by_cases hx : x < k
              · as_aux_lemma =>
                obtain ⟨bR, oR, had, -, hdt⟩ := (HQ2.out wr HBw.out).dat
                obtain rfl := had (by omega)
                have r1 : wr.cell? ⟨bR, oR + x, none⟩ = some (.int .i64 ((a.next.getD s []).getD x 0)) := hdt x hx
                have hy := HX.out.nx s x hs hx
                have HOn : Hid (OI (wr.setCell ⟨C, x, none⟩ (.int .i64 ((clsA a).getD ((a.next.getD s []).getD x 0).toNat 0))) C (.slice (some ⟨C, 0, none⟩) k k) (fillL (fun j => (clsA a).getD ((a.next.getD s []).getD j 0).toNat 0) k (x + 1))) := by
                  have h := OI.set HOx.out (by rw [fillL_len]) x ((clsA a).getD ((a.next.getD s []).getD x 0).toNat 0)
                  rwa [fillL_set (fun j => (clsA a).getD ((a.next.getD s []).getD j 0).toNat 0)] at h
                generalize (a.next.getD s []).getD x 0 = y at *
                obtain ⟨t, rfl⟩ : ∃ t : Nat, y = (t : Int) := ⟨y.toNat, by omega⟩
                rw [Int.toNat_natCast] at HOn
                have ht2 : (t : Int) < a.next.length := hy.2
                have r2 := cellB HB4.out (HDC.out t (by omega))
                have hx2 : (x : Int) < k := by omega
                have k1 := OI.at' HOx.out (by rw [fillL_len]) x (by rw [fillL_len]; exact hx)
                have ho := HOx.out
                unfold OI at ho
                rw [fillL_len] at ho
                have f1 : wr.frozen? ⟨C, x, none⟩ = false := World.ownsRow.frozenAt ho x
                have HBn : Hid (∀ u, Below C wd (wr.setCell ⟨C, x, none⟩ u)) := fun u => HBx.out.trans ((Only.set (S := fun q => q = C) _ _ _ rfl).below C (fun q e => by have : q = C := e; omega) (by have := HBx.out.size; have := HCe.out; omega))
                generalize (clsA a).getD t 0 = nv2 at *
                clear ho had hdt hy
                go_wp2
                go_roundg (k - (x + 1))
                case measure => have := HGX.out; omega
                case rel => exact ⟨x + 1, rfl, by go_num, by omega, HOn, HBn.out _⟩
              · as_aux_lemma =>
                obtain rfl : x = k := by omega
                have HRL : Hid ((a.next.getD s []).length = x) := (HX.out.ln s hs).1
                have HOy : Hid (OI wr C (.slice (some ⟨C, 0, none⟩) x x) (mrgR a s)) := by
                  have h := HOx.out
                  have h2 := fillL_row (fun y => (clsA a).getD y.toNat 0) (a.next.getD s [])
                  rw [HRL.out] at h2
                  rw [h2] at h
                  exact h
                have HABx : Hid (AB wr w4.heap.size z a.letters st0 (.slice aA nxs.length cA) vP' nv pv nxs prs (fun q => q ≤ w.heap.size + 1)) := HABd.out.below (by rw [← HCe.out]; exact HBx.out)
                have HCh : Hid (¬ hotAB z (.slice aA nxs.length cA) vP' (fun q => q ≤ w.heap.size + 1) C) := fun e => by have := hC.out C e; omega
                have HI1 : Hid (∀ y ∈ mrgR a s, I64 y) := fun y hy => by
                  obtain ⟨u, hu, rfl⟩ := List.mem_map.1 hy
                  obtain ⟨j, hj, rfl⟩ := mem_getD hu
                  have h1 := HX.out.nx s j hs (by have := HRL.out; omega)
                  exact clsA_i64 HX.out _ (getD_mem (by rw [HCL.out]; omega))
                have HRk : Hid ((mrgR a s).length = x) := by show _ = _; unfold mrgR; rw [List.length_map]; exact HRL.out
                have HU := Lib.hid (HABx.out.fresh HOy.out (fun q e => by obtain rfl : C = q := Option.some.inj e; exact HCh.out) (by rw [HRk.out]; omega) HI1.out)
                have n2 : wr.cell? ⟨z, 2, none⟩ = some (.slice aA nxs.length cA) := cell_of_row _ _ 2 _ _ _ HABx.out.box
                have hzz := HABx.out.zlt
                have hoN := HABx.out.oN
                have hpl : nxs.length < 5864062014000 := by have := HLN.out; omega
                have h4z : w4.heap.size ≤ wr.heap.size := HB4.out.size
                clear HOx HABd HOy hx hk0
                go_wp2_with (at_builtin; refine app_row rfl _ _ (.slice (some ⟨C, 0, none⟩) x x) rfl w4.heap.size _ _ _ hoN rfl _ (by simp) rfl rfl hpl h4z ?_; intro v' w' hown' hg hmv; obtain ⟨ao', cap', hv'⟩ := ownsRow_slice hown'; subst hv'; have HST := Lib.hid (HABx.out.appN HU.out hown' hg hmv); have k2 := cell_of_row _ _ 2 _ _ _ HST.out.1; have f2 := frozen_of_row _ _ 2 _ _ HST.out.1; clear hown' hg hmv)
                have HABy := Lib.hid HST.out.2.1
                have HBy := Lib.hid (HB4.out.trans HST.out.2.2.2)
                clear k2 f2 HST hoN n2 hpl HABx
                go_upto_region 16 with (fail)
                obtain ⟨w9, hw9⟩ : ∃ w9, w9 = w'.setCell ⟨z, 2, none⟩ (.slice ao' (nxs.length + 1) cap') := ⟨_, rfl⟩
                rw [← hw9] at HABy HBy
                rw [← hw9]
                clear hw9
                have HFy := Lib.hid (HF4.out.belowB (by omega) HBy.out)
                obtain ⟨p1, p2⟩ := HVP.out s hs
                obtain ⟨aQ2, cQ2, hVq⟩ := p2.shape
                rw [(HX.out.ln s hs).2] at hVq
                rw [hVq] at p1 p2
                have HIP : Hid (∀ W, Below w9.heap.size w9 W → IsInts W (.slice aQ2 x cQ2) (a.prio.getD s [])) := fun W hW => p2.below (HFy.out.bl.trans (hW.mono HFy.out.bl.size))
                have hpc := cellB HFy.out.bl p1
                have hwp := (HFy.out.cells).2.2.2
                subst hvP'
                have hz3 : w9.cell? ⟨z, 3, none⟩ = some (.slice aQ prs.length cQ) := cell_of_row _ _ 3 _ _ _ HABy.out.box
                have HPR : Hid ((a.prio.getD s []).length ≤ 100000 ∧ ∀ y ∈ a.prio.getD s [], I64 y) := ⟨by have := (HX.out.ln s hs).2; omega, fun y hy => by
                  obtain ⟨j, hj, rfl⟩ := mem_getD hy
                  have := HX.out.pr s j hs (by have := (HX.out.ln s hs).2; omega)
                  unfold I64; omega⟩
                have hzw : z < w9.heap.size := HABy.out.zlt
                have hprl : prs.length < 5864062014000 := by have := HLP.out; omega
                have HABz : Hid (AB w9.drew w4.heap.size z a.letters st0 (.slice ao' (nxs.length + 1) cap') (.slice aQ prs.length cQ) (nv ++ [.slice (some ⟨C, 0, none⟩) x x]) pv (nxs ++ [mrgR a s]) prs (fun q => q ≤ w.heap.size + 1)) := HABy.out.below (Below.drew (Below.refl _ _))
                clear p1 p2 hVq HABy
                refine region_grow4 hmx (R14_16 w9.heap.size w.heap.size z bP oP s a.next.length prs.length x cP cQ cQ2 aQ aQ2 (a.prio.getD s [])) (AppRow w9.heap.size w4.heap.size (a.prio.getD s []) (.slice aQ prs.length cQ) prs.length pv) (fun v' _ W' => ∃ y : Value, Hid (AB W' w4.heap.size z a.letters st0 (.slice ao' (nxs.length + 1) cap') v' (nv ++ [.slice (some ⟨C, 0, none⟩) x x]) (pv ++ [y]) (nxs ++ [mrgR a s]) (prs ++ [a.prio.getD s []]) (fun q => q ≤ w.heap.size + 1)) ∧ Hid (Below w4.heap.size w9.drew W') ∧ ∃ ay cy, v' = .slice ay (prs.length + 1) cy) (fun i => i == 10) 9 11 (fun vs => { tmps := (_ :: _ :: _ :: _ :: _ :: _ :: _ :: _ :: _ :: _ :: _ :: _ :: _ :: _ :: _ :: _ :: _ :: _ :: _ :: _ :: _ :: _ :: _ :: _ :: _ :: _ :: _ :: _ :: _ :: _ :: _ :: _ :: _ :: _ :: _ :: _ :: _ :: _ :: _ :: _ :: _ :: _ :: _ :: _ :: _ :: _ :: _ :: _ :: _ :: _ :: _ :: _ :: _ :: _ :: _ :: _ :: _ :: _ :: _ :: _ :: _ :: _ :: _ :: _ :: vs 0 :: vs 1 :: vs 2 :: vs 3 :: vs 4 :: vs 5 :: vs 6 :: vs 7 :: vs 8 :: vs 9 :: vs 10 :: _ :: _ :: []).toArray, defers := _ }) (fun n => [u64, u65, u66, u67, u68, u69, u70, u71, u72, u73, u74, undef].getD n undef) rfl (by kernel_rfl) (R14_16.mono w9.heap.size w.heap.size z bP oP s a.next.length prs.length x cP cQ cQ2 aQ aQ2 (a.prio.getD s [])) ?step ?free ?app ?last ?fin
                case step =>
                  intro ix o hp hm2 hf ho
                  match ix, hp, hm2, hf, ho with
                  | 0, _, _, _, ho =>
                      obtain rfl := Option.some.inj ho
                      intro vs W K hU hB hD hK
                      have HK := Lib.hid hK
                      clear hK hD hU ho
                      dsimp only
                      go_simp
                      have h := HK.out _ _ (Below.refl _ _) rfl
                      simp only [upd, Nat.reduceEqDiff, reduceIte] at h
                      exact h
                  | 1, _, _, _, ho =>
                      obtain rfl := Option.some.inj ho
                      intro vs W K hU hB hD hK
                      have HK := Lib.hid hK
                      have e0 : vs 0 = .pointer (some ⟨z, 3, none⟩) := hD 0 (by rfl)
                      have c := cellB hB hz3
                      clear hK hD hU ho
                      dsimp only
                      go_simp
                      have h := HK.out _ _ (Below.refl _ _) rfl
                      simp only [upd, Nat.reduceEqDiff, reduceIte, e0] at h
                      exact h
                  | 2, _, _, _, ho =>
                      obtain rfl := Option.some.inj ho
                      intro vs W K hU hB hD hK
                      have HK := Lib.hid hK
                      clear hK hD hU ho
                      dsimp only
                      go_simp
                      have h := HK.out _ _ (Below.refl _ _) rfl
                      simp only [upd, Nat.reduceEqDiff, reduceIte] at h
                      exact h
                  | 3, _, _, _, ho =>
                      obtain rfl := Option.some.inj ho
                      intro vs W K hU hB hD hK
                      have HK := Lib.hid hK
                      have e2 : vs 2 = .pointer (some ⟨w.heap.size, 3, none⟩) := hD 2 (by rfl)
                      have c := cellB hB hwp
                      clear hK hD hU ho
                      dsimp only
                      go_simp
                      have h := HK.out _ _ (Below.refl _ _) rfl
                      simp only [upd, Nat.reduceEqDiff, reduceIte, e2] at h
                      exact h
                  | 4, _, _, _, ho =>
                      obtain rfl := Option.some.inj ho
                      intro vs W K hU hB hD hK
                      have HK := Lib.hid hK
                      clear hK hD hU ho
                      dsimp only
                      go_simp
                      have h := HK.out _ _ (Below.refl _ _) rfl
                      simp only [upd, Nat.reduceEqDiff, reduceIte] at h
                      exact h
                  | 5, _, _, _, ho =>
                      obtain rfl := Option.some.inj ho
                      intro vs W K hU hB hD hK
                      have HK := Lib.hid hK
                      have e3 : vs 3 = .slice (some ⟨bP, oP, none⟩) a.next.length cP := hD 3 (by rfl)
                      have e4 : vs 4 = .int .i64 (s : Int) := hD 4 (by rfl)
                      clear hK hD hU ho
                      dsimp only
                      go_simp
                      have h := HK.out _ _ (Below.refl _ _) rfl
                      simp only [upd, Nat.reduceEqDiff, reduceIte, e3, e4] at h
                      exact h
                  | 6, _, _, _, ho =>
                      obtain rfl := Option.some.inj ho
                      intro vs W K hU hB hD hK
                      have HK := Lib.hid hK
                      have e5 : vs 5 = .pointer (some ⟨bP, oP + s, none⟩) := hD 5 (by rfl)
                      have c := cellB hB hpc
                      clear hK hD hU ho
                      dsimp only
                      go_simp
                      have h := HK.out _ _ (Below.refl _ _) rfl
                      simp only [upd, Nat.reduceEqDiff, reduceIte, e5] at h
                      exact h
                  | 7, _, _, _, ho =>
                      obtain rfl := Option.some.inj ho
                      intro vs W K hU hB hD hK
                      have HK := Lib.hid hK
                      have e6 : vs 6 = .slice aQ2 x cQ2 := hD 6 (by rfl)
                      clear hK hD hU ho
                      dsimp only
                      go_simp
                      refine (Clone_o W (.slice aQ2 x cQ2) (a.prio.getD s []) (HIP.out W ((Below.drew (Below.refl _ _)).trans hB)) HPR.out.1).mono ?_
                      rintro e W' ⟨v9, rfl, hO, hb⟩
                      have h := HK.out v9 W' hb ⟨hO.slice, hO.base hB.size⟩
                      simp only [upd, Nat.reduceEqDiff, reduceIte, e6] at h
                      exact h
                  | 8, _, _, _, ho =>
                      obtain rfl := Option.some.inj ho
                      intro vs W K hU hB hD hK
                      have HK := Lib.hid hK
                      have HM : Hid (FreshRow w9.heap.size (a.prio.getD s []) (vs 7) W) := hD 7 (by rfl)
                      have h1 : (vs 7).oneCell' = true := by obtain ⟨⟨a1, c1, e⟩, -⟩ := HM.out; rw [e]; rfl
                      clear hK hD hU ho
                      dsimp only
                      obtain ⟨⟨a1, c1, ey⟩, -⟩ := HM.out
                      go_simp
                      have h := HK.out _ _ (bel_box (.cells #[vs 7] 29)) (FreshEl.made HM.out)
                      simp only [upd, Nat.reduceEqDiff, reduceIte, ey] at h
                      exact h
                  | 9, hp, _, _, _ => exact absurd rfl hp
                  | 10, _, _, hf, _ => exact absurd hf (by decide)
                  | 11, _, hm2, _, _ => exact absurd rfl hm2
                  | q + 12, _, _, _, ho => exact absurd ho (by simp)
                case free =>
                  intro ix o hf ho
                  match ix, hf, ho with
                  | 0, hf, _ => exact absurd hf (by decide)
                  | 1, hf, _ => exact absurd hf (by decide)
                  | 2, hf, _ => exact absurd hf (by decide)
                  | 3, hf, _ => exact absurd hf (by decide)
                  | 4, hf, _ => exact absurd hf (by decide)
                  | 5, hf, _ => exact absurd hf (by decide)
                  | 6, hf, _ => exact absurd hf (by decide)
                  | 7, hf, _ => exact absurd hf (by decide)
                  | 8, hf, _ => exact absurd hf (by decide)
                  | 9, hf, _ => exact absurd hf (by decide)
                  | 10, _, ho =>
                      obtain rfl := Option.some.inj ho
                      intro vs W K hU hD hK
                      have HK := Lib.hid hK
                      clear hK hD hU ho
                      dsimp only
                      go_simp
                      have h := HK.out _ (fun _ => rfl)
                      simp only [upd, Nat.reduceEqDiff, reduceIte] at h
                      exact h
                  | 11, hf, _ => exact absurd hf (by decide)
                  | q + 12, _, ho => exact absurd ho (by simp)
                case app =>
                  intro o ho
                  obtain rfl := Option.some.inj ho
                  intro vs W K hU hB hD hK
                  have e1 : vs 1 = .slice aQ prs.length cQ := hD 1 (by rfl)
                  have hel : FreshEl w9.heap.size (a.prio.getD s []) (vs 8) W := hD 8 (by rfl)
                  rw [if_pos (by rfl)]
                  exact wp_app_rowU W _ _ (by rfl) w4.heap.size (.slice aQ prs.length cQ) prs.length pv (by show vs 1 = _; exact e1) (ownsRow_only HABz.out.oP (S := fun _ => False) (Only.of_below hB) fun _ _ e => e) _ rfl hel hprl (Nat.le_trans (Nat.le_trans hzB (Nat.le_of_lt hzw)) hB.size) fun v' w' hA => hK v' w' hA
                case last =>
                  intro o ho
                  obtain rfl := Option.some.inj ho
                  intro vs W9 W K hU hB hR hA hK
                  have HK := Lib.hid hK
                  have e10 : vs 10 = .pointer (some ⟨z, 3, none⟩) := hR 10 (by omega) (by omega)
                  obtain ⟨y, hy, hown, hg, hm⟩ := hA
                  obtain ⟨ay, cy, hvy⟩ := ownsRow_slice hown
                  have hAB9 := HABz.out.below hB
                  have hST := hAB9.appP (hAB9.fresh hy.2 (fun q e k => by have h1 := hy.2.ge q e; have h2 := HABz.out.hlt q k; exact Nat.lt_irrefl _ (Nat.lt_of_lt_of_le h2 h1)) HPR.out.1 HPR.out.2) hown hg hm
                  have k2 := cell_of_row _ _ 3 _ _ _ hST.1
                  have f2 := frozen_of_row _ _ 3 _ _ hST.1
                  have HFIN : Hid ((fun v' _ W' => ∃ y : Value, Hid (AB W' w4.heap.size z a.letters st0 (.slice ao' (nxs.length + 1) cap') v' (nv ++ [.slice (some ⟨C, 0, none⟩) x x]) (pv ++ [y]) (nxs ++ [mrgR a s]) (prs ++ [a.prio.getD s []]) (fun q => q ≤ w.heap.size + 1)) ∧ Hid (Below w4.heap.size w9.drew W') ∧ ∃ ay cy, v' = .slice ay (prs.length + 1) cy) (vs 9) undef (W.setCell ⟨z, 3, none⟩ (vs 9))) := ⟨y, hST.2.1, (hB.mono (Nat.le_trans hzB (Nat.le_of_lt hzw))).trans hST.2.2.2, ay, cy, hvy⟩
                  clear hST hAB9 hg hm hown hy
                  clear hK hR hU ho
                  dsimp only
                  go_simp
                  have h := HK.out undef _ HFIN.out
                  simp only [upd, Nat.reduceEqDiff, reduceIte, e10, hvy] at h
                  exact h
                case fin =>
                  intro vs W hR hF
                  obtain ⟨y, HABn, HBn, ay, cy, hvy⟩ := hF
                  clear hR
                  generalize vs 0 = q16_0 at *
                  generalize vs 1 = q16_1 at *
                  generalize vs 2 = q16_2 at *
                  generalize vs 3 = q16_3 at *
                  generalize vs 4 = q16_4 at *
                  generalize vs 5 = q16_5 at *
                  generalize vs 6 = q16_6 at *
                  generalize vs 7 = q16_7 at *
                  generalize vs 8 = q16_8 at *
                  generalize vs 9 = q16_9 at *
                  generalize vs 10 = q16_10 at *
                  clear vs
                  have HNS2 : Hid (nxs ++ [mrgR a s] = (firstsC (clsA a) (s + 1)).map (mrgR a) ∧ prs ++ [a.prio.getD s []] = (firstsC (clsA a) (s + 1)).map fun s => a.prio.getD s []) := by
                    show _ ∧ _
                    rw [HFs.out, List.map_append, List.map_append, ← HNS.out.1, ← HNS.out.2]
                    exact ⟨rfl, rfl⟩
                  have HBn2 := Lib.hid (HBy.out.trans ((Below.drew (Below.refl _ _)).trans HBn.out))
                  go_wp2
                  go_roundg (a.next.length - (s + 1))
                  case measure => have := HGS.out; omega
                  case rel => exact ⟨s + 1, _, _, _, _, _, _, rfl, by go_num, by omega, HNS2, HABn, HBn2⟩
        · as_aux_lemma =>
          obtain rfl : s = a.next.length := by omega
          have hT : Hid (mergeA a = ⟨a.letters, st0, nxs, prs⟩) := by show _ = _; rw [mergeA_def, HNS.out.1, HNS.out.2, HST0.out, HST.out, Int.toNat_natCast]
          subst hvN' hvP'
          have n0 : wo.cell? ⟨z, 0, none⟩ = some (.int .i64 a.letters) := cell_of_row _ _ 0 _ _ _ HABo.out.box
          have n1 : wo.cell? ⟨z, 1, none⟩ = some (.int .i64 st0) := cell_of_row _ _ 1 _ _ _ HABo.out.box
          have n2 : wo.cell? ⟨z, 2, none⟩ = some (.slice aA nxs.length cA) := cell_of_row _ _ 2 _ _ _ HABo.out.box
          have n3 : wo.cell? ⟨z, 3, none⟩ = some (.slice aQ prs.length cQ) := cell_of_row _ _ 3 _ _ _ HABo.out.box
          obtain ⟨⟨z0, z1, z2, z3⟩, y0, y1, y2, y3⟩ := HFo.out.zero
          go_wp2
          (have hc4 := four_set (a := Value.int .i64 a.letters) (b := Value.int .i64 st0) (c := Value.slice aA nxs.length cA) (d := Value.slice aQ prs.length cQ) HFo.out.rc); (have c0 := cell_of_row _ _ 0 _ _ _ hc4); (have c1 := cell_of_row _ _ 1 _ _ _ hc4); (have c2 := cell_of_row _ _ 2 _ _ _ hc4); (have c3 := cell_of_row _ _ 3 _ _ _ hc4); (refine bodyPost_ret (v := .agg #[Value.int .i64 a.letters, Value.int .i64 st0, Value.slice aA nxs.length cA, Value.slice aQ prs.length cQ]) (by simp [results, Try.results14, go_sem, c0, c1, c2, c3]) rfl ?_)
          rw [HR.out, hT.out]
          exact HABo.out.fin HFo.out ⟨HI0.out, HSI.out⟩ (by have := HLN.out; omega) (by have := HLP.out; omega)

end Go.Proofs.Ytdkpdpcecjcmcaa
