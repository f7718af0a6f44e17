/- What the reference's Solve computes; the walk of SolveMatchesReference. -/
import Derived.Test.YtjhafakkadnfmaaSo34
import Derived.Test.YtjhafakkadnfmaaSo24
namespace Go.Proofs.Ytjhafakkadnfmaa
open Go.RowKit

theorem ints_nil35 (w : World) : IsInts w (.slice none 0 0) [] := ⟨⟨none, 0, 0, 0, rfl, Nat.le_refl _, Nat.zero_le _, Nat.zero_le _, fun _ => rfl, (fun h => absurd h (by simp)), fun j hj => absurd hj (by simp)⟩, by simp⟩
def winK (l : List Bool) (k : Nat) : List Int := (List.range k).map (winF l)
theorem winK_succ (l : List Bool) (k : Nat) : winK l (k + 1) = winK l k ++ [winF l k] := by simp [winK, List.range_succ]

set_option maxRecDepth 100000 in
set_option maxHeartbeats 8000000 in
theorem RSolve23_c (w : World) (vg : Value) (g : Gm) (hg : IsGame w vg g) :
    Calls Try.prog 14 #[vg] w (fun e w' => ∃ v, e = .returned v ∧ IsInts w' v (solR g) ∧ Below w.heap.size w w') := by
  have HG := Lib.hid hg
  obtain ⟨v0, v1, v2, rfl, ⟨⟨ao0, cap0, b0, off0, rfl, -⟩, -⟩, ⟨⟨ao1, cap1, b1, off1, rfl, -⟩, -⟩, ⟨V, ⟨ao2, cap2, b2, off2, rfl, -⟩, -⟩⟩ := hg
  cases hv : validB g with
  | false =>
    have HR : Hid (solR g = []) := by show _ = _; unfold solR; rw [hv]; rfl
    go_enter Try.func14, Try.ntmps14
    go_wp2_with fail
    refine (RValid_c _ _ g (HG.out.below (by repeat (first | exact Below.refl _ _ | assumption | (refine belA ?_ _) | (refine belD ?_ _))))).mono ?_
    rintro e w1 ⟨rfl, hb1⟩
    have hB : Below w.heap.size w w1 := (Boxed.start hb1).bl
    rw [hv]
    clear hb1 hv
    go_wp2
    go_ret
    exact ⟨_, rfl, by rw [HR.out]; exact ints_nil35 _, hB⟩
  | true =>
    obtain ⟨la, lb, lc⟩ := valid_lens hv
    obtain ⟨n, hn⟩ : ∃ n, n = g.owner.length := ⟨_, rfl⟩
    rw [← hn] at la lb lc
    rw [lb, lc, ← hn] at HG ⊢
    have HR : Hid (solR g = winK (regF g n (n + 1) (List.replicate n true)) n) := by show _ = _; unfold solR; rw [hv, hn]; rfl
    have hset : ∀ i, setOf (List.replicate n true) i ↔ i < n := fun i => by
      constructor
      · intro hi; have := set_lt hi; simpa using this
      · intro hi; simp [setOf, List.getD, hi]
    have hT : Total g (setOf (List.replicate n true)) := fun i hi => by
      have hi' : i < g.owner.length := by have := (hset i).1 hi; omega
      obtain ⟨x, hx⟩ := List.exists_mem_of_ne_nil _ ((valid_fits hv 0 (.inl rfl)).ne i hi')
      obtain ⟨v, rfl, hv'⟩ := valid_rg hv i hi' x hx
      exact ⟨v, hx, (hset v).2 (by omega)⟩
    have hrg : ∀ i, i < n → ∀ x ∈ g.succ.getD i [], ∃ v : Nat, x = v ∧ v < n := by rw [hn]; exact valid_rg hv
    have how : ∀ i, i < n → own g i = 0 ∨ own g i = 1 := by rw [hn]; exact valid_own hv
    have hpr : ∀ i, i < n → 0 ≤ g.prio.getD i 0 ∧ g.prio.getD i 0 ≤ 30000 := by rw [hn]; exact valid_pri hv
    have HREG := Lib.hid (fun w vg vs B h1 h2 h3 => region_c (g := g) (n := n) hn.symm lb lc la hrg how hpr (n + 1) (List.replicate n true) w vg vs B (by simp) (by rw [List.count_replicate]; simp) hT h1 h2 h3)
    have HLR : Hid ((regF g n (n + 1) (List.replicate n true)).length = n) := (regF_sol hrg how hpr (n + 1) (List.replicate n true) (by simp) (by rw [List.count_replicate]; simp) hT).1
    clear hset hT hrg how hpr lb lc hn
    go_enter Try.func14, Try.ntmps14
    go_wp2_with fail
    refine (RValid_c _ _ g (HG.out.below (by repeat (first | exact Below.refl _ _ | assumption | (refine belA ?_ _) | (refine belD ?_ _))))).mono ?_
    rintro e w1 ⟨rfl, hb1⟩
    have hbx := Boxed.start hb1
    rw [hv]
    have d2 : w1.cell? ⟨w.heap.size, 2, none⟩ = some (Value.slice ao2 n cap2) := hbx.cell 2 rfl
    have HBX := Lib.hid hbx
    have hlt1 := hbx.lt
    clear hb1 hv hbx
    go_wp2_with (at_make; refine mk_bool rfl _ _ _ Try.underlying33 rfl (w.heap.size + 1) _ n rfl rfl rfl (by omega) hlt1 ?_; intro w2 hown2 hg2)
    have hbx2 := HBX.out.stepB ((Below.refl _ _).grown hg2 hlt1 (fun k hk => by cases hk))
    clear hg2 d2
    go_loopg [5] n (fun gh i wr => ∃ (k : Nat) (l : List Bool), gh = n - k ∧ i = .int .i64 k ∧ k ≤ n ∧ Boxed w wr #[Value.slice ao0 n cap0, Value.slice ao1 n cap1, Value.slice ao2 n cap2] ∧ OB wr (w.heap.size + 1) (.slice (some ⟨w1.heap.size, 0, none⟩) n n) l ∧ Hid (l.length = n) ∧ Hid (l.take k = List.replicate k true))
    case atStart => exact ⟨0, _, by omega, rfl, by omega, hbx2, hown2, List.length_replicate, by simp [Hid]⟩
    case round =>
      obtain ⟨k, l, hgk, rfl, hk, hB, hO, HL, HTK⟩ := hrel
      have HGK := Lib.hid hgk
      clear hgk hbx2 hown2
      by_cases hlt : k < n
      · have fT := hO.fz HL.out.symm k
        have cT := hO.atD HL.out.symm k (by rw [HL.out]; exact hlt)
        have HBS := Lib.hid (hB.stepB ((Below.refl _ _).setCell (p := ⟨w1.heap.size, k, none⟩) (show w.heap.size + 1 ≤ w1.heap.size by omega) (.bool true)))
        have HOS := Lib.hid (hO.set HL.out.symm k true)
        have HTN : Hid ((l.set k true).take (k + 1) = List.replicate (k + 1) true) := by show _ = _; rw [take_set_next _ _ _ (by rw [HL.out]; exact hlt), HTK.out, List.replicate_succ']
        have HLN : Hid ((l.set k true).length = n) := by show _ = _; rw [List.length_set]; exact HL.out
        clear hB hO
        go_wp2
        go_roundg (n - (k + 1))
        case measure => have := HGK.out; omega
        case rel => exact ⟨k + 1, _, rfl, by go_num, by omega, HBS.out, HOS.out, HLN, HTN⟩
      · obtain rfl : n = k := by omega
        have HTE : Hid (l = List.replicate n true) := by
          show _ = _
          have h1 := HTK.out
          rwa [List.take_of_length_le (by rw [HL.out]; exact Nat.le_refl _)] at h1
        rw [HTE.out] at hO
        obtain ⟨w3, rfl⟩ : ∃ w3 : World, w3 = wr := ⟨_, rfl⟩
        have d0 : w3.cell? ⟨w.heap.size, 0, none⟩ = some (Value.slice ao0 n cap0) := hB.cell 0 rfl
        have d1 : w3.cell? ⟨w.heap.size, 1, none⟩ = some (Value.slice ao1 n cap1) := hB.cell 1 rfl
        have d2 : w3.cell? ⟨w.heap.size, 2, none⟩ = some (Value.slice ao2 n cap2) := hB.cell 2 rfl
        have HB3 := Lib.hid hB
        have HO3 := Lib.hid hO
        clear hB hO HTE HTK HL HGK hk hlt
        go_wp2_with fail
        refine (HREG.out w3 _ _ (w.heap.size + 1) (HG.out.below HB3.out.bl) HO3.out HB3.out.lt).mono ?_
        rintro e w4 ⟨vw, rfl, hW, hb4⟩
        have HB4 := Lib.hid (HB3.out.step hb4)
        have hwb := hW.is (by rw [HLR.out]; unfold maxN; omega)
        clear hW hb4 d0 d1 d2 HREG HO3 HB3
        obtain ⟨aow, capw, bw, offw, rfl, gw⟩ := hwb
        rw [HLR.out] at gw ⊢
        generalize hreg : regF g n (n + 1) (List.replicate n true) = rg at *
        clear hreg
        have HGW := Lib.hid gw
        clear gw
        go_wp2
        go_loopg [7, 8] n (fun gh v i wr => ∃ k : Nat, gh = n - k ∧ i = .int .i64 k ∧ k ≤ n ∧ Below w4.heap.size w4 wr ∧ OI wr w4.heap.size v (winK rg k))
        case atStart => exact ⟨0, by omega, rfl, by omega, Below.refl _ _, OI_nil _ _⟩
        case round =>
          obtain ⟨k, hgk, rfl, hk, hB, hO⟩ := hrel
          have HGK := Lib.hid hgk
          clear hgk
          by_cases hlt : k < n
          · have gw := HGW.out
            obtain rfl := gw.ad (by omega)
            have c1 := cellB hB (gw.el k hlt)
            unfold bvF at c1
            have HS := Lib.hid (winK_succ rg k)
            have HF : Hid (winF rg k = if rg.getD k false then 0 else 1) := rfl
            have HB := Lib.hid hB
            have HO := Lib.hid hO
            have hBs := hB.size
            have hnl : (winK rg k).length < 17592186043904 := by simp [winK]; omega
            clear hB hO gw
            cases hq : rg.getD k false with
            | true =>
              rw [hq] at c1
              have HV : Hid (winF rg k = 0) := by show _ = _; rw [HF.out, hq]; rfl
              clear hq
              go_wp2_with (at_builtin; refine app_int rfl _ _ 0 rfl w4.heap.size _ _ HO.out rfl _ (by simp) rfl hnl hBs ?_; intro v' w' hown' hg hmv)
              go_roundg (n - (k + 1))
              case measure => have := HGK.out; omega
              case rel => exact ⟨k + 1, rfl, by go_num, by omega, HB.out.grown hg hBs (fun g hg => HO.out.ge g hg), by rw [HS.out, HV.out]; exact hown'⟩
            | false =>
              rw [hq] at c1
              have HV : Hid (winF rg k = 1) := by show _ = _; rw [HF.out, hq]; rfl
              clear hq
              go_wp2_with (at_builtin; refine app_int rfl _ _ 1 rfl w4.heap.size _ _ HO.out rfl _ (by simp) rfl hnl hBs ?_; intro v' w' hown' hg hmv)
              go_roundg (n - (k + 1))
              case measure => have := HGK.out; omega
              case rel => exact ⟨k + 1, rfl, by go_num, by omega, HB.out.grown hg hBs (fun g hg => HO.out.ge g hg), by rw [HS.out, HV.out]; exact hown'⟩
          · obtain rfl : n = k := by omega
            go_wp2
            go_ret
            exact ⟨_, rfl, by rw [HR.out]; exact hO.is (by simp [winK, maxN]; omega) (fun x hx => by obtain ⟨i, -, rfl⟩ := List.mem_map.1 hx; unfold winF I64; split <;> omega), HB4.out.bl.trans (hB.mono HB4.out.bl.size)⟩

def RMt (ao0 ao1 ao2 : Option Addr) (cap0 cap1 cap2 : Nat) (g : Gm) (ix : Nat) (v : Value) (W : World) : Prop :=
  match ix with
  | 0 => v = .bool true
  | 1 => v = .bool true
  | 2 => v = .agg #[Value.slice ao0 g.owner.length cap0, Value.slice ao1 g.prio.length cap1, Value.slice ao2 g.succ.length cap2]
  | 3 => IsInts W v (solR g)
  | 4 => v = .agg #[Value.slice ao0 g.owner.length cap0, Value.slice ao1 g.prio.length cap1, Value.slice ao2 g.succ.length cap2]
  | 5 => IsInts W v (solR g)
  | 6 => v = .bool true
  | 7 => v = .bool true
  | 8 => v = .bool true
  | _ => True
theorem RMt.mono (ao0 ao1 ao2 : Option Addr) (cap0 cap1 cap2 : Nat) (g : Gm) (ix : Nat) (v : Value) (W W' : World) (h : RMt ao0 ao1 ao2 cap0 cap1 cap2 g ix v W) (hb : Below W.heap.size W W') : RMt ao0 ao1 ao2 cap0 cap1 cap2 g ix v W' := by
  unfold RMt at *
  split at h <;> first | exact h | exact IsInts.below h hb

set_option maxRecDepth 100000 in
set_option maxHeartbeats 8000000 in
theorem Match_w (w : World) (vg : Value) (g : Gm) (hg : IsGame w vg g) :
    Calls Try.prog 3 #[vg] w (Calm (.bool true) w) := by
  obtain ⟨v0, v1, v2, rfl, i0, i1, i2⟩ := id hg
  have HG := Lib.hid hg
  clear hg
  obtain ⟨⟨ao0, cap0, b0, off0, rfl, -⟩, -⟩ := i0
  obtain ⟨⟨ao1, cap1, b1, off1, rfl, -⟩, -⟩ := i1
  obtain ⟨V, ⟨ao2, cap2, b2, off2, rfl, -⟩, -⟩ := i2
  have hmx : Try.prog.follows .mixedOrders = true := by kernel_rfl
  go_enter Try.func3, Try.ntmps3
  go_wp2_with fail
  refine (head_c _).mono ?_
  rintro e w2 ⟨rfl, hb2⟩
  have hbx := Boxed.start hb2
  have d0 : w2.cell? ⟨w.heap.size, 0, none⟩ = some (Value.slice ao0 g.owner.length cap0) := hbx.cell 0 rfl
  have d1 : w2.cell? ⟨w.heap.size, 1, none⟩ = some (Value.slice ao1 g.prio.length cap1) := hbx.cell 1 rfl
  have d2 : w2.cell? ⟨w.heap.size, 2, none⟩ = some (Value.slice ao2 g.succ.length cap2) := hbx.cell 2 rfl
  have HBX := Lib.hid hbx
  clear hb2 hbx
  go_wp2_with fail
  refine (Small_c w2 _ g 30 (HG.out.below HBX.out.bl)).mono ?_
  rintro e w3 ⟨rfl, hb3⟩
  have HB3 := Lib.hid (HBX.out.step hb3)
  clear hb3 HBX d0 d1 d2
  cases hsm : smallB g 30 with
  | false =>
    go_wp2
    go_ret
    exact ⟨rfl, HB3.out.bl⟩
  | true =>
  have HSl := Lib.hid (small_sl hsm)
  clear hsm
  have HCL : Hid (∀ W, Below w3.drew.heap.size w3.drew W → W.cell? ⟨w.heap.size, 0, none⟩ = some (Value.slice ao0 g.owner.length cap0) ∧ W.cell? ⟨w.heap.size, 1, none⟩ = some (Value.slice ao1 g.prio.length cap1) ∧ W.cell? ⟨w.heap.size, 2, none⟩ = some (Value.slice ao2 g.succ.length cap2)) := fun W h => by
    have hb := HB3.out.step ((Below.drew (Below.refl _ _)).trans h)
    exact ⟨hb.cell 0 rfl, hb.cell 1 rfl, hb.cell 2 rfl⟩
  have HGW : Hid (∀ W, Below w3.drew.heap.size w3.drew W → IsGame W (.agg #[Value.slice ao0 g.owner.length cap0, Value.slice ao1 g.prio.length cap1, Value.slice ao2 g.succ.length cap2]) g) := fun W h => HG.out.below (HB3.out.step ((Below.drew (Below.refl _ _)).trans h)).bl
  go_upto_region 4 with (fail)
  refine region_stable hmx (RMt ao0 ao1 ao2 cap0 cap1 cap2 g) (fun vs => { tmps := (_ :: _ :: vs 8 :: _ :: _ :: _ :: _ :: _ :: _ :: vs 0 :: vs 1 :: vs 2 :: vs 3 :: vs 4 :: vs 5 :: vs 6 :: vs 7 :: []).toArray, defers := [] }) (fun n => [undef, undef, undef, undef, undef, undef, undef, undef, .bool false].getD n undef) rfl (by kernel_rfl) (RMt.mono ao0 ao1 ao2 cap0 cap1 cap2 g) ?step ?fin
  case step =>
    intro ix o ho
    match ix, ho with
    | 0, ho =>
      obtain rfl := Option.some.inj ho
      intro vs W K hB hD hK
      have HK := Lib.hid hK
      clear hK hD ho
      dsimp only
      go_simp
      have h := HK.out _ _ (Below.refl _ _) rfl
      simp only [upd, Nat.reduceEqDiff, reduceIte] at h
      exact h
    | 1, ho =>
      obtain rfl := Option.some.inj ho
      intro vs W K hB hD hK
      have HK := Lib.hid hK
      have e0 : vs 0 = .bool true := dep_of hD 0 (by rfl)
      clear hK hD ho
      dsimp only
      go_simp
      have h := HK.out _ _ (Below.refl _ _) rfl
      simp only [upd, Nat.reduceEqDiff, reduceIte, e0] at h
      exact h
    | 2, ho =>
      obtain rfl := Option.some.inj ho
      intro vs W K hB hD hK
      have HK := Lib.hid hK
      have e1 : vs 1 = .bool true := dep_of hD 1 (by rfl)
      obtain ⟨d0, d1, d2⟩ := HCL.out W hB
      clear hK hD ho
      dsimp only
      go_simp
      have h := HK.out _ _ (Below.refl _ _) rfl
      simp only [upd, Nat.reduceEqDiff, reduceIte, e1] at h
      exact h
    | 3, ho =>
      obtain rfl := Option.some.inj ho
      intro vs W K hB hD hK
      have HK := Lib.hid hK
      have e1 : vs 1 = .bool true := dep_of hD 1 (by rfl)
      have e2 : vs 2 = .agg #[Value.slice ao0 g.owner.length cap0, Value.slice ao1 g.prio.length cap1, Value.slice ao2 g.succ.length cap2] := dep_of hD 2 (by rfl)
      clear hK hD ho
      dsimp only
      go_simp
      refine (SolveR_c W _ g (HGW.out W hB) HSl.out).mono ?_
      rintro e W' ⟨v, rfl, hv, hb⟩
      have h := HK.out _ _ hb hv
      simp only [upd, Nat.reduceEqDiff, reduceIte, e1, e2] at h
      exact h
    | 4, ho =>
      obtain rfl := Option.some.inj ho
      intro vs W K hB hD hK
      have HK := Lib.hid hK
      have e1 : vs 1 = .bool true := dep_of hD 1 (by rfl)
      obtain ⟨d0, d1, d2⟩ := HCL.out W hB
      clear hK hD ho
      dsimp only
      go_simp
      have h := HK.out _ _ (Below.refl _ _) rfl
      simp only [upd, Nat.reduceEqDiff, reduceIte, e1] at h
      exact h
    | 5, ho =>
      obtain rfl := Option.some.inj ho
      intro vs W K hB hD hK
      have HK := Lib.hid hK
      have e1 : vs 1 = .bool true := dep_of hD 1 (by rfl)
      have e4 : vs 4 = .agg #[Value.slice ao0 g.owner.length cap0, Value.slice ao1 g.prio.length cap1, Value.slice ao2 g.succ.length cap2] := dep_of hD 4 (by rfl)
      clear hK hD ho
      dsimp only
      go_simp
      refine (RSolve23_c W _ g (HGW.out W hB)).mono ?_
      rintro e W' ⟨v, rfl, hv, hb⟩
      have h := HK.out _ _ hb hv
      simp only [upd, Nat.reduceEqDiff, reduceIte, e1, e4] at h
      exact h
    | 6, ho =>
      obtain rfl := Option.some.inj ho
      intro vs W K hB hD hK
      have HK := Lib.hid hK
      have e1 : vs 1 = .bool true := dep_of hD 1 (by rfl)
      have d3 : IsInts W (vs 3) (solR g) := dep_of hD 3 (by rfl)
      have d5 : IsInts W (vs 5) (solR g) := dep_of hD 5 (by rfl)
      clear hK hD ho
      dsimp only
      go_simp
      refine (Same23_c W _ _ (solR g) d3 d5).mono ?_
      rintro e W' ⟨rfl, hb⟩
      have h := HK.out _ _ hb rfl
      simp only [upd, Nat.reduceEqDiff, reduceIte, e1] at h
      exact h
    | 7, ho =>
      obtain rfl := Option.some.inj ho
      intro vs W K hB hD hK
      have HK := Lib.hid hK
      have e1 : vs 1 = .bool true := dep_of hD 1 (by rfl)
      have e6 : vs 6 = .bool true := dep_of hD 6 (by rfl)
      clear hK hD ho
      dsimp only
      go_simp
      have h := HK.out _ _ (Below.refl _ _) rfl
      simp only [upd, Nat.reduceEqDiff, reduceIte, e1, e6] at h
      exact h
    | 8, ho =>
      obtain rfl := Option.some.inj ho
      intro vs W K hB hD hK
      have HK := Lib.hid hK
      have e7 : vs 7 = .bool true := dep_of hD 7 (by rfl)
      clear hK hD ho
      dsimp only
      go_simp
      have h := HK.out _ _ (Below.refl _ _) rfl
      simp only [upd, Nat.reduceEqDiff, reduceIte, e7] at h
      exact h
    | n + 9, ho => simp at ho
  case fin =>
    intro vs W3 hB hall
    have e8 : vs 8 = .bool true := hall 8 (by decide)
    have hF := (HB3.out.step ((Below.drew (Below.refl _ _)).trans hB)).bl
    clear hall hB
    rw [e8]
    generalize vs 0 = q0
    generalize vs 1 = q1
    generalize vs 2 = q2
    generalize vs 3 = q3
    generalize vs 4 = q4
    generalize vs 5 = q5
    generalize vs 6 = q6
    generalize vs 7 = q7
    clear e8 vs HCL HGW
    go_wp2
    go_ret
    exact ⟨rfl, hF⟩

end Go.Proofs.Ytjhafakkadnfmaa
