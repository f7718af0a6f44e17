/- The walk of WordSame. -/
import Derived.Test.YtgjpdnaeldpdeaaWd42
namespace Go.Proofs.Ytgjpdnaeldpdeaa
open Go.RowKit

theorem atI_form {a : Ls} (h : formB a = true) (i : Nat) : atI a i = atL a i := by
  unfold atI
  rw [if_pos ⟨by omega, h⟩]
  simp
theorem agreeB_iff {a b : Ls} {n : Nat} : agreeB a b n = true ↔ ∀ i : Nat, i < n → atI a i = atI b i := by
  simp [agreeB]
theorem same_agreeB {a b : Ls} (ha : formB a = true) (hb : formB b = true) : agreeB a b 140 = sameI a b := by
  rw [Bool.eq_iff_iff, agreeB_iff, same_agree ha hb]
  exact ⟨fun h i hi => by rw [← atI_form ha, ← atI_form hb]; exact h i hi, fun h i hi => by rw [atI_form ha, atI_form hb]; exact h i hi⟩
theorem normalI_form {a : Ls} (h : formB a = true) : normalI a = normL a := if_pos h
theorem same_normals {a b : Ls} (ha : formB a = true) (hb : formB b = true) : decide (normalI a = normalI b) = sameI a b := by
  rw [normalI_form ha, normalI_form hb]; unfold sameI; rw [ha, hb]; rfl

/-- What the operations of a drawn statement leave. -/
def RSm (a b : Ls) (ix : Nat) (v : Value) (W : World) : Prop :=
  match ix with
  | 0 => v = .bool true
  | 1 => v = .bool true
  | 2 => v = .bool (sameI a b)
  | 3 => LV (a) v W
  | 4 => LV (b) v W
  | 5 => v = .bool (sameI a b)
  | 6 => v = .bool true
  | 7 => v = .bool true
  | 8 => v = .bool true
  | 9 => v = .bool (sameI a b)
  | 10 => LV (a) v W
  | 11 => LV (normalI a) v W
  | 12 => LV (b) v W
  | 13 => LV (normalI b) v W
  | 14 => v = .bool (sameI a b)
  | 15 => v = .bool true
  | 16 => v = .bool true
  | 17 => v = .bool true
  | 18 => v = .bool (sameI a b)
  | 19 => LV (b) v W
  | 20 => LV (a) v W
  | 21 => v = .bool (sameI a b)
  | 22 => v = .bool true
  | 23 => v = .bool true
  | 24 => v = .bool true
  | 25 => LV (a) v W
  | 26 => LV (a) v W
  | 27 => LV (normalI a) v W
  | 28 => v = .bool true
  | 29 => v = .bool true
  | 30 => v = .bool true
  | _ => True
theorem RSm.mono (a b : Ls) (ix : Nat) (v : Value) (W W' : World) (h : RSm a b ix v W) (hb : Below W.heap.size W W') : RSm a b ix v W' := by
  unfold RSm at *
  split at h <;> first | exact h | exact SL.below h hb | exact LV.below h hb | exact RV.below h hb

set_option maxRecDepth 100000 in
set_option maxHeartbeats 8000000 in
theorem Same_w (w : World) (va vb : Value) (a b : Ls) (ha : IsLs w va a) (hb : IsLs w vb b) :
    Calls Try.prog 5 #[va, vb] w (Calm (.bool true) w) := by
  have hmx : Try.prog.follows .mixedOrders = true := by kernel_rfl
  obtain ⟨v0, v1, rfl, h0, h1⟩ := ha
  obtain ⟨v2, v3, rfl, h2, h3⟩ := hb
  obtain ⟨b0, b1, hB⟩ := boxTwo (IsLs.mk h0 h1) (IsLs.mk h2 h3)
  have HA := Lib.hid b0
  have HB := Lib.hid b1
  obtain ⟨⟨a0, c0, -, -, rfl, -⟩, -⟩ := h0
  obtain ⟨⟨a1, c1, -, -, rfl, -⟩, -⟩ := h1
  obtain ⟨⟨a2, c2, -, -, rfl, -⟩, -⟩ := h2
  obtain ⟨⟨a3, c3, -, -, rfl, -⟩, -⟩ := h3
  have HB0 := Lib.hid hB
  go_enter Try.func5, Try.ntmps5
  go_upto_region 1 with (fail)
  generalize ((w.alloc (Obj.cells #[Value.slice a0 a.stem.length c0, Value.slice a1 a.loop.length c1] 24)).alloc (Obj.cells #[Value.slice a2 b.stem.length c2, Value.slice a3 b.loop.length c3] 24)) = w2 at *
  clear b0 b1 hB
  go_wp2_with fail
  refine (head_c w2).mono ?_
  rintro e w3 ⟨rfl, hW⟩
  obtain ⟨k0, k1, hld⟩ := HA.out w3 hW
  go_wp2_with fail
  cases hfa : formB a with
  | false =>
    have s1 := sameI_l (b := b) hfa
    have s2 := sameI_r (a := b) hfa
    refine (hr_formed w3 hld hfa).mono ?_
    rintro e w4 ⟨rfl, hb4⟩
    replace hW := hW.trans (hb4.mono hW.size)
    clear hb4 hld k0 k1
    obtain ⟨k0, k1, hld⟩ := HA.out w4 hW
    obtain ⟨k2, k3, hld2⟩ := HB.out w4 hW
    go_wp2_with fail
    refine (hd_same w4 hld hld2 s1).mono ?_
    rintro e w5 ⟨rfl, hb4⟩
    replace hW := hW.trans (hb4.mono hW.size)
    clear hb4 hld hld2 k0 k1 k2 k3
    obtain ⟨k0, k1, hld⟩ := HA.out w5 hW
    obtain ⟨k2, k3, hld2⟩ := HB.out w5 hW
    go_wp2_with fail
    refine (hd_same w5 hld2 hld s2).mono ?_
    rintro e w6 ⟨rfl, hb4⟩
    have hF := HB0.out.trans ((hW.trans (hb4.mono hW.size)).mono HB0.out.size)
    clear hb4 hld hld2 k0 k1 k2 k3
    go_wp2
    go_ret
    exact ⟨ret_bool rfl, hF⟩
  | true =>
    refine (hr_formed w3 hld hfa).mono ?_
    rintro e w4 ⟨rfl, hb4⟩
    replace hW := hW.trans (hb4.mono hW.size)
    clear hb4 hld k0 k1
    obtain ⟨k0, k1, hld⟩ := HB.out w4 hW
    go_wp2_with fail
    cases hfb : formB b with
    | false =>
      have s1 := sameI_r (a := a) hfb
      have s2 := sameI_l (b := a) hfb
      refine (hr_formed w4 hld hfb).mono ?_
      rintro e w4 ⟨rfl, hb4⟩
      replace hW := hW.trans (hb4.mono hW.size)
      clear hb4 hld k0 k1
      obtain ⟨k0, k1, hld⟩ := HA.out w4 hW
      obtain ⟨k2, k3, hld2⟩ := HB.out w4 hW
      go_wp2_with fail
      refine (hd_same w4 hld hld2 s1).mono ?_
      rintro e w5 ⟨rfl, hb4⟩
      replace hW := hW.trans (hb4.mono hW.size)
      clear hb4 hld hld2 k0 k1 k2 k3
      obtain ⟨k0, k1, hld⟩ := HA.out w5 hW
      obtain ⟨k2, k3, hld2⟩ := HB.out w5 hW
      go_wp2_with fail
      refine (hd_same w5 hld2 hld s2).mono ?_
      rintro e w6 ⟨rfl, hb4⟩
      have hF := HB0.out.trans ((hW.trans (hb4.mono hW.size)).mono HB0.out.size)
      clear hb4 hld hld2 k0 k1 k2 k3
      go_wp2
      go_ret
      exact ⟨ret_bool rfl, hF⟩
    | true =>
      refine (hr_formed w4 hld hfb).mono ?_
      rintro e w5 ⟨rfl, hb4⟩
      replace hW := hW.trans (hb4.mono hW.size)
      have HG := Lib.hid (same_agreeB hfa hfb)
      have HE := Lib.hid (same_normals hfa hfb)
      have HY := Lib.hid (same_symm b a)
      have HN : Hid (sameI a (normalI a) = true) := by show _ = _; rw [normalI_form hfa]; exact same_norm hfa
      clear hb4 hld k0 k1 hfa hfb
      obtain ⟨k0, k1, hld⟩ := HA.out w5 hW
      obtain ⟨k2, k3, hld2⟩ := HB.out w5 hW
      go_wp2_with fail
      refine (hd_same w5 hld hld2 rfl).mono ?_
      rintro e w6 ⟨rfl, hb4⟩
      replace hW := hW.trans (hb4.mono hW.size)
      clear hb4 hld hld2 k0 k1 k2 k3
      go_upto_region 5 with (fail)
      refine region_stable hmx (RSm a b) (fun vs => { tmps := (_ :: _ :: _ :: _ :: vs 30 :: _ :: _ :: _ :: _ :: _ :: _ :: _ :: _ :: _ :: _ :: _ :: _ :: _ :: _ :: _ :: _ :: _ :: _ :: _ :: _ :: _ :: _ :: _ :: _ :: _ :: _ :: _ :: vs 0 :: vs 1 :: vs 2 :: vs 3 :: vs 4 :: vs 5 :: vs 6 :: vs 7 :: vs 8 :: vs 9 :: vs 10 :: vs 11 :: vs 12 :: vs 13 :: vs 14 :: vs 15 :: vs 16 :: vs 17 :: vs 18 :: vs 19 :: vs 20 :: vs 21 :: vs 22 :: vs 23 :: vs 24 :: vs 25 :: vs 26 :: vs 27 :: vs 28 :: vs 29 :: []).toArray, defers := [] }) (fun n => [undef, undef, undef, undef, undef, undef, undef, undef, undef, undef, undef, undef, undef, undef, undef, undef, undef, undef, undef, undef, undef, undef, undef, undef, undef, undef, undef, undef, undef, undef, .bool false].getD n undef) rfl (by kernel_rfl) (RSm.mono a b) ?step ?fin
      case step =>
        intro ix o ho
        match ix, ho with
        | 0, ho =>
          obtain rfl := Option.some.inj ho
          intro vs W K hB hD hK
          have HK := Lib.hid hK
          clear hK hD ho
          dsimp only
          go_simp
          have h := HK.out _ _ (Below.refl _ _) rfl
          simp only [upd, Nat.reduceEqDiff, reduceIte] at h
          exact h
        | 1, ho =>
          obtain rfl := Option.some.inj ho
          intro vs W K hB hD hK
          have HK := Lib.hid hK
          have e0 : vs 0 = .bool true := dep_of hD 0 (by rfl)
          clear hK hD ho
          dsimp only
          go_simp
          have h := HK.out _ _ (Below.refl _ _) rfl
          simp only [upd, Nat.reduceEqDiff, reduceIte, e0] at h
          exact h
        | 2, ho =>
          obtain rfl := Option.some.inj ho
          intro vs W K hB hD hK
          have HK := Lib.hid hK
          have e1 : vs 1 = .bool true := dep_of hD 1 (by rfl)
          clear hK hD ho
          dsimp only
          go_simp
          have h := HK.out _ _ (Below.refl _ _) rfl
          simp only [upd, Nat.reduceEqDiff, reduceIte, e1] at h
          exact h
        | 3, ho =>
          obtain rfl := Option.some.inj ho
          intro vs W K hB hD hK
          have HK := Lib.hid hK
          have e1 : vs 1 = .bool true := dep_of hD 1 (by rfl)
          have hc := hW.trans (((Below.drew (Below.refl _ _)).trans hB).mono hW.size)
          obtain ⟨k0, k1, hld⟩ := HA.out W hc
          clear hK hD ho
          dsimp only
          go_simp
          have h := HK.out _ _ (Below.refl _ _) hld
          simp only [upd, Nat.reduceEqDiff, reduceIte, e1] at h
          exact h
        | 4, ho =>
          obtain rfl := Option.some.inj ho
          intro vs W K hB hD hK
          have HK := Lib.hid hK
          have e1 : vs 1 = .bool true := dep_of hD 1 (by rfl)
          have hc := hW.trans (((Below.drew (Below.refl _ _)).trans hB).mono hW.size)
          obtain ⟨k0, k1, hld⟩ := HB.out W hc
          clear hK hD ho
          dsimp only
          go_simp
          have h := HK.out _ _ (Below.refl _ _) hld
          simp only [upd, Nat.reduceEqDiff, reduceIte, e1] at h
          exact h
        | 5, ho =>
          obtain rfl := Option.some.inj ho
          intro vs W K hB hD hK
          have HK := Lib.hid hK
          have e1 : vs 1 = .bool true := dep_of hD 1 (by rfl)
          have d3 := dep_of hD 3 (by rfl)
          have d4 := dep_of hD 4 (by rfl)
          clear hK hD ho
          dsimp only
          go_simp
          refine (hd_agree W d3 d4 (n := 140) (by omega) HG.out).mono ?_
          rintro e W' ⟨rfl, hb⟩
          have h := HK.out _ _ hb rfl
          simp only [upd, Nat.reduceEqDiff, reduceIte, e1] at h
          exact h
        | 6, ho =>
          obtain rfl := Option.some.inj ho
          intro vs W K hB hD hK
          have HK := Lib.hid hK
          have e1 : vs 1 = .bool true := dep_of hD 1 (by rfl)
          have e2 : vs 2 = .bool (sameI a b) := dep_of hD 2 (by rfl)
          have e5 : vs 5 = .bool (sameI a b) := dep_of hD 5 (by rfl)
          clear hK hD ho
          dsimp only
          go_simp
          have h := HK.out _ _ (Below.refl _ _) rfl
          simp only [upd, Nat.reduceEqDiff, reduceIte, e1, e2, e5] at h
          exact h
        | 7, ho =>
          obtain rfl := Option.some.inj ho
          intro vs W K hB hD hK
          have HK := Lib.hid hK
          have e1 : vs 1 = .bool true := dep_of hD 1 (by rfl)
          have e6 : vs 6 = .bool true := dep_of hD 6 (by rfl)
          clear hK hD ho
          dsimp only
          go_simp
          have h := HK.out _ _ (Below.refl _ _) rfl
          simp only [upd, Nat.reduceEqDiff, reduceIte, e1, e6] at h
          exact h
        | 8, ho =>
          obtain rfl := Option.some.inj ho
          intro vs W K hB hD hK
          have HK := Lib.hid hK
          have e7 : vs 7 = .bool true := dep_of hD 7 (by rfl)
          clear hK hD ho
          dsimp only
          go_simp
          have h := HK.out _ _ (Below.refl _ _) rfl
          simp only [upd, Nat.reduceEqDiff, reduceIte, e7] at h
          exact h
        | 9, ho =>
          obtain rfl := Option.some.inj ho
          intro vs W K hB hD hK
          have HK := Lib.hid hK
          have e8 : vs 8 = .bool true := dep_of hD 8 (by rfl)
          clear hK hD ho
          dsimp only
          go_simp
          have h := HK.out _ _ (Below.refl _ _) rfl
          simp only [upd, Nat.reduceEqDiff, reduceIte, e8] at h
          exact h
        | 10, ho =>
          obtain rfl := Option.some.inj ho
          intro vs W K hB hD hK
          have HK := Lib.hid hK
          have e8 : vs 8 = .bool true := dep_of hD 8 (by rfl)
          have hc := hW.trans (((Below.drew (Below.refl _ _)).trans hB).mono hW.size)
          obtain ⟨k0, k1, hld⟩ := HA.out W hc
          clear hK hD ho
          dsimp only
          go_simp
          have h := HK.out _ _ (Below.refl _ _) hld
          simp only [upd, Nat.reduceEqDiff, reduceIte, e8] at h
          exact h
        | 11, ho =>
          obtain rfl := Option.some.inj ho
          intro vs W K hB hD hK
          have HK := Lib.hid hK
          have e8 : vs 8 = .bool true := dep_of hD 8 (by rfl)
          have d10 := dep_of hD 10 (by rfl)
          clear hK hD ho
          dsimp only
          go_simp
          refine (hd_normal W d10 rfl).mono ?_
          rintro e W' ⟨v, rfl, hv, hb⟩
          have h := HK.out _ _ hb hv
          simp only [upd, Nat.reduceEqDiff, reduceIte, e8] at h
          exact h
        | 12, ho =>
          obtain rfl := Option.some.inj ho
          intro vs W K hB hD hK
          have HK := Lib.hid hK
          have e8 : vs 8 = .bool true := dep_of hD 8 (by rfl)
          have hc := hW.trans (((Below.drew (Below.refl _ _)).trans hB).mono hW.size)
          obtain ⟨k0, k1, hld⟩ := HB.out W hc
          clear hK hD ho
          dsimp only
          go_simp
          have h := HK.out _ _ (Below.refl _ _) hld
          simp only [upd, Nat.reduceEqDiff, reduceIte, e8] at h
          exact h
        | 13, ho =>
          obtain rfl := Option.some.inj ho
          intro vs W K hB hD hK
          have HK := Lib.hid hK
          have e8 : vs 8 = .bool true := dep_of hD 8 (by rfl)
          have d12 := dep_of hD 12 (by rfl)
          clear hK hD ho
          dsimp only
          go_simp
          refine (hd_normal W d12 rfl).mono ?_
          rintro e W' ⟨v, rfl, hv, hb⟩
          have h := HK.out _ _ hb hv
          simp only [upd, Nat.reduceEqDiff, reduceIte, e8] at h
          exact h
        | 14, ho =>
          obtain rfl := Option.some.inj ho
          intro vs W K hB hD hK
          have HK := Lib.hid hK
          have e8 : vs 8 = .bool true := dep_of hD 8 (by rfl)
          have d11 := dep_of hD 11 (by rfl)
          have d13 := dep_of hD 13 (by rfl)
          clear hK hD ho
          dsimp only
          go_simp
          refine (hd_eqg W d11 d13 HE.out).mono ?_
          rintro e W' ⟨rfl, hb⟩
          have h := HK.out _ _ hb rfl
          simp only [upd, Nat.reduceEqDiff, reduceIte, e8] at h
          exact h
        | 15, ho =>
          obtain rfl := Option.some.inj ho
          intro vs W K hB hD hK
          have HK := Lib.hid hK
          have e8 : vs 8 = .bool true := dep_of hD 8 (by rfl)
          have e9 : vs 9 = .bool (sameI a b) := dep_of hD 9 (by rfl)
          have e14 : vs 14 = .bool (sameI a b) := dep_of hD 14 (by rfl)
          clear hK hD ho
          dsimp only
          go_simp
          have h := HK.out _ _ (Below.refl _ _) rfl
          simp only [upd, Nat.reduceEqDiff, reduceIte, e8, e9, e14] at h
          exact h
        | 16, ho =>
          obtain rfl := Option.some.inj ho
          intro vs W K hB hD hK
          have HK := Lib.hid hK
          have e8 : vs 8 = .bool true := dep_of hD 8 (by rfl)
          have e15 : vs 15 = .bool true := dep_of hD 15 (by rfl)
          clear hK hD ho
          dsimp only
          go_simp
          have h := HK.out _ _ (Below.refl _ _) rfl
          simp only [upd, Nat.reduceEqDiff, reduceIte, e8, e15] at h
          exact h
        | 17, ho =>
          obtain rfl := Option.some.inj ho
          intro vs W K hB hD hK
          have HK := Lib.hid hK
          have e16 : vs 16 = .bool true := dep_of hD 16 (by rfl)
          clear hK hD ho
          dsimp only
          go_simp
          have h := HK.out _ _ (Below.refl _ _) rfl
          simp only [upd, Nat.reduceEqDiff, reduceIte, e16] at h
          exact h
        | 18, ho =>
          obtain rfl := Option.some.inj ho
          intro vs W K hB hD hK
          have HK := Lib.hid hK
          have e17 : vs 17 = .bool true := dep_of hD 17 (by rfl)
          clear hK hD ho
          dsimp only
          go_simp
          have h := HK.out _ _ (Below.refl _ _) rfl
          simp only [upd, Nat.reduceEqDiff, reduceIte, e17] at h
          exact h
        | 19, ho =>
          obtain rfl := Option.some.inj ho
          intro vs W K hB hD hK
          have HK := Lib.hid hK
          have e17 : vs 17 = .bool true := dep_of hD 17 (by rfl)
          have hc := hW.trans (((Below.drew (Below.refl _ _)).trans hB).mono hW.size)
          obtain ⟨k0, k1, hld⟩ := HB.out W hc
          clear hK hD ho
          dsimp only
          go_simp
          have h := HK.out _ _ (Below.refl _ _) hld
          simp only [upd, Nat.reduceEqDiff, reduceIte, e17] at h
          exact h
        | 20, ho =>
          obtain rfl := Option.some.inj ho
          intro vs W K hB hD hK
          have HK := Lib.hid hK
          have e17 : vs 17 = .bool true := dep_of hD 17 (by rfl)
          have hc := hW.trans (((Below.drew (Below.refl _ _)).trans hB).mono hW.size)
          obtain ⟨k0, k1, hld⟩ := HA.out W hc
          clear hK hD ho
          dsimp only
          go_simp
          have h := HK.out _ _ (Below.refl _ _) hld
          simp only [upd, Nat.reduceEqDiff, reduceIte, e17] at h
          exact h
        | 21, ho =>
          obtain rfl := Option.some.inj ho
          intro vs W K hB hD hK
          have HK := Lib.hid hK
          have e17 : vs 17 = .bool true := dep_of hD 17 (by rfl)
          have d19 := dep_of hD 19 (by rfl)
          have d20 := dep_of hD 20 (by rfl)
          clear hK hD ho
          dsimp only
          go_simp
          refine (hd_same W d19 d20 HY.out).mono ?_
          rintro e W' ⟨rfl, hb⟩
          have h := HK.out _ _ hb rfl
          simp only [upd, Nat.reduceEqDiff, reduceIte, e17] at h
          exact h
        | 22, ho =>
          obtain rfl := Option.some.inj ho
          intro vs W K hB hD hK
          have HK := Lib.hid hK
          have e17 : vs 17 = .bool true := dep_of hD 17 (by rfl)
          have e18 : vs 18 = .bool (sameI a b) := dep_of hD 18 (by rfl)
          have e21 : vs 21 = .bool (sameI a b) := dep_of hD 21 (by rfl)
          clear hK hD ho
          dsimp only
          go_simp
          have h := HK.out _ _ (Below.refl _ _) rfl
          simp only [upd, Nat.reduceEqDiff, reduceIte, e17, e18, e21] at h
          exact h
        | 23, ho =>
          obtain rfl := Option.some.inj ho
          intro vs W K hB hD hK
          have HK := Lib.hid hK
          have e17 : vs 17 = .bool true := dep_of hD 17 (by rfl)
          have e22 : vs 22 = .bool true := dep_of hD 22 (by rfl)
          clear hK hD ho
          dsimp only
          go_simp
          have h := HK.out _ _ (Below.refl _ _) rfl
          simp only [upd, Nat.reduceEqDiff, reduceIte, e17, e22] at h
          exact h
        | 24, ho =>
          obtain rfl := Option.some.inj ho
          intro vs W K hB hD hK
          have HK := Lib.hid hK
          have e23 : vs 23 = .bool true := dep_of hD 23 (by rfl)
          clear hK hD ho
          dsimp only
          go_simp
          have h := HK.out _ _ (Below.refl _ _) rfl
          simp only [upd, Nat.reduceEqDiff, reduceIte, e23] at h
          exact h
        | 25, ho =>
          obtain rfl := Option.some.inj ho
          intro vs W K hB hD hK
          have HK := Lib.hid hK
          have e24 : vs 24 = .bool true := dep_of hD 24 (by rfl)
          have hc := hW.trans (((Below.drew (Below.refl _ _)).trans hB).mono hW.size)
          obtain ⟨k0, k1, hld⟩ := HA.out W hc
          clear hK hD ho
          dsimp only
          go_simp
          have h := HK.out _ _ (Below.refl _ _) hld
          simp only [upd, Nat.reduceEqDiff, reduceIte, e24] at h
          exact h
        | 26, ho =>
          obtain rfl := Option.some.inj ho
          intro vs W K hB hD hK
          have HK := Lib.hid hK
          have e24 : vs 24 = .bool true := dep_of hD 24 (by rfl)
          have hc := hW.trans (((Below.drew (Below.refl _ _)).trans hB).mono hW.size)
          obtain ⟨k0, k1, hld⟩ := HA.out W hc
          clear hK hD ho
          dsimp only
          go_simp
          have h := HK.out _ _ (Below.refl _ _) hld
          simp only [upd, Nat.reduceEqDiff, reduceIte, e24] at h
          exact h
        | 27, ho =>
          obtain rfl := Option.some.inj ho
          intro vs W K hB hD hK
          have HK := Lib.hid hK
          have e24 : vs 24 = .bool true := dep_of hD 24 (by rfl)
          have d26 := dep_of hD 26 (by rfl)
          clear hK hD ho
          dsimp only
          go_simp
          refine (hd_normal W d26 rfl).mono ?_
          rintro e W' ⟨v, rfl, hv, hb⟩
          have h := HK.out _ _ hb hv
          simp only [upd, Nat.reduceEqDiff, reduceIte, e24] at h
          exact h
        | 28, ho =>
          obtain rfl := Option.some.inj ho
          intro vs W K hB hD hK
          have HK := Lib.hid hK
          have e24 : vs 24 = .bool true := dep_of hD 24 (by rfl)
          have d25 := dep_of hD 25 (by rfl)
          have d27 := dep_of hD 27 (by rfl)
          clear hK hD ho
          dsimp only
          go_simp
          refine (hd_same W d25 d27 HN.out).mono ?_
          rintro e W' ⟨rfl, hb⟩
          have h := HK.out _ _ hb rfl
          simp only [upd, Nat.reduceEqDiff, reduceIte, e24] at h
          exact h
        | 29, ho =>
          obtain rfl := Option.some.inj ho
          intro vs W K hB hD hK
          have HK := Lib.hid hK
          have e24 : vs 24 = .bool true := dep_of hD 24 (by rfl)
          have e28 : vs 28 = .bool true := dep_of hD 28 (by rfl)
          clear hK hD ho
          dsimp only
          go_simp
          have h := HK.out _ _ (Below.refl _ _) rfl
          simp only [upd, Nat.reduceEqDiff, reduceIte, e24, e28] at h
          exact h
        | 30, ho =>
          obtain rfl := Option.some.inj ho
          intro vs W K hB hD hK
          have HK := Lib.hid hK
          have e29 : vs 29 = .bool true := dep_of hD 29 (by rfl)
          clear hK hD ho
          dsimp only
          go_simp
          have h := HK.out _ _ (Below.refl _ _) rfl
          simp only [upd, Nat.reduceEqDiff, reduceIte, e29] at h
          exact h
        | n + 31, ho => simp at ho
      case fin =>
        intro vs W3 hB hall
        have e : vs 30 = .bool true := hall 30 (by decide)
        have hF := HB0.out.trans ((hW.trans (((Below.drew (Below.refl _ _)).trans hB).mono hW.size)).mono HB0.out.size)
        clear hall hB hW
        rw [e]
        clear e
        generalize vs 0 = q0
        generalize vs 1 = q1
        generalize vs 2 = q2
        generalize vs 3 = q3
        generalize vs 4 = q4
        generalize vs 5 = q5
        generalize vs 6 = q6
        generalize vs 7 = q7
        generalize vs 8 = q8
        generalize vs 9 = q9
        generalize vs 10 = q10
        generalize vs 11 = q11
        generalize vs 12 = q12
        generalize vs 13 = q13
        generalize vs 14 = q14
        generalize vs 15 = q15
        generalize vs 16 = q16
        generalize vs 17 = q17
        generalize vs 18 = q18
        generalize vs 19 = q19
        generalize vs 20 = q20
        generalize vs 21 = q21
        generalize vs 22 = q22
        generalize vs 23 = q23
        generalize vs 24 = q24
        generalize vs 25 = q25
        generalize vs 26 = q26
        generalize vs 27 = q27
        generalize vs 28 = q28
        generalize vs 29 = q29
        clear vs
        go_wp2
        go_ret
        exact ⟨ret_bool rfl, hF⟩

end Go.Proofs.Ytgjpdnaeldpdeaa
