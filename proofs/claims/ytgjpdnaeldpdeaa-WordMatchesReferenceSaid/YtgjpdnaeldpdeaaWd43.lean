/- The walk of WordMatchesReference. -/
import Derived.Test.YtgjpdnaeldpdeaaWd42
namespace Go.Proofs.Ytgjpdnaeldpdeaa
open Go.RowKit

/-- What the operations of a drawn statement leave. -/
def RM4 (a b : Ls) (lt i : Int) (ix : Nat) (v : Value) (W : World) : Prop :=
  match ix with
  | 0 => v = .int .i64 lt
  | 1 => LV (a) v W
  | 2 => v = .bool (validI lt a)
  | 3 => v = .int .i64 lt
  | 4 => LV (a) v W
  | 5 => v = .bool (validI lt a)
  | 6 => v = .bool true
  | 7 => v = .bool true
  | 8 => LV (a) v W
  | 9 => v = .int .i64 i
  | 10 => v = .int .i64 (atI a i)
  | 11 => LV (a) v W
  | 12 => v = .int .i64 i
  | 13 => v = .int .i64 (atI a i)
  | 14 => v = .bool true
  | 15 => v = .bool true
  | 16 => v = .bool true
  | 17 => LV (a) v W
  | 18 => v = .int .i64 i
  | 19 => SL (prefixI a i) v W
  | 20 => LV (a) v W
  | 21 => v = .int .i64 i
  | 22 => SL (prefixI a i) v W
  | 23 => v = .bool true
  | 24 => v = .bool true
  | 25 => v = .bool true
  | 26 => LV (a) v W
  | 27 => LV (normalI a) v W
  | 28 => LV (a) v W
  | 29 => LV (normalI a) v W
  | 30 => v = .bool true
  | 31 => v = .bool true
  | 32 => v = .bool true
  | 33 => LV (a) v W
  | 34 => LV (b) v W
  | 35 => v = .bool (sameI a b)
  | 36 => LV (a) v W
  | 37 => LV (b) v W
  | 38 => v = .bool (sameI a b)
  | 39 => v = .bool true
  | 40 => v = .bool true
  | 41 => v = .bool true
  | _ => True
theorem RM4.mono (a b : Ls) (lt i : Int) (ix : Nat) (v : Value) (W W' : World) (h : RM4 a b lt i ix v W) (hb : Below W.heap.size W W') : RM4 a b lt i ix v W' := by
  unfold RM4 at *
  split at h <;> first | exact h | exact SL.below h hb | exact LV.below h hb | exact RV.below h hb

/-- What the operations of a drawn statement leave. -/
def RM5 (a b : Ls) (i : Int) (l : List Int) (t : List (List Int)) (al at0 : Option Addr) (cl ct : Nat) (ix : Nat) (v : Value) (W : World) : Prop :=
  match ix with
  | 0 => v = .bool true
  | 1 => v = .bool true
  | 2 => v = .bool true
  | 3 => v = .bool true
  | 4 => v = .bool true
  | 5 => LV (a) v W
  | 6 => v = .int .i64 i
  | 7 => LV (suffixI a i) v W
  | 8 => LV (a) v W
  | 9 => v = .int .i64 i
  | 10 => LV (suffixI a i) v W
  | 11 => v = .bool true
  | 12 => v = .bool true
  | 13 => v = .bool true
  | 14 => v = .slice al l.length cl
  | 15 => LV (a) v W
  | 16 => LV (pushI l a) v W
  | 17 => v = .slice al l.length cl
  | 18 => LV (a) v W
  | 19 => LV (pushI l a) v W
  | 20 => v = .bool true
  | 21 => v = .bool true
  | 22 => v = .bool true
  | 23 => LV (a) v W
  | 24 => LV (b) v W
  | 25 => v = .slice at0 t.length ct
  | 26 => LV (zipI a b t) v W
  | 27 => LV (a) v W
  | 28 => LV (b) v W
  | 29 => v = .slice at0 t.length ct
  | 30 => LV (zipI a b t) v W
  | 31 => v = .bool true
  | 32 => v = .bool true
  | 33 => v = .bool true
  | _ => True
theorem RM5.mono (a b : Ls) (i : Int) (l : List Int) (t : List (List Int)) (al at0 : Option Addr) (cl ct : Nat) (ix : Nat) (v : Value) (W W' : World) (h : RM5 a b i l t al at0 cl ct ix v W) (hb : Below W.heap.size W W') : RM5 a b i l t al at0 cl ct ix v W' := by
  unfold RM5 at *
  split at h <;> first | exact h | exact SL.below h hb | exact LV.below h hb | exact RV.below h hb

set_option maxRecDepth 100000 in
set_option maxHeartbeats 8000000 in
theorem Match_c (w : World) (va vb vl vt : Value) (a b : Ls) (lt i : Int) (l : List Int) (t : List (List Int)) (ha : IsLs w va a) (hb : IsLs w vb b) (hl : IsInts w vl l) (ht : IsRows w vt t) (hi : I64 i) :
    Calls Try.prog 3 #[va, vb, .int .i64 lt, .int .i64 i, vl, vt] w (Calm (.bool true) w) := by
  have hmx : Try.prog.follows .mixedOrders = true := by kernel_rfl
  have HI := Lib.hid hi
  obtain ⟨v0, v1, rfl, h0, h1⟩ := ha
  obtain ⟨v2, v3, rfl, h2, h3⟩ := hb
  obtain ⟨b0, b1, hB⟩ := boxTwo (IsLs.mk h0 h1) (IsLs.mk h2 h3)
  have HA := Lib.hid b0
  have HB := Lib.hid b1
  obtain ⟨⟨a0, c0, -, -, rfl, -⟩, -⟩ := h0
  obtain ⟨⟨a1, c1, -, -, rfl, -⟩, -⟩ := h1
  obtain ⟨⟨a2, c2, -, -, rfl, -⟩, -⟩ := h2
  obtain ⟨⟨a3, c3, -, -, rfl, -⟩, -⟩ := h3
  have hl2 := hl.below hB
  have ht2 := ht.below hB
  obtain ⟨⟨al, cl, -, -, rfl, -⟩, -⟩ := hl
  obtain ⟨_, ⟨at0, ct, -, -, rfl, -⟩, -⟩ := ht
  have HB0 := Lib.hid hB
  go_enter Try.func3, Try.ntmps3
  go_upto_region 1 with (fail)
  generalize ((w.alloc (Obj.cells #[Value.slice a0 a.stem.length c0, Value.slice a1 a.loop.length c1] 24)).alloc (Obj.cells #[Value.slice a2 b.stem.length c2, Value.slice a3 b.loop.length c3] 24)) = w2 at *
  have HSL : Hid (∀ W, Below w2.heap.size w2 W → SL l (.slice al l.length cl) W) := fun W hW => SL.of (hl2.below hW)
  have HRT : Hid (∀ W, Below w2.heap.size w2 W → RV t (.slice at0 t.length ct) W) := fun W hW => IsRows.below ht2 hW
  clear b0 b1 hB hl2 ht2 hi
  go_wp2_with fail
  refine (head_c w2).mono ?_
  rintro e w3 ⟨rfl, hW⟩
  obtain ⟨k0, k1, hld⟩ := HA.out w3 hW
  go_wp2_with fail
  cases hsa : shortB a with
  | false =>
    refine (hd_short w3 hld hsa).mono ?_
    rintro e w4 ⟨rfl, hb4⟩
    have hW4 := HB0.out.trans ((hW.trans (hb4.mono hW.size)).mono HB0.out.size)
    go_wp2
    go_ret
    exact ⟨ret_bool rfl, hW4⟩
  | true =>
    refine (hd_short w3 hld hsa).mono ?_
    rintro e w4 ⟨rfl, hb4⟩
    replace hW := hW.trans (hb4.mono hW.size)
    clear hb4 hld k0 k1
    obtain ⟨k0, k1, hld⟩ := HB.out w4 hW
    go_wp2_with fail
    cases hsb : shortB b with
    | false =>
      refine (hd_short w4 hld hsb).mono ?_
      rintro e w5 ⟨rfl, hb4⟩
      have hW4 := HB0.out.trans ((hW.trans (hb4.mono hW.size)).mono HB0.out.size)
      go_wp2
      go_ret
      exact ⟨ret_bool rfl, hW4⟩
    | true =>
      refine (hd_short w4 hld hsb).mono ?_
      rintro e w5 ⟨rfl, hb4⟩
      replace hW := hW.trans (hb4.mono hW.size)
      clear hb4 hld k0 k1 hsa hsb
      have hF := HB0.out.trans (hW.mono HB0.out.size)
      by_cases hL : l.length ≤ 80
      case neg =>
        have hd : (80 : Int) < l.length := by omega
        go_wp2
        go_ret
        exact ⟨ret_bool rfl, hF⟩
      have hd : ¬ (80 : Int) < l.length := by omega
      by_cases hT : t.length ≤ 64
      case neg =>
        have hd : (64 : Int) < t.length := by omega
        go_wp2
        go_ret
        exact ⟨ret_bool rfl, hF⟩
      have hd2 : ¬ (64 : Int) < t.length := by omega
      clear hF
      go_upto_region 4 with (fail)
      refine region_stable hmx (RM4 a b lt i) (fun vs => { tmps := (_ :: _ :: _ :: _ :: _ :: _ :: _ :: _ :: _ :: _ :: _ :: _ :: _ :: _ :: vs 41 :: _ :: _ :: _ :: _ :: _ :: _ :: _ :: _ :: _ :: _ :: _ :: _ :: _ :: _ :: _ :: _ :: _ :: _ :: _ :: _ :: vs 0 :: vs 1 :: vs 2 :: vs 3 :: vs 4 :: vs 5 :: vs 6 :: vs 7 :: vs 8 :: vs 9 :: vs 10 :: vs 11 :: vs 12 :: vs 13 :: vs 14 :: vs 15 :: vs 16 :: vs 17 :: vs 18 :: vs 19 :: vs 20 :: vs 21 :: vs 22 :: vs 23 :: vs 24 :: vs 25 :: vs 26 :: vs 27 :: vs 28 :: vs 29 :: vs 30 :: vs 31 :: vs 32 :: vs 33 :: vs 34 :: vs 35 :: vs 36 :: vs 37 :: vs 38 :: vs 39 :: vs 40 :: _ :: _ :: _ :: _ :: _ :: _ :: _ :: _ :: _ :: _ :: _ :: _ :: _ :: _ :: _ :: _ :: _ :: _ :: _ :: _ :: _ :: _ :: _ :: _ :: _ :: _ :: _ :: _ :: _ :: _ :: _ :: _ :: _ :: []).toArray, defers := [] }) (fun _ => undef) rfl (by kernel_rfl) (RM4.mono a b lt i) ?step ?fin
      case step =>
        intro ix o ho
        match ix, ho with
        | 0, ho =>
          obtain rfl := Option.some.inj ho
          intro vs W K hB hD hK
          have HK := Lib.hid hK
          clear hK hD ho
          dsimp only
          go_simp
          have h := HK.out _ _ (Below.refl _ _) rfl
          simp only [upd, Nat.reduceEqDiff, reduceIte] at h
          exact h
        | 1, ho =>
          obtain rfl := Option.some.inj ho
          intro vs W K hB hD hK
          have HK := Lib.hid hK
          have hc := hW.trans (((Below.drew (Below.refl _ _)).trans hB).mono hW.size)
          obtain ⟨k0, k1, hld⟩ := HA.out W hc
          clear hK hD ho
          dsimp only
          go_simp
          have h := HK.out _ _ (Below.refl _ _) hld
          simp only [upd, Nat.reduceEqDiff, reduceIte] at h
          exact h
        | 2, ho =>
          obtain rfl := Option.some.inj ho
          intro vs W K hB hD hK
          have HK := Lib.hid hK
          have e0 : vs 0 = .int .i64 lt := dep_of hD 0 (by rfl)
          have d1 := dep_of hD 1 (by rfl)
          clear hK hD ho
          dsimp only
          go_simp
          refine (hd_valid W d1 rfl).mono ?_
          rintro e W' ⟨rfl, hb⟩
          have h := HK.out _ _ hb rfl
          simp only [upd, Nat.reduceEqDiff, reduceIte, e0] at h
          exact h
        | 3, ho =>
          obtain rfl := Option.some.inj ho
          intro vs W K hB hD hK
          have HK := Lib.hid hK
          clear hK hD ho
          dsimp only
          go_simp
          have h := HK.out _ _ (Below.refl _ _) rfl
          simp only [upd, Nat.reduceEqDiff, reduceIte] at h
          exact h
        | 4, ho =>
          obtain rfl := Option.some.inj ho
          intro vs W K hB hD hK
          have HK := Lib.hid hK
          have hc := hW.trans (((Below.drew (Below.refl _ _)).trans hB).mono hW.size)
          obtain ⟨k0, k1, hld⟩ := HA.out W hc
          clear hK hD ho
          dsimp only
          go_simp
          have h := HK.out _ _ (Below.refl _ _) hld
          simp only [upd, Nat.reduceEqDiff, reduceIte] at h
          exact h
        | 5, ho =>
          obtain rfl := Option.some.inj ho
          intro vs W K hB hD hK
          have HK := Lib.hid hK
          have e3 : vs 3 = .int .i64 lt := dep_of hD 3 (by rfl)
          have d4 := dep_of hD 4 (by rfl)
          clear hK hD ho
          dsimp only
          go_simp
          refine (hr_valid W d4 rfl).mono ?_
          rintro e W' ⟨rfl, hb⟩
          have h := HK.out _ _ hb rfl
          simp only [upd, Nat.reduceEqDiff, reduceIte, e3] at h
          exact h
        | 6, ho =>
          obtain rfl := Option.some.inj ho
          intro vs W K hB hD hK
          have HK := Lib.hid hK
          have e2 : vs 2 = .bool (validI lt a) := dep_of hD 2 (by rfl)
          have e5 : vs 5 = .bool (validI lt a) := dep_of hD 5 (by rfl)
          clear hK hD ho
          dsimp only
          go_simp
          have h := HK.out _ _ (Below.refl _ _) rfl
          simp only [upd, Nat.reduceEqDiff, reduceIte, e2, e5] at h
          exact h
        | 7, ho =>
          obtain rfl := Option.some.inj ho
          intro vs W K hB hD hK
          have HK := Lib.hid hK
          have e6 : vs 6 = .bool true := dep_of hD 6 (by rfl)
          clear hK hD ho
          dsimp only
          go_simp
          have h := HK.out _ _ (Below.refl _ _) rfl
          simp only [upd, Nat.reduceEqDiff, reduceIte, e6] at h
          exact h
        | 8, ho =>
          obtain rfl := Option.some.inj ho
          intro vs W K hB hD hK
          have HK := Lib.hid hK
          have e7 : vs 7 = .bool true := dep_of hD 7 (by rfl)
          have hc := hW.trans (((Below.drew (Below.refl _ _)).trans hB).mono hW.size)
          obtain ⟨k0, k1, hld⟩ := HA.out W hc
          clear hK hD ho
          dsimp only
          go_simp
          have h := HK.out _ _ (Below.refl _ _) hld
          simp only [upd, Nat.reduceEqDiff, reduceIte, e7] at h
          exact h
        | 9, ho =>
          obtain rfl := Option.some.inj ho
          intro vs W K hB hD hK
          have HK := Lib.hid hK
          have e7 : vs 7 = .bool true := dep_of hD 7 (by rfl)
          clear hK hD ho
          dsimp only
          go_simp
          have h := HK.out _ _ (Below.refl _ _) rfl
          simp only [upd, Nat.reduceEqDiff, reduceIte, e7] at h
          exact h
        | 10, ho =>
          obtain rfl := Option.some.inj ho
          intro vs W K hB hD hK
          have HK := Lib.hid hK
          have e7 : vs 7 = .bool true := dep_of hD 7 (by rfl)
          have d8 := dep_of hD 8 (by rfl)
          have e9 : vs 9 = .int .i64 i := dep_of hD 9 (by rfl)
          clear hK hD ho
          dsimp only
          go_simp
          refine (hd_at W d8 HI.out rfl).mono ?_
          rintro e W' ⟨rfl, hb⟩
          have h := HK.out _ _ hb rfl
          simp only [upd, Nat.reduceEqDiff, reduceIte, e7, e9] at h
          exact h
        | 11, ho =>
          obtain rfl := Option.some.inj ho
          intro vs W K hB hD hK
          have HK := Lib.hid hK
          have e7 : vs 7 = .bool true := dep_of hD 7 (by rfl)
          have hc := hW.trans (((Below.drew (Below.refl _ _)).trans hB).mono hW.size)
          obtain ⟨k0, k1, hld⟩ := HA.out W hc
          clear hK hD ho
          dsimp only
          go_simp
          have h := HK.out _ _ (Below.refl _ _) hld
          simp only [upd, Nat.reduceEqDiff, reduceIte, e7] at h
          exact h
        | 12, ho =>
          obtain rfl := Option.some.inj ho
          intro vs W K hB hD hK
          have HK := Lib.hid hK
          have e7 : vs 7 = .bool true := dep_of hD 7 (by rfl)
          clear hK hD ho
          dsimp only
          go_simp
          have h := HK.out _ _ (Below.refl _ _) rfl
          simp only [upd, Nat.reduceEqDiff, reduceIte, e7] at h
          exact h
        | 13, ho =>
          obtain rfl := Option.some.inj ho
          intro vs W K hB hD hK
          have HK := Lib.hid hK
          have e7 : vs 7 = .bool true := dep_of hD 7 (by rfl)
          have d11 := dep_of hD 11 (by rfl)
          have e12 : vs 12 = .int .i64 i := dep_of hD 12 (by rfl)
          clear hK hD ho
          dsimp only
          go_simp
          refine (hr_at W d11 HI.out rfl).mono ?_
          rintro e W' ⟨rfl, hb⟩
          have h := HK.out _ _ hb rfl
          simp only [upd, Nat.reduceEqDiff, reduceIte, e7, e12] at h
          exact h
        | 14, ho =>
          obtain rfl := Option.some.inj ho
          intro vs W K hB hD hK
          have HK := Lib.hid hK
          have e7 : vs 7 = .bool true := dep_of hD 7 (by rfl)
          have e10 : vs 10 = .int .i64 (atI a i) := dep_of hD 10 (by rfl)
          have e13 : vs 13 = .int .i64 (atI a i) := dep_of hD 13 (by rfl)
          clear hK hD ho
          dsimp only
          go_simp
          have h := HK.out _ _ (Below.refl _ _) rfl
          simp only [upd, Nat.reduceEqDiff, reduceIte, e7, e10, e13] at h
          exact h
        | 15, ho =>
          obtain rfl := Option.some.inj ho
          intro vs W K hB hD hK
          have HK := Lib.hid hK
          have e7 : vs 7 = .bool true := dep_of hD 7 (by rfl)
          have e14 : vs 14 = .bool true := dep_of hD 14 (by rfl)
          clear hK hD ho
          dsimp only
          go_simp
          have h := HK.out _ _ (Below.refl _ _) rfl
          simp only [upd, Nat.reduceEqDiff, reduceIte, e7, e14] at h
          exact h
        | 16, ho =>
          obtain rfl := Option.some.inj ho
          intro vs W K hB hD hK
          have HK := Lib.hid hK
          have e15 : vs 15 = .bool true := dep_of hD 15 (by rfl)
          clear hK hD ho
          dsimp only
          go_simp
          have h := HK.out _ _ (Below.refl _ _) rfl
          simp only [upd, Nat.reduceEqDiff, reduceIte, e15] at h
          exact h
        | 17, ho =>
          obtain rfl := Option.some.inj ho
          intro vs W K hB hD hK
          have HK := Lib.hid hK
          have e16 : vs 16 = .bool true := dep_of hD 16 (by rfl)
          have hc := hW.trans (((Below.drew (Below.refl _ _)).trans hB).mono hW.size)
          obtain ⟨k0, k1, hld⟩ := HA.out W hc
          clear hK hD ho
          dsimp only
          go_simp
          have h := HK.out _ _ (Below.refl _ _) hld
          simp only [upd, Nat.reduceEqDiff, reduceIte, e16] at h
          exact h
        | 18, ho =>
          obtain rfl := Option.some.inj ho
          intro vs W K hB hD hK
          have HK := Lib.hid hK
          have e16 : vs 16 = .bool true := dep_of hD 16 (by rfl)
          clear hK hD ho
          dsimp only
          go_simp
          have h := HK.out _ _ (Below.refl _ _) rfl
          simp only [upd, Nat.reduceEqDiff, reduceIte, e16] at h
          exact h
        | 19, ho =>
          obtain rfl := Option.some.inj ho
          intro vs W K hB hD hK
          have HK := Lib.hid hK
          have e16 : vs 16 = .bool true := dep_of hD 16 (by rfl)
          have d17 := dep_of hD 17 (by rfl)
          have e18 : vs 18 = .int .i64 i := dep_of hD 18 (by rfl)
          clear hK hD ho
          dsimp only
          go_simp
          refine (hd_prefix W d17 rfl).mono ?_
          rintro e W' ⟨v, rfl, hv, hb⟩
          have h := HK.out _ _ hb hv
          simp only [upd, Nat.reduceEqDiff, reduceIte, e16, e18] at h
          exact h
        | 20, ho =>
          obtain rfl := Option.some.inj ho
          intro vs W K hB hD hK
          have HK := Lib.hid hK
          have e16 : vs 16 = .bool true := dep_of hD 16 (by rfl)
          have hc := hW.trans (((Below.drew (Below.refl _ _)).trans hB).mono hW.size)
          obtain ⟨k0, k1, hld⟩ := HA.out W hc
          clear hK hD ho
          dsimp only
          go_simp
          have h := HK.out _ _ (Below.refl _ _) hld
          simp only [upd, Nat.reduceEqDiff, reduceIte, e16] at h
          exact h
        | 21, ho =>
          obtain rfl := Option.some.inj ho
          intro vs W K hB hD hK
          have HK := Lib.hid hK
          have e16 : vs 16 = .bool true := dep_of hD 16 (by rfl)
          clear hK hD ho
          dsimp only
          go_simp
          have h := HK.out _ _ (Below.refl _ _) rfl
          simp only [upd, Nat.reduceEqDiff, reduceIte, e16] at h
          exact h
        | 22, ho =>
          obtain rfl := Option.some.inj ho
          intro vs W K hB hD hK
          have HK := Lib.hid hK
          have e16 : vs 16 = .bool true := dep_of hD 16 (by rfl)
          have d20 := dep_of hD 20 (by rfl)
          have e21 : vs 21 = .int .i64 i := dep_of hD 21 (by rfl)
          clear hK hD ho
          dsimp only
          go_simp
          refine (hr_prefix W d20 HI.out rfl).mono ?_
          rintro e W' ⟨v, rfl, hv, hb⟩
          have h := HK.out _ _ hb hv
          simp only [upd, Nat.reduceEqDiff, reduceIte, e16, e21] at h
          exact h
        | 23, ho =>
          obtain rfl := Option.some.inj ho
          intro vs W K hB hD hK
          have HK := Lib.hid hK
          have e16 : vs 16 = .bool true := dep_of hD 16 (by rfl)
          have d19 := dep_of hD 19 (by rfl)
          have d22 := dep_of hD 22 (by rfl)
          clear hK hD ho
          dsimp only
          go_simp
          refine (hd_ints W d19 d22).mono ?_
          rintro e W' ⟨rfl, hb⟩
          have h := HK.out _ _ hb rfl
          simp only [upd, Nat.reduceEqDiff, reduceIte, e16] at h
          exact h
        | 24, ho =>
          obtain rfl := Option.some.inj ho
          intro vs W K hB hD hK
          have HK := Lib.hid hK
          have e16 : vs 16 = .bool true := dep_of hD 16 (by rfl)
          have e23 : vs 23 = .bool true := dep_of hD 23 (by rfl)
          clear hK hD ho
          dsimp only
          go_simp
          have h := HK.out _ _ (Below.refl _ _) rfl
          simp only [upd, Nat.reduceEqDiff, reduceIte, e16, e23] at h
          exact h
        | 25, ho =>
          obtain rfl := Option.some.inj ho
          intro vs W K hB hD hK
          have HK := Lib.hid hK
          have e24 : vs 24 = .bool true := dep_of hD 24 (by rfl)
          clear hK hD ho
          dsimp only
          go_simp
          have h := HK.out _ _ (Below.refl _ _) rfl
          simp only [upd, Nat.reduceEqDiff, reduceIte, e24] at h
          exact h
        | 26, ho =>
          obtain rfl := Option.some.inj ho
          intro vs W K hB hD hK
          have HK := Lib.hid hK
          have e25 : vs 25 = .bool true := dep_of hD 25 (by rfl)
          have hc := hW.trans (((Below.drew (Below.refl _ _)).trans hB).mono hW.size)
          obtain ⟨k0, k1, hld⟩ := HA.out W hc
          clear hK hD ho
          dsimp only
          go_simp
          have h := HK.out _ _ (Below.refl _ _) hld
          simp only [upd, Nat.reduceEqDiff, reduceIte, e25] at h
          exact h
        | 27, ho =>
          obtain rfl := Option.some.inj ho
          intro vs W K hB hD hK
          have HK := Lib.hid hK
          have e25 : vs 25 = .bool true := dep_of hD 25 (by rfl)
          have d26 := dep_of hD 26 (by rfl)
          clear hK hD ho
          dsimp only
          go_simp
          refine (hd_normal W d26 rfl).mono ?_
          rintro e W' ⟨v, rfl, hv, hb⟩
          have h := HK.out _ _ hb hv
          simp only [upd, Nat.reduceEqDiff, reduceIte, e25] at h
          exact h
        | 28, ho =>
          obtain rfl := Option.some.inj ho
          intro vs W K hB hD hK
          have HK := Lib.hid hK
          have e25 : vs 25 = .bool true := dep_of hD 25 (by rfl)
          have hc := hW.trans (((Below.drew (Below.refl _ _)).trans hB).mono hW.size)
          obtain ⟨k0, k1, hld⟩ := HA.out W hc
          clear hK hD ho
          dsimp only
          go_simp
          have h := HK.out _ _ (Below.refl _ _) hld
          simp only [upd, Nat.reduceEqDiff, reduceIte, e25] at h
          exact h
        | 29, ho =>
          obtain rfl := Option.some.inj ho
          intro vs W K hB hD hK
          have HK := Lib.hid hK
          have e25 : vs 25 = .bool true := dep_of hD 25 (by rfl)
          have d28 := dep_of hD 28 (by rfl)
          clear hK hD ho
          dsimp only
          go_simp
          refine (hr_normal W d28 rfl).mono ?_
          rintro e W' ⟨v, rfl, hv, hb⟩
          have h := HK.out _ _ hb hv
          simp only [upd, Nat.reduceEqDiff, reduceIte, e25] at h
          exact h
        | 30, ho =>
          obtain rfl := Option.some.inj ho
          intro vs W K hB hD hK
          have HK := Lib.hid hK
          have e25 : vs 25 = .bool true := dep_of hD 25 (by rfl)
          have d27 := dep_of hD 27 (by rfl)
          have d29 := dep_of hD 29 (by rfl)
          clear hK hD ho
          dsimp only
          go_simp
          refine (hd_eq W d27 d29).mono ?_
          rintro e W' ⟨rfl, hb⟩
          have h := HK.out _ _ hb rfl
          simp only [upd, Nat.reduceEqDiff, reduceIte, e25] at h
          exact h
        | 31, ho =>
          obtain rfl := Option.some.inj ho
          intro vs W K hB hD hK
          have HK := Lib.hid hK
          have e25 : vs 25 = .bool true := dep_of hD 25 (by rfl)
          have e30 : vs 30 = .bool true := dep_of hD 30 (by rfl)
          clear hK hD ho
          dsimp only
          go_simp
          have h := HK.out _ _ (Below.refl _ _) rfl
          simp only [upd, Nat.reduceEqDiff, reduceIte, e25, e30] at h
          exact h
        | 32, ho =>
          obtain rfl := Option.some.inj ho
          intro vs W K hB hD hK
          have HK := Lib.hid hK
          have e31 : vs 31 = .bool true := dep_of hD 31 (by rfl)
          clear hK hD ho
          dsimp only
          go_simp
          have h := HK.out _ _ (Below.refl _ _) rfl
          simp only [upd, Nat.reduceEqDiff, reduceIte, e31] at h
          exact h
        | 33, ho =>
          obtain rfl := Option.some.inj ho
          intro vs W K hB hD hK
          have HK := Lib.hid hK
          have e32 : vs 32 = .bool true := dep_of hD 32 (by rfl)
          have hc := hW.trans (((Below.drew (Below.refl _ _)).trans hB).mono hW.size)
          obtain ⟨k0, k1, hld⟩ := HA.out W hc
          clear hK hD ho
          dsimp only
          go_simp
          have h := HK.out _ _ (Below.refl _ _) hld
          simp only [upd, Nat.reduceEqDiff, reduceIte, e32] at h
          exact h
        | 34, ho =>
          obtain rfl := Option.some.inj ho
          intro vs W K hB hD hK
          have HK := Lib.hid hK
          have e32 : vs 32 = .bool true := dep_of hD 32 (by rfl)
          have hc := hW.trans (((Below.drew (Below.refl _ _)).trans hB).mono hW.size)
          obtain ⟨k0, k1, hld⟩ := HB.out W hc
          clear hK hD ho
          dsimp only
          go_simp
          have h := HK.out _ _ (Below.refl _ _) hld
          simp only [upd, Nat.reduceEqDiff, reduceIte, e32] at h
          exact h
        | 35, ho =>
          obtain rfl := Option.some.inj ho
          intro vs W K hB hD hK
          have HK := Lib.hid hK
          have e32 : vs 32 = .bool true := dep_of hD 32 (by rfl)
          have d33 := dep_of hD 33 (by rfl)
          have d34 := dep_of hD 34 (by rfl)
          clear hK hD ho
          dsimp only
          go_simp
          refine (hd_same W d33 d34 rfl).mono ?_
          rintro e W' ⟨rfl, hb⟩
          have h := HK.out _ _ hb rfl
          simp only [upd, Nat.reduceEqDiff, reduceIte, e32] at h
          exact h
        | 36, ho =>
          obtain rfl := Option.some.inj ho
          intro vs W K hB hD hK
          have HK := Lib.hid hK
          have e32 : vs 32 = .bool true := dep_of hD 32 (by rfl)
          have hc := hW.trans (((Below.drew (Below.refl _ _)).trans hB).mono hW.size)
          obtain ⟨k0, k1, hld⟩ := HA.out W hc
          clear hK hD ho
          dsimp only
          go_simp
          have h := HK.out _ _ (Below.refl _ _) hld
          simp only [upd, Nat.reduceEqDiff, reduceIte, e32] at h
          exact h
        | 37, ho =>
          obtain rfl := Option.some.inj ho
          intro vs W K hB hD hK
          have HK := Lib.hid hK
          have e32 : vs 32 = .bool true := dep_of hD 32 (by rfl)
          have hc := hW.trans (((Below.drew (Below.refl _ _)).trans hB).mono hW.size)
          obtain ⟨k0, k1, hld⟩ := HB.out W hc
          clear hK hD ho
          dsimp only
          go_simp
          have h := HK.out _ _ (Below.refl _ _) hld
          simp only [upd, Nat.reduceEqDiff, reduceIte, e32] at h
          exact h
        | 38, ho =>
          obtain rfl := Option.some.inj ho
          intro vs W K hB hD hK
          have HK := Lib.hid hK
          have e32 : vs 32 = .bool true := dep_of hD 32 (by rfl)
          have d36 := dep_of hD 36 (by rfl)
          have d37 := dep_of hD 37 (by rfl)
          clear hK hD ho
          dsimp only
          go_simp
          refine (hr_same W d36 d37 rfl).mono ?_
          rintro e W' ⟨rfl, hb⟩
          have h := HK.out _ _ hb rfl
          simp only [upd, Nat.reduceEqDiff, reduceIte, e32] at h
          exact h
        | 39, ho =>
          obtain rfl := Option.some.inj ho
          intro vs W K hB hD hK
          have HK := Lib.hid hK
          have e32 : vs 32 = .bool true := dep_of hD 32 (by rfl)
          have e35 : vs 35 = .bool (sameI a b) := dep_of hD 35 (by rfl)
          have e38 : vs 38 = .bool (sameI a b) := dep_of hD 38 (by rfl)
          clear hK hD ho
          dsimp only
          go_simp
          have h := HK.out _ _ (Below.refl _ _) rfl
          simp only [upd, Nat.reduceEqDiff, reduceIte, e32, e35, e38] at h
          exact h
        | 40, ho =>
          obtain rfl := Option.some.inj ho
          intro vs W K hB hD hK
          have HK := Lib.hid hK
          have e32 : vs 32 = .bool true := dep_of hD 32 (by rfl)
          have e39 : vs 39 = .bool true := dep_of hD 39 (by rfl)
          clear hK hD ho
          dsimp only
          go_simp
          have h := HK.out _ _ (Below.refl _ _) rfl
          simp only [upd, Nat.reduceEqDiff, reduceIte, e32, e39] at h
          exact h
        | 41, ho =>
          obtain rfl := Option.some.inj ho
          intro vs W K hB hD hK
          have HK := Lib.hid hK
          have e40 : vs 40 = .bool true := dep_of hD 40 (by rfl)
          clear hK hD ho
          dsimp only
          go_simp
          have h := HK.out _ _ (Below.refl _ _) rfl
          simp only [upd, Nat.reduceEqDiff, reduceIte, e40] at h
          exact h
        | n + 42, ho => simp at ho
      case fin =>
        intro vs W hB hall
        have e : vs 41 = .bool true := hall 41 (by decide)
        have hW2 := hW.trans (((Below.drew (Below.refl _ _)).trans hB).mono hW.size)
        clear hall hB hW
        rw [e]
        clear e
        generalize vs 0 = q0
        generalize vs 1 = q1
        generalize vs 2 = q2
        generalize vs 3 = q3
        generalize vs 4 = q4
        generalize vs 5 = q5
        generalize vs 6 = q6
        generalize vs 7 = q7
        generalize vs 8 = q8
        generalize vs 9 = q9
        generalize vs 10 = q10
        generalize vs 11 = q11
        generalize vs 12 = q12
        generalize vs 13 = q13
        generalize vs 14 = q14
        generalize vs 15 = q15
        generalize vs 16 = q16
        generalize vs 17 = q17
        generalize vs 18 = q18
        generalize vs 19 = q19
        generalize vs 20 = q20
        generalize vs 21 = q21
        generalize vs 22 = q22
        generalize vs 23 = q23
        generalize vs 24 = q24
        generalize vs 25 = q25
        generalize vs 26 = q26
        generalize vs 27 = q27
        generalize vs 28 = q28
        generalize vs 29 = q29
        generalize vs 30 = q30
        generalize vs 31 = q31
        generalize vs 32 = q32
        generalize vs 33 = q33
        generalize vs 34 = q34
        generalize vs 35 = q35
        generalize vs 36 = q36
        generalize vs 37 = q37
        generalize vs 38 = q38
        generalize vs 39 = q39
        generalize vs 40 = q40
        clear vs
        go_upto_region 5 with (fail)
        refine region_stable hmx (RM5 a b i l t al at0 cl ct) (fun vs => { tmps := (_ :: _ :: _ :: _ :: _ :: _ :: _ :: _ :: _ :: _ :: _ :: _ :: vs 33 :: _ :: _ :: _ :: _ :: _ :: _ :: _ :: _ :: _ :: _ :: _ :: _ :: _ :: _ :: _ :: _ :: _ :: _ :: _ :: _ :: _ :: _ :: _ :: _ :: _ :: _ :: _ :: _ :: _ :: _ :: _ :: _ :: _ :: _ :: _ :: _ :: _ :: _ :: _ :: _ :: _ :: _ :: _ :: _ :: _ :: _ :: _ :: _ :: _ :: _ :: _ :: _ :: _ :: _ :: _ :: _ :: _ :: _ :: _ :: _ :: _ :: _ :: _ :: vs 0 :: vs 1 :: vs 2 :: vs 3 :: vs 4 :: vs 5 :: vs 6 :: vs 7 :: vs 8 :: vs 9 :: vs 10 :: vs 11 :: vs 12 :: vs 13 :: vs 14 :: vs 15 :: vs 16 :: vs 17 :: vs 18 :: vs 19 :: vs 20 :: vs 21 :: vs 22 :: vs 23 :: vs 24 :: vs 25 :: vs 26 :: vs 27 :: vs 28 :: vs 29 :: vs 30 :: vs 31 :: vs 32 :: []).toArray, defers := [] }) (fun n => [undef, undef, undef, undef, undef, undef, undef, undef, undef, undef, undef, undef, undef, undef, undef, undef, undef, undef, undef, undef, undef, undef, undef, undef, undef, undef, undef, undef, undef, undef, undef, undef, undef, .bool false].getD n undef) rfl (by kernel_rfl) (RM5.mono a b i l t al at0 cl ct) ?step5 ?fin5
        case step5 =>
          intro ix o ho
          match ix, ho with
          | 0, ho =>
            obtain rfl := Option.some.inj ho
            intro vs W K hB hD hK
            have HK := Lib.hid hK
            clear hK hD ho
            dsimp only
            go_simp
            have h := HK.out _ _ (Below.refl _ _) rfl
            simp only [upd, Nat.reduceEqDiff, reduceIte] at h
            exact h
          | 1, ho =>
            obtain rfl := Option.some.inj ho
            intro vs W K hB hD hK
            have HK := Lib.hid hK
            have e0 : vs 0 = .bool true := dep_of hD 0 (by rfl)
            clear hK hD ho
            dsimp only
            go_simp
            have h := HK.out _ _ (Below.refl _ _) rfl
            simp only [upd, Nat.reduceEqDiff, reduceIte, e0] at h
            exact h
          | 2, ho =>
            obtain rfl := Option.some.inj ho
            intro vs W K hB hD hK
            have HK := Lib.hid hK
            have e1 : vs 1 = .bool true := dep_of hD 1 (by rfl)
            clear hK hD ho
            dsimp only
            go_simp
            have h := HK.out _ _ (Below.refl _ _) rfl
            simp only [upd, Nat.reduceEqDiff, reduceIte, e1] at h
            exact h
          | 3, ho =>
            obtain rfl := Option.some.inj ho
            intro vs W K hB hD hK
            have HK := Lib.hid hK
            have e1 : vs 1 = .bool true := dep_of hD 1 (by rfl)
            have e2 : vs 2 = .bool true := dep_of hD 2 (by rfl)
            clear hK hD ho
            dsimp only
            go_simp
            have h := HK.out _ _ (Below.refl _ _) rfl
            simp only [upd, Nat.reduceEqDiff, reduceIte, e1, e2] at h
            exact h
          | 4, ho =>
            obtain rfl := Option.some.inj ho
            intro vs W K hB hD hK
            have HK := Lib.hid hK
            have e3 : vs 3 = .bool true := dep_of hD 3 (by rfl)
            clear hK hD ho
            dsimp only
            go_simp
            have h := HK.out _ _ (Below.refl _ _) rfl
            simp only [upd, Nat.reduceEqDiff, reduceIte, e3] at h
            exact h
          | 5, ho =>
            obtain rfl := Option.some.inj ho
            intro vs W K hB hD hK
            have HK := Lib.hid hK
            have e4 : vs 4 = .bool true := dep_of hD 4 (by rfl)
            have hc := hW2.trans (((Below.drew (Below.refl _ _)).trans hB).mono hW2.size)
            obtain ⟨k0, k1, hld⟩ := HA.out W hc
            clear hK hD ho
            dsimp only
            go_simp
            have h := HK.out _ _ (Below.refl _ _) hld
            simp only [upd, Nat.reduceEqDiff, reduceIte, e4] at h
            exact h
          | 6, ho =>
            obtain rfl := Option.some.inj ho
            intro vs W K hB hD hK
            have HK := Lib.hid hK
            have e4 : vs 4 = .bool true := dep_of hD 4 (by rfl)
            clear hK hD ho
            dsimp only
            go_simp
            have h := HK.out _ _ (Below.refl _ _) rfl
            simp only [upd, Nat.reduceEqDiff, reduceIte, e4] at h
            exact h
          | 7, ho =>
            obtain rfl := Option.some.inj ho
            intro vs W K hB hD hK
            have HK := Lib.hid hK
            have e4 : vs 4 = .bool true := dep_of hD 4 (by rfl)
            have d5 := dep_of hD 5 (by rfl)
            have e6 : vs 6 = .int .i64 i := dep_of hD 6 (by rfl)
            clear hK hD ho
            dsimp only
            go_simp
            refine (hd_suffix W d5 HI.out rfl).mono ?_
            rintro e W' ⟨v, rfl, hv, hb⟩
            have h := HK.out _ _ hb hv
            simp only [upd, Nat.reduceEqDiff, reduceIte, e4, e6] at h
            exact h
          | 8, ho =>
            obtain rfl := Option.some.inj ho
            intro vs W K hB hD hK
            have HK := Lib.hid hK
            have e4 : vs 4 = .bool true := dep_of hD 4 (by rfl)
            have hc := hW2.trans (((Below.drew (Below.refl _ _)).trans hB).mono hW2.size)
            obtain ⟨k0, k1, hld⟩ := HA.out W hc
            clear hK hD ho
            dsimp only
            go_simp
            have h := HK.out _ _ (Below.refl _ _) hld
            simp only [upd, Nat.reduceEqDiff, reduceIte, e4] at h
            exact h
          | 9, ho =>
            obtain rfl := Option.some.inj ho
            intro vs W K hB hD hK
            have HK := Lib.hid hK
            have e4 : vs 4 = .bool true := dep_of hD 4 (by rfl)
            clear hK hD ho
            dsimp only
            go_simp
            have h := HK.out _ _ (Below.refl _ _) rfl
            simp only [upd, Nat.reduceEqDiff, reduceIte, e4] at h
            exact h
          | 10, ho =>
            obtain rfl := Option.some.inj ho
            intro vs W K hB hD hK
            have HK := Lib.hid hK
            have e4 : vs 4 = .bool true := dep_of hD 4 (by rfl)
            have d8 := dep_of hD 8 (by rfl)
            have e9 : vs 9 = .int .i64 i := dep_of hD 9 (by rfl)
            clear hK hD ho
            dsimp only
            go_simp
            refine (hr_suffix W d8 HI.out rfl).mono ?_
            rintro e W' ⟨v, rfl, hv, hb⟩
            have h := HK.out _ _ hb hv
            simp only [upd, Nat.reduceEqDiff, reduceIte, e4, e9] at h
            exact h
          | 11, ho =>
            obtain rfl := Option.some.inj ho
            intro vs W K hB hD hK
            have HK := Lib.hid hK
            have e4 : vs 4 = .bool true := dep_of hD 4 (by rfl)
            have d7 := dep_of hD 7 (by rfl)
            have d10 := dep_of hD 10 (by rfl)
            clear hK hD ho
            dsimp only
            go_simp
            refine (hd_eq W d7 d10).mono ?_
            rintro e W' ⟨rfl, hb⟩
            have h := HK.out _ _ hb rfl
            simp only [upd, Nat.reduceEqDiff, reduceIte, e4] at h
            exact h
          | 12, ho =>
            obtain rfl := Option.some.inj ho
            intro vs W K hB hD hK
            have HK := Lib.hid hK
            have e4 : vs 4 = .bool true := dep_of hD 4 (by rfl)
            have e11 : vs 11 = .bool true := dep_of hD 11 (by rfl)
            clear hK hD ho
            dsimp only
            go_simp
            have h := HK.out _ _ (Below.refl _ _) rfl
            simp only [upd, Nat.reduceEqDiff, reduceIte, e4, e11] at h
            exact h
          | 13, ho =>
            obtain rfl := Option.some.inj ho
            intro vs W K hB hD hK
            have HK := Lib.hid hK
            have e12 : vs 12 = .bool true := dep_of hD 12 (by rfl)
            clear hK hD ho
            dsimp only
            go_simp
            have h := HK.out _ _ (Below.refl _ _) rfl
            simp only [upd, Nat.reduceEqDiff, reduceIte, e12] at h
            exact h
          | 14, ho =>
            obtain rfl := Option.some.inj ho
            intro vs W K hB hD hK
            have HK := Lib.hid hK
            have e13 : vs 13 = .bool true := dep_of hD 13 (by rfl)
            clear hK hD ho
            dsimp only
            go_simp
            have h := HK.out _ _ (Below.refl _ _) rfl
            simp only [upd, Nat.reduceEqDiff, reduceIte, e13] at h
            exact h
          | 15, ho =>
            obtain rfl := Option.some.inj ho
            intro vs W K hB hD hK
            have HK := Lib.hid hK
            have e13 : vs 13 = .bool true := dep_of hD 13 (by rfl)
            have hc := hW2.trans (((Below.drew (Below.refl _ _)).trans hB).mono hW2.size)
            obtain ⟨k0, k1, hld⟩ := HA.out W hc
            clear hK hD ho
            dsimp only
            go_simp
            have h := HK.out _ _ (Below.refl _ _) hld
            simp only [upd, Nat.reduceEqDiff, reduceIte, e13] at h
            exact h
          | 16, ho =>
            obtain rfl := Option.some.inj ho
            intro vs W K hB hD hK
            have HK := Lib.hid hK
            have e13 : vs 13 = .bool true := dep_of hD 13 (by rfl)
            have e14 : vs 14 = .slice al l.length cl := dep_of hD 14 (by rfl)
            have d15 := dep_of hD 15 (by rfl)
            have hc := hW2.trans (((Below.drew (Below.refl _ _)).trans hB).mono hW2.size)
            clear hK hD ho
            dsimp only
            go_simp
            refine (hd_push W (HSL.out W hc) d15 (by omega) rfl).mono ?_
            rintro e W' ⟨v, rfl, hv, hb⟩
            have h := HK.out _ _ hb hv
            simp only [upd, Nat.reduceEqDiff, reduceIte, e13, e14] at h
            exact h
          | 17, ho =>
            obtain rfl := Option.some.inj ho
            intro vs W K hB hD hK
            have HK := Lib.hid hK
            have e13 : vs 13 = .bool true := dep_of hD 13 (by rfl)
            clear hK hD ho
            dsimp only
            go_simp
            have h := HK.out _ _ (Below.refl _ _) rfl
            simp only [upd, Nat.reduceEqDiff, reduceIte, e13] at h
            exact h
          | 18, ho =>
            obtain rfl := Option.some.inj ho
            intro vs W K hB hD hK
            have HK := Lib.hid hK
            have e13 : vs 13 = .bool true := dep_of hD 13 (by rfl)
            have hc := hW2.trans (((Below.drew (Below.refl _ _)).trans hB).mono hW2.size)
            obtain ⟨k0, k1, hld⟩ := HA.out W hc
            clear hK hD ho
            dsimp only
            go_simp
            have h := HK.out _ _ (Below.refl _ _) hld
            simp only [upd, Nat.reduceEqDiff, reduceIte, e13] at h
            exact h
          | 19, ho =>
            obtain rfl := Option.some.inj ho
            intro vs W K hB hD hK
            have HK := Lib.hid hK
            have e13 : vs 13 = .bool true := dep_of hD 13 (by rfl)
            have e17 : vs 17 = .slice al l.length cl := dep_of hD 17 (by rfl)
            have d18 := dep_of hD 18 (by rfl)
            have hc := hW2.trans (((Below.drew (Below.refl _ _)).trans hB).mono hW2.size)
            clear hK hD ho
            dsimp only
            go_simp
            refine (hr_push W (HSL.out W hc) d18 (by omega) rfl).mono ?_
            rintro e W' ⟨v, rfl, hv, hb⟩
            have h := HK.out _ _ hb hv
            simp only [upd, Nat.reduceEqDiff, reduceIte, e13, e17] at h
            exact h
          | 20, ho =>
            obtain rfl := Option.some.inj ho
            intro vs W K hB hD hK
            have HK := Lib.hid hK
            have e13 : vs 13 = .bool true := dep_of hD 13 (by rfl)
            have d16 := dep_of hD 16 (by rfl)
            have d19 := dep_of hD 19 (by rfl)
            clear hK hD ho
            dsimp only
            go_simp
            refine (hd_eq W d16 d19).mono ?_
            rintro e W' ⟨rfl, hb⟩
            have h := HK.out _ _ hb rfl
            simp only [upd, Nat.reduceEqDiff, reduceIte, e13] at h
            exact h
          | 21, ho =>
            obtain rfl := Option.some.inj ho
            intro vs W K hB hD hK
            have HK := Lib.hid hK
            have e13 : vs 13 = .bool true := dep_of hD 13 (by rfl)
            have e20 : vs 20 = .bool true := dep_of hD 20 (by rfl)
            clear hK hD ho
            dsimp only
            go_simp
            have h := HK.out _ _ (Below.refl _ _) rfl
            simp only [upd, Nat.reduceEqDiff, reduceIte, e13, e20] at h
            exact h
          | 22, ho =>
            obtain rfl := Option.some.inj ho
            intro vs W K hB hD hK
            have HK := Lib.hid hK
            have e21 : vs 21 = .bool true := dep_of hD 21 (by rfl)
            clear hK hD ho
            dsimp only
            go_simp
            have h := HK.out _ _ (Below.refl _ _) rfl
            simp only [upd, Nat.reduceEqDiff, reduceIte, e21] at h
            exact h
          | 23, ho =>
            obtain rfl := Option.some.inj ho
            intro vs W K hB hD hK
            have HK := Lib.hid hK
            have e22 : vs 22 = .bool true := dep_of hD 22 (by rfl)
            have hc := hW2.trans (((Below.drew (Below.refl _ _)).trans hB).mono hW2.size)
            obtain ⟨k0, k1, hld⟩ := HA.out W hc
            clear hK hD ho
            dsimp only
            go_simp
            have h := HK.out _ _ (Below.refl _ _) hld
            simp only [upd, Nat.reduceEqDiff, reduceIte, e22] at h
            exact h
          | 24, ho =>
            obtain rfl := Option.some.inj ho
            intro vs W K hB hD hK
            have HK := Lib.hid hK
            have e22 : vs 22 = .bool true := dep_of hD 22 (by rfl)
            have hc := hW2.trans (((Below.drew (Below.refl _ _)).trans hB).mono hW2.size)
            obtain ⟨k0, k1, hld⟩ := HB.out W hc
            clear hK hD ho
            dsimp only
            go_simp
            have h := HK.out _ _ (Below.refl _ _) hld
            simp only [upd, Nat.reduceEqDiff, reduceIte, e22] at h
            exact h
          | 25, ho =>
            obtain rfl := Option.some.inj ho
            intro vs W K hB hD hK
            have HK := Lib.hid hK
            have e22 : vs 22 = .bool true := dep_of hD 22 (by rfl)
            clear hK hD ho
            dsimp only
            go_simp
            have h := HK.out _ _ (Below.refl _ _) rfl
            simp only [upd, Nat.reduceEqDiff, reduceIte, e22] at h
            exact h
          | 26, ho =>
            obtain rfl := Option.some.inj ho
            intro vs W K hB hD hK
            have HK := Lib.hid hK
            have e22 : vs 22 = .bool true := dep_of hD 22 (by rfl)
            have d23 := dep_of hD 23 (by rfl)
            have d24 := dep_of hD 24 (by rfl)
            have e25 : vs 25 = .slice at0 t.length ct := dep_of hD 25 (by rfl)
            have hc := hW2.trans (((Below.drew (Below.refl _ _)).trans hB).mono hW2.size)
            clear hK hD ho
            dsimp only
            go_simp
            refine (hg_zip W d23 d24 (HRT.out W hc) rfl).mono ?_
            rintro e W' ⟨v, rfl, hv, hb⟩
            have h := HK.out _ _ hb hv
            simp only [upd, Nat.reduceEqDiff, reduceIte, e22, e25] at h
            exact h
          | 27, ho =>
            obtain rfl := Option.some.inj ho
            intro vs W K hB hD hK
            have HK := Lib.hid hK
            have e22 : vs 22 = .bool true := dep_of hD 22 (by rfl)
            have hc := hW2.trans (((Below.drew (Below.refl _ _)).trans hB).mono hW2.size)
            obtain ⟨k0, k1, hld⟩ := HA.out W hc
            clear hK hD ho
            dsimp only
            go_simp
            have h := HK.out _ _ (Below.refl _ _) hld
            simp only [upd, Nat.reduceEqDiff, reduceIte, e22] at h
            exact h
          | 28, ho =>
            obtain rfl := Option.some.inj ho
            intro vs W K hB hD hK
            have HK := Lib.hid hK
            have e22 : vs 22 = .bool true := dep_of hD 22 (by rfl)
            have hc := hW2.trans (((Below.drew (Below.refl _ _)).trans hB).mono hW2.size)
            obtain ⟨k0, k1, hld⟩ := HB.out W hc
            clear hK hD ho
            dsimp only
            go_simp
            have h := HK.out _ _ (Below.refl _ _) hld
            simp only [upd, Nat.reduceEqDiff, reduceIte, e22] at h
            exact h
          | 29, ho =>
            obtain rfl := Option.some.inj ho
            intro vs W K hB hD hK
            have HK := Lib.hid hK
            have e22 : vs 22 = .bool true := dep_of hD 22 (by rfl)
            clear hK hD ho
            dsimp only
            go_simp
            have h := HK.out _ _ (Below.refl _ _) rfl
            simp only [upd, Nat.reduceEqDiff, reduceIte, e22] at h
            exact h
          | 30, ho =>
            obtain rfl := Option.some.inj ho
            intro vs W K hB hD hK
            have HK := Lib.hid hK
            have e22 : vs 22 = .bool true := dep_of hD 22 (by rfl)
            have d27 := dep_of hD 27 (by rfl)
            have d28 := dep_of hD 28 (by rfl)
            have e29 : vs 29 = .slice at0 t.length ct := dep_of hD 29 (by rfl)
            have hc := hW2.trans (((Below.drew (Below.refl _ _)).trans hB).mono hW2.size)
            clear hK hD ho
            dsimp only
            go_simp
            refine (hr_zip W d27 d28 (HRT.out W hc) rfl).mono ?_
            rintro e W' ⟨v, rfl, hv, hb⟩
            have h := HK.out _ _ hb hv
            simp only [upd, Nat.reduceEqDiff, reduceIte, e22, e29] at h
            exact h
          | 31, ho =>
            obtain rfl := Option.some.inj ho
            intro vs W K hB hD hK
            have HK := Lib.hid hK
            have e22 : vs 22 = .bool true := dep_of hD 22 (by rfl)
            have d26 := dep_of hD 26 (by rfl)
            have d30 := dep_of hD 30 (by rfl)
            clear hK hD ho
            dsimp only
            go_simp
            refine (hd_eq W d26 d30).mono ?_
            rintro e W' ⟨rfl, hb⟩
            have h := HK.out _ _ hb rfl
            simp only [upd, Nat.reduceEqDiff, reduceIte, e22] at h
            exact h
          | 32, ho =>
            obtain rfl := Option.some.inj ho
            intro vs W K hB hD hK
            have HK := Lib.hid hK
            have e22 : vs 22 = .bool true := dep_of hD 22 (by rfl)
            have e31 : vs 31 = .bool true := dep_of hD 31 (by rfl)
            clear hK hD ho
            dsimp only
            go_simp
            have h := HK.out _ _ (Below.refl _ _) rfl
            simp only [upd, Nat.reduceEqDiff, reduceIte, e22, e31] at h
            exact h
          | 33, ho =>
            obtain rfl := Option.some.inj ho
            intro vs W K hB hD hK
            have HK := Lib.hid hK
            have e32 : vs 32 = .bool true := dep_of hD 32 (by rfl)
            clear hK hD ho
            dsimp only
            go_simp
            have h := HK.out _ _ (Below.refl _ _) rfl
            simp only [upd, Nat.reduceEqDiff, reduceIte, e32] at h
            exact h
          | n + 34, ho => simp at ho
        case fin5 =>
          intro vs W3 hB hall
          have e : vs 33 = .bool true := hall 33 (by decide)
          have hF := HB0.out.trans ((hW2.trans (((Below.drew (Below.refl _ _)).trans hB).mono hW2.size)).mono HB0.out.size)
          clear hall hB hW2
          rw [e]
          clear e
          generalize vs 0 = r0
          generalize vs 1 = r1
          generalize vs 2 = r2
          generalize vs 3 = r3
          generalize vs 4 = r4
          generalize vs 5 = r5
          generalize vs 6 = r6
          generalize vs 7 = r7
          generalize vs 8 = r8
          generalize vs 9 = r9
          generalize vs 10 = r10
          generalize vs 11 = r11
          generalize vs 12 = r12
          generalize vs 13 = r13
          generalize vs 14 = r14
          generalize vs 15 = r15
          generalize vs 16 = r16
          generalize vs 17 = r17
          generalize vs 18 = r18
          generalize vs 19 = r19
          generalize vs 20 = r20
          generalize vs 21 = r21
          generalize vs 22 = r22
          generalize vs 23 = r23
          generalize vs 24 = r24
          generalize vs 25 = r25
          generalize vs 26 = r26
          generalize vs 27 = r27
          generalize vs 28 = r28
          generalize vs 29 = r29
          generalize vs 30 = r30
          generalize vs 31 = r31
          generalize vs 32 = r32
          clear vs
          go_wp2
          go_ret
          exact ⟨ret_bool rfl, hF⟩

theorem Match_w (w : World) (va vb vl vt : Value) (a b : Ls) (lt i : Int) (l : List Int) (t : List (List Int)) (ha : IsLs w va a) (hb : IsLs w vb b) (hi : I64 i) (hl : IsInts w vl l) (ht : IsRows w vt t) :
    Calls Try.prog 3 #[va, vb, .int .i64 lt, .int .i64 i, vl, vt] w (Calm (.bool true) w) := Match_c w va vb vl vt a b lt i l t ha hb hl ht hi

end Go.Proofs.Ytgjpdnaeldpdeaa
