/- The walk of WordPrefix. -/
import Derived.Test.YtgjpdnaeldpdeaaWd45
namespace Go.Proofs.Ytgjpdnaeldpdeaa
open Go.RowKit

theorem prefixI_form {a : Ls} (h : formB a = true) {n : Nat} (hn : n ≤ 500) : prefixI a n = prefixL a n := by
  unfold prefixI
  by_cases h0 : n = 0
  · subst h0; rw [if_neg (by omega)]; rfl
  · rw [if_pos ⟨by omega, by omega, h⟩]; simp
theorem prefix_len {a : Ls} (h : formB a = true) {n : Nat} (hn : n ≤ 500) : (prefixI a n).length = n := by
  rw [prefixI_form h hn]; simp [prefixL]
theorem prefix_get {a : Ls} (h : formB a = true) {n : Nat} (hn : n ≤ 500) (k : Nat) (hk : k < n) : (prefixI a n).getD k 0 = atI a k := by
  rw [prefixI_form h hn, atI_form h]; simp [prefixL, List.getD, hk]
theorem prefix_neg {a : Ls} {n : Int} (h : n < 0) : prefixI a n = [] := by unfold prefixI; rw [if_neg (by omega)]
theorem prefix_big {a : Ls} {n : Int} (h : 500 < n) : prefixI a n = [] := by unfold prefixI; rw [if_neg (by omega)]
theorem prefix_bad {a : Ls} {n : Int} (h : formB a = false) : prefixI a n = [] := by unfold prefixI; rw [if_neg (by rw [h]; simp)]

/-- What the operations of a drawn statement leave. -/
def RPf (a : Ls) (n k bp op y0 : Nat) (ix : Nat) (v : Value) (W : World) : Prop :=
  match ix with
  | 0 => v = .slice (some ⟨bp, op, none⟩) n y0
  | 1 => v = .int .i64 (k : Int)
  | 2 => v = .pointer (some ⟨bp, op + k, none⟩)
  | 3 => v = .int .i64 (atI a (k : Int))
  | 4 => LV (a) v W
  | 5 => v = .int .i64 (k : Int)
  | 6 => v = .int .i64 (atI a (k : Int))
  | 7 => v = .bool false
  | _ => True
theorem RPf.mono (a : Ls) (n k bp op y0 : Nat) (ix : Nat) (v : Value) (W W' : World) (h : RPf a n k bp op y0 ix v W) (hb : Below W.heap.size W W') : RPf a n k bp op y0 ix v W' := by
  unfold RPf at *
  split at h <;> first | exact h | exact SL.below h hb | exact LV.below h hb | exact RV.below h hb

/-- What the operations of a drawn statement leave. -/
def RPg (a : Ls) (n : Nat) (x0 : Option Addr) (y0 : Nat) (ix : Nat) (v : Value) (W : World) : Prop :=
  match ix with
  | 0 => v = .bool true
  | 1 => v = .bool true
  | 2 => v = .slice x0 n y0
  | 3 => LV (a) v W
  | 4 => v = .int .i64 (n : Int)
  | 5 => LV (suffixI a n) v W
  | 6 => LV (normL a) v W
  | 7 => LV (a) v W
  | 8 => LV (normL a) v W
  | 9 => v = .bool true
  | 10 => v = .bool true
  | 11 => v = .bool true
  | _ => True
theorem RPg.mono (a : Ls) (n : Nat) (x0 : Option Addr) (y0 : Nat) (ix : Nat) (v : Value) (W W' : World) (h : RPg a n x0 y0 ix v W) (hb : Below W.heap.size W W') : RPg a n x0 y0 ix v W' := by
  unfold RPg at *
  split at h <;> first | exact h | exact SL.below h hb | exact LV.below h hb | exact RV.below h hb

set_option maxRecDepth 100000 in
set_option maxHeartbeats 8000000 in
theorem Prefix_w (w : World) (va : Value) (a : Ls) (n : Int) (ha : IsLs w va a) (hn : I64 n) :
    Calls Try.prog 7 #[va, .int .i64 n] w (Calm (.bool true) w) := by
  have hmx : Try.prog.follows .mixedOrders = true := by kernel_rfl
  have HI := Lib.hid hn
  obtain ⟨v0, v1, rfl, h0, h1⟩ := ha
  obtain ⟨b0, hB⟩ := boxOne (IsLs.mk h0 h1)
  have HA := Lib.hid b0
  obtain ⟨⟨a0, c0, -, -, rfl, -⟩, -⟩ := h0
  obtain ⟨⟨a1, c1, -, -, rfl, -⟩, -⟩ := h1
  have HB0 := Lib.hid hB
  go_enter Try.func7, Try.ntmps7
  go_upto_region 1 with (fail)
  generalize (w.alloc (Obj.cells #[Value.slice a0 a.stem.length c0, Value.slice a1 a.loop.length c1] 24)) = w2 at *
  clear b0 hB hn
  go_wp2_with fail
  refine (head_c w2).mono ?_
  rintro e w3 ⟨rfl, hW⟩
  obtain ⟨k0, k1, hld⟩ := HA.out w3 hW
  go_wp2_with fail
  cases hfa : formB a with
  | false =>
    refine (hd_prefix w3 hld (prefix_bad hfa)).mono ?_
    rintro e w4 ⟨v, rfl, ⟨x0, y0, rfl, -⟩, hb4⟩
    replace hW := hW.trans (hb4.mono hW.size)
    clear hb4 hld k0 k1
    obtain ⟨k0, k1, hld⟩ := HA.out w4 hW
    simp only [List.length_nil]
    go_wp2_with fail
    refine (hr_formed w4 hld hfa).mono ?_
    rintro e w5 ⟨rfl, hb4⟩
    have hF := HB0.out.trans ((hW.trans (hb4.mono hW.size)).mono HB0.out.size)
    clear hb4 hld k0 k1
    go_wp2
    go_ret
    exact ⟨ret_bool rfl, hF⟩
  | true =>
    by_cases h1 : n < 0
    case pos =>
      refine (hd_prefix w3 hld (prefix_neg h1)).mono ?_
      rintro e w4 ⟨v, rfl, ⟨x0, y0, rfl, -⟩, hb4⟩
      replace hW := hW.trans (hb4.mono hW.size)
      clear hb4 hld k0 k1
      obtain ⟨k0, k1, hld⟩ := HA.out w4 hW
      simp only [List.length_nil]
      go_wp2_with fail
      refine (hr_formed w4 hld hfa).mono ?_
      rintro e w5 ⟨rfl, hb4⟩
      have hF := HB0.out.trans ((hW.trans (hb4.mono hW.size)).mono HB0.out.size)
      clear hb4 hld k0 k1
      go_wp2
      go_ret
      exact ⟨ret_bool rfl, hF⟩
    by_cases h2 : 500 < n
    case pos =>
      refine (hd_prefix w3 hld (prefix_big h2)).mono ?_
      rintro e w4 ⟨v, rfl, ⟨x0, y0, rfl, -⟩, hb4⟩
      replace hW := hW.trans (hb4.mono hW.size)
      clear hb4 hld k0 k1
      obtain ⟨k0, k1, hld⟩ := HA.out w4 hW
      simp only [List.length_nil]
      go_wp2_with fail
      refine (hr_formed w4 hld hfa).mono ?_
      rintro e w5 ⟨rfl, hb4⟩
      have hF := HB0.out.trans ((hW.trans (hb4.mono hW.size)).mono HB0.out.size)
      clear hb4 hld k0 k1
      go_wp2
      go_ret
      exact ⟨ret_bool rfl, hF⟩
    obtain ⟨n, rfl⟩ : ∃ k : Nat, n = k := ⟨n.toNat, by omega⟩
    have hn5 : n ≤ 500 := by omega
    refine (hd_prefix w3 hld rfl).mono ?_
    rintro e w4 ⟨v, rfl, ⟨x0, y0, rfl, hp⟩, hb4⟩
    replace hW := hW.trans (hb4.mono hW.size)
    clear hb4 hld k0 k1
    have hlen := prefix_len hfa hn5
    rw [hlen] at hp ⊢
    obtain ⟨k0, k1, hld⟩ := HA.out w4 hW
    go_wp2_with fail
    refine (hr_formed w4 hld hfa).mono ?_
    rintro e w5 ⟨rfl, hb5⟩
    have hp5 := hp.below hb5
    replace hW := hW.trans (hb5.mono hW.size)
    have hgt := prefix_get hfa hn5
    have HPush : Hid (pushI (prefixI a n) (suffixI a n) = normL a) := push_prefix_all hfa (by omega) (by omega)
    have HNorm := Lib.hid (normalI_form hfa)
    have HLen := Lib.hid hlen
    have HA5 := Lib.hid (HA.out.below hW)
    have HB5 := Lib.hid (HB0.out.trans (hW.mono HB0.out.size))
    clear hb5 hld k0 k1 hW hp HA HB0
    have HP : Hid (∀ W, Below w5.heap.size w5 W → SL (prefixI a n) (.slice x0 n y0) W) := fun W hW => ⟨x0, y0, by rw [hlen], by rw [hlen]; exact hp5.below hW⟩
    obtain ⟨⟨xo, yo, bp, op, hv, g⟩, -⟩ := hp5
    rw [hlen] at hv g
    obtain ⟨rfl, rfl⟩ : x0 = xo ∧ y0 = yo := by simpa using hv
    have HAd := Lib.hid g.ad
    have HC : Hid (∀ W, Below w5.heap.size w5 W → ∀ k, k < n → W.cell? ⟨bp, op + k, none⟩ = some (.int .i64 (atI a k))) := fun W hW k hk => by
      have := g.el k hk
      unfold ivF at this
      rw [hgt k hk] at this
      exact cellB hW this
    clear g hv hlen hgt hfa
    go_upto_region 8 with (fail)
    go_loopg [7] n (fun gh i wr => ∃ k : Nat, gh = n - k ∧ i = .int .i64 k ∧ k ≤ n ∧ Below w5.heap.size w5 wr)
    case atStart => exact ⟨0, by omega, rfl, by omega, Below.refl _ _⟩
    case round =>
      obtain ⟨k, rfl, rfl, hk, hW⟩ := hrel
      by_cases hlt : k < n
      · have hki : (k : Int) < n := by omega
        have HIk := Lib.hid (show I64 (k : Int) by unfold I64; omega)
        obtain rfl := HAd.out (by omega)
        go_upto_region 10 with (fail)
        refine region_stable hmx (RPf a n k bp op y0) (fun vs => { tmps := (_ :: _ :: _ :: _ :: _ :: _ :: _ :: _ :: _ :: _ :: _ :: _ :: _ :: _ :: _ :: _ :: _ :: _ :: _ :: _ :: _ :: _ :: _ :: _ :: _ :: _ :: _ :: _ :: _ :: _ :: _ :: _ :: _ :: _ :: _ :: _ :: _ :: _ :: vs 0 :: vs 1 :: vs 2 :: vs 3 :: vs 4 :: vs 5 :: vs 6 :: vs 7 :: _ :: _ :: _ :: _ :: _ :: _ :: _ :: _ :: _ :: _ :: _ :: []).toArray, defers := [] }) (fun n => [u38, u39, u40, u41, u42, u43, u44, u45].getD n undef) rfl (by kernel_rfl) (RPf.mono a n k bp op y0) ?step8 ?fin8
        case step8 =>
          intro ix o ho
          match ix, ho with
          | 0, ho =>
            obtain rfl := Option.some.inj ho
            intro vs W K hB hD hK
            have HK := Lib.hid hK
            clear hK hD ho
            dsimp only
            go_simp
            have h := HK.out _ _ (Below.refl _ _) rfl
            simp only [upd, Nat.reduceEqDiff, reduceIte] at h
            exact h
          | 1, ho =>
            obtain rfl := Option.some.inj ho
            intro vs W K hB hD hK
            have HK := Lib.hid hK
            clear hK hD ho
            dsimp only
            go_simp
            have h := HK.out _ _ (Below.refl _ _) rfl
            simp only [upd, Nat.reduceEqDiff, reduceIte] at h
            exact h
          | 2, ho =>
            obtain rfl := Option.some.inj ho
            intro vs W K hB hD hK
            have HK := Lib.hid hK
            have e0 : vs 0 = .slice (some ⟨bp, op, none⟩) n y0 := dep_of hD 0 (by rfl)
            have e1 : vs 1 = .int .i64 (k : Int) := dep_of hD 1 (by rfl)
            clear hK hD ho
            dsimp only
            go_simp
            have h := HK.out _ _ (Below.refl _ _) rfl
            simp only [upd, Nat.reduceEqDiff, reduceIte, e0, e1] at h
            exact h
          | 3, ho =>
            obtain rfl := Option.some.inj ho
            intro vs W K hB hD hK
            have HK := Lib.hid hK
            have e2 : vs 2 = .pointer (some ⟨bp, op + k, none⟩) := dep_of hD 2 (by rfl)
            have hc := hW.trans (((Below.drew (Below.refl _ _)).trans hB).mono hW.size)
            have hld := HC.out W hc k hlt
            clear hK hD ho
            dsimp only
            go_simp
            have h := HK.out _ _ (Below.refl _ _) rfl
            simp only [upd, Nat.reduceEqDiff, reduceIte, e2] at h
            exact h
          | 4, ho =>
            obtain rfl := Option.some.inj ho
            intro vs W K hB hD hK
            have HK := Lib.hid hK
            have hc := hW.trans (((Below.drew (Below.refl _ _)).trans hB).mono hW.size)
            obtain ⟨k0, k1, hld⟩ := HA5.out W hc
            clear hK hD ho
            dsimp only
            go_simp
            have h := HK.out _ _ (Below.refl _ _) hld
            simp only [upd, Nat.reduceEqDiff, reduceIte] at h
            exact h
          | 5, ho =>
            obtain rfl := Option.some.inj ho
            intro vs W K hB hD hK
            have HK := Lib.hid hK
            clear hK hD ho
            dsimp only
            go_simp
            have h := HK.out _ _ (Below.refl _ _) rfl
            simp only [upd, Nat.reduceEqDiff, reduceIte] at h
            exact h
          | 6, ho =>
            obtain rfl := Option.some.inj ho
            intro vs W K hB hD hK
            have HK := Lib.hid hK
            have d4 := dep_of hD 4 (by rfl)
            have e5 : vs 5 = .int .i64 (k : Int) := dep_of hD 5 (by rfl)
            clear hK hD ho
            dsimp only
            go_simp
            refine (hd_at W d4 HIk.out rfl).mono ?_
            rintro e W' ⟨rfl, hb⟩
            have h := HK.out _ _ hb rfl
            simp only [upd, Nat.reduceEqDiff, reduceIte, e5] at h
            exact h
          | 7, ho =>
            obtain rfl := Option.some.inj ho
            intro vs W K hB hD hK
            have HK := Lib.hid hK
            have e3 : vs 3 = .int .i64 (atI a (k : Int)) := dep_of hD 3 (by rfl)
            have e6 : vs 6 = .int .i64 (atI a (k : Int)) := dep_of hD 6 (by rfl)
            clear hK hD ho
            dsimp only
            go_simp
            have h := HK.out _ _ (Below.refl _ _) rfl
            simp only [upd, Nat.reduceEqDiff, reduceIte, e3, e6] at h
            exact h
          | n + 8, ho => simp at ho
        case fin8 =>
          intro vs W3 hB hall
          have e : vs 7 = .bool false := hall 7 (by decide)
          have hW7 := hW.trans (((Below.drew (Below.refl _ _)).trans hB).mono hW.size)
          clear hall hB hW
          rw [e]
          clear e
          generalize vs 0 = q0
          generalize vs 1 = q1
          generalize vs 2 = q2
          generalize vs 3 = q3
          generalize vs 4 = q4
          generalize vs 5 = q5
          generalize vs 6 = q6
          clear vs
          go_wp2
          go_roundg (n - (k + 1))
          case rel => exact ⟨k + 1, rfl, by go_num, by omega, hW7⟩
          case measure => omega
      · obtain rfl : n = k := by omega
        go_upto_region 12 with (fail)
        refine region_stable hmx (RPg a n x0 y0) (fun vs => { tmps := (_ :: _ :: _ :: _ :: vs 11 :: _ :: _ :: _ :: _ :: _ :: _ :: _ :: _ :: _ :: _ :: _ :: _ :: _ :: _ :: _ :: _ :: _ :: _ :: _ :: _ :: _ :: _ :: _ :: _ :: _ :: _ :: _ :: _ :: _ :: _ :: _ :: _ :: _ :: _ :: _ :: _ :: _ :: _ :: _ :: _ :: _ :: vs 0 :: vs 1 :: vs 2 :: vs 3 :: vs 4 :: vs 5 :: vs 6 :: vs 7 :: vs 8 :: vs 9 :: vs 10 :: []).toArray, defers := [] }) (fun n => [undef, undef, undef, undef, undef, undef, undef, undef, undef, undef, undef, u4].getD n undef) rfl (by kernel_rfl) (RPg.mono a n x0 y0) ?step ?fin
        case step =>
          intro ix o ho
          match ix, ho with
          | 0, ho =>
            obtain rfl := Option.some.inj ho
            intro vs W K hB hD hK
            have HK := Lib.hid hK
            clear hK hD ho
            dsimp only
            go_simp
            have h := HK.out _ _ (Below.refl _ _) rfl
            simp only [upd, Nat.reduceEqDiff, reduceIte] at h
            exact h
          | 1, ho =>
            obtain rfl := Option.some.inj ho
            intro vs W K hB hD hK
            have HK := Lib.hid hK
            have e0 : vs 0 = .bool true := dep_of hD 0 (by rfl)
            clear hK hD ho
            dsimp only
            go_simp
            have h := HK.out _ _ (Below.refl _ _) rfl
            simp only [upd, Nat.reduceEqDiff, reduceIte, e0] at h
            exact h
          | 2, ho =>
            obtain rfl := Option.some.inj ho
            intro vs W K hB hD hK
            have HK := Lib.hid hK
            have e1 : vs 1 = .bool true := dep_of hD 1 (by rfl)
            clear hK hD ho
            dsimp only
            go_simp
            have h := HK.out _ _ (Below.refl _ _) rfl
            simp only [upd, Nat.reduceEqDiff, reduceIte, e1] at h
            exact h
          | 3, ho =>
            obtain rfl := Option.some.inj ho
            intro vs W K hB hD hK
            have HK := Lib.hid hK
            have e1 : vs 1 = .bool true := dep_of hD 1 (by rfl)
            have hc := hW.trans (((Below.drew (Below.refl _ _)).trans hB).mono hW.size)
            obtain ⟨k0, k1, hld⟩ := HA5.out W hc
            clear hK hD ho
            dsimp only
            go_simp
            have h := HK.out _ _ (Below.refl _ _) hld
            simp only [upd, Nat.reduceEqDiff, reduceIte, e1] at h
            exact h
          | 4, ho =>
            obtain rfl := Option.some.inj ho
            intro vs W K hB hD hK
            have HK := Lib.hid hK
            have e1 : vs 1 = .bool true := dep_of hD 1 (by rfl)
            clear hK hD ho
            dsimp only
            go_simp
            have h := HK.out _ _ (Below.refl _ _) rfl
            simp only [upd, Nat.reduceEqDiff, reduceIte, e1] at h
            exact h
          | 5, ho =>
            obtain rfl := Option.some.inj ho
            intro vs W K hB hD hK
            have HK := Lib.hid hK
            have e1 : vs 1 = .bool true := dep_of hD 1 (by rfl)
            have d3 := dep_of hD 3 (by rfl)
            have e4 : vs 4 = .int .i64 (n : Int) := dep_of hD 4 (by rfl)
            clear hK hD ho
            dsimp only
            go_simp
            refine (hd_suffix W d3 HI.out rfl).mono ?_
            rintro e W' ⟨v, rfl, hv, hb⟩
            have h := HK.out _ _ hb hv
            simp only [upd, Nat.reduceEqDiff, reduceIte, e1, e4] at h
            exact h
          | 6, ho =>
            obtain rfl := Option.some.inj ho
            intro vs W K hB hD hK
            have HK := Lib.hid hK
            have e1 : vs 1 = .bool true := dep_of hD 1 (by rfl)
            have e2 : vs 2 = .slice x0 n y0 := dep_of hD 2 (by rfl)
            have d5 := dep_of hD 5 (by rfl)
            have hc := hW.trans (((Below.drew (Below.refl _ _)).trans hB).mono hW.size)
            clear hK hD ho
            dsimp only
            go_simp
            refine (hd_push W (HP.out W hc) d5 (by rw [HLen.out]; omega) HPush.out).mono ?_
            rintro e W' ⟨v, rfl, hv, hb⟩
            have h := HK.out _ _ hb hv
            simp only [upd, Nat.reduceEqDiff, reduceIte, e1, e2] at h
            exact h
          | 7, ho =>
            obtain rfl := Option.some.inj ho
            intro vs W K hB hD hK
            have HK := Lib.hid hK
            have e1 : vs 1 = .bool true := dep_of hD 1 (by rfl)
            have hc := hW.trans (((Below.drew (Below.refl _ _)).trans hB).mono hW.size)
            obtain ⟨k0, k1, hld⟩ := HA5.out W hc
            clear hK hD ho
            dsimp only
            go_simp
            have h := HK.out _ _ (Below.refl _ _) hld
            simp only [upd, Nat.reduceEqDiff, reduceIte, e1] at h
            exact h
          | 8, ho =>
            obtain rfl := Option.some.inj ho
            intro vs W K hB hD hK
            have HK := Lib.hid hK
            have e1 : vs 1 = .bool true := dep_of hD 1 (by rfl)
            have d7 := dep_of hD 7 (by rfl)
            clear hK hD ho
            dsimp only
            go_simp
            refine (hd_normal W d7 HNorm.out).mono ?_
            rintro e W' ⟨v, rfl, hv, hb⟩
            have h := HK.out _ _ hb hv
            simp only [upd, Nat.reduceEqDiff, reduceIte, e1] at h
            exact h
          | 9, ho =>
            obtain rfl := Option.some.inj ho
            intro vs W K hB hD hK
            have HK := Lib.hid hK
            have e1 : vs 1 = .bool true := dep_of hD 1 (by rfl)
            have d6 := dep_of hD 6 (by rfl)
            have d8 := dep_of hD 8 (by rfl)
            clear hK hD ho
            dsimp only
            go_simp
            refine (hd_eq W d6 d8).mono ?_
            rintro e W' ⟨rfl, hb⟩
            have h := HK.out _ _ hb rfl
            simp only [upd, Nat.reduceEqDiff, reduceIte, e1] at h
            exact h
          | 10, ho =>
            obtain rfl := Option.some.inj ho
            intro vs W K hB hD hK
            have HK := Lib.hid hK
            have e1 : vs 1 = .bool true := dep_of hD 1 (by rfl)
            have e9 : vs 9 = .bool true := dep_of hD 9 (by rfl)
            clear hK hD ho
            dsimp only
            go_simp
            have h := HK.out _ _ (Below.refl _ _) rfl
            simp only [upd, Nat.reduceEqDiff, reduceIte, e1, e9] at h
            exact h
          | 11, ho =>
            obtain rfl := Option.some.inj ho
            intro vs W K hB hD hK
            have HK := Lib.hid hK
            have e10 : vs 10 = .bool true := dep_of hD 10 (by rfl)
            clear hK hD ho
            dsimp only
            go_simp
            have h := HK.out _ _ (Below.refl _ _) rfl
            simp only [upd, Nat.reduceEqDiff, reduceIte, e10] at h
            exact h
          | n + 12, ho => simp at ho
        case fin =>
          intro vs W3 hB hall
          have e : vs 11 = .bool true := hall 11 (by decide)
          have hF := HB5.out.trans ((hW.trans (((Below.drew (Below.refl _ _)).trans hB).mono hW.size)).mono HB5.out.size)
          clear hall hB hW
          rw [e]
          clear e
          generalize vs 0 = q0
          generalize vs 1 = q1
          generalize vs 2 = q2
          generalize vs 3 = q3
          generalize vs 4 = q4
          generalize vs 5 = q5
          generalize vs 6 = q6
          generalize vs 7 = q7
          generalize vs 8 = q8
          generalize vs 9 = q9
          generalize vs 10 = q10
          clear vs
          go_wp2
          go_ret
          exact ⟨ret_bool rfl, hF⟩

end Go.Proofs.Ytgjpdnaeldpdeaa
